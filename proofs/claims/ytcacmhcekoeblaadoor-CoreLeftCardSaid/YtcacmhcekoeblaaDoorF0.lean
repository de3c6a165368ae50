/- What the functions compute, and that calls of them answer so (printed by gen.py). Conditions: HW, a table as it was laid. -/
import Derived.Test.YtcacmhcekoeblaaDoorA17
import Derived.Test.YtcacmhcekoeblaaDoorProg
namespace Go.Proofs.YtcacmhcekoeblaaDoor.F
open Go.RowKit Go.Proofs.YtcacmhcekoeblaaDoorA
set_option linter.unusedVariables false
set_option maxRecDepth 100000
abbrev Λ := List Int
abbrev Ω := Option
abbrev T0 := Int→Ω (Int)
abbrev T1 := Λ→Ω (Int)
abbrev T2 := Int→Int→Int→Ω (Int × Int)
abbrev T3 := Λ→Ω (Λ × Int)
abbrev T4 := Λ→Ω (Bool)
abbrev T5 := Int→Int→Ω (Int × Int)
abbrev T6 := Int→Ω (Bool × Int × Int × Int)
abbrev T7 := Λ→Λ→Ω (Int)
abbrev T8 := Bool→Ω (Int)
abbrev T9 := Λ→Λ→Ω (Λ × Int)
abbrev T10 := Int→Int→Ω (Int)
abbrev T11 := Bool→Λ→Int→Bool→Ω (Int × Int)
abbrev T12 := Int→Int→Int→Ω (Int)
abbrev T13 := Λ→Int→Int→Int→Ω (Λ × Unit)
abbrev T14 := Λ→Int→Ω (Λ × Int)
abbrev T15 := Bool→Int→Int→Int→Bool→Int→Int→Int→Int→Ω (Int × Bool)
abbrev T16 := Λ→Int→Ω (Λ × Bool × Int)
abbrev T17 := Bool→Bool→Bool→Bool→Int→Λ→Λ→Int→Ω ((Bool × Bool × Bool × Bool × Int × Λ × Λ) × Unit)
abbrev T18 := Bool→Int→Ω (Int)
abbrev T19 := Λ→Ω (Λ)
abbrev T20 := Int→Int→Int→Int→Int→Int→Int→Int→Int→Ω (Int × Int)
abbrev T21 := Λ→Λ→Ω (Λ × Λ × Int)
abbrev T22 := Λ→Int→Int→Ω (Λ × Int)
abbrev T23 := Λ→Int→Ω (Int)
abbrev T24 := Int→Ω (Λ)
abbrev T25 := Bool→Bool→Bool→Bool→Int→Ω ((Bool × Bool × Bool × Bool) × Bool)
abbrev T26 := Λ→Int→Int→Ω (Λ)
abbrev T27 := Λ→Λ→Int→Ω (Λ × Bool)
abbrev T28 := Λ→Λ→Ω (Λ × Bool)
abbrev T29 := Int→Int→Ω (Int × Bool)
abbrev T30 := Ω (Bool × Bool × Bool × Bool × Int × Λ × Λ)
abbrev T31 := Bool→Bool→Bool→Bool→Int→Λ→Λ→Int→Int→Ω ((Bool × Bool × Bool × Bool × Int × Λ × Λ) × Unit)
abbrev T32 := Bool→Bool→Bool→Bool→Int→Λ→Λ→Ω (Int)
abbrev T33 := Λ→Λ→Ω (Int × Int)
abbrev T34 := Λ→Ω (Int × Bool)
abbrev T35 := Ω (Int × Int)
abbrev T36 := Bool→Int→Int→Int→Ω (Bool × Λ × Int)
abbrev T37 := Λ→Int→Λ→Int→Ω (Λ × Λ × Int)
abbrev T38 := Bool→Λ→Int→Bool→Λ→Int→Ω (Bool × Λ × Int)
abbrev T39 := Bool→Λ→Int→Ω (Int × Int)
abbrev T40 := Int→Int→Int→Λ→Λ→Ω (Λ × Unit)
abbrev T41 := Λ→Int→Int→Λ→Int→Λ→Ω (Λ × Int)
abbrev T42 := Λ→Λ→Int→Int→Λ→Ω (Λ × Int)
abbrev T43 := Bool→Λ→Λ→Int→Ω (Int × Int)
abbrev T44 := Λ→Int→Bool→Ω (Int)
abbrev T45 := Int→Ω (Int × Bool)
abbrev T46 := Λ→Λ→Int→Int→Int→Λ→Ω (Λ × Int)
abbrev T47 := Bool→Λ→Λ→Int→Int→Ω (Int)
abbrev T48 := Bool→Bool→Bool→Bool→Ω (Int × Bool)
abbrev T49 := Bool→Bool→Bool→Bool→Int→Λ→Λ→Ω (Bool × Λ)
abbrev T50 := Λ→Int→Ω (Λ × Bool)
abbrev T51 := Λ→Int→Ω (Λ × Int × Int)
abbrev T52 := Int→Int→Int→Λ→Λ→Λ→Ω (Λ × Λ)
abbrev T53 := Λ→Λ→Ω (Λ × Λ)
abbrev T54 := Bool→Λ→Int→Λ→Λ→Ω (Int × Int)
abbrev T55 := Bool→Bool→Bool→Bool→Int→Λ→Λ→Int→Ω (Int)
abbrev T56 := Int→Int→Int→Int→Int→Int→Int→Int→Ω (Int × Int)
abbrev T57 := Int→Int→Int→Int→Int→Int→Ω (Int × Int)
abbrev T58 := Int→Int→Λ→Int→Int→Λ→Ω (Λ × Int)
abbrev T59 := Λ→Bool→Int→Int→Int→Int→Λ→Ω (Λ × Bool × Int)
abbrev T60 := Λ→Int→Λ→Ω (Λ × Int)
abbrev T61 := Λ→Int→Int→Int→Int→Λ→Int→Int→Λ→Ω (Λ × Int)
abbrev T62 := Int→Bool→Bool→Bool→Bool→Int→Λ→Λ→Ω ((Bool × Bool × Bool × Bool × Int × Λ × Λ) × Unit)
abbrev T63 := Λ→Int→Int→Int→Λ→Ω (Λ × Int × Int)
abbrev T64 := Int→Int→Λ→Int→Int→Λ→Ω (Λ)
abbrev T65 := Λ→Int→Int→Int→Int→Int→Λ→Ω (Λ × Bool)
abbrev T66 := Λ→Int→Int→Int→Λ→Ω (Λ × Bool)
abbrev T67 := Int→Int→Int→Int→Int→Bool→Λ→Λ→Λ→Ω (Λ × Λ)
abbrev T68 := Λ→Int→Int→Int→Int→Λ→Ω (Λ × Int)
abbrev T69 := Λ→Λ→Int→Int→Bool→Bool→Bool→Bool→Int→Λ→Λ→Ω (Int × Int)
/-- The table of math/bits.TrailingZeros64 stands as it was laid. -/
def HW : World → Prop := fun w => ∀ j, j < 64 → w.cell? ⟨0, j, none⟩ = some (.int .u8 ((Lib.deBruijn64tab.getD j 0 : Nat) : Int))
theorem hwS : ∀ w w' : World, Below w.heap.size w w' → HW w → HW w' := fun w w' hb h j hj => by
  have h1 := h j hj
  rw [← h1]
  exact hb.cell (Nat.lt_of_not_le fun hn => by simp [World.cell?, Array.getElem?_eq_none hn] at h1)
def tys : List (Nat × TI) := [(2, ⟨.int .i64, 1, 8, [.int .i64 0], false⟩),
  (3, ⟨.int .i64, 1, 8, [.int .i64 0], false⟩),
  (4, ⟨.bool, 1, 1, [.bool false], false⟩),
  (22, ⟨.int .u64, 1, 8, [.int .u64 0], false⟩),
  (25, ⟨.int .u64, 1, 8, [.int .u64 0], false⟩),
  (29, ⟨.slice 22, 1, 24, [.nil], false⟩),
  (37, ⟨.ptr 65, 1, 8, [.nilp], false⟩),
  (46, ⟨.struct [(0, 1, false), (1, 1, false), (2, 1, false), (3, 1, false)], 4, 32, [.bool false, .int .i64 0, .int .u64 0, .int .i64 0], true⟩),
  (61, ⟨.struct [(0, 1, false), (1, 1, false), (2, 1, false), (3, 1, false)], 4, 4, [.bool false, .bool false, .bool false, .bool false], true⟩),
  (63, ⟨.array 72 22, 72, 576, [.int .u64 0, .int .u64 0, .int .u64 0, .int .u64 0, .int .u64 0, .int .u64 0, .int .u64 0, .int .u64 0, .int .u64 0, .int .u64 0, .int .u64 0, .int .u64 0, .int .u64 0, .int .u64 0, .int .u64 0, .int .u64 0, .int .u64 0, .int .u64 0, .int .u64 0, .int .u64 0, .int .u64 0, .int .u64 0, .int .u64 0, .int .u64 0, .int .u64 0, .int .u64 0, .int .u64 0, .int .u64 0, .int .u64 0, .int .u64 0, .int .u64 0, .int .u64 0, .int .u64 0, .int .u64 0, .int .u64 0, .int .u64 0, .int .u64 0, .int .u64 0, .int .u64 0, .int .u64 0, .int .u64 0, .int .u64 0, .int .u64 0, .int .u64 0, .int .u64 0, .int .u64 0, .int .u64 0, .int .u64 0, .int .u64 0, .int .u64 0, .int .u64 0, .int .u64 0, .int .u64 0, .int .u64 0, .int .u64 0, .int .u64 0, .int .u64 0, .int .u64 0, .int .u64 0, .int .u64 0, .int .u64 0, .int .u64 0, .int .u64 0, .int .u64 0, .int .u64 0, .int .u64 0, .int .u64 0, .int .u64 0, .int .u64 0, .int .u64 0, .int .u64 0, .int .u64 0], false⟩),
  (65, ⟨.struct [(0, 4, true), (4, 1, false), (5, 72, true), (77, 72, true)], 149, 1168, [.bool false, .bool false, .bool false, .bool false, .int .i64 0, .int .u64 0, .int .u64 0, .int .u64 0, .int .u64 0, .int .u64 0, .int .u64 0, .int .u64 0, .int .u64 0, .int .u64 0, .int .u64 0, .int .u64 0, .int .u64 0, .int .u64 0, .int .u64 0, .int .u64 0, .int .u64 0, .int .u64 0, .int .u64 0, .int .u64 0, .int .u64 0, .int .u64 0, .int .u64 0, .int .u64 0, .int .u64 0, .int .u64 0, .int .u64 0, .int .u64 0, .int .u64 0, .int .u64 0, .int .u64 0, .int .u64 0, .int .u64 0, .int .u64 0, .int .u64 0, .int .u64 0, .int .u64 0, .int .u64 0, .int .u64 0, .int .u64 0, .int .u64 0, .int .u64 0, .int .u64 0, .int .u64 0, .int .u64 0, .int .u64 0, .int .u64 0, .int .u64 0, .int .u64 0, .int .u64 0, .int .u64 0, .int .u64 0, .int .u64 0, .int .u64 0, .int .u64 0, .int .u64 0, .int .u64 0, .int .u64 0, .int .u64 0, .int .u64 0, .int .u64 0, .int .u64 0, .int .u64 0, .int .u64 0, .int .u64 0, .int .u64 0, .int .u64 0, .int .u64 0, .int .u64 0, .int .u64 0, .int .u64 0, .int .u64 0, .int .u64 0, .int .u64 0, .int .u64 0, .int .u64 0, .int .u64 0, .int .u64 0, .int .u64 0, .int .u64 0, .int .u64 0, .int .u64 0, .int .u64 0, .int .u64 0, .int .u64 0, .int .u64 0, .int .u64 0, .int .u64 0, .int .u64 0, .int .u64 0, .int .u64 0, .int .u64 0, .int .u64 0, .int .u64 0, .int .u64 0, .int .u64 0, .int .u64 0, .int .u64 0, .int .u64 0, .int .u64 0, .int .u64 0, .int .u64 0, .int .u64 0, .int .u64 0, .int .u64 0, .int .u64 0, .int .u64 0, .int .u64 0, .int .u64 0, .int .u64 0, .int .u64 0, .int .u64 0, .int .u64 0, .int .u64 0, .int .u64 0, .int .u64 0, .int .u64 0, .int .u64 0, .int .u64 0, .int .u64 0, .int .u64 0, .int .u64 0, .int .u64 0, .int .u64 0, .int .u64 0, .int .u64 0, .int .u64 0, .int .u64 0, .int .u64 0, .int .u64 0, .int .u64 0, .int .u64 0, .int .u64 0, .int .u64 0, .int .u64 0, .int .u64 0, .int .u64 0, .int .u64 0, .int .u64 0, .int .u64 0, .int .u64 0, .int .u64 0, .int .u64 0, .int .u64 0, .int .u64 0], false⟩),
  (77, ⟨.struct [(0, 1, false), (1, 1, false), (2, 1, false)], 3, 40, [.bool false, .nil, .int .i64 0], false⟩),
  (89, ⟨.array 3 22, 3, 24, [.int .u64 0, .int .u64 0, .int .u64 0], false⟩),
  (100, ⟨.struct [(0, 1, false), (1, 1, false), (2, 1, false), (3, 1, false)], 4, 64, [.bool false, .nil, .nil, .int .i64 0], false⟩)]
theorem tys_ok : TOK Tryd.prog tys := tok_of (by kernel_rfl)
def lays : List (Nat × Lay) := [(65, [none, none, none, none, none, some (.u64, 72), some (.u64, 72)]), (89, [some (.u64, 3)])]
/-! ### ieee_Abs: function 13 -/
namespace ieee_Abs
noncomputable def b0 (a0 : Int) : Ω (Int) := some (Go.bits .andNot .u64 a0 9223372036854775808)
noncomputable def f (a0 : Int) : Ω (Int) := b0 a0
noncomputable def sg : Sig (Int) := s1 (sInt .u64)
noncomputable def code : Code := (Tryd.f13.body).getD .skip
noncomputable def cfg : Cfg (Int) := { T := tys, call := noCall, lay := lays }
noncomputable def cuts : List (Nat × List (Nat × Want)) := []
theorem e0 {n J a0} : afun cfg J cuts n code Tryd.f13.results.toList [false] [.int .u64 a0] sg.out = b0 a0 := by kernel_rfl
theorem ok {a0 r} (h : f a0 = some r) : CallD Tryd.prog HW 13 [.int .u64 a0] (sg.enc r) :=
  fun_some hwS Tryd.func13 (by kernel_rfl) (body := code) (by kernel_rfl) tys_ok (c := cfg) ⟨noCall_ok, noQ_ok'⟩ ⟨noW_ok, noP_ok'⟩ (by kernel_rfl) (by kernel_rfl) (Nat.le_of_ble_eq_true (by kernel_rfl)) (Eq.trans ((e0 (n := 0))) h)
noncomputable def call {α : Type} (g : T0) (ds : List D) (K : List D→Ω α) : Ω α := match ds with
  | [.int .u64 a0] => (g a0).bind fun r => K (sg.enc r)
  | _ => none
theorem call_ok {α : Type} : COK Tryd.prog HW 13 (call (α := α) f) := fun _ _ _ h => by
  unfold call at h; split at h
  · exact cok h fun _ => ok
  · cases h
end ieee_Abs
/-! ### ieee_Class: function 11 -/
namespace ieee_Class
noncomputable def b0 (c13 : T0) (a0 : Int) : Ω (Int) := ((c13 a0).bind fun t1 => (if t1 = 0 then some 0 else (if t1 < 4503599627370496 then some 1 else (if t1 < 9218868437227405312 then some 2 else (if t1 = 9218868437227405312 then some 3 else some 4)))))
noncomputable def f (a0 : Int) : Ω (Int) := b0 ieee_Abs.f a0
noncomputable def sg : Sig (Int) := s1 (sInt .i64)
noncomputable def code : Code := (Tryd.f11.body).getD .skip
noncomputable def cfg (c13 : T0) : Cfg (Int) := { T := tys, call := orCall 13 (ieee_Abs.call c13) (noCall), lay := lays }
noncomputable def cuts : List (Nat × List (Nat × Want)) := []
theorem e0 {c13 n J a0} : afun (cfg c13) J cuts n code Tryd.f11.results.toList [false] [.int .u64 a0] sg.out = b0 c13 a0 := by kernel_rfl
theorem ok {a0 r} (h : f a0 = some r) : CallD Tryd.prog HW 11 [.int .u64 a0] (sg.enc r) :=
  fun_some hwS Tryd.func11 (by kernel_rfl) (body := code) (by kernel_rfl) tys_ok (c := cfg ieee_Abs.f) ⟨(orCall_ok ieee_Abs.call_ok noCall_ok), noQ_ok'⟩ ⟨noW_ok, noP_ok'⟩ (by kernel_rfl) (by kernel_rfl) (Nat.le_of_ble_eq_true (by kernel_rfl)) (Eq.trans ((e0 (n := 0))) h)
noncomputable def call {α : Type} (g : T0) (ds : List D) (K : List D→Ω α) : Ω α := match ds with
  | [.int .u64 a0] => (g a0).bind fun r => K (sg.enc r)
  | _ => none
theorem call_ok {α : Type} : COK Tryd.prog HW 11 (call (α := α) f) := fun _ _ _ h => by
  unfold call at h; split at h
  · exact cok h fun _ => ok
  · cases h
end ieee_Class
/-! ### ieee_Decode: function 23 -/
namespace ieee_Decode
noncomputable def b0 (c11 : T0) (a0 : Int) : Ω (Bool × Int × Int × Int) := ((c11 a0).bind fun t1 => (if t1 = 1 then some (decide (¬ (Go.bits .and .u64 a0 9223372036854775808) = 0), t1, Go.bits .and .u64 a0 4503599627370495, (-1074)) else (if t1 = 2 then some (decide (¬ (Go.bits .and .u64 a0 9223372036854775808) = 0), t1, Go.bits .or .u64 4503599627370496 (Go.bits .and .u64 a0 4503599627370495), wrap64 ((wrap64 (Go.bits .and .u64 (a0 / 4503599627370496) 2047)) - 1075)) else (if t1 = 4 then some (decide (¬ (Go.bits .and .u64 a0 9223372036854775808) = 0), t1, Go.bits .and .u64 a0 4503599627370495, 0) else some (decide (¬ (Go.bits .and .u64 a0 9223372036854775808) = 0), t1, 0, 0)))))
noncomputable def f (a0 : Int) : Ω (Bool × Int × Int × Int) := b0 ieee_Class.f a0
noncomputable def sg : Sig (Bool × Int × Int × Int) := s1 (sAgg (s2 (sBool) (s2 (sInt .i64) (s2 (sInt .u64) (s1 (sInt .i64))))))
noncomputable def code : Code := (Tryd.f23.body).getD .skip
noncomputable def cfg (c11 : T0) : Cfg (Bool × Int × Int × Int) := { T := tys, call := orCall 11 (ieee_Class.call c11) (noCall), lay := lays }
noncomputable def cuts : List (Nat × List (Nat × Want)) := []
theorem e0 {c11 n J a0} : afun (cfg c11) J cuts n code Tryd.f23.results.toList [false] [.int .u64 a0] sg.out = b0 c11 a0 := by kernel_rfl
theorem ok {a0 r} (h : f a0 = some r) : CallD Tryd.prog HW 23 [.int .u64 a0] (sg.enc r) :=
  fun_some hwS Tryd.func23 (by kernel_rfl) (body := code) (by kernel_rfl) tys_ok (c := cfg ieee_Class.f) ⟨(orCall_ok ieee_Class.call_ok noCall_ok), noQ_ok'⟩ ⟨noW_ok, noP_ok'⟩ (by kernel_rfl) (by kernel_rfl) (Nat.le_of_ble_eq_true (by kernel_rfl)) (Eq.trans ((e0 (n := 0))) h)
noncomputable def call {α : Type} (g : T6) (ds : List D) (K : List D→Ω α) : Ω α := match ds with
  | [.int .u64 a0] => (g a0).bind fun r => K (sg.enc r)
  | _ => none
theorem call_ok {α : Type} : COK Tryd.prog HW 23 (call (α := α) f) := fun _ _ _ h => by
  unfold call at h; split at h
  · exact cok h fun _ => ok
  · cases h
end ieee_Decode
/-! ### remain_special: function 24 -/
namespace remain_special
noncomputable def b0 (a0 : Bool) (a1 a2 a3 : Int) (a4 : Bool) (a5 a6 a7 a8 : Int) : Ω (Int × Bool) := (if a1 = 4 then some (9221120237041090560, true) else (if a5 = 4 then some (9221120237041090560, true) else (if a1 = 3 then some (9221120237041090560, true) else (if a5 = 0 then some (9221120237041090560, true) else (if a5 = 3 then some (a8, true) else (if a1 = 0 then some (a8, true) else some (0, false)))))))
noncomputable def f (a0 : Bool) (a1 a2 a3 : Int) (a4 : Bool) (a5 a6 a7 a8 : Int) : Ω (Int × Bool) := b0 a0 a1 a2 a3 a4 a5 a6 a7 a8
noncomputable def sg : Sig (Int × Bool) := s2 (sInt .u64) (s1 (sBool))
noncomputable def code : Code := (Tryd.f24.body).getD .skip
noncomputable def cfg : Cfg (Int × Bool) := { T := tys, call := noCall, lay := lays }
noncomputable def cuts : List (Nat × List (Nat × Want)) := []
theorem e0 {n J a0 a1 a2 a3 a4 a5 a6 a7 a8} : afun cfg J cuts n code Tryd.f24.results.toList [false, false] [.agg [.bool a0, .int .i64 a1, .int .u64 a2, .int .i64 a3], .agg [.bool a4, .int .i64 a5, .int .u64 a6, .int .i64 a7], .int .u64 a8] sg.out = b0 a0 a1 a2 a3 a4 a5 a6 a7 a8 := by kernel_rfl
theorem ok {a0 a1 a2 a3 a4 a5 a6 a7 a8 r} (h : f a0 a1 a2 a3 a4 a5 a6 a7 a8 = some r) : CallD Tryd.prog HW 24 [.agg [.bool a0, .int .i64 a1, .int .u64 a2, .int .i64 a3], .agg [.bool a4, .int .i64 a5, .int .u64 a6, .int .i64 a7], .int .u64 a8] (sg.enc r) :=
  fun_some hwS Tryd.func24 (by kernel_rfl) (body := code) (by kernel_rfl) tys_ok (c := cfg) ⟨noCall_ok, noQ_ok'⟩ ⟨noW_ok, noP_ok'⟩ (by kernel_rfl) (by kernel_rfl) (Nat.le_of_ble_eq_true (by kernel_rfl)) (Eq.trans ((e0 (n := 0))) h)
noncomputable def call {α : Type} (g : T15) (ds : List D) (K : List D→Ω α) : Ω α := match ds with
  | [.agg [.bool a0, .int .i64 a1, .int .u64 a2, .int .i64 a3], .agg [.bool a4, .int .i64 a5, .int .u64 a6, .int .i64 a7], .int .u64 a8] => (g a0 a1 a2 a3 a4 a5 a6 a7 a8).bind fun r => K (sg.enc r)
  | _ => none
theorem call_ok {α : Type} : COK Tryd.prog HW 24 (call (α := α) f) := fun _ _ _ h => by
  unfold call at h; split at h
  · exact cok h fun _ => ok
  · cases h
end remain_special
/-! ### bits_Mul64: function 39 -/
namespace bits_Mul64
noncomputable def b0 (a0 a1 : Int) : Ω (Int × Int) := some (IntKind.u64.wrap ((IntKind.u64.wrap ((IntKind.u64.wrap ((a0 / 4294967296) * (a1 / 4294967296))) + ((IntKind.u64.wrap ((IntKind.u64.wrap ((a0 / 4294967296) * (Go.bits .and .u64 a1 4294967295))) + ((IntKind.u64.wrap ((Go.bits .and .u64 a0 4294967295) * (Go.bits .and .u64 a1 4294967295))) / 4294967296))) / 4294967296))) + ((IntKind.u64.wrap ((Go.bits .and .u64 (IntKind.u64.wrap ((IntKind.u64.wrap ((a0 / 4294967296) * (Go.bits .and .u64 a1 4294967295))) + ((IntKind.u64.wrap ((Go.bits .and .u64 a0 4294967295) * (Go.bits .and .u64 a1 4294967295))) / 4294967296))) 4294967295) + (IntKind.u64.wrap ((Go.bits .and .u64 a0 4294967295) * (a1 / 4294967296))))) / 4294967296)), IntKind.u64.wrap (a0 * a1))
noncomputable def f (a0 a1 : Int) : Ω (Int × Int) := b0 a0 a1
noncomputable def sg : Sig (Int × Int) := s2 (sInt .u64) (s1 (sInt .u64))
noncomputable def code : Code := (Tryd.f39.body).getD .skip
noncomputable def cfg : Cfg (Int × Int) := { T := tys, call := noCall, lay := lays }
noncomputable def cuts : List (Nat × List (Nat × Want)) := []
theorem e0 {n J a0 a1} : afun cfg J cuts n code Tryd.f39.results.toList [false, false] [.int .u64 a0, .int .u64 a1] sg.out = b0 a0 a1 := by kernel_rfl
theorem ok {a0 a1 r} (h : f a0 a1 = some r) : CallD Tryd.prog HW 39 [.int .u64 a0, .int .u64 a1] (sg.enc r) :=
  fun_some hwS Tryd.func39 (by kernel_rfl) (body := code) (by kernel_rfl) tys_ok (c := cfg) ⟨noCall_ok, noQ_ok'⟩ ⟨noW_ok, noP_ok'⟩ (by kernel_rfl) (by kernel_rfl) (Nat.le_of_ble_eq_true (by kernel_rfl)) (Eq.trans ((e0 (n := 0))) h)
noncomputable def call {α : Type} (g : T5) (ds : List D) (K : List D→Ω α) : Ω α := match ds with
  | [.int .u64 a0, .int .u64 a1] => (g a0 a1).bind fun r => K (sg.enc r)
  | _ => none
theorem call_ok {α : Type} : COK Tryd.prog HW 39 (call (α := α) f) := fun _ _ _ h => by
  unfold call at h; split at h
  · exact cok h fun _ => ok
  · cases h
end bits_Mul64
/-! ### bits_Len64: function 26 -/
namespace bits_Len64
def f (a0 : Int) : Ω (Int) := if 0 ≤ a0 ∧ a0 ≤ 18446744073709551615 then some (Lib.bitLen a0.toNat : Nat) else none
def sg : Sig (Int) := s1 (sInt .i64)
theorem ok {a0 : Int} {r : Int} (h : f a0 = some r) : CallD Tryd.prog HW 26 [.int .u64 a0] (sg.enc r) := by
  unfold f at h
  split at h
  · rename_i hh
    obtain rfl := Option.some.inj h
    refine calld_scal rfl rfl fun w _ => .inl ⟨_, Tryd.func26, by kernel_rfl, by kernel_rfl, (Go.Proofs.YtcacmhcekoeblaaDoorG.len64 a0 w hh.1 hh.2).mono ?_⟩
    rintro e w' ⟨rfl, rfl⟩
    exact ⟨_, rfl, rfl, rfl⟩
  · cases h
noncomputable def call {α : Type} (g : T0) (ds : List D) (K : List D→Ω α) : Ω α := match ds with
  | [.int .u64 a0] => (g a0).bind fun r => K (sg.enc r)
  | _ => none
theorem call_ok {α : Type} : COK Tryd.prog HW 26 (call (α := α) f) := fun _ _ _ h => by
  unfold call at h; split at h
  · exact cok h fun _ => ok
  · cases h
end bits_Len64
/-! ### bits_LeadingZeros64: function 75 -/
namespace bits_LeadingZeros64
noncomputable def b0 (c26 : T0) (a0 : Int) : Ω (Int) := ((c26 a0).bind fun t1 => some (wrap64 (64 - t1)))
noncomputable def f (a0 : Int) : Ω (Int) := b0 bits_Len64.f a0
noncomputable def sg : Sig (Int) := s1 (sInt .i64)
noncomputable def code : Code := (Tryd.f75.body).getD .skip
noncomputable def cfg (c26 : T0) : Cfg (Int) := { T := tys, call := orCall 26 (bits_Len64.call c26) (noCall), lay := lays }
noncomputable def cuts : List (Nat × List (Nat × Want)) := []
theorem e0 {c26 n J a0} : afun (cfg c26) J cuts n code Tryd.f75.results.toList [false] [.int .u64 a0] sg.out = b0 c26 a0 := by kernel_rfl
theorem ok {a0 r} (h : f a0 = some r) : CallD Tryd.prog HW 75 [.int .u64 a0] (sg.enc r) :=
  fun_some hwS Tryd.func75 (by kernel_rfl) (body := code) (by kernel_rfl) tys_ok (c := cfg bits_Len64.f) ⟨(orCall_ok bits_Len64.call_ok noCall_ok), noQ_ok'⟩ ⟨noW_ok, noP_ok'⟩ (by kernel_rfl) (by kernel_rfl) (Nat.le_of_ble_eq_true (by kernel_rfl)) (Eq.trans ((e0 (n := 0))) h)
noncomputable def call {α : Type} (g : T0) (ds : List D) (K : List D→Ω α) : Ω α := match ds with
  | [.int .u64 a0] => (g a0).bind fun r => K (sg.enc r)
  | _ => none
theorem call_ok {α : Type} : COK Tryd.prog HW 75 (call (α := α) f) := fun _ _ _ h => by
  unfold call at h; split at h
  · exact cok h fun _ => ok
  · cases h
end bits_LeadingZeros64
/-! ### bits_Div64: function 64 -/
namespace bits_Div64
noncomputable def b0 (c75 : T0) (k262137 : T20) (a0 a1 a2 : Int) : Ω (Int × Int) := (if a2 = 0 then none else (if a2 ≤ a0 then none else (if a0 = 0 then (if a2 = 0 then none else (if a2 = 0 then none else some (IntKind.u64.wrap (Int.tdiv a1 a2), Int.tmod a1 a2))) else ((c75 a2).bind fun t1 => (if 0 ≤ (IntKind.u64.wrap t1) then (if 0 ≤ (IntKind.u64.wrap t1) then (if 0 ≤ (IntKind.u64.wrap (64 - (IntKind.u64.wrap t1))) then (if 0 ≤ (IntKind.u64.wrap t1) then (if ((shl .u64 a2 (IntKind.u64.wrap t1)) / 4294967296) = 0 then none else k262137 (shl .u64 a2 (IntKind.u64.wrap t1)) (IntKind.u64.wrap t1) ((shl .u64 a2 (IntKind.u64.wrap t1)) / 4294967296) (Go.bits .and .u64 (shl .u64 a2 (IntKind.u64.wrap t1)) 4294967295) (Go.bits .or .u64 (shl .u64 a0 (IntKind.u64.wrap t1)) (shr .u64 a1 (IntKind.u64.wrap (64 - (IntKind.u64.wrap t1))))) ((shl .u64 a1 (IntKind.u64.wrap t1)) / 4294967296) (Go.bits .and .u64 (shl .u64 a1 (IntKind.u64.wrap t1)) 4294967295) (IntKind.u64.wrap (Int.tdiv (Go.bits .or .u64 (shl .u64 a0 (IntKind.u64.wrap t1)) (shr .u64 a1 (IntKind.u64.wrap (64 - (IntKind.u64.wrap t1))))) ((shl .u64 a2 (IntKind.u64.wrap t1)) / 4294967296))) (IntKind.u64.wrap ((Go.bits .or .u64 (shl .u64 a0 (IntKind.u64.wrap t1)) (shr .u64 a1 (IntKind.u64.wrap (64 - (IntKind.u64.wrap t1))))) - (IntKind.u64.wrap ((IntKind.u64.wrap (Int.tdiv (Go.bits .or .u64 (shl .u64 a0 (IntKind.u64.wrap t1)) (shr .u64 a1 (IntKind.u64.wrap (64 - (IntKind.u64.wrap t1))))) ((shl .u64 a2 (IntKind.u64.wrap t1)) / 4294967296))) * ((shl .u64 a2 (IntKind.u64.wrap t1)) / 4294967296)))))) else none) else none) else none) else none)))))
noncomputable def b65535 (c75 : T0) (k4194297 : T20) (x0 x1 x2 x3 x4 x5 x6 x7 : Int) : Ω (Int × Int) := (if x2 = 0 then none else k4194297 x0 x1 x2 x3 x6 x7 (IntKind.u64.wrap ((IntKind.u64.wrap ((IntKind.u64.wrap ((IntKind.u64.wrap (x4 * 4294967296)) + x5)) - (IntKind.u64.wrap (x7 * x0)))) - (IntKind.u64.wrap ((IntKind.u64.wrap (Int.tdiv (IntKind.u64.wrap ((IntKind.u64.wrap ((IntKind.u64.wrap (x4 * 4294967296)) + x5)) - (IntKind.u64.wrap (x7 * x0)))) x2)) * x2)))) (IntKind.u64.wrap ((IntKind.u64.wrap ((IntKind.u64.wrap (x4 * 4294967296)) + x5)) - (IntKind.u64.wrap (x7 * x0)))) (IntKind.u64.wrap (Int.tdiv (IntKind.u64.wrap ((IntKind.u64.wrap ((IntKind.u64.wrap (x4 * 4294967296)) + x5)) - (IntKind.u64.wrap (x7 * x0)))) x2)))
noncomputable def b262137 (c75 : T0) (k65535 : T56) (k524273 : T20) (x0 x1 x2 x3 x4 x5 x6 x7 x8 : Int) : Ω (Int × Int) := (if x7 ≥ 4294967296 then k524273 x0 x1 x2 x3 x4 x5 x6 x7 x8 else (if (IntKind.u64.wrap (x7 * x3)) > (IntKind.u64.wrap ((IntKind.u64.wrap (4294967296 * x8)) + x5)) then k524273 x0 x1 x2 x3 x4 x5 x6 x7 x8 else k65535 x0 x1 x2 x3 x4 x5 x6 x7))
noncomputable def b524273 (c75 : T0) (k65535 : T56) (k262137 : T20) (x0 x1 x2 x3 x4 x5 x6 x7 x8 : Int) : Ω (Int × Int) := (if (IntKind.u64.wrap (x8 + x2)) ≥ 4294967296 then k65535 x0 x1 x2 x3 x4 x5 x6 (IntKind.u64.wrap (x7 - 1)) else k262137 x0 x1 x2 x3 x4 x5 x6 (IntKind.u64.wrap (x7 - 1)) (IntKind.u64.wrap (x8 + x2)))
noncomputable def b1048575 (c75 : T0) (x0 x1 x2 x3 x4 x5 : Int) : Ω (Int × Int) := (if 0 ≤ x1 then some (IntKind.u64.wrap ((IntKind.u64.wrap (x3 * 4294967296)) + x5), shr .u64 (IntKind.u64.wrap ((IntKind.u64.wrap ((IntKind.u64.wrap (x4 * 4294967296)) + x2)) - (IntKind.u64.wrap (x5 * x0)))) x1) else none)
noncomputable def b4194297 (c75 : T0) (k1048575 : T57) (k8388593 : T20) (x0 x1 x2 x3 x4 x5 x6 x7 x8 : Int) : Ω (Int × Int) := (if x8 ≥ 4294967296 then k8388593 x0 x1 x2 x3 x4 x5 x6 x7 x8 else (if (IntKind.u64.wrap (x8 * x3)) > (IntKind.u64.wrap ((IntKind.u64.wrap (4294967296 * x6)) + x4)) then k8388593 x0 x1 x2 x3 x4 x5 x6 x7 x8 else k1048575 x0 x1 x4 x5 x7 x8))
noncomputable def b8388593 (c75 : T0) (k1048575 : T57) (k4194297 : T20) (x0 x1 x2 x3 x4 x5 x6 x7 x8 : Int) : Ω (Int × Int) := (if (IntKind.u64.wrap (x6 + x2)) ≥ 4294967296 then k1048575 x0 x1 x4 x5 x7 (IntKind.u64.wrap (x8 - 1)) else k4194297 x0 x1 x2 x3 x4 x5 (IntKind.u64.wrap (x6 + x2)) x7 (IntKind.u64.wrap (x8 - 1)))
noncomputable def l1048575 (n : Nat) (x0 x1 x2 x3 x4 x5 : Int) : Ω (Int × Int) := b1048575 bits_LeadingZeros64.f x0 x1 x2 x3 x4 x5
noncomputable def l8388593 (n : Nat) (k4194297 : T20) (x0 x1 x2 x3 x4 x5 x6 x7 x8 : Int) : Ω (Int × Int) := b8388593 bits_LeadingZeros64.f (l1048575 n) k4194297 x0 x1 x2 x3 x4 x5 x6 x7 x8
noncomputable def l4194297 (n : Nat) : Nat→Int→Int→Int→Int→Int→Int→Int→Int→Int→Ω (Int × Int)
  | 0, _, _, _, _, _, _, _, _, _ => none
  | m + 1, x0, x1, x2, x3, x4, x5, x6, x7, x8 => b4194297 bits_LeadingZeros64.f (l1048575 n) (l8388593 n (l4194297 n m)) x0 x1 x2 x3 x4 x5 x6 x7 x8
noncomputable def l65535 (n : Nat) (x0 x1 x2 x3 x4 x5 x6 x7 : Int) : Ω (Int × Int) := b65535 bits_LeadingZeros64.f (l4194297 n n) x0 x1 x2 x3 x4 x5 x6 x7
noncomputable def l524273 (n : Nat) (k262137 : T20) (x0 x1 x2 x3 x4 x5 x6 x7 x8 : Int) : Ω (Int × Int) := b524273 bits_LeadingZeros64.f (l65535 n) k262137 x0 x1 x2 x3 x4 x5 x6 x7 x8
noncomputable def l262137 (n : Nat) : Nat→Int→Int→Int→Int→Int→Int→Int→Int→Int→Ω (Int × Int)
  | 0, _, _, _, _, _, _, _, _, _ => none
  | m + 1, x0, x1, x2, x3, x4, x5, x6, x7, x8 => b262137 bits_LeadingZeros64.f (l65535 n) (l524273 n (l262137 n m)) x0 x1 x2 x3 x4 x5 x6 x7 x8
noncomputable def f (n : Nat) (a0 a1 a2 : Int) : Ω (Int × Int) := b0 bits_LeadingZeros64.f (l262137 n n) a0 a1 a2
noncomputable def sg : Sig (Int × Int) := s2 (sInt .u64) (s1 (sInt .u64))
noncomputable def code : Code := (Tryd.f64.body).getD .skip
noncomputable def cfg (c75 : T0) : Cfg (Int × Int) := { T := tys, call := orCall 75 (bits_LeadingZeros64.call c75) (noCall), lay := lays }
noncomputable def cuts : List (Nat × List (Nat × Want)) := [(65535, [(2, .keep), (8, .keep), (9, .keep), (10, .keep), (11, .keep), (13, .keep), (14, .keep), (15, .keep)]), (262137, [(2, .keep), (8, .keep), (9, .keep), (10, .keep), (11, .keep), (13, .keep), (14, .keep), (15, .keep), (16, .keep)]), (524273, [(2, .keep), (8, .keep), (9, .keep), (10, .keep), (11, .keep), (13, .keep), (14, .keep), (15, .keep), (16, .keep)]), (1048575, [(2, .keep), (8, .keep), (14, .keep), (15, .keep), (17, .keep), (18, .keep)]), (4194297, [(2, .keep), (8, .keep), (9, .keep), (10, .keep), (14, .keep), (15, .keep), (16, .keep), (17, .keep), (18, .keep)]), (8388593, [(2, .keep), (8, .keep), (9, .keep), (10, .keep), (14, .keep), (15, .keep), (16, .keep), (17, .keep), (18, .keep)])]
noncomputable def s65535 (x0 x1 x2 x3 x4 x5 x6 x7 : Int) : ASt := ⟨[(2, .int .u64 x0), (8, .int .u64 x1), (9, .int .u64 x2), (10, .int .u64 x3), (11, .int .u64 x4), (13, .int .u64 x5), (14, .int .u64 x6), (15, .int .u64 x7)], []⟩
noncomputable def s262137 (x0 x1 x2 x3 x4 x5 x6 x7 x8 : Int) : ASt := ⟨[(2, .int .u64 x0), (8, .int .u64 x1), (9, .int .u64 x2), (10, .int .u64 x3), (11, .int .u64 x4), (13, .int .u64 x5), (14, .int .u64 x6), (15, .int .u64 x7), (16, .int .u64 x8)], []⟩
noncomputable def s524273 (x0 x1 x2 x3 x4 x5 x6 x7 x8 : Int) : ASt := ⟨[(2, .int .u64 x0), (8, .int .u64 x1), (9, .int .u64 x2), (10, .int .u64 x3), (11, .int .u64 x4), (13, .int .u64 x5), (14, .int .u64 x6), (15, .int .u64 x7), (16, .int .u64 x8)], []⟩
noncomputable def s1048575 (x0 x1 x2 x3 x4 x5 : Int) : ASt := ⟨[(2, .int .u64 x0), (8, .int .u64 x1), (14, .int .u64 x2), (15, .int .u64 x3), (17, .int .u64 x4), (18, .int .u64 x5)], []⟩
noncomputable def s4194297 (x0 x1 x2 x3 x4 x5 x6 x7 x8 : Int) : ASt := ⟨[(2, .int .u64 x0), (8, .int .u64 x1), (9, .int .u64 x2), (10, .int .u64 x3), (14, .int .u64 x4), (15, .int .u64 x5), (16, .int .u64 x6), (17, .int .u64 x7), (18, .int .u64 x8)], []⟩
noncomputable def s8388593 (x0 x1 x2 x3 x4 x5 x6 x7 x8 : Int) : ASt := ⟨[(2, .int .u64 x0), (8, .int .u64 x1), (9, .int .u64 x2), (10, .int .u64 x3), (14, .int .u64 x4), (15, .int .u64 x5), (16, .int .u64 x6), (17, .int .u64 x7), (18, .int .u64 x8)], []⟩
noncomputable def A (c75 : T0) (n : Nat) (J : Jt (Int × Int)) (q : Nat) (ms : List Nat) : ASt→Ω (Int × Int) := acont (cfg c75) J cuts n q code 1 ms (aend (cfg c75) Tryd.f64.results.toList [false, false] sg.out)
theorem e0 {c75 n J a0 a1 a2} : afun (cfg c75) J cuts n code Tryd.f64.results.toList [false, false] [.int .u64 a0, .int .u64 a1, .int .u64 a2] sg.out = b0 c75 (fun y0 y1 y2 y3 y4 y5 y6 y7 y8 => J 262137 (A c75 n J 262137 [n]) (s262137 y0 y1 y2 y3 y4 y5 y6 y7 y8)) a0 a1 a2 := by kernel_rfl
theorem e65535 {c75 n J x0 x1 x2 x3 x4 x5 x6 x7} : A c75 n J 65535 [] (s65535 x0 x1 x2 x3 x4 x5 x6 x7) = b65535 c75 (fun y0 y1 y2 y3 y4 y5 y6 y7 y8 => J 4194297 (A c75 n J 4194297 [n]) (s4194297 y0 y1 y2 y3 y4 y5 y6 y7 y8)) x0 x1 x2 x3 x4 x5 x6 x7 := by kernel_rfl
theorem e262137 {c75 n J m x0 x1 x2 x3 x4 x5 x6 x7 x8} : A c75 n J 262137 [m + 1] (s262137 x0 x1 x2 x3 x4 x5 x6 x7 x8) = b262137 c75 (fun y0 y1 y2 y3 y4 y5 y6 y7 => J 65535 (A c75 n J 65535 []) (s65535 y0 y1 y2 y3 y4 y5 y6 y7)) (fun y0 y1 y2 y3 y4 y5 y6 y7 y8 => J 524273 (A c75 n J 524273 [m]) (s524273 y0 y1 y2 y3 y4 y5 y6 y7 y8)) x0 x1 x2 x3 x4 x5 x6 x7 x8 := by kernel_rfl
theorem e524273 {c75 n J m262137 x0 x1 x2 x3 x4 x5 x6 x7 x8} : A c75 n J 524273 [m262137] (s524273 x0 x1 x2 x3 x4 x5 x6 x7 x8) = b524273 c75 (fun y0 y1 y2 y3 y4 y5 y6 y7 => J 65535 (A c75 n J 65535 []) (s65535 y0 y1 y2 y3 y4 y5 y6 y7)) (fun y0 y1 y2 y3 y4 y5 y6 y7 y8 => J 262137 (A c75 n J 262137 [m262137]) (s262137 y0 y1 y2 y3 y4 y5 y6 y7 y8)) x0 x1 x2 x3 x4 x5 x6 x7 x8 := by kernel_rfl
theorem e1048575 {c75 n J x0 x1 x2 x3 x4 x5} : A c75 n J 1048575 [] (s1048575 x0 x1 x2 x3 x4 x5) = b1048575 c75 x0 x1 x2 x3 x4 x5 := by kernel_rfl
theorem e4194297 {c75 n J m x0 x1 x2 x3 x4 x5 x6 x7 x8} : A c75 n J 4194297 [m + 1] (s4194297 x0 x1 x2 x3 x4 x5 x6 x7 x8) = b4194297 c75 (fun y0 y1 y2 y3 y4 y5 => J 1048575 (A c75 n J 1048575 []) (s1048575 y0 y1 y2 y3 y4 y5)) (fun y0 y1 y2 y3 y4 y5 y6 y7 y8 => J 8388593 (A c75 n J 8388593 [m]) (s8388593 y0 y1 y2 y3 y4 y5 y6 y7 y8)) x0 x1 x2 x3 x4 x5 x6 x7 x8 := by kernel_rfl
theorem e8388593 {c75 n J m4194297 x0 x1 x2 x3 x4 x5 x6 x7 x8} : A c75 n J 8388593 [m4194297] (s8388593 x0 x1 x2 x3 x4 x5 x6 x7 x8) = b8388593 c75 (fun y0 y1 y2 y3 y4 y5 => J 1048575 (A c75 n J 1048575 []) (s1048575 y0 y1 y2 y3 y4 y5)) (fun y0 y1 y2 y3 y4 y5 y6 y7 y8 => J 4194297 (A c75 n J 4194297 [m4194297]) (s4194297 y0 y1 y2 y3 y4 y5 y6 y7 y8)) x0 x1 x2 x3 x4 x5 x6 x7 x8 := by kernel_rfl
noncomputable abbrev I (n : Nat) := A bits_LeadingZeros64.f n idJ
theorem q1048575 (n x0 x1 x2 x3 x4 x5) : I n 1048575 [] (s1048575 x0 x1 x2 x3 x4 x5) = l1048575 n x0 x1 x2 x3 x4 x5 := e1048575
theorem q8388593 (n m4194297 x0 x1 x2 x3 x4 x5 x6 x7 x8) : I n 8388593 [m4194297] (s8388593 x0 x1 x2 x3 x4 x5 x6 x7 x8) = l8388593 n (fun y0 y1 y2 y3 y4 y5 y6 y7 y8 => I n 4194297 [m4194297] (s4194297 y0 y1 y2 y3 y4 y5 y6 y7 y8)) x0 x1 x2 x3 x4 x5 x6 x7 x8 := e8388593.trans (Eq.trans (cf9 (congr (congrArg (b8388593 _) (fu6 (q1048575 n))) rfl) _ _ _ _ _ _ _ _ _) rfl)
theorem q4194297 (n m) : ∀ x0 x1 x2 x3 x4 x5 x6 x7 x8, I n 4194297 [m] (s4194297 x0 x1 x2 x3 x4 x5 x6 x7 x8) = l4194297 n m x0 x1 x2 x3 x4 x5 x6 x7 x8 := by
  induction m with
  | zero => intros; rfl
  | succ m ih =>
    intros
    exact e4194297.trans (Eq.trans (cf9 (congr (congrArg (b4194297 _) (fu6 (q1048575 n))) ((fu9 (q8388593 n m)).trans (by rw [show (fun y0 y1 y2 y3 y4 y5 y6 y7 y8 => I n 4194297 [m] (s4194297 y0 y1 y2 y3 y4 y5 y6 y7 y8)) = _ from (fu9 (ih))]))) _ _ _ _ _ _ _ _ _) rfl)
theorem q65535 (n x0 x1 x2 x3 x4 x5 x6 x7) : I n 65535 [] (s65535 x0 x1 x2 x3 x4 x5 x6 x7) = l65535 n x0 x1 x2 x3 x4 x5 x6 x7 := e65535.trans (Eq.trans (cf8 (congrArg (b65535 _) (fu9 (q4194297 n n))) _ _ _ _ _ _ _ _) rfl)
theorem q524273 (n m262137 x0 x1 x2 x3 x4 x5 x6 x7 x8) : I n 524273 [m262137] (s524273 x0 x1 x2 x3 x4 x5 x6 x7 x8) = l524273 n (fun y0 y1 y2 y3 y4 y5 y6 y7 y8 => I n 262137 [m262137] (s262137 y0 y1 y2 y3 y4 y5 y6 y7 y8)) x0 x1 x2 x3 x4 x5 x6 x7 x8 := e524273.trans (Eq.trans (cf9 (congr (congrArg (b524273 _) (fu8 (q65535 n))) rfl) _ _ _ _ _ _ _ _ _) rfl)
theorem q262137 (n m) : ∀ x0 x1 x2 x3 x4 x5 x6 x7 x8, I n 262137 [m] (s262137 x0 x1 x2 x3 x4 x5 x6 x7 x8) = l262137 n m x0 x1 x2 x3 x4 x5 x6 x7 x8 := by
  induction m with
  | zero => intros; rfl
  | succ m ih =>
    intros
    exact e262137.trans (Eq.trans (cf9 (congr (congrArg (b262137 _) (fu8 (q65535 n))) ((fu9 (q524273 n m)).trans (by rw [show (fun y0 y1 y2 y3 y4 y5 y6 y7 y8 => I n 262137 [m] (s262137 y0 y1 y2 y3 y4 y5 y6 y7 y8)) = _ from (fu9 (ih))]))) _ _ _ _ _ _ _ _ _) rfl)
theorem ok {n  a0 a1 a2 r} (h : f n a0 a1 a2 = some r) : CallD Tryd.prog HW 64 [.int .u64 a0, .int .u64 a1, .int .u64 a2] (sg.enc r) :=
  fun_some hwS Tryd.func64 (by kernel_rfl) (body := code) (by kernel_rfl) tys_ok (c := cfg bits_LeadingZeros64.f) ⟨(orCall_ok bits_LeadingZeros64.call_ok noCall_ok), noQ_ok'⟩ ⟨noW_ok, noP_ok'⟩ (by kernel_rfl) (by kernel_rfl) (Nat.le_of_ble_eq_true (by kernel_rfl)) (Eq.trans ((e0 (n := n)).trans (Eq.trans (cf3 (congrArg (b0 _) (fu9 (q262137 n n))) _ _ _) rfl)) h)
noncomputable def call {α : Type} (g : T2) (ds : List D) (K : List D→Ω α) : Ω α := match ds with
  | [.int .u64 a0, .int .u64 a1, .int .u64 a2] => (g a0 a1 a2).bind fun r => K (sg.enc r)
  | _ => none
theorem call_ok {α : Type} {n : Nat} : COK Tryd.prog HW 64 (call (α := α) (f n)) := fun _ _ _ h => by
  unfold call at h; split at h
  · exact cok h fun _ => ok
  · cases h
end bits_Div64
/-! ### bits_Rem64: function 43 -/
namespace bits_Rem64
noncomputable def b0 (c64 : T2) (a0 a1 a2 : Int) : Ω (Int) := (if a2 = 0 then none else ((c64 (Int.tmod a0 a2) a1 a2).bind fun t1 => some t1.2))
noncomputable def f (n : Nat) (a0 a1 a2 : Int) : Ω (Int) := b0 (bits_Div64.f n) a0 a1 a2
noncomputable def sg : Sig (Int) := s1 (sInt .u64)
noncomputable def code : Code := (Tryd.f43.body).getD .skip
noncomputable def cfg (c64 : T2) : Cfg (Int) := { T := tys, call := orCall 64 (bits_Div64.call c64) (noCall), lay := lays }
noncomputable def cuts : List (Nat × List (Nat × Want)) := []
theorem e0 {c64 n J a0 a1 a2} : afun (cfg c64) J cuts n code Tryd.f43.results.toList [false] [.int .u64 a0, .int .u64 a1, .int .u64 a2] sg.out = b0 c64 a0 a1 a2 := by kernel_rfl
theorem ok {n  a0 a1 a2 r} (h : f n a0 a1 a2 = some r) : CallD Tryd.prog HW 43 [.int .u64 a0, .int .u64 a1, .int .u64 a2] (sg.enc r) :=
  fun_some hwS Tryd.func43 (by kernel_rfl) (body := code) (by kernel_rfl) tys_ok (c := cfg (bits_Div64.f n)) ⟨(orCall_ok (bits_Div64.call_ok (n := n)) noCall_ok), noQ_ok'⟩ ⟨noW_ok, noP_ok'⟩ (by kernel_rfl) (by kernel_rfl) (Nat.le_of_ble_eq_true (by kernel_rfl)) (Eq.trans ((e0 (n := n))) h)
noncomputable def call {α : Type} (g : T12) (ds : List D) (K : List D→Ω α) : Ω α := match ds with
  | [.int .u64 a0, .int .u64 a1, .int .u64 a2] => (g a0 a1 a2).bind fun r => K (sg.enc r)
  | _ => none
theorem call_ok {α : Type} {n : Nat} : COK Tryd.prog HW 43 (call (α := α) (f n)) := fun _ _ _ h => by
  unfold call at h; split at h
  · exact cok h fun _ => ok
  · cases h
end bits_Rem64
/-! ### remain_residue: function 25 -/
namespace remain_residue
noncomputable def b0 (c39 : T5) (c43 k57 : T12) (a0 a1 a2 : Int) : Ω (Int) := (if a2 = 0 then none else k57 a1 a2 (Int.tmod a0 a2))
noncomputable def b57 (c39 : T5) (c43 k57 : T12) (x0 x1 x2 : Int) : Ω (Int) := (if x0 > 0 then (if 0 ≤ (mn x0 32) then ((c39 x2 (shl .u64 1 (mn x0 32))).bind fun t1 => ((c43 t1.1 t1.2 x1).bind fun t2 => k57 (wrap64 (x0 - (mn x0 32))) x1 t2)) else none) else some x2)
noncomputable def l57 (n : Nat) : Nat→Int→Int→Int→Ω (Int)
  | 0, _, _, _ => none
  | m + 1, x0, x1, x2 => b57 bits_Mul64.f (bits_Rem64.f n) (l57 n m) x0 x1 x2
noncomputable def f (n : Nat) (a0 a1 a2 : Int) : Ω (Int) := b0 bits_Mul64.f (bits_Rem64.f n) (l57 n n) a0 a1 a2
noncomputable def sg : Sig (Int) := s1 (sInt .u64)
noncomputable def code : Code := (Tryd.f25.body).getD .skip
noncomputable def cfg (c39 : T5) (c43 : T12) : Cfg (Int) := { T := tys, call := orCall 39 (bits_Mul64.call c39) (orCall 43 (bits_Rem64.call c43) (noCall)), lay := lays }
noncomputable def cuts : List (Nat × List (Nat × Want)) := [(57, [(1, .keep), (2, .keep), (7, .keep)])]
noncomputable def s57 (x0 x1 x2 : Int) : ASt := ⟨[(1, .int .i64 x0), (2, .int .u64 x1), (7, .int .u64 x2)], []⟩
noncomputable def A (c39 : T5) (c43 : T12) (n : Nat) (J : Jt (Int)) (q : Nat) (ms : List Nat) : ASt→Ω (Int) := acont (cfg c39 c43) J cuts n q code 1 ms (aend (cfg c39 c43) Tryd.f25.results.toList [false] sg.out)
theorem e0 {c39 c43 n J a0 a1 a2} : afun (cfg c39 c43) J cuts n code Tryd.f25.results.toList [false] [.int .u64 a0, .int .i64 a1, .int .u64 a2] sg.out = b0 c39 c43 (fun y0 y1 y2 => J 57 (A c39 c43 n J 57 [n]) (s57 y0 y1 y2)) a0 a1 a2 := by kernel_rfl
theorem e57 {c39 c43 n J m x0 x1 x2} : A c39 c43 n J 57 [m + 1] (s57 x0 x1 x2) = b57 c39 c43 (fun y0 y1 y2 => J 57 (A c39 c43 n J 57 [m]) (s57 y0 y1 y2)) x0 x1 x2 := by kernel_rfl
noncomputable abbrev I (n : Nat) := A bits_Mul64.f (bits_Rem64.f n) n idJ
theorem q57 (n m) : ∀ x0 x1 x2, I n 57 [m] (s57 x0 x1 x2) = l57 n m x0 x1 x2 := by
  induction m with
  | zero => intros; rfl
  | succ m ih =>
    intros
    exact e57.trans (Eq.trans (cf3 (congrArg (b57 _ _) (fu3 (ih))) _ _ _) rfl)
theorem ok {n  a0 a1 a2 r} (h : f n a0 a1 a2 = some r) : CallD Tryd.prog HW 25 [.int .u64 a0, .int .i64 a1, .int .u64 a2] (sg.enc r) :=
  fun_some hwS Tryd.func25 (by kernel_rfl) (body := code) (by kernel_rfl) tys_ok (c := cfg bits_Mul64.f (bits_Rem64.f n)) ⟨(orCall_ok bits_Mul64.call_ok (orCall_ok (bits_Rem64.call_ok (n := n)) noCall_ok)), noQ_ok'⟩ ⟨noW_ok, noP_ok'⟩ (by kernel_rfl) (by kernel_rfl) (Nat.le_of_ble_eq_true (by kernel_rfl)) (Eq.trans ((e0 (n := n)).trans (Eq.trans (cf3 (congrArg (b0 _ _) (fu3 (q57 n n))) _ _ _) rfl)) h)
noncomputable def call {α : Type} (g : T12) (ds : List D) (K : List D→Ω α) : Ω α := match ds with
  | [.int .u64 a0, .int .i64 a1, .int .u64 a2] => (g a0 a1 a2).bind fun r => K (sg.enc r)
  | _ => none
theorem call_ok {α : Type} {n : Nat} : COK Tryd.prog HW 25 (call (α := α) (f n)) := fun _ _ _ h => by
  unfold call at h; split at h
  · exact cok h fun _ => ok
  · cases h
end remain_residue
/-! ### nat_size: function 50 -/
namespace nat_size
noncomputable def b0 (k57 : T23) (l0 : Λ) : Ω (Int) := k57 l0 (ln l0)
noncomputable def b57 (k57 : T23) (x0 : Λ) (x1 : Int) : Ω (Int) := (if x1 > 0 then (if 0 ≤ (wrap64 (x1 - 1)) then (if (wrap64 (x1 - 1)) < (ln x0) then (if (rd x0 (wrap64 (x1 - 1))) = 0 then k57 x0 (wrap64 (x1 - 1)) else some x1) else none) else none) else some x1)
noncomputable def l57 (n : Nat) : Nat→Λ→Int→Ω (Int)
  | 0, _, _ => none
  | m + 1, x0, x1 => b57 (l57 n m) x0 x1
noncomputable def f (n : Nat) (l0 : Λ) : Ω (Int) := b0 (l57 n n) l0
noncomputable def sg : Sig (Int) := s1 (sInt .i64)
noncomputable def code : Code := (Tryd.f50.body).getD .skip
noncomputable def cfg : Cfg (Int) := { T := tys, call := noCall, lay := lays }
noncomputable def cuts : List (Nat × List (Nat × Want)) := [(57, [(0, .keep), (3, .keep)])]
noncomputable def s57 (x0 : Λ) (x1 : Int) : ASt := ⟨[(0, .ro .u64 x0), (3, .int .i64 x1)], []⟩
noncomputable def A (n : Nat) (J : Jt (Int)) (q : Nat) (ms : List Nat) : ASt→Ω (Int) := acont cfg J cuts n q code 1 ms (aend cfg Tryd.f50.results.toList [false] sg.out)
theorem e0 {n J l0} : afun cfg J cuts n code Tryd.f50.results.toList [false] [.ro .u64 l0] sg.out = b0 (fun y0 y1 => J 57 (A n J 57 [n]) (s57 y0 y1)) l0 := by kernel_rfl
theorem e57 {n J m x0 x1} : A n J 57 [m + 1] (s57 x0 x1) = b57 (fun y0 y1 => J 57 (A n J 57 [m]) (s57 y0 y1)) x0 x1 := by kernel_rfl
noncomputable abbrev I (n : Nat) := A n idJ
theorem q57 (n m) : ∀ x0 x1, I n 57 [m] (s57 x0 x1) = l57 n m x0 x1 := by
  induction m with
  | zero => intros; rfl
  | succ m ih =>
    intros
    exact e57.trans (Eq.trans (cf2 (congrArg b57 (fu2 (ih))) _ _) rfl)
theorem ok {n  l0 r} (h : f n l0 = some r) : CallD Tryd.prog HW 50 [.ro .u64 l0] (sg.enc r) :=
  fun_some hwS Tryd.func50 (by kernel_rfl) (body := code) (by kernel_rfl) tys_ok (c := cfg) ⟨noCall_ok, noQ_ok'⟩ ⟨noW_ok, noP_ok'⟩ (by kernel_rfl) (by kernel_rfl) (Nat.le_of_ble_eq_true (by kernel_rfl)) (Eq.trans ((e0 (n := n)).trans (Eq.trans (cf1 (congrArg b0 (fu2 (q57 n n))) _) rfl)) h)
noncomputable def call {α : Type} (g : T1) (ds : List D) (K : List D→Ω α) : Ω α := match ds with
  | [.ro .u64 l0] => (g l0).bind fun r => K (sg.enc r)
  | _ => none
theorem call_ok {α : Type} {n : Nat} : COK Tryd.prog HW 50 (call (α := α) (f n)) := fun _ _ _ h => by
  unfold call at h; split at h
  · exact cok h fun _ => ok
  · cases h
end nat_size
/-! ### nat_big: function 49 -/
namespace nat_big
noncomputable def b0 (c50 : T1) (l0 : Λ) : Ω (Bool) := ((c50 l0).bind fun t1 => some (decide (t1 > 4096)))
noncomputable def f (n : Nat) (l0 : Λ) : Ω (Bool) := b0 (nat_size.f n) l0
noncomputable def sg : Sig (Bool) := s1 (sBool)
noncomputable def code : Code := (Tryd.f49.body).getD .skip
noncomputable def cfg (c50 : T1) : Cfg (Bool) := { T := tys, call := orCall 50 (nat_size.call c50) (noCall), lay := lays }
noncomputable def cuts : List (Nat × List (Nat × Want)) := []
theorem e0 {c50 n J l0} : afun (cfg c50) J cuts n code Tryd.f49.results.toList [false] [.ro .u64 l0] sg.out = b0 c50 l0 := by kernel_rfl
theorem ok {n  l0 r} (h : f n l0 = some r) : CallD Tryd.prog HW 49 [.ro .u64 l0] (sg.enc r) :=
  fun_some hwS Tryd.func49 (by kernel_rfl) (body := code) (by kernel_rfl) tys_ok (c := cfg (nat_size.f n)) ⟨(orCall_ok (nat_size.call_ok (n := n)) noCall_ok), noQ_ok'⟩ ⟨noW_ok, noP_ok'⟩ (by kernel_rfl) (by kernel_rfl) (Nat.le_of_ble_eq_true (by kernel_rfl)) (Eq.trans ((e0 (n := n))) h)
noncomputable def call {α : Type} (g : T4) (ds : List D) (K : List D→Ω α) : Ω α := match ds with
  | [.ro .u64 l0] => (g l0).bind fun r => K (sg.enc r)
  | _ => none
theorem call_ok {α : Type} {n : Nat} : COK Tryd.prog HW 49 (call (α := α) (f n)) := fun _ _ _ h => by
  unfold call at h; split at h
  · exact cok h fun _ => ok
  · cases h
end nat_big
/-! ### nat_cut: function 51 -/
namespace nat_cut
noncomputable def b0 (c50 : T1) (l0 : Λ) : Ω (Λ × Int) := ((c50 l0).bind fun t1 => (if t1 > 4096 then some (([] : Λ), 2) else (if 0 ≤ t1 then (if t1 ≤ t1 then (if t1 ≤ (ln l0) then ((some (l0.take t1.toNat) : Ω (Λ)).bind fun y2 => some (y2, 0)) else none) else none) else none)))
noncomputable def f (n : Nat) (l0 : Λ) : Ω (Λ × Int) := b0 (nat_size.f n) l0
noncomputable def sg : Sig (Λ × Int) := s2 (sRow .u64) (s1 (sInt .i64))
noncomputable def code : Code := (Tryd.f51.body).getD .skip
noncomputable def cfg (c50 : T1) : Cfg (Λ × Int) := { T := tys, call := orCall 50 (nat_size.call c50) (noCall), lay := lays }
noncomputable def cuts : List (Nat × List (Nat × Want)) := []
theorem e0 {c50 n J l0} : afun (cfg c50) J cuts n code Tryd.f51.results.toList [false, false] [.ro .u64 l0] sg.out = b0 c50 l0 := by kernel_rfl
theorem ok {n  l0 r} (h : f n l0 = some r) : CallD Tryd.prog HW 51 [.ro .u64 l0] (sg.enc r) :=
  fun_some hwS Tryd.func51 (by kernel_rfl) (body := code) (by kernel_rfl) tys_ok (c := cfg (nat_size.f n)) ⟨(orCall_ok (nat_size.call_ok (n := n)) noCall_ok), noQ_ok'⟩ ⟨noW_ok, noP_ok'⟩ (by kernel_rfl) (by kernel_rfl) (Nat.le_of_ble_eq_true (by kernel_rfl)) (Eq.trans ((e0 (n := n))) h)
noncomputable def call {α : Type} (g : T3) (ds : List D) (K : List D→Ω α) : Ω α := match ds with
  | [.ro .u64 l0] => (g l0).bind fun r => K (sg.enc r)
  | _ => none
theorem call_ok {α : Type} {n : Nat} : COK Tryd.prog HW 51 (call (α := α) (f n)) := fun _ _ _ h => by
  unfold call at h; split at h
  · exact cok h fun _ => ok
  · cases h
end nat_cut
/-! ### nat_Shl: function 32 -/
namespace nat_Shl
noncomputable def b0 (c39 : T5) (c49 : T4) (c50 : T1) (c51 : T3) (k8181 : T58) (l0 : Λ) (a1 : Int) : Ω (Λ × Int) := ((c49 l0).bind fun t1 => (if t1 = true then some (([] : Λ), 2) else (if a1 < 0 then some (([] : Λ), 1) else ((c50 l0).bind fun t2 => (if 0 ≤ t2 then (if t2 ≤ (ln l0) then ((some (l0.take t2.toNat) : Ω (Λ)).bind fun y3 => (if (ln y3) = 0 then some (([] : Λ), 0) else (if a1 > 262144 then some (([] : Λ), 2) else (if 0 ≤ (wrap64 ((wrap64 ((wrap64 (Int.tdiv a1 64)) + (ln y3))) + 1)) then (if (wrap64 ((wrap64 ((wrap64 (Int.tdiv a1 64)) + (ln y3))) + 1)).toNat ≤ 35184372088832 then k8181 (wrap64 (Int.tdiv a1 64)) (IntKind.u64.wrap (Int.tmod a1 64)) y3 (ln y3) 0 (List.replicate (wrap64 ((wrap64 ((wrap64 (Int.tdiv a1 64)) + (ln y3))) + 1)).toNat (0 : Int)) else none) else none)))) else none) else none)))))
noncomputable def b1023 (c39 : T5) (c49 : T4) (c50 : T1) (c51 : T3) (x0 : Λ) : Ω (Λ × Int) := ((c51 x0).bind fun t1 => some (t1.1, t1.2))
noncomputable def b8181 (c39 : T5) (c49 : T4) (c50 : T1) (c51 k1023 : T3) (k8181 : T58) (x0 x1 : Int) (x2 : Λ) (x3 x4 : Int) (x5 : Λ) : Ω (Λ × Int) := (if x4 < x3 then (if 0 ≤ x4 then (if x4 < (ln x2) then (if 0 ≤ x1 then ((c39 (rd x2 x4) (shl .u64 1 x1)).bind fun t1 => (if 0 ≤ (wrap64 (x0 + x4)) then (if (wrap64 (x0 + x4)) < (ln x5) then (if 0 ≤ (wrap64 (x0 + x4)) then (if (wrap64 (x0 + x4)) < (ln x5) then (if 0 ≤ (wrap64 ((wrap64 (x0 + x4)) + 1)) then (if (wrap64 ((wrap64 (x0 + x4)) + 1)) < (ln (x5.set (wrap64 (x0 + x4) : Int).toNat (Go.bits .or .u64 (rd x5 (wrap64 (x0 + x4))) t1.2))) then k8181 x0 x1 x2 x3 (wrap64 (x4 + 1)) ((x5.set (wrap64 (x0 + x4) : Int).toNat (Go.bits .or .u64 (rd x5 (wrap64 (x0 + x4))) t1.2)).set (wrap64 ((wrap64 (x0 + x4)) + 1) : Int).toNat t1.1) else none) else none) else none) else none) else none) else none)) else none) else none) else none) else k1023 x5)
noncomputable def l1023 (n : Nat) (x0 : Λ) : Ω (Λ × Int) := b1023 bits_Mul64.f (nat_big.f n) (nat_size.f n) (nat_cut.f n) x0
noncomputable def l8181 (n : Nat) : Nat→Int→Int→Λ→Int→Int→Λ→Ω (Λ × Int)
  | 0, _, _, _, _, _, _ => none
  | m + 1, x0, x1, x2, x3, x4, x5 => b8181 bits_Mul64.f (nat_big.f n) (nat_size.f n) (nat_cut.f n) (l1023 n) (l8181 n m) x0 x1 x2 x3 x4 x5
noncomputable def f (n : Nat) (l0 : Λ) (a1 : Int) : Ω (Λ × Int) := b0 bits_Mul64.f (nat_big.f n) (nat_size.f n) (nat_cut.f n) (l8181 n n) l0 a1
noncomputable def sg : Sig (Λ × Int) := s2 (sRow .u64) (s1 (sInt .i64))
noncomputable def code : Code := (Tryd.f32.body).getD .skip
noncomputable def cfg (c39 : T5) (c49 : T4) (c50 : T1) (c51 : T3) : Cfg (Λ × Int) := { T := tys, call := orCall 39 (bits_Mul64.call c39) (orCall 49 (nat_big.call c49) (orCall 50 (nat_size.call c50) (orCall 51 (nat_cut.call c51) (noCall)))), lay := lays }
noncomputable def cuts : List (Nat × List (Nat × Want)) := [(1023, [(8, .keep)]), (8181, [(6, .keep), (7, .keep), (8, .keep), (37, .keep), (38, .keep), (39, .keep)])]
noncomputable def s1023 (x0 : Λ) : ASt := ⟨[(8, .own 0)], [.ints 22 .u64 x0]⟩
noncomputable def s8181 (x0 x1 : Int) (x2 : Λ) (x3 x4 : Int) (x5 : Λ) : ASt := ⟨[(6, .int .i64 x0), (7, .int .u64 x1), (8, .own 0), (37, .ro .u64 x2), (38, .int .i64 x3), (39, .int .i64 x4)], [.ints 22 .u64 x5]⟩
noncomputable def A (c39 : T5) (c49 : T4) (c50 : T1) (c51 : T3) (n : Nat) (J : Jt (Λ × Int)) (q : Nat) (ms : List Nat) : ASt→Ω (Λ × Int) := acont (cfg c39 c49 c50 c51) J cuts n q code 1 ms (aend (cfg c39 c49 c50 c51) Tryd.f32.results.toList [false, false] sg.out)
theorem e0 {c39 c49 c50 c51 n J l0 a1} : afun (cfg c39 c49 c50 c51) J cuts n code Tryd.f32.results.toList [false, false] [.ro .u64 l0, .int .i64 a1] sg.out = b0 c39 c49 c50 c51 (fun y0 y1 y2 y3 y4 y5 => J 8181 (A c39 c49 c50 c51 n J 8181 [n]) (s8181 y0 y1 y2 y3 y4 y5)) l0 a1 := by kernel_rfl
theorem e1023 {c39 c49 c50 c51 n J x0} : A c39 c49 c50 c51 n J 1023 [] (s1023 x0) = b1023 c39 c49 c50 c51 x0 := by kernel_rfl
theorem e8181 {c39 c49 c50 c51 n J m x0 x1 x2 x3 x4 x5} : A c39 c49 c50 c51 n J 8181 [m + 1] (s8181 x0 x1 x2 x3 x4 x5) = b8181 c39 c49 c50 c51 (fun y0 => J 1023 (A c39 c49 c50 c51 n J 1023 []) (s1023 y0)) (fun y0 y1 y2 y3 y4 y5 => J 8181 (A c39 c49 c50 c51 n J 8181 [m]) (s8181 y0 y1 y2 y3 y4 y5)) x0 x1 x2 x3 x4 x5 := by kernel_rfl
noncomputable abbrev I (n : Nat) := A bits_Mul64.f (nat_big.f n) (nat_size.f n) (nat_cut.f n) n idJ
theorem q1023 (n x0) : I n 1023 [] (s1023 x0) = l1023 n x0 := e1023
theorem q8181 (n m) : ∀ x0 x1 x2 x3 x4 x5, I n 8181 [m] (s8181 x0 x1 x2 x3 x4 x5) = l8181 n m x0 x1 x2 x3 x4 x5 := by
  induction m with
  | zero => intros; rfl
  | succ m ih =>
    intros
    exact e8181.trans (Eq.trans (cf6 (congr (congrArg (b8181 _ _ _ _) (fu1 (q1023 n))) (fu6 (ih))) _ _ _ _ _ _) rfl)
theorem ok {n  l0 a1 r} (h : f n l0 a1 = some r) : CallD Tryd.prog HW 32 [.ro .u64 l0, .int .i64 a1] (sg.enc r) :=
  fun_some hwS Tryd.func32 (by kernel_rfl) (body := code) (by kernel_rfl) tys_ok (c := cfg bits_Mul64.f (nat_big.f n) (nat_size.f n) (nat_cut.f n)) ⟨(orCall_ok bits_Mul64.call_ok (orCall_ok (nat_big.call_ok (n := n)) (orCall_ok (nat_size.call_ok (n := n)) (orCall_ok (nat_cut.call_ok (n := n)) noCall_ok)))), noQ_ok'⟩ ⟨noW_ok, noP_ok'⟩ (by kernel_rfl) (by kernel_rfl) (Nat.le_of_ble_eq_true (by kernel_rfl)) (Eq.trans ((e0 (n := n)).trans (Eq.trans (cf2 (congrArg (b0 _ _ _ _) (fu6 (q8181 n n))) _ _) rfl)) h)
noncomputable def call {α : Type} (g : T14) (ds : List D) (K : List D→Ω α) : Ω α := match ds with
  | [.ro .u64 l0, .int .i64 a1] => (g l0 a1).bind fun r => K (sg.enc r)
  | _ => none
theorem call_ok {α : Type} {n : Nat} : COK Tryd.prog HW 32 (call (α := α) (f n)) := fun _ _ _ h => by
  unfold call at h; split at h
  · exact cok h fun _ => ok
  · cases h
end nat_Shl
/-! ### ieee_near: function 45 -/
namespace ieee_near
noncomputable def b0 (a0 : Int) : Ω (Int) := some (mx (-1099511627776) (mn 1099511627776 a0))
noncomputable def f (a0 : Int) : Ω (Int) := b0 a0
noncomputable def sg : Sig (Int) := s1 (sInt .i64)
noncomputable def code : Code := (Tryd.f45.body).getD .skip
noncomputable def cfg : Cfg (Int) := { T := tys, call := noCall, lay := lays }
noncomputable def cuts : List (Nat × List (Nat × Want)) := []
theorem e0 {n J a0} : afun cfg J cuts n code Tryd.f45.results.toList [false] [.int .i64 a0] sg.out = b0 a0 := by kernel_rfl
theorem ok {a0 r} (h : f a0 = some r) : CallD Tryd.prog HW 45 [.int .i64 a0] (sg.enc r) :=
  fun_some hwS Tryd.func45 (by kernel_rfl) (body := code) (by kernel_rfl) tys_ok (c := cfg) ⟨noCall_ok, noQ_ok'⟩ ⟨noW_ok, noP_ok'⟩ (by kernel_rfl) (by kernel_rfl) (Nat.le_of_ble_eq_true (by kernel_rfl)) (Eq.trans ((e0 (n := 0))) h)
noncomputable def call {α : Type} (g : T0) (ds : List D) (K : List D→Ω α) : Ω α := match ds with
  | [.int .i64 a0] => (g a0).bind fun r => K (sg.enc r)
  | _ => none
theorem call_ok {α : Type} : COK Tryd.prog HW 45 (call (α := α) f) := fun _ _ _ h => by
  unfold call at h; split at h
  · exact cok h fun _ => ok
  · cases h
end ieee_near
/-! ### nat_BitLen: function 35 -/
namespace nat_BitLen
noncomputable def b0 (c26 : T0) (c50 : T1) (l0 : Λ) : Ω (Int) := ((c50 l0).bind fun t1 => (if t1 = 0 then some 0 else (if 0 ≤ (wrap64 (t1 - 1)) then (if (wrap64 (t1 - 1)) < (ln l0) then ((c26 (rd l0 (wrap64 (t1 - 1)))).bind fun t2 => some (wrap64 ((wrap64 (64 * (wrap64 (t1 - 1)))) + t2))) else none) else none)))
noncomputable def f (n : Nat) (l0 : Λ) : Ω (Int) := b0 bits_Len64.f (nat_size.f n) l0
noncomputable def sg : Sig (Int) := s1 (sInt .i64)
noncomputable def code : Code := (Tryd.f35.body).getD .skip
noncomputable def cfg (c26 : T0) (c50 : T1) : Cfg (Int) := { T := tys, call := orCall 26 (bits_Len64.call c26) (orCall 50 (nat_size.call c50) (noCall)), lay := lays }
noncomputable def cuts : List (Nat × List (Nat × Want)) := []
theorem e0 {c26 c50 n J l0} : afun (cfg c26 c50) J cuts n code Tryd.f35.results.toList [false] [.ro .u64 l0] sg.out = b0 c26 c50 l0 := by kernel_rfl
theorem ok {n  l0 r} (h : f n l0 = some r) : CallD Tryd.prog HW 35 [.ro .u64 l0] (sg.enc r) :=
  fun_some hwS Tryd.func35 (by kernel_rfl) (body := code) (by kernel_rfl) tys_ok (c := cfg bits_Len64.f (nat_size.f n)) ⟨(orCall_ok bits_Len64.call_ok (orCall_ok (nat_size.call_ok (n := n)) noCall_ok)), noQ_ok'⟩ ⟨noW_ok, noP_ok'⟩ (by kernel_rfl) (by kernel_rfl) (Nat.le_of_ble_eq_true (by kernel_rfl)) (Eq.trans ((e0 (n := n))) h)
noncomputable def call {α : Type} (g : T1) (ds : List D) (K : List D→Ω α) : Ω α := match ds with
  | [.ro .u64 l0] => (g l0).bind fun r => K (sg.enc r)
  | _ => none
theorem call_ok {α : Type} {n : Nat} : COK Tryd.prog HW 35 (call (α := α) (f n)) := fun _ _ _ h => by
  unfold call at h; split at h
  · exact cok h fun _ => ok
  · cases h
end nat_BitLen
/-! ### bits_TrailingZeros64: function 58 -/
namespace bits_TrailingZeros64
def f (a0 : Int) : Ω (Int) := if 0 ≤ a0 ∧ a0 < 18446744073709551616 then some (Lib.ctz 64 a0.toNat : Nat) else none
def sg : Sig (Int) := s1 (sInt .i64)
set_option maxHeartbeats 1000000 in
theorem core (x k idx : Nat) (w : World) (hx0 : ((x : Int) == 0) = false)
    (key : IntKind.u64.wrap (bits BinOp.and IntKind.u64 (x : Int) (IntKind.u64.wrap (-(x : Int))) * 285870213051353865) / 288230376151711744 = (idx : Int))
    (hi : idx < 64) (hk : k < 64) (hcell : w.cell? ⟨0, idx, none⟩ = some (.int .u8 k)) :
    Calls Tryd.prog 58 #[.int .u64 x] w fun e w' => e = .returned (.int .i64 k) ∧ w' = w := by
  go_enter Tryd.func58, Tryd.ntmps58
  go_wp2_with (simp only [key])
  go_ret
  exact ⟨rfl, rfl⟩
theorem zero (w : World) : Calls Tryd.prog 58 #[.int .u64 0] w fun e w' => e = .returned (.int .i64 64) ∧ w' = w := by
  go_enter Tryd.func58, Tryd.ntmps58
  go_wp2
  go_ret
  exact ⟨rfl, rfl⟩
theorem ok {a0 : Int} {r : Int} (h : f a0 = some r) : CallD Tryd.prog HW 58 [.int .u64 a0] (sg.enc r) := by
  unfold f at h
  split at h
  · rename_i hh
    obtain rfl := Option.some.inj h
    refine calld_scal rfl rfl fun w hw => .inl ⟨_, Tryd.func58, by kernel_rfl, by kernel_rfl, ?_⟩
    obtain ⟨x, rfl⟩ := Int.eq_ofNat_of_zero_le hh.1
    have hx : x < 18446744073709551616 := by omega
    show Calls Tryd.prog 58 #[.int .u64 x] w _
    rw [Int.toNat_natCast]
    by_cases hx0 : x = 0
    · subst hx0
      refine (zero w).mono ?_
      rintro e w' ⟨rfl, rfl⟩
      exact ⟨_, rfl, rfl, rfl⟩
    · obtain ⟨hlow, hk⟩ := Lib.lowest_bit 64 x hx0 hx
      obtain ⟨hi, htab⟩ := Lib.deBruijn64_at _ hk
      have hcell := hw _ hi
      rw [htab] at hcell
      refine (core x _ _ w (by simp; omega) (tz64_key x _ hx hx0 hlow) hi hk hcell).mono ?_
      rintro e w' ⟨rfl, rfl⟩
      exact ⟨_, rfl, rfl, rfl⟩
  · cases h
noncomputable def call {α : Type} (g : T0) (ds : List D) (K : List D→Ω α) : Ω α := match ds with
  | [.int .u64 a0] => (g a0).bind fun r => K (sg.enc r)
  | _ => none
theorem call_ok {α : Type} : COK Tryd.prog HW 58 (call (α := α) f) := fun _ _ _ h => by
  unfold call at h; split at h
  · exact cok h fun _ => ok
  · cases h
end bits_TrailingZeros64
/-! ### nat_Trail: function 36 -/
namespace nat_Trail
noncomputable def b0 (c58 : T0) (k53 : Λ→Int→Int→Ω (Int)) (l0 : Λ) : Ω (Int) := k53 l0 (ln l0) 0
noncomputable def b53 (c58 : T0) (k53 : Λ→Int→Int→Ω (Int)) (x0 : Λ) (x1 x2 : Int) : Ω (Int) := (if x2 < x1 then (if 0 ≤ x2 then (if x2 < (ln x0) then (if ¬ (rd x0 x2) = 0 then ((c58 (rd x0 x2)).bind fun t1 => some (wrap64 ((wrap64 (64 * x2)) + t1))) else k53 x0 x1 (wrap64 (x2 + 1))) else none) else none) else some 0)
noncomputable def l53 (n : Nat) : Nat→Λ→Int→Int→Ω (Int)
  | 0, _, _, _ => none
  | m + 1, x0, x1, x2 => b53 bits_TrailingZeros64.f (l53 n m) x0 x1 x2
noncomputable def f (n : Nat) (l0 : Λ) : Ω (Int) := b0 bits_TrailingZeros64.f (l53 n n) l0
noncomputable def sg : Sig (Int) := s1 (sInt .i64)
noncomputable def code : Code := (Tryd.f36.body).getD .skip
noncomputable def cfg (c58 : T0) : Cfg (Int) := { T := tys, call := orCall 58 (bits_TrailingZeros64.call c58) (noCall), lay := lays }
noncomputable def cuts : List (Nat × List (Nat × Want)) := [(53, [(5, .keep), (6, .keep), (7, .keep)])]
noncomputable def s53 (x0 : Λ) (x1 x2 : Int) : ASt := ⟨[(5, .ro .u64 x0), (6, .int .i64 x1), (7, .int .i64 x2)], []⟩
noncomputable def A (c58 : T0) (n : Nat) (J : Jt (Int)) (q : Nat) (ms : List Nat) : ASt→Ω (Int) := acont (cfg c58) J cuts n q code 1 ms (aend (cfg c58) Tryd.f36.results.toList [false] sg.out)
theorem e0 {c58 n J l0} : afun (cfg c58) J cuts n code Tryd.f36.results.toList [false] [.ro .u64 l0] sg.out = b0 c58 (fun y0 y1 y2 => J 53 (A c58 n J 53 [n]) (s53 y0 y1 y2)) l0 := by kernel_rfl
theorem e53 {c58 n J m x0 x1 x2} : A c58 n J 53 [m + 1] (s53 x0 x1 x2) = b53 c58 (fun y0 y1 y2 => J 53 (A c58 n J 53 [m]) (s53 y0 y1 y2)) x0 x1 x2 := by kernel_rfl
noncomputable abbrev I (n : Nat) := A bits_TrailingZeros64.f n idJ
theorem q53 (n m) : ∀ x0 x1 x2, I n 53 [m] (s53 x0 x1 x2) = l53 n m x0 x1 x2 := by
  induction m with
  | zero => intros; rfl
  | succ m ih =>
    intros
    exact e53.trans (Eq.trans (cf3 (congrArg (b53 _) (fu3 (ih))) _ _ _) rfl)
theorem ok {n  l0 r} (h : f n l0 = some r) : CallD Tryd.prog HW 36 [.ro .u64 l0] (sg.enc r) :=
  fun_some hwS Tryd.func36 (by kernel_rfl) (body := code) (by kernel_rfl) tys_ok (c := cfg bits_TrailingZeros64.f) ⟨(orCall_ok bits_TrailingZeros64.call_ok noCall_ok), noQ_ok'⟩ ⟨noW_ok, noP_ok'⟩ (by kernel_rfl) (by kernel_rfl) (Nat.le_of_ble_eq_true (by kernel_rfl)) (Eq.trans ((e0 (n := n)).trans (Eq.trans (cf1 (congrArg (b0 _) (fu3 (q53 n n))) _) rfl)) h)
noncomputable def call {α : Type} (g : T1) (ds : List D) (K : List D→Ω α) : Ω α := match ds with
  | [.ro .u64 l0] => (g l0).bind fun r => K (sg.enc r)
  | _ => none
theorem call_ok {α : Type} {n : Nat} : COK Tryd.prog HW 36 (call (α := α) (f n)) := fun _ _ _ h => by
  unfold call at h; split at h
  · exact cok h fun _ => ok
  · cases h
end nat_Trail
/-! ### nat_Shr: function 55 -/
namespace nat_Shr
noncomputable def b0 (c36 : T1) (c49 : T4) (c50 : T1) (c51 : T3) (k31 : Λ→Int→Bool→Ω (Λ × Bool × Int)) (l0 : Λ) (a1 : Int) : Ω (Λ × Bool × Int) := ((c49 l0).bind fun t1 => (if t1 = true then some (([] : Λ), false, 2) else (if a1 < 0 then some (([] : Λ), false, 1) else ((c50 l0).bind fun t2 => (if t2 > 0 then ((c36 l0).bind fun t3 => k31 l0 a1 (decide (t3 < a1))) else k31 l0 a1 false)))))
noncomputable def b31 (c36 : T1) (c49 : T4) (c50 : T1) (c51 : T3) (k8181 : T59) (x0 : Λ) (x1 : Int) (x2 : Bool) : Ω (Λ × Bool × Int) := ((c50 x0).bind fun t1 => (if 0 ≤ t1 then (if t1 ≤ (ln x0) then ((some (x0.take t1.toNat) : Ω (Λ)).bind fun y2 => (if x1 ≥ (wrap64 (64 * (ln y2))) then some (([] : Λ), x2, 0) else (if 0 ≤ (wrap64 ((ln y2) - (wrap64 (Int.tdiv x1 64)))) then (if (wrap64 ((ln y2) - (wrap64 (Int.tdiv x1 64)))).toNat ≤ 35184372088832 then k8181 y2 x2 (wrap64 (Int.tdiv x1 64)) (IntKind.u64.wrap (Int.tmod x1 64)) (ln (List.replicate (wrap64 ((ln y2) - (wrap64 (Int.tdiv x1 64)))).toNat (0 : Int))) 0 (List.replicate (wrap64 ((ln y2) - (wrap64 (Int.tdiv x1 64)))).toNat (0 : Int)) else none) else none))) else none) else none))
noncomputable def b1023 (c36 : T1) (c49 : T4) (c50 : T1) (c51 : T3) (x0 : Bool) (x1 : Λ) : Ω (Λ × Bool × Int) := ((c51 x1).bind fun t1 => some (t1.1, x0, t1.2))
noncomputable def b8181 (c36 : T1) (c49 : T4) (c50 : T1) (c51 : T3) (k1023 : Bool→Λ→Ω (Λ × Bool × Int)) (k8181 : T59) (x0 : Λ) (x1 : Bool) (x2 x3 x4 x5 : Int) (x6 : Λ) : Ω (Λ × Bool × Int) := (if x5 < x4 then (if 0 ≤ (wrap64 (x2 + x5)) then (if (wrap64 (x2 + x5)) < (ln x0) then (if 0 ≤ x3 then (if (wrap64 ((wrap64 (x2 + x5)) + 1)) < (ln x0) then (if x3 > 0 then (if 0 ≤ (wrap64 ((wrap64 (x2 + x5)) + 1)) then (if (wrap64 ((wrap64 (x2 + x5)) + 1)) < (ln x0) then (if 0 ≤ (IntKind.u64.wrap (64 - x3)) then (if 0 ≤ x5 then (if x5 < (ln x6) then k8181 x0 x1 x2 x3 x4 (wrap64 (x5 + 1)) (x6.set (x5 : Int).toNat (Go.bits .or .u64 (shr .u64 (rd x0 (wrap64 (x2 + x5))) x3) (shl .u64 (rd x0 (wrap64 ((wrap64 (x2 + x5)) + 1))) (IntKind.u64.wrap (64 - x3))))) else none) else none) else none) else none) else none) else (if 0 ≤ x5 then (if x5 < (ln x6) then k8181 x0 x1 x2 x3 x4 (wrap64 (x5 + 1)) (x6.set (x5 : Int).toNat (shr .u64 (rd x0 (wrap64 (x2 + x5))) x3)) else none) else none)) else (if 0 ≤ x5 then (if x5 < (ln x6) then k8181 x0 x1 x2 x3 x4 (wrap64 (x5 + 1)) (x6.set (x5 : Int).toNat (shr .u64 (rd x0 (wrap64 (x2 + x5))) x3)) else none) else none)) else none) else none) else none) else k1023 x1 x6)
noncomputable def l1023 (n : Nat) (x0 : Bool) (x1 : Λ) : Ω (Λ × Bool × Int) := b1023 (nat_Trail.f n) (nat_big.f n) (nat_size.f n) (nat_cut.f n) x0 x1
noncomputable def l8181 (n : Nat) : Nat→Λ→Bool→Int→Int→Int→Int→Λ→Ω (Λ × Bool × Int)
  | 0, _, _, _, _, _, _, _ => none
  | m + 1, x0, x1, x2, x3, x4, x5, x6 => b8181 (nat_Trail.f n) (nat_big.f n) (nat_size.f n) (nat_cut.f n) (l1023 n) (l8181 n m) x0 x1 x2 x3 x4 x5 x6
noncomputable def l31 (n : Nat) (x0 : Λ) (x1 : Int) (x2 : Bool) : Ω (Λ × Bool × Int) := b31 (nat_Trail.f n) (nat_big.f n) (nat_size.f n) (nat_cut.f n) (l8181 n n) x0 x1 x2
noncomputable def f (n : Nat) (l0 : Λ) (a1 : Int) : Ω (Λ × Bool × Int) := b0 (nat_Trail.f n) (nat_big.f n) (nat_size.f n) (nat_cut.f n) (l31 n) l0 a1
noncomputable def sg : Sig (Λ × Bool × Int) := s2 (sRow .u64) (s2 (sBool) (s1 (sInt .i64)))
noncomputable def code : Code := (Tryd.f55.body).getD .skip
noncomputable def cfg (c36 : T1) (c49 : T4) (c50 : T1) (c51 : T3) : Cfg (Λ × Bool × Int) := { T := tys, call := orCall 36 (nat_Trail.call c36) (orCall 49 (nat_big.call c49) (orCall 50 (nat_size.call c50) (orCall 51 (nat_cut.call c51) (noCall)))), lay := lays }
noncomputable def cuts : List (Nat × List (Nat × Want)) := [(31, [(0, .keep), (1, .keep), (7, .keep)]), (1023, [(7, .keep), (10, .keep)]), (8181, [(0, .keep), (7, .keep), (8, .keep), (9, .keep), (10, .keep), (49, .keep), (50, .keep)])]
noncomputable def s31 (x0 : Λ) (x1 : Int) (x2 : Bool) : ASt := ⟨[(0, .ro .u64 x0), (1, .int .i64 x1), (7, .bool x2)], []⟩
noncomputable def s1023 (x0 : Bool) (x1 : Λ) : ASt := ⟨[(7, .bool x0), (10, .own 0)], [.ints 22 .u64 x1]⟩
noncomputable def s8181 (x0 : Λ) (x1 : Bool) (x2 x3 x4 x5 : Int) (x6 : Λ) : ASt := ⟨[(0, .ro .u64 x0), (7, .bool x1), (8, .int .i64 x2), (9, .int .u64 x3), (10, .own 0), (49, .int .i64 x4), (50, .int .i64 x5)], [.ints 22 .u64 x6]⟩
noncomputable def A (c36 : T1) (c49 : T4) (c50 : T1) (c51 : T3) (n : Nat) (J : Jt (Λ × Bool × Int)) (q : Nat) (ms : List Nat) : ASt→Ω (Λ × Bool × Int) := acont (cfg c36 c49 c50 c51) J cuts n q code 1 ms (aend (cfg c36 c49 c50 c51) Tryd.f55.results.toList [false, false, false] sg.out)
theorem e0 {c36 c49 c50 c51 n J l0 a1} : afun (cfg c36 c49 c50 c51) J cuts n code Tryd.f55.results.toList [false, false, false] [.ro .u64 l0, .int .i64 a1] sg.out = b0 c36 c49 c50 c51 (fun y0 y1 y2 => J 31 (A c36 c49 c50 c51 n J 31 []) (s31 y0 y1 y2)) l0 a1 := by kernel_rfl
theorem e31 {c36 c49 c50 c51 n J x0 x1 x2} : A c36 c49 c50 c51 n J 31 [] (s31 x0 x1 x2) = b31 c36 c49 c50 c51 (fun y0 y1 y2 y3 y4 y5 y6 => J 8181 (A c36 c49 c50 c51 n J 8181 [n]) (s8181 y0 y1 y2 y3 y4 y5 y6)) x0 x1 x2 := by kernel_rfl
theorem e1023 {c36 c49 c50 c51 n J x0 x1} : A c36 c49 c50 c51 n J 1023 [] (s1023 x0 x1) = b1023 c36 c49 c50 c51 x0 x1 := by kernel_rfl
theorem e8181 {c36 c49 c50 c51 n J m x0 x1 x2 x3 x4 x5 x6} : A c36 c49 c50 c51 n J 8181 [m + 1] (s8181 x0 x1 x2 x3 x4 x5 x6) = b8181 c36 c49 c50 c51 (fun y0 y1 => J 1023 (A c36 c49 c50 c51 n J 1023 []) (s1023 y0 y1)) (fun y0 y1 y2 y3 y4 y5 y6 => J 8181 (A c36 c49 c50 c51 n J 8181 [m]) (s8181 y0 y1 y2 y3 y4 y5 y6)) x0 x1 x2 x3 x4 x5 x6 := by kernel_rfl
noncomputable abbrev I (n : Nat) := A (nat_Trail.f n) (nat_big.f n) (nat_size.f n) (nat_cut.f n) n idJ
theorem q1023 (n x0 x1) : I n 1023 [] (s1023 x0 x1) = l1023 n x0 x1 := e1023
theorem q8181 (n m) : ∀ x0 x1 x2 x3 x4 x5 x6, I n 8181 [m] (s8181 x0 x1 x2 x3 x4 x5 x6) = l8181 n m x0 x1 x2 x3 x4 x5 x6 := by
  induction m with
  | zero => intros; rfl
  | succ m ih =>
    intros
    exact e8181.trans (Eq.trans (cf7 (congr (congrArg (b8181 _ _ _ _) (fu2 (q1023 n))) (fu7 (ih))) _ _ _ _ _ _ _) rfl)
theorem q31 (n x0 x1 x2) : I n 31 [] (s31 x0 x1 x2) = l31 n x0 x1 x2 := e31.trans (Eq.trans (cf3 (congrArg (b31 _ _ _ _) (fu7 (q8181 n n))) _ _ _) rfl)
theorem ok {n  l0 a1 r} (h : f n l0 a1 = some r) : CallD Tryd.prog HW 55 [.ro .u64 l0, .int .i64 a1] (sg.enc r) :=
  fun_some hwS Tryd.func55 (by kernel_rfl) (body := code) (by kernel_rfl) tys_ok (c := cfg (nat_Trail.f n) (nat_big.f n) (nat_size.f n) (nat_cut.f n)) ⟨(orCall_ok (nat_Trail.call_ok (n := n)) (orCall_ok (nat_big.call_ok (n := n)) (orCall_ok (nat_size.call_ok (n := n)) (orCall_ok (nat_cut.call_ok (n := n)) noCall_ok)))), noQ_ok'⟩ ⟨noW_ok, noP_ok'⟩ (by kernel_rfl) (by kernel_rfl) (Nat.le_of_ble_eq_true (by kernel_rfl)) (Eq.trans ((e0 (n := n)).trans (Eq.trans (cf2 (congrArg (b0 _ _ _ _) (fu3 (q31 n))) _ _) rfl)) h)
noncomputable def call {α : Type} (g : T16) (ds : List D) (K : List D→Ω α) : Ω α := match ds with
  | [.ro .u64 l0, .int .i64 a1] => (g l0 a1).bind fun r => K (sg.enc r)
  | _ => none
theorem call_ok {α : Type} {n : Nat} : COK Tryd.prog HW 55 (call (α := α) (f n)) := fun _ _ _ h => by
  unfold call at h; split at h
  · exact cok h fun _ => ok
  · cases h
end nat_Shr
/-! ### nat_ToUint: function 65 -/
namespace nat_ToUint
noncomputable def b0 (c50 : T1) (l0 : Λ) : Ω (Int × Bool) := ((c50 l0).bind fun t1 => (if t1 = 0 then some (0, true) else (if t1 = 1 then (if 0 < (ln l0) then some (rd l0 0, true) else none) else some (0, false))))
noncomputable def f (n : Nat) (l0 : Λ) : Ω (Int × Bool) := b0 (nat_size.f n) l0
noncomputable def sg : Sig (Int × Bool) := s2 (sInt .u64) (s1 (sBool))
noncomputable def code : Code := (Tryd.f65.body).getD .skip
noncomputable def cfg (c50 : T1) : Cfg (Int × Bool) := { T := tys, call := orCall 50 (nat_size.call c50) (noCall), lay := lays }
noncomputable def cuts : List (Nat × List (Nat × Want)) := []
theorem e0 {c50 n J l0} : afun (cfg c50) J cuts n code Tryd.f65.results.toList [false, false] [.ro .u64 l0] sg.out = b0 c50 l0 := by kernel_rfl
theorem ok {n  l0 r} (h : f n l0 = some r) : CallD Tryd.prog HW 65 [.ro .u64 l0] (sg.enc r) :=
  fun_some hwS Tryd.func65 (by kernel_rfl) (body := code) (by kernel_rfl) tys_ok (c := cfg (nat_size.f n)) ⟨(orCall_ok (nat_size.call_ok (n := n)) noCall_ok), noQ_ok'⟩ ⟨noW_ok, noP_ok'⟩ (by kernel_rfl) (by kernel_rfl) (Nat.le_of_ble_eq_true (by kernel_rfl)) (Eq.trans ((e0 (n := n))) h)
noncomputable def call {α : Type} (g : T34) (ds : List D) (K : List D→Ω α) : Ω α := match ds with
  | [.ro .u64 l0] => (g l0).bind fun r => K (sg.enc r)
  | _ => none
theorem call_ok {α : Type} {n : Nat} : COK Tryd.prog HW 65 (call (α := α) (f n)) := fun _ _ _ h => by
  unfold call at h; split at h
  · exact cok h fun _ => ok
  · cases h
end nat_ToUint
/-! ### nat_Bit: function 66 -/
namespace nat_Bit
noncomputable def b0 (l0 : Λ) (a1 : Int) : Ω (Int) := (if a1 < 0 then some 0 else (if (wrap64 (Int.tdiv a1 64)) ≥ (ln l0) then some 0 else (if 0 ≤ (wrap64 (Int.tdiv a1 64)) then (if (wrap64 (Int.tdiv a1 64)) < (ln l0) then (if 0 ≤ (IntKind.u64.wrap (Int.tmod a1 64)) then some (wrap64 (Go.bits .and .u64 (shr .u64 (rd l0 (wrap64 (Int.tdiv a1 64))) (IntKind.u64.wrap (Int.tmod a1 64))) 1)) else none) else none) else none)))
noncomputable def f (l0 : Λ) (a1 : Int) : Ω (Int) := b0 l0 a1
noncomputable def sg : Sig (Int) := s1 (sInt .i64)
noncomputable def code : Code := (Tryd.f66.body).getD .skip
noncomputable def cfg : Cfg (Int) := { T := tys, call := noCall, lay := lays }
noncomputable def cuts : List (Nat × List (Nat × Want)) := []
theorem e0 {n J l0 a1} : afun cfg J cuts n code Tryd.f66.results.toList [false] [.ro .u64 l0, .int .i64 a1] sg.out = b0 l0 a1 := by kernel_rfl
theorem ok {l0 a1 r} (h : f l0 a1 = some r) : CallD Tryd.prog HW 66 [.ro .u64 l0, .int .i64 a1] (sg.enc r) :=
  fun_some hwS Tryd.func66 (by kernel_rfl) (body := code) (by kernel_rfl) tys_ok (c := cfg) ⟨noCall_ok, noQ_ok'⟩ ⟨noW_ok, noP_ok'⟩ (by kernel_rfl) (by kernel_rfl) (Nat.le_of_ble_eq_true (by kernel_rfl)) (Eq.trans ((e0 (n := 0))) h)
noncomputable def call {α : Type} (g : T23) (ds : List D) (K : List D→Ω α) : Ω α := match ds with
  | [.ro .u64 l0, .int .i64 a1] => (g l0 a1).bind fun r => K (sg.enc r)
  | _ => none
theorem call_ok {α : Type} : COK Tryd.prog HW 66 (call (α := α) f) := fun _ _ _ h => by
  unfold call at h; split at h
  · exact cok h fun _ => ok
  · cases h
end nat_Bit
/-! ### ieee_magnitude: function 44 -/
namespace ieee_magnitude
noncomputable def b0 (c35 c36 : T1) (c55 : T16) (c65 : T34) (c66 : T23) (k255 : T10) (l0 : Λ) (a1 : Int) (a2 : Bool) : Ω (Int) := ((c35 l0).bind fun t1 => (if (ln l0) = 0 then some 0 else (if (wrap64 (t1 + a1)) < (-1074) then some 0 else (if (wrap64 (t1 + a1)) > 1024 then some 9218868437227405312 else (if (wrap64 ((mx (wrap64 ((wrap64 (t1 + a1)) - 53)) (-1074)) - a1)) ≤ 0 then (if 0 < (ln l0) then (if 0 ≤ (IntKind.u64.wrap (wrap64 (-(wrap64 ((mx (wrap64 ((wrap64 (t1 + a1)) - 53)) (-1074)) - a1))))) then k255 (mx (wrap64 ((wrap64 (t1 + a1)) - 53)) (-1074)) (shl .u64 (rd l0 0) (IntKind.u64.wrap (wrap64 (-(wrap64 ((mx (wrap64 ((wrap64 (t1 + a1)) - 53)) (-1074)) - a1)))))) else none) else none) else ((c55 l0 (wrap64 ((mx (wrap64 ((wrap64 (t1 + a1)) - 53)) (-1074)) - a1))).bind fun t2 => ((c65 t2.1).bind fun t3 => ((c66 l0 (wrap64 ((wrap64 ((mx (wrap64 ((wrap64 (t1 + a1)) - 53)) (-1074)) - a1)) - 1))).bind fun t4 => (if t4 = 1 then (if a2 = true then k255 (mx (wrap64 ((wrap64 (t1 + a1)) - 53)) (-1074)) (IntKind.u64.wrap (t3.1 + 1)) else (if (Go.bits .and .u64 t3.1 1) = 1 then k255 (mx (wrap64 ((wrap64 (t1 + a1)) - 53)) (-1074)) (IntKind.u64.wrap (t3.1 + 1)) else ((c36 l0).bind fun t5 => (if t5 < (wrap64 ((wrap64 ((mx (wrap64 ((wrap64 (t1 + a1)) - 53)) (-1074)) - a1)) - 1)) then k255 (mx (wrap64 ((wrap64 (t1 + a1)) - 53)) (-1074)) (IntKind.u64.wrap (t3.1 + 1)) else k255 (mx (wrap64 ((wrap64 (t1 + a1)) - 53)) (-1074)) t3.1)))) else k255 (mx (wrap64 ((wrap64 (t1 + a1)) - 53)) (-1074)) t3.1)))))))))
noncomputable def b255 (c35 c36 : T1) (c55 : T16) (c65 : T34) (c66 : T23) (x0 x1 : Int) : Ω (Int) := some (IntKind.u64.wrap ((IntKind.u64.wrap ((IntKind.u64.wrap (wrap64 (x0 - (-1074)))) * 4503599627370496)) + x1))
noncomputable def l255 (n : Nat) (x0 x1 : Int) : Ω (Int) := b255 (nat_BitLen.f n) (nat_Trail.f n) (nat_Shr.f n) (nat_ToUint.f n) nat_Bit.f x0 x1
noncomputable def f (n : Nat) (l0 : Λ) (a1 : Int) (a2 : Bool) : Ω (Int) := b0 (nat_BitLen.f n) (nat_Trail.f n) (nat_Shr.f n) (nat_ToUint.f n) nat_Bit.f (l255 n) l0 a1 a2
noncomputable def sg : Sig (Int) := s1 (sInt .u64)
noncomputable def code : Code := (Tryd.f44.body).getD .skip
noncomputable def cfg (c35 c36 : T1) (c55 : T16) (c65 : T34) (c66 : T23) : Cfg (Int) := { T := tys, call := orCall 35 (nat_BitLen.call c35) (orCall 36 (nat_Trail.call c36) (orCall 55 (nat_Shr.call c55) (orCall 65 (nat_ToUint.call c65) (orCall 66 (nat_Bit.call c66) (noCall))))), lay := lays }
noncomputable def cuts : List (Nat × List (Nat × Want)) := [(255, [(8, .keep), (10, .keep)])]
noncomputable def s255 (x0 x1 : Int) : ASt := ⟨[(8, .int .i64 x0), (10, .int .u64 x1)], []⟩
noncomputable def A (c35 c36 : T1) (c55 : T16) (c65 : T34) (c66 : T23) (n : Nat) (J : Jt (Int)) (q : Nat) (ms : List Nat) : ASt→Ω (Int) := acont (cfg c35 c36 c55 c65 c66) J cuts n q code 1 ms (aend (cfg c35 c36 c55 c65 c66) Tryd.f44.results.toList [false] sg.out)
theorem e0 {c35 c36 c55 c65 c66 n J l0 a1 a2} : afun (cfg c35 c36 c55 c65 c66) J cuts n code Tryd.f44.results.toList [false] [.ro .u64 l0, .int .i64 a1, .bool a2] sg.out = b0 c35 c36 c55 c65 c66 (fun y0 y1 => J 255 (A c35 c36 c55 c65 c66 n J 255 []) (s255 y0 y1)) l0 a1 a2 := by kernel_rfl
theorem e255 {c35 c36 c55 c65 c66 n J x0 x1} : A c35 c36 c55 c65 c66 n J 255 [] (s255 x0 x1) = b255 c35 c36 c55 c65 c66 x0 x1 := by kernel_rfl
noncomputable abbrev I (n : Nat) := A (nat_BitLen.f n) (nat_Trail.f n) (nat_Shr.f n) (nat_ToUint.f n) nat_Bit.f n idJ
theorem q255 (n x0 x1) : I n 255 [] (s255 x0 x1) = l255 n x0 x1 := e255
theorem ok {n  l0 a1 a2 r} (h : f n l0 a1 a2 = some r) : CallD Tryd.prog HW 44 [.ro .u64 l0, .int .i64 a1, .bool a2] (sg.enc r) :=
  fun_some hwS Tryd.func44 (by kernel_rfl) (body := code) (by kernel_rfl) tys_ok (c := cfg (nat_BitLen.f n) (nat_Trail.f n) (nat_Shr.f n) (nat_ToUint.f n) nat_Bit.f) ⟨(orCall_ok (nat_BitLen.call_ok (n := n)) (orCall_ok (nat_Trail.call_ok (n := n)) (orCall_ok (nat_Shr.call_ok (n := n)) (orCall_ok (nat_ToUint.call_ok (n := n)) (orCall_ok nat_Bit.call_ok noCall_ok))))), noQ_ok'⟩ ⟨noW_ok, noP_ok'⟩ (by kernel_rfl) (by kernel_rfl) (Nat.le_of_ble_eq_true (by kernel_rfl)) (Eq.trans ((e0 (n := n)).trans (Eq.trans (cf3 (congrArg (b0 _ _ _ _ _) (fu2 (q255 n))) _ _ _) rfl)) h)
noncomputable def call {α : Type} (g : T44) (ds : List D) (K : List D→Ω α) : Ω α := match ds with
  | [.ro .u64 l0, .int .i64 a1, .bool a2] => (g l0 a1 a2).bind fun r => K (sg.enc r)
  | _ => none
theorem call_ok {α : Type} {n : Nat} : COK Tryd.prog HW 44 (call (α := α) (f n)) := fun _ _ _ h => by
  unfold call at h; split at h
  · exact cok h fun _ => ok
  · cases h
end ieee_magnitude
/-! ### ieee_Neg: function 16 -/
namespace ieee_Neg
noncomputable def b0 (a0 : Int) : Ω (Int) := some (Go.bits .xor .u64 a0 9223372036854775808)
noncomputable def f (a0 : Int) : Ω (Int) := b0 a0
noncomputable def sg : Sig (Int) := s1 (sInt .u64)
noncomputable def code : Code := (Tryd.f16.body).getD .skip
noncomputable def cfg : Cfg (Int) := { T := tys, call := noCall, lay := lays }
noncomputable def cuts : List (Nat × List (Nat × Want)) := []
theorem e0 {n J a0} : afun cfg J cuts n code Tryd.f16.results.toList [false] [.int .u64 a0] sg.out = b0 a0 := by kernel_rfl
theorem ok {a0 r} (h : f a0 = some r) : CallD Tryd.prog HW 16 [.int .u64 a0] (sg.enc r) :=
  fun_some hwS Tryd.func16 (by kernel_rfl) (body := code) (by kernel_rfl) tys_ok (c := cfg) ⟨noCall_ok, noQ_ok'⟩ ⟨noW_ok, noP_ok'⟩ (by kernel_rfl) (by kernel_rfl) (Nat.le_of_ble_eq_true (by kernel_rfl)) (Eq.trans ((e0 (n := 0))) h)
noncomputable def call {α : Type} (g : T0) (ds : List D) (K : List D→Ω α) : Ω α := match ds with
  | [.int .u64 a0] => (g a0).bind fun r => K (sg.enc r)
  | _ => none
theorem call_ok {α : Type} : COK Tryd.prog HW 16 (call (α := α) f) := fun _ _ _ h => by
  unfold call at h; split at h
  · exact cok h fun _ => ok
  · cases h
end ieee_Neg
/-! ### ieee_Round: function 27 -/
namespace ieee_Round
noncomputable def b0 (c16 : T0) (c32 : T14) (c44 : T44) (c45 : T0) (a0 : Bool) (l1 : Λ) (a2 : Int) (a3 : Bool) : Ω (Int × Int) := ((c32 l1 0).bind fun t1 => (if ¬ t1.2 = 0 then some (0, t1.2) else ((c45 a2).bind fun t2 => ((c44 t1.1 t2 a3).bind fun t3 => (if a0 = true then ((c16 t3).bind fun t4 => some (t4, 0)) else some (t3, 0))))))
noncomputable def f (n : Nat) (a0 : Bool) (l1 : Λ) (a2 : Int) (a3 : Bool) : Ω (Int × Int) := b0 ieee_Neg.f (nat_Shl.f n) (ieee_magnitude.f n) ieee_near.f a0 l1 a2 a3
noncomputable def sg : Sig (Int × Int) := s2 (sInt .u64) (s1 (sInt .i64))
noncomputable def code : Code := (Tryd.f27.body).getD .skip
noncomputable def cfg (c16 : T0) (c32 : T14) (c44 : T44) (c45 : T0) : Cfg (Int × Int) := { T := tys, call := orCall 16 (ieee_Neg.call c16) (orCall 32 (nat_Shl.call c32) (orCall 44 (ieee_magnitude.call c44) (orCall 45 (ieee_near.call c45) (noCall)))), lay := lays }
noncomputable def cuts : List (Nat × List (Nat × Want)) := []
theorem e0 {c16 c32 c44 c45 n J a0 l1 a2 a3} : afun (cfg c16 c32 c44 c45) J cuts n code Tryd.f27.results.toList [false, false] [.bool a0, .ro .u64 l1, .int .i64 a2, .bool a3] sg.out = b0 c16 c32 c44 c45 a0 l1 a2 a3 := by kernel_rfl
theorem ok {n  a0 l1 a2 a3 r} (h : f n a0 l1 a2 a3 = some r) : CallD Tryd.prog HW 27 [.bool a0, .ro .u64 l1, .int .i64 a2, .bool a3] (sg.enc r) :=
  fun_some hwS Tryd.func27 (by kernel_rfl) (body := code) (by kernel_rfl) tys_ok (c := cfg ieee_Neg.f (nat_Shl.f n) (ieee_magnitude.f n) ieee_near.f) ⟨(orCall_ok ieee_Neg.call_ok (orCall_ok (nat_Shl.call_ok (n := n)) (orCall_ok (ieee_magnitude.call_ok (n := n)) (orCall_ok ieee_near.call_ok noCall_ok)))), noQ_ok'⟩ ⟨noW_ok, noP_ok'⟩ (by kernel_rfl) (by kernel_rfl) (Nat.le_of_ble_eq_true (by kernel_rfl)) (Eq.trans ((e0 (n := n))) h)
noncomputable def call {α : Type} (g : T11) (ds : List D) (K : List D→Ω α) : Ω α := match ds with
  | [.bool a0, .ro .u64 l1, .int .i64 a2, .bool a3] => (g a0 l1 a2 a3).bind fun r => K (sg.enc r)
  | _ => none
theorem call_ok {α : Type} {n : Nat} : COK Tryd.prog HW 27 (call (α := α) (f n)) := fun _ _ _ h => by
  unfold call at h; split at h
  · exact cok h fun _ => ok
  · cases h
end ieee_Round
/-! ### remain_Fmod: function 10 -/
namespace remain_Fmod
noncomputable def b0 (c23 : T6) (c24 : T15) (c25 : T12) (c26 : T0) (c27 : T11) (k63 : Int→Int→Bool→Int→Int→Int→Ω (Int)) (a0 a1 : Int) : Ω (Int) := ((c23 a0).bind fun t1 => ((c23 a1).bind fun t2 => ((c24 t1.1 t1.2.1 t1.2.2.1 t1.2.2.2 t2.1 t2.2.1 t2.2.2.1 t2.2.2.2 a0).bind fun t3 => (if t3.2 = true then some t3.1 else (if (wrap64 (t1.2.2.2 - t2.2.2.2)) ≥ 0 then ((c25 t1.2.2.1 (wrap64 (t1.2.2.2 - t2.2.2.2)) t2.2.2.1).bind fun t4 => k63 t4 t2.2.2.2 t1.1 t1.2.1 t1.2.2.1 t1.2.2.2) else ((c26 t2.2.2.1).bind fun t5 => (if (wrap64 (t5 - (wrap64 (t1.2.2.2 - t2.2.2.2)))) > 64 then some a0 else (if 0 ≤ (wrap64 (-(wrap64 (t1.2.2.2 - t2.2.2.2)))) then (if (shl .u64 t2.2.2.1 (wrap64 (-(wrap64 (t1.2.2.2 - t2.2.2.2))))) = 0 then none else k63 (Int.tmod t1.2.2.1 (shl .u64 t2.2.2.1 (wrap64 (-(wrap64 (t1.2.2.2 - t2.2.2.2)))))) t1.2.2.2 t1.1 t1.2.1 t1.2.2.1 t1.2.2.2) else none))))))))
noncomputable def b63 (c23 : T6) (c24 : T15) (c25 : T12) (c26 : T0) (c27 : T11) (x0 x1 : Int) (x2 : Bool) (x3 x4 x5 : Int) : Ω (Int) := ((c27 x2 [x0] x1 false).bind fun t1 => some t1.1)
noncomputable def l63 (n : Nat) (x0 x1 : Int) (x2 : Bool) (x3 x4 x5 : Int) : Ω (Int) := b63 ieee_Decode.f remain_special.f (remain_residue.f n) bits_Len64.f (ieee_Round.f n) x0 x1 x2 x3 x4 x5
noncomputable def f (n : Nat) (a0 a1 : Int) : Ω (Int) := b0 ieee_Decode.f remain_special.f (remain_residue.f n) bits_Len64.f (ieee_Round.f n) (l63 n) a0 a1
noncomputable def sg : Sig (Int) := s1 (sInt .u64)
noncomputable def code : Code := (Tryd.f10.body).getD .skip
noncomputable def cfg (c23 : T6) (c24 : T15) (c25 : T12) (c26 : T0) (c27 : T11) : Cfg (Int) := { T := tys, call := orCall 23 (ieee_Decode.call c23) (orCall 24 (remain_special.call c24) (orCall 25 (remain_residue.call c25) (orCall 26 (bits_Len64.call c26) (orCall 27 (ieee_Round.call c27) (noCall))))), lay := lays }
noncomputable def cuts : List (Nat × List (Nat × Want)) := [(63, [(5, .keep), (9, .keep), (10, .keep)])]
noncomputable def s63 (x0 x1 : Int) (x2 : Bool) (x3 x4 x5 : Int) : ASt := ⟨[(5, .ptr 0 0), (9, .int .u64 x0), (10, .int .i64 x1)], [.cells 46 [.bool x2, .int .i64 x3, .int .u64 x4, .int .i64 x5]]⟩
noncomputable def A (c23 : T6) (c24 : T15) (c25 : T12) (c26 : T0) (c27 : T11) (n : Nat) (J : Jt (Int)) (q : Nat) (ms : List Nat) : ASt→Ω (Int) := acont (cfg c23 c24 c25 c26 c27) J cuts n q code 1 ms (aend (cfg c23 c24 c25 c26 c27) Tryd.f10.results.toList [false] sg.out)
theorem e0 {c23 c24 c25 c26 c27 n J a0 a1} : afun (cfg c23 c24 c25 c26 c27) J cuts n code Tryd.f10.results.toList [false] [.int .u64 a0, .int .u64 a1] sg.out = b0 c23 c24 c25 c26 c27 (fun y0 y1 y2 y3 y4 y5 => J 63 (A c23 c24 c25 c26 c27 n J 63 []) (s63 y0 y1 y2 y3 y4 y5)) a0 a1 := by kernel_rfl
theorem e63 {c23 c24 c25 c26 c27 n J x0 x1 x2 x3 x4 x5} : A c23 c24 c25 c26 c27 n J 63 [] (s63 x0 x1 x2 x3 x4 x5) = b63 c23 c24 c25 c26 c27 x0 x1 x2 x3 x4 x5 := by kernel_rfl
noncomputable abbrev I (n : Nat) := A ieee_Decode.f remain_special.f (remain_residue.f n) bits_Len64.f (ieee_Round.f n) n idJ
theorem q63 (n x0 x1 x2 x3 x4 x5) : I n 63 [] (s63 x0 x1 x2 x3 x4 x5) = l63 n x0 x1 x2 x3 x4 x5 := e63
theorem ok {n  a0 a1 r} (h : f n a0 a1 = some r) : CallD Tryd.prog HW 10 [.int .u64 a0, .int .u64 a1] (sg.enc r) :=
  fun_some hwS Tryd.func10 (by kernel_rfl) (body := code) (by kernel_rfl) tys_ok (c := cfg ieee_Decode.f remain_special.f (remain_residue.f n) bits_Len64.f (ieee_Round.f n)) ⟨(orCall_ok ieee_Decode.call_ok (orCall_ok remain_special.call_ok (orCall_ok (remain_residue.call_ok (n := n)) (orCall_ok bits_Len64.call_ok (orCall_ok (ieee_Round.call_ok (n := n)) noCall_ok))))), noQ_ok'⟩ ⟨noW_ok, noP_ok'⟩ (by kernel_rfl) (by kernel_rfl) (Nat.le_of_ble_eq_true (by kernel_rfl)) (Eq.trans ((e0 (n := n)).trans (Eq.trans (cf2 (congrArg (b0 _ _ _ _ _) (fu6 (q63 n))) _ _) rfl)) h)
noncomputable def call {α : Type} (g : T10) (ds : List D) (K : List D→Ω α) : Ω α := match ds with
  | [.int .u64 a0, .int .u64 a1] => (g a0 a1).bind fun r => K (sg.enc r)
  | _ => none
theorem call_ok {α : Type} {n : Nat} : COK Tryd.prog HW 10 (call (α := α) (f n)) := fun _ _ _ h => by
  unfold call at h; split at h
  · exact cok h fun _ => ok
  · cases h
end remain_Fmod
/-! ### ieee_Rank: function 21 -/
namespace ieee_Rank
noncomputable def b0 (c13 : T0) (a0 : Int) : Ω (Int × Bool) := ((c13 a0).bind fun t1 => (if (wrap64 t1) > 9218868437227405312 then some (0, false) else (if ¬ (Go.bits .and .u64 a0 9223372036854775808) = 0 then some (wrap64 (-(wrap64 t1)), true) else some (wrap64 t1, true))))
noncomputable def f (a0 : Int) : Ω (Int × Bool) := b0 ieee_Abs.f a0
noncomputable def sg : Sig (Int × Bool) := s2 (sInt .i64) (s1 (sBool))
noncomputable def code : Code := (Tryd.f21.body).getD .skip
noncomputable def cfg (c13 : T0) : Cfg (Int × Bool) := { T := tys, call := orCall 13 (ieee_Abs.call c13) (noCall), lay := lays }
noncomputable def cuts : List (Nat × List (Nat × Want)) := []
theorem e0 {c13 n J a0} : afun (cfg c13) J cuts n code Tryd.f21.results.toList [false, false] [.int .u64 a0] sg.out = b0 c13 a0 := by kernel_rfl
theorem ok {a0 r} (h : f a0 = some r) : CallD Tryd.prog HW 21 [.int .u64 a0] (sg.enc r) :=
  fun_some hwS Tryd.func21 (by kernel_rfl) (body := code) (by kernel_rfl) tys_ok (c := cfg ieee_Abs.f) ⟨(orCall_ok ieee_Abs.call_ok noCall_ok), noQ_ok'⟩ ⟨noW_ok, noP_ok'⟩ (by kernel_rfl) (by kernel_rfl) (Nat.le_of_ble_eq_true (by kernel_rfl)) (Eq.trans ((e0 (n := 0))) h)
noncomputable def call {α : Type} (g : T45) (ds : List D) (K : List D→Ω α) : Ω α := match ds with
  | [.int .u64 a0] => (g a0).bind fun r => K (sg.enc r)
  | _ => none
theorem call_ok {α : Type} : COK Tryd.prog HW 21 (call (α := α) f) := fun _ _ _ h => by
  unfold call at h; split at h
  · exact cok h fun _ => ok
  · cases h
end ieee_Rank
/-! ### ieee_order: function 28 -/
namespace ieee_order
noncomputable def b0 (a0 a1 : Int) : Ω (Int) := (if a0 < a1 then some (-1) else (if a0 > a1 then some 1 else some 0))
noncomputable def f (a0 a1 : Int) : Ω (Int) := b0 a0 a1
noncomputable def sg : Sig (Int) := s1 (sInt .i64)
noncomputable def code : Code := (Tryd.f28.body).getD .skip
noncomputable def cfg : Cfg (Int) := { T := tys, call := noCall, lay := lays }
noncomputable def cuts : List (Nat × List (Nat × Want)) := []
theorem e0 {n J a0 a1} : afun cfg J cuts n code Tryd.f28.results.toList [false] [.int .i64 a0, .int .i64 a1] sg.out = b0 a0 a1 := by kernel_rfl
theorem ok {a0 a1 r} (h : f a0 a1 = some r) : CallD Tryd.prog HW 28 [.int .i64 a0, .int .i64 a1] (sg.enc r) :=
  fun_some hwS Tryd.func28 (by kernel_rfl) (body := code) (by kernel_rfl) tys_ok (c := cfg) ⟨noCall_ok, noQ_ok'⟩ ⟨noW_ok, noP_ok'⟩ (by kernel_rfl) (by kernel_rfl) (Nat.le_of_ble_eq_true (by kernel_rfl)) (Eq.trans ((e0 (n := 0))) h)
noncomputable def call {α : Type} (g : T10) (ds : List D) (K : List D→Ω α) : Ω α := match ds with
  | [.int .i64 a0, .int .i64 a1] => (g a0 a1).bind fun r => K (sg.enc r)
  | _ => none
theorem call_ok {α : Type} : COK Tryd.prog HW 28 (call (α := α) f) := fun _ _ _ h => by
  unfold call at h; split at h
  · exact cok h fun _ => ok
  · cases h
end ieee_order
/-! ### ieee_Compare: function 12 -/
namespace ieee_Compare
noncomputable def b0 (c21 : T45) (c28 : T10) (a0 a1 : Int) : Ω (Int × Bool) := ((c21 a0).bind fun t1 => ((c21 a1).bind fun t2 => (if (!t1.2) = true then some (0, false) else (if (!t2.2) = true then some (0, false) else ((c28 t1.1 t2.1).bind fun t3 => some (t3, true))))))
noncomputable def f (a0 a1 : Int) : Ω (Int × Bool) := b0 ieee_Rank.f ieee_order.f a0 a1
noncomputable def sg : Sig (Int × Bool) := s2 (sInt .i64) (s1 (sBool))
noncomputable def code : Code := (Tryd.f12.body).getD .skip
noncomputable def cfg (c21 : T45) (c28 : T10) : Cfg (Int × Bool) := { T := tys, call := orCall 21 (ieee_Rank.call c21) (orCall 28 (ieee_order.call c28) (noCall)), lay := lays }
noncomputable def cuts : List (Nat × List (Nat × Want)) := []
theorem e0 {c21 c28 n J a0 a1} : afun (cfg c21 c28) J cuts n code Tryd.f12.results.toList [false, false] [.int .u64 a0, .int .u64 a1] sg.out = b0 c21 c28 a0 a1 := by kernel_rfl
theorem ok {a0 a1 r} (h : f a0 a1 = some r) : CallD Tryd.prog HW 12 [.int .u64 a0, .int .u64 a1] (sg.enc r) :=
  fun_some hwS Tryd.func12 (by kernel_rfl) (body := code) (by kernel_rfl) tys_ok (c := cfg ieee_Rank.f ieee_order.f) ⟨(orCall_ok ieee_Rank.call_ok (orCall_ok ieee_order.call_ok noCall_ok)), noQ_ok'⟩ ⟨noW_ok, noP_ok'⟩ (by kernel_rfl) (by kernel_rfl) (Nat.le_of_ble_eq_true (by kernel_rfl)) (Eq.trans ((e0 (n := 0))) h)
noncomputable def call {α : Type} (g : T29) (ds : List D) (K : List D→Ω α) : Ω α := match ds with
  | [.int .u64 a0, .int .u64 a1] => (g a0 a1).bind fun r => K (sg.enc r)
  | _ => none
theorem call_ok {α : Type} : COK Tryd.prog HW 12 (call (α := α) f) := fun _ _ _ h => by
  unfold call at h; split at h
  · exact cok h fun _ => ok
  · cases h
end ieee_Compare
/-! ### remain_signed: function 29 -/
namespace remain_signed
noncomputable def b0 (a0 : Bool) (a1 : Int) : Ω (Int) := (if a0 = true then some (Go.bits .or .u64 a1 9223372036854775808) else some (Go.bits .andNot .u64 a1 9223372036854775808))
noncomputable def f (a0 : Bool) (a1 : Int) : Ω (Int) := b0 a0 a1
noncomputable def sg : Sig (Int) := s1 (sInt .u64)
noncomputable def code : Code := (Tryd.f29.body).getD .skip
noncomputable def cfg : Cfg (Int) := { T := tys, call := noCall, lay := lays }
noncomputable def cuts : List (Nat × List (Nat × Want)) := []
theorem e0 {n J a0 a1} : afun cfg J cuts n code Tryd.f29.results.toList [false] [.bool a0, .int .u64 a1] sg.out = b0 a0 a1 := by kernel_rfl
theorem ok {a0 a1 r} (h : f a0 a1 = some r) : CallD Tryd.prog HW 29 [.bool a0, .int .u64 a1] (sg.enc r) :=
  fun_some hwS Tryd.func29 (by kernel_rfl) (body := code) (by kernel_rfl) tys_ok (c := cfg) ⟨noCall_ok, noQ_ok'⟩ ⟨noW_ok, noP_ok'⟩ (by kernel_rfl) (by kernel_rfl) (Nat.le_of_ble_eq_true (by kernel_rfl)) (Eq.trans ((e0 (n := 0))) h)
noncomputable def call {α : Type} (g : T18) (ds : List D) (K : List D→Ω α) : Ω α := match ds with
  | [.bool a0, .int .u64 a1] => (g a0 a1).bind fun r => K (sg.enc r)
  | _ => none
theorem call_ok {α : Type} : COK Tryd.prog HW 29 (call (α := α) f) := fun _ _ _ h => by
  unfold call at h; split at h
  · exact cok h fun _ => ok
  · cases h
end remain_signed
/-! ### remain_Remainder: function 14 -/
namespace remain_Remainder
noncomputable def b0 (c23 : T6) (c24 : T15) (c25 : T12) (c26 : T0) (c27 : T11) (c29 : T18) (k63 : Int→Int→Int→Bool→Int→Int→Int→Ω (Int)) (a0 a1 : Int) : Ω (Int) := ((c23 a0).bind fun t1 => ((c23 a1).bind fun t2 => ((c24 t1.1 t1.2.1 t1.2.2.1 t1.2.2.2 t2.1 t2.2.1 t2.2.2.1 t2.2.2.2 a0).bind fun t3 => (if t3.2 = true then some t3.1 else (if (wrap64 (t1.2.2.2 - t2.2.2.2)) ≥ 0 then ((c25 t1.2.2.1 (wrap64 (t1.2.2.2 - t2.2.2.2)) (IntKind.u64.wrap (2 * t2.2.2.1))).bind fun t4 => k63 t4 t2.2.2.2 t2.2.2.1 t1.1 t1.2.1 t1.2.2.1 t1.2.2.2) else ((c26 t2.2.2.1).bind fun t5 => (if (wrap64 (t5 - (wrap64 (t1.2.2.2 - t2.2.2.2)))) > 60 then some a0 else (if 0 ≤ (wrap64 (-(wrap64 (t1.2.2.2 - t2.2.2.2)))) then (if (IntKind.u64.wrap (2 * (shl .u64 t2.2.2.1 (wrap64 (-(wrap64 (t1.2.2.2 - t2.2.2.2))))))) = 0 then none else k63 (Int.tmod t1.2.2.1 (IntKind.u64.wrap (2 * (shl .u64 t2.2.2.1 (wrap64 (-(wrap64 (t1.2.2.2 - t2.2.2.2)))))))) t1.2.2.2 (shl .u64 t2.2.2.1 (wrap64 (-(wrap64 (t1.2.2.2 - t2.2.2.2))))) t1.1 t1.2.1 t1.2.2.1 t1.2.2.2) else none))))))))
noncomputable def b63 (c23 : T6) (c24 : T15) (c25 : T12) (c26 : T0) (c27 : T11) (c29 : T18) (k511 : Int→Int→Int→Bool→Bool→Int→Int→Int→Ω (Int)) (x0 x1 x2 : Int) (x3 : Bool) (x4 x5 x6 : Int) : Ω (Int) := (if x0 ≥ x2 then k511 (IntKind.u64.wrap (x0 - x2)) x1 x2 x3 (decide (x0 ≥ x2)) x4 x5 x6 else k511 x0 x1 x2 x3 (decide (x0 ≥ x2)) x4 x5 x6)
noncomputable def b511 (c23 : T6) (c24 : T15) (c25 : T12) (c26 : T0) (c27 : T11) (c29 : T18) (k1023 : Int→Int→Bool→Bool→Int→Int→Int→Ω (Int)) (x0 x1 x2 : Int) (x3 x4 : Bool) (x5 x6 x7 : Int) : Ω (Int) := (if (IntKind.u64.wrap (2 * x0)) > x2 then k1023 (IntKind.u64.wrap (x2 - x0)) x1 (!x3) x3 x5 x6 x7 else (if (IntKind.u64.wrap (2 * x0)) = x2 then (if x4 = true then k1023 (IntKind.u64.wrap (x2 - x0)) x1 (!x3) x3 x5 x6 x7 else k1023 x0 x1 x3 x3 x5 x6 x7) else k1023 x0 x1 x3 x3 x5 x6 x7))
noncomputable def b1023 (c23 : T6) (c24 : T15) (c25 : T12) (c26 : T0) (c27 : T11) (c29 : T18) (x0 x1 : Int) (x2 x3 : Bool) (x4 x5 x6 : Int) : Ω (Int) := (if x0 = 0 then ((c29 x3 0).bind fun t1 => some t1) else ((c27 x2 [x0] x1 false).bind fun t2 => some t2.1))
noncomputable def l1023 (n : Nat) (x0 x1 : Int) (x2 x3 : Bool) (x4 x5 x6 : Int) : Ω (Int) := b1023 ieee_Decode.f remain_special.f (remain_residue.f n) bits_Len64.f (ieee_Round.f n) remain_signed.f x0 x1 x2 x3 x4 x5 x6
noncomputable def l511 (n : Nat) (x0 x1 x2 : Int) (x3 x4 : Bool) (x5 x6 x7 : Int) : Ω (Int) := b511 ieee_Decode.f remain_special.f (remain_residue.f n) bits_Len64.f (ieee_Round.f n) remain_signed.f (l1023 n) x0 x1 x2 x3 x4 x5 x6 x7
noncomputable def l63 (n : Nat) (x0 x1 x2 : Int) (x3 : Bool) (x4 x5 x6 : Int) : Ω (Int) := b63 ieee_Decode.f remain_special.f (remain_residue.f n) bits_Len64.f (ieee_Round.f n) remain_signed.f (l511 n) x0 x1 x2 x3 x4 x5 x6
noncomputable def f (n : Nat) (a0 a1 : Int) : Ω (Int) := b0 ieee_Decode.f remain_special.f (remain_residue.f n) bits_Len64.f (ieee_Round.f n) remain_signed.f (l63 n) a0 a1
noncomputable def sg : Sig (Int) := s1 (sInt .u64)
noncomputable def code : Code := (Tryd.f14.body).getD .skip
noncomputable def cfg (c23 : T6) (c24 : T15) (c25 : T12) (c26 : T0) (c27 : T11) (c29 : T18) : Cfg (Int) := { T := tys, call := orCall 23 (ieee_Decode.call c23) (orCall 24 (remain_special.call c24) (orCall 25 (remain_residue.call c25) (orCall 26 (bits_Len64.call c26) (orCall 27 (ieee_Round.call c27) (orCall 29 (remain_signed.call c29) (noCall)))))), lay := lays }
noncomputable def cuts : List (Nat × List (Nat × Want)) := [(63, [(5, .keep), (9, .keep), (10, .keep), (11, .keep)]), (511, [(5, .keep), (9, .keep), (10, .keep), (11, .keep), (13, .keep), (14, .keep)]), (1023, [(5, .keep), (9, .keep), (10, .keep), (13, .keep)])]
noncomputable def s63 (x0 x1 x2 : Int) (x3 : Bool) (x4 x5 x6 : Int) : ASt := ⟨[(5, .ptr 0 0), (9, .int .u64 x0), (10, .int .i64 x1), (11, .int .u64 x2)], [.cells 46 [.bool x3, .int .i64 x4, .int .u64 x5, .int .i64 x6]]⟩
noncomputable def s511 (x0 x1 x2 : Int) (x3 x4 : Bool) (x5 x6 x7 : Int) : ASt := ⟨[(5, .ptr 0 0), (9, .int .u64 x0), (10, .int .i64 x1), (11, .int .u64 x2), (13, .bool x3), (14, .bool x4)], [.cells 46 [.bool x3, .int .i64 x5, .int .u64 x6, .int .i64 x7]]⟩
noncomputable def s1023 (x0 x1 : Int) (x2 x3 : Bool) (x4 x5 x6 : Int) : ASt := ⟨[(5, .ptr 0 0), (9, .int .u64 x0), (10, .int .i64 x1), (13, .bool x2)], [.cells 46 [.bool x3, .int .i64 x4, .int .u64 x5, .int .i64 x6]]⟩
noncomputable def A (c23 : T6) (c24 : T15) (c25 : T12) (c26 : T0) (c27 : T11) (c29 : T18) (n : Nat) (J : Jt (Int)) (q : Nat) (ms : List Nat) : ASt→Ω (Int) := acont (cfg c23 c24 c25 c26 c27 c29) J cuts n q code 1 ms (aend (cfg c23 c24 c25 c26 c27 c29) Tryd.f14.results.toList [false] sg.out)
theorem e0 {c23 c24 c25 c26 c27 c29 n J a0 a1} : afun (cfg c23 c24 c25 c26 c27 c29) J cuts n code Tryd.f14.results.toList [false] [.int .u64 a0, .int .u64 a1] sg.out = b0 c23 c24 c25 c26 c27 c29 (fun y0 y1 y2 y3 y4 y5 y6 => J 63 (A c23 c24 c25 c26 c27 c29 n J 63 []) (s63 y0 y1 y2 y3 y4 y5 y6)) a0 a1 := by kernel_rfl
theorem e63 {c23 c24 c25 c26 c27 c29 n J x0 x1 x2 x3 x4 x5 x6} : A c23 c24 c25 c26 c27 c29 n J 63 [] (s63 x0 x1 x2 x3 x4 x5 x6) = b63 c23 c24 c25 c26 c27 c29 (fun y0 y1 y2 y3 y4 y5 y6 y7 => J 511 (A c23 c24 c25 c26 c27 c29 n J 511 []) (s511 y0 y1 y2 y3 y4 y5 y6 y7)) x0 x1 x2 x3 x4 x5 x6 := by kernel_rfl
theorem e511 {c23 c24 c25 c26 c27 c29 n J x0 x1 x2 x3 x4 x5 x6 x7} : A c23 c24 c25 c26 c27 c29 n J 511 [] (s511 x0 x1 x2 x3 x4 x5 x6 x7) = b511 c23 c24 c25 c26 c27 c29 (fun y0 y1 y2 y3 y4 y5 y6 => J 1023 (A c23 c24 c25 c26 c27 c29 n J 1023 []) (s1023 y0 y1 y2 y3 y4 y5 y6)) x0 x1 x2 x3 x4 x5 x6 x7 := by kernel_rfl
theorem e1023 {c23 c24 c25 c26 c27 c29 n J x0 x1 x2 x3 x4 x5 x6} : A c23 c24 c25 c26 c27 c29 n J 1023 [] (s1023 x0 x1 x2 x3 x4 x5 x6) = b1023 c23 c24 c25 c26 c27 c29 x0 x1 x2 x3 x4 x5 x6 := by kernel_rfl
noncomputable abbrev I (n : Nat) := A ieee_Decode.f remain_special.f (remain_residue.f n) bits_Len64.f (ieee_Round.f n) remain_signed.f n idJ
theorem q1023 (n x0 x1 x2 x3 x4 x5 x6) : I n 1023 [] (s1023 x0 x1 x2 x3 x4 x5 x6) = l1023 n x0 x1 x2 x3 x4 x5 x6 := e1023
theorem q511 (n x0 x1 x2 x3 x4 x5 x6 x7) : I n 511 [] (s511 x0 x1 x2 x3 x4 x5 x6 x7) = l511 n x0 x1 x2 x3 x4 x5 x6 x7 := e511.trans (Eq.trans (cf8 (congrArg (b511 _ _ _ _ _ _) (fu7 (q1023 n))) _ _ _ _ _ _ _ _) rfl)
theorem q63 (n x0 x1 x2 x3 x4 x5 x6) : I n 63 [] (s63 x0 x1 x2 x3 x4 x5 x6) = l63 n x0 x1 x2 x3 x4 x5 x6 := e63.trans (Eq.trans (cf7 (congrArg (b63 _ _ _ _ _ _) (fu8 (q511 n))) _ _ _ _ _ _ _) rfl)
theorem ok {n  a0 a1 r} (h : f n a0 a1 = some r) : CallD Tryd.prog HW 14 [.int .u64 a0, .int .u64 a1] (sg.enc r) :=
  fun_some hwS Tryd.func14 (by kernel_rfl) (body := code) (by kernel_rfl) tys_ok (c := cfg ieee_Decode.f remain_special.f (remain_residue.f n) bits_Len64.f (ieee_Round.f n) remain_signed.f) ⟨(orCall_ok ieee_Decode.call_ok (orCall_ok remain_special.call_ok (orCall_ok (remain_residue.call_ok (n := n)) (orCall_ok bits_Len64.call_ok (orCall_ok (ieee_Round.call_ok (n := n)) (orCall_ok remain_signed.call_ok noCall_ok)))))), noQ_ok'⟩ ⟨noW_ok, noP_ok'⟩ (by kernel_rfl) (by kernel_rfl) (Nat.le_of_ble_eq_true (by kernel_rfl)) (Eq.trans ((e0 (n := n)).trans (Eq.trans (cf2 (congrArg (b0 _ _ _ _ _ _) (fu7 (q63 n))) _ _) rfl)) h)
noncomputable def call {α : Type} (g : T10) (ds : List D) (K : List D→Ω α) : Ω α := match ds with
  | [.int .u64 a0, .int .u64 a1] => (g a0 a1).bind fun r => K (sg.enc r)
  | _ => none
theorem call_ok {α : Type} {n : Nat} : COK Tryd.prog HW 14 (call (α := α) (f n)) := fun _ _ _ h => by
  unfold call at h; split at h
  · exact cok h fun _ => ok
  · cases h
end remain_Remainder
/-! ### soft_invalid: function 31 -/
namespace soft_invalid
noncomputable def b0 : Ω (Int × Int) := some (9221120237041090560, 1)
noncomputable def f : Ω (Int × Int) := b0
noncomputable def sg : Sig (Int × Int) := s2 (sInt .u64) (s1 (sInt .i64))
noncomputable def code : Code := (Tryd.f31.body).getD .skip
noncomputable def cfg : Cfg (Int × Int) := { T := tys, call := noCall, lay := lays }
noncomputable def cuts : List (Nat × List (Nat × Want)) := []
theorem e0 {n J} : afun cfg J cuts n code Tryd.f31.results.toList [false, false] [] sg.out = b0 := by kernel_rfl
theorem ok {r} (h : f = some r) : CallD Tryd.prog HW 31 [] (sg.enc r) :=
  fun_some hwS Tryd.func31 (by kernel_rfl) (body := code) (by kernel_rfl) tys_ok (c := cfg) ⟨noCall_ok, noQ_ok'⟩ ⟨noW_ok, noP_ok'⟩ (by kernel_rfl) (by kernel_rfl) (Nat.le_of_ble_eq_true (by kernel_rfl)) (Eq.trans ((e0 (n := 0))) h)
noncomputable def call {α : Type} (g : T35) (ds : List D) (K : List D→Ω α) : Ω α := match ds with
  | [] => (g).bind fun r => K (sg.enc r)
  | _ :: _ => none
theorem call_ok {α : Type} : COK Tryd.prog HW 31 (call (α := α) f) := fun _ _ _ h => by
  unfold call at h; split at h
  · exact cok h fun _ => ok
  · cases h
end soft_invalid
/-! ### nat_FromUint: function 33 -/
namespace nat_FromUint
noncomputable def b0 (a0 : Int) : Ω (Λ) := (if a0 = 0 then some ([] : Λ) else some [a0])
noncomputable def f (a0 : Int) : Ω (Λ) := b0 a0
noncomputable def sg : Sig (Λ) := s1 (sRow .u64)
noncomputable def code : Code := (Tryd.f33.body).getD .skip
noncomputable def cfg : Cfg (Λ) := { T := tys, call := noCall, lay := lays }
noncomputable def cuts : List (Nat × List (Nat × Want)) := []
theorem e0 {n J a0} : afun cfg J cuts n code Tryd.f33.results.toList [false] [.int .u64 a0] sg.out = b0 a0 := by kernel_rfl
theorem ok {a0 r} (h : f a0 = some r) : CallD Tryd.prog HW 33 [.int .u64 a0] (sg.enc r) :=
  fun_some hwS Tryd.func33 (by kernel_rfl) (body := code) (by kernel_rfl) tys_ok (c := cfg) ⟨noCall_ok, noQ_ok'⟩ ⟨noW_ok, noP_ok'⟩ (by kernel_rfl) (by kernel_rfl) (Nat.le_of_ble_eq_true (by kernel_rfl)) (Eq.trans ((e0 (n := 0))) h)
noncomputable def call {α : Type} (g : T24) (ds : List D) (K : List D→Ω α) : Ω α := match ds with
  | [.int .u64 a0] => (g a0).bind fun r => K (sg.enc r)
  | _ => none
theorem call_ok {α : Type} : COK Tryd.prog HW 33 (call (α := α) f) := fun _ _ _ h => by
  unfold call at h; split at h
  · exact cok h fun _ => ok
  · cases h
end nat_FromUint
/-! ### soft_termOf: function 46 -/
namespace soft_termOf
noncomputable def b0 (c33 : T24) (a0 : Bool) (a1 a2 a3 : Int) : Ω (Bool × Λ × Int) := ((c33 a2).bind fun t1 => some (a0, t1, a3))
noncomputable def f (a0 : Bool) (a1 a2 a3 : Int) : Ω (Bool × Λ × Int) := b0 nat_FromUint.f a0 a1 a2 a3
noncomputable def sg : Sig (Bool × Λ × Int) := s1 (sAgg (s2 (sBool) (s2 (sRow .u64) (s1 (sInt .i64)))))
noncomputable def code : Code := (Tryd.f46.body).getD .skip
noncomputable def cfg (c33 : T24) : Cfg (Bool × Λ × Int) := { T := tys, call := orCall 33 (nat_FromUint.call c33) (noCall), lay := lays }
noncomputable def cuts : List (Nat × List (Nat × Want)) := []
theorem e0 {c33 n J a0 a1 a2 a3} : afun (cfg c33) J cuts n code Tryd.f46.results.toList [false] [.agg [.bool a0, .int .i64 a1, .int .u64 a2, .int .i64 a3]] sg.out = b0 c33 a0 a1 a2 a3 := by kernel_rfl
theorem ok {a0 a1 a2 a3 r} (h : f a0 a1 a2 a3 = some r) : CallD Tryd.prog HW 46 [.agg [.bool a0, .int .i64 a1, .int .u64 a2, .int .i64 a3]] (sg.enc r) :=
  fun_some hwS Tryd.func46 (by kernel_rfl) (body := code) (by kernel_rfl) tys_ok (c := cfg nat_FromUint.f) ⟨(orCall_ok nat_FromUint.call_ok noCall_ok), noQ_ok'⟩ ⟨noW_ok, noP_ok'⟩ (by kernel_rfl) (by kernel_rfl) (Nat.le_of_ble_eq_true (by kernel_rfl)) (Eq.trans ((e0 (n := 0))) h)
noncomputable def call {α : Type} (g : T36) (ds : List D) (K : List D→Ω α) : Ω α := match ds with
  | [.agg [.bool a0, .int .i64 a1, .int .u64 a2, .int .i64 a3]] => (g a0 a1 a2 a3).bind fun r => K (sg.enc r)
  | _ => none
theorem call_ok {α : Type} : COK Tryd.prog HW 46 (call (α := α) f) := fun _ _ _ h => by
  unfold call at h; split at h
  · exact cok h fun _ => ok
  · cases h
end soft_termOf
/-! ### soft_aligned: function 67 -/
namespace soft_aligned
noncomputable def b0 (c32 : T14) (l0 : Λ) (a1 : Int) (l2 : Λ) (a3 : Int) : Ω (Λ × Λ × Int) := (if a1 > a3 then ((c32 l0 (wrap64 (a1 - a3))).bind fun t1 => some (t1.1, l2, a3)) else ((c32 l2 (wrap64 (a3 - a1))).bind fun t2 => some (l0, t2.1, a1)))
noncomputable def f (n : Nat) (l0 : Λ) (a1 : Int) (l2 : Λ) (a3 : Int) : Ω (Λ × Λ × Int) := b0 (nat_Shl.f n) l0 a1 l2 a3
noncomputable def sg : Sig (Λ × Λ × Int) := s2 (sRow .u64) (s2 (sRow .u64) (s1 (sInt .i64)))
noncomputable def code : Code := (Tryd.f67.body).getD .skip
noncomputable def cfg (c32 : T14) : Cfg (Λ × Λ × Int) := { T := tys, call := orCall 32 (nat_Shl.call c32) (noCall), lay := lays }
noncomputable def cuts : List (Nat × List (Nat × Want)) := []
theorem e0 {c32 n J l0 a1 l2 a3} : afun (cfg c32) J cuts n code Tryd.f67.results.toList [false, false, false] [.ro .u64 l0, .int .i64 a1, .ro .u64 l2, .int .i64 a3] sg.out = b0 c32 l0 a1 l2 a3 := by kernel_rfl
theorem ok {n  l0 a1 l2 a3 r} (h : f n l0 a1 l2 a3 = some r) : CallD Tryd.prog HW 67 [.ro .u64 l0, .int .i64 a1, .ro .u64 l2, .int .i64 a3] (sg.enc r) :=
  fun_some hwS Tryd.func67 (by kernel_rfl) (body := code) (by kernel_rfl) tys_ok (c := cfg (nat_Shl.f n)) ⟨(orCall_ok (nat_Shl.call_ok (n := n)) noCall_ok), noQ_ok'⟩ ⟨noW_ok, noP_ok'⟩ (by kernel_rfl) (by kernel_rfl) (Nat.le_of_ble_eq_true (by kernel_rfl)) (Eq.trans ((e0 (n := n))) h)
noncomputable def call {α : Type} (g : T37) (ds : List D) (K : List D→Ω α) : Ω α := match ds with
  | [.ro .u64 l0, .int .i64 a1, .ro .u64 l2, .int .i64 a3] => (g l0 a1 l2 a3).bind fun r => K (sg.enc r)
  | _ => none
theorem call_ok {α : Type} {n : Nat} : COK Tryd.prog HW 67 (call (α := α) (f n)) := fun _ _ _ h => by
  unfold call at h; split at h
  · exact cok h fun _ => ok
  · cases h
end soft_aligned
/-! ### bits_Add64: function 60 -/
namespace bits_Add64
def f (a0 a1 a2 : Int) : Ω (Int × Int) := if 0 ≤ a0 ∧ 0 ≤ a1 ∧ 0 ≤ a2 ∧ a2 ≤ 1 then some ((a0 + a1 + a2) % 18446744073709551616, (a0 + a1 + a2) / 18446744073709551616) else none
def sg : Sig (Int × Int) := s2 (sInt .u64) (s1 (sInt .u64))
theorem ok {a0 a1 a2 : Int} {r : Int × Int} (h : f a0 a1 a2 = some r) : CallD Tryd.prog HW 60 [.int .u64 a0, .int .u64 a1, .int .u64 a2] (sg.enc r) := by
  unfold f at h
  split at h
  · rename_i hh
    obtain rfl := Option.some.inj h
    exact calld_scal rfl rfl fun w _ => .inr ⟨_, _, run_add64' Tryd.func60 (by kernel_rfl) (by kernel_rfl) (by kernel_rfl) (by kernel_rfl) a0 a1 a2 hh.1 hh.2.1 hh.2.2.1 hh.2.2.2 w, rfl, rfl⟩
  · cases h
noncomputable def call {α : Type} (g : T2) (ds : List D) (K : List D→Ω α) : Ω α := match ds with
  | [.int .u64 a0, .int .u64 a1, .int .u64 a2] => (g a0 a1 a2).bind fun r => K (sg.enc r)
  | _ => none
theorem call_ok {α : Type} : COK Tryd.prog HW 60 (call (α := α) f) := fun _ _ _ h => by
  unfold call at h; split at h
  · exact cok h fun _ => ok
  · cases h
end bits_Add64
/-! ### nat_Add: function 54 -/
namespace nat_Add
noncomputable def b0 (c49 : T4) (c50 : T1) (c51 : T3) (c60 : T2) (k31 : T9) (l0 l1 : Λ) : Ω (Λ × Int) := ((c49 l0).bind fun t1 => (if t1 = true then some (([] : Λ), 2) else ((c49 l1).bind fun t2 => (if t2 = true then some (([] : Λ), 2) else ((c50 l0).bind fun t3 => (if 0 ≤ t3 then (if t3 ≤ (ln l0) then ((some (l0.take t3.toNat) : Ω (Λ)).bind fun y4 => ((c50 l1).bind fun t5 => (if 0 ≤ t5 then (if t5 ≤ (ln l1) then ((some (l1.take t5.toNat) : Ω (Λ)).bind fun y6 => (if (ln y4) < (ln y6) then k31 y6 y4 else k31 y4 y6)) else none) else none))) else none) else none))))))
noncomputable def b31 (c49 : T4) (c50 : T1) (c51 : T3) (c60 : T2) (k2037 : T46) (x0 x1 : Λ) : Ω (Λ × Int) := (if 0 ≤ (wrap64 ((ln x0) + 1)) then (if (wrap64 ((ln x0) + 1)).toNat ≤ 35184372088832 then k2037 x0 x1 0 0 (ln x0) (List.replicate (wrap64 ((ln x0) + 1)).toNat (0 : Int)) else none) else none)
noncomputable def b255 (c49 : T4) (c50 : T1) (c51 : T3) (c60 : T2) (x0 : Λ) (x1 : Int) (x2 : Λ) : Ω (Λ × Int) := (if 0 ≤ (ln x0) then (if (ln x0) < (ln x2) then ((c51 (x2.set ((ln x0) : Int).toNat x1)).bind fun t1 => some (t1.1, t1.2)) else none) else none)
noncomputable def b2037 (c49 : T4) (c50 : T1) (c51 : T3) (c60 : T2) (k255 : T60) (k260711 : Λ→Λ→Int→Int→Int→Int→Int→Λ→Ω (Λ × Int)) (x0 x1 : Λ) (x2 x3 x4 : Int) (x5 : Λ) : Ω (Λ × Int) := (if x3 < x4 then (if 0 ≤ x3 then (if x3 < (ln x0) then (if x3 < (ln x1) then (if 0 ≤ x3 then (if x3 < (ln x1) then k260711 x0 x1 x2 x3 (rd x0 x3) (rd x1 x3) x4 x5 else none) else none) else k260711 x0 x1 x2 x3 (rd x0 x3) 0 x4 x5) else none) else none) else k255 x0 x2 x5)
noncomputable def b260711 (c49 : T4) (c50 : T1) (c51 : T3) (c60 : T2) (k2037 : T46) (x0 x1 : Λ) (x2 x3 x4 x5 x6 : Int) (x7 : Λ) : Ω (Λ × Int) := ((c60 x4 x5 x2).bind fun t1 => (if 0 ≤ x3 then (if x3 < (ln x7) then k2037 x0 x1 t1.2 (wrap64 (x3 + 1)) x6 (x7.set (x3 : Int).toNat t1.1) else none) else none))
noncomputable def l255 (n : Nat) (x0 : Λ) (x1 : Int) (x2 : Λ) : Ω (Λ × Int) := b255 (nat_big.f n) (nat_size.f n) (nat_cut.f n) bits_Add64.f x0 x1 x2
noncomputable def l260711 (n : Nat) (k2037 : T46) (x0 x1 : Λ) (x2 x3 x4 x5 x6 : Int) (x7 : Λ) : Ω (Λ × Int) := b260711 (nat_big.f n) (nat_size.f n) (nat_cut.f n) bits_Add64.f k2037 x0 x1 x2 x3 x4 x5 x6 x7
noncomputable def l2037 (n : Nat) : Nat→Λ→Λ→Int→Int→Int→Λ→Ω (Λ × Int)
  | 0, _, _, _, _, _, _ => none
  | m + 1, x0, x1, x2, x3, x4, x5 => b2037 (nat_big.f n) (nat_size.f n) (nat_cut.f n) bits_Add64.f (l255 n) (l260711 n (l2037 n m)) x0 x1 x2 x3 x4 x5
noncomputable def l31 (n : Nat) (x0 x1 : Λ) : Ω (Λ × Int) := b31 (nat_big.f n) (nat_size.f n) (nat_cut.f n) bits_Add64.f (l2037 n n) x0 x1
noncomputable def f (n : Nat) (l0 l1 : Λ) : Ω (Λ × Int) := b0 (nat_big.f n) (nat_size.f n) (nat_cut.f n) bits_Add64.f (l31 n) l0 l1
noncomputable def sg : Sig (Λ × Int) := s2 (sRow .u64) (s1 (sInt .i64))
noncomputable def code : Code := (Tryd.f54.body).getD .skip
noncomputable def cfg (c49 : T4) (c50 : T1) (c51 : T3) (c60 : T2) : Cfg (Λ × Int) := { T := tys, call := orCall 49 (nat_big.call c49) (orCall 50 (nat_size.call c50) (orCall 51 (nat_cut.call c51) (orCall 60 (bits_Add64.call c60) (noCall)))), lay := lays }
noncomputable def cuts : List (Nat × List (Nat × Want)) := [(31, [(0, .keep), (1, .keep)]), (255, [(0, .keep), (6, .keep), (7, .keep)]), (2037, [(0, .keep), (1, .keep), (6, .keep), (7, .keep), (36, .keep), (37, .keep), (38, .keep)]), (260711, [(0, .keep), (1, .keep), (6, .keep), (7, .keep), (8, .keep), (9, .keep), (10, .keep), (36, .keep), (37, .keep), (38, .keep)])]
noncomputable def s31 (x0 x1 : Λ) : ASt := ⟨[(0, .ro .u64 x0), (1, .ro .u64 x1)], []⟩
noncomputable def s255 (x0 : Λ) (x1 : Int) (x2 : Λ) : ASt := ⟨[(0, .ro .u64 x0), (6, .own 0), (7, .int .u64 x1)], [.ints 22 .u64 x2]⟩
noncomputable def s2037 (x0 x1 : Λ) (x2 x3 x4 : Int) (x5 : Λ) : ASt := ⟨[(0, .ro .u64 x0), (1, .ro .u64 x1), (6, .own 0), (7, .int .u64 x2), (36, .ro .u64 x0), (37, .int .i64 x4), (38, .int .i64 x3)], [.ints 22 .u64 x5]⟩
noncomputable def s260711 (x0 x1 : Λ) (x2 x3 x4 x5 x6 : Int) (x7 : Λ) : ASt := ⟨[(0, .ro .u64 x0), (1, .ro .u64 x1), (6, .own 0), (7, .int .u64 x2), (8, .int .i64 x3), (9, .int .u64 x4), (10, .int .u64 x5), (36, .ro .u64 x0), (37, .int .i64 x6), (38, .int .i64 x3)], [.ints 22 .u64 x7]⟩
noncomputable def A (c49 : T4) (c50 : T1) (c51 : T3) (c60 : T2) (n : Nat) (J : Jt (Λ × Int)) (q : Nat) (ms : List Nat) : ASt→Ω (Λ × Int) := acont (cfg c49 c50 c51 c60) J cuts n q code 1 ms (aend (cfg c49 c50 c51 c60) Tryd.f54.results.toList [false, false] sg.out)
theorem e0 {c49 c50 c51 c60 n J l0 l1} : afun (cfg c49 c50 c51 c60) J cuts n code Tryd.f54.results.toList [false, false] [.ro .u64 l0, .ro .u64 l1] sg.out = b0 c49 c50 c51 c60 (fun y0 y1 => J 31 (A c49 c50 c51 c60 n J 31 []) (s31 y0 y1)) l0 l1 := by kernel_rfl
theorem e31 {c49 c50 c51 c60 n J x0 x1} : A c49 c50 c51 c60 n J 31 [] (s31 x0 x1) = b31 c49 c50 c51 c60 (fun y0 y1 y2 y3 y4 y5 => J 2037 (A c49 c50 c51 c60 n J 2037 [n]) (s2037 y0 y1 y2 y3 y4 y5)) x0 x1 := by kernel_rfl
theorem e255 {c49 c50 c51 c60 n J x0 x1 x2} : A c49 c50 c51 c60 n J 255 [] (s255 x0 x1 x2) = b255 c49 c50 c51 c60 x0 x1 x2 := by kernel_rfl
theorem e2037 {c49 c50 c51 c60 n J m x0 x1 x2 x3 x4 x5} : A c49 c50 c51 c60 n J 2037 [m + 1] (s2037 x0 x1 x2 x3 x4 x5) = b2037 c49 c50 c51 c60 (fun y0 y1 y2 => J 255 (A c49 c50 c51 c60 n J 255 []) (s255 y0 y1 y2)) (fun y0 y1 y2 y3 y4 y5 y6 y7 => J 260711 (A c49 c50 c51 c60 n J 260711 [m]) (s260711 y0 y1 y2 y3 y4 y5 y6 y7)) x0 x1 x2 x3 x4 x5 := by kernel_rfl
theorem e260711 {c49 c50 c51 c60 n J m2037 x0 x1 x2 x3 x4 x5 x6 x7} : A c49 c50 c51 c60 n J 260711 [m2037] (s260711 x0 x1 x2 x3 x4 x5 x6 x7) = b260711 c49 c50 c51 c60 (fun y0 y1 y2 y3 y4 y5 => J 2037 (A c49 c50 c51 c60 n J 2037 [m2037]) (s2037 y0 y1 y2 y3 y4 y5)) x0 x1 x2 x3 x4 x5 x6 x7 := by kernel_rfl
noncomputable abbrev I (n : Nat) := A (nat_big.f n) (nat_size.f n) (nat_cut.f n) bits_Add64.f n idJ
theorem q255 (n x0 x1 x2) : I n 255 [] (s255 x0 x1 x2) = l255 n x0 x1 x2 := e255
theorem q260711 (n m2037 x0 x1 x2 x3 x4 x5 x6 x7) : I n 260711 [m2037] (s260711 x0 x1 x2 x3 x4 x5 x6 x7) = l260711 n (fun y0 y1 y2 y3 y4 y5 => I n 2037 [m2037] (s2037 y0 y1 y2 y3 y4 y5)) x0 x1 x2 x3 x4 x5 x6 x7 := e260711
theorem q2037 (n m) : ∀ x0 x1 x2 x3 x4 x5, I n 2037 [m] (s2037 x0 x1 x2 x3 x4 x5) = l2037 n m x0 x1 x2 x3 x4 x5 := by
  induction m with
  | zero => intros; rfl
  | succ m ih =>
    intros
    exact e2037.trans (Eq.trans (cf6 (congr (congrArg (b2037 _ _ _ _) (fu3 (q255 n))) ((fu8 (q260711 n m)).trans (by rw [show (fun y0 y1 y2 y3 y4 y5 => I n 2037 [m] (s2037 y0 y1 y2 y3 y4 y5)) = _ from (fu6 (ih))]))) _ _ _ _ _ _) rfl)
theorem q31 (n x0 x1) : I n 31 [] (s31 x0 x1) = l31 n x0 x1 := e31.trans (Eq.trans (cf2 (congrArg (b31 _ _ _ _) (fu6 (q2037 n n))) _ _) rfl)
theorem ok {n  l0 l1 r} (h : f n l0 l1 = some r) : CallD Tryd.prog HW 54 [.ro .u64 l0, .ro .u64 l1] (sg.enc r) :=
  fun_some hwS Tryd.func54 (by kernel_rfl) (body := code) (by kernel_rfl) tys_ok (c := cfg (nat_big.f n) (nat_size.f n) (nat_cut.f n) bits_Add64.f) ⟨(orCall_ok (nat_big.call_ok (n := n)) (orCall_ok (nat_size.call_ok (n := n)) (orCall_ok (nat_cut.call_ok (n := n)) (orCall_ok bits_Add64.call_ok noCall_ok)))), noQ_ok'⟩ ⟨noW_ok, noP_ok'⟩ (by kernel_rfl) (by kernel_rfl) (Nat.le_of_ble_eq_true (by kernel_rfl)) (Eq.trans ((e0 (n := n)).trans (Eq.trans (cf2 (congrArg (b0 _ _ _ _) (fu2 (q31 n))) _ _) rfl)) h)
noncomputable def call {α : Type} (g : T9) (ds : List D) (K : List D→Ω α) : Ω α := match ds with
  | [.ro .u64 l0, .ro .u64 l1] => (g l0 l1).bind fun r => K (sg.enc r)
  | _ => none
theorem call_ok {α : Type} {n : Nat} : COK Tryd.prog HW 54 (call (α := α) (f n)) := fun _ _ _ h => by
  unfold call at h; split at h
  · exact cok h fun _ => ok
  · cases h
end nat_Add
/-! ### nat_Cmp: function 56 -/
namespace nat_Cmp
noncomputable def b0 (c50 : T1) (k245 : Λ→Λ→Int→Ω (Int)) (l0 l1 : Λ) : Ω (Int) := ((c50 l0).bind fun t1 => ((c50 l1).bind fun t2 => (if ¬ t1 = t2 then (if t1 < t2 then some (-1) else some 1) else k245 l0 l1 (wrap64 (t1 - 1)))))
noncomputable def b245 (c50 : T1) (k245 : Λ→Λ→Int→Ω (Int)) (x0 x1 : Λ) (x2 : Int) : Ω (Int) := (if x2 ≥ 0 then (if 0 ≤ x2 then (if x2 < (ln x0) then (if 0 ≤ x2 then (if x2 < (ln x1) then (if ¬ (rd x0 x2) = (rd x1 x2) then (if 0 ≤ x2 then (if x2 < (ln x0) then (if 0 ≤ x2 then (if x2 < (ln x1) then (if (rd x0 x2) < (rd x1 x2) then some (-1) else some 1) else none) else none) else none) else none) else k245 x0 x1 (wrap64 (x2 - 1))) else none) else none) else none) else none) else some 0)
noncomputable def l245 (n : Nat) : Nat→Λ→Λ→Int→Ω (Int)
  | 0, _, _, _ => none
  | m + 1, x0, x1, x2 => b245 (nat_size.f n) (l245 n m) x0 x1 x2
noncomputable def f (n : Nat) (l0 l1 : Λ) : Ω (Int) := b0 (nat_size.f n) (l245 n n) l0 l1
noncomputable def sg : Sig (Int) := s1 (sInt .i64)
noncomputable def code : Code := (Tryd.f56.body).getD .skip
noncomputable def cfg (c50 : T1) : Cfg (Int) := { T := tys, call := orCall 50 (nat_size.call c50) (noCall), lay := lays }
noncomputable def cuts : List (Nat × List (Nat × Want)) := [(245, [(0, .keep), (1, .keep), (7, .keep)])]
noncomputable def s245 (x0 x1 : Λ) (x2 : Int) : ASt := ⟨[(0, .ro .u64 x0), (1, .ro .u64 x1), (7, .int .i64 x2)], []⟩
noncomputable def A (c50 : T1) (n : Nat) (J : Jt (Int)) (q : Nat) (ms : List Nat) : ASt→Ω (Int) := acont (cfg c50) J cuts n q code 1 ms (aend (cfg c50) Tryd.f56.results.toList [false] sg.out)
theorem e0 {c50 n J l0 l1} : afun (cfg c50) J cuts n code Tryd.f56.results.toList [false] [.ro .u64 l0, .ro .u64 l1] sg.out = b0 c50 (fun y0 y1 y2 => J 245 (A c50 n J 245 [n]) (s245 y0 y1 y2)) l0 l1 := by kernel_rfl
theorem e245 {c50 n J m x0 x1 x2} : A c50 n J 245 [m + 1] (s245 x0 x1 x2) = b245 c50 (fun y0 y1 y2 => J 245 (A c50 n J 245 [m]) (s245 y0 y1 y2)) x0 x1 x2 := by kernel_rfl
noncomputable abbrev I (n : Nat) := A (nat_size.f n) n idJ
theorem q245 (n m) : ∀ x0 x1 x2, I n 245 [m] (s245 x0 x1 x2) = l245 n m x0 x1 x2 := by
  induction m with
  | zero => intros; rfl
  | succ m ih =>
    intros
    exact e245.trans (Eq.trans (cf3 (congrArg (b245 _) (fu3 (ih))) _ _ _) rfl)
theorem ok {n  l0 l1 r} (h : f n l0 l1 = some r) : CallD Tryd.prog HW 56 [.ro .u64 l0, .ro .u64 l1] (sg.enc r) :=
  fun_some hwS Tryd.func56 (by kernel_rfl) (body := code) (by kernel_rfl) tys_ok (c := cfg (nat_size.f n)) ⟨(orCall_ok (nat_size.call_ok (n := n)) noCall_ok), noQ_ok'⟩ ⟨noW_ok, noP_ok'⟩ (by kernel_rfl) (by kernel_rfl) (Nat.le_of_ble_eq_true (by kernel_rfl)) (Eq.trans ((e0 (n := n)).trans (Eq.trans (cf2 (congrArg (b0 _) (fu3 (q245 n n))) _ _) rfl)) h)
noncomputable def call {α : Type} (g : T7) (ds : List D) (K : List D→Ω α) : Ω α := match ds with
  | [.ro .u64 l0, .ro .u64 l1] => (g l0 l1).bind fun r => K (sg.enc r)
  | _ => none
theorem call_ok {α : Type} {n : Nat} : COK Tryd.prog HW 56 (call (α := α) (f n)) := fun _ _ _ h => by
  unfold call at h; split at h
  · exact cok h fun _ => ok
  · cases h
end nat_Cmp
/-! ### bits_Sub64: function 76 -/
namespace bits_Sub64
def f (a0 a1 a2 : Int) : Ω (Int × Int) := if 0 ≤ a0 ∧ 0 ≤ a1 ∧ a1 < 18446744073709551616 ∧ 0 ≤ a2 ∧ a2 ≤ 1 then some ((a0 - a1 - a2) % 18446744073709551616, if a0 < a1 + a2 then 1 else 0) else none
def sg : Sig (Int × Int) := s2 (sInt .u64) (s1 (sInt .u64))
theorem ok {a0 a1 a2 : Int} {r : Int × Int} (h : f a0 a1 a2 = some r) : CallD Tryd.prog HW 76 [.int .u64 a0, .int .u64 a1, .int .u64 a2] (sg.enc r) := by
  unfold f at h
  split at h
  · rename_i hh
    obtain rfl := Option.some.inj h
    exact calld_scal rfl rfl fun w _ => .inr ⟨_, _, run_sub64' Tryd.func76 (by kernel_rfl) (by kernel_rfl) (by kernel_rfl) (by kernel_rfl) a0 a1 a2 hh.1 hh.2.1 hh.2.2.1 hh.2.2.2.1 hh.2.2.2.2 w, rfl, rfl⟩
  · cases h
noncomputable def call {α : Type} (g : T2) (ds : List D) (K : List D→Ω α) : Ω α := match ds with
  | [.int .u64 a0, .int .u64 a1, .int .u64 a2] => (g a0 a1 a2).bind fun r => K (sg.enc r)
  | _ => none
theorem call_ok {α : Type} : COK Tryd.prog HW 76 (call (α := α) f) := fun _ _ _ h => by
  unfold call at h; split at h
  · exact cok h fun _ => ok
  · cases h
end bits_Sub64
/-! ### nat_Sub: function 68 -/
namespace nat_Sub
noncomputable def b0 (c49 : T4) (c50 : T1) (c51 : T3) (c56 : T7) (c76 : T2) (k2037 : T41) (l0 l1 : Λ) : Ω (Λ × Int) := ((c49 l0).bind fun t1 => (if t1 = true then some (([] : Λ), 2) else ((c49 l1).bind fun t2 => (if t2 = true then some (([] : Λ), 2) else ((c56 l0 l1).bind fun t3 => (if t3 < 0 then some (([] : Λ), 10) else ((c50 l0).bind fun t4 => (if 0 ≤ t4 then (if t4 ≤ (ln l0) then ((some (l0.take t4.toNat) : Ω (Λ)).bind fun y5 => ((c50 l1).bind fun t6 => (if 0 ≤ t6 then (if t6 ≤ (ln l1) then ((some (l1.take t6.toNat) : Ω (Λ)).bind fun y7 => (if 0 ≤ (ln y5) then (if (ln y5).toNat ≤ 35184372088832 then k2037 y7 0 0 y5 (ln y5) (List.replicate (ln y5).toNat (0 : Int)) else none) else none)) else none) else none))) else none) else none))))))))
noncomputable def b255 (c49 : T4) (c50 : T1) (c51 : T3) (c56 : T7) (c76 : T2) (x0 : Λ) : Ω (Λ × Int) := ((c51 x0).bind fun t1 => some (t1.1, t1.2))
noncomputable def b2037 (c49 : T4) (c50 : T1) (c51 : T3) (c56 : T7) (c76 : T2) (k255 : T3) (k260711 : Λ→Int→Int→Int→Int→Λ→Int→Λ→Ω (Λ × Int)) (x0 : Λ) (x1 x2 : Int) (x3 : Λ) (x4 : Int) (x5 : Λ) : Ω (Λ × Int) := (if x2 < x4 then (if 0 ≤ x2 then (if x2 < (ln x3) then (if x2 < (ln x0) then (if 0 ≤ x2 then (if x2 < (ln x0) then k260711 x0 x1 x2 (rd x3 x2) (rd x0 x2) x3 x4 x5 else none) else none) else k260711 x0 x1 x2 (rd x3 x2) 0 x3 x4 x5) else none) else none) else k255 x5)
noncomputable def b260711 (c49 : T4) (c50 : T1) (c51 : T3) (c56 : T7) (c76 : T2) (k2037 : T41) (x0 : Λ) (x1 x2 x3 x4 : Int) (x5 : Λ) (x6 : Int) (x7 : Λ) : Ω (Λ × Int) := ((c76 x3 x4 x1).bind fun t1 => (if 0 ≤ x2 then (if x2 < (ln x7) then k2037 x0 t1.2 (wrap64 (x2 + 1)) x5 x6 (x7.set (x2 : Int).toNat t1.1) else none) else none))
noncomputable def l255 (n : Nat) (x0 : Λ) : Ω (Λ × Int) := b255 (nat_big.f n) (nat_size.f n) (nat_cut.f n) (nat_Cmp.f n) bits_Sub64.f x0
noncomputable def l260711 (n : Nat) (k2037 : T41) (x0 : Λ) (x1 x2 x3 x4 : Int) (x5 : Λ) (x6 : Int) (x7 : Λ) : Ω (Λ × Int) := b260711 (nat_big.f n) (nat_size.f n) (nat_cut.f n) (nat_Cmp.f n) bits_Sub64.f k2037 x0 x1 x2 x3 x4 x5 x6 x7
noncomputable def l2037 (n : Nat) : Nat→Λ→Int→Int→Λ→Int→Λ→Ω (Λ × Int)
  | 0, _, _, _, _, _, _ => none
  | m + 1, x0, x1, x2, x3, x4, x5 => b2037 (nat_big.f n) (nat_size.f n) (nat_cut.f n) (nat_Cmp.f n) bits_Sub64.f (l255 n) (l260711 n (l2037 n m)) x0 x1 x2 x3 x4 x5
noncomputable def f (n : Nat) (l0 l1 : Λ) : Ω (Λ × Int) := b0 (nat_big.f n) (nat_size.f n) (nat_cut.f n) (nat_Cmp.f n) bits_Sub64.f (l2037 n n) l0 l1
noncomputable def sg : Sig (Λ × Int) := s2 (sRow .u64) (s1 (sInt .i64))
noncomputable def code : Code := (Tryd.f68.body).getD .skip
noncomputable def cfg (c49 : T4) (c50 : T1) (c51 : T3) (c56 : T7) (c76 : T2) : Cfg (Λ × Int) := { T := tys, call := orCall 49 (nat_big.call c49) (orCall 50 (nat_size.call c50) (orCall 51 (nat_cut.call c51) (orCall 56 (nat_Cmp.call c56) (orCall 76 (bits_Sub64.call c76) (noCall))))), lay := lays }
noncomputable def cuts : List (Nat × List (Nat × Want)) := [(255, [(6, .keep)]), (2037, [(1, .keep), (6, .keep), (7, .keep), (32, .keep), (33, .keep), (34, .keep)]), (260711, [(1, .keep), (6, .keep), (7, .keep), (8, .keep), (9, .keep), (10, .keep), (32, .keep), (33, .keep), (34, .keep)])]
noncomputable def s255 (x0 : Λ) : ASt := ⟨[(6, .own 0)], [.ints 22 .u64 x0]⟩
noncomputable def s2037 (x0 : Λ) (x1 x2 : Int) (x3 : Λ) (x4 : Int) (x5 : Λ) : ASt := ⟨[(1, .ro .u64 x0), (6, .own 0), (7, .int .u64 x1), (32, .ro .u64 x3), (33, .int .i64 x4), (34, .int .i64 x2)], [.ints 22 .u64 x5]⟩
noncomputable def s260711 (x0 : Λ) (x1 x2 x3 x4 : Int) (x5 : Λ) (x6 : Int) (x7 : Λ) : ASt := ⟨[(1, .ro .u64 x0), (6, .own 0), (7, .int .u64 x1), (8, .int .i64 x2), (9, .int .u64 x3), (10, .int .u64 x4), (32, .ro .u64 x5), (33, .int .i64 x6), (34, .int .i64 x2)], [.ints 22 .u64 x7]⟩
noncomputable def A (c49 : T4) (c50 : T1) (c51 : T3) (c56 : T7) (c76 : T2) (n : Nat) (J : Jt (Λ × Int)) (q : Nat) (ms : List Nat) : ASt→Ω (Λ × Int) := acont (cfg c49 c50 c51 c56 c76) J cuts n q code 1 ms (aend (cfg c49 c50 c51 c56 c76) Tryd.f68.results.toList [false, false] sg.out)
theorem e0 {c49 c50 c51 c56 c76 n J l0 l1} : afun (cfg c49 c50 c51 c56 c76) J cuts n code Tryd.f68.results.toList [false, false] [.ro .u64 l0, .ro .u64 l1] sg.out = b0 c49 c50 c51 c56 c76 (fun y0 y1 y2 y3 y4 y5 => J 2037 (A c49 c50 c51 c56 c76 n J 2037 [n]) (s2037 y0 y1 y2 y3 y4 y5)) l0 l1 := by kernel_rfl
theorem e255 {c49 c50 c51 c56 c76 n J x0} : A c49 c50 c51 c56 c76 n J 255 [] (s255 x0) = b255 c49 c50 c51 c56 c76 x0 := by kernel_rfl
theorem e2037 {c49 c50 c51 c56 c76 n J m x0 x1 x2 x3 x4 x5} : A c49 c50 c51 c56 c76 n J 2037 [m + 1] (s2037 x0 x1 x2 x3 x4 x5) = b2037 c49 c50 c51 c56 c76 (fun y0 => J 255 (A c49 c50 c51 c56 c76 n J 255 []) (s255 y0)) (fun y0 y1 y2 y3 y4 y5 y6 y7 => J 260711 (A c49 c50 c51 c56 c76 n J 260711 [m]) (s260711 y0 y1 y2 y3 y4 y5 y6 y7)) x0 x1 x2 x3 x4 x5 := by kernel_rfl
theorem e260711 {c49 c50 c51 c56 c76 n J m2037 x0 x1 x2 x3 x4 x5 x6 x7} : A c49 c50 c51 c56 c76 n J 260711 [m2037] (s260711 x0 x1 x2 x3 x4 x5 x6 x7) = b260711 c49 c50 c51 c56 c76 (fun y0 y1 y2 y3 y4 y5 => J 2037 (A c49 c50 c51 c56 c76 n J 2037 [m2037]) (s2037 y0 y1 y2 y3 y4 y5)) x0 x1 x2 x3 x4 x5 x6 x7 := by kernel_rfl
noncomputable abbrev I (n : Nat) := A (nat_big.f n) (nat_size.f n) (nat_cut.f n) (nat_Cmp.f n) bits_Sub64.f n idJ
theorem q255 (n x0) : I n 255 [] (s255 x0) = l255 n x0 := e255
theorem q260711 (n m2037 x0 x1 x2 x3 x4 x5 x6 x7) : I n 260711 [m2037] (s260711 x0 x1 x2 x3 x4 x5 x6 x7) = l260711 n (fun y0 y1 y2 y3 y4 y5 => I n 2037 [m2037] (s2037 y0 y1 y2 y3 y4 y5)) x0 x1 x2 x3 x4 x5 x6 x7 := e260711
theorem q2037 (n m) : ∀ x0 x1 x2 x3 x4 x5, I n 2037 [m] (s2037 x0 x1 x2 x3 x4 x5) = l2037 n m x0 x1 x2 x3 x4 x5 := by
  induction m with
  | zero => intros; rfl
  | succ m ih =>
    intros
    exact e2037.trans (Eq.trans (cf6 (congr (congrArg (b2037 _ _ _ _ _) (fu1 (q255 n))) ((fu8 (q260711 n m)).trans (by rw [show (fun y0 y1 y2 y3 y4 y5 => I n 2037 [m] (s2037 y0 y1 y2 y3 y4 y5)) = _ from (fu6 (ih))]))) _ _ _ _ _ _) rfl)
theorem ok {n  l0 l1 r} (h : f n l0 l1 = some r) : CallD Tryd.prog HW 68 [.ro .u64 l0, .ro .u64 l1] (sg.enc r) :=
  fun_some hwS Tryd.func68 (by kernel_rfl) (body := code) (by kernel_rfl) tys_ok (c := cfg (nat_big.f n) (nat_size.f n) (nat_cut.f n) (nat_Cmp.f n) bits_Sub64.f) ⟨(orCall_ok (nat_big.call_ok (n := n)) (orCall_ok (nat_size.call_ok (n := n)) (orCall_ok (nat_cut.call_ok (n := n)) (orCall_ok (nat_Cmp.call_ok (n := n)) (orCall_ok bits_Sub64.call_ok noCall_ok))))), noQ_ok'⟩ ⟨noW_ok, noP_ok'⟩ (by kernel_rfl) (by kernel_rfl) (Nat.le_of_ble_eq_true (by kernel_rfl)) (Eq.trans ((e0 (n := n)).trans (Eq.trans (cf2 (congrArg (b0 _ _ _ _ _) (fu6 (q2037 n n))) _ _) rfl)) h)
noncomputable def call {α : Type} (g : T9) (ds : List D) (K : List D→Ω α) : Ω α := match ds with
  | [.ro .u64 l0, .ro .u64 l1] => (g l0 l1).bind fun r => K (sg.enc r)
  | _ => none
theorem call_ok {α : Type} {n : Nat} : COK Tryd.prog HW 68 (call (α := α) (f n)) := fun _ _ _ h => by
  unfold call at h; split at h
  · exact cok h fun _ => ok
  · cases h
end nat_Sub
/-! ### soft_term_plus: function 47 -/
namespace soft_term_plus
noncomputable def b0 (c54 : T9) (c56 : T7) (c67 : T37) (c68 : T9) (a0 : Bool) (l1 : Λ) (a2 : Int) (a3 : Bool) (l4 : Λ) (a5 : Int) : Ω (Bool × Λ × Int) := ((c67 l1 a2 l4 a5).bind fun t1 => (if (a0 == a3) = true then ((c54 t1.1 t1.2.1).bind fun t2 => some (a0, t2.1, t1.2.2)) else ((c56 t1.1 t1.2.1).bind fun t3 => (if t3 = 0 then some (false, ([] : Λ), 0) else (if t3 = 1 then ((c68 t1.1 t1.2.1).bind fun t4 => some (a0, t4.1, t1.2.2)) else ((c68 t1.2.1 t1.1).bind fun t5 => some (a3, t5.1, t1.2.2)))))))
noncomputable def f (n : Nat) (a0 : Bool) (l1 : Λ) (a2 : Int) (a3 : Bool) (l4 : Λ) (a5 : Int) : Ω (Bool × Λ × Int) := b0 (nat_Add.f n) (nat_Cmp.f n) (soft_aligned.f n) (nat_Sub.f n) a0 l1 a2 a3 l4 a5
noncomputable def sg : Sig (Bool × Λ × Int) := s1 (sAgg (s2 (sBool) (s2 (sRow .u64) (s1 (sInt .i64)))))
noncomputable def code : Code := (Tryd.f47.body).getD .skip
noncomputable def cfg (c54 : T9) (c56 : T7) (c67 : T37) (c68 : T9) : Cfg (Bool × Λ × Int) := { T := tys, call := orCall 54 (nat_Add.call c54) (orCall 56 (nat_Cmp.call c56) (orCall 67 (soft_aligned.call c67) (orCall 68 (nat_Sub.call c68) (noCall)))), lay := lays }
noncomputable def cuts : List (Nat × List (Nat × Want)) := []
theorem e0 {c54 c56 c67 c68 n J a0 l1 a2 a3 l4 a5} : afun (cfg c54 c56 c67 c68) J cuts n code Tryd.f47.results.toList [false] [.agg [.bool a0, .ro .u64 l1, .int .i64 a2], .agg [.bool a3, .ro .u64 l4, .int .i64 a5]] sg.out = b0 c54 c56 c67 c68 a0 l1 a2 a3 l4 a5 := by kernel_rfl
theorem ok {n  a0 l1 a2 a3 l4 a5 r} (h : f n a0 l1 a2 a3 l4 a5 = some r) : CallD Tryd.prog HW 47 [.agg [.bool a0, .ro .u64 l1, .int .i64 a2], .agg [.bool a3, .ro .u64 l4, .int .i64 a5]] (sg.enc r) :=
  fun_some hwS Tryd.func47 (by kernel_rfl) (body := code) (by kernel_rfl) tys_ok (c := cfg (nat_Add.f n) (nat_Cmp.f n) (soft_aligned.f n) (nat_Sub.f n)) ⟨(orCall_ok (nat_Add.call_ok (n := n)) (orCall_ok (nat_Cmp.call_ok (n := n)) (orCall_ok (soft_aligned.call_ok (n := n)) (orCall_ok (nat_Sub.call_ok (n := n)) noCall_ok)))), noQ_ok'⟩ ⟨noW_ok, noP_ok'⟩ (by kernel_rfl) (by kernel_rfl) (Nat.le_of_ble_eq_true (by kernel_rfl)) (Eq.trans ((e0 (n := n))) h)
noncomputable def call {α : Type} (g : T38) (ds : List D) (K : List D→Ω α) : Ω α := match ds with
  | [.agg [.bool a0, .ro .u64 l1, .int .i64 a2], .agg [.bool a3, .ro .u64 l4, .int .i64 a5]] => (g a0 l1 a2 a3 l4 a5).bind fun r => K (sg.enc r)
  | _ => none
theorem call_ok {α : Type} {n : Nat} : COK Tryd.prog HW 47 (call (α := α) (f n)) := fun _ _ _ h => by
  unfold call at h; split at h
  · exact cok h fun _ => ok
  · cases h
end soft_term_plus
/-! ### soft_withSign: function 69 -/
namespace soft_withSign
noncomputable def b0 (a0 : Bool) (a1 : Int) : Ω (Int) := (if a0 = true then some (Go.bits .or .u64 a1 9223372036854775808) else some a1)
noncomputable def f (a0 : Bool) (a1 : Int) : Ω (Int) := b0 a0 a1
noncomputable def sg : Sig (Int) := s1 (sInt .u64)
noncomputable def code : Code := (Tryd.f69.body).getD .skip
noncomputable def cfg : Cfg (Int) := { T := tys, call := noCall, lay := lays }
noncomputable def cuts : List (Nat × List (Nat × Want)) := []
theorem e0 {n J a0 a1} : afun cfg J cuts n code Tryd.f69.results.toList [false] [.bool a0, .int .u64 a1] sg.out = b0 a0 a1 := by kernel_rfl
theorem ok {a0 a1 r} (h : f a0 a1 = some r) : CallD Tryd.prog HW 69 [.bool a0, .int .u64 a1] (sg.enc r) :=
  fun_some hwS Tryd.func69 (by kernel_rfl) (body := code) (by kernel_rfl) tys_ok (c := cfg) ⟨noCall_ok, noQ_ok'⟩ ⟨noW_ok, noP_ok'⟩ (by kernel_rfl) (by kernel_rfl) (Nat.le_of_ble_eq_true (by kernel_rfl)) (Eq.trans ((e0 (n := 0))) h)
noncomputable def call {α : Type} (g : T18) (ds : List D) (K : List D→Ω α) : Ω α := match ds with
  | [.bool a0, .int .u64 a1] => (g a0 a1).bind fun r => K (sg.enc r)
  | _ => none
theorem call_ok {α : Type} : COK Tryd.prog HW 69 (call (α := α) f) := fun _ _ _ h => by
  unfold call at h; split at h
  · exact cok h fun _ => ok
  · cases h
end soft_withSign
/-! ### nat_Mul: function 57 -/
namespace nat_Mul
noncomputable def b0 (c39 : T5) (c49 : T4) (c50 : T1) (c51 : T3) (c60 : T2) (k2037 : T42) (l0 l1 : Λ) : Ω (Λ × Int) := ((c49 l0).bind fun t1 => (if t1 = true then some (([] : Λ), 2) else ((c49 l1).bind fun t2 => (if t2 = true then some (([] : Λ), 2) else ((c50 l0).bind fun t3 => (if 0 ≤ t3 then (if t3 ≤ (ln l0) then ((some (l0.take t3.toNat) : Ω (Λ)).bind fun y4 => ((c50 l1).bind fun t5 => (if 0 ≤ t5 then (if t5 ≤ (ln l1) then ((some (l1.take t5.toNat) : Ω (Λ)).bind fun y6 => (if (ln y4) = 0 then some (([] : Λ), 0) else (if (ln y6) = 0 then some (([] : Λ), 0) else (if (wrap64 ((wrap64 ((ln y4) + (ln y6))) - 1)) > 4096 then some (([] : Λ), 2) else (if 0 ≤ (wrap64 ((ln y4) + (ln y6))) then (if (wrap64 ((ln y4) + (ln y6))).toNat ≤ 35184372088832 then k2037 y6 y4 (ln y4) 0 (List.replicate (wrap64 ((ln y4) + (ln y6))).toNat (0 : Int)) else none) else none))))) else none) else none))) else none) else none))))))
noncomputable def b255 (c39 : T5) (c49 : T4) (c50 : T1) (c51 : T3) (c60 : T2) (x0 : Λ) : Ω (Λ × Int) := ((c51 x0).bind fun t1 => some (t1.1, t1.2))
noncomputable def b2037 (c39 : T5) (c49 : T4) (c50 : T1) (c51 : T3) (c60 : T2) (k255 : T3) (k2085685 : T61) (x0 x1 : Λ) (x2 x3 : Int) (x4 : Λ) : Ω (Λ × Int) := (if x3 < x2 then (if 0 ≤ x3 then (if x3 < (ln x1) then k2085685 x0 x3 0 0 (rd x1 x3) x1 x2 (ln x0) x4 else none) else none) else k255 x4)
noncomputable def b260711 (c39 : T5) (c49 : T4) (c50 : T1) (c51 : T3) (c60 : T2) (k2037 : T42) (x0 : Λ) (x1 x2 : Int) (x3 : Λ) (x4 : Int) (x5 : Λ) : Ω (Λ × Int) := (if 0 ≤ (wrap64 (x1 + (ln x0))) then (if (wrap64 (x1 + (ln x0))) < (ln x5) then k2037 x0 x3 x4 (wrap64 (x1 + 1)) (x5.set (wrap64 (x1 + (ln x0)) : Int).toNat x2) else none) else none)
noncomputable def b2085685 (c39 : T5) (c49 : T4) (c50 : T1) (c51 : T3) (c60 : T2) (k260711 : T41) (k2085685 : T61) (x0 : Λ) (x1 x2 x3 x4 : Int) (x5 : Λ) (x6 x7 : Int) (x8 : Λ) : Ω (Λ × Int) := (if x3 < x7 then (if 0 ≤ x3 then (if x3 < (ln x0) then ((c39 x4 (rd x0 x3)).bind fun t1 => (if 0 ≤ (wrap64 (x1 + x3)) then (if (wrap64 (x1 + x3)) < (ln x8) then ((c60 t1.2 (rd x8 (wrap64 (x1 + x3))) 0).bind fun t2 => ((c60 t2.1 x2 0).bind fun t3 => (if 0 ≤ (wrap64 (x1 + x3)) then (if (wrap64 (x1 + x3)) < (ln x8) then k2085685 x0 x1 (IntKind.u64.wrap ((IntKind.u64.wrap (t1.1 + t2.2)) + t3.2)) (wrap64 (x3 + 1)) x4 x5 x6 x7 (x8.set (wrap64 (x1 + x3) : Int).toNat t3.1) else none) else none))) else none) else none)) else none) else none) else k260711 x0 x1 x2 x5 x6 x8)
noncomputable def l255 (n : Nat) (x0 : Λ) : Ω (Λ × Int) := b255 bits_Mul64.f (nat_big.f n) (nat_size.f n) (nat_cut.f n) bits_Add64.f x0
noncomputable def l260711 (n : Nat) (k2037 : T42) (x0 : Λ) (x1 x2 : Int) (x3 : Λ) (x4 : Int) (x5 : Λ) : Ω (Λ × Int) := b260711 bits_Mul64.f (nat_big.f n) (nat_size.f n) (nat_cut.f n) bits_Add64.f k2037 x0 x1 x2 x3 x4 x5
noncomputable def l2085685 (n : Nat) (k2037 : T42) : Nat→Λ→Int→Int→Int→Int→Λ→Int→Int→Λ→Ω (Λ × Int)
  | 0, _, _, _, _, _, _, _, _, _ => none
  | m + 1, x0, x1, x2, x3, x4, x5, x6, x7, x8 => b2085685 bits_Mul64.f (nat_big.f n) (nat_size.f n) (nat_cut.f n) bits_Add64.f (l260711 n k2037) (l2085685 n k2037 m) x0 x1 x2 x3 x4 x5 x6 x7 x8
noncomputable def l2037 (n : Nat) : Nat→Λ→Λ→Int→Int→Λ→Ω (Λ × Int)
  | 0, _, _, _, _, _ => none
  | m + 1, x0, x1, x2, x3, x4 => b2037 bits_Mul64.f (nat_big.f n) (nat_size.f n) (nat_cut.f n) bits_Add64.f (l255 n) (l2085685 n (l2037 n m) n) x0 x1 x2 x3 x4
noncomputable def f (n : Nat) (l0 l1 : Λ) : Ω (Λ × Int) := b0 bits_Mul64.f (nat_big.f n) (nat_size.f n) (nat_cut.f n) bits_Add64.f (l2037 n n) l0 l1
noncomputable def sg : Sig (Λ × Int) := s2 (sRow .u64) (s1 (sInt .i64))
noncomputable def code : Code := (Tryd.f57.body).getD .skip
noncomputable def cfg (c39 : T5) (c49 : T4) (c50 : T1) (c51 : T3) (c60 : T2) : Cfg (Λ × Int) := { T := tys, call := orCall 39 (bits_Mul64.call c39) (orCall 49 (nat_big.call c49) (orCall 50 (nat_size.call c50) (orCall 51 (nat_cut.call c51) (orCall 60 (bits_Add64.call c60) (noCall))))), lay := lays }
noncomputable def cuts : List (Nat × List (Nat × Want)) := [(255, [(6, .keep)]), (2037, [(1, .keep), (6, .keep), (50, .keep), (51, .keep), (52, .keep)]), (260711, [(1, .keep), (6, .keep), (7, .keep), (9, .keep), (50, .keep), (51, .keep), (52, .keep)]), (2085685, [(1, .keep), (6, .keep), (7, .keep), (8, .keep), (9, .keep), (50, .keep), (51, .keep), (52, .keep), (57, .keep), (58, .keep), (59, .keep)])]
noncomputable def s255 (x0 : Λ) : ASt := ⟨[(6, .own 0)], [.ints 22 .u64 x0]⟩
noncomputable def s2037 (x0 x1 : Λ) (x2 x3 : Int) (x4 : Λ) : ASt := ⟨[(1, .ro .u64 x0), (6, .own 0), (50, .ro .u64 x1), (51, .int .i64 x2), (52, .int .i64 x3)], [.ints 22 .u64 x4]⟩
noncomputable def s260711 (x0 : Λ) (x1 x2 : Int) (x3 : Λ) (x4 : Int) (x5 : Λ) : ASt := ⟨[(1, .ro .u64 x0), (6, .own 0), (7, .int .i64 x1), (9, .int .u64 x2), (50, .ro .u64 x3), (51, .int .i64 x4), (52, .int .i64 x1)], [.ints 22 .u64 x5]⟩
noncomputable def s2085685 (x0 : Λ) (x1 x2 x3 x4 : Int) (x5 : Λ) (x6 x7 : Int) (x8 : Λ) : ASt := ⟨[(1, .ro .u64 x0), (6, .own 0), (7, .int .i64 x1), (8, .int .u64 x4), (9, .int .u64 x2), (50, .ro .u64 x5), (51, .int .i64 x6), (52, .int .i64 x1), (57, .ro .u64 x0), (58, .int .i64 x7), (59, .int .i64 x3)], [.ints 22 .u64 x8]⟩
noncomputable def A (c39 : T5) (c49 : T4) (c50 : T1) (c51 : T3) (c60 : T2) (n : Nat) (J : Jt (Λ × Int)) (q : Nat) (ms : List Nat) : ASt→Ω (Λ × Int) := acont (cfg c39 c49 c50 c51 c60) J cuts n q code 1 ms (aend (cfg c39 c49 c50 c51 c60) Tryd.f57.results.toList [false, false] sg.out)
theorem e0 {c39 c49 c50 c51 c60 n J l0 l1} : afun (cfg c39 c49 c50 c51 c60) J cuts n code Tryd.f57.results.toList [false, false] [.ro .u64 l0, .ro .u64 l1] sg.out = b0 c39 c49 c50 c51 c60 (fun y0 y1 y2 y3 y4 => J 2037 (A c39 c49 c50 c51 c60 n J 2037 [n]) (s2037 y0 y1 y2 y3 y4)) l0 l1 := by kernel_rfl
theorem e255 {c39 c49 c50 c51 c60 n J x0} : A c39 c49 c50 c51 c60 n J 255 [] (s255 x0) = b255 c39 c49 c50 c51 c60 x0 := by kernel_rfl
theorem e2037 {c39 c49 c50 c51 c60 n J m x0 x1 x2 x3 x4} : A c39 c49 c50 c51 c60 n J 2037 [m + 1] (s2037 x0 x1 x2 x3 x4) = b2037 c39 c49 c50 c51 c60 (fun y0 => J 255 (A c39 c49 c50 c51 c60 n J 255 []) (s255 y0)) (fun y0 y1 y2 y3 y4 y5 y6 y7 y8 => J 2085685 (A c39 c49 c50 c51 c60 n J 2085685 [m, n]) (s2085685 y0 y1 y2 y3 y4 y5 y6 y7 y8)) x0 x1 x2 x3 x4 := by kernel_rfl
theorem e260711 {c39 c49 c50 c51 c60 n J m2037 x0 x1 x2 x3 x4 x5} : A c39 c49 c50 c51 c60 n J 260711 [m2037] (s260711 x0 x1 x2 x3 x4 x5) = b260711 c39 c49 c50 c51 c60 (fun y0 y1 y2 y3 y4 => J 2037 (A c39 c49 c50 c51 c60 n J 2037 [m2037]) (s2037 y0 y1 y2 y3 y4)) x0 x1 x2 x3 x4 x5 := by kernel_rfl
theorem e2085685 {c39 c49 c50 c51 c60 n J m2037 m x0 x1 x2 x3 x4 x5 x6 x7 x8} : A c39 c49 c50 c51 c60 n J 2085685 [m2037, m + 1] (s2085685 x0 x1 x2 x3 x4 x5 x6 x7 x8) = b2085685 c39 c49 c50 c51 c60 (fun y0 y1 y2 y3 y4 y5 => J 260711 (A c39 c49 c50 c51 c60 n J 260711 [m2037]) (s260711 y0 y1 y2 y3 y4 y5)) (fun y0 y1 y2 y3 y4 y5 y6 y7 y8 => J 2085685 (A c39 c49 c50 c51 c60 n J 2085685 [m2037, m]) (s2085685 y0 y1 y2 y3 y4 y5 y6 y7 y8)) x0 x1 x2 x3 x4 x5 x6 x7 x8 := by kernel_rfl
noncomputable abbrev I (n : Nat) := A bits_Mul64.f (nat_big.f n) (nat_size.f n) (nat_cut.f n) bits_Add64.f n idJ
theorem q255 (n x0) : I n 255 [] (s255 x0) = l255 n x0 := e255
theorem q260711 (n m2037 x0 x1 x2 x3 x4 x5) : I n 260711 [m2037] (s260711 x0 x1 x2 x3 x4 x5) = l260711 n (fun y0 y1 y2 y3 y4 => I n 2037 [m2037] (s2037 y0 y1 y2 y3 y4)) x0 x1 x2 x3 x4 x5 := e260711
theorem q2085685 (n m2037 m) : ∀ x0 x1 x2 x3 x4 x5 x6 x7 x8, I n 2085685 [m2037, m] (s2085685 x0 x1 x2 x3 x4 x5 x6 x7 x8) = l2085685 n (fun y0 y1 y2 y3 y4 => I n 2037 [m2037] (s2037 y0 y1 y2 y3 y4)) m x0 x1 x2 x3 x4 x5 x6 x7 x8 := by
  induction m with
  | zero => intros; rfl
  | succ m ih =>
    intros
    exact e2085685.trans (Eq.trans (cf9 (congr (congrArg (b2085685 _ _ _ _ _) (fu6 (q260711 n m2037))) (fu9 (ih))) _ _ _ _ _ _ _ _ _) rfl)
theorem q2037 (n m) : ∀ x0 x1 x2 x3 x4, I n 2037 [m] (s2037 x0 x1 x2 x3 x4) = l2037 n m x0 x1 x2 x3 x4 := by
  induction m with
  | zero => intros; rfl
  | succ m ih =>
    intros
    exact e2037.trans (Eq.trans (cf5 (congr (congrArg (b2037 _ _ _ _ _) (fu1 (q255 n))) ((fu9 (q2085685 n m n)).trans (by rw [show (fun y0 y1 y2 y3 y4 => I n 2037 [m] (s2037 y0 y1 y2 y3 y4)) = _ from (fu5 (ih))]))) _ _ _ _ _) rfl)
theorem ok {n  l0 l1 r} (h : f n l0 l1 = some r) : CallD Tryd.prog HW 57 [.ro .u64 l0, .ro .u64 l1] (sg.enc r) :=
  fun_some hwS Tryd.func57 (by kernel_rfl) (body := code) (by kernel_rfl) tys_ok (c := cfg bits_Mul64.f (nat_big.f n) (nat_size.f n) (nat_cut.f n) bits_Add64.f) ⟨(orCall_ok bits_Mul64.call_ok (orCall_ok (nat_big.call_ok (n := n)) (orCall_ok (nat_size.call_ok (n := n)) (orCall_ok (nat_cut.call_ok (n := n)) (orCall_ok bits_Add64.call_ok noCall_ok))))), noQ_ok'⟩ ⟨noW_ok, noP_ok'⟩ (by kernel_rfl) (by kernel_rfl) (Nat.le_of_ble_eq_true (by kernel_rfl)) (Eq.trans ((e0 (n := n)).trans (Eq.trans (cf2 (congrArg (b0 _ _ _ _ _) (fu5 (q2037 n n))) _ _) rfl)) h)
noncomputable def call {α : Type} (g : T9) (ds : List D) (K : List D→Ω α) : Ω α := match ds with
  | [.ro .u64 l0, .ro .u64 l1] => (g l0 l1).bind fun r => K (sg.enc r)
  | _ => none
theorem call_ok {α : Type} {n : Nat} : COK Tryd.prog HW 57 (call (α := α) (f n)) := fun _ _ _ h => by
  unfold call at h; split at h
  · exact cok h fun _ => ok
  · cases h
end nat_Mul
/-! ### soft_fraction_flags: function 70 -/
namespace soft_fraction_flags
noncomputable def b0 (c23 : T6) (c33 : T24) (c56 : T7) (c57 : T9) (c67 : T37) (a0 : Bool) (l1 l2 : Λ) (a3 a4 : Int) : Ω (Int) := ((c23 a4).bind fun t1 => (if t1.2.1 = 3 then some 20 else ((c33 t1.2.2.1).bind fun t2 => ((c57 l2 t2).bind fun t3 => ((c67 l1 a3 t3.1 t1.2.2.2).bind fun t4 => ((c56 t4.1 t4.2.1).bind fun t5 => (if t5 = 0 then some 0 else ((c67 l1 a3 l2 (-1022)).bind fun t6 => ((c56 t6.1 t6.2.1).bind fun t7 => (if t7 < 0 then some 24 else some 16))))))))))
noncomputable def f (n : Nat) (a0 : Bool) (l1 l2 : Λ) (a3 a4 : Int) : Ω (Int) := b0 ieee_Decode.f nat_FromUint.f (nat_Cmp.f n) (nat_Mul.f n) (soft_aligned.f n) a0 l1 l2 a3 a4
noncomputable def sg : Sig (Int) := s1 (sInt .i64)
noncomputable def code : Code := (Tryd.f70.body).getD .skip
noncomputable def cfg (c23 : T6) (c33 : T24) (c56 : T7) (c57 : T9) (c67 : T37) : Cfg (Int) := { T := tys, call := orCall 23 (ieee_Decode.call c23) (orCall 33 (nat_FromUint.call c33) (orCall 56 (nat_Cmp.call c56) (orCall 57 (nat_Mul.call c57) (orCall 67 (soft_aligned.call c67) (noCall))))), lay := lays }
noncomputable def cuts : List (Nat × List (Nat × Want)) := []
theorem e0 {c23 c33 c56 c57 c67 n J a0 l1 l2 a3 a4} : afun (cfg c23 c33 c56 c57 c67) J cuts n code Tryd.f70.results.toList [false] [.agg [.bool a0, .ro .u64 l1, .ro .u64 l2, .int .i64 a3], .int .u64 a4] sg.out = b0 c23 c33 c56 c57 c67 a0 l1 l2 a3 a4 := by kernel_rfl
theorem ok {n  a0 l1 l2 a3 a4 r} (h : f n a0 l1 l2 a3 a4 = some r) : CallD Tryd.prog HW 70 [.agg [.bool a0, .ro .u64 l1, .ro .u64 l2, .int .i64 a3], .int .u64 a4] (sg.enc r) :=
  fun_some hwS Tryd.func70 (by kernel_rfl) (body := code) (by kernel_rfl) tys_ok (c := cfg ieee_Decode.f nat_FromUint.f (nat_Cmp.f n) (nat_Mul.f n) (soft_aligned.f n)) ⟨(orCall_ok ieee_Decode.call_ok (orCall_ok nat_FromUint.call_ok (orCall_ok (nat_Cmp.call_ok (n := n)) (orCall_ok (nat_Mul.call_ok (n := n)) (orCall_ok (soft_aligned.call_ok (n := n)) noCall_ok))))), noQ_ok'⟩ ⟨noW_ok, noP_ok'⟩ (by kernel_rfl) (by kernel_rfl) (Nat.le_of_ble_eq_true (by kernel_rfl)) (Eq.trans ((e0 (n := n))) h)
noncomputable def call {α : Type} (g : T47) (ds : List D) (K : List D→Ω α) : Ω α := match ds with
  | [.agg [.bool a0, .ro .u64 l1, .ro .u64 l2, .int .i64 a3], .int .u64 a4] => (g a0 l1 l2 a3 a4).bind fun r => K (sg.enc r)
  | _ => none
theorem call_ok {α : Type} {n : Nat} : COK Tryd.prog HW 70 (call (α := α) (f n)) := fun _ _ _ h => by
  unfold call at h; split at h
  · exact cok h fun _ => ok
  · cases h
end soft_fraction_flags
/-! ### soft_term_rounded: function 48 -/
namespace soft_term_rounded
noncomputable def b0 (c27 : T11) (c69 : T18) (c70 : T47) (a0 : Bool) (l1 : Λ) (a2 : Int) : Ω (Int × Int) := (if (ln l1) = 0 then ((c69 a0 0).bind fun t1 => some (t1, 0)) else ((c27 a0 l1 a2 false).bind fun t2 => ((c70 a0 l1 [1] a2 t2.1).bind fun t3 => some (t2.1, t3))))
noncomputable def f (n : Nat) (a0 : Bool) (l1 : Λ) (a2 : Int) : Ω (Int × Int) := b0 (ieee_Round.f n) soft_withSign.f (soft_fraction_flags.f n) a0 l1 a2
noncomputable def sg : Sig (Int × Int) := s2 (sInt .u64) (s1 (sInt .i64))
noncomputable def code : Code := (Tryd.f48.body).getD .skip
noncomputable def cfg (c27 : T11) (c69 : T18) (c70 : T47) : Cfg (Int × Int) := { T := tys, call := orCall 27 (ieee_Round.call c27) (orCall 69 (soft_withSign.call c69) (orCall 70 (soft_fraction_flags.call c70) (noCall))), lay := lays }
noncomputable def cuts : List (Nat × List (Nat × Want)) := []
theorem e0 {c27 c69 c70 n J a0 l1 a2} : afun (cfg c27 c69 c70) J cuts n code Tryd.f48.results.toList [false, false] [.agg [.bool a0, .ro .u64 l1, .int .i64 a2]] sg.out = b0 c27 c69 c70 a0 l1 a2 := by kernel_rfl
theorem ok {n  a0 l1 a2 r} (h : f n a0 l1 a2 = some r) : CallD Tryd.prog HW 48 [.agg [.bool a0, .ro .u64 l1, .int .i64 a2]] (sg.enc r) :=
  fun_some hwS Tryd.func48 (by kernel_rfl) (body := code) (by kernel_rfl) tys_ok (c := cfg (ieee_Round.f n) soft_withSign.f (soft_fraction_flags.f n)) ⟨(orCall_ok (ieee_Round.call_ok (n := n)) (orCall_ok soft_withSign.call_ok (orCall_ok (soft_fraction_flags.call_ok (n := n)) noCall_ok))), noQ_ok'⟩ ⟨noW_ok, noP_ok'⟩ (by kernel_rfl) (by kernel_rfl) (Nat.le_of_ble_eq_true (by kernel_rfl)) (Eq.trans ((e0 (n := n))) h)
noncomputable def call {α : Type} (g : T39) (ds : List D) (K : List D→Ω α) : Ω α := match ds with
  | [.agg [.bool a0, .ro .u64 l1, .int .i64 a2]] => (g a0 l1 a2).bind fun r => K (sg.enc r)
  | _ => none
theorem call_ok {α : Type} {n : Nat} : COK Tryd.prog HW 48 (call (α := α) (f n)) := fun _ _ _ h => by
  unfold call at h; split at h
  · exact cok h fun _ => ok
  · cases h
end soft_term_rounded
/-! ### soft_add: function 30 -/
namespace soft_add
noncomputable def b0 (c23 : T6) (c31 : T35) (c46 : T36) (c47 : T38) (c48 : T39) (k231 : Int→Int→Bool→Bool→Int→Int→Int→Bool→Int→Int→Int→Ω (Int × Int)) (a0 a1 a2 : Int) : Ω (Int × Int) := ((c23 a0).bind fun t1 => ((c23 a1).bind fun t2 => (if t1.2.1 = 4 then some (9221120237041090560, 0) else (if t2.2.1 = 4 then some (9221120237041090560, 0) else (if t1.2.1 = 3 then (if t2.2.1 = 3 then k231 a0 a1 (t1.1 != t2.1) t1.1 t1.2.1 t1.2.2.1 t1.2.2.2 t2.1 t2.2.1 t2.2.2.1 t2.2.2.2 else k231 a0 a1 false t1.1 t1.2.1 t1.2.2.1 t1.2.2.2 t2.1 t2.2.1 t2.2.2.1 t2.2.2.2) else k231 a0 a1 false t1.1 t1.2.1 t1.2.2.1 t1.2.2.2 t2.1 t2.2.1 t2.2.2.1 t2.2.2.2)))))
noncomputable def b231 (c23 : T6) (c31 : T35) (c46 : T36) (c47 : T38) (c48 : T39) (x0 x1 : Int) (x2 x3 : Bool) (x4 x5 x6 : Int) (x7 : Bool) (x8 x9 x10 : Int) : Ω (Int × Int) := (if x2 = true then ((c31).bind fun t1 => some (t1.1, t1.2)) else (if x4 = 3 then some (x0, 0) else (if x8 = 3 then some (x1, 0) else ((c46 x3 x4 x5 x6).bind fun t2 => ((c46 x7 x8 x9 x10).bind fun t3 => ((c47 t2.1 t2.2.1 t2.2.2 t3.1 t3.2.1 t3.2.2).bind fun t4 => ((c48 t4.1 t4.2.1 t4.2.2).bind fun t5 => some (t5.1, t5.2))))))))
noncomputable def l231 (n : Nat) (x0 x1 : Int) (x2 x3 : Bool) (x4 x5 x6 : Int) (x7 : Bool) (x8 x9 x10 : Int) : Ω (Int × Int) := b231 ieee_Decode.f soft_invalid.f soft_termOf.f (soft_term_plus.f n) (soft_term_rounded.f n) x0 x1 x2 x3 x4 x5 x6 x7 x8 x9 x10
noncomputable def f (n : Nat) (a0 a1 a2 : Int) : Ω (Int × Int) := b0 ieee_Decode.f soft_invalid.f soft_termOf.f (soft_term_plus.f n) (soft_term_rounded.f n) (l231 n) a0 a1 a2
noncomputable def sg : Sig (Int × Int) := s2 (sInt .u64) (s1 (sInt .i64))
noncomputable def code : Code := (Tryd.f30.body).getD .skip
noncomputable def cfg (c23 : T6) (c31 : T35) (c46 : T36) (c47 : T38) (c48 : T39) : Cfg (Int × Int) := { T := tys, call := orCall 23 (ieee_Decode.call c23) (orCall 31 (soft_invalid.call c31) (orCall 46 (soft_termOf.call c46) (orCall 47 (soft_term_plus.call c47) (orCall 48 (soft_term_rounded.call c48) (noCall))))), lay := lays }
noncomputable def cuts : List (Nat × List (Nat × Want)) := [(231, [(0, .keep), (1, .keep), (8, .keep), (9, .keep), (23, .keep)])]
noncomputable def s231 (x0 x1 : Int) (x2 x3 : Bool) (x4 x5 x6 : Int) (x7 : Bool) (x8 x9 x10 : Int) : ASt := ⟨[(0, .int .u64 x0), (1, .int .u64 x1), (8, .ptr 0 0), (9, .ptr 1 0), (23, .bool x2)], [.cells 46 [.bool x3, .int .i64 x4, .int .u64 x5, .int .i64 x6], .cells 46 [.bool x7, .int .i64 x8, .int .u64 x9, .int .i64 x10]]⟩
noncomputable def A (c23 : T6) (c31 : T35) (c46 : T36) (c47 : T38) (c48 : T39) (n : Nat) (J : Jt (Int × Int)) (q : Nat) (ms : List Nat) : ASt→Ω (Int × Int) := acont (cfg c23 c31 c46 c47 c48) J cuts n q code 1 ms (aend (cfg c23 c31 c46 c47 c48) Tryd.f30.results.toList [false, false] sg.out)
theorem e0 {c23 c31 c46 c47 c48 n J a0 a1 a2} : afun (cfg c23 c31 c46 c47 c48) J cuts n code Tryd.f30.results.toList [false, false] [.int .u64 a0, .int .u64 a1, .int .u64 a2] sg.out = b0 c23 c31 c46 c47 c48 (fun y0 y1 y2 y3 y4 y5 y6 y7 y8 y9 y10 => J 231 (A c23 c31 c46 c47 c48 n J 231 []) (s231 y0 y1 y2 y3 y4 y5 y6 y7 y8 y9 y10)) a0 a1 a2 := by kernel_rfl
theorem e231 {c23 c31 c46 c47 c48 n J x0 x1 x2 x3 x4 x5 x6 x7 x8 x9 x10} : A c23 c31 c46 c47 c48 n J 231 [] (s231 x0 x1 x2 x3 x4 x5 x6 x7 x8 x9 x10) = b231 c23 c31 c46 c47 c48 x0 x1 x2 x3 x4 x5 x6 x7 x8 x9 x10 := by kernel_rfl
noncomputable abbrev I (n : Nat) := A ieee_Decode.f soft_invalid.f soft_termOf.f (soft_term_plus.f n) (soft_term_rounded.f n) n idJ
theorem q231 (n x0 x1 x2 x3 x4 x5 x6 x7 x8 x9 x10) : I n 231 [] (s231 x0 x1 x2 x3 x4 x5 x6 x7 x8 x9 x10) = l231 n x0 x1 x2 x3 x4 x5 x6 x7 x8 x9 x10 := e231
theorem ok {n  a0 a1 a2 r} (h : f n a0 a1 a2 = some r) : CallD Tryd.prog HW 30 [.int .u64 a0, .int .u64 a1, .int .u64 a2] (sg.enc r) :=
  fun_some hwS Tryd.func30 (by kernel_rfl) (body := code) (by kernel_rfl) tys_ok (c := cfg ieee_Decode.f soft_invalid.f soft_termOf.f (soft_term_plus.f n) (soft_term_rounded.f n)) ⟨(orCall_ok ieee_Decode.call_ok (orCall_ok soft_invalid.call_ok (orCall_ok soft_termOf.call_ok (orCall_ok (soft_term_plus.call_ok (n := n)) (orCall_ok (soft_term_rounded.call_ok (n := n)) noCall_ok))))), noQ_ok'⟩ ⟨noW_ok, noP_ok'⟩ (by kernel_rfl) (by kernel_rfl) (Nat.le_of_ble_eq_true (by kernel_rfl)) (Eq.trans ((e0 (n := n)).trans (Eq.trans (cf3 (congrArg (b0 _ _ _ _ _) (fu11 (q231 n))) _ _ _) rfl)) h)
noncomputable def call {α : Type} (g : T2) (ds : List D) (K : List D→Ω α) : Ω α := match ds with
  | [.int .u64 a0, .int .u64 a1, .int .u64 a2] => (g a0 a1 a2).bind fun r => K (sg.enc r)
  | _ => none
theorem call_ok {α : Type} {n : Nat} : COK Tryd.prog HW 30 (call (α := α) (f n)) := fun _ _ _ h => by
  unfold call at h; split at h
  · exact cok h fun _ => ok
  · cases h
end soft_add
/-! ### soft_Add: function 15 -/
namespace soft_Add
noncomputable def b0 (c30 : T2) (a0 a1 : Int) : Ω (Int) := ((c30 a0 a1 0).bind fun t1 => some t1.1)
noncomputable def f (n : Nat) (a0 a1 : Int) : Ω (Int) := b0 (soft_add.f n) a0 a1
noncomputable def sg : Sig (Int) := s1 (sInt .u64)
noncomputable def code : Code := (Tryd.f15.body).getD .skip
noncomputable def cfg (c30 : T2) : Cfg (Int) := { T := tys, call := orCall 30 (soft_add.call c30) (noCall), lay := lays }
noncomputable def cuts : List (Nat × List (Nat × Want)) := []
theorem e0 {c30 n J a0 a1} : afun (cfg c30) J cuts n code Tryd.f15.results.toList [false] [.int .u64 a0, .int .u64 a1] sg.out = b0 c30 a0 a1 := by kernel_rfl
theorem ok {n  a0 a1 r} (h : f n a0 a1 = some r) : CallD Tryd.prog HW 15 [.int .u64 a0, .int .u64 a1] (sg.enc r) :=
  fun_some hwS Tryd.func15 (by kernel_rfl) (body := code) (by kernel_rfl) tys_ok (c := cfg (soft_add.f n)) ⟨(orCall_ok (soft_add.call_ok (n := n)) noCall_ok), noQ_ok'⟩ ⟨noW_ok, noP_ok'⟩ (by kernel_rfl) (by kernel_rfl) (Nat.le_of_ble_eq_true (by kernel_rfl)) (Eq.trans ((e0 (n := n))) h)
noncomputable def call {α : Type} (g : T10) (ds : List D) (K : List D→Ω α) : Ω α := match ds with
  | [.int .u64 a0, .int .u64 a1] => (g a0 a1).bind fun r => K (sg.enc r)
  | _ => none
theorem call_ok {α : Type} {n : Nat} : COK Tryd.prog HW 15 (call (α := α) (f n)) := fun _ _ _ h => by
  unfold call at h; split at h
  · exact cok h fun _ => ok
  · cases h
end soft_Add
/-! ### gather_New: function 18 -/
namespace gather_New
noncomputable def b0 : Ω (Bool × Bool × Bool × Bool × Int × Λ × Λ) := some (false, false, false, false, 0, List.replicate 72 (0 : Int), List.replicate 72 (0 : Int))
noncomputable def f : Ω (Bool × Bool × Bool × Bool × Int × Λ × Λ) := b0
noncomputable def sg : Sig (Bool × Bool × Bool × Bool × Int × Λ × Λ) := s1 (sBox 65 (gcBool (gcBool (gcBool (gcBool (gcInt .i64 (gcArr .u64 72 (gArr .u64 72))))))))
noncomputable def code : Code := (Tryd.f18.body).getD .skip
noncomputable def cfg : Cfg (Bool × Bool × Bool × Bool × Int × Λ × Λ) := { T := tys, call := noCall, lay := lays }
noncomputable def cuts : List (Nat × List (Nat × Want)) := []
theorem e0 {n J} : afun cfg J cuts n code Tryd.f18.results.toList [true] [] sg.out = b0 := by kernel_rfl
theorem ok {r} (h : f = some r) : CallD Tryd.prog HW 18 [] (sg.enc r) :=
  fun_some hwS Tryd.func18 (by kernel_rfl) (body := code) (by kernel_rfl) tys_ok (c := cfg) ⟨noCall_ok, noQ_ok'⟩ ⟨noW_ok, noP_ok'⟩ (by kernel_rfl) (by kernel_rfl) (Nat.le_of_ble_eq_true (by kernel_rfl)) (Eq.trans ((e0 (n := 0))) h)
noncomputable def call {α : Type} (g : T30) (ds : List D) (K : List D→Ω α) : Ω α := match ds with
  | [] => (g).bind fun r => K (sg.enc r)
  | _ :: _ => none
theorem call_ok {α : Type} : COK Tryd.prog HW 18 (call (α := α) f) := fun _ _ _ h => by
  unfold call at h; split at h
  · exact cok h fun _ => ok
  · cases h
end gather_New
/-! ### gather_zero: function 38 -/
namespace gather_zero
noncomputable def b0 (a0 : Bool) : Ω (Int) := (if a0 = true then some 9223372036854775808 else some 0)
noncomputable def f (a0 : Bool) : Ω (Int) := b0 a0
noncomputable def sg : Sig (Int) := s1 (sInt .u64)
noncomputable def code : Code := (Tryd.f38.body).getD .skip
noncomputable def cfg : Cfg (Int) := { T := tys, call := noCall, lay := lays }
noncomputable def cuts : List (Nat × List (Nat × Want)) := []
theorem e0 {n J a0} : afun cfg J cuts n code Tryd.f38.results.toList [false] [.bool a0] sg.out = b0 a0 := by kernel_rfl
theorem ok {a0 r} (h : f a0 = some r) : CallD Tryd.prog HW 38 [.bool a0] (sg.enc r) :=
  fun_some hwS Tryd.func38 (by kernel_rfl) (body := code) (by kernel_rfl) tys_ok (c := cfg) ⟨noCall_ok, noQ_ok'⟩ ⟨noW_ok, noP_ok'⟩ (by kernel_rfl) (by kernel_rfl) (Nat.le_of_ble_eq_true (by kernel_rfl)) (Eq.trans ((e0 (n := 0))) h)
noncomputable def call {α : Type} (g : T8) (ds : List D) (K : List D→Ω α) : Ω α := match ds with
  | [.bool a0] => (g a0).bind fun r => K (sg.enc r)
  | _ => none
theorem call_ok {α : Type} : COK Tryd.prog HW 38 (call (α := α) f) := fun _ _ _ h => by
  unfold call at h; split at h
  · exact cok h fun _ => ok
  · cases h
end gather_zero
/-! ### gather_kinds_odd: function 59 -/
namespace gather_kinds_odd
noncomputable def b0 (c11 : T0) (a0_0 a0_1 a0_2 a0_3 : Bool) (a1 : Int) : Ω ((Bool × Bool × Bool × Bool) × Bool) := ((c11 a1).bind fun t1 => (if t1 = 4 then some ((true, a0_1, a0_2, true), true) else (if t1 = 3 then (if a1 = 9218868437227405312 then some ((a0_0, true, a0_2, true), true) else some ((a0_0, a0_1, true, true), true)) else some ((a0_0, a0_1, a0_2, a0_3), false))))
noncomputable def f (a0_0 a0_1 a0_2 a0_3 : Bool) (a1 : Int) : Ω ((Bool × Bool × Bool × Bool) × Bool) := b0 ieee_Class.f a0_0 a0_1 a0_2 a0_3 a1
noncomputable def sg : Sig (Bool) := s1 (sBool)
noncomputable def code : Code := (Tryd.f59.body).getD .skip
noncomputable def cfg (c11 : T0) : Cfg ((Bool × Bool × Bool × Bool) × Bool) := { T := tys, call := orCall 11 (ieee_Class.call c11) (noCall), lay := lays }
noncomputable def gs : SegSig (Bool × Bool × Bool × Bool) := gcBool (gcBool (gcBool (gBool)))
noncomputable def cuts : List (Nat × List (Nat × Want)) := []
theorem e0 (c11 : T0) (n : Nat) (J : Jt ((Bool × Bool × Bool × Bool) × Bool)) (a0_0 a0_1 a0_2 a0_3 : Bool) (a1 : Int) : afunp (cfg c11) J cuts n code Tryd.f59.results.toList false [.bool a0_0, .bool a0_1, .bool a0_2, .bool a0_3] [.int .u64 a1] (sgp gs sg) = b0 c11 a0_0 a0_1 a0_2 a0_3 a1 := by kernel_rfl
theorem eq (n : Nat) (a0_0 a0_1 a0_2 a0_3 : Bool) (a1 : Int) : afunp (cfg ieee_Class.f) idJ cuts n code Tryd.f59.results.toList false [.bool a0_0, .bool a0_1, .bool a0_2, .bool a0_3] [.int .u64 a1] (sgp gs sg) = f a0_0 a0_1 a0_2 a0_3 a1 := (e0 ieee_Class.f n idJ a0_0 a0_1 a0_2 a0_3 a1).trans (rfl)
theorem ok {n : Nat} {a0_0 : Bool} {a0_1 : Bool} {a0_2 : Bool} {a0_3 : Bool} {a1 : Int} {r : (Bool × Bool × Bool × Bool) × Bool} (h : f a0_0 a0_1 a0_2 a0_3 a1 = some r) : CallP Tryd.prog HW 59 false [.bool a0_0, .bool a0_1, .bool a0_2, .bool a0_3] [.int .u64 a1] (gs.enc r.1) (sg.enc r.2) :=
  funp_some Tryd.func59 (by kernel_rfl) (body := code) (by kernel_rfl) tys_ok (c := cfg ieee_Class.f) ⟨(orCall_ok ieee_Class.call_ok noCall_ok), noQ_ok'⟩ ⟨noW_ok, noP_ok'⟩ (by kernel_rfl) (by kernel_rfl) (Nat.le_of_ble_eq_true (by kernel_rfl)) ((eq n a0_0 a0_1 a0_2 a0_3 a1).trans h)
noncomputable def call {α : Type} (g : T25) (al : Bool) (ss : List Seg) (ds : List D) (K : List Seg→List D→Ω α) : Ω α := match al, ss, ds with
  | false, [.bool a0_0, .bool a0_1, .bool a0_2, .bool a0_3], [.int .u64 a1] => (g a0_0 a0_1 a0_2 a0_3 a1).bind fun r => K (gs.enc r.1) (sg.enc r.2)
  | _, _, _ => none
theorem call_ok {α : Type} {n : Nat} (al : Bool) (ss : List Seg) (ds : List D) (K : List Seg→List D→Ω α) (r : α) (h : call f al ss ds K = some r) : ∃ l' rs, K l' rs = some r ∧ CallP Tryd.prog HW 59 al ss ds l' rs := by
  unfold call at h
  split at h
  · obtain ⟨x, hx, hk⟩ := Option.bind_eq_some_iff.1 h
    exact ⟨_, _, hk, ok (n := n) hx⟩
  · cases h
end gather_kinds_odd
/-! ### gather_Acc_side: function 40 -/
namespace gather_Acc_side
noncomputable def b0 (a0 : Bool) : Ω (Int) := (if a0 = true then some (77 : Int) else some (5 : Int))
noncomputable def f (a0 : Bool) : Ω (Int) := b0 a0
noncomputable def sg : Sig (Unit) := s0
noncomputable def code : Code := (Tryd.f40.body).getD .skip
noncomputable def cfg : Cfg (Int) := { T := tys, call := noCall, lay := lays }
noncomputable def cuts : List (Nat × List (Nat × Want)) := []
theorem e0 (n : Nat) (J : Jt (Int)) (a0 : Bool) : afunq cfg J cuts n code Tryd.f40.results.toList [.bool a0] some = b0 a0 := by kernel_rfl
theorem eq (n : Nat) (a0 : Bool) : afunq cfg idJ cuts n code Tryd.f40.results.toList [.bool a0] some = f a0 := (e0 n idJ a0).trans (rfl)
theorem ok {n : Nat} {a0 : Bool} {r : Int} (h : f a0 = some r) : CallQ Tryd.prog HW 40 [.bool a0] r :=
  funq_some Tryd.func40 (by kernel_rfl) (body := code) (by kernel_rfl) tys_ok (c := cfg) ⟨noCall_ok, noQ_ok'⟩ ⟨noW_ok, noP_ok'⟩ (by kernel_rfl) (by kernel_rfl) (Nat.le_of_ble_eq_true (by kernel_rfl)) ((eq n a0).trans h)
noncomputable def call {α : Type} (g : T8) (ds : List D) (K : Int→Ω α) : Ω α := match ds with
  | [.bool a0] => (g a0).bind K
  | _ => none
theorem call_ok {α : Type} {n : Nat} (ds : List D) (K : Int→Ω α) (r : α) (h : call f ds K = some r) : ∃ off, K off = some r ∧ CallQ Tryd.prog HW 40 ds off := by
  unfold call at h
  split at h
  · obtain ⟨x, hx, hk⟩ := Option.bind_eq_some_iff.1 h
    exact ⟨_, hk, ok (n := n) hx⟩
  · cases h
end gather_Acc_side
/-! ### gather_row_put: function 41 -/
namespace gather_row_put
noncomputable def b0 (c60 : T2) (k15 : Int→Λ→Λ→Ω (Λ × Unit)) (r0_0 : Λ) (a1 a2 a3 : Int) : Ω (Λ × Unit) := (if 0 ≤ (IntKind.u64.wrap (Int.tmod a3 64)) then (if 0 ≤ (IntKind.u64.wrap (Int.tmod a3 64)) then (if (IntKind.u64.wrap (Int.tmod a3 64)) > 0 then (if 0 ≤ (IntKind.u64.wrap (64 - (IntKind.u64.wrap (Int.tmod a3 64)))) then (if 0 ≤ (IntKind.u64.wrap (64 - (IntKind.u64.wrap (Int.tmod a3 64)))) then k15 (wrap64 (Int.tdiv a3 64)) r0_0 (([shl .u64 a2 (IntKind.u64.wrap (Int.tmod a3 64)), shl .u64 a1 (IntKind.u64.wrap (Int.tmod a3 64)), 0].set 1 (Go.bits .or .u64 (rd [shl .u64 a2 (IntKind.u64.wrap (Int.tmod a3 64)), shl .u64 a1 (IntKind.u64.wrap (Int.tmod a3 64)), 0] 1) (shr .u64 a2 (IntKind.u64.wrap (64 - (IntKind.u64.wrap (Int.tmod a3 64))))))).set 2 (shr .u64 a1 (IntKind.u64.wrap (64 - (IntKind.u64.wrap (Int.tmod a3 64)))))) else none) else none) else k15 (wrap64 (Int.tdiv a3 64)) r0_0 [shl .u64 a2 (IntKind.u64.wrap (Int.tmod a3 64)), shl .u64 a1 (IntKind.u64.wrap (Int.tmod a3 64)), 0]) else none) else none)
noncomputable def b15 (c60 : T2) (k253 : T40) (x0 : Int) (x1 x2 : Λ) : Ω (Λ × Unit) := k253 x0 0 0 x1 x2
noncomputable def b253 (c60 : T2) (k505 : T40) (x0 x1 x2 : Int) (x3 x4 : Λ) : Ω (Λ × Unit) := (if (wrap64 (x0 + x2)) < 72 then (if x2 < 3 then k505 x0 x1 x2 x3 x4 else (if x1 > 0 then k505 x0 x1 x2 x3 x4 else some (x3, ()))) else some (x3, ()))
noncomputable def b505 (c60 : T2) (k8083 : Int→Int→Int→Int→Λ→Λ→Ω (Λ × Unit)) (x0 x1 x2 : Int) (x3 x4 : Λ) : Ω (Λ × Unit) := (if x2 < 3 then (if 0 ≤ x2 then (if x2 < 3 then k8083 x0 x1 x2 (rd x4 x2) x3 x4 else none) else none) else k8083 x0 x1 x2 0 x3 x4)
noncomputable def b8083 (c60 : T2) (k253 : T40) (x0 x1 x2 x3 : Int) (x4 x5 : Λ) : Ω (Λ × Unit) := (if 0 ≤ (wrap64 (x0 + x2)) then (if (wrap64 (x0 + x2)) < 72 then ((c60 (rd x4 (wrap64 (x0 + x2))) x3 x1).bind fun t1 => (if 0 ≤ (wrap64 (x0 + x2)) then (if (wrap64 (x0 + x2)) < 72 then k253 x0 t1.2 (wrap64 (x2 + 1)) (x4.set (wrap64 (x0 + x2) : Int).toNat t1.1) x5 else none) else none)) else none) else none)
noncomputable def l8083 (n : Nat) (k253 : T40) (x0 x1 x2 x3 : Int) (x4 x5 : Λ) : Ω (Λ × Unit) := b8083 bits_Add64.f k253 x0 x1 x2 x3 x4 x5
noncomputable def l505 (n : Nat) (k253 : T40) (x0 x1 x2 : Int) (x3 x4 : Λ) : Ω (Λ × Unit) := b505 bits_Add64.f (l8083 n k253) x0 x1 x2 x3 x4
noncomputable def l253 (n : Nat) : Nat→Int→Int→Int→Λ→Λ→Ω (Λ × Unit)
  | 0, _, _, _, _, _ => none
  | m + 1, x0, x1, x2, x3, x4 => b253 bits_Add64.f (l505 n (l253 n m)) x0 x1 x2 x3 x4
noncomputable def l15 (n : Nat) (x0 : Int) (x1 x2 : Λ) : Ω (Λ × Unit) := b15 bits_Add64.f (l253 n n) x0 x1 x2
noncomputable def f (n : Nat) (r0_0 : Λ) (a1 a2 a3 : Int) : Ω (Λ × Unit) := b0 bits_Add64.f (l15 n) r0_0 a1 a2 a3
noncomputable def sg : Sig (Unit) := s0
noncomputable def code : Code := (Tryd.f41.body).getD .skip
noncomputable def cfg (c60 : T2) : Cfg (Λ × Unit) := { T := tys, call := orCall 60 (bits_Add64.call c60) (noCall), lay := lays }
noncomputable def gs : SegSig (Λ) := gArr .u64 72
noncomputable def cuts : List (Nat × List (Nat × Want)) := [(15, [(0, .keep), (8, .keep), (10, .keep)]), (253, [(0, .keep), (8, .keep), (10, .keep), (11, .keep), (12, .keep)]), (505, [(0, .keep), (8, .keep), (10, .keep), (11, .keep), (12, .keep)]), (8083, [(0, .keep), (8, .keep), (10, .keep), (11, .keep), (12, .keep), (13, .keep)])]
noncomputable def s15 (x0 : Int) (x1 x2 : Λ) : ASt := ⟨[(0, .rp 0 0), (8, .int .i64 x0), (10, .rp 1 0)], [.bpart [.arr .u64 72 x1], .part 89 [.arr .u64 3 x2]]⟩
noncomputable def s253 (x0 x1 x2 : Int) (x3 x4 : Λ) : ASt := ⟨[(0, .rp 0 0), (8, .int .i64 x0), (10, .rp 1 0), (11, .int .u64 x1), (12, .int .i64 x2)], [.bpart [.arr .u64 72 x3], .part 89 [.arr .u64 3 x4]]⟩
noncomputable def s505 (x0 x1 x2 : Int) (x3 x4 : Λ) : ASt := ⟨[(0, .rp 0 0), (8, .int .i64 x0), (10, .rp 1 0), (11, .int .u64 x1), (12, .int .i64 x2)], [.bpart [.arr .u64 72 x3], .part 89 [.arr .u64 3 x4]]⟩
noncomputable def s8083 (x0 x1 x2 x3 : Int) (x4 x5 : Λ) : ASt := ⟨[(0, .rp 0 0), (8, .int .i64 x0), (10, .rp 1 0), (11, .int .u64 x1), (12, .int .i64 x2), (13, .int .u64 x3)], [.bpart [.arr .u64 72 x4], .part 89 [.arr .u64 3 x5]]⟩
noncomputable def A (c60 : T2) (n : Nat) (J : Jt (Λ × Unit)) (q : Nat) (ms : List Nat) : ASt→Ω (Λ × Unit) := acont (cfg c60) J cuts n q code 1 ms (aendp (cfg c60) Tryd.f41.results.toList (sgp gs sg))
theorem e0 (c60 : T2) (n : Nat) (J : Jt (Λ × Unit)) (r0_0 : Λ) (a1 a2 a3 : Int) : afunp (cfg c60) J cuts n code Tryd.f41.results.toList false [.arr .u64 72 r0_0] [.int .u64 a1, .int .u64 a2, .int .i64 a3] (sgp gs sg) = b0 c60 (fun y0 y1 y2 => J 15 (A c60 n J 15 []) (s15 y0 y1 y2)) r0_0 a1 a2 a3 := by kernel_rfl
theorem e15 (c60 : T2) (n : Nat) (J : Jt (Λ × Unit)) (x0 : Int) (x1 x2 : Λ) : A c60 n J 15 [] (s15 x0 x1 x2) = b15 c60 (fun y0 y1 y2 y3 y4 => J 253 (A c60 n J 253 [n]) (s253 y0 y1 y2 y3 y4)) x0 x1 x2 := by kernel_rfl
theorem e253 (c60 : T2) (n : Nat) (J : Jt (Λ × Unit)) (m : Nat) (x0 x1 x2 : Int) (x3 x4 : Λ) : A c60 n J 253 [m + 1] (s253 x0 x1 x2 x3 x4) = b253 c60 (fun y0 y1 y2 y3 y4 => J 505 (A c60 n J 505 [m]) (s505 y0 y1 y2 y3 y4)) x0 x1 x2 x3 x4 := by kernel_rfl
theorem e505 (c60 : T2) (n : Nat) (J : Jt (Λ × Unit)) (m253 : Nat) (x0 x1 x2 : Int) (x3 x4 : Λ) : A c60 n J 505 [m253] (s505 x0 x1 x2 x3 x4) = b505 c60 (fun y0 y1 y2 y3 y4 y5 => J 8083 (A c60 n J 8083 [m253]) (s8083 y0 y1 y2 y3 y4 y5)) x0 x1 x2 x3 x4 := by kernel_rfl
theorem e8083 (c60 : T2) (n : Nat) (J : Jt (Λ × Unit)) (m253 : Nat) (x0 x1 x2 x3 : Int) (x4 x5 : Λ) : A c60 n J 8083 [m253] (s8083 x0 x1 x2 x3 x4 x5) = b8083 c60 (fun y0 y1 y2 y3 y4 => J 253 (A c60 n J 253 [m253]) (s253 y0 y1 y2 y3 y4)) x0 x1 x2 x3 x4 x5 := by kernel_rfl
theorem q8083 (n m253 : Nat) (x0 x1 x2 x3 : Int) (x4 x5 : Λ) : A bits_Add64.f n idJ 8083 [m253] (s8083 x0 x1 x2 x3 x4 x5) = l8083 n (fun y0 y1 y2 y3 y4 => A bits_Add64.f n idJ 253 [m253] (s253 y0 y1 y2 y3 y4)) x0 x1 x2 x3 x4 x5 := (e8083 bits_Add64.f n idJ m253 x0 x1 x2 x3 x4 x5).trans (rfl)
theorem q505 (n m253 : Nat) (x0 x1 x2 : Int) (x3 x4 : Λ) : A bits_Add64.f n idJ 505 [m253] (s505 x0 x1 x2 x3 x4) = l505 n (fun y0 y1 y2 y3 y4 => A bits_Add64.f n idJ 253 [m253] (s253 y0 y1 y2 y3 y4)) x0 x1 x2 x3 x4 := (e505 bits_Add64.f n idJ m253 x0 x1 x2 x3 x4).trans (congrFun (congrFun (congrFun (congrFun (congrFun (congrArg (b505 bits_Add64.f) (funext fun y0 => (funext fun y1 => (funext fun y2 => (funext fun y3 => (funext fun y4 => (funext fun y5 => q8083 n m253 y0 y1 y2 y3 y4 y5))))))) x0) x1) x2) x3) x4)
theorem q253 (n m : Nat) : ∀ (x0 x1 x2 : Int) (x3 x4 : Λ), A bits_Add64.f n idJ 253 [m] (s253 x0 x1 x2 x3 x4) = l253 n m x0 x1 x2 x3 x4 := by
  induction m with
  | zero => intros; rfl
  | succ m ih =>
    intro x0 x1 x2 x3 x4
    refine (e253 bits_Add64.f n idJ m x0 x1 x2 x3 x4).trans ?_
    exact congrFun (congrFun (congrFun (congrFun (congrFun (congrArg (b253 bits_Add64.f) ((funext fun y0 => (funext fun y1 => (funext fun y2 => (funext fun y3 => (funext fun y4 => q505 n m y0 y1 y2 y3 y4))))).trans (by rw [show (fun y0 y1 y2 y3 y4 => A bits_Add64.f n idJ 253 [m] (s253 y0 y1 y2 y3 y4)) = _ from (funext fun y0 => (funext fun y1 => (funext fun y2 => (funext fun y3 => (funext fun y4 => ih y0 y1 y2 y3 y4)))))]))) x0) x1) x2) x3) x4
theorem q15 (n : Nat) (x0 : Int) (x1 x2 : Λ) : A bits_Add64.f n idJ 15 [] (s15 x0 x1 x2) = l15 n x0 x1 x2 := (e15 bits_Add64.f n idJ x0 x1 x2).trans (congrFun (congrFun (congrFun (congrArg (b15 bits_Add64.f) (funext fun y0 => (funext fun y1 => (funext fun y2 => (funext fun y3 => (funext fun y4 => q253 n n y0 y1 y2 y3 y4)))))) x0) x1) x2)
theorem eq (n : Nat) (r0_0 : Λ) (a1 a2 a3 : Int) : afunp (cfg bits_Add64.f) idJ cuts n code Tryd.f41.results.toList false [.arr .u64 72 r0_0] [.int .u64 a1, .int .u64 a2, .int .i64 a3] (sgp gs sg) = f n r0_0 a1 a2 a3 := (e0 bits_Add64.f n idJ r0_0 a1 a2 a3).trans (congrFun (congrFun (congrFun (congrFun (congrArg (b0 bits_Add64.f) (funext fun y0 => (funext fun y1 => (funext fun y2 => q15 n y0 y1 y2)))) r0_0) a1) a2) a3)
theorem ok {n : Nat} {r0_0 : Λ} {a1 : Int} {a2 : Int} {a3 : Int} {r : Λ × Unit} (h : f n r0_0 a1 a2 a3 = some r) : CallP Tryd.prog HW 41 false [.arr .u64 72 r0_0] [.int .u64 a1, .int .u64 a2, .int .i64 a3] (gs.enc r.1) (sg.enc r.2) :=
  funp_some Tryd.func41 (by kernel_rfl) (body := code) (by kernel_rfl) tys_ok (c := cfg bits_Add64.f) ⟨(orCall_ok bits_Add64.call_ok noCall_ok), noQ_ok'⟩ ⟨noW_ok, noP_ok'⟩ (by kernel_rfl) (by kernel_rfl) (Nat.le_of_ble_eq_true (by kernel_rfl)) ((eq n r0_0 a1 a2 a3).trans h)
noncomputable def call {α : Type} (g : T13) (al : Bool) (ss : List Seg) (ds : List D) (K : List Seg→List D→Ω α) : Ω α := match al, ss, ds with
  | false, [.arr .u64 72 r0_0], [.int .u64 a1, .int .u64 a2, .int .i64 a3] => (g r0_0 a1 a2 a3).bind fun r => K (gs.enc r.1) (sg.enc r.2)
  | _, _, _ => none
theorem call_ok {α : Type} {n : Nat} (al : Bool) (ss : List Seg) (ds : List D) (K : List Seg→List D→Ω α) (r : α) (h : call (f n) al ss ds K = some r) : ∃ l' rs, K l' rs = some r ∧ CallP Tryd.prog HW 41 al ss ds l' rs := by
  unfold call at h
  split at h
  · obtain ⟨x, hx, hk⟩ := Option.bind_eq_some_iff.1 h
    exact ⟨_, _, hk, ok (n := n) hx⟩
  · cases h
end gather_row_put
/-! ### gather_Acc_Add: function 37 -/
namespace gather_Acc_Add
noncomputable def b0 (c23 : T6) (c40 : T8) (c41 : T13) (c59 : T25) (k31 : T62) (a0_0 a0_1 a0_2 a0_3 : Bool) (a0_4 : Int) (r0_5 r0_6 : Λ) (a1 : Int) : Ω ((Bool × Bool × Bool × Bool × Int × Λ × Λ) × Unit) := (if a0_4 ≥ 1099511627776 then some ((a0_0, a0_1, a0_2, a0_3, a0_4, r0_5, r0_6), ()) else ((c59 a0_0 a0_1 a0_2 a0_3 a1).bind fun t1 => (if t1.2 = true then some ((t1.1.1, t1.1.2.1, t1.1.2.2.1, t1.1.2.2.2, wrap64 (a0_4 + 1), r0_5, r0_6), ()) else (if ¬ a1 = 9223372036854775808 then k31 a1 t1.1.1 t1.1.2.1 t1.1.2.2.1 true (wrap64 (a0_4 + 1)) r0_5 r0_6 else k31 a1 t1.1.1 t1.1.2.1 t1.1.2.2.1 t1.1.2.2.2 (wrap64 (a0_4 + 1)) r0_5 r0_6))))
noncomputable def b31 (c23 : T6) (c40 : T8) (c41 : T13) (c59 : T25) (x0 : Int) (x1 x2 x3 x4 : Bool) (x5 : Int) (x6 x7 : Λ) : Ω ((Bool × Bool × Bool × Bool × Int × Λ × Λ) × Unit) := ((c23 x0).bind fun t1 => ((c40 t1.1).bind fun t2 => (if t2 = 5 then ((c41 x6 0 t1.2.2.1 (wrap64 (t1.2.2.2 - (-2148)))).bind fun t4 => some ((x1, x2, x3, x4, x5, t4.1, x7), ())) else (if t2 = 77 then ((c41 x7 0 t1.2.2.1 (wrap64 (t1.2.2.2 - (-2148)))).bind fun t3 => some ((x1, x2, x3, x4, x5, x6, t3.1), ())) else none))))
noncomputable def l31 (n : Nat) (x0 : Int) (x1 x2 x3 x4 : Bool) (x5 : Int) (x6 x7 : Λ) : Ω ((Bool × Bool × Bool × Bool × Int × Λ × Λ) × Unit) := b31 ieee_Decode.f gather_Acc_side.f (gather_row_put.f n) gather_kinds_odd.f x0 x1 x2 x3 x4 x5 x6 x7
noncomputable def f (n : Nat) (a0_0 a0_1 a0_2 a0_3 : Bool) (a0_4 : Int) (r0_5 r0_6 : Λ) (a1 : Int) : Ω ((Bool × Bool × Bool × Bool × Int × Λ × Λ) × Unit) := b0 ieee_Decode.f gather_Acc_side.f (gather_row_put.f n) gather_kinds_odd.f (l31 n) a0_0 a0_1 a0_2 a0_3 a0_4 r0_5 r0_6 a1
noncomputable def sg : Sig (Unit) := s0
noncomputable def code : Code := (Tryd.f37.body).getD .skip
noncomputable def cfg (c23 : T6) (c40 : T8) (c41 : T13) (c59 : T25) : Cfg ((Bool × Bool × Bool × Bool × Int × Λ × Λ) × Unit) := { T := tys, call := orCall 23 (ieee_Decode.call c23) (noCall), lay := lays, pw := [(41, 72), (59, 4)], callp := orP 41 (gather_row_put.call c41) (orP 59 (gather_kinds_odd.call c59) (noP)), pq := [(40, [5, 77])], callq := orQ 40 (gather_Acc_side.call c40) (noQ) }
noncomputable def gs : SegSig (Bool × Bool × Bool × Bool × Int × Λ × Λ) := gcBool (gcBool (gcBool (gcBool (gcInt .i64 (gcArr .u64 72 (gArr .u64 72))))))
noncomputable def cuts : List (Nat × List (Nat × Want)) := [(31, [(0, .keep), (1, .keep)])]
noncomputable def s31 (x0 : Int) (x1 x2 x3 x4 : Bool) (x5 : Int) (x6 x7 : Λ) : ASt := ⟨[(0, .rp 0 0), (1, .int .u64 x0)], [.bpart [.bool x1, .bool x2, .bool x3, .bool x4, .int .i64 x5, .arr .u64 72 x6, .arr .u64 72 x7]]⟩
noncomputable def A (c23 : T6) (c40 : T8) (c41 : T13) (c59 : T25) (n : Nat) (J : Jt ((Bool × Bool × Bool × Bool × Int × Λ × Λ) × Unit)) (q : Nat) (ms : List Nat) : ASt→Ω ((Bool × Bool × Bool × Bool × Int × Λ × Λ) × Unit) := acont (cfg c23 c40 c41 c59) J cuts n q code 1 ms (aendp (cfg c23 c40 c41 c59) Tryd.f37.results.toList (sgp gs sg))
theorem e0 (c23 : T6) (c40 : T8) (c41 : T13) (c59 : T25) (n : Nat) (J : Jt ((Bool × Bool × Bool × Bool × Int × Λ × Λ) × Unit)) (a0_0 a0_1 a0_2 a0_3 : Bool) (a0_4 : Int) (r0_5 r0_6 : Λ) (a1 : Int) : afunp (cfg c23 c40 c41 c59) J cuts n code Tryd.f37.results.toList false [.bool a0_0, .bool a0_1, .bool a0_2, .bool a0_3, .int .i64 a0_4, .arr .u64 72 r0_5, .arr .u64 72 r0_6] [.int .u64 a1] (sgp gs sg) = b0 c23 c40 c41 c59 (fun y0 y1 y2 y3 y4 y5 y6 y7 => J 31 (A c23 c40 c41 c59 n J 31 []) (s31 y0 y1 y2 y3 y4 y5 y6 y7)) a0_0 a0_1 a0_2 a0_3 a0_4 r0_5 r0_6 a1 := by kernel_rfl
theorem e31 (c23 : T6) (c40 : T8) (c41 : T13) (c59 : T25) (n : Nat) (J : Jt ((Bool × Bool × Bool × Bool × Int × Λ × Λ) × Unit)) (x0 : Int) (x1 x2 x3 x4 : Bool) (x5 : Int) (x6 x7 : Λ) : A c23 c40 c41 c59 n J 31 [] (s31 x0 x1 x2 x3 x4 x5 x6 x7) = b31 c23 c40 c41 c59 x0 x1 x2 x3 x4 x5 x6 x7 := by kernel_rfl
theorem q31 (n : Nat) (x0 : Int) (x1 x2 x3 x4 : Bool) (x5 : Int) (x6 x7 : Λ) : A ieee_Decode.f gather_Acc_side.f (gather_row_put.f n) gather_kinds_odd.f n idJ 31 [] (s31 x0 x1 x2 x3 x4 x5 x6 x7) = l31 n x0 x1 x2 x3 x4 x5 x6 x7 := (e31 ieee_Decode.f gather_Acc_side.f (gather_row_put.f n) gather_kinds_odd.f n idJ x0 x1 x2 x3 x4 x5 x6 x7).trans (rfl)
theorem eq (n : Nat) (a0_0 a0_1 a0_2 a0_3 : Bool) (a0_4 : Int) (r0_5 r0_6 : Λ) (a1 : Int) : afunp (cfg ieee_Decode.f gather_Acc_side.f (gather_row_put.f n) gather_kinds_odd.f) idJ cuts n code Tryd.f37.results.toList false [.bool a0_0, .bool a0_1, .bool a0_2, .bool a0_3, .int .i64 a0_4, .arr .u64 72 r0_5, .arr .u64 72 r0_6] [.int .u64 a1] (sgp gs sg) = f n a0_0 a0_1 a0_2 a0_3 a0_4 r0_5 r0_6 a1 := (e0 ieee_Decode.f gather_Acc_side.f (gather_row_put.f n) gather_kinds_odd.f n idJ a0_0 a0_1 a0_2 a0_3 a0_4 r0_5 r0_6 a1).trans (congrFun (congrFun (congrFun (congrFun (congrFun (congrFun (congrFun (congrFun (congrArg (b0 ieee_Decode.f gather_Acc_side.f (gather_row_put.f n) gather_kinds_odd.f) (funext fun y0 => (funext fun y1 => (funext fun y2 => (funext fun y3 => (funext fun y4 => (funext fun y5 => (funext fun y6 => (funext fun y7 => q31 n y0 y1 y2 y3 y4 y5 y6 y7))))))))) a0_0) a0_1) a0_2) a0_3) a0_4) r0_5) r0_6) a1)
theorem ok {n : Nat} {a0_0 : Bool} {a0_1 : Bool} {a0_2 : Bool} {a0_3 : Bool} {a0_4 : Int} {r0_5 : Λ} {r0_6 : Λ} {a1 : Int} {r : (Bool × Bool × Bool × Bool × Int × Λ × Λ) × Unit} (h : f n a0_0 a0_1 a0_2 a0_3 a0_4 r0_5 r0_6 a1 = some r) : CallP Tryd.prog HW 37 false [.bool a0_0, .bool a0_1, .bool a0_2, .bool a0_3, .int .i64 a0_4, .arr .u64 72 r0_5, .arr .u64 72 r0_6] [.int .u64 a1] (gs.enc r.1) (sg.enc r.2) :=
  funp_some Tryd.func37 (by kernel_rfl) (body := code) (by kernel_rfl) tys_ok (c := cfg ieee_Decode.f gather_Acc_side.f (gather_row_put.f n) gather_kinds_odd.f) ⟨(orCall_ok ieee_Decode.call_ok noCall_ok), (orQ_ok (gather_Acc_side.call_ok (n := n)) noQ_ok)⟩ ⟨noW_ok, (orP_ok (gather_row_put.call_ok (n := n)) (orP_ok (gather_kinds_odd.call_ok (n := n)) noP_ok))⟩ (by kernel_rfl) (by kernel_rfl) (Nat.le_of_ble_eq_true (by kernel_rfl)) ((eq n a0_0 a0_1 a0_2 a0_3 a0_4 r0_5 r0_6 a1).trans h)
noncomputable def call {α : Type} (g : T17) (al : Bool) (ss : List Seg) (ds : List D) (K : List Seg→List D→Ω α) : Ω α := match al, ss, ds with
  | false, [.bool a0_0, .bool a0_1, .bool a0_2, .bool a0_3, .int .i64 a0_4, .arr .u64 72 r0_5, .arr .u64 72 r0_6], [.int .u64 a1] => (g a0_0 a0_1 a0_2 a0_3 a0_4 r0_5 r0_6 a1).bind fun r => K (gs.enc r.1) (sg.enc r.2)
  | _, _, _ => none
theorem call_ok {α : Type} {n : Nat} (al : Bool) (ss : List Seg) (ds : List D) (K : List Seg→List D→Ω α) (r : α) (h : call (f n) al ss ds K = some r) : ∃ l' rs, K l' rs = some r ∧ CallP Tryd.prog HW 37 al ss ds l' rs := by
  unfold call at h
  split at h
  · obtain ⟨x, hx, hk⟩ := Option.bind_eq_some_iff.1 h
    exact ⟨_, _, hk, ok (n := n) hx⟩
  · cases h
end gather_Acc_Add
/-! ### gather_Acc_AddProduct: function 19 -/
namespace gather_Acc_AddProduct
noncomputable def b0 (c16 : T0) (c23 : T6) (c37 : T17) (c38 : T8) (c39 : T5) (c40 : T8) (c41 : T13) (k31 : Bool→Bool→Bool→Bool→Bool→Int→Λ→Λ→Bool→Int→Int→Int→Bool→Int→Int→Int→Ω ((Bool × Bool × Bool × Bool × Int × Λ × Λ) × Unit)) (k491 : Bool→Int→Bool→Bool→Bool→Bool→Int→Λ→Λ→Ω ((Bool × Bool × Bool × Bool × Int × Λ × Λ) × Unit)) (a0_0 a0_1 a0_2 a0_3 : Bool) (a0_4 : Int) (r0_5 r0_6 : Λ) (a1 a2 : Int) : Ω ((Bool × Bool × Bool × Bool × Int × Λ × Λ) × Unit) := (if a0_4 ≥ 1099511627776 then some ((a0_0, a0_1, a0_2, a0_3, a0_4, r0_5, r0_6), ()) else ((c23 a1).bind fun t1 => ((c23 a2).bind fun t2 => (if t1.2.1 ≥ 3 then (if t1.2.1 = 4 then k491 (t1.1 != t2.1) 9221120237041090560 a0_0 a0_1 a0_2 a0_3 a0_4 r0_5 r0_6 else (if t2.2.1 = 4 then k491 (t1.1 != t2.1) 9221120237041090560 a0_0 a0_1 a0_2 a0_3 a0_4 r0_5 r0_6 else (if t1.2.1 = 0 then k491 (t1.1 != t2.1) 9221120237041090560 a0_0 a0_1 a0_2 a0_3 a0_4 r0_5 r0_6 else (if t2.2.1 = 0 then k491 (t1.1 != t2.1) 9221120237041090560 a0_0 a0_1 a0_2 a0_3 a0_4 r0_5 r0_6 else k491 (t1.1 != t2.1) 9218868437227405312 a0_0 a0_1 a0_2 a0_3 a0_4 r0_5 r0_6)))) else (if t2.2.1 ≥ 3 then (if t1.2.1 = 4 then k491 (t1.1 != t2.1) 9221120237041090560 a0_0 a0_1 a0_2 a0_3 a0_4 r0_5 r0_6 else (if t2.2.1 = 4 then k491 (t1.1 != t2.1) 9221120237041090560 a0_0 a0_1 a0_2 a0_3 a0_4 r0_5 r0_6 else (if t1.2.1 = 0 then k491 (t1.1 != t2.1) 9221120237041090560 a0_0 a0_1 a0_2 a0_3 a0_4 r0_5 r0_6 else (if t2.2.1 = 0 then k491 (t1.1 != t2.1) 9221120237041090560 a0_0 a0_1 a0_2 a0_3 a0_4 r0_5 r0_6 else k491 (t1.1 != t2.1) 9218868437227405312 a0_0 a0_1 a0_2 a0_3 a0_4 r0_5 r0_6)))) else k31 (t1.1 != t2.1) a0_0 a0_1 a0_2 a0_3 a0_4 r0_5 r0_6 t1.1 t1.2.1 t1.2.2.1 t1.2.2.2 t2.1 t2.2.1 t2.2.2.1 t2.2.2.2)))))
noncomputable def b31 (c16 : T0) (c23 : T6) (c37 : T17) (c38 : T8) (c39 : T5) (c40 : T8) (c41 : T13) (x0 x1 x2 x3 x4 : Bool) (x5 : Int) (x6 x7 : Λ) (x8 : Bool) (x9 x10 x11 : Int) (x12 : Bool) (x13 x14 x15 : Int) : Ω ((Bool × Bool × Bool × Bool × Int × Λ × Λ) × Unit) := (if x10 = 0 then ((c38 x0).bind fun t1 => ((c37 x1 x2 x3 x4 x5 x6 x7 t1).bind fun t2 => some ((t2.1.1, t2.1.2.1, t2.1.2.2.1, t2.1.2.2.2.1, t2.1.2.2.2.2.1, t2.1.2.2.2.2.2.1, t2.1.2.2.2.2.2.2), ()))) else (if x14 = 0 then ((c38 x0).bind fun t3 => ((c37 x1 x2 x3 x4 x5 x6 x7 t3).bind fun t4 => some ((t4.1.1, t4.1.2.1, t4.1.2.2.1, t4.1.2.2.2.1, t4.1.2.2.2.2.1, t4.1.2.2.2.2.2.1, t4.1.2.2.2.2.2.2), ()))) else ((c39 x10 x14).bind fun t5 => ((c40 x0).bind fun t6 => (if t6 = 5 then ((c41 x6 t5.1 t5.2 (wrap64 ((wrap64 (x11 + x15)) - (-2148)))).bind fun t8 => some ((x1, x2, x3, true, wrap64 (x5 + 1), t8.1, x7), ())) else (if t6 = 77 then ((c41 x7 t5.1 t5.2 (wrap64 ((wrap64 (x11 + x15)) - (-2148)))).bind fun t7 => some ((x1, x2, x3, true, wrap64 (x5 + 1), x6, t7.1), ())) else none))))))
noncomputable def b491 (c16 : T0) (c23 : T6) (c37 : T17) (c38 : T8) (c39 : T5) (c40 : T8) (c41 : T13) (k983 : T62) (x0 : Bool) (x1 : Int) (x2 x3 x4 x5 : Bool) (x6 : Int) (x7 x8 : Λ) : Ω ((Bool × Bool × Bool × Bool × Int × Λ × Λ) × Unit) := (if x0 = true then ((c16 x1).bind fun t1 => k983 t1 x2 x3 x4 x5 x6 x7 x8) else k983 x1 x2 x3 x4 x5 x6 x7 x8)
noncomputable def b983 (c16 : T0) (c23 : T6) (c37 : T17) (c38 : T8) (c39 : T5) (c40 : T8) (c41 : T13) (x0 : Int) (x1 x2 x3 x4 : Bool) (x5 : Int) (x6 x7 : Λ) : Ω ((Bool × Bool × Bool × Bool × Int × Λ × Λ) × Unit) := ((c37 x1 x2 x3 x4 x5 x6 x7 x0).bind fun t1 => some ((t1.1.1, t1.1.2.1, t1.1.2.2.1, t1.1.2.2.2.1, t1.1.2.2.2.2.1, t1.1.2.2.2.2.2.1, t1.1.2.2.2.2.2.2), ()))
noncomputable def l31 (n : Nat) (x0 x1 x2 x3 x4 : Bool) (x5 : Int) (x6 x7 : Λ) (x8 : Bool) (x9 x10 x11 : Int) (x12 : Bool) (x13 x14 x15 : Int) : Ω ((Bool × Bool × Bool × Bool × Int × Λ × Λ) × Unit) := b31 ieee_Neg.f ieee_Decode.f (gather_Acc_Add.f n) gather_zero.f bits_Mul64.f gather_Acc_side.f (gather_row_put.f n) x0 x1 x2 x3 x4 x5 x6 x7 x8 x9 x10 x11 x12 x13 x14 x15
noncomputable def l983 (n : Nat) (x0 : Int) (x1 x2 x3 x4 : Bool) (x5 : Int) (x6 x7 : Λ) : Ω ((Bool × Bool × Bool × Bool × Int × Λ × Λ) × Unit) := b983 ieee_Neg.f ieee_Decode.f (gather_Acc_Add.f n) gather_zero.f bits_Mul64.f gather_Acc_side.f (gather_row_put.f n) x0 x1 x2 x3 x4 x5 x6 x7
noncomputable def l491 (n : Nat) (x0 : Bool) (x1 : Int) (x2 x3 x4 x5 : Bool) (x6 : Int) (x7 x8 : Λ) : Ω ((Bool × Bool × Bool × Bool × Int × Λ × Λ) × Unit) := b491 ieee_Neg.f ieee_Decode.f (gather_Acc_Add.f n) gather_zero.f bits_Mul64.f gather_Acc_side.f (gather_row_put.f n) (l983 n) x0 x1 x2 x3 x4 x5 x6 x7 x8
noncomputable def f (n : Nat) (a0_0 a0_1 a0_2 a0_3 : Bool) (a0_4 : Int) (r0_5 r0_6 : Λ) (a1 a2 : Int) : Ω ((Bool × Bool × Bool × Bool × Int × Λ × Λ) × Unit) := b0 ieee_Neg.f ieee_Decode.f (gather_Acc_Add.f n) gather_zero.f bits_Mul64.f gather_Acc_side.f (gather_row_put.f n) (l31 n) (l491 n) a0_0 a0_1 a0_2 a0_3 a0_4 r0_5 r0_6 a1 a2
noncomputable def sg : Sig (Unit) := s0
noncomputable def code : Code := (Tryd.f19.body).getD .skip
noncomputable def cfg (c16 : T0) (c23 : T6) (c37 : T17) (c38 : T8) (c39 : T5) (c40 : T8) (c41 : T13) : Cfg ((Bool × Bool × Bool × Bool × Int × Λ × Λ) × Unit) := { T := tys, call := orCall 16 (ieee_Neg.call c16) (orCall 23 (ieee_Decode.call c23) (orCall 38 (gather_zero.call c38) (orCall 39 (bits_Mul64.call c39) (noCall)))), lay := lays, pw := [(37, 149), (41, 72)], callp := orP 37 (gather_Acc_Add.call c37) (orP 41 (gather_row_put.call c41) (noP)), pq := [(40, [5, 77])], callq := orQ 40 (gather_Acc_side.call c40) (noQ) }
noncomputable def gs : SegSig (Bool × Bool × Bool × Bool × Int × Λ × Λ) := gcBool (gcBool (gcBool (gcBool (gcInt .i64 (gcArr .u64 72 (gArr .u64 72))))))
noncomputable def cuts : List (Nat × List (Nat × Want)) := [(31, [(0, .keep), (6, .keep), (7, .keep), (8, .keep)]), (491, [(0, .keep), (8, .keep), (9, .keep)]), (983, [(0, .keep), (9, .keep)])]
noncomputable def s31 (x0 x1 x2 x3 x4 : Bool) (x5 : Int) (x6 x7 : Λ) (x8 : Bool) (x9 x10 x11 : Int) (x12 : Bool) (x13 x14 x15 : Int) : ASt := ⟨[(0, .rp 0 0), (6, .ptr 1 0), (7, .ptr 2 0), (8, .bool x0)], [.bpart [.bool x1, .bool x2, .bool x3, .bool x4, .int .i64 x5, .arr .u64 72 x6, .arr .u64 72 x7], .cells 46 [.bool x8, .int .i64 x9, .int .u64 x10, .int .i64 x11], .cells 46 [.bool x12, .int .i64 x13, .int .u64 x14, .int .i64 x15]]⟩
noncomputable def s491 (x0 : Bool) (x1 : Int) (x2 x3 x4 x5 : Bool) (x6 : Int) (x7 x8 : Λ) : ASt := ⟨[(0, .rp 0 0), (8, .bool x0), (9, .int .u64 x1)], [.bpart [.bool x2, .bool x3, .bool x4, .bool x5, .int .i64 x6, .arr .u64 72 x7, .arr .u64 72 x8]]⟩
noncomputable def s983 (x0 : Int) (x1 x2 x3 x4 : Bool) (x5 : Int) (x6 x7 : Λ) : ASt := ⟨[(0, .rp 0 0), (9, .int .u64 x0)], [.bpart [.bool x1, .bool x2, .bool x3, .bool x4, .int .i64 x5, .arr .u64 72 x6, .arr .u64 72 x7]]⟩
noncomputable def A (c16 : T0) (c23 : T6) (c37 : T17) (c38 : T8) (c39 : T5) (c40 : T8) (c41 : T13) (n : Nat) (J : Jt ((Bool × Bool × Bool × Bool × Int × Λ × Λ) × Unit)) (q : Nat) (ms : List Nat) : ASt→Ω ((Bool × Bool × Bool × Bool × Int × Λ × Λ) × Unit) := acont (cfg c16 c23 c37 c38 c39 c40 c41) J cuts n q code 1 ms (aendp (cfg c16 c23 c37 c38 c39 c40 c41) Tryd.f19.results.toList (sgp gs sg))
theorem e0 (c16 : T0) (c23 : T6) (c37 : T17) (c38 : T8) (c39 : T5) (c40 : T8) (c41 : T13) (n : Nat) (J : Jt ((Bool × Bool × Bool × Bool × Int × Λ × Λ) × Unit)) (a0_0 a0_1 a0_2 a0_3 : Bool) (a0_4 : Int) (r0_5 r0_6 : Λ) (a1 a2 : Int) : afunp (cfg c16 c23 c37 c38 c39 c40 c41) J cuts n code Tryd.f19.results.toList false [.bool a0_0, .bool a0_1, .bool a0_2, .bool a0_3, .int .i64 a0_4, .arr .u64 72 r0_5, .arr .u64 72 r0_6] [.int .u64 a1, .int .u64 a2] (sgp gs sg) = b0 c16 c23 c37 c38 c39 c40 c41 (fun y0 y1 y2 y3 y4 y5 y6 y7 y8 y9 y10 y11 y12 y13 y14 y15 => J 31 (A c16 c23 c37 c38 c39 c40 c41 n J 31 []) (s31 y0 y1 y2 y3 y4 y5 y6 y7 y8 y9 y10 y11 y12 y13 y14 y15)) (fun y0 y1 y2 y3 y4 y5 y6 y7 y8 => J 491 (A c16 c23 c37 c38 c39 c40 c41 n J 491 []) (s491 y0 y1 y2 y3 y4 y5 y6 y7 y8)) a0_0 a0_1 a0_2 a0_3 a0_4 r0_5 r0_6 a1 a2 := by kernel_rfl
theorem e31 (c16 : T0) (c23 : T6) (c37 : T17) (c38 : T8) (c39 : T5) (c40 : T8) (c41 : T13) (n : Nat) (J : Jt ((Bool × Bool × Bool × Bool × Int × Λ × Λ) × Unit)) (x0 x1 x2 x3 x4 : Bool) (x5 : Int) (x6 x7 : Λ) (x8 : Bool) (x9 x10 x11 : Int) (x12 : Bool) (x13 x14 x15 : Int) : A c16 c23 c37 c38 c39 c40 c41 n J 31 [] (s31 x0 x1 x2 x3 x4 x5 x6 x7 x8 x9 x10 x11 x12 x13 x14 x15) = b31 c16 c23 c37 c38 c39 c40 c41 x0 x1 x2 x3 x4 x5 x6 x7 x8 x9 x10 x11 x12 x13 x14 x15 := by kernel_rfl
theorem e491 (c16 : T0) (c23 : T6) (c37 : T17) (c38 : T8) (c39 : T5) (c40 : T8) (c41 : T13) (n : Nat) (J : Jt ((Bool × Bool × Bool × Bool × Int × Λ × Λ) × Unit)) (x0 : Bool) (x1 : Int) (x2 x3 x4 x5 : Bool) (x6 : Int) (x7 x8 : Λ) : A c16 c23 c37 c38 c39 c40 c41 n J 491 [] (s491 x0 x1 x2 x3 x4 x5 x6 x7 x8) = b491 c16 c23 c37 c38 c39 c40 c41 (fun y0 y1 y2 y3 y4 y5 y6 y7 => J 983 (A c16 c23 c37 c38 c39 c40 c41 n J 983 []) (s983 y0 y1 y2 y3 y4 y5 y6 y7)) x0 x1 x2 x3 x4 x5 x6 x7 x8 := by kernel_rfl
theorem e983 (c16 : T0) (c23 : T6) (c37 : T17) (c38 : T8) (c39 : T5) (c40 : T8) (c41 : T13) (n : Nat) (J : Jt ((Bool × Bool × Bool × Bool × Int × Λ × Λ) × Unit)) (x0 : Int) (x1 x2 x3 x4 : Bool) (x5 : Int) (x6 x7 : Λ) : A c16 c23 c37 c38 c39 c40 c41 n J 983 [] (s983 x0 x1 x2 x3 x4 x5 x6 x7) = b983 c16 c23 c37 c38 c39 c40 c41 x0 x1 x2 x3 x4 x5 x6 x7 := by kernel_rfl
theorem q31 (n : Nat) (x0 x1 x2 x3 x4 : Bool) (x5 : Int) (x6 x7 : Λ) (x8 : Bool) (x9 x10 x11 : Int) (x12 : Bool) (x13 x14 x15 : Int) : A ieee_Neg.f ieee_Decode.f (gather_Acc_Add.f n) gather_zero.f bits_Mul64.f gather_Acc_side.f (gather_row_put.f n) n idJ 31 [] (s31 x0 x1 x2 x3 x4 x5 x6 x7 x8 x9 x10 x11 x12 x13 x14 x15) = l31 n x0 x1 x2 x3 x4 x5 x6 x7 x8 x9 x10 x11 x12 x13 x14 x15 := (e31 ieee_Neg.f ieee_Decode.f (gather_Acc_Add.f n) gather_zero.f bits_Mul64.f gather_Acc_side.f (gather_row_put.f n) n idJ x0 x1 x2 x3 x4 x5 x6 x7 x8 x9 x10 x11 x12 x13 x14 x15).trans (rfl)
theorem q983 (n : Nat) (x0 : Int) (x1 x2 x3 x4 : Bool) (x5 : Int) (x6 x7 : Λ) : A ieee_Neg.f ieee_Decode.f (gather_Acc_Add.f n) gather_zero.f bits_Mul64.f gather_Acc_side.f (gather_row_put.f n) n idJ 983 [] (s983 x0 x1 x2 x3 x4 x5 x6 x7) = l983 n x0 x1 x2 x3 x4 x5 x6 x7 := (e983 ieee_Neg.f ieee_Decode.f (gather_Acc_Add.f n) gather_zero.f bits_Mul64.f gather_Acc_side.f (gather_row_put.f n) n idJ x0 x1 x2 x3 x4 x5 x6 x7).trans (rfl)
theorem q491 (n : Nat) (x0 : Bool) (x1 : Int) (x2 x3 x4 x5 : Bool) (x6 : Int) (x7 x8 : Λ) : A ieee_Neg.f ieee_Decode.f (gather_Acc_Add.f n) gather_zero.f bits_Mul64.f gather_Acc_side.f (gather_row_put.f n) n idJ 491 [] (s491 x0 x1 x2 x3 x4 x5 x6 x7 x8) = l491 n x0 x1 x2 x3 x4 x5 x6 x7 x8 := (e491 ieee_Neg.f ieee_Decode.f (gather_Acc_Add.f n) gather_zero.f bits_Mul64.f gather_Acc_side.f (gather_row_put.f n) n idJ x0 x1 x2 x3 x4 x5 x6 x7 x8).trans (congrFun (congrFun (congrFun (congrFun (congrFun (congrFun (congrFun (congrFun (congrFun (congrArg (b491 ieee_Neg.f ieee_Decode.f (gather_Acc_Add.f n) gather_zero.f bits_Mul64.f gather_Acc_side.f (gather_row_put.f n)) (funext fun y0 => (funext fun y1 => (funext fun y2 => (funext fun y3 => (funext fun y4 => (funext fun y5 => (funext fun y6 => (funext fun y7 => q983 n y0 y1 y2 y3 y4 y5 y6 y7))))))))) x0) x1) x2) x3) x4) x5) x6) x7) x8)
theorem eq (n : Nat) (a0_0 a0_1 a0_2 a0_3 : Bool) (a0_4 : Int) (r0_5 r0_6 : Λ) (a1 a2 : Int) : afunp (cfg ieee_Neg.f ieee_Decode.f (gather_Acc_Add.f n) gather_zero.f bits_Mul64.f gather_Acc_side.f (gather_row_put.f n)) idJ cuts n code Tryd.f19.results.toList false [.bool a0_0, .bool a0_1, .bool a0_2, .bool a0_3, .int .i64 a0_4, .arr .u64 72 r0_5, .arr .u64 72 r0_6] [.int .u64 a1, .int .u64 a2] (sgp gs sg) = f n a0_0 a0_1 a0_2 a0_3 a0_4 r0_5 r0_6 a1 a2 := (e0 ieee_Neg.f ieee_Decode.f (gather_Acc_Add.f n) gather_zero.f bits_Mul64.f gather_Acc_side.f (gather_row_put.f n) n idJ a0_0 a0_1 a0_2 a0_3 a0_4 r0_5 r0_6 a1 a2).trans (congrFun (congrFun (congrFun (congrFun (congrFun (congrFun (congrFun (congrFun (congrFun (congr (congrArg (b0 ieee_Neg.f ieee_Decode.f (gather_Acc_Add.f n) gather_zero.f bits_Mul64.f gather_Acc_side.f (gather_row_put.f n)) (funext fun y0 => (funext fun y1 => (funext fun y2 => (funext fun y3 => (funext fun y4 => (funext fun y5 => (funext fun y6 => (funext fun y7 => (funext fun y8 => (funext fun y9 => (funext fun y10 => (funext fun y11 => (funext fun y12 => (funext fun y13 => (funext fun y14 => (funext fun y15 => q31 n y0 y1 y2 y3 y4 y5 y6 y7 y8 y9 y10 y11 y12 y13 y14 y15))))))))))))))))) (funext fun y0 => (funext fun y1 => (funext fun y2 => (funext fun y3 => (funext fun y4 => (funext fun y5 => (funext fun y6 => (funext fun y7 => (funext fun y8 => q491 n y0 y1 y2 y3 y4 y5 y6 y7 y8)))))))))) a0_0) a0_1) a0_2) a0_3) a0_4) r0_5) r0_6) a1) a2)
theorem ok {n : Nat} {a0_0 : Bool} {a0_1 : Bool} {a0_2 : Bool} {a0_3 : Bool} {a0_4 : Int} {r0_5 : Λ} {r0_6 : Λ} {a1 : Int} {a2 : Int} {r : (Bool × Bool × Bool × Bool × Int × Λ × Λ) × Unit} (h : f n a0_0 a0_1 a0_2 a0_3 a0_4 r0_5 r0_6 a1 a2 = some r) : CallP Tryd.prog HW 19 false [.bool a0_0, .bool a0_1, .bool a0_2, .bool a0_3, .int .i64 a0_4, .arr .u64 72 r0_5, .arr .u64 72 r0_6] [.int .u64 a1, .int .u64 a2] (gs.enc r.1) (sg.enc r.2) :=
  funp_some Tryd.func19 (by kernel_rfl) (body := code) (by kernel_rfl) tys_ok (c := cfg ieee_Neg.f ieee_Decode.f (gather_Acc_Add.f n) gather_zero.f bits_Mul64.f gather_Acc_side.f (gather_row_put.f n)) ⟨(orCall_ok ieee_Neg.call_ok (orCall_ok ieee_Decode.call_ok (orCall_ok gather_zero.call_ok (orCall_ok bits_Mul64.call_ok noCall_ok)))), (orQ_ok (gather_Acc_side.call_ok (n := n)) noQ_ok)⟩ ⟨noW_ok, (orP_ok (gather_Acc_Add.call_ok (n := n)) (orP_ok (gather_row_put.call_ok (n := n)) noP_ok))⟩ (by kernel_rfl) (by kernel_rfl) (Nat.le_of_ble_eq_true (by kernel_rfl)) ((eq n a0_0 a0_1 a0_2 a0_3 a0_4 r0_5 r0_6 a1 a2).trans h)
noncomputable def call {α : Type} (g : T31) (al : Bool) (ss : List Seg) (ds : List D) (K : List Seg→List D→Ω α) : Ω α := match al, ss, ds with
  | false, [.bool a0_0, .bool a0_1, .bool a0_2, .bool a0_3, .int .i64 a0_4, .arr .u64 72 r0_5, .arr .u64 72 r0_6], [.int .u64 a1, .int .u64 a2] => (g a0_0 a0_1 a0_2 a0_3 a0_4 r0_5 r0_6 a1 a2).bind fun r => K (gs.enc r.1) (sg.enc r.2)
  | _, _, _ => none
theorem call_ok {α : Type} {n : Nat} (al : Bool) (ss : List Seg) (ds : List D) (K : List Seg→List D→Ω α) (r : α) (h : call (f n) al ss ds K = some r) : ∃ l' rs, K l' rs = some r ∧ CallP Tryd.prog HW 19 al ss ds l' rs := by
  unfold call at h
  split at h
  · obtain ⟨x, hx, hk⟩ := Option.bind_eq_some_iff.1 h
    exact ⟨_, _, hk, ok (n := n) hx⟩
  · cases h
end gather_Acc_AddProduct
/-! ### gather_kinds_beyond: function 61 -/
namespace gather_kinds_beyond
noncomputable def b0 (c16 : T0) (a0_0 a0_1 a0_2 a0_3 : Bool) : Ω (Int × Bool) := (if a0_0 = true then some (9221120237041090560, true) else (if a0_1 = true then (if a0_2 = true then some (9221120237041090560, true) else (if a0_1 = true then some (9218868437227405312, true) else (if a0_2 = true then ((c16 9218868437227405312).bind fun t1 => some (t1, true)) else some (0, false)))) else (if a0_1 = true then some (9218868437227405312, true) else (if a0_2 = true then ((c16 9218868437227405312).bind fun t2 => some (t2, true)) else some (0, false)))))
noncomputable def f (a0_0 a0_1 a0_2 a0_3 : Bool) : Ω (Int × Bool) := b0 ieee_Neg.f a0_0 a0_1 a0_2 a0_3
noncomputable def sg : Sig (Int × Bool) := s2 (sInt .u64) (s1 (sBool))
noncomputable def code : Code := (Tryd.f61.body).getD .skip
noncomputable def cfg (c16 : T0) : Cfg (Int × Bool) := { T := tys, call := orCall 16 (ieee_Neg.call c16) (noCall), lay := lays }
noncomputable def cuts : List (Nat × List (Nat × Want)) := []
theorem e0 {c16 n J a0_0 a0_1 a0_2 a0_3} : afun (cfg c16) J cuts n code Tryd.f61.results.toList [false, false] [.pseg [.bool a0_0, .bool a0_1, .bool a0_2, .bool a0_3]] sg.out = b0 c16 a0_0 a0_1 a0_2 a0_3 := by kernel_rfl
theorem ok {a0_0 a0_1 a0_2 a0_3 r} (h : f a0_0 a0_1 a0_2 a0_3 = some r) : CallD Tryd.prog HW 61 [.pseg [.bool a0_0, .bool a0_1, .bool a0_2, .bool a0_3]] (sg.enc r) :=
  fun_some hwS Tryd.func61 (by kernel_rfl) (body := code) (by kernel_rfl) tys_ok (c := cfg ieee_Neg.f) ⟨(orCall_ok ieee_Neg.call_ok noCall_ok), noQ_ok'⟩ ⟨noW_ok, noP_ok'⟩ (by kernel_rfl) (by kernel_rfl) (Nat.le_of_ble_eq_true (by kernel_rfl)) (Eq.trans ((e0 (n := 0))) h)
noncomputable def call {α : Type} (g : T48) (ds : List D) (K : List D→Ω α) : Ω α := match ds with
  | [.pseg (.bool a0_0 :: .bool a0_1 :: .bool a0_2 :: .bool a0_3 :: _)] => (g a0_0 a0_1 a0_2 a0_3).bind fun r => K (sg.enc r)
  | _ => none
theorem call_ok {α : Type} {n : Nat} (ds : List D) (K : List D→Ω α) (r : α) (h : call f ds K = some r) : ∃ rs, K rs = some r ∧ CallD Tryd.prog HW 61 ds rs := by
  unfold call at h
  split at h
  · obtain ⟨x, hx, hk⟩ := Option.bind_eq_some_iff.1 h
    exact ⟨_, hk, calld_sub (ok hx) ⟨⟨_, rfl⟩, trivial⟩⟩
  · cases h
end gather_kinds_beyond
/-! ### gather_Acc_exact: function 62 -/
namespace gather_Acc_exact
noncomputable def b0 (c56 : T7) (c68 : T9) (a0_0 a0_1 a0_2 a0_3 : Bool) (a0_4 : Int) (r0_5 r0_6 : Λ) : Ω (Bool × Λ) := ((c56 r0_5 r0_6).bind fun t1 => (if t1 = 1 then ((c68 r0_5 r0_6).bind fun t2 => some (false, t2.1)) else (if t1 = (-1) then ((c68 r0_6 r0_5).bind fun t3 => some (true, t3.1)) else (if a0_4 > 0 then some (!a0_3, ([] : Λ)) else some (false, ([] : Λ))))))
noncomputable def f (n : Nat) (a0_0 a0_1 a0_2 a0_3 : Bool) (a0_4 : Int) (r0_5 r0_6 : Λ) : Ω (Bool × Λ) := b0 (nat_Cmp.f n) (nat_Sub.f n) a0_0 a0_1 a0_2 a0_3 a0_4 r0_5 r0_6
noncomputable def sg : Sig (Bool × Λ) := s2 (sBool) (s1 (sRow .u64))
noncomputable def code : Code := (Tryd.f62.body).getD .skip
noncomputable def cfg (c56 : T7) (c68 : T9) : Cfg (Bool × Λ) := { T := tys, call := orCall 56 (nat_Cmp.call c56) (orCall 68 (nat_Sub.call c68) (noCall)), lay := lays }
noncomputable def cuts : List (Nat × List (Nat × Want)) := []
theorem e0 {c56 c68 n J a0_0 a0_1 a0_2 a0_3 a0_4 r0_5 r0_6} : afun (cfg c56 c68) J cuts n code Tryd.f62.results.toList [false, false] [.pseg [.bool a0_0, .bool a0_1, .bool a0_2, .bool a0_3, .int .i64 a0_4, .arr .u64 72 r0_5, .arr .u64 72 r0_6]] sg.out = b0 c56 c68 a0_0 a0_1 a0_2 a0_3 a0_4 r0_5 r0_6 := by kernel_rfl
theorem ok {n  a0_0 a0_1 a0_2 a0_3 a0_4 r0_5 r0_6 r} (h : f n a0_0 a0_1 a0_2 a0_3 a0_4 r0_5 r0_6 = some r) : CallD Tryd.prog HW 62 [.pseg [.bool a0_0, .bool a0_1, .bool a0_2, .bool a0_3, .int .i64 a0_4, .arr .u64 72 r0_5, .arr .u64 72 r0_6]] (sg.enc r) :=
  fun_some hwS Tryd.func62 (by kernel_rfl) (body := code) (by kernel_rfl) tys_ok (c := cfg (nat_Cmp.f n) (nat_Sub.f n)) ⟨(orCall_ok (nat_Cmp.call_ok (n := n)) (orCall_ok (nat_Sub.call_ok (n := n)) noCall_ok)), noQ_ok'⟩ ⟨noW_ok, noP_ok'⟩ (by kernel_rfl) (by kernel_rfl) (Nat.le_of_ble_eq_true (by kernel_rfl)) (Eq.trans ((e0 (n := n))) h)
noncomputable def call {α : Type} (g : T49) (ds : List D) (K : List D→Ω α) : Ω α := match ds with
  | [.pseg (.bool a0_0 :: .bool a0_1 :: .bool a0_2 :: .bool a0_3 :: .int .i64 a0_4 :: .arr .u64 72 r0_5 :: .arr .u64 72 r0_6 :: _)] => (g a0_0 a0_1 a0_2 a0_3 a0_4 r0_5 r0_6).bind fun r => K (sg.enc r)
  | _ => none
theorem call_ok {α : Type} {n : Nat} (ds : List D) (K : List D→Ω α) (r : α) (h : call (f n) ds K = some r) : ∃ rs, K rs = some r ∧ CallD Tryd.prog HW 62 ds rs := by
  unfold call at h
  split at h
  · obtain ⟨x, hx, hk⟩ := Option.bind_eq_some_iff.1 h
    exact ⟨_, hk, calld_sub (ok (n := n) hx) ⟨⟨_, rfl⟩, trivial⟩⟩
  · cases h
end gather_Acc_exact
/-! ### nat_Trim: function 71 -/
namespace nat_Trim
noncomputable def b0 (c50 : T1) (l0 : Λ) : Ω (Λ) := ((c50 l0).bind fun t1 => (if 0 ≤ t1 then (if t1.toNat ≤ 35184372088832 then (if 0 ≤ t1 then (if t1 ≤ (ln l0) then ((some (l0.take t1.toNat) : Ω (Λ)).bind fun y2 => (if y2.length = (List.replicate t1.toNat (0 : Int)).length then some y2 else none)) else none) else none) else none) else none))
noncomputable def f (n : Nat) (l0 : Λ) : Ω (Λ) := b0 (nat_size.f n) l0
noncomputable def sg : Sig (Λ) := s1 (sOwn 22 .u64)
noncomputable def code : Code := (Tryd.f71.body).getD .skip
noncomputable def cfg (c50 : T1) : Cfg (Λ) := { T := tys, call := orCall 50 (nat_size.call c50) (noCall), lay := lays }
noncomputable def cuts : List (Nat × List (Nat × Want)) := []
theorem e0 {c50 n J l0} : afun (cfg c50) J cuts n code Tryd.f71.results.toList [true] [.ro .u64 l0] sg.out = b0 c50 l0 := by kernel_rfl
theorem ok {n  l0 r} (h : f n l0 = some r) : CallD Tryd.prog HW 71 [.ro .u64 l0] (sg.enc r) :=
  fun_some hwS Tryd.func71 (by kernel_rfl) (body := code) (by kernel_rfl) tys_ok (c := cfg (nat_size.f n)) ⟨(orCall_ok (nat_size.call_ok (n := n)) noCall_ok), noQ_ok'⟩ ⟨noW_ok, noP_ok'⟩ (by kernel_rfl) (by kernel_rfl) (Nat.le_of_ble_eq_true (by kernel_rfl)) (Eq.trans ((e0 (n := n))) h)
noncomputable def call {α : Type} (g : T19) (ds : List D) (K : List D→Ω α) : Ω α := match ds with
  | [.ro .u64 l0] => (g l0).bind fun r => K (sg.enc r)
  | _ => none
theorem call_ok {α : Type} {n : Nat} : COK Tryd.prog HW 71 (call (α := α) (f n)) := fun _ _ _ h => by
  unfold call at h; split at h
  · exact cok h fun _ => ok
  · cases h
end nat_Trim
/-! ### quot_small: function 52 -/
namespace quot_small
noncomputable def b0 (c71 : T19) (l0 : Λ) (a1 : Int) : Ω (Λ × Bool) := ((c71 l0).bind fun t1 => some (t1, decide ((ln t1) ≤ a1)))
noncomputable def f (n : Nat) (l0 : Λ) (a1 : Int) : Ω (Λ × Bool) := b0 (nat_Trim.f n) l0 a1
noncomputable def sg : Sig (Λ × Bool) := s2 (sRow .u64) (s1 (sBool))
noncomputable def code : Code := (Tryd.f52.body).getD .skip
noncomputable def cfg (c71 : T19) : Cfg (Λ × Bool) := { T := tys, call := orCall 71 (nat_Trim.call c71) (noCall), lay := lays }
noncomputable def cuts : List (Nat × List (Nat × Want)) := []
theorem e0 {c71 n J l0 a1} : afun (cfg c71) J cuts n code Tryd.f52.results.toList [false, false] [.ro .u64 l0, .int .i64 a1] sg.out = b0 c71 l0 a1 := by kernel_rfl
theorem ok {n  l0 a1 r} (h : f n l0 a1 = some r) : CallD Tryd.prog HW 52 [.ro .u64 l0, .int .i64 a1] (sg.enc r) :=
  fun_some hwS Tryd.func52 (by kernel_rfl) (body := code) (by kernel_rfl) tys_ok (c := cfg (nat_Trim.f n)) ⟨(orCall_ok (nat_Trim.call_ok (n := n)) noCall_ok), noQ_ok'⟩ ⟨noW_ok, noP_ok'⟩ (by kernel_rfl) (by kernel_rfl) (Nat.le_of_ble_eq_true (by kernel_rfl)) (Eq.trans ((e0 (n := n))) h)
noncomputable def call {α : Type} (g : T50) (ds : List D) (K : List D→Ω α) : Ω α := match ds with
  | [.ro .u64 l0, .int .i64 a1] => (g l0 a1).bind fun r => K (sg.enc r)
  | _ => none
theorem call_ok {α : Type} {n : Nat} : COK Tryd.prog HW 52 (call (α := α) (f n)) := fun _ _ _ h => by
  unfold call at h; split at h
  · exact cok h fun _ => ok
  · cases h
end quot_small
/-! ### nat_DivSmall: function 72 -/
namespace nat_DivSmall
noncomputable def b0 (c49 : T4) (c50 : T1) (c51 : T3) (c64 : T2) (k2037 : T63) (l0 : Λ) (a1 : Int) : Ω (Λ × Int × Int) := ((c49 l0).bind fun t1 => (if t1 = true then some (([] : Λ), 0, 2) else (if a1 = 0 then some (([] : Λ), 0, 4) else ((c50 l0).bind fun t2 => (if 0 ≤ t2 then (if t2 ≤ (ln l0) then ((some (l0.take t2.toNat) : Ω (Λ)).bind fun y3 => (if 0 ≤ (ln y3) then (if (ln y3).toNat ≤ 35184372088832 then k2037 y3 a1 0 (wrap64 ((ln y3) - 1)) (List.replicate (ln y3).toNat (0 : Int)) else none) else none)) else none) else none)))))
noncomputable def b255 (c49 : T4) (c50 : T1) (c51 : T3) (c64 : T2) (x0 : Int) (x1 : Λ) : Ω (Λ × Int × Int) := ((c51 x1).bind fun t1 => some (t1.1, x0, t1.2))
noncomputable def b2037 (c49 : T4) (c50 : T1) (c51 : T3) (c64 : T2) (k255 : Int→Λ→Ω (Λ × Int × Int)) (k2037 : T63) (x0 : Λ) (x1 x2 x3 : Int) (x4 : Λ) : Ω (Λ × Int × Int) := (if x3 ≥ 0 then (if 0 ≤ x3 then (if x3 < (ln x0) then ((c64 x2 (rd x0 x3) x1).bind fun t1 => (if 0 ≤ x3 then (if x3 < (ln x4) then k2037 x0 x1 t1.2 (wrap64 (x3 - 1)) (x4.set (x3 : Int).toNat t1.1) else none) else none)) else none) else none) else k255 x2 x4)
noncomputable def l255 (n : Nat) (x0 : Int) (x1 : Λ) : Ω (Λ × Int × Int) := b255 (nat_big.f n) (nat_size.f n) (nat_cut.f n) (bits_Div64.f n) x0 x1
noncomputable def l2037 (n : Nat) : Nat→Λ→Int→Int→Int→Λ→Ω (Λ × Int × Int)
  | 0, _, _, _, _, _ => none
  | m + 1, x0, x1, x2, x3, x4 => b2037 (nat_big.f n) (nat_size.f n) (nat_cut.f n) (bits_Div64.f n) (l255 n) (l2037 n m) x0 x1 x2 x3 x4
noncomputable def f (n : Nat) (l0 : Λ) (a1 : Int) : Ω (Λ × Int × Int) := b0 (nat_big.f n) (nat_size.f n) (nat_cut.f n) (bits_Div64.f n) (l2037 n n) l0 a1
noncomputable def sg : Sig (Λ × Int × Int) := s2 (sRow .u64) (s2 (sInt .u64) (s1 (sInt .i64)))
noncomputable def code : Code := (Tryd.f72.body).getD .skip
noncomputable def cfg (c49 : T4) (c50 : T1) (c51 : T3) (c64 : T2) : Cfg (Λ × Int × Int) := { T := tys, call := orCall 49 (nat_big.call c49) (orCall 50 (nat_size.call c50) (orCall 51 (nat_cut.call c51) (orCall 64 (bits_Div64.call c64) (noCall)))), lay := lays }
noncomputable def cuts : List (Nat × List (Nat × Want)) := [(255, [(7, .keep), (8, .keep)]), (2037, [(0, .keep), (1, .keep), (7, .keep), (8, .keep), (9, .keep)])]
noncomputable def s255 (x0 : Int) (x1 : Λ) : ASt := ⟨[(7, .own 0), (8, .int .u64 x0)], [.ints 22 .u64 x1]⟩
noncomputable def s2037 (x0 : Λ) (x1 x2 x3 : Int) (x4 : Λ) : ASt := ⟨[(0, .ro .u64 x0), (1, .int .u64 x1), (7, .own 0), (8, .int .u64 x2), (9, .int .i64 x3)], [.ints 22 .u64 x4]⟩
noncomputable def A (c49 : T4) (c50 : T1) (c51 : T3) (c64 : T2) (n : Nat) (J : Jt (Λ × Int × Int)) (q : Nat) (ms : List Nat) : ASt→Ω (Λ × Int × Int) := acont (cfg c49 c50 c51 c64) J cuts n q code 1 ms (aend (cfg c49 c50 c51 c64) Tryd.f72.results.toList [false, false, false] sg.out)
theorem e0 {c49 c50 c51 c64 n J l0 a1} : afun (cfg c49 c50 c51 c64) J cuts n code Tryd.f72.results.toList [false, false, false] [.ro .u64 l0, .int .u64 a1] sg.out = b0 c49 c50 c51 c64 (fun y0 y1 y2 y3 y4 => J 2037 (A c49 c50 c51 c64 n J 2037 [n]) (s2037 y0 y1 y2 y3 y4)) l0 a1 := by kernel_rfl
theorem e255 {c49 c50 c51 c64 n J x0 x1} : A c49 c50 c51 c64 n J 255 [] (s255 x0 x1) = b255 c49 c50 c51 c64 x0 x1 := by kernel_rfl
theorem e2037 {c49 c50 c51 c64 n J m x0 x1 x2 x3 x4} : A c49 c50 c51 c64 n J 2037 [m + 1] (s2037 x0 x1 x2 x3 x4) = b2037 c49 c50 c51 c64 (fun y0 y1 => J 255 (A c49 c50 c51 c64 n J 255 []) (s255 y0 y1)) (fun y0 y1 y2 y3 y4 => J 2037 (A c49 c50 c51 c64 n J 2037 [m]) (s2037 y0 y1 y2 y3 y4)) x0 x1 x2 x3 x4 := by kernel_rfl
noncomputable abbrev I (n : Nat) := A (nat_big.f n) (nat_size.f n) (nat_cut.f n) (bits_Div64.f n) n idJ
theorem q255 (n x0 x1) : I n 255 [] (s255 x0 x1) = l255 n x0 x1 := e255
theorem q2037 (n m) : ∀ x0 x1 x2 x3 x4, I n 2037 [m] (s2037 x0 x1 x2 x3 x4) = l2037 n m x0 x1 x2 x3 x4 := by
  induction m with
  | zero => intros; rfl
  | succ m ih =>
    intros
    exact e2037.trans (Eq.trans (cf5 (congr (congrArg (b2037 _ _ _ _) (fu2 (q255 n))) (fu5 (ih))) _ _ _ _ _) rfl)
theorem ok {n  l0 a1 r} (h : f n l0 a1 = some r) : CallD Tryd.prog HW 72 [.ro .u64 l0, .int .u64 a1] (sg.enc r) :=
  fun_some hwS Tryd.func72 (by kernel_rfl) (body := code) (by kernel_rfl) tys_ok (c := cfg (nat_big.f n) (nat_size.f n) (nat_cut.f n) (bits_Div64.f n)) ⟨(orCall_ok (nat_big.call_ok (n := n)) (orCall_ok (nat_size.call_ok (n := n)) (orCall_ok (nat_cut.call_ok (n := n)) (orCall_ok (bits_Div64.call_ok (n := n)) noCall_ok)))), noQ_ok'⟩ ⟨noW_ok, noP_ok'⟩ (by kernel_rfl) (by kernel_rfl) (Nat.le_of_ble_eq_true (by kernel_rfl)) (Eq.trans ((e0 (n := n)).trans (Eq.trans (cf2 (congrArg (b0 _ _ _ _) (fu5 (q2037 n n))) _ _) rfl)) h)
noncomputable def call {α : Type} (g : T51) (ds : List D) (K : List D→Ω α) : Ω α := match ds with
  | [.ro .u64 l0, .int .u64 a1] => (g l0 a1).bind fun r => K (sg.enc r)
  | _ => none
theorem call_ok {α : Type} {n : Nat} : COK Tryd.prog HW 72 (call (α := α) (f n)) := fun _ _ _ h => by
  unfold call at h; split at h
  · exact cok h fun _ => ok
  · cases h
end nat_DivSmall
/-! ### quot_raised: function 77 -/
namespace quot_raised
noncomputable def b0 (k117 : T64) (l0 : Λ) (a1 a2 : Int) : Ω (Λ) := (if 0 ≤ a2 then (if a2.toNat ≤ 35184372088832 then k117 a1 a2 l0 (ln l0) 0 (List.replicate a2.toNat (0 : Int)) else none) else none)
noncomputable def b117 (k117 : T64) (x0 x1 : Int) (x2 : Λ) (x3 x4 : Int) (x5 : Λ) : Ω (Λ) := (if x4 < x3 then (if 0 ≤ x4 then (if x4 < (ln x2) then (if 0 ≤ x4 then (if x4 < (ln x5) then (if 0 ≤ (IntKind.u64.wrap x0) then (if 0 ≤ x4 then (if x4 < (ln x5) then (if (wrap64 (x4 + 1)) < x1 then (if x0 > 0 then (if 0 ≤ (IntKind.u64.wrap (wrap64 (64 - x0))) then (if 0 ≤ (wrap64 (x4 + 1)) then (if (wrap64 (x4 + 1)) < (ln (x5.set (x4 : Int).toNat (Go.bits .or .u64 (rd x5 x4) (shl .u64 (rd x2 x4) (IntKind.u64.wrap x0))))) then k117 x0 x1 x2 x3 (wrap64 (x4 + 1)) ((x5.set (x4 : Int).toNat (Go.bits .or .u64 (rd x5 x4) (shl .u64 (rd x2 x4) (IntKind.u64.wrap x0)))).set (wrap64 (x4 + 1) : Int).toNat (shr .u64 (rd x2 x4) (IntKind.u64.wrap (wrap64 (64 - x0))))) else none) else none) else none) else k117 x0 x1 x2 x3 (wrap64 (x4 + 1)) (x5.set (x4 : Int).toNat (Go.bits .or .u64 (rd x5 x4) (shl .u64 (rd x2 x4) (IntKind.u64.wrap x0))))) else k117 x0 x1 x2 x3 (wrap64 (x4 + 1)) (x5.set (x4 : Int).toNat (Go.bits .or .u64 (rd x5 x4) (shl .u64 (rd x2 x4) (IntKind.u64.wrap x0))))) else none) else none) else none) else none) else none) else none) else none) else some x5)
noncomputable def l117 (n : Nat) : Nat→Int→Int→Λ→Int→Int→Λ→Ω (Λ)
  | 0, _, _, _, _, _, _ => none
  | m + 1, x0, x1, x2, x3, x4, x5 => b117 (l117 n m) x0 x1 x2 x3 x4 x5
noncomputable def f (n : Nat) (l0 : Λ) (a1 a2 : Int) : Ω (Λ) := b0 (l117 n n) l0 a1 a2
noncomputable def sg : Sig (Λ) := s1 (sOwn 22 .u64)
noncomputable def code : Code := (Tryd.f77.body).getD .skip
noncomputable def cfg : Cfg (Λ) := { T := tys, call := noCall, lay := lays }
noncomputable def cuts : List (Nat × List (Nat × Want)) := [(117, [(1, .keep), (2, .keep), (7, .keep), (12, .keep), (13, .keep), (14, .keep)])]
noncomputable def s117 (x0 x1 : Int) (x2 : Λ) (x3 x4 : Int) (x5 : Λ) : ASt := ⟨[(1, .int .i64 x0), (2, .int .i64 x1), (7, .own 0), (12, .ro .u64 x2), (13, .int .i64 x3), (14, .int .i64 x4)], [.ints 22 .u64 x5]⟩
noncomputable def A (n : Nat) (J : Jt (Λ)) (q : Nat) (ms : List Nat) : ASt→Ω (Λ) := acont cfg J cuts n q code 1 ms (aend cfg Tryd.f77.results.toList [true] sg.out)
theorem e0 {n J l0 a1 a2} : afun cfg J cuts n code Tryd.f77.results.toList [true] [.ro .u64 l0, .int .i64 a1, .int .i64 a2] sg.out = b0 (fun y0 y1 y2 y3 y4 y5 => J 117 (A n J 117 [n]) (s117 y0 y1 y2 y3 y4 y5)) l0 a1 a2 := by kernel_rfl
theorem e117 {n J m x0 x1 x2 x3 x4 x5} : A n J 117 [m + 1] (s117 x0 x1 x2 x3 x4 x5) = b117 (fun y0 y1 y2 y3 y4 y5 => J 117 (A n J 117 [m]) (s117 y0 y1 y2 y3 y4 y5)) x0 x1 x2 x3 x4 x5 := by kernel_rfl
noncomputable abbrev I (n : Nat) := A n idJ
theorem q117 (n m) : ∀ x0 x1 x2 x3 x4 x5, I n 117 [m] (s117 x0 x1 x2 x3 x4 x5) = l117 n m x0 x1 x2 x3 x4 x5 := by
  induction m with
  | zero => intros; rfl
  | succ m ih =>
    intros
    exact e117.trans (Eq.trans (cf6 (congrArg b117 (fu6 (ih))) _ _ _ _ _ _) rfl)
theorem ok {n  l0 a1 a2 r} (h : f n l0 a1 a2 = some r) : CallD Tryd.prog HW 77 [.ro .u64 l0, .int .i64 a1, .int .i64 a2] (sg.enc r) :=
  fun_some hwS Tryd.func77 (by kernel_rfl) (body := code) (by kernel_rfl) tys_ok (c := cfg) ⟨noCall_ok, noQ_ok'⟩ ⟨noW_ok, noP_ok'⟩ (by kernel_rfl) (by kernel_rfl) (Nat.le_of_ble_eq_true (by kernel_rfl)) (Eq.trans ((e0 (n := n)).trans (Eq.trans (cf3 (congrArg b0 (fu6 (q117 n n))) _ _ _) rfl)) h)
noncomputable def call {α : Type} (g : T26) (ds : List D) (K : List D→Ω α) : Ω α := match ds with
  | [.ro .u64 l0, .int .i64 a1, .int .i64 a2] => (g l0 a1 a2).bind fun r => K (sg.enc r)
  | _ => none
theorem call_ok {α : Type} {n : Nat} : COK Tryd.prog HW 77 (call (α := α) (f n)) := fun _ _ _ h => by
  unfold call at h; split at h
  · exact cok h fun _ => ok
  · cases h
end quot_raised
/-! ### quot_guess: function 78 -/
namespace quot_guess
noncomputable def b0 (c64 : T2) (l0 l1 : Λ) : Ω (Int) := (if 0 ≤ (ln l1) then (if (ln l1) < (ln l0) then (if 0 ≤ (wrap64 ((ln l1) - 1)) then (if (wrap64 ((ln l1) - 1)) < (ln l1) then (if (rd l0 (ln l1)) ≥ (rd l1 (wrap64 ((ln l1) - 1))) then some 18446744073709551615 else (if 0 ≤ (ln l1) then (if (ln l1) < (ln l0) then (if 0 ≤ (wrap64 ((ln l1) - 1)) then (if (wrap64 ((ln l1) - 1)) < (ln l0) then (if 0 ≤ (wrap64 ((ln l1) - 1)) then (if (wrap64 ((ln l1) - 1)) < (ln l1) then ((c64 (rd l0 (ln l1)) (rd l0 (wrap64 ((ln l1) - 1))) (rd l1 (wrap64 ((ln l1) - 1)))).bind fun t1 => some t1.1) else none) else none) else none) else none) else none) else none)) else none) else none) else none) else none)
noncomputable def f (n : Nat) (l0 l1 : Λ) : Ω (Int) := b0 (bits_Div64.f n) l0 l1
noncomputable def sg : Sig (Int) := s1 (sInt .u64)
noncomputable def code : Code := (Tryd.f78.body).getD .skip
noncomputable def cfg (c64 : T2) : Cfg (Int) := { T := tys, call := orCall 64 (bits_Div64.call c64) (noCall), lay := lays }
noncomputable def cuts : List (Nat × List (Nat × Want)) := []
theorem e0 {c64 n J l0 l1} : afun (cfg c64) J cuts n code Tryd.f78.results.toList [false] [.ro .u64 l0, .ro .u64 l1] sg.out = b0 c64 l0 l1 := by kernel_rfl
theorem ok {n  l0 l1 r} (h : f n l0 l1 = some r) : CallD Tryd.prog HW 78 [.ro .u64 l0, .ro .u64 l1] (sg.enc r) :=
  fun_some hwS Tryd.func78 (by kernel_rfl) (body := code) (by kernel_rfl) tys_ok (c := cfg (bits_Div64.f n)) ⟨(orCall_ok (bits_Div64.call_ok (n := n)) noCall_ok), noQ_ok'⟩ ⟨noW_ok, noP_ok'⟩ (by kernel_rfl) (by kernel_rfl) (Nat.le_of_ble_eq_true (by kernel_rfl)) (Eq.trans ((e0 (n := n))) h)
noncomputable def call {α : Type} (g : T7) (ds : List D) (K : List D→Ω α) : Ω α := match ds with
  | [.ro .u64 l0, .ro .u64 l1] => (g l0 l1).bind fun r => K (sg.enc r)
  | _ => none
theorem call_ok {α : Type} {n : Nat} : COK Tryd.prog HW 78 (call (α := α) (f n)) := fun _ _ _ h => by
  unfold call at h; split at h
  · exact cok h fun _ => ok
  · cases h
end quot_guess
end Go.Proofs.YtcacmhcekoeblaaDoor.F
