/- What the functions compute, and that calls of them answer so (printed by gen.py). Conditions: HW, a table as it was laid. -/
import Derived.Test.YtobocamcoaeliaaGreatDoorA17
import Derived.Test.YtobocamcoaeliaaGreatDoorProg
namespace Go.Proofs.YtobocamcoaeliaaGreatDoor.F
open Go.RowKit Go.Proofs.YtobocamcoaeliaaGreatDoorA
set_option linter.unusedVariables false
set_option maxRecDepth 100000
abbrev Λ := List Int
abbrev Ω := Option
abbrev T0 := Λ→Ω (Int)
abbrev T1 := Int→Ω (Bool)
abbrev T2 := Λ→Ω (Λ)
abbrev T3 := Int→Int→Int→Ω (Int × Int)
abbrev T4 := Int→Ω (Int)
abbrev T5 := Λ→Ω (Bool)
abbrev T6 := Λ→Λ→Ω (Int)
abbrev T7 := Λ→Ω (Λ × Int)
abbrev T8 := Λ→Λ→Ω (Λ × Int)
abbrev T9 := Bool→Λ→Λ→Int→Bool→Λ→Λ→Int→Ω (Bool × Λ × Λ × Int)
abbrev T10 := Int→Int→Ω (Int)
abbrev T11 := Int→Ω (Bool × Λ × Λ × Int)
abbrev T12 := Bool→Int→Ω (Int)
abbrev T13 := Λ→Int→Ω (Λ)
abbrev T14 := Int→Ω (Bool × Int × Int × Int)
abbrev T15 := Int→Int→Ω (Int × Int)
abbrev T16 := Λ→Int→Ω (Int)
abbrev T17 := Λ→Λ→Ω (Λ)
abbrev T18 := Ω (Int × Int)
abbrev T19 := Λ→Int→Ω (Λ × Int)
abbrev T20 := Int→Int→Ω (Bool)
abbrev T21 := Bool→Λ→Λ→Int→Ω (Int)
abbrev T22 := Bool→Λ→Int→Bool→Ω (Int × Int)
abbrev T23 := Bool→Λ→Λ→Int→Ω (Bool)
abbrev T24 := Int→Ω (Λ)
abbrev T25 := Λ→Int→Ω (Λ × Bool × Int)
abbrev T26 := Bool→Int→Int→Ω (Int)
abbrev T27 := Bool→Λ→Int→Ω (Int × Int)
abbrev T28 := Λ→Λ→Ω (Λ × Λ × Int)
abbrev T29 := Λ→Λ→Int→Int→Λ→Ω (Λ)
abbrev T30 := Λ→Ω (Λ × Bool × Int)
abbrev T31 := Bool→Int→Int→Int→Bool→Int→Int→Int→Ω (Bool × Λ × Int)
abbrev T32 := Bool→Int→Int→Int→Ω (Bool × Λ × Int)
abbrev T33 := Bool→Λ→Int→Bool→Λ→Int→Ω (Bool × Λ × Int)
abbrev T34 := Bool→Λ→Λ→Int→Ω (Int × Int)
abbrev T35 := Int→Int→Int→Int→Ω (Int)
abbrev T36 := Int→Int→Int→Int→Int→Ω (Int)
abbrev T37 := Int→Bool→Λ→Λ→Int→Ω (Int)
abbrev T38 := Λ→Int→Λ→Ω (Λ × Unit)
abbrev T39 := Λ→Int→Ω (Λ × Bool)
abbrev T40 := Int→Int→Int→Int→Int→Int→Int→Int→Int→Ω (Int × Int)
abbrev T41 := Λ→Int→Int→Ω (Λ × Int)
abbrev T42 := Int→Int→Ω (Bool × Λ × Λ × Int)
abbrev T43 := Int→Int→Int→Ω (Int)
abbrev T44 := Int→Int→Int→Int→Ω (Bool × Λ × Λ × Int)
abbrev T45 := Int→Bool→Λ→Λ→Int→Ω (Bool)
abbrev T46 := Bool→Λ→Λ→Int→Int→Ω (Int)
abbrev T47 := Λ→Int→Int→Ω (Λ)
abbrev T48 := Λ→Λ→Int→Ω (Λ × Bool)
abbrev T49 := Λ→Λ→Ω (Λ × Bool)
abbrev T50 := Int→Int→Int→Int→Ω (Bool)
abbrev T51 := Λ→Int→Int→Λ→Ω (Λ)
abbrev T52 := Λ→Λ→Int→Ω (Int)
abbrev T53 := Int→Int→Int→Int→Ω (Int × Int × Int)
abbrev T54 := Λ→Int→Λ→Ω (Λ)
abbrev T55 := Λ→Int→Λ→Λ→Ω (Λ × Bool × Int)
abbrev T56 := Λ→Int→Λ→Int→Ω (Λ × Λ × Int)
abbrev T57 := Λ→Ω (Int × Bool)
abbrev T58 := Int→Λ→Λ→Λ→Int→Int→Ω (Bool)
abbrev T59 := Int→Λ→Ω (Λ)
abbrev T60 := Λ→Λ→Int→Λ→Ω (Λ)
abbrev T61 := Λ→Λ→Ω (Λ × Bool × Int)
abbrev T62 := Λ→Λ→Int→Int→Λ→Ω (Λ × Int)
abbrev T63 := Λ→Int→Int→Λ→Int→Λ→Ω (Λ × Int)
abbrev T64 := Int→Λ→Int→Int→Λ→Ω (Λ × Unit)
abbrev T65 := Λ→Int→Λ→Λ→Λ→Ω (Λ × Bool × Int)
abbrev T66 := Λ→Λ→Int→Int→Int→Λ→Ω (Λ × Int)
abbrev T67 := Λ→Int→Bool→Ω (Int)
abbrev T68 := Λ→Int→Ω (Λ × Int × Int)
abbrev T69 := Int→Int→Int→Λ→Λ→Λ→Ω (Λ × Λ)
abbrev T70 := Λ→Λ→Ω (Λ × Λ)
abbrev T71 := Bool→Λ→Int→Λ→Λ→Ω (Int × Int)
abbrev T72 := Int→Λ→Int→Λ→Ω (Λ)
abbrev T73 := Int→Λ→Int→Int→Λ→Ω (Λ)
abbrev T74 := Λ→Int→Int→Int→Λ→Ω (Λ)
abbrev T75 := Λ→Λ→Int→Int→Int→Λ→Ω (Λ)
abbrev T76 := Bool→Λ→Λ→Int→Int→Int→Ω (Int × Int)
abbrev T77 := Int→Int→Bool→Bool→Ω (Int)
abbrev T78 := Bool→Λ→Int→Bool→Int→Int→Ω (Int × Int)
abbrev T79 := Bool→Λ→Int→Bool→Int→Int→Int→Ω (Int × Int)
abbrev T80 := Int→Int→Bool→Bool→Λ→Λ→Int→Ω (Int)
abbrev T81 := Int→Int→Int→Int→Int→Λ→Ω (Int × Int × Int)
abbrev T82 := Int→Int→Int→Int→Int→Bool→Int→Λ→Ω (Int × Int × Int)
abbrev T83 := Λ→Int→Int→Int→Int→Λ→Int→Int→Λ→Ω (Λ × Int)
abbrev T84 := Int→Int→Λ→Int→Int→Λ→Ω (Λ × Int)
abbrev T85 := Λ→Int→Λ→Ω (Λ × Int)
abbrev T86 := Λ→Bool→Int→Int→Int→Int→Λ→Ω (Λ × Bool × Int)
abbrev T87 := Int→Int→Int→Int→Int→Int→Int→Int→Ω (Int × Int)
abbrev T88 := Int→Int→Int→Int→Int→Int→Ω (Int × Int)
abbrev T89 := Λ→Int→Int→Int→Λ→Ω (Λ × Int × Int)
abbrev T90 := Int→Int→Λ→Int→Int→Λ→Ω (Λ)
abbrev T91 := Λ→Int→Int→Int→Int→Int→Λ→Ω (Λ × Bool)
abbrev T92 := Λ→Int→Int→Int→Λ→Ω (Λ × Bool)
abbrev T93 := Int→Int→Int→Int→Int→Bool→Λ→Λ→Λ→Ω (Λ × Λ)
abbrev T94 := Λ→Int→Int→Int→Int→Λ→Ω (Λ × Int)
abbrev T95 := Int→Λ→Λ→Λ→Int→Int→Int→Ω (Bool)
/-- The table of math/bits.TrailingZeros64 stands as it was laid. -/
def HW : World → Prop := fun w => ∀ j, j < 64 → w.cell? ⟨0, j, none⟩ = some (.int .u8 ((Lib.deBruijn64tab.getD j 0 : Nat) : Int))
theorem hwS : ∀ w w' : World, Below w.heap.size w w' → HW w → HW w' := fun w w' hb h j hj => by
  have h1 := h j hj
  rw [← h1]
  exact hb.cell (Nat.lt_of_not_le fun hn => by simp [World.cell?, Array.getElem?_eq_none hn] at h1)
def tys : List (Nat × TI) := [(3, ⟨.int .i64, 1, 8, [.int .i64 0], false⟩),
  (4, ⟨.bool, 1, 1, [.bool false], false⟩),
  (22, ⟨.slice 26, 1, 24, [.nil], false⟩),
  (24, ⟨.int .u64, 1, 8, [.int .u64 0], false⟩),
  (26, ⟨.struct [(0, 1, false), (1, 1, false), (2, 1, false)], 3, 24, [.int .u64 0, .int .u64 0, .int .u64 0], true⟩),
  (40, ⟨.slice 24, 1, 24, [.nil], false⟩),
  (43, ⟨.slice 46, 1, 24, [.nil], false⟩),
  (46, ⟨.other, 1, 8, [.nilf], false⟩),
  (54, ⟨.struct [(0, 1, false), (1, 1, false), (2, 1, false), (3, 1, false)], 4, 32, [.bool false, .int .i64 0, .int .u64 0, .int .i64 0], true⟩),
  (60, ⟨.struct [(0, 1, false), (1, 1, false), (2, 1, false), (3, 1, false)], 4, 64, [.bool false, .nil, .nil, .int .i64 0], false⟩),
  (86, ⟨.int .u64, 1, 8, [.int .u64 0], false⟩),
  (102, ⟨.struct [(0, 1, false), (1, 1, false), (2, 1, false)], 3, 40, [.bool false, .nil, .int .i64 0], false⟩),
  (108, ⟨.struct [(0, 1, false), (1, 1, false), (2, 1, false), (3, 1, false)], 4, 64, [.bool false, .nil, .nil, .int .i64 0], false⟩)]
theorem tys_ok : TOK Tryz.prog tys := tok_of (by kernel_rfl)
/-! ### abacusref04_Abs: function 49 -/
namespace abacusref04_Abs
noncomputable def b0 (a0 : Int) : Ω (Int) := some (Int.tmod a0 9223372036854775808)
noncomputable def f (a0 : Int) : Ω (Int) := b0 a0
noncomputable def sg : Sig (Int) := s1 (sInt .u64)
noncomputable def code : Code := (Tryz.f49.body).getD .skip
noncomputable def cfg : Cfg (Int) := { T := tys, call := noCall }
noncomputable def cuts : List (Nat × List (Nat × Want)) := []
theorem e0 {n J a0} : afun cfg J cuts n code Tryz.f49.results.toList [false] [.int .u64 a0] sg.out = b0 a0 := by kernel_rfl
theorem ok {a0 r} (h : f a0 = some r) : CallD Tryz.prog HW 49 [.int .u64 a0] (sg.enc r) :=
  fun_some hwS Tryz.func49 (by kernel_rfl) (body := code) (by kernel_rfl) tys_ok (c := cfg) noCall_ok noW_ok (by kernel_rfl) (by kernel_rfl) (Nat.le_of_ble_eq_true (by kernel_rfl)) (Eq.trans ((e0 (n := 0))) h)
noncomputable def call {α : Type} (g : T4) (ds : List D) (K : List D→Ω α) : Ω α := match ds with
  | [.int .u64 a0] => (g a0).bind fun r => K (sg.enc r)
  | _ => none
theorem call_ok {α : Type} : COK Tryz.prog HW 49 (call (α := α) f) := fun _ _ _ h => by
  unfold call at h; split at h
  · exact cok h fun _ => ok
  · cases h
end abacusref04_Abs
/-! ### abacusref04_IsNaN: function 16 -/
namespace abacusref04_IsNaN
noncomputable def b0 (c49 : T4) (a0 : Int) : Ω (Bool) := ((c49 a0).bind fun t1 => some (decide (t1 > 9218868437227405312)))
noncomputable def f (a0 : Int) : Ω (Bool) := b0 abacusref04_Abs.f a0
noncomputable def sg : Sig (Bool) := s1 (sBool)
noncomputable def code : Code := (Tryz.f16.body).getD .skip
noncomputable def cfg (c49 : T4) : Cfg (Bool) := { T := tys, call := orCall 49 (abacusref04_Abs.call c49) (noCall) }
noncomputable def cuts : List (Nat × List (Nat × Want)) := []
theorem e0 {c49 n J a0} : afun (cfg c49) J cuts n code Tryz.f16.results.toList [false] [.int .u64 a0] sg.out = b0 c49 a0 := by kernel_rfl
theorem ok {a0 r} (h : f a0 = some r) : CallD Tryz.prog HW 16 [.int .u64 a0] (sg.enc r) :=
  fun_some hwS Tryz.func16 (by kernel_rfl) (body := code) (by kernel_rfl) tys_ok (c := cfg abacusref04_Abs.f) (orCall_ok abacusref04_Abs.call_ok noCall_ok) noW_ok (by kernel_rfl) (by kernel_rfl) (Nat.le_of_ble_eq_true (by kernel_rfl)) (Eq.trans ((e0 (n := 0))) h)
noncomputable def call {α : Type} (g : T1) (ds : List D) (K : List D→Ω α) : Ω α := match ds with
  | [.int .u64 a0] => (g a0).bind fun r => K (sg.enc r)
  | _ => none
theorem call_ok {α : Type} : COK Tryz.prog HW 16 (call (α := α) f) := fun _ _ _ h => by
  unfold call at h; split at h
  · exact cok h fun _ => ok
  · cases h
end abacusref04_IsNaN
/-! ### abacusref05_anyNaN: function 101 -/
namespace abacusref05_anyNaN
noncomputable def b0 (c16 : T1) (a0 a1 : Int) : Ω (Bool) := ((c16 a0).bind fun t1 => (if t1 = true then some true else ((c16 a1).bind fun t2 => some t2)))
noncomputable def f (a0 a1 : Int) : Ω (Bool) := b0 abacusref04_IsNaN.f a0 a1
noncomputable def sg : Sig (Bool) := s1 (sBool)
noncomputable def code : Code := (Tryz.f101.body).getD .skip
noncomputable def cfg (c16 : T1) : Cfg (Bool) := { T := tys, call := orCall 16 (abacusref04_IsNaN.call c16) (noCall) }
noncomputable def cuts : List (Nat × List (Nat × Want)) := []
theorem e0 {c16 n J a0 a1} : afun (cfg c16) J cuts n code Tryz.f101.results.toList [false] [.int .u64 a0, .int .u64 a1] sg.out = b0 c16 a0 a1 := by kernel_rfl
theorem ok {a0 a1 r} (h : f a0 a1 = some r) : CallD Tryz.prog HW 101 [.int .u64 a0, .int .u64 a1] (sg.enc r) :=
  fun_some hwS Tryz.func101 (by kernel_rfl) (body := code) (by kernel_rfl) tys_ok (c := cfg abacusref04_IsNaN.f) (orCall_ok abacusref04_IsNaN.call_ok noCall_ok) noW_ok (by kernel_rfl) (by kernel_rfl) (Nat.le_of_ble_eq_true (by kernel_rfl)) (Eq.trans ((e0 (n := 0))) h)
noncomputable def call {α : Type} (g : T20) (ds : List D) (K : List D→Ω α) : Ω α := match ds with
  | [.int .u64 a0, .int .u64 a1] => (g a0 a1).bind fun r => K (sg.enc r)
  | _ => none
theorem call_ok {α : Type} : COK Tryz.prog HW 101 (call (α := α) f) := fun _ _ _ h => by
  unfold call at h; split at h
  · exact cok h fun _ => ok
  · cases h
end abacusref05_anyNaN
/-! ### abacusref05_infinite: function 55 -/
namespace abacusref05_infinite
noncomputable def b0 (c49 : T4) (a0 : Int) : Ω (Bool) := ((c49 a0).bind fun t1 => some (decide (t1 = 9218868437227405312)))
noncomputable def f (a0 : Int) : Ω (Bool) := b0 abacusref04_Abs.f a0
noncomputable def sg : Sig (Bool) := s1 (sBool)
noncomputable def code : Code := (Tryz.f55.body).getD .skip
noncomputable def cfg (c49 : T4) : Cfg (Bool) := { T := tys, call := orCall 49 (abacusref04_Abs.call c49) (noCall) }
noncomputable def cuts : List (Nat × List (Nat × Want)) := []
theorem e0 {c49 n J a0} : afun (cfg c49) J cuts n code Tryz.f55.results.toList [false] [.int .u64 a0] sg.out = b0 c49 a0 := by kernel_rfl
theorem ok {a0 r} (h : f a0 = some r) : CallD Tryz.prog HW 55 [.int .u64 a0] (sg.enc r) :=
  fun_some hwS Tryz.func55 (by kernel_rfl) (body := code) (by kernel_rfl) tys_ok (c := cfg abacusref04_Abs.f) (orCall_ok abacusref04_Abs.call_ok noCall_ok) noW_ok (by kernel_rfl) (by kernel_rfl) (Nat.le_of_ble_eq_true (by kernel_rfl)) (Eq.trans ((e0 (n := 0))) h)
noncomputable def call {α : Type} (g : T1) (ds : List D) (K : List D→Ω α) : Ω α := match ds with
  | [.int .u64 a0] => (g a0).bind fun r => K (sg.enc r)
  | _ => none
theorem call_ok {α : Type} : COK Tryz.prog HW 55 (call (α := α) f) := fun _ _ _ h => by
  unfold call at h; split at h
  · exact cok h fun _ => ok
  · cases h
end abacusref05_infinite
/-! ### abacusref05_negative: function 50 -/
namespace abacusref05_negative
noncomputable def b0 (a0 : Int) : Ω (Bool) := some (decide (a0 ≥ 9223372036854775808))
noncomputable def f (a0 : Int) : Ω (Bool) := b0 a0
noncomputable def sg : Sig (Bool) := s1 (sBool)
noncomputable def code : Code := (Tryz.f50.body).getD .skip
noncomputable def cfg : Cfg (Bool) := { T := tys, call := noCall }
noncomputable def cuts : List (Nat × List (Nat × Want)) := []
theorem e0 {n J a0} : afun cfg J cuts n code Tryz.f50.results.toList [false] [.int .u64 a0] sg.out = b0 a0 := by kernel_rfl
theorem ok {a0 r} (h : f a0 = some r) : CallD Tryz.prog HW 50 [.int .u64 a0] (sg.enc r) :=
  fun_some hwS Tryz.func50 (by kernel_rfl) (body := code) (by kernel_rfl) tys_ok (c := cfg) noCall_ok noW_ok (by kernel_rfl) (by kernel_rfl) (Nat.le_of_ble_eq_true (by kernel_rfl)) (Eq.trans ((e0 (n := 0))) h)
noncomputable def call {α : Type} (g : T1) (ds : List D) (K : List D→Ω α) : Ω α := match ds with
  | [.int .u64 a0] => (g a0).bind fun r => K (sg.enc r)
  | _ => none
theorem call_ok {α : Type} : COK Tryz.prog HW 50 (call (α := α) f) := fun _ _ _ h => by
  unfold call at h; split at h
  · exact cok h fun _ => ok
  · cases h
end abacusref05_negative
/-! ### abacusref04_Decode: function 38 -/
namespace abacusref04_Decode
noncomputable def b0 (a0 : Int) : Ω (Bool × Int × Int × Int) := (if (wrap64 (Int.tmod (IntKind.u64.wrap (Int.tdiv a0 4503599627370496)) 2048)) = 2047 then (if (Int.tmod a0 4503599627370496) = 0 then some (decide ((IntKind.u64.wrap (Int.tdiv a0 9223372036854775808)) = 1), 3, 0, 0) else some (decide ((IntKind.u64.wrap (Int.tdiv a0 9223372036854775808)) = 1), 4, Int.tmod a0 4503599627370496, 0)) else (if (wrap64 (Int.tmod (IntKind.u64.wrap (Int.tdiv a0 4503599627370496)) 2048)) > 0 then some (decide ((IntKind.u64.wrap (Int.tdiv a0 9223372036854775808)) = 1), 2, IntKind.u64.wrap (4503599627370496 + (Int.tmod a0 4503599627370496)), wrap64 ((wrap64 (Int.tmod (IntKind.u64.wrap (Int.tdiv a0 4503599627370496)) 2048)) - 1075)) else (if (Int.tmod a0 4503599627370496) = 0 then some (decide ((IntKind.u64.wrap (Int.tdiv a0 9223372036854775808)) = 1), 0, 0, 0) else some (decide ((IntKind.u64.wrap (Int.tdiv a0 9223372036854775808)) = 1), 1, Int.tmod a0 4503599627370496, (-1074)))))
noncomputable def f (a0 : Int) : Ω (Bool × Int × Int × Int) := b0 a0
noncomputable def sg : Sig (Bool × Int × Int × Int) := s1 (sAgg (s2 (sBool) (s2 (sInt .i64) (s2 (sInt .u64) (s1 (sInt .i64))))))
noncomputable def code : Code := (Tryz.f38.body).getD .skip
noncomputable def cfg : Cfg (Bool × Int × Int × Int) := { T := tys, call := noCall }
noncomputable def cuts : List (Nat × List (Nat × Want)) := []
theorem e0 {n J a0} : afun cfg J cuts n code Tryz.f38.results.toList [false] [.int .u64 a0] sg.out = b0 a0 := by kernel_rfl
theorem ok {a0 r} (h : f a0 = some r) : CallD Tryz.prog HW 38 [.int .u64 a0] (sg.enc r) :=
  fun_some hwS Tryz.func38 (by kernel_rfl) (body := code) (by kernel_rfl) tys_ok (c := cfg) noCall_ok noW_ok (by kernel_rfl) (by kernel_rfl) (Nat.le_of_ble_eq_true (by kernel_rfl)) (Eq.trans ((e0 (n := 0))) h)
noncomputable def call {α : Type} (g : T14) (ds : List D) (K : List D→Ω α) : Ω α := match ds with
  | [.int .u64 a0] => (g a0).bind fun r => K (sg.enc r)
  | _ => none
theorem call_ok {α : Type} : COK Tryz.prog HW 38 (call (α := α) f) := fun _ _ _ h => by
  unfold call at h; split at h
  · exact cok h fun _ => ok
  · cases h
end abacusref04_Decode
/-! ### abacusref05_of: function 51 -/
namespace abacusref05_of
noncomputable def b0 (c38 : T14) (a0 : Int) : Ω (Bool × Λ × Λ × Int) := ((c38 a0).bind fun t1 => some (t1.1, [t1.2.2.1], [1], t1.2.2.2))
noncomputable def f (a0 : Int) : Ω (Bool × Λ × Λ × Int) := b0 abacusref04_Decode.f a0
noncomputable def sg : Sig (Bool × Λ × Λ × Int) := s1 (sAgg (s2 (sBool) (s2 (sRow .u64) (s2 (sRow .u64) (s1 (sInt .i64))))))
noncomputable def code : Code := (Tryz.f51.body).getD .skip
noncomputable def cfg (c38 : T14) : Cfg (Bool × Λ × Λ × Int) := { T := tys, call := orCall 38 (abacusref04_Decode.call c38) (noCall) }
noncomputable def cuts : List (Nat × List (Nat × Want)) := []
theorem e0 {c38 n J a0} : afun (cfg c38) J cuts n code Tryz.f51.results.toList [false] [.int .u64 a0] sg.out = b0 c38 a0 := by kernel_rfl
theorem ok {a0 r} (h : f a0 = some r) : CallD Tryz.prog HW 51 [.int .u64 a0] (sg.enc r) :=
  fun_some hwS Tryz.func51 (by kernel_rfl) (body := code) (by kernel_rfl) tys_ok (c := cfg abacusref04_Decode.f) (orCall_ok abacusref04_Decode.call_ok noCall_ok) noW_ok (by kernel_rfl) (by kernel_rfl) (Nat.le_of_ble_eq_true (by kernel_rfl)) (Eq.trans ((e0 (n := 0))) h)
noncomputable def call {α : Type} (g : T11) (ds : List D) (K : List D→Ω α) : Ω α := match ds with
  | [.int .u64 a0] => (g a0).bind fun r => K (sg.enc r)
  | _ => none
theorem call_ok {α : Type} : COK Tryz.prog HW 51 (call (α := α) f) := fun _ _ _ h => by
  unfold call at h; split at h
  · exact cok h fun _ => ok
  · cases h
end abacusref05_of
/-! ### abacusref01_Size: function 134 -/
namespace abacusref01_Size
noncomputable def b0 (k57 : T16) (l0 : Λ) : Ω (Int) := k57 l0 (ln l0)
noncomputable def b57 (k57 : T16) (x0 : Λ) (x1 : Int) : Ω (Int) := (if x1 > 0 then (if 0 ≤ (wrap64 (x1 - 1)) then (if (wrap64 (x1 - 1)) < (ln x0) then (if (rd x0 (wrap64 (x1 - 1))) = 0 then k57 x0 (wrap64 (x1 - 1)) else some x1) else none) else none) else some x1)
noncomputable def l57 (n : Nat) : Nat→Λ→Int→Ω (Int)
  | 0, _, _ => none
  | m + 1, x0, x1 => b57 (l57 n m) x0 x1
noncomputable def f (n : Nat) (l0 : Λ) : Ω (Int) := b0 (l57 n n) l0
noncomputable def sg : Sig (Int) := s1 (sInt .i64)
noncomputable def code : Code := (Tryz.f134.body).getD .skip
noncomputable def cfg : Cfg (Int) := { T := tys, call := noCall }
noncomputable def cuts : List (Nat × List (Nat × Want)) := [(57, [(0, .keep), (3, .keep)])]
noncomputable def s57 (x0 : Λ) (x1 : Int) : ASt := ⟨[(0, .ro .u64 x0), (3, .int .i64 x1)], []⟩
noncomputable def A (n : Nat) (J : Jt (Int)) (q : Nat) (ms : List Nat) : ASt→Ω (Int) := acont cfg J cuts n q code 1 ms (aend cfg Tryz.f134.results.toList [false] sg.out)
theorem e0 {n J l0} : afun cfg J cuts n code Tryz.f134.results.toList [false] [.ro .u64 l0] sg.out = b0 (fun y0 y1 => J 57 (A n J 57 [n]) (s57 y0 y1)) l0 := by kernel_rfl
theorem e57 {n J m x0 x1} : A n J 57 [m + 1] (s57 x0 x1) = b57 (fun y0 y1 => J 57 (A n J 57 [m]) (s57 y0 y1)) x0 x1 := by kernel_rfl
noncomputable abbrev I (n : Nat) := A n idJ
theorem q57 (n m) : ∀ x0 x1, I n 57 [m] (s57 x0 x1) = l57 n m x0 x1 := by
  induction m with
  | zero => intros; rfl
  | succ m ih =>
    intros
    exact e57.trans (Eq.trans (cf2 (congrArg b57 (fu2 (ih))) _ _) rfl)
theorem ok {n  l0 r} (h : f n l0 = some r) : CallD Tryz.prog HW 134 [.ro .u64 l0] (sg.enc r) :=
  fun_some hwS Tryz.func134 (by kernel_rfl) (body := code) (by kernel_rfl) tys_ok (c := cfg) noCall_ok noW_ok (by kernel_rfl) (by kernel_rfl) (Nat.le_of_ble_eq_true (by kernel_rfl)) (Eq.trans ((e0 (n := n)).trans (Eq.trans (cf1 (congrArg b0 (fu2 (q57 n n))) _) rfl)) h)
noncomputable def call {α : Type} (g : T0) (ds : List D) (K : List D→Ω α) : Ω α := match ds with
  | [.ro .u64 l0] => (g l0).bind fun r => K (sg.enc r)
  | _ => none
theorem call_ok {α : Type} {n : Nat} : COK Tryz.prog HW 134 (call (α := α) (f n)) := fun _ _ _ h => by
  unfold call at h; split at h
  · exact cok h fun _ => ok
  · cases h
end abacusref01_Size
/-! ### abacusref05_none: function 108 -/
namespace abacusref05_none
noncomputable def b0 (c134 : T0) (a0 : Bool) (l1 l2 : Λ) (a3 : Int) : Ω (Bool) := ((c134 l1).bind fun t1 => some (decide (t1 = 0)))
noncomputable def f (n : Nat) (a0 : Bool) (l1 l2 : Λ) (a3 : Int) : Ω (Bool) := b0 (abacusref01_Size.f n) a0 l1 l2 a3
noncomputable def sg : Sig (Bool) := s1 (sBool)
noncomputable def code : Code := (Tryz.f108.body).getD .skip
noncomputable def cfg (c134 : T0) : Cfg (Bool) := { T := tys, call := orCall 134 (abacusref01_Size.call c134) (noCall) }
noncomputable def cuts : List (Nat × List (Nat × Want)) := []
theorem e0 {c134 n J a0 l1 l2 a3} : afun (cfg c134) J cuts n code Tryz.f108.results.toList [false] [.agg [.bool a0, .ro .u64 l1, .ro .u64 l2, .int .i64 a3]] sg.out = b0 c134 a0 l1 l2 a3 := by kernel_rfl
theorem ok {n  a0 l1 l2 a3 r} (h : f n a0 l1 l2 a3 = some r) : CallD Tryz.prog HW 108 [.agg [.bool a0, .ro .u64 l1, .ro .u64 l2, .int .i64 a3]] (sg.enc r) :=
  fun_some hwS Tryz.func108 (by kernel_rfl) (body := code) (by kernel_rfl) tys_ok (c := cfg (abacusref01_Size.f n)) (orCall_ok (abacusref01_Size.call_ok (n := n)) noCall_ok) noW_ok (by kernel_rfl) (by kernel_rfl) (Nat.le_of_ble_eq_true (by kernel_rfl)) (Eq.trans ((e0 (n := n))) h)
noncomputable def call {α : Type} (g : T23) (ds : List D) (K : List D→Ω α) : Ω α := match ds with
  | [.agg [.bool a0, .ro .u64 l1, .ro .u64 l2, .int .i64 a3]] => (g a0 l1 l2 a3).bind fun r => K (sg.enc r)
  | _ => none
theorem call_ok {α : Type} {n : Nat} : COK Tryz.prog HW 108 (call (α := α) (f n)) := fun _ _ _ h => by
  unfold call at h; split at h
  · exact cok h fun _ => ok
  · cases h
end abacusref05_none
/-! ### abacusref01_halves: function 132 -/
namespace abacusref01_halves
noncomputable def b0 (k117 : T54) (l0 : Λ) : Ω (Λ) := (if 0 ≤ (wrap64 (2 * (ln l0))) then (if (wrap64 (2 * (ln l0))).toNat ≤ 35184372088832 then k117 l0 0 (List.replicate 0 (0 : Int)) else none) else none)
noncomputable def b15 (k249 : T59) (x0 : Λ) : Ω (Λ) := k249 (ln x0) x0
noncomputable def b117 (k15 : T2) (k117 : T54) (x0 : Λ) (x1 : Int) (x2 : Λ) : Ω (Λ) := (if x1 < (ln x0) then (if 0 ≤ x1 then (if x1 < (ln x0) then (if x2.length + 1 ≤ 17592186044416 then (if 0 ≤ x1 then (if x1 < (ln x0) then (if (x2 ++ [Go.bits .and .u64 (rd x0 x1) 4294967295]).length + 1 ≤ 17592186044416 then k117 x0 (wrap64 (x1 + 1)) ((x2 ++ [Go.bits .and .u64 (rd x0 x1) 4294967295]) ++ [(rd x0 x1) / 4294967296]) else none) else none) else none) else none) else none) else none) else k15 x2)
noncomputable def b249 (k249 : T59) (x0 : Int) (x1 : Λ) : Ω (Λ) := (if x0 > 0 then (if 0 ≤ (wrap64 (x0 - 1)) then (if (wrap64 (x0 - 1)) < (ln x1) then (if (rd x1 (wrap64 (x0 - 1))) = 0 then k249 (wrap64 (x0 - 1)) x1 else (if 0 ≤ x0 then (if x0 ≤ (ln x1) then ((some (x1.take x0.toNat) : Ω (Λ)).bind fun y1 => some y1) else none) else none)) else none) else none) else (if 0 ≤ x0 then (if x0 ≤ (ln x1) then ((some (x1.take x0.toNat) : Ω (Λ)).bind fun y2 => some y2) else none) else none))
noncomputable def l249 (n : Nat) : Nat→Int→Λ→Ω (Λ)
  | 0, _, _ => none
  | m + 1, x0, x1 => b249 (l249 n m) x0 x1
noncomputable def l15 (n : Nat) (x0 : Λ) : Ω (Λ) := b15 (l249 n n) x0
noncomputable def l117 (n : Nat) : Nat→Λ→Int→Λ→Ω (Λ)
  | 0, _, _, _ => none
  | m + 1, x0, x1, x2 => b117 (l15 n) (l117 n m) x0 x1 x2
noncomputable def f (n : Nat) (l0 : Λ) : Ω (Λ) := b0 (l117 n n) l0
noncomputable def sg : Sig (Λ) := s1 (sRow .u64)
noncomputable def code : Code := (Tryz.f132.body).getD .skip
noncomputable def cfg : Cfg (Λ) := { T := tys, call := noCall }
noncomputable def cuts : List (Nat × List (Nat × Want)) := [(15, [(3, .keep)]), (117, [(0, .keep), (3, .keep), (4, .keep)]), (249, [(3, .keep), (5, .keep)])]
noncomputable def s15 (x0 : Λ) : ASt := ⟨[(3, .own 0)], [.ints 24 .u64 x0]⟩
noncomputable def s117 (x0 : Λ) (x1 : Int) (x2 : Λ) : ASt := ⟨[(0, .ro .u64 x0), (3, .own 0), (4, .int .i64 x1)], [.ints 24 .u64 x2]⟩
noncomputable def s249 (x0 : Int) (x1 : Λ) : ASt := ⟨[(3, .own 0), (5, .int .i64 x0)], [.ints 24 .u64 x1]⟩
noncomputable def A (n : Nat) (J : Jt (Λ)) (q : Nat) (ms : List Nat) : ASt→Ω (Λ) := acont cfg J cuts n q code 1 ms (aend cfg Tryz.f132.results.toList [false] sg.out)
theorem e0 {n J l0} : afun cfg J cuts n code Tryz.f132.results.toList [false] [.ro .u64 l0] sg.out = b0 (fun y0 y1 y2 => J 117 (A n J 117 [n]) (s117 y0 y1 y2)) l0 := by kernel_rfl
theorem e15 {n J x0} : A n J 15 [] (s15 x0) = b15 (fun y0 y1 => J 249 (A n J 249 [n]) (s249 y0 y1)) x0 := by kernel_rfl
theorem e117 {n J m x0 x1 x2} : A n J 117 [m + 1] (s117 x0 x1 x2) = b117 (fun y0 => J 15 (A n J 15 []) (s15 y0)) (fun y0 y1 y2 => J 117 (A n J 117 [m]) (s117 y0 y1 y2)) x0 x1 x2 := by kernel_rfl
theorem e249 {n J m x0 x1} : A n J 249 [m + 1] (s249 x0 x1) = b249 (fun y0 y1 => J 249 (A n J 249 [m]) (s249 y0 y1)) x0 x1 := by kernel_rfl
noncomputable abbrev I (n : Nat) := A n idJ
theorem q249 (n m) : ∀ x0 x1, I n 249 [m] (s249 x0 x1) = l249 n m x0 x1 := by
  induction m with
  | zero => intros; rfl
  | succ m ih =>
    intros
    exact e249.trans (Eq.trans (cf2 (congrArg b249 (fu2 (ih))) _ _) rfl)
theorem q15 (n x0) : I n 15 [] (s15 x0) = l15 n x0 := e15.trans (Eq.trans (cf1 (congrArg b15 (fu2 (q249 n n))) _) rfl)
theorem q117 (n m) : ∀ x0 x1 x2, I n 117 [m] (s117 x0 x1 x2) = l117 n m x0 x1 x2 := by
  induction m with
  | zero => intros; rfl
  | succ m ih =>
    intros
    exact e117.trans (Eq.trans (cf3 (congr (congrArg b117 (fu1 (q15 n))) (fu3 (ih))) _ _ _) rfl)
theorem ok {n  l0 r} (h : f n l0 = some r) : CallD Tryz.prog HW 132 [.ro .u64 l0] (sg.enc r) :=
  fun_some hwS Tryz.func132 (by kernel_rfl) (body := code) (by kernel_rfl) tys_ok (c := cfg) noCall_ok noW_ok (by kernel_rfl) (by kernel_rfl) (Nat.le_of_ble_eq_true (by kernel_rfl)) (Eq.trans ((e0 (n := n)).trans (Eq.trans (cf1 (congrArg b0 (fu3 (q117 n n))) _) rfl)) h)
noncomputable def call {α : Type} (g : T2) (ds : List D) (K : List D→Ω α) : Ω α := match ds with
  | [.ro .u64 l0] => (g l0).bind fun r => K (sg.enc r)
  | _ => none
theorem call_ok {α : Type} {n : Nat} : COK Tryz.prog HW 132 (call (α := α) (f n)) := fun _ _ _ h => by
  unfold call at h; split at h
  · exact cok h fun _ => ok
  · cases h
end abacusref01_halves
/-! ### abacusref01_Trim: function 159 -/
namespace abacusref01_Trim
noncomputable def b0 (k57 : T13) (l0 : Λ) : Ω (Λ) := k57 l0 (ln l0)
noncomputable def b15 (k501 : T51) (x0 : Λ) (x1 : Int) : Ω (Λ) := (if 0 ≤ x1 then (if x1.toNat ≤ 35184372088832 then k501 x0 x1 0 (List.replicate 0 (0 : Int)) else none) else none)
noncomputable def b57 (k15 k57 : T13) (x0 : Λ) (x1 : Int) : Ω (Λ) := (if x1 > 0 then (if 0 ≤ (wrap64 (x1 - 1)) then (if (wrap64 (x1 - 1)) < (ln x0) then (if (rd x0 (wrap64 (x1 - 1))) = 0 then k57 x0 (wrap64 (x1 - 1)) else k15 x0 x1) else none) else none) else k15 x0 x1)
noncomputable def b501 (k501 : T51) (x0 : Λ) (x1 x2 : Int) (x3 : Λ) : Ω (Λ) := (if x2 < x1 then (if 0 ≤ x2 then (if x2 < (ln x0) then (if x3.length + 1 ≤ 17592186044416 then k501 x0 x1 (wrap64 (x2 + 1)) (x3 ++ [rd x0 x2]) else none) else none) else none) else some x3)
noncomputable def l501 (n : Nat) : Nat→Λ→Int→Int→Λ→Ω (Λ)
  | 0, _, _, _, _ => none
  | m + 1, x0, x1, x2, x3 => b501 (l501 n m) x0 x1 x2 x3
noncomputable def l15 (n : Nat) (x0 : Λ) (x1 : Int) : Ω (Λ) := b15 (l501 n n) x0 x1
noncomputable def l57 (n : Nat) : Nat→Λ→Int→Ω (Λ)
  | 0, _, _ => none
  | m + 1, x0, x1 => b57 (l15 n) (l57 n m) x0 x1
noncomputable def f (n : Nat) (l0 : Λ) : Ω (Λ) := b0 (l57 n n) l0
noncomputable def sg : Sig (Λ) := s1 (sOwn 24 .u64)
noncomputable def code : Code := (Tryz.f159.body).getD .skip
noncomputable def cfg : Cfg (Λ) := { T := tys, call := noCall }
noncomputable def cuts : List (Nat × List (Nat × Want)) := [(15, [(0, .keep), (3, .keep)]), (57, [(0, .keep), (3, .keep)]), (501, [(0, .keep), (3, .keep), (4, .keep), (5, .keep)])]
noncomputable def s15 (x0 : Λ) (x1 : Int) : ASt := ⟨[(0, .ro .u64 x0), (3, .int .i64 x1)], []⟩
noncomputable def s57 (x0 : Λ) (x1 : Int) : ASt := ⟨[(0, .ro .u64 x0), (3, .int .i64 x1)], []⟩
noncomputable def s501 (x0 : Λ) (x1 x2 : Int) (x3 : Λ) : ASt := ⟨[(0, .ro .u64 x0), (3, .int .i64 x1), (4, .own 0), (5, .int .i64 x2)], [.ints 24 .u64 x3]⟩
noncomputable def A (n : Nat) (J : Jt (Λ)) (q : Nat) (ms : List Nat) : ASt→Ω (Λ) := acont cfg J cuts n q code 1 ms (aend cfg Tryz.f159.results.toList [true] sg.out)
theorem e0 {n J l0} : afun cfg J cuts n code Tryz.f159.results.toList [true] [.ro .u64 l0] sg.out = b0 (fun y0 y1 => J 57 (A n J 57 [n]) (s57 y0 y1)) l0 := by kernel_rfl
theorem e15 {n J x0 x1} : A n J 15 [] (s15 x0 x1) = b15 (fun y0 y1 y2 y3 => J 501 (A n J 501 [n]) (s501 y0 y1 y2 y3)) x0 x1 := by kernel_rfl
theorem e57 {n J m x0 x1} : A n J 57 [m + 1] (s57 x0 x1) = b57 (fun y0 y1 => J 15 (A n J 15 []) (s15 y0 y1)) (fun y0 y1 => J 57 (A n J 57 [m]) (s57 y0 y1)) x0 x1 := by kernel_rfl
theorem e501 {n J m x0 x1 x2 x3} : A n J 501 [m + 1] (s501 x0 x1 x2 x3) = b501 (fun y0 y1 y2 y3 => J 501 (A n J 501 [m]) (s501 y0 y1 y2 y3)) x0 x1 x2 x3 := by kernel_rfl
noncomputable abbrev I (n : Nat) := A n idJ
theorem q501 (n m) : ∀ x0 x1 x2 x3, I n 501 [m] (s501 x0 x1 x2 x3) = l501 n m x0 x1 x2 x3 := by
  induction m with
  | zero => intros; rfl
  | succ m ih =>
    intros
    exact e501.trans (Eq.trans (cf4 (congrArg b501 (fu4 (ih))) _ _ _ _) rfl)
theorem q15 (n x0 x1) : I n 15 [] (s15 x0 x1) = l15 n x0 x1 := e15.trans (Eq.trans (cf2 (congrArg b15 (fu4 (q501 n n))) _ _) rfl)
theorem q57 (n m) : ∀ x0 x1, I n 57 [m] (s57 x0 x1) = l57 n m x0 x1 := by
  induction m with
  | zero => intros; rfl
  | succ m ih =>
    intros
    exact e57.trans (Eq.trans (cf2 (congr (congrArg b57 (fu2 (q15 n))) (fu2 (ih))) _ _) rfl)
theorem ok {n  l0 r} (h : f n l0 = some r) : CallD Tryz.prog HW 159 [.ro .u64 l0] (sg.enc r) :=
  fun_some hwS Tryz.func159 (by kernel_rfl) (body := code) (by kernel_rfl) tys_ok (c := cfg) noCall_ok noW_ok (by kernel_rfl) (by kernel_rfl) (Nat.le_of_ble_eq_true (by kernel_rfl)) (Eq.trans ((e0 (n := n)).trans (Eq.trans (cf1 (congrArg b0 (fu2 (q57 n n))) _) rfl)) h)
noncomputable def call {α : Type} (g : T2) (ds : List D) (K : List D→Ω α) : Ω α := match ds with
  | [.ro .u64 l0] => (g l0).bind fun r => K (sg.enc r)
  | _ => none
theorem call_ok {α : Type} {n : Nat} : COK Tryz.prog HW 159 (call (α := α) (f n)) := fun _ _ _ h => by
  unfold call at h; split at h
  · exact cok h fun _ => ok
  · cases h
end abacusref01_Trim
/-! ### abacusref01_limbs: function 133 -/
namespace abacusref01_limbs
noncomputable def b0 (c159 : T2) (k117 : T54) (l0 : Λ) : Ω (Λ) := (if 0 ≤ (wrap64 (Int.tdiv (wrap64 ((ln l0) + 1)) 2)) then (if (wrap64 (Int.tdiv (wrap64 ((ln l0) + 1)) 2)).toNat ≤ 35184372088832 then k117 l0 0 (List.replicate 0 (0 : Int)) else none) else none)
noncomputable def b15 (c159 : T2) (x0 : Λ) : Ω (Λ) := ((c159 x0).bind fun t1 => some t1)
noncomputable def b117 (c159 k15 : T2) (k117 : T54) (x0 : Λ) (x1 : Int) (x2 : Λ) : Ω (Λ) := (if x1 < (ln x0) then (if 0 ≤ x1 then (if x1 < (ln x0) then (if (wrap64 (x1 + 1)) < (ln x0) then (if 0 ≤ (wrap64 (x1 + 1)) then (if (wrap64 (x1 + 1)) < (ln x0) then (if x2.length + 1 ≤ 17592186044416 then k117 x0 (wrap64 (x1 + 2)) (x2 ++ [IntKind.u64.wrap ((rd x0 x1) + (IntKind.u64.wrap ((rd x0 (wrap64 (x1 + 1))) * 4294967296)))]) else none) else none) else none) else (if x2.length + 1 ≤ 17592186044416 then k117 x0 (wrap64 (x1 + 2)) (x2 ++ [rd x0 x1]) else none)) else none) else none) else k15 x2)
noncomputable def l15 (n : Nat) (x0 : Λ) : Ω (Λ) := b15 (abacusref01_Trim.f n) x0
noncomputable def l117 (n : Nat) : Nat→Λ→Int→Λ→Ω (Λ)
  | 0, _, _, _ => none
  | m + 1, x0, x1, x2 => b117 (abacusref01_Trim.f n) (l15 n) (l117 n m) x0 x1 x2
noncomputable def f (n : Nat) (l0 : Λ) : Ω (Λ) := b0 (abacusref01_Trim.f n) (l117 n n) l0
noncomputable def sg : Sig (Λ) := s1 (sOwn 24 .u64)
noncomputable def code : Code := (Tryz.f133.body).getD .skip
noncomputable def cfg (c159 : T2) : Cfg (Λ) := { T := tys, call := orCall 159 (abacusref01_Trim.call c159) (noCall) }
noncomputable def cuts : List (Nat × List (Nat × Want)) := [(15, [(3, .keep)]), (117, [(0, .keep), (3, .keep), (4, .keep)])]
noncomputable def s15 (x0 : Λ) : ASt := ⟨[(3, .own 0)], [.ints 24 .u64 x0]⟩
noncomputable def s117 (x0 : Λ) (x1 : Int) (x2 : Λ) : ASt := ⟨[(0, .ro .u64 x0), (3, .own 0), (4, .int .i64 x1)], [.ints 24 .u64 x2]⟩
noncomputable def A (c159 : T2) (n : Nat) (J : Jt (Λ)) (q : Nat) (ms : List Nat) : ASt→Ω (Λ) := acont (cfg c159) J cuts n q code 1 ms (aend (cfg c159) Tryz.f133.results.toList [true] sg.out)
theorem e0 {c159 n J l0} : afun (cfg c159) J cuts n code Tryz.f133.results.toList [true] [.ro .u64 l0] sg.out = b0 c159 (fun y0 y1 y2 => J 117 (A c159 n J 117 [n]) (s117 y0 y1 y2)) l0 := by kernel_rfl
theorem e15 {c159 n J x0} : A c159 n J 15 [] (s15 x0) = b15 c159 x0 := by kernel_rfl
theorem e117 {c159 n J m x0 x1 x2} : A c159 n J 117 [m + 1] (s117 x0 x1 x2) = b117 c159 (fun y0 => J 15 (A c159 n J 15 []) (s15 y0)) (fun y0 y1 y2 => J 117 (A c159 n J 117 [m]) (s117 y0 y1 y2)) x0 x1 x2 := by kernel_rfl
noncomputable abbrev I (n : Nat) := A (abacusref01_Trim.f n) n idJ
theorem q15 (n x0) : I n 15 [] (s15 x0) = l15 n x0 := e15
theorem q117 (n m) : ∀ x0 x1 x2, I n 117 [m] (s117 x0 x1 x2) = l117 n m x0 x1 x2 := by
  induction m with
  | zero => intros; rfl
  | succ m ih =>
    intros
    exact e117.trans (Eq.trans (cf3 (congr (congrArg (b117 _) (fu1 (q15 n))) (fu3 (ih))) _ _ _) rfl)
theorem ok {n  l0 r} (h : f n l0 = some r) : CallD Tryz.prog HW 133 [.ro .u64 l0] (sg.enc r) :=
  fun_some hwS Tryz.func133 (by kernel_rfl) (body := code) (by kernel_rfl) tys_ok (c := cfg (abacusref01_Trim.f n)) (orCall_ok (abacusref01_Trim.call_ok (n := n)) noCall_ok) noW_ok (by kernel_rfl) (by kernel_rfl) (Nat.le_of_ble_eq_true (by kernel_rfl)) (Eq.trans ((e0 (n := n)).trans (Eq.trans (cf1 (congrArg (b0 _) (fu3 (q117 n n))) _) rfl)) h)
noncomputable def call {α : Type} (g : T2) (ds : List D) (K : List D→Ω α) : Ω α := match ds with
  | [.ro .u64 l0] => (g l0).bind fun r => K (sg.enc r)
  | _ => none
theorem call_ok {α : Type} {n : Nat} : COK Tryz.prog HW 133 (call (α := α) (f n)) := fun _ _ _ h => by
  unfold call at h; split at h
  · exact cok h fun _ => ok
  · cases h
end abacusref01_limbs
/-! ### abacusref01_Lift: function 79 -/
namespace abacusref01_Lift
noncomputable def b0 (c132 c133 : T2) (k501 : T72) (l0 : Λ) (a1 : Int) : Ω (Λ) := ((c132 l0).bind fun t1 => (if (ln t1) = 0 then some ([] : Λ) else (if 0 ≤ (wrap64 ((wrap64 ((wrap64 (Int.tdiv a1 32)) + (ln t1))) + 1)) then (if (wrap64 ((wrap64 ((wrap64 (Int.tdiv a1 32)) + (ln t1))) + 1)).toNat ≤ 35184372088832 then k501 a1 t1 0 (List.replicate 0 (0 : Int)) else none) else none)))
noncomputable def b63 (c132 c133 : T2) (k2037 : T73) (x0 : Int) (x1 x2 : Λ) : Ω (Λ) := k2037 x0 x1 1 0 x2
noncomputable def b255 (c132 c133 : T2) (k8181 : T74) (x0 : Λ) (x1 : Int) (x2 : Λ) : Ω (Λ) := k8181 x0 x1 0 0 x2
noncomputable def b501 (c132 c133 : T2) (k63 : Int→Λ→Λ→Ω (Λ)) (k501 : T72) (x0 : Int) (x1 : Λ) (x2 : Int) (x3 : Λ) : Ω (Λ) := (if x2 < (wrap64 (Int.tdiv x0 32)) then (if x3.length + 1 ≤ 17592186044416 then k501 x0 x1 (wrap64 (x2 + 1)) (x3 ++ [0]) else none) else k63 x0 x1 x3)
noncomputable def b1023 (c132 c133 : T2) (x0 : Int) (x1 : Λ) : Ω (Λ) := (if x1.length + 1 ≤ 17592186044416 then ((c133 (x1 ++ [x0])).bind fun t1 => some t1) else none)
noncomputable def b2037 (c132 c133 : T2) (k255 : T54) (k2037 : T73) (x0 : Int) (x1 : Λ) (x2 x3 : Int) (x4 : Λ) : Ω (Λ) := (if x3 < (Int.tmod x0 32) then k2037 x0 x1 (IntKind.u64.wrap (x2 * 2)) (wrap64 (x3 + 1)) x4 else k255 x1 x2 x4)
noncomputable def b8181 (c132 c133 : T2) (k1023 : T59) (k8181 : T74) (x0 : Λ) (x1 x2 x3 : Int) (x4 : Λ) : Ω (Λ) := (if x3 < (ln x0) then (if 0 ≤ x3 then (if x3 < (ln x0) then (if x4.length + 1 ≤ 17592186044416 then k8181 x0 x1 ((IntKind.u64.wrap ((IntKind.u64.wrap ((rd x0 x3) * x1)) + x2)) / 4294967296) (wrap64 (x3 + 1)) (x4 ++ [Go.bits .and .u64 (IntKind.u64.wrap ((IntKind.u64.wrap ((rd x0 x3) * x1)) + x2)) 4294967295]) else none) else none) else none) else k1023 x2 x4)
noncomputable def l1023 (n : Nat) (x0 : Int) (x1 : Λ) : Ω (Λ) := b1023 (abacusref01_halves.f n) (abacusref01_limbs.f n) x0 x1
noncomputable def l8181 (n : Nat) : Nat→Λ→Int→Int→Int→Λ→Ω (Λ)
  | 0, _, _, _, _, _ => none
  | m + 1, x0, x1, x2, x3, x4 => b8181 (abacusref01_halves.f n) (abacusref01_limbs.f n) (l1023 n) (l8181 n m) x0 x1 x2 x3 x4
noncomputable def l255 (n : Nat) (x0 : Λ) (x1 : Int) (x2 : Λ) : Ω (Λ) := b255 (abacusref01_halves.f n) (abacusref01_limbs.f n) (l8181 n n) x0 x1 x2
noncomputable def l2037 (n : Nat) : Nat→Int→Λ→Int→Int→Λ→Ω (Λ)
  | 0, _, _, _, _, _ => none
  | m + 1, x0, x1, x2, x3, x4 => b2037 (abacusref01_halves.f n) (abacusref01_limbs.f n) (l255 n) (l2037 n m) x0 x1 x2 x3 x4
noncomputable def l63 (n : Nat) (x0 : Int) (x1 x2 : Λ) : Ω (Λ) := b63 (abacusref01_halves.f n) (abacusref01_limbs.f n) (l2037 n n) x0 x1 x2
noncomputable def l501 (n : Nat) : Nat→Int→Λ→Int→Λ→Ω (Λ)
  | 0, _, _, _, _ => none
  | m + 1, x0, x1, x2, x3 => b501 (abacusref01_halves.f n) (abacusref01_limbs.f n) (l63 n) (l501 n m) x0 x1 x2 x3
noncomputable def f (n : Nat) (l0 : Λ) (a1 : Int) : Ω (Λ) := b0 (abacusref01_halves.f n) (abacusref01_limbs.f n) (l501 n n) l0 a1
noncomputable def sg : Sig (Λ) := s1 (sOwn 24 .u64)
noncomputable def code : Code := (Tryz.f79.body).getD .skip
noncomputable def cfg (c132 c133 : T2) : Cfg (Λ) := { T := tys, call := orCall 132 (abacusref01_halves.call c132) (orCall 133 (abacusref01_limbs.call c133) (noCall)) }
noncomputable def cuts : List (Nat × List (Nat × Want)) := [(63, [(1, .keep), (5, .keep), (6, .keep)]), (255, [(5, .keep), (6, .keep), (8, .keep)]), (501, [(1, .keep), (5, .keep), (6, .keep), (7, .keep)]), (1023, [(6, .keep), (10, .keep)]), (2037, [(1, .keep), (5, .keep), (6, .keep), (8, .keep), (9, .keep)]), (8181, [(5, .keep), (6, .keep), (8, .keep), (10, .keep), (11, .keep)])]
noncomputable def s63 (x0 : Int) (x1 x2 : Λ) : ASt := ⟨[(1, .int .i64 x0), (5, .ro .u64 x1), (6, .own 0)], [.ints 24 .u64 x2]⟩
noncomputable def s255 (x0 : Λ) (x1 : Int) (x2 : Λ) : ASt := ⟨[(5, .ro .u64 x0), (6, .own 0), (8, .int .u64 x1)], [.ints 24 .u64 x2]⟩
noncomputable def s501 (x0 : Int) (x1 : Λ) (x2 : Int) (x3 : Λ) : ASt := ⟨[(1, .int .i64 x0), (5, .ro .u64 x1), (6, .own 0), (7, .int .i64 x2)], [.ints 24 .u64 x3]⟩
noncomputable def s1023 (x0 : Int) (x1 : Λ) : ASt := ⟨[(6, .own 0), (10, .int .u64 x0)], [.ints 24 .u64 x1]⟩
noncomputable def s2037 (x0 : Int) (x1 : Λ) (x2 x3 : Int) (x4 : Λ) : ASt := ⟨[(1, .int .i64 x0), (5, .ro .u64 x1), (6, .own 0), (8, .int .u64 x2), (9, .int .i64 x3)], [.ints 24 .u64 x4]⟩
noncomputable def s8181 (x0 : Λ) (x1 x2 x3 : Int) (x4 : Λ) : ASt := ⟨[(5, .ro .u64 x0), (6, .own 0), (8, .int .u64 x1), (10, .int .u64 x2), (11, .int .i64 x3)], [.ints 24 .u64 x4]⟩
noncomputable def A (c132 c133 : T2) (n : Nat) (J : Jt (Λ)) (q : Nat) (ms : List Nat) : ASt→Ω (Λ) := acont (cfg c132 c133) J cuts n q code 1 ms (aend (cfg c132 c133) Tryz.f79.results.toList [true] sg.out)
theorem e0 {c132 c133 n J l0 a1} : afun (cfg c132 c133) J cuts n code Tryz.f79.results.toList [true] [.ro .u64 l0, .int .i64 a1] sg.out = b0 c132 c133 (fun y0 y1 y2 y3 => J 501 (A c132 c133 n J 501 [n]) (s501 y0 y1 y2 y3)) l0 a1 := by kernel_rfl
theorem e63 {c132 c133 n J x0 x1 x2} : A c132 c133 n J 63 [] (s63 x0 x1 x2) = b63 c132 c133 (fun y0 y1 y2 y3 y4 => J 2037 (A c132 c133 n J 2037 [n]) (s2037 y0 y1 y2 y3 y4)) x0 x1 x2 := by kernel_rfl
theorem e255 {c132 c133 n J x0 x1 x2} : A c132 c133 n J 255 [] (s255 x0 x1 x2) = b255 c132 c133 (fun y0 y1 y2 y3 y4 => J 8181 (A c132 c133 n J 8181 [n]) (s8181 y0 y1 y2 y3 y4)) x0 x1 x2 := by kernel_rfl
theorem e501 {c132 c133 n J m x0 x1 x2 x3} : A c132 c133 n J 501 [m + 1] (s501 x0 x1 x2 x3) = b501 c132 c133 (fun y0 y1 y2 => J 63 (A c132 c133 n J 63 []) (s63 y0 y1 y2)) (fun y0 y1 y2 y3 => J 501 (A c132 c133 n J 501 [m]) (s501 y0 y1 y2 y3)) x0 x1 x2 x3 := by kernel_rfl
theorem e1023 {c132 c133 n J x0 x1} : A c132 c133 n J 1023 [] (s1023 x0 x1) = b1023 c132 c133 x0 x1 := by kernel_rfl
theorem e2037 {c132 c133 n J m x0 x1 x2 x3 x4} : A c132 c133 n J 2037 [m + 1] (s2037 x0 x1 x2 x3 x4) = b2037 c132 c133 (fun y0 y1 y2 => J 255 (A c132 c133 n J 255 []) (s255 y0 y1 y2)) (fun y0 y1 y2 y3 y4 => J 2037 (A c132 c133 n J 2037 [m]) (s2037 y0 y1 y2 y3 y4)) x0 x1 x2 x3 x4 := by kernel_rfl
theorem e8181 {c132 c133 n J m x0 x1 x2 x3 x4} : A c132 c133 n J 8181 [m + 1] (s8181 x0 x1 x2 x3 x4) = b8181 c132 c133 (fun y0 y1 => J 1023 (A c132 c133 n J 1023 []) (s1023 y0 y1)) (fun y0 y1 y2 y3 y4 => J 8181 (A c132 c133 n J 8181 [m]) (s8181 y0 y1 y2 y3 y4)) x0 x1 x2 x3 x4 := by kernel_rfl
noncomputable abbrev I (n : Nat) := A (abacusref01_halves.f n) (abacusref01_limbs.f n) n idJ
theorem q1023 (n x0 x1) : I n 1023 [] (s1023 x0 x1) = l1023 n x0 x1 := e1023
theorem q8181 (n m) : ∀ x0 x1 x2 x3 x4, I n 8181 [m] (s8181 x0 x1 x2 x3 x4) = l8181 n m x0 x1 x2 x3 x4 := by
  induction m with
  | zero => intros; rfl
  | succ m ih =>
    intros
    exact e8181.trans (Eq.trans (cf5 (congr (congrArg (b8181 _ _) (fu2 (q1023 n))) (fu5 (ih))) _ _ _ _ _) rfl)
theorem q255 (n x0 x1 x2) : I n 255 [] (s255 x0 x1 x2) = l255 n x0 x1 x2 := e255.trans (Eq.trans (cf3 (congrArg (b255 _ _) (fu5 (q8181 n n))) _ _ _) rfl)
theorem q2037 (n m) : ∀ x0 x1 x2 x3 x4, I n 2037 [m] (s2037 x0 x1 x2 x3 x4) = l2037 n m x0 x1 x2 x3 x4 := by
  induction m with
  | zero => intros; rfl
  | succ m ih =>
    intros
    exact e2037.trans (Eq.trans (cf5 (congr (congrArg (b2037 _ _) (fu3 (q255 n))) (fu5 (ih))) _ _ _ _ _) rfl)
theorem q63 (n x0 x1 x2) : I n 63 [] (s63 x0 x1 x2) = l63 n x0 x1 x2 := e63.trans (Eq.trans (cf3 (congrArg (b63 _ _) (fu5 (q2037 n n))) _ _ _) rfl)
theorem q501 (n m) : ∀ x0 x1 x2 x3, I n 501 [m] (s501 x0 x1 x2 x3) = l501 n m x0 x1 x2 x3 := by
  induction m with
  | zero => intros; rfl
  | succ m ih =>
    intros
    exact e501.trans (Eq.trans (cf4 (congr (congrArg (b501 _ _) (fu3 (q63 n))) (fu4 (ih))) _ _ _ _) rfl)
theorem ok {n  l0 a1 r} (h : f n l0 a1 = some r) : CallD Tryz.prog HW 79 [.ro .u64 l0, .int .i64 a1] (sg.enc r) :=
  fun_some hwS Tryz.func79 (by kernel_rfl) (body := code) (by kernel_rfl) tys_ok (c := cfg (abacusref01_halves.f n) (abacusref01_limbs.f n)) (orCall_ok (abacusref01_halves.call_ok (n := n)) (orCall_ok (abacusref01_limbs.call_ok (n := n)) noCall_ok)) noW_ok (by kernel_rfl) (by kernel_rfl) (Nat.le_of_ble_eq_true (by kernel_rfl)) (Eq.trans ((e0 (n := n)).trans (Eq.trans (cf2 (congrArg (b0 _ _) (fu4 (q501 n n))) _ _) rfl)) h)
noncomputable def call {α : Type} (g : T13) (ds : List D) (K : List D→Ω α) : Ω α := match ds with
  | [.ro .u64 l0, .int .i64 a1] => (g l0 a1).bind fun r => K (sg.enc r)
  | _ => none
theorem call_ok {α : Type} {n : Nat} : COK Tryz.prog HW 79 (call (α := α) (f n)) := fun _ _ _ h => by
  unfold call at h; split at h
  · exact cok h fun _ => ok
  · cases h
end abacusref01_Lift
/-! ### abacusref01_Cmp: function 85 -/
namespace abacusref01_Cmp
noncomputable def b0 (c134 : T0) (k1013 : T52) (l0 l1 : Λ) : Ω (Int) := ((c134 l0).bind fun t1 => ((c134 l1).bind fun t2 => (if t1 < t2 then some (-1) else (if t1 > t2 then some 1 else k1013 l0 l1 (wrap64 (t2 - 1))))))
noncomputable def b1013 (c134 : T0) (k1013 : T52) (x0 x1 : Λ) (x2 : Int) : Ω (Int) := (if x2 ≥ 0 then (if 0 ≤ x2 then (if x2 < (ln x0) then (if 0 ≤ x2 then (if x2 < (ln x1) then (if (rd x0 x2) < (rd x1 x2) then some (-1) else (if 0 ≤ x2 then (if x2 < (ln x0) then (if 0 ≤ x2 then (if x2 < (ln x1) then (if (rd x0 x2) > (rd x1 x2) then some 1 else k1013 x0 x1 (wrap64 (x2 - 1))) else none) else none) else none) else none)) else none) else none) else none) else none) else some 0)
noncomputable def l1013 (n : Nat) : Nat→Λ→Λ→Int→Ω (Int)
  | 0, _, _, _ => none
  | m + 1, x0, x1, x2 => b1013 (abacusref01_Size.f n) (l1013 n m) x0 x1 x2
noncomputable def f (n : Nat) (l0 l1 : Λ) : Ω (Int) := b0 (abacusref01_Size.f n) (l1013 n n) l0 l1
noncomputable def sg : Sig (Int) := s1 (sInt .i64)
noncomputable def code : Code := (Tryz.f85.body).getD .skip
noncomputable def cfg (c134 : T0) : Cfg (Int) := { T := tys, call := orCall 134 (abacusref01_Size.call c134) (noCall) }
noncomputable def cuts : List (Nat × List (Nat × Want)) := [(1013, [(0, .keep), (1, .keep), (7, .keep)])]
noncomputable def s1013 (x0 x1 : Λ) (x2 : Int) : ASt := ⟨[(0, .ro .u64 x0), (1, .ro .u64 x1), (7, .int .i64 x2)], []⟩
noncomputable def A (c134 : T0) (n : Nat) (J : Jt (Int)) (q : Nat) (ms : List Nat) : ASt→Ω (Int) := acont (cfg c134) J cuts n q code 1 ms (aend (cfg c134) Tryz.f85.results.toList [false] sg.out)
theorem e0 {c134 n J l0 l1} : afun (cfg c134) J cuts n code Tryz.f85.results.toList [false] [.ro .u64 l0, .ro .u64 l1] sg.out = b0 c134 (fun y0 y1 y2 => J 1013 (A c134 n J 1013 [n]) (s1013 y0 y1 y2)) l0 l1 := by kernel_rfl
theorem e1013 {c134 n J m x0 x1 x2} : A c134 n J 1013 [m + 1] (s1013 x0 x1 x2) = b1013 c134 (fun y0 y1 y2 => J 1013 (A c134 n J 1013 [m]) (s1013 y0 y1 y2)) x0 x1 x2 := by kernel_rfl
noncomputable abbrev I (n : Nat) := A (abacusref01_Size.f n) n idJ
theorem q1013 (n m) : ∀ x0 x1 x2, I n 1013 [m] (s1013 x0 x1 x2) = l1013 n m x0 x1 x2 := by
  induction m with
  | zero => intros; rfl
  | succ m ih =>
    intros
    exact e1013.trans (Eq.trans (cf3 (congrArg (b1013 _) (fu3 (ih))) _ _ _) rfl)
theorem ok {n  l0 l1 r} (h : f n l0 l1 = some r) : CallD Tryz.prog HW 85 [.ro .u64 l0, .ro .u64 l1] (sg.enc r) :=
  fun_some hwS Tryz.func85 (by kernel_rfl) (body := code) (by kernel_rfl) tys_ok (c := cfg (abacusref01_Size.f n)) (orCall_ok (abacusref01_Size.call_ok (n := n)) noCall_ok) noW_ok (by kernel_rfl) (by kernel_rfl) (Nat.le_of_ble_eq_true (by kernel_rfl)) (Eq.trans ((e0 (n := n)).trans (Eq.trans (cf2 (congrArg (b0 _) (fu3 (q1013 n n))) _ _) rfl)) h)
noncomputable def call {α : Type} (g : T6) (ds : List D) (K : List D→Ω α) : Ω α := match ds with
  | [.ro .u64 l0, .ro .u64 l1] => (g l0 l1).bind fun r => K (sg.enc r)
  | _ => none
theorem call_ok {α : Type} {n : Nat} : COK Tryz.prog HW 85 (call (α := α) (f n)) := fun _ _ _ h => by
  unfold call at h; split at h
  · exact cok h fun _ => ok
  · cases h
end abacusref01_Cmp
/-! ### abacusref01_Plus: function 149 -/
namespace abacusref01_Plus
noncomputable def b0 (c132 c133 : T2) (k1013 : T29) (l0 l1 : Λ) : Ω (Λ) := ((c132 l0).bind fun t1 => ((c132 l1).bind fun t2 => (if 0 ≤ (wrap64 ((wrap64 ((ln t1) + (ln t2))) + 1)) then (if (wrap64 ((wrap64 ((ln t1) + (ln t2))) + 1)).toNat ≤ 35184372088832 then k1013 t1 t2 0 0 (List.replicate 0 (0 : Int)) else none) else none)))
noncomputable def b127 (c132 c133 : T2) (x0 : Int) (x1 : Λ) : Ω (Λ) := (if x1.length + 1 ≤ 17592186044416 then ((c133 (x1 ++ [x0])).bind fun t1 => some t1) else none)
noncomputable def b1013 (c132 c133 : T2) (k127 : T59) (k2025 : T29) (x0 x1 : Λ) (x2 x3 : Int) (x4 : Λ) : Ω (Λ) := (if x3 < (ln x0) then k2025 x0 x1 x2 x3 x4 else (if x3 < (ln x1) then k2025 x0 x1 x2 x3 x4 else k127 x2 x4))
noncomputable def b2025 (c132 c133 : T2) (k16201 : T29) (x0 x1 : Λ) (x2 x3 : Int) (x4 : Λ) : Ω (Λ) := (if x3 < (ln x0) then (if 0 ≤ x3 then (if x3 < (ln x0) then k16201 x0 x1 (IntKind.u64.wrap (x2 + (rd x0 x3))) x3 x4 else none) else none) else k16201 x0 x1 x2 x3 x4)
noncomputable def b16201 (c132 c133 : T2) (k1013 : T29) (x0 x1 : Λ) (x2 x3 : Int) (x4 : Λ) : Ω (Λ) := (if x3 < (ln x1) then (if 0 ≤ x3 then (if x3 < (ln x1) then (if x4.length + 1 ≤ 17592186044416 then k1013 x0 x1 ((IntKind.u64.wrap (x2 + (rd x1 x3))) / 4294967296) (wrap64 (x3 + 1)) (x4 ++ [Go.bits .and .u64 (IntKind.u64.wrap (x2 + (rd x1 x3))) 4294967295]) else none) else none) else none) else (if x4.length + 1 ≤ 17592186044416 then k1013 x0 x1 (x2 / 4294967296) (wrap64 (x3 + 1)) (x4 ++ [Go.bits .and .u64 x2 4294967295]) else none))
noncomputable def l127 (n : Nat) (x0 : Int) (x1 : Λ) : Ω (Λ) := b127 (abacusref01_halves.f n) (abacusref01_limbs.f n) x0 x1
noncomputable def l16201 (n : Nat) (k1013 : T29) (x0 x1 : Λ) (x2 x3 : Int) (x4 : Λ) : Ω (Λ) := b16201 (abacusref01_halves.f n) (abacusref01_limbs.f n) k1013 x0 x1 x2 x3 x4
noncomputable def l2025 (n : Nat) (k1013 : T29) (x0 x1 : Λ) (x2 x3 : Int) (x4 : Λ) : Ω (Λ) := b2025 (abacusref01_halves.f n) (abacusref01_limbs.f n) (l16201 n k1013) x0 x1 x2 x3 x4
noncomputable def l1013 (n : Nat) : Nat→Λ→Λ→Int→Int→Λ→Ω (Λ)
  | 0, _, _, _, _, _ => none
  | m + 1, x0, x1, x2, x3, x4 => b1013 (abacusref01_halves.f n) (abacusref01_limbs.f n) (l127 n) (l2025 n (l1013 n m)) x0 x1 x2 x3 x4
noncomputable def f (n : Nat) (l0 l1 : Λ) : Ω (Λ) := b0 (abacusref01_halves.f n) (abacusref01_limbs.f n) (l1013 n n) l0 l1
noncomputable def sg : Sig (Λ) := s1 (sOwn 24 .u64)
noncomputable def code : Code := (Tryz.f149.body).getD .skip
noncomputable def cfg (c132 c133 : T2) : Cfg (Λ) := { T := tys, call := orCall 132 (abacusref01_halves.call c132) (orCall 133 (abacusref01_limbs.call c133) (noCall)) }
noncomputable def cuts : List (Nat × List (Nat × Want)) := [(127, [(7, .keep), (8, .keep)]), (1013, [(5, .keep), (6, .keep), (7, .keep), (8, .keep), (9, .keep)]), (2025, [(5, .keep), (6, .keep), (7, .keep), (8, .keep), (9, .keep)]), (16201, [(5, .keep), (6, .keep), (7, .keep), (8, .keep), (9, .keep)])]
noncomputable def s127 (x0 : Int) (x1 : Λ) : ASt := ⟨[(7, .own 0), (8, .int .u64 x0)], [.ints 24 .u64 x1]⟩
noncomputable def s1013 (x0 x1 : Λ) (x2 x3 : Int) (x4 : Λ) : ASt := ⟨[(5, .ro .u64 x0), (6, .ro .u64 x1), (7, .own 0), (8, .int .u64 x2), (9, .int .i64 x3)], [.ints 24 .u64 x4]⟩
noncomputable def s2025 (x0 x1 : Λ) (x2 x3 : Int) (x4 : Λ) : ASt := ⟨[(5, .ro .u64 x0), (6, .ro .u64 x1), (7, .own 0), (8, .int .u64 x2), (9, .int .i64 x3)], [.ints 24 .u64 x4]⟩
noncomputable def s16201 (x0 x1 : Λ) (x2 x3 : Int) (x4 : Λ) : ASt := ⟨[(5, .ro .u64 x0), (6, .ro .u64 x1), (7, .own 0), (8, .int .u64 x2), (9, .int .i64 x3)], [.ints 24 .u64 x4]⟩
noncomputable def A (c132 c133 : T2) (n : Nat) (J : Jt (Λ)) (q : Nat) (ms : List Nat) : ASt→Ω (Λ) := acont (cfg c132 c133) J cuts n q code 1 ms (aend (cfg c132 c133) Tryz.f149.results.toList [true] sg.out)
theorem e0 {c132 c133 n J l0 l1} : afun (cfg c132 c133) J cuts n code Tryz.f149.results.toList [true] [.ro .u64 l0, .ro .u64 l1] sg.out = b0 c132 c133 (fun y0 y1 y2 y3 y4 => J 1013 (A c132 c133 n J 1013 [n]) (s1013 y0 y1 y2 y3 y4)) l0 l1 := by kernel_rfl
theorem e127 {c132 c133 n J x0 x1} : A c132 c133 n J 127 [] (s127 x0 x1) = b127 c132 c133 x0 x1 := by kernel_rfl
theorem e1013 {c132 c133 n J m x0 x1 x2 x3 x4} : A c132 c133 n J 1013 [m + 1] (s1013 x0 x1 x2 x3 x4) = b1013 c132 c133 (fun y0 y1 => J 127 (A c132 c133 n J 127 []) (s127 y0 y1)) (fun y0 y1 y2 y3 y4 => J 2025 (A c132 c133 n J 2025 [m]) (s2025 y0 y1 y2 y3 y4)) x0 x1 x2 x3 x4 := by kernel_rfl
theorem e2025 {c132 c133 n J m1013 x0 x1 x2 x3 x4} : A c132 c133 n J 2025 [m1013] (s2025 x0 x1 x2 x3 x4) = b2025 c132 c133 (fun y0 y1 y2 y3 y4 => J 16201 (A c132 c133 n J 16201 [m1013]) (s16201 y0 y1 y2 y3 y4)) x0 x1 x2 x3 x4 := by kernel_rfl
theorem e16201 {c132 c133 n J m1013 x0 x1 x2 x3 x4} : A c132 c133 n J 16201 [m1013] (s16201 x0 x1 x2 x3 x4) = b16201 c132 c133 (fun y0 y1 y2 y3 y4 => J 1013 (A c132 c133 n J 1013 [m1013]) (s1013 y0 y1 y2 y3 y4)) x0 x1 x2 x3 x4 := by kernel_rfl
noncomputable abbrev I (n : Nat) := A (abacusref01_halves.f n) (abacusref01_limbs.f n) n idJ
theorem q127 (n x0 x1) : I n 127 [] (s127 x0 x1) = l127 n x0 x1 := e127
theorem q16201 (n m1013 x0 x1 x2 x3 x4) : I n 16201 [m1013] (s16201 x0 x1 x2 x3 x4) = l16201 n (fun y0 y1 y2 y3 y4 => I n 1013 [m1013] (s1013 y0 y1 y2 y3 y4)) x0 x1 x2 x3 x4 := e16201
theorem q2025 (n m1013 x0 x1 x2 x3 x4) : I n 2025 [m1013] (s2025 x0 x1 x2 x3 x4) = l2025 n (fun y0 y1 y2 y3 y4 => I n 1013 [m1013] (s1013 y0 y1 y2 y3 y4)) x0 x1 x2 x3 x4 := e2025.trans (Eq.trans (cf5 (congrArg (b2025 _ _) (fu5 (q16201 n m1013))) _ _ _ _ _) rfl)
theorem q1013 (n m) : ∀ x0 x1 x2 x3 x4, I n 1013 [m] (s1013 x0 x1 x2 x3 x4) = l1013 n m x0 x1 x2 x3 x4 := by
  induction m with
  | zero => intros; rfl
  | succ m ih =>
    intros
    exact e1013.trans (Eq.trans (cf5 (congr (congrArg (b1013 _ _) (fu2 (q127 n))) ((fu5 (q2025 n m)).trans (by rw [show (fun y0 y1 y2 y3 y4 => I n 1013 [m] (s1013 y0 y1 y2 y3 y4)) = _ from (fu5 (ih))]))) _ _ _ _ _) rfl)
theorem ok {n  l0 l1 r} (h : f n l0 l1 = some r) : CallD Tryz.prog HW 149 [.ro .u64 l0, .ro .u64 l1] (sg.enc r) :=
  fun_some hwS Tryz.func149 (by kernel_rfl) (body := code) (by kernel_rfl) tys_ok (c := cfg (abacusref01_halves.f n) (abacusref01_limbs.f n)) (orCall_ok (abacusref01_halves.call_ok (n := n)) (orCall_ok (abacusref01_limbs.call_ok (n := n)) noCall_ok)) noW_ok (by kernel_rfl) (by kernel_rfl) (Nat.le_of_ble_eq_true (by kernel_rfl)) (Eq.trans ((e0 (n := n)).trans (Eq.trans (cf2 (congrArg (b0 _ _) (fu5 (q1013 n n))) _ _) rfl)) h)
noncomputable def call {α : Type} (g : T17) (ds : List D) (K : List D→Ω α) : Ω α := match ds with
  | [.ro .u64 l0, .ro .u64 l1] => (g l0 l1).bind fun r => K (sg.enc r)
  | _ => none
theorem call_ok {α : Type} {n : Nat} : COK Tryz.prog HW 149 (call (α := α) (f n)) := fun _ _ _ h => by
  unfold call at h; split at h
  · exact cok h fun _ => ok
  · cases h
end abacusref01_Plus
/-! ### abacusref01_Less: function 81 -/
namespace abacusref01_Less
noncomputable def b0 (c132 c133 : T2) (k1013 : T29) (l0 l1 : Λ) : Ω (Λ) := ((c132 l0).bind fun t1 => ((c132 l1).bind fun t2 => (if 0 ≤ (ln t1) then (if (ln t1).toNat ≤ 35184372088832 then k1013 t1 t2 0 0 (List.replicate 0 (0 : Int)) else none) else none)))
noncomputable def b127 (c132 c133 : T2) (x0 : Λ) : Ω (Λ) := ((c133 x0).bind fun t1 => some t1)
noncomputable def b1013 (c132 c133 k127 : T2) (k32403 : T29) (x0 x1 : Λ) (x2 x3 : Int) (x4 : Λ) : Ω (Λ) := (if x3 < (ln x0) then (if x3 < (ln x1) then (if 0 ≤ x3 then (if x3 < (ln x1) then k32403 x0 x1 x3 (IntKind.u64.wrap (x2 + (rd x1 x3))) x4 else none) else none) else k32403 x0 x1 x3 x2 x4) else k127 x4)
noncomputable def b32403 (c132 c133 : T2) (k259231 : Λ→Λ→Int→Int→Int→Int→Λ→Ω (Λ)) (x0 x1 : Λ) (x2 x3 : Int) (x4 : Λ) : Ω (Λ) := (if 0 ≤ x2 then (if x2 < (ln x0) then (if (rd x0 x2) < x3 then k259231 x0 x1 1 x2 x3 (IntKind.u64.wrap ((rd x0 x2) + 4294967296)) x4 else k259231 x0 x1 0 x2 x3 (rd x0 x2) x4) else none) else none)
noncomputable def b259231 (c132 c133 : T2) (k1013 : T29) (x0 x1 : Λ) (x2 x3 x4 x5 : Int) (x6 : Λ) : Ω (Λ) := (if x6.length + 1 ≤ 17592186044416 then k1013 x0 x1 x2 (wrap64 (x3 + 1)) (x6 ++ [IntKind.u64.wrap (x5 - x4)]) else none)
noncomputable def l127 (n : Nat) (x0 : Λ) : Ω (Λ) := b127 (abacusref01_halves.f n) (abacusref01_limbs.f n) x0
noncomputable def l259231 (n : Nat) (k1013 : T29) (x0 x1 : Λ) (x2 x3 x4 x5 : Int) (x6 : Λ) : Ω (Λ) := b259231 (abacusref01_halves.f n) (abacusref01_limbs.f n) k1013 x0 x1 x2 x3 x4 x5 x6
noncomputable def l32403 (n : Nat) (k1013 : T29) (x0 x1 : Λ) (x2 x3 : Int) (x4 : Λ) : Ω (Λ) := b32403 (abacusref01_halves.f n) (abacusref01_limbs.f n) (l259231 n k1013) x0 x1 x2 x3 x4
noncomputable def l1013 (n : Nat) : Nat→Λ→Λ→Int→Int→Λ→Ω (Λ)
  | 0, _, _, _, _, _ => none
  | m + 1, x0, x1, x2, x3, x4 => b1013 (abacusref01_halves.f n) (abacusref01_limbs.f n) (l127 n) (l32403 n (l1013 n m)) x0 x1 x2 x3 x4
noncomputable def f (n : Nat) (l0 l1 : Λ) : Ω (Λ) := b0 (abacusref01_halves.f n) (abacusref01_limbs.f n) (l1013 n n) l0 l1
noncomputable def sg : Sig (Λ) := s1 (sOwn 24 .u64)
noncomputable def code : Code := (Tryz.f81.body).getD .skip
noncomputable def cfg (c132 c133 : T2) : Cfg (Λ) := { T := tys, call := orCall 132 (abacusref01_halves.call c132) (orCall 133 (abacusref01_limbs.call c133) (noCall)) }
noncomputable def cuts : List (Nat × List (Nat × Want)) := [(127, [(7, .keep)]), (1013, [(5, .keep), (6, .keep), (7, .keep), (8, .keep), (9, .keep)]), (32403, [(5, .keep), (6, .keep), (7, .keep), (9, .keep), (10, .keep)]), (259231, [(5, .keep), (6, .keep), (7, .keep), (8, .keep), (9, .keep), (10, .keep), (11, .keep)])]
noncomputable def s127 (x0 : Λ) : ASt := ⟨[(7, .own 0)], [.ints 24 .u64 x0]⟩
noncomputable def s1013 (x0 x1 : Λ) (x2 x3 : Int) (x4 : Λ) : ASt := ⟨[(5, .ro .u64 x0), (6, .ro .u64 x1), (7, .own 0), (8, .int .u64 x2), (9, .int .i64 x3)], [.ints 24 .u64 x4]⟩
noncomputable def s32403 (x0 x1 : Λ) (x2 x3 : Int) (x4 : Λ) : ASt := ⟨[(5, .ro .u64 x0), (6, .ro .u64 x1), (7, .own 0), (9, .int .i64 x2), (10, .int .u64 x3)], [.ints 24 .u64 x4]⟩
noncomputable def s259231 (x0 x1 : Λ) (x2 x3 x4 x5 : Int) (x6 : Λ) : ASt := ⟨[(5, .ro .u64 x0), (6, .ro .u64 x1), (7, .own 0), (8, .int .u64 x2), (9, .int .i64 x3), (10, .int .u64 x4), (11, .int .u64 x5)], [.ints 24 .u64 x6]⟩
noncomputable def A (c132 c133 : T2) (n : Nat) (J : Jt (Λ)) (q : Nat) (ms : List Nat) : ASt→Ω (Λ) := acont (cfg c132 c133) J cuts n q code 1 ms (aend (cfg c132 c133) Tryz.f81.results.toList [true] sg.out)
theorem e0 {c132 c133 n J l0 l1} : afun (cfg c132 c133) J cuts n code Tryz.f81.results.toList [true] [.ro .u64 l0, .ro .u64 l1] sg.out = b0 c132 c133 (fun y0 y1 y2 y3 y4 => J 1013 (A c132 c133 n J 1013 [n]) (s1013 y0 y1 y2 y3 y4)) l0 l1 := by kernel_rfl
theorem e127 {c132 c133 n J x0} : A c132 c133 n J 127 [] (s127 x0) = b127 c132 c133 x0 := by kernel_rfl
theorem e1013 {c132 c133 n J m x0 x1 x2 x3 x4} : A c132 c133 n J 1013 [m + 1] (s1013 x0 x1 x2 x3 x4) = b1013 c132 c133 (fun y0 => J 127 (A c132 c133 n J 127 []) (s127 y0)) (fun y0 y1 y2 y3 y4 => J 32403 (A c132 c133 n J 32403 [m]) (s32403 y0 y1 y2 y3 y4)) x0 x1 x2 x3 x4 := by kernel_rfl
theorem e32403 {c132 c133 n J m1013 x0 x1 x2 x3 x4} : A c132 c133 n J 32403 [m1013] (s32403 x0 x1 x2 x3 x4) = b32403 c132 c133 (fun y0 y1 y2 y3 y4 y5 y6 => J 259231 (A c132 c133 n J 259231 [m1013]) (s259231 y0 y1 y2 y3 y4 y5 y6)) x0 x1 x2 x3 x4 := by kernel_rfl
theorem e259231 {c132 c133 n J m1013 x0 x1 x2 x3 x4 x5 x6} : A c132 c133 n J 259231 [m1013] (s259231 x0 x1 x2 x3 x4 x5 x6) = b259231 c132 c133 (fun y0 y1 y2 y3 y4 => J 1013 (A c132 c133 n J 1013 [m1013]) (s1013 y0 y1 y2 y3 y4)) x0 x1 x2 x3 x4 x5 x6 := by kernel_rfl
noncomputable abbrev I (n : Nat) := A (abacusref01_halves.f n) (abacusref01_limbs.f n) n idJ
theorem q127 (n x0) : I n 127 [] (s127 x0) = l127 n x0 := e127
theorem q259231 (n m1013 x0 x1 x2 x3 x4 x5 x6) : I n 259231 [m1013] (s259231 x0 x1 x2 x3 x4 x5 x6) = l259231 n (fun y0 y1 y2 y3 y4 => I n 1013 [m1013] (s1013 y0 y1 y2 y3 y4)) x0 x1 x2 x3 x4 x5 x6 := e259231
theorem q32403 (n m1013 x0 x1 x2 x3 x4) : I n 32403 [m1013] (s32403 x0 x1 x2 x3 x4) = l32403 n (fun y0 y1 y2 y3 y4 => I n 1013 [m1013] (s1013 y0 y1 y2 y3 y4)) x0 x1 x2 x3 x4 := e32403.trans (Eq.trans (cf5 (congrArg (b32403 _ _) (fu7 (q259231 n m1013))) _ _ _ _ _) rfl)
theorem q1013 (n m) : ∀ x0 x1 x2 x3 x4, I n 1013 [m] (s1013 x0 x1 x2 x3 x4) = l1013 n m x0 x1 x2 x3 x4 := by
  induction m with
  | zero => intros; rfl
  | succ m ih =>
    intros
    exact e1013.trans (Eq.trans (cf5 (congr (congrArg (b1013 _ _) (fu1 (q127 n))) ((fu5 (q32403 n m)).trans (by rw [show (fun y0 y1 y2 y3 y4 => I n 1013 [m] (s1013 y0 y1 y2 y3 y4)) = _ from (fu5 (ih))]))) _ _ _ _ _) rfl)
theorem ok {n  l0 l1 r} (h : f n l0 l1 = some r) : CallD Tryz.prog HW 81 [.ro .u64 l0, .ro .u64 l1] (sg.enc r) :=
  fun_some hwS Tryz.func81 (by kernel_rfl) (body := code) (by kernel_rfl) tys_ok (c := cfg (abacusref01_halves.f n) (abacusref01_limbs.f n)) (orCall_ok (abacusref01_halves.call_ok (n := n)) (orCall_ok (abacusref01_limbs.call_ok (n := n)) noCall_ok)) noW_ok (by kernel_rfl) (by kernel_rfl) (Nat.le_of_ble_eq_true (by kernel_rfl)) (Eq.trans ((e0 (n := n)).trans (Eq.trans (cf2 (congrArg (b0 _ _) (fu5 (q1013 n n))) _ _) rfl)) h)
noncomputable def call {α : Type} (g : T17) (ds : List D) (K : List D→Ω α) : Ω α := match ds with
  | [.ro .u64 l0, .ro .u64 l1] => (g l0 l1).bind fun r => K (sg.enc r)
  | _ => none
theorem call_ok {α : Type} {n : Nat} : COK Tryz.prog HW 81 (call (α := α) (f n)) := fun _ _ _ h => by
  unfold call at h; split at h
  · exact cok h fun _ => ok
  · cases h
end abacusref01_Less
/-! ### abacusref05_sum: function 103 -/
namespace abacusref05_sum
noncomputable def b0 (c79 : T13) (c81 : T17) (c85 : T6) (c108 : T23) (c149 : T17) (k7 : T9) (a0 : Bool) (l1 l2 : Λ) (a3 : Int) (a4 : Bool) (l5 l6 : Λ) (a7 : Int) : Ω (Bool × Λ × Λ × Int) := ((c108 a0 l1 l2 a3).bind fun t1 => (if t1 = true then ((c108 a4 l5 l6 a7).bind fun t2 => (if t2 = true then (if a0 = true then some (a4, ([] : Λ), l2, 0) else some (false, ([] : Λ), l2, 0)) else k7 a0 l1 l2 a3 a4 l5 l6 a7)) else k7 a0 l1 l2 a3 a4 l5 l6 a7))
noncomputable def b7 (c79 : T13) (c81 : T17) (c85 : T6) (c108 : T23) (c149 : T17) (k31 : Int→Int→Bool→Λ→Λ→Int→Bool→Λ→Λ→Ω (Bool × Λ × Λ × Int)) (x0 : Bool) (x1 x2 : Λ) (x3 : Int) (x4 : Bool) (x5 x6 : Λ) (x7 : Int) : Ω (Bool × Λ × Λ × Int) := (if x7 < x3 then k31 x7 x7 x0 x1 x2 x3 x4 x5 x6 else k31 x3 x7 x0 x1 x2 x3 x4 x5 x6)
noncomputable def b31 (c79 : T13) (c81 : T17) (c85 : T6) (c108 : T23) (c149 : T17) (x0 x1 : Int) (x2 : Bool) (x3 x4 : Λ) (x5 : Int) (x6 : Bool) (x7 x8 : Λ) : Ω (Bool × Λ × Λ × Int) := ((c79 x3 (wrap64 (x5 - x0))).bind fun t1 => ((c79 x7 (wrap64 (x1 - x0))).bind fun t2 => ((c85 t1 t2).bind fun t3 => (if (x2 == x6) = true then ((c149 t1 t2).bind fun t4 => some (x2, t4, x4, x0)) else (if t3 = 0 then some (false, ([] : Λ), x4, x0) else (if t3 > 0 then ((c81 t1 t2).bind fun t5 => some (x2, t5, x4, x0)) else ((c81 t2 t1).bind fun t6 => some (x6, t6, x4, x0))))))))
noncomputable def l31 (n : Nat) (x0 x1 : Int) (x2 : Bool) (x3 x4 : Λ) (x5 : Int) (x6 : Bool) (x7 x8 : Λ) : Ω (Bool × Λ × Λ × Int) := b31 (abacusref01_Lift.f n) (abacusref01_Less.f n) (abacusref01_Cmp.f n) (abacusref05_none.f n) (abacusref01_Plus.f n) x0 x1 x2 x3 x4 x5 x6 x7 x8
noncomputable def l7 (n : Nat) (x0 : Bool) (x1 x2 : Λ) (x3 : Int) (x4 : Bool) (x5 x6 : Λ) (x7 : Int) : Ω (Bool × Λ × Λ × Int) := b7 (abacusref01_Lift.f n) (abacusref01_Less.f n) (abacusref01_Cmp.f n) (abacusref05_none.f n) (abacusref01_Plus.f n) (l31 n) x0 x1 x2 x3 x4 x5 x6 x7
noncomputable def f (n : Nat) (a0 : Bool) (l1 l2 : Λ) (a3 : Int) (a4 : Bool) (l5 l6 : Λ) (a7 : Int) : Ω (Bool × Λ × Λ × Int) := b0 (abacusref01_Lift.f n) (abacusref01_Less.f n) (abacusref01_Cmp.f n) (abacusref05_none.f n) (abacusref01_Plus.f n) (l7 n) a0 l1 l2 a3 a4 l5 l6 a7
noncomputable def sg : Sig (Bool × Λ × Λ × Int) := s1 (sAgg (s2 (sBool) (s2 (sRow .u64) (s2 (sRow .u64) (s1 (sInt .i64))))))
noncomputable def code : Code := (Tryz.f103.body).getD .skip
noncomputable def cfg (c79 : T13) (c81 : T17) (c85 : T6) (c108 : T23) (c149 : T17) : Cfg (Bool × Λ × Λ × Int) := { T := tys, call := orCall 79 (abacusref01_Lift.call c79) (orCall 81 (abacusref01_Less.call c81) (orCall 85 (abacusref01_Cmp.call c85) (orCall 108 (abacusref05_none.call c108) (orCall 149 (abacusref01_Plus.call c149) (noCall))))) }
noncomputable def cuts : List (Nat × List (Nat × Want)) := [(7, [(2, .keep), (3, .keep), (4, .keep)]), (31, [(2, .keep), (3, .keep), (4, .keep), (5, .keep)])]
noncomputable def s7 (x0 : Bool) (x1 x2 : Λ) (x3 : Int) (x4 : Bool) (x5 x6 : Λ) (x7 : Int) : ASt := ⟨[(2, .ptr 0 0), (3, .ptr 1 0), (4, .ptr 2 0)], [.cells 60 [.bool x0, .ro .u64 x1, .ro .u64 x2, .int .i64 x3], .cells 60 [.bool x4, .ro .u64 x5, .ro .u64 x6, .int .i64 x7], .cells 60 [.bool false, .nil, .nil, .int .i64 0]]⟩
noncomputable def s31 (x0 x1 : Int) (x2 : Bool) (x3 x4 : Λ) (x5 : Int) (x6 : Bool) (x7 x8 : Λ) : ASt := ⟨[(2, .ptr 0 0), (3, .ptr 1 0), (4, .ptr 2 0), (5, .int .i64 x0)], [.cells 60 [.bool x2, .ro .u64 x3, .ro .u64 x4, .int .i64 x5], .cells 60 [.bool x6, .ro .u64 x7, .ro .u64 x8, .int .i64 x1], .cells 60 [.bool false, .nil, .nil, .int .i64 0]]⟩
noncomputable def A (c79 : T13) (c81 : T17) (c85 : T6) (c108 : T23) (c149 : T17) (n : Nat) (J : Jt (Bool × Λ × Λ × Int)) (q : Nat) (ms : List Nat) : ASt→Ω (Bool × Λ × Λ × Int) := acont (cfg c79 c81 c85 c108 c149) J cuts n q code 1 ms (aend (cfg c79 c81 c85 c108 c149) Tryz.f103.results.toList [false] sg.out)
theorem e0 {c79 c81 c85 c108 c149 n J a0 l1 l2 a3 a4 l5 l6 a7} : afun (cfg c79 c81 c85 c108 c149) J cuts n code Tryz.f103.results.toList [false] [.agg [.bool a0, .ro .u64 l1, .ro .u64 l2, .int .i64 a3], .agg [.bool a4, .ro .u64 l5, .ro .u64 l6, .int .i64 a7]] sg.out = b0 c79 c81 c85 c108 c149 (fun y0 y1 y2 y3 y4 y5 y6 y7 => J 7 (A c79 c81 c85 c108 c149 n J 7 []) (s7 y0 y1 y2 y3 y4 y5 y6 y7)) a0 l1 l2 a3 a4 l5 l6 a7 := by kernel_rfl
theorem e7 {c79 c81 c85 c108 c149 n J x0 x1 x2 x3 x4 x5 x6 x7} : A c79 c81 c85 c108 c149 n J 7 [] (s7 x0 x1 x2 x3 x4 x5 x6 x7) = b7 c79 c81 c85 c108 c149 (fun y0 y1 y2 y3 y4 y5 y6 y7 y8 => J 31 (A c79 c81 c85 c108 c149 n J 31 []) (s31 y0 y1 y2 y3 y4 y5 y6 y7 y8)) x0 x1 x2 x3 x4 x5 x6 x7 := by kernel_rfl
theorem e31 {c79 c81 c85 c108 c149 n J x0 x1 x2 x3 x4 x5 x6 x7 x8} : A c79 c81 c85 c108 c149 n J 31 [] (s31 x0 x1 x2 x3 x4 x5 x6 x7 x8) = b31 c79 c81 c85 c108 c149 x0 x1 x2 x3 x4 x5 x6 x7 x8 := by kernel_rfl
noncomputable abbrev I (n : Nat) := A (abacusref01_Lift.f n) (abacusref01_Less.f n) (abacusref01_Cmp.f n) (abacusref05_none.f n) (abacusref01_Plus.f n) n idJ
theorem q31 (n x0 x1 x2 x3 x4 x5 x6 x7 x8) : I n 31 [] (s31 x0 x1 x2 x3 x4 x5 x6 x7 x8) = l31 n x0 x1 x2 x3 x4 x5 x6 x7 x8 := e31
theorem q7 (n x0 x1 x2 x3 x4 x5 x6 x7) : I n 7 [] (s7 x0 x1 x2 x3 x4 x5 x6 x7) = l7 n x0 x1 x2 x3 x4 x5 x6 x7 := e7.trans (Eq.trans (cf8 (congrArg (b7 _ _ _ _ _) (fu9 (q31 n))) _ _ _ _ _ _ _ _) rfl)
theorem ok {n  a0 l1 l2 a3 a4 l5 l6 a7 r} (h : f n a0 l1 l2 a3 a4 l5 l6 a7 = some r) : CallD Tryz.prog HW 103 [.agg [.bool a0, .ro .u64 l1, .ro .u64 l2, .int .i64 a3], .agg [.bool a4, .ro .u64 l5, .ro .u64 l6, .int .i64 a7]] (sg.enc r) :=
  fun_some hwS Tryz.func103 (by kernel_rfl) (body := code) (by kernel_rfl) tys_ok (c := cfg (abacusref01_Lift.f n) (abacusref01_Less.f n) (abacusref01_Cmp.f n) (abacusref05_none.f n) (abacusref01_Plus.f n)) (orCall_ok (abacusref01_Lift.call_ok (n := n)) (orCall_ok (abacusref01_Less.call_ok (n := n)) (orCall_ok (abacusref01_Cmp.call_ok (n := n)) (orCall_ok (abacusref05_none.call_ok (n := n)) (orCall_ok (abacusref01_Plus.call_ok (n := n)) noCall_ok))))) noW_ok (by kernel_rfl) (by kernel_rfl) (Nat.le_of_ble_eq_true (by kernel_rfl)) (Eq.trans ((e0 (n := n)).trans (Eq.trans (cf8 (congrArg (b0 _ _ _ _ _) (fu8 (q7 n))) _ _ _ _ _ _ _ _) rfl)) h)
noncomputable def call {α : Type} (g : T9) (ds : List D) (K : List D→Ω α) : Ω α := match ds with
  | [.agg [.bool a0, .ro .u64 l1, .ro .u64 l2, .int .i64 a3], .agg [.bool a4, .ro .u64 l5, .ro .u64 l6, .int .i64 a7]] => (g a0 l1 l2 a3 a4 l5 l6 a7).bind fun r => K (sg.enc r)
  | _ => none
theorem call_ok {α : Type} {n : Nat} : COK Tryz.prog HW 103 (call (α := α) (f n)) := fun _ _ _ h => by
  unfold call at h; split at h
  · exact cok h fun _ => ok
  · cases h
end abacusref05_sum
/-! ### abacusref01_Big: function 92 -/
namespace abacusref01_Big
noncomputable def b0 (c134 : T0) (l0 : Λ) : Ω (Bool) := ((c134 l0).bind fun t1 => some (decide (t1 > 4096)))
noncomputable def f (n : Nat) (l0 : Λ) : Ω (Bool) := b0 (abacusref01_Size.f n) l0
noncomputable def sg : Sig (Bool) := s1 (sBool)
noncomputable def code : Code := (Tryz.f92.body).getD .skip
noncomputable def cfg (c134 : T0) : Cfg (Bool) := { T := tys, call := orCall 134 (abacusref01_Size.call c134) (noCall) }
noncomputable def cuts : List (Nat × List (Nat × Want)) := []
theorem e0 {c134 n J l0} : afun (cfg c134) J cuts n code Tryz.f92.results.toList [false] [.ro .u64 l0] sg.out = b0 c134 l0 := by kernel_rfl
theorem ok {n  l0 r} (h : f n l0 = some r) : CallD Tryz.prog HW 92 [.ro .u64 l0] (sg.enc r) :=
  fun_some hwS Tryz.func92 (by kernel_rfl) (body := code) (by kernel_rfl) tys_ok (c := cfg (abacusref01_Size.f n)) (orCall_ok (abacusref01_Size.call_ok (n := n)) noCall_ok) noW_ok (by kernel_rfl) (by kernel_rfl) (Nat.le_of_ble_eq_true (by kernel_rfl)) (Eq.trans ((e0 (n := n))) h)
noncomputable def call {α : Type} (g : T5) (ds : List D) (K : List D→Ω α) : Ω α := match ds with
  | [.ro .u64 l0] => (g l0).bind fun r => K (sg.enc r)
  | _ => none
theorem call_ok {α : Type} {n : Nat} : COK Tryz.prog HW 92 (call (α := α) (f n)) := fun _ _ _ h => by
  unfold call at h; split at h
  · exact cok h fun _ => ok
  · cases h
end abacusref01_Big
/-! ### abacusref04_put: function 94 -/
namespace abacusref04_put
noncomputable def b0 (a0 : Bool) (a1 a2 : Int) : Ω (Int) := (if a0 = true then some (IntKind.u64.wrap ((IntKind.u64.wrap ((IntKind.u64.wrap ((IntKind.u64.wrap a1) * 4503599627370496)) + a2)) + 9223372036854775808)) else some (IntKind.u64.wrap ((IntKind.u64.wrap ((IntKind.u64.wrap a1) * 4503599627370496)) + a2)))
noncomputable def f (a0 : Bool) (a1 a2 : Int) : Ω (Int) := b0 a0 a1 a2
noncomputable def sg : Sig (Int) := s1 (sInt .u64)
noncomputable def code : Code := (Tryz.f94.body).getD .skip
noncomputable def cfg : Cfg (Int) := { T := tys, call := noCall }
noncomputable def cuts : List (Nat × List (Nat × Want)) := []
theorem e0 {n J a0 a1 a2} : afun cfg J cuts n code Tryz.f94.results.toList [false] [.bool a0, .int .i64 a1, .int .u64 a2] sg.out = b0 a0 a1 a2 := by kernel_rfl
theorem ok {a0 a1 a2 r} (h : f a0 a1 a2 = some r) : CallD Tryz.prog HW 94 [.bool a0, .int .i64 a1, .int .u64 a2] (sg.enc r) :=
  fun_some hwS Tryz.func94 (by kernel_rfl) (body := code) (by kernel_rfl) tys_ok (c := cfg) noCall_ok noW_ok (by kernel_rfl) (by kernel_rfl) (Nat.le_of_ble_eq_true (by kernel_rfl)) (Eq.trans ((e0 (n := 0))) h)
noncomputable def call {α : Type} (g : T26) (ds : List D) (K : List D→Ω α) : Ω α := match ds with
  | [.bool a0, .int .i64 a1, .int .u64 a2] => (g a0 a1 a2).bind fun r => K (sg.enc r)
  | _ => none
theorem call_ok {α : Type} : COK Tryz.prog HW 94 (call (α := α) f) := fun _ _ _ h => by
  unfold call at h; split at h
  · exact cok h fun _ => ok
  · cases h
end abacusref04_put
/-! ### abacusref01_Times: function 109 -/
namespace abacusref01_Times
noncomputable def b0 (c132 c133 : T2) (k1013 : T60) (l0 l1 : Λ) : Ω (Λ) := ((c132 l0).bind fun t1 => ((c132 l1).bind fun t2 => (if (ln t1) = 0 then some ([] : Λ) else (if (ln t2) = 0 then some ([] : Λ) else (if 0 ≤ (wrap64 ((ln t1) + (ln t2))) then (if (wrap64 ((ln t1) + (ln t2))).toNat ≤ 35184372088832 then k1013 t1 t2 0 (List.replicate (wrap64 ((ln t1) + (ln t2))).toNat (0 : Int)) else none) else none)))))
noncomputable def b127 (c132 c133 : T2) (x0 : Λ) : Ω (Λ) := ((c133 x0).bind fun t1 => some t1)
noncomputable def b1013 (c132 c133 k127 : T2) (k259221 : T75) (x0 x1 : Λ) (x2 : Int) (x3 : Λ) : Ω (Λ) := (if x2 < (ln x0) then k259221 x0 x1 x2 0 0 x3 else k127 x3)
noncomputable def b32403 (c132 c133 : T2) (k1013 : T60) (x0 x1 : Λ) (x2 x3 : Int) (x4 : Λ) : Ω (Λ) := (if 0 ≤ (wrap64 (x2 + (ln x1))) then (if (wrap64 (x2 + (ln x1))) < (ln x4) then k1013 x0 x1 (wrap64 (x2 + 1)) (x4.set (wrap64 (x2 + (ln x1)) : Int).toNat x3) else none) else none)
noncomputable def b259221 (c132 c133 : T2) (k32403 : T29) (k259221 : T75) (x0 x1 : Λ) (x2 x3 x4 : Int) (x5 : Λ) : Ω (Λ) := (if x4 < (ln x1) then (if 0 ≤ x2 then (if x2 < (ln x0) then (if 0 ≤ x4 then (if x4 < (ln x1) then (if 0 ≤ (wrap64 (x2 + x4)) then (if (wrap64 (x2 + x4)) < (ln x5) then (if 0 ≤ (wrap64 (x2 + x4)) then (if (wrap64 (x2 + x4)) < (ln x5) then k259221 x0 x1 x2 ((IntKind.u64.wrap ((IntKind.u64.wrap ((IntKind.u64.wrap ((rd x0 x2) * (rd x1 x4))) + (rd x5 (wrap64 (x2 + x4))))) + x3)) / 4294967296) (wrap64 (x4 + 1)) (x5.set (wrap64 (x2 + x4) : Int).toNat (Go.bits .and .u64 (IntKind.u64.wrap ((IntKind.u64.wrap ((IntKind.u64.wrap ((rd x0 x2) * (rd x1 x4))) + (rd x5 (wrap64 (x2 + x4))))) + x3)) 4294967295)) else none) else none) else none) else none) else none) else none) else none) else none) else k32403 x0 x1 x2 x3 x5)
noncomputable def l127 (n : Nat) (x0 : Λ) : Ω (Λ) := b127 (abacusref01_halves.f n) (abacusref01_limbs.f n) x0
noncomputable def l32403 (n : Nat) (k1013 : T60) (x0 x1 : Λ) (x2 x3 : Int) (x4 : Λ) : Ω (Λ) := b32403 (abacusref01_halves.f n) (abacusref01_limbs.f n) k1013 x0 x1 x2 x3 x4
noncomputable def l259221 (n : Nat) (k1013 : T60) : Nat→Λ→Λ→Int→Int→Int→Λ→Ω (Λ)
  | 0, _, _, _, _, _, _ => none
  | m + 1, x0, x1, x2, x3, x4, x5 => b259221 (abacusref01_halves.f n) (abacusref01_limbs.f n) (l32403 n k1013) (l259221 n k1013 m) x0 x1 x2 x3 x4 x5
noncomputable def l1013 (n : Nat) : Nat→Λ→Λ→Int→Λ→Ω (Λ)
  | 0, _, _, _, _ => none
  | m + 1, x0, x1, x2, x3 => b1013 (abacusref01_halves.f n) (abacusref01_limbs.f n) (l127 n) (l259221 n (l1013 n m) n) x0 x1 x2 x3
noncomputable def f (n : Nat) (l0 l1 : Λ) : Ω (Λ) := b0 (abacusref01_halves.f n) (abacusref01_limbs.f n) (l1013 n n) l0 l1
noncomputable def sg : Sig (Λ) := s1 (sOwn 24 .u64)
noncomputable def code : Code := (Tryz.f109.body).getD .skip
noncomputable def cfg (c132 c133 : T2) : Cfg (Λ) := { T := tys, call := orCall 132 (abacusref01_halves.call c132) (orCall 133 (abacusref01_limbs.call c133) (noCall)) }
noncomputable def cuts : List (Nat × List (Nat × Want)) := [(127, [(7, .keep)]), (1013, [(5, .keep), (6, .keep), (7, .keep), (8, .keep)]), (32403, [(5, .keep), (6, .keep), (7, .keep), (8, .keep), (9, .keep)]), (259221, [(5, .keep), (6, .keep), (7, .keep), (8, .keep), (9, .keep), (10, .keep)])]
noncomputable def s127 (x0 : Λ) : ASt := ⟨[(7, .own 0)], [.ints 24 .u64 x0]⟩
noncomputable def s1013 (x0 x1 : Λ) (x2 : Int) (x3 : Λ) : ASt := ⟨[(5, .ro .u64 x0), (6, .ro .u64 x1), (7, .own 0), (8, .int .i64 x2)], [.ints 24 .u64 x3]⟩
noncomputable def s32403 (x0 x1 : Λ) (x2 x3 : Int) (x4 : Λ) : ASt := ⟨[(5, .ro .u64 x0), (6, .ro .u64 x1), (7, .own 0), (8, .int .i64 x2), (9, .int .u64 x3)], [.ints 24 .u64 x4]⟩
noncomputable def s259221 (x0 x1 : Λ) (x2 x3 x4 : Int) (x5 : Λ) : ASt := ⟨[(5, .ro .u64 x0), (6, .ro .u64 x1), (7, .own 0), (8, .int .i64 x2), (9, .int .u64 x3), (10, .int .i64 x4)], [.ints 24 .u64 x5]⟩
noncomputable def A (c132 c133 : T2) (n : Nat) (J : Jt (Λ)) (q : Nat) (ms : List Nat) : ASt→Ω (Λ) := acont (cfg c132 c133) J cuts n q code 1 ms (aend (cfg c132 c133) Tryz.f109.results.toList [true] sg.out)
theorem e0 {c132 c133 n J l0 l1} : afun (cfg c132 c133) J cuts n code Tryz.f109.results.toList [true] [.ro .u64 l0, .ro .u64 l1] sg.out = b0 c132 c133 (fun y0 y1 y2 y3 => J 1013 (A c132 c133 n J 1013 [n]) (s1013 y0 y1 y2 y3)) l0 l1 := by kernel_rfl
theorem e127 {c132 c133 n J x0} : A c132 c133 n J 127 [] (s127 x0) = b127 c132 c133 x0 := by kernel_rfl
theorem e1013 {c132 c133 n J m x0 x1 x2 x3} : A c132 c133 n J 1013 [m + 1] (s1013 x0 x1 x2 x3) = b1013 c132 c133 (fun y0 => J 127 (A c132 c133 n J 127 []) (s127 y0)) (fun y0 y1 y2 y3 y4 y5 => J 259221 (A c132 c133 n J 259221 [m, n]) (s259221 y0 y1 y2 y3 y4 y5)) x0 x1 x2 x3 := by kernel_rfl
theorem e32403 {c132 c133 n J m1013 x0 x1 x2 x3 x4} : A c132 c133 n J 32403 [m1013] (s32403 x0 x1 x2 x3 x4) = b32403 c132 c133 (fun y0 y1 y2 y3 => J 1013 (A c132 c133 n J 1013 [m1013]) (s1013 y0 y1 y2 y3)) x0 x1 x2 x3 x4 := by kernel_rfl
theorem e259221 {c132 c133 n J m1013 m x0 x1 x2 x3 x4 x5} : A c132 c133 n J 259221 [m1013, m + 1] (s259221 x0 x1 x2 x3 x4 x5) = b259221 c132 c133 (fun y0 y1 y2 y3 y4 => J 32403 (A c132 c133 n J 32403 [m1013]) (s32403 y0 y1 y2 y3 y4)) (fun y0 y1 y2 y3 y4 y5 => J 259221 (A c132 c133 n J 259221 [m1013, m]) (s259221 y0 y1 y2 y3 y4 y5)) x0 x1 x2 x3 x4 x5 := by kernel_rfl
noncomputable abbrev I (n : Nat) := A (abacusref01_halves.f n) (abacusref01_limbs.f n) n idJ
theorem q127 (n x0) : I n 127 [] (s127 x0) = l127 n x0 := e127
theorem q32403 (n m1013 x0 x1 x2 x3 x4) : I n 32403 [m1013] (s32403 x0 x1 x2 x3 x4) = l32403 n (fun y0 y1 y2 y3 => I n 1013 [m1013] (s1013 y0 y1 y2 y3)) x0 x1 x2 x3 x4 := e32403
theorem q259221 (n m1013 m) : ∀ x0 x1 x2 x3 x4 x5, I n 259221 [m1013, m] (s259221 x0 x1 x2 x3 x4 x5) = l259221 n (fun y0 y1 y2 y3 => I n 1013 [m1013] (s1013 y0 y1 y2 y3)) m x0 x1 x2 x3 x4 x5 := by
  induction m with
  | zero => intros; rfl
  | succ m ih =>
    intros
    exact e259221.trans (Eq.trans (cf6 (congr (congrArg (b259221 _ _) (fu5 (q32403 n m1013))) (fu6 (ih))) _ _ _ _ _ _) rfl)
theorem q1013 (n m) : ∀ x0 x1 x2 x3, I n 1013 [m] (s1013 x0 x1 x2 x3) = l1013 n m x0 x1 x2 x3 := by
  induction m with
  | zero => intros; rfl
  | succ m ih =>
    intros
    exact e1013.trans (Eq.trans (cf4 (congr (congrArg (b1013 _ _) (fu1 (q127 n))) ((fu6 (q259221 n m n)).trans (by rw [show (fun y0 y1 y2 y3 => I n 1013 [m] (s1013 y0 y1 y2 y3)) = _ from (fu4 (ih))]))) _ _ _ _) rfl)
theorem ok {n  l0 l1 r} (h : f n l0 l1 = some r) : CallD Tryz.prog HW 109 [.ro .u64 l0, .ro .u64 l1] (sg.enc r) :=
  fun_some hwS Tryz.func109 (by kernel_rfl) (body := code) (by kernel_rfl) tys_ok (c := cfg (abacusref01_halves.f n) (abacusref01_limbs.f n)) (orCall_ok (abacusref01_halves.call_ok (n := n)) (orCall_ok (abacusref01_limbs.call_ok (n := n)) noCall_ok)) noW_ok (by kernel_rfl) (by kernel_rfl) (Nat.le_of_ble_eq_true (by kernel_rfl)) (Eq.trans ((e0 (n := n)).trans (Eq.trans (cf2 (congrArg (b0 _ _) (fu4 (q1013 n n))) _ _) rfl)) h)
noncomputable def call {α : Type} (g : T17) (ds : List D) (K : List D→Ω α) : Ω α := match ds with
  | [.ro .u64 l0, .ro .u64 l1] => (g l0 l1).bind fun r => K (sg.enc r)
  | _ => none
theorem call_ok {α : Type} {n : Nat} : COK Tryz.prog HW 109 (call (α := α) (f n)) := fun _ _ _ h => by
  unfold call at h; split at h
  · exact cok h fun _ => ok
  · cases h
end abacusref01_Times
/-! ### abacusref04_against: function 147 -/
namespace abacusref04_against
noncomputable def b0 (c79 : T13) (c85 : T6) (c109 : T17) (k31 : Bool→Λ→Λ→Int→Int→Int→Ω (Int)) (a0 : Int) (a1 : Bool) (l2 l3 : Λ) (a4 : Int) : Ω (Int) := (if a0 ≥ 4503599627370496 then k31 a1 l2 l3 a4 (IntKind.u64.wrap ((Int.tmod a0 4503599627370496) + 4503599627370496)) (wrap64 ((wrap64 (IntKind.u64.wrap (Int.tdiv a0 4503599627370496))) - 1075)) else k31 a1 l2 l3 a4 a0 (-1074))
noncomputable def b31 (c79 : T13) (c85 : T6) (c109 : T17) (k255 : Λ→Λ→Int→Int→Int→Ω (Int)) (x0 : Bool) (x1 x2 : Λ) (x3 x4 x5 : Int) : Ω (Int) := (if x0 = true then k255 x1 x2 x3 (IntKind.u64.wrap ((IntKind.u64.wrap (2 * x4)) + 1)) (wrap64 (x5 - 1)) else k255 x1 x2 x3 (IntKind.u64.wrap (2 * x4)) (wrap64 (x5 - 1)))
noncomputable def b255 (c79 : T13) (c85 : T6) (c109 : T17) (x0 x1 : Λ) (x2 x3 x4 : Int) : Ω (Int) := ((c109 x1 [x3]).bind fun t1 => (if x4 ≥ x2 then ((c79 t1 (wrap64 (x4 - x2))).bind fun t2 => ((c85 t2 x0).bind fun t3 => some t3)) else ((c79 x0 (wrap64 (x2 - x4))).bind fun t4 => ((c85 t1 t4).bind fun t5 => some t5))))
noncomputable def l255 (n : Nat) (x0 x1 : Λ) (x2 x3 x4 : Int) : Ω (Int) := b255 (abacusref01_Lift.f n) (abacusref01_Cmp.f n) (abacusref01_Times.f n) x0 x1 x2 x3 x4
noncomputable def l31 (n : Nat) (x0 : Bool) (x1 x2 : Λ) (x3 x4 x5 : Int) : Ω (Int) := b31 (abacusref01_Lift.f n) (abacusref01_Cmp.f n) (abacusref01_Times.f n) (l255 n) x0 x1 x2 x3 x4 x5
noncomputable def f (n : Nat) (a0 : Int) (a1 : Bool) (l2 l3 : Λ) (a4 : Int) : Ω (Int) := b0 (abacusref01_Lift.f n) (abacusref01_Cmp.f n) (abacusref01_Times.f n) (l31 n) a0 a1 l2 l3 a4
noncomputable def sg : Sig (Int) := s1 (sInt .i64)
noncomputable def code : Code := (Tryz.f147.body).getD .skip
noncomputable def cfg (c79 : T13) (c85 : T6) (c109 : T17) : Cfg (Int) := { T := tys, call := orCall 79 (abacusref01_Lift.call c79) (orCall 85 (abacusref01_Cmp.call c85) (orCall 109 (abacusref01_Times.call c109) (noCall))) }
noncomputable def cuts : List (Nat × List (Nat × Want)) := [(31, [(1, .keep), (2, .keep), (3, .keep), (4, .keep), (11, .keep), (12, .keep)]), (255, [(2, .keep), (3, .keep), (4, .keep), (11, .keep), (12, .keep)])]
noncomputable def s31 (x0 : Bool) (x1 x2 : Λ) (x3 x4 x5 : Int) : ASt := ⟨[(1, .bool x0), (2, .ro .u64 x1), (3, .ro .u64 x2), (4, .int .i64 x3), (11, .int .u64 x4), (12, .int .i64 x5)], []⟩
noncomputable def s255 (x0 x1 : Λ) (x2 x3 x4 : Int) : ASt := ⟨[(2, .ro .u64 x0), (3, .ro .u64 x1), (4, .int .i64 x2), (11, .int .u64 x3), (12, .int .i64 x4)], []⟩
noncomputable def A (c79 : T13) (c85 : T6) (c109 : T17) (n : Nat) (J : Jt (Int)) (q : Nat) (ms : List Nat) : ASt→Ω (Int) := acont (cfg c79 c85 c109) J cuts n q code 1 ms (aend (cfg c79 c85 c109) Tryz.f147.results.toList [false] sg.out)
theorem e0 {c79 c85 c109 n J a0 a1 l2 l3 a4} : afun (cfg c79 c85 c109) J cuts n code Tryz.f147.results.toList [false] [.int .u64 a0, .bool a1, .ro .u64 l2, .ro .u64 l3, .int .i64 a4] sg.out = b0 c79 c85 c109 (fun y0 y1 y2 y3 y4 y5 => J 31 (A c79 c85 c109 n J 31 []) (s31 y0 y1 y2 y3 y4 y5)) a0 a1 l2 l3 a4 := by kernel_rfl
theorem e31 {c79 c85 c109 n J x0 x1 x2 x3 x4 x5} : A c79 c85 c109 n J 31 [] (s31 x0 x1 x2 x3 x4 x5) = b31 c79 c85 c109 (fun y0 y1 y2 y3 y4 => J 255 (A c79 c85 c109 n J 255 []) (s255 y0 y1 y2 y3 y4)) x0 x1 x2 x3 x4 x5 := by kernel_rfl
theorem e255 {c79 c85 c109 n J x0 x1 x2 x3 x4} : A c79 c85 c109 n J 255 [] (s255 x0 x1 x2 x3 x4) = b255 c79 c85 c109 x0 x1 x2 x3 x4 := by kernel_rfl
noncomputable abbrev I (n : Nat) := A (abacusref01_Lift.f n) (abacusref01_Cmp.f n) (abacusref01_Times.f n) n idJ
theorem q255 (n x0 x1 x2 x3 x4) : I n 255 [] (s255 x0 x1 x2 x3 x4) = l255 n x0 x1 x2 x3 x4 := e255
theorem q31 (n x0 x1 x2 x3 x4 x5) : I n 31 [] (s31 x0 x1 x2 x3 x4 x5) = l31 n x0 x1 x2 x3 x4 x5 := e31.trans (Eq.trans (cf6 (congrArg (b31 _ _ _) (fu5 (q255 n))) _ _ _ _ _ _) rfl)
theorem ok {n  a0 a1 l2 l3 a4 r} (h : f n a0 a1 l2 l3 a4 = some r) : CallD Tryz.prog HW 147 [.int .u64 a0, .bool a1, .ro .u64 l2, .ro .u64 l3, .int .i64 a4] (sg.enc r) :=
  fun_some hwS Tryz.func147 (by kernel_rfl) (body := code) (by kernel_rfl) tys_ok (c := cfg (abacusref01_Lift.f n) (abacusref01_Cmp.f n) (abacusref01_Times.f n)) (orCall_ok (abacusref01_Lift.call_ok (n := n)) (orCall_ok (abacusref01_Cmp.call_ok (n := n)) (orCall_ok (abacusref01_Times.call_ok (n := n)) noCall_ok))) noW_ok (by kernel_rfl) (by kernel_rfl) (Nat.le_of_ble_eq_true (by kernel_rfl)) (Eq.trans ((e0 (n := n)).trans (Eq.trans (cf5 (congrArg (b0 _ _ _) (fu6 (q31 n))) _ _ _ _ _) rfl)) h)
noncomputable def call {α : Type} (g : T37) (ds : List D) (K : List D→Ω α) : Ω α := match ds with
  | [.int .u64 a0, .bool a1, .ro .u64 l2, .ro .u64 l3, .int .i64 a4] => (g a0 a1 l2 l3 a4).bind fun r => K (sg.enc r)
  | _ => none
theorem call_ok {α : Type} {n : Nat} : COK Tryz.prog HW 147 (call (α := α) (f n)) := fun _ _ _ h => by
  unfold call at h; split at h
  · exact cok h fun _ => ok
  · cases h
end abacusref04_against
/-! ### abacusref04_RoundRatio: function 97 -/
namespace abacusref04_RoundRatio
noncomputable def b0 (c92 : T5) (c94 : T26) (c134 : T0) (c147 : T37) (k2041 : T76) (a0 : Bool) (l1 l2 : Λ) (a3 : Int) : Ω (Int × Int) := ((c92 l1).bind fun t1 => (if t1 = true then some (0, 2) else ((c92 l2).bind fun t2 => (if t2 = true then some (0, 2) else ((c134 l2).bind fun t3 => (if t3 = 0 then some (0, 4) else ((c134 l1).bind fun t4 => (if t4 = 0 then ((c94 a0 0 0).bind fun t5 => some (t5, 0)) else (if a3 < (-1048576) then ((c94 a0 0 0).bind fun t6 => some (t6, 0)) else (if a3 > 1048576 then ((c94 a0 2047 0).bind fun t7 => some (t7, 0)) else k2041 a0 l1 l2 a3 0 9218868437227405312))))))))))
noncomputable def b511 (c92 : T5) (c94 : T26) (c134 : T0) (c147 : T37) (k1023 : Bool→Int→Ω (Int × Int)) (x0 : Bool) (x1 x2 : Λ) (x3 x4 : Int) : Ω (Int × Int) := (if x4 < 9218868437227405312 then ((c147 x4 true x1 x2 x3).bind fun t1 => (if t1 < 0 then k1023 x0 (IntKind.u64.wrap (x4 + 1)) else (if t1 = 0 then (if (Int.tmod x4 2) = 1 then k1023 x0 (IntKind.u64.wrap (x4 + 1)) else k1023 x0 x4) else k1023 x0 x4))) else k1023 x0 x4)
noncomputable def b1023 (c92 : T5) (c94 : T26) (c134 : T0) (c147 : T37) (x0 : Bool) (x1 : Int) : Ω (Int × Int) := (if x0 = true then some (IntKind.u64.wrap (x1 + 9223372036854775808), 0) else some (x1, 0))
noncomputable def b2041 (c92 : T5) (c94 : T26) (c134 : T0) (c147 : T37) (k511 : Bool→Λ→Λ→Int→Int→Ω (Int × Int)) (k2041 : T76) (x0 : Bool) (x1 x2 : Λ) (x3 x4 x5 : Int) : Ω (Int × Int) := (if x4 < x5 then ((c147 (IntKind.u64.wrap (x4 + (IntKind.u64.wrap (Int.tdiv (IntKind.u64.wrap ((IntKind.u64.wrap (x5 - x4)) + 1)) 2)))) false x1 x2 x3).bind fun t1 => (if t1 ≤ 0 then k2041 x0 x1 x2 x3 (IntKind.u64.wrap (x4 + (IntKind.u64.wrap (Int.tdiv (IntKind.u64.wrap ((IntKind.u64.wrap (x5 - x4)) + 1)) 2)))) x5 else k2041 x0 x1 x2 x3 x4 (IntKind.u64.wrap ((IntKind.u64.wrap (x4 + (IntKind.u64.wrap (Int.tdiv (IntKind.u64.wrap ((IntKind.u64.wrap (x5 - x4)) + 1)) 2)))) - 1)))) else k511 x0 x1 x2 x3 x4)
noncomputable def l1023 (n : Nat) (x0 : Bool) (x1 : Int) : Ω (Int × Int) := b1023 (abacusref01_Big.f n) abacusref04_put.f (abacusref01_Size.f n) (abacusref04_against.f n) x0 x1
noncomputable def l511 (n : Nat) (x0 : Bool) (x1 x2 : Λ) (x3 x4 : Int) : Ω (Int × Int) := b511 (abacusref01_Big.f n) abacusref04_put.f (abacusref01_Size.f n) (abacusref04_against.f n) (l1023 n) x0 x1 x2 x3 x4
noncomputable def l2041 (n : Nat) : Nat→Bool→Λ→Λ→Int→Int→Int→Ω (Int × Int)
  | 0, _, _, _, _, _, _ => none
  | m + 1, x0, x1, x2, x3, x4, x5 => b2041 (abacusref01_Big.f n) abacusref04_put.f (abacusref01_Size.f n) (abacusref04_against.f n) (l511 n) (l2041 n m) x0 x1 x2 x3 x4 x5
noncomputable def f (n : Nat) (a0 : Bool) (l1 l2 : Λ) (a3 : Int) : Ω (Int × Int) := b0 (abacusref01_Big.f n) abacusref04_put.f (abacusref01_Size.f n) (abacusref04_against.f n) (l2041 n n) a0 l1 l2 a3
noncomputable def sg : Sig (Int × Int) := s2 (sInt .u64) (s1 (sInt .i64))
noncomputable def code : Code := (Tryz.f97.body).getD .skip
noncomputable def cfg (c92 : T5) (c94 : T26) (c134 : T0) (c147 : T37) : Cfg (Int × Int) := { T := tys, call := orCall 92 (abacusref01_Big.call c92) (orCall 94 (abacusref04_put.call c94) (orCall 134 (abacusref01_Size.call c134) (orCall 147 (abacusref04_against.call c147) (noCall)))) }
noncomputable def cuts : List (Nat × List (Nat × Want)) := [(511, [(0, .keep), (1, .keep), (2, .keep), (3, .keep), (10, .keep)]), (1023, [(0, .keep), (10, .keep)]), (2041, [(0, .keep), (1, .keep), (2, .keep), (3, .keep), (10, .keep), (11, .keep)])]
noncomputable def s511 (x0 : Bool) (x1 x2 : Λ) (x3 x4 : Int) : ASt := ⟨[(0, .bool x0), (1, .ro .u64 x1), (2, .ro .u64 x2), (3, .int .i64 x3), (10, .int .u64 x4)], []⟩
noncomputable def s1023 (x0 : Bool) (x1 : Int) : ASt := ⟨[(0, .bool x0), (10, .int .u64 x1)], []⟩
noncomputable def s2041 (x0 : Bool) (x1 x2 : Λ) (x3 x4 x5 : Int) : ASt := ⟨[(0, .bool x0), (1, .ro .u64 x1), (2, .ro .u64 x2), (3, .int .i64 x3), (10, .int .u64 x4), (11, .int .u64 x5)], []⟩
noncomputable def A (c92 : T5) (c94 : T26) (c134 : T0) (c147 : T37) (n : Nat) (J : Jt (Int × Int)) (q : Nat) (ms : List Nat) : ASt→Ω (Int × Int) := acont (cfg c92 c94 c134 c147) J cuts n q code 1 ms (aend (cfg c92 c94 c134 c147) Tryz.f97.results.toList [false, false] sg.out)
theorem e0 {c92 c94 c134 c147 n J a0 l1 l2 a3} : afun (cfg c92 c94 c134 c147) J cuts n code Tryz.f97.results.toList [false, false] [.bool a0, .ro .u64 l1, .ro .u64 l2, .int .i64 a3] sg.out = b0 c92 c94 c134 c147 (fun y0 y1 y2 y3 y4 y5 => J 2041 (A c92 c94 c134 c147 n J 2041 [n]) (s2041 y0 y1 y2 y3 y4 y5)) a0 l1 l2 a3 := by kernel_rfl
theorem e511 {c92 c94 c134 c147 n J x0 x1 x2 x3 x4} : A c92 c94 c134 c147 n J 511 [] (s511 x0 x1 x2 x3 x4) = b511 c92 c94 c134 c147 (fun y0 y1 => J 1023 (A c92 c94 c134 c147 n J 1023 []) (s1023 y0 y1)) x0 x1 x2 x3 x4 := by kernel_rfl
theorem e1023 {c92 c94 c134 c147 n J x0 x1} : A c92 c94 c134 c147 n J 1023 [] (s1023 x0 x1) = b1023 c92 c94 c134 c147 x0 x1 := by kernel_rfl
theorem e2041 {c92 c94 c134 c147 n J m x0 x1 x2 x3 x4 x5} : A c92 c94 c134 c147 n J 2041 [m + 1] (s2041 x0 x1 x2 x3 x4 x5) = b2041 c92 c94 c134 c147 (fun y0 y1 y2 y3 y4 => J 511 (A c92 c94 c134 c147 n J 511 []) (s511 y0 y1 y2 y3 y4)) (fun y0 y1 y2 y3 y4 y5 => J 2041 (A c92 c94 c134 c147 n J 2041 [m]) (s2041 y0 y1 y2 y3 y4 y5)) x0 x1 x2 x3 x4 x5 := by kernel_rfl
noncomputable abbrev I (n : Nat) := A (abacusref01_Big.f n) abacusref04_put.f (abacusref01_Size.f n) (abacusref04_against.f n) n idJ
theorem q1023 (n x0 x1) : I n 1023 [] (s1023 x0 x1) = l1023 n x0 x1 := e1023
theorem q511 (n x0 x1 x2 x3 x4) : I n 511 [] (s511 x0 x1 x2 x3 x4) = l511 n x0 x1 x2 x3 x4 := e511.trans (Eq.trans (cf5 (congrArg (b511 _ _ _ _) (fu2 (q1023 n))) _ _ _ _ _) rfl)
theorem q2041 (n m) : ∀ x0 x1 x2 x3 x4 x5, I n 2041 [m] (s2041 x0 x1 x2 x3 x4 x5) = l2041 n m x0 x1 x2 x3 x4 x5 := by
  induction m with
  | zero => intros; rfl
  | succ m ih =>
    intros
    exact e2041.trans (Eq.trans (cf6 (congr (congrArg (b2041 _ _ _ _) (fu5 (q511 n))) (fu6 (ih))) _ _ _ _ _ _) rfl)
theorem ok {n  a0 l1 l2 a3 r} (h : f n a0 l1 l2 a3 = some r) : CallD Tryz.prog HW 97 [.bool a0, .ro .u64 l1, .ro .u64 l2, .int .i64 a3] (sg.enc r) :=
  fun_some hwS Tryz.func97 (by kernel_rfl) (body := code) (by kernel_rfl) tys_ok (c := cfg (abacusref01_Big.f n) abacusref04_put.f (abacusref01_Size.f n) (abacusref04_against.f n)) (orCall_ok (abacusref01_Big.call_ok (n := n)) (orCall_ok abacusref04_put.call_ok (orCall_ok (abacusref01_Size.call_ok (n := n)) (orCall_ok (abacusref04_against.call_ok (n := n)) noCall_ok)))) noW_ok (by kernel_rfl) (by kernel_rfl) (Nat.le_of_ble_eq_true (by kernel_rfl)) (Eq.trans ((e0 (n := n)).trans (Eq.trans (cf4 (congrArg (b0 _ _ _ _) (fu6 (q2041 n n))) _ _ _ _) rfl)) h)
noncomputable def call {α : Type} (g : T34) (ds : List D) (K : List D→Ω α) : Ω α := match ds with
  | [.bool a0, .ro .u64 l1, .ro .u64 l2, .int .i64 a3] => (g a0 l1 l2 a3).bind fun r => K (sg.enc r)
  | _ => none
theorem call_ok {α : Type} {n : Nat} : COK Tryz.prog HW 97 (call (α := α) (f n)) := fun _ _ _ h => by
  unfold call at h; split at h
  · exact cok h fun _ => ok
  · cases h
end abacusref04_RoundRatio
/-! ### abacusref05_rounded: function 102 -/
namespace abacusref05_rounded
noncomputable def b0 (c97 : T34) (a0 : Bool) (l1 l2 : Λ) (a3 : Int) : Ω (Int) := ((c97 a0 l1 l2 a3).bind fun t1 => some t1.1)
noncomputable def f (n : Nat) (a0 : Bool) (l1 l2 : Λ) (a3 : Int) : Ω (Int) := b0 (abacusref04_RoundRatio.f n) a0 l1 l2 a3
noncomputable def sg : Sig (Int) := s1 (sInt .u64)
noncomputable def code : Code := (Tryz.f102.body).getD .skip
noncomputable def cfg (c97 : T34) : Cfg (Int) := { T := tys, call := orCall 97 (abacusref04_RoundRatio.call c97) (noCall) }
noncomputable def cuts : List (Nat × List (Nat × Want)) := []
theorem e0 {c97 n J a0 l1 l2 a3} : afun (cfg c97) J cuts n code Tryz.f102.results.toList [false] [.agg [.bool a0, .ro .u64 l1, .ro .u64 l2, .int .i64 a3]] sg.out = b0 c97 a0 l1 l2 a3 := by kernel_rfl
theorem ok {n  a0 l1 l2 a3 r} (h : f n a0 l1 l2 a3 = some r) : CallD Tryz.prog HW 102 [.agg [.bool a0, .ro .u64 l1, .ro .u64 l2, .int .i64 a3]] (sg.enc r) :=
  fun_some hwS Tryz.func102 (by kernel_rfl) (body := code) (by kernel_rfl) tys_ok (c := cfg (abacusref04_RoundRatio.f n)) (orCall_ok (abacusref04_RoundRatio.call_ok (n := n)) noCall_ok) noW_ok (by kernel_rfl) (by kernel_rfl) (Nat.le_of_ble_eq_true (by kernel_rfl)) (Eq.trans ((e0 (n := n))) h)
noncomputable def call {α : Type} (g : T21) (ds : List D) (K : List D→Ω α) : Ω α := match ds with
  | [.agg [.bool a0, .ro .u64 l1, .ro .u64 l2, .int .i64 a3]] => (g a0 l1 l2 a3).bind fun r => K (sg.enc r)
  | _ => none
theorem call_ok {α : Type} {n : Nat} : COK Tryz.prog HW 102 (call (α := α) (f n)) := fun _ _ _ h => by
  unfold call at h; split at h
  · exact cok h fun _ => ok
  · cases h
end abacusref05_rounded
/-! ### abacusref05_Add: function 43 -/
namespace abacusref05_Add
noncomputable def b0 (c50 : T1) (c51 : T11) (c55 : T1) (c101 : T20) (c102 : T21) (c103 : T9) (k103 : Int→Int→Bool→Ω (Int)) (a0 a1 : Int) : Ω (Int) := ((c101 a0 a1).bind fun t1 => (if t1 = true then some 9221120237041090560 else ((c55 a0).bind fun t2 => (if t2 = true then ((c55 a1).bind fun t3 => (if t3 = true then ((c50 a0).bind fun t4 => ((c50 a1).bind fun t5 => k103 a0 a1 (t4 != t5))) else k103 a0 a1 false)) else k103 a0 a1 false))))
noncomputable def b103 (c50 : T1) (c51 : T11) (c55 : T1) (c101 : T20) (c102 : T21) (c103 : T9) (x0 x1 : Int) (x2 : Bool) : Ω (Int) := (if x2 = true then some 9221120237041090560 else ((c55 x0).bind fun t1 => (if t1 = true then some x0 else ((c55 x1).bind fun t2 => (if t2 = true then some x1 else ((c51 x0).bind fun t3 => ((c51 x1).bind fun t4 => ((c103 t3.1 t3.2.1 t3.2.2.1 t3.2.2.2 t4.1 t4.2.1 t4.2.2.1 t4.2.2.2).bind fun t5 => ((c102 t5.1 t5.2.1 t5.2.2.1 t5.2.2.2).bind fun t6 => some t6)))))))))
noncomputable def l103 (n : Nat) (x0 x1 : Int) (x2 : Bool) : Ω (Int) := b103 abacusref05_negative.f abacusref05_of.f abacusref05_infinite.f abacusref05_anyNaN.f (abacusref05_rounded.f n) (abacusref05_sum.f n) x0 x1 x2
noncomputable def f (n : Nat) (a0 a1 : Int) : Ω (Int) := b0 abacusref05_negative.f abacusref05_of.f abacusref05_infinite.f abacusref05_anyNaN.f (abacusref05_rounded.f n) (abacusref05_sum.f n) (l103 n) a0 a1
noncomputable def sg : Sig (Int) := s1 (sInt .u64)
noncomputable def code : Code := (Tryz.f43.body).getD .skip
noncomputable def cfg (c50 : T1) (c51 : T11) (c55 : T1) (c101 : T20) (c102 : T21) (c103 : T9) : Cfg (Int) := { T := tys, call := orCall 50 (abacusref05_negative.call c50) (orCall 51 (abacusref05_of.call c51) (orCall 55 (abacusref05_infinite.call c55) (orCall 101 (abacusref05_anyNaN.call c101) (orCall 102 (abacusref05_rounded.call c102) (orCall 103 (abacusref05_sum.call c103) (noCall)))))) }
noncomputable def cuts : List (Nat × List (Nat × Want)) := [(103, [(0, .keep), (1, .keep), (9, .keep)])]
noncomputable def s103 (x0 x1 : Int) (x2 : Bool) : ASt := ⟨[(0, .int .u64 x0), (1, .int .u64 x1), (9, .bool x2)], []⟩
noncomputable def A (c50 : T1) (c51 : T11) (c55 : T1) (c101 : T20) (c102 : T21) (c103 : T9) (n : Nat) (J : Jt (Int)) (q : Nat) (ms : List Nat) : ASt→Ω (Int) := acont (cfg c50 c51 c55 c101 c102 c103) J cuts n q code 1 ms (aend (cfg c50 c51 c55 c101 c102 c103) Tryz.f43.results.toList [false] sg.out)
theorem e0 {c50 c51 c55 c101 c102 c103 n J a0 a1} : afun (cfg c50 c51 c55 c101 c102 c103) J cuts n code Tryz.f43.results.toList [false] [.int .u64 a0, .int .u64 a1] sg.out = b0 c50 c51 c55 c101 c102 c103 (fun y0 y1 y2 => J 103 (A c50 c51 c55 c101 c102 c103 n J 103 []) (s103 y0 y1 y2)) a0 a1 := by kernel_rfl
theorem e103 {c50 c51 c55 c101 c102 c103 n J x0 x1 x2} : A c50 c51 c55 c101 c102 c103 n J 103 [] (s103 x0 x1 x2) = b103 c50 c51 c55 c101 c102 c103 x0 x1 x2 := by kernel_rfl
noncomputable abbrev I (n : Nat) := A abacusref05_negative.f abacusref05_of.f abacusref05_infinite.f abacusref05_anyNaN.f (abacusref05_rounded.f n) (abacusref05_sum.f n) n idJ
theorem q103 (n x0 x1 x2) : I n 103 [] (s103 x0 x1 x2) = l103 n x0 x1 x2 := e103
theorem ok {n  a0 a1 r} (h : f n a0 a1 = some r) : CallD Tryz.prog HW 43 [.int .u64 a0, .int .u64 a1] (sg.enc r) :=
  fun_some hwS Tryz.func43 (by kernel_rfl) (body := code) (by kernel_rfl) tys_ok (c := cfg abacusref05_negative.f abacusref05_of.f abacusref05_infinite.f abacusref05_anyNaN.f (abacusref05_rounded.f n) (abacusref05_sum.f n)) (orCall_ok abacusref05_negative.call_ok (orCall_ok abacusref05_of.call_ok (orCall_ok abacusref05_infinite.call_ok (orCall_ok abacusref05_anyNaN.call_ok (orCall_ok (abacusref05_rounded.call_ok (n := n)) (orCall_ok (abacusref05_sum.call_ok (n := n)) noCall_ok)))))) noW_ok (by kernel_rfl) (by kernel_rfl) (Nat.le_of_ble_eq_true (by kernel_rfl)) (Eq.trans ((e0 (n := n)).trans (Eq.trans (cf2 (congrArg (b0 _ _ _ _ _ _) (fu3 (q103 n))) _ _) rfl)) h)
noncomputable def call {α : Type} (g : T10) (ds : List D) (K : List D→Ω α) : Ω α := match ds with
  | [.int .u64 a0, .int .u64 a1] => (g a0 a1).bind fun r => K (sg.enc r)
  | _ => none
theorem call_ok {α : Type} {n : Nat} : COK Tryz.prog HW 43 (call (α := α) (f n)) := fun _ _ _ h => by
  unfold call at h; split at h
  · exact cok h fun _ => ok
  · cases h
end abacusref05_Add
/-! ### abacusref04_Neg: function 104 -/
namespace abacusref04_Neg
noncomputable def b0 (a0 : Int) : Ω (Int) := (if a0 ≥ 9223372036854775808 then some (IntKind.u64.wrap (a0 - 9223372036854775808)) else some (IntKind.u64.wrap (a0 + 9223372036854775808)))
noncomputable def f (a0 : Int) : Ω (Int) := b0 a0
noncomputable def sg : Sig (Int) := s1 (sInt .u64)
noncomputable def code : Code := (Tryz.f104.body).getD .skip
noncomputable def cfg : Cfg (Int) := { T := tys, call := noCall }
noncomputable def cuts : List (Nat × List (Nat × Want)) := []
theorem e0 {n J a0} : afun cfg J cuts n code Tryz.f104.results.toList [false] [.int .u64 a0] sg.out = b0 a0 := by kernel_rfl
theorem ok {a0 r} (h : f a0 = some r) : CallD Tryz.prog HW 104 [.int .u64 a0] (sg.enc r) :=
  fun_some hwS Tryz.func104 (by kernel_rfl) (body := code) (by kernel_rfl) tys_ok (c := cfg) noCall_ok noW_ok (by kernel_rfl) (by kernel_rfl) (Nat.le_of_ble_eq_true (by kernel_rfl)) (Eq.trans ((e0 (n := 0))) h)
noncomputable def call {α : Type} (g : T4) (ds : List D) (K : List D→Ω α) : Ω α := match ds with
  | [.int .u64 a0] => (g a0).bind fun r => K (sg.enc r)
  | _ => none
theorem call_ok {α : Type} : COK Tryz.prog HW 104 (call (α := α) f) := fun _ _ _ h => by
  unfold call at h; split at h
  · exact cok h fun _ => ok
  · cases h
end abacusref04_Neg
/-! ### abacusref05_Sub: function 44 -/
namespace abacusref05_Sub
noncomputable def b0 (c43 : T10) (c104 : T4) (a0 a1 : Int) : Ω (Int) := ((c104 a1).bind fun t1 => ((c43 a0 t1).bind fun t2 => some t2))
noncomputable def f (n : Nat) (a0 a1 : Int) : Ω (Int) := b0 (abacusref05_Add.f n) abacusref04_Neg.f a0 a1
noncomputable def sg : Sig (Int) := s1 (sInt .u64)
noncomputable def code : Code := (Tryz.f44.body).getD .skip
noncomputable def cfg (c43 : T10) (c104 : T4) : Cfg (Int) := { T := tys, call := orCall 43 (abacusref05_Add.call c43) (orCall 104 (abacusref04_Neg.call c104) (noCall)) }
noncomputable def cuts : List (Nat × List (Nat × Want)) := []
theorem e0 {c43 c104 n J a0 a1} : afun (cfg c43 c104) J cuts n code Tryz.f44.results.toList [false] [.int .u64 a0, .int .u64 a1] sg.out = b0 c43 c104 a0 a1 := by kernel_rfl
theorem ok {n  a0 a1 r} (h : f n a0 a1 = some r) : CallD Tryz.prog HW 44 [.int .u64 a0, .int .u64 a1] (sg.enc r) :=
  fun_some hwS Tryz.func44 (by kernel_rfl) (body := code) (by kernel_rfl) tys_ok (c := cfg (abacusref05_Add.f n) abacusref04_Neg.f) (orCall_ok (abacusref05_Add.call_ok (n := n)) (orCall_ok abacusref04_Neg.call_ok noCall_ok)) noW_ok (by kernel_rfl) (by kernel_rfl) (Nat.le_of_ble_eq_true (by kernel_rfl)) (Eq.trans ((e0 (n := n))) h)
noncomputable def call {α : Type} (g : T10) (ds : List D) (K : List D→Ω α) : Ω α := match ds with
  | [.int .u64 a0, .int .u64 a1] => (g a0 a1).bind fun r => K (sg.enc r)
  | _ => none
theorem call_ok {α : Type} {n : Nat} : COK Tryz.prog HW 44 (call (α := α) (f n)) := fun _ _ _ h => by
  unfold call at h; split at h
  · exact cok h fun _ => ok
  · cases h
end abacusref05_Sub
/-! ### abacusref05_zero: function 18 -/
namespace abacusref05_zero
noncomputable def b0 (c49 : T4) (a0 : Int) : Ω (Bool) := ((c49 a0).bind fun t1 => some (decide (t1 = 0)))
noncomputable def f (a0 : Int) : Ω (Bool) := b0 abacusref04_Abs.f a0
noncomputable def sg : Sig (Bool) := s1 (sBool)
noncomputable def code : Code := (Tryz.f18.body).getD .skip
noncomputable def cfg (c49 : T4) : Cfg (Bool) := { T := tys, call := orCall 49 (abacusref04_Abs.call c49) (noCall) }
noncomputable def cuts : List (Nat × List (Nat × Want)) := []
theorem e0 {c49 n J a0} : afun (cfg c49) J cuts n code Tryz.f18.results.toList [false] [.int .u64 a0] sg.out = b0 c49 a0 := by kernel_rfl
theorem ok {a0 r} (h : f a0 = some r) : CallD Tryz.prog HW 18 [.int .u64 a0] (sg.enc r) :=
  fun_some hwS Tryz.func18 (by kernel_rfl) (body := code) (by kernel_rfl) tys_ok (c := cfg abacusref04_Abs.f) (orCall_ok abacusref04_Abs.call_ok noCall_ok) noW_ok (by kernel_rfl) (by kernel_rfl) (Nat.le_of_ble_eq_true (by kernel_rfl)) (Eq.trans ((e0 (n := 0))) h)
noncomputable def call {α : Type} (g : T1) (ds : List D) (K : List D→Ω α) : Ω α := match ds with
  | [.int .u64 a0] => (g a0).bind fun r => K (sg.enc r)
  | _ => none
theorem call_ok {α : Type} : COK Tryz.prog HW 18 (call (α := α) f) := fun _ _ _ h => by
  unfold call at h; split at h
  · exact cok h fun _ => ok
  · cases h
end abacusref05_zero
/-! ### abacusref05_signed: function 105 -/
namespace abacusref05_signed
noncomputable def b0 (c49 : T4) (a0 : Bool) (a1 : Int) : Ω (Int) := (if a0 = true then ((c49 a1).bind fun t1 => some (IntKind.u64.wrap (t1 + 9223372036854775808))) else ((c49 a1).bind fun t2 => some t2))
noncomputable def f (a0 : Bool) (a1 : Int) : Ω (Int) := b0 abacusref04_Abs.f a0 a1
noncomputable def sg : Sig (Int) := s1 (sInt .u64)
noncomputable def code : Code := (Tryz.f105.body).getD .skip
noncomputable def cfg (c49 : T4) : Cfg (Int) := { T := tys, call := orCall 49 (abacusref04_Abs.call c49) (noCall) }
noncomputable def cuts : List (Nat × List (Nat × Want)) := []
theorem e0 {c49 n J a0 a1} : afun (cfg c49) J cuts n code Tryz.f105.results.toList [false] [.bool a0, .int .u64 a1] sg.out = b0 c49 a0 a1 := by kernel_rfl
theorem ok {a0 a1 r} (h : f a0 a1 = some r) : CallD Tryz.prog HW 105 [.bool a0, .int .u64 a1] (sg.enc r) :=
  fun_some hwS Tryz.func105 (by kernel_rfl) (body := code) (by kernel_rfl) tys_ok (c := cfg abacusref04_Abs.f) (orCall_ok abacusref04_Abs.call_ok noCall_ok) noW_ok (by kernel_rfl) (by kernel_rfl) (Nat.le_of_ble_eq_true (by kernel_rfl)) (Eq.trans ((e0 (n := 0))) h)
noncomputable def call {α : Type} (g : T12) (ds : List D) (K : List D→Ω α) : Ω α := match ds with
  | [.bool a0, .int .u64 a1] => (g a0 a1).bind fun r => K (sg.enc r)
  | _ => none
theorem call_ok {α : Type} : COK Tryz.prog HW 105 (call (α := α) f) := fun _ _ _ h => by
  unfold call at h; split at h
  · exact cok h fun _ => ok
  · cases h
end abacusref05_signed
/-! ### abacusref05_product: function 53 -/
namespace abacusref05_product
noncomputable def b0 (c109 : T17) (a0 : Bool) (l1 l2 : Λ) (a3 : Int) (a4 : Bool) (l5 l6 : Λ) (a7 : Int) : Ω (Bool × Λ × Λ × Int) := ((c109 l1 l5).bind fun t1 => some (a0 != a4, t1, l2, wrap64 (a3 + a7)))
noncomputable def f (n : Nat) (a0 : Bool) (l1 l2 : Λ) (a3 : Int) (a4 : Bool) (l5 l6 : Λ) (a7 : Int) : Ω (Bool × Λ × Λ × Int) := b0 (abacusref01_Times.f n) a0 l1 l2 a3 a4 l5 l6 a7
noncomputable def sg : Sig (Bool × Λ × Λ × Int) := s1 (sAgg (s2 (sBool) (s2 (sRow .u64) (s2 (sRow .u64) (s1 (sInt .i64))))))
noncomputable def code : Code := (Tryz.f53.body).getD .skip
noncomputable def cfg (c109 : T17) : Cfg (Bool × Λ × Λ × Int) := { T := tys, call := orCall 109 (abacusref01_Times.call c109) (noCall) }
noncomputable def cuts : List (Nat × List (Nat × Want)) := []
theorem e0 {c109 n J a0 l1 l2 a3 a4 l5 l6 a7} : afun (cfg c109) J cuts n code Tryz.f53.results.toList [false] [.agg [.bool a0, .ro .u64 l1, .ro .u64 l2, .int .i64 a3], .agg [.bool a4, .ro .u64 l5, .ro .u64 l6, .int .i64 a7]] sg.out = b0 c109 a0 l1 l2 a3 a4 l5 l6 a7 := by kernel_rfl
theorem ok {n  a0 l1 l2 a3 a4 l5 l6 a7 r} (h : f n a0 l1 l2 a3 a4 l5 l6 a7 = some r) : CallD Tryz.prog HW 53 [.agg [.bool a0, .ro .u64 l1, .ro .u64 l2, .int .i64 a3], .agg [.bool a4, .ro .u64 l5, .ro .u64 l6, .int .i64 a7]] (sg.enc r) :=
  fun_some hwS Tryz.func53 (by kernel_rfl) (body := code) (by kernel_rfl) tys_ok (c := cfg (abacusref01_Times.f n)) (orCall_ok (abacusref01_Times.call_ok (n := n)) noCall_ok) noW_ok (by kernel_rfl) (by kernel_rfl) (Nat.le_of_ble_eq_true (by kernel_rfl)) (Eq.trans ((e0 (n := n))) h)
noncomputable def call {α : Type} (g : T9) (ds : List D) (K : List D→Ω α) : Ω α := match ds with
  | [.agg [.bool a0, .ro .u64 l1, .ro .u64 l2, .int .i64 a3], .agg [.bool a4, .ro .u64 l5, .ro .u64 l6, .int .i64 a7]] => (g a0 l1 l2 a3 a4 l5 l6 a7).bind fun r => K (sg.enc r)
  | _ => none
theorem call_ok {α : Type} {n : Nat} : COK Tryz.prog HW 53 (call (α := α) (f n)) := fun _ _ _ h => by
  unfold call at h; split at h
  · exact cok h fun _ => ok
  · cases h
end abacusref05_product
/-! ### abacusref05_Mul: function 45 -/
namespace abacusref05_Mul
noncomputable def b0 (c18 c50 : T1) (c51 : T11) (c53 : T9) (c55 : T1) (c101 : T20) (c102 : T21) (c105 : T12) (k231 : T77) (a0 a1 : Int) : Ω (Int) := ((c50 a0).bind fun t1 => ((c50 a1).bind fun t2 => ((c101 a0 a1).bind fun t3 => (if t3 = true then some 9221120237041090560 else ((c55 a0).bind fun t4 => (if t4 = true then ((c18 a1).bind fun t5 => (if t5 = true then k231 a0 a1 (t1 != t2) true else ((c18 a0).bind fun t6 => (if t6 = true then ((c55 a1).bind fun t7 => k231 a0 a1 (t1 != t2) t7) else k231 a0 a1 (t1 != t2) false)))) else ((c18 a0).bind fun t8 => (if t8 = true then ((c55 a1).bind fun t9 => k231 a0 a1 (t1 != t2) t9) else k231 a0 a1 (t1 != t2) false))))))))
noncomputable def b231 (c18 c50 : T1) (c51 : T11) (c53 : T9) (c55 : T1) (c101 : T20) (c102 : T21) (c105 : T12) (x0 x1 : Int) (x2 x3 : Bool) : Ω (Int) := (if x3 = true then some 9221120237041090560 else ((c55 x0).bind fun t1 => (if t1 = true then ((c105 x2 9218868437227405312).bind fun t3 => some t3) else ((c55 x1).bind fun t2 => (if t2 = true then ((c105 x2 9218868437227405312).bind fun t4 => some t4) else ((c51 x0).bind fun t5 => ((c51 x1).bind fun t6 => ((c53 t5.1 t5.2.1 t5.2.2.1 t5.2.2.2 t6.1 t6.2.1 t6.2.2.1 t6.2.2.2).bind fun t7 => ((c102 t7.1 t7.2.1 t7.2.2.1 t7.2.2.2).bind fun t8 => some t8)))))))))
noncomputable def l231 (n : Nat) (x0 x1 : Int) (x2 x3 : Bool) : Ω (Int) := b231 abacusref05_zero.f abacusref05_negative.f abacusref05_of.f (abacusref05_product.f n) abacusref05_infinite.f abacusref05_anyNaN.f (abacusref05_rounded.f n) abacusref05_signed.f x0 x1 x2 x3
noncomputable def f (n : Nat) (a0 a1 : Int) : Ω (Int) := b0 abacusref05_zero.f abacusref05_negative.f abacusref05_of.f (abacusref05_product.f n) abacusref05_infinite.f abacusref05_anyNaN.f (abacusref05_rounded.f n) abacusref05_signed.f (l231 n) a0 a1
noncomputable def sg : Sig (Int) := s1 (sInt .u64)
noncomputable def code : Code := (Tryz.f45.body).getD .skip
noncomputable def cfg (c18 c50 : T1) (c51 : T11) (c53 : T9) (c55 : T1) (c101 : T20) (c102 : T21) (c105 : T12) : Cfg (Int) := { T := tys, call := orCall 18 (abacusref05_zero.call c18) (orCall 50 (abacusref05_negative.call c50) (orCall 51 (abacusref05_of.call c51) (orCall 53 (abacusref05_product.call c53) (orCall 55 (abacusref05_infinite.call c55) (orCall 101 (abacusref05_anyNaN.call c101) (orCall 102 (abacusref05_rounded.call c102) (orCall 105 (abacusref05_signed.call c105) (noCall)))))))) }
noncomputable def cuts : List (Nat × List (Nat × Want)) := [(231, [(0, .keep), (1, .keep), (5, .keep), (15, .keep)])]
noncomputable def s231 (x0 x1 : Int) (x2 x3 : Bool) : ASt := ⟨[(0, .int .u64 x0), (1, .int .u64 x1), (5, .bool x2), (15, .bool x3)], []⟩
noncomputable def A (c18 c50 : T1) (c51 : T11) (c53 : T9) (c55 : T1) (c101 : T20) (c102 : T21) (c105 : T12) (n : Nat) (J : Jt (Int)) (q : Nat) (ms : List Nat) : ASt→Ω (Int) := acont (cfg c18 c50 c51 c53 c55 c101 c102 c105) J cuts n q code 1 ms (aend (cfg c18 c50 c51 c53 c55 c101 c102 c105) Tryz.f45.results.toList [false] sg.out)
theorem e0 {c18 c50 c51 c53 c55 c101 c102 c105 n J a0 a1} : afun (cfg c18 c50 c51 c53 c55 c101 c102 c105) J cuts n code Tryz.f45.results.toList [false] [.int .u64 a0, .int .u64 a1] sg.out = b0 c18 c50 c51 c53 c55 c101 c102 c105 (fun y0 y1 y2 y3 => J 231 (A c18 c50 c51 c53 c55 c101 c102 c105 n J 231 []) (s231 y0 y1 y2 y3)) a0 a1 := by kernel_rfl
theorem e231 {c18 c50 c51 c53 c55 c101 c102 c105 n J x0 x1 x2 x3} : A c18 c50 c51 c53 c55 c101 c102 c105 n J 231 [] (s231 x0 x1 x2 x3) = b231 c18 c50 c51 c53 c55 c101 c102 c105 x0 x1 x2 x3 := by kernel_rfl
noncomputable abbrev I (n : Nat) := A abacusref05_zero.f abacusref05_negative.f abacusref05_of.f (abacusref05_product.f n) abacusref05_infinite.f abacusref05_anyNaN.f (abacusref05_rounded.f n) abacusref05_signed.f n idJ
theorem q231 (n x0 x1 x2 x3) : I n 231 [] (s231 x0 x1 x2 x3) = l231 n x0 x1 x2 x3 := e231
theorem ok {n  a0 a1 r} (h : f n a0 a1 = some r) : CallD Tryz.prog HW 45 [.int .u64 a0, .int .u64 a1] (sg.enc r) :=
  fun_some hwS Tryz.func45 (by kernel_rfl) (body := code) (by kernel_rfl) tys_ok (c := cfg abacusref05_zero.f abacusref05_negative.f abacusref05_of.f (abacusref05_product.f n) abacusref05_infinite.f abacusref05_anyNaN.f (abacusref05_rounded.f n) abacusref05_signed.f) (orCall_ok abacusref05_zero.call_ok (orCall_ok abacusref05_negative.call_ok (orCall_ok abacusref05_of.call_ok (orCall_ok (abacusref05_product.call_ok (n := n)) (orCall_ok abacusref05_infinite.call_ok (orCall_ok abacusref05_anyNaN.call_ok (orCall_ok (abacusref05_rounded.call_ok (n := n)) (orCall_ok abacusref05_signed.call_ok noCall_ok)))))))) noW_ok (by kernel_rfl) (by kernel_rfl) (Nat.le_of_ble_eq_true (by kernel_rfl)) (Eq.trans ((e0 (n := n)).trans (Eq.trans (cf2 (congrArg (b0 _ _ _ _ _ _ _ _) (fu4 (q231 n))) _ _) rfl)) h)
noncomputable def call {α : Type} (g : T10) (ds : List D) (K : List D→Ω α) : Ω α := match ds with
  | [.int .u64 a0, .int .u64 a1] => (g a0 a1).bind fun r => K (sg.enc r)
  | _ => none
theorem call_ok {α : Type} {n : Nat} : COK Tryz.prog HW 45 (call (α := α) (f n)) := fun _ _ _ h => by
  unfold call at h; split at h
  · exact cok h fun _ => ok
  · cases h
end abacusref05_Mul
/-! ### abacusref05_ratio: function 106 -/
namespace abacusref05_ratio
noncomputable def b0 (c51 : T11) (a0 a1 : Int) : Ω (Bool × Λ × Λ × Int) := ((c51 a0).bind fun t1 => ((c51 a1).bind fun t2 => some (t1.1 != t2.1, t1.2.1, t2.2.1, wrap64 (t1.2.2.2 - t2.2.2.2))))
noncomputable def f (a0 a1 : Int) : Ω (Bool × Λ × Λ × Int) := b0 abacusref05_of.f a0 a1
noncomputable def sg : Sig (Bool × Λ × Λ × Int) := s1 (sAgg (s2 (sBool) (s2 (sRow .u64) (s2 (sRow .u64) (s1 (sInt .i64))))))
noncomputable def code : Code := (Tryz.f106.body).getD .skip
noncomputable def cfg (c51 : T11) : Cfg (Bool × Λ × Λ × Int) := { T := tys, call := orCall 51 (abacusref05_of.call c51) (noCall) }
noncomputable def cuts : List (Nat × List (Nat × Want)) := []
theorem e0 {c51 n J a0 a1} : afun (cfg c51) J cuts n code Tryz.f106.results.toList [false] [.int .u64 a0, .int .u64 a1] sg.out = b0 c51 a0 a1 := by kernel_rfl
theorem ok {a0 a1 r} (h : f a0 a1 = some r) : CallD Tryz.prog HW 106 [.int .u64 a0, .int .u64 a1] (sg.enc r) :=
  fun_some hwS Tryz.func106 (by kernel_rfl) (body := code) (by kernel_rfl) tys_ok (c := cfg abacusref05_of.f) (orCall_ok abacusref05_of.call_ok noCall_ok) noW_ok (by kernel_rfl) (by kernel_rfl) (Nat.le_of_ble_eq_true (by kernel_rfl)) (Eq.trans ((e0 (n := 0))) h)
noncomputable def call {α : Type} (g : T42) (ds : List D) (K : List D→Ω α) : Ω α := match ds with
  | [.int .u64 a0, .int .u64 a1] => (g a0 a1).bind fun r => K (sg.enc r)
  | _ => none
theorem call_ok {α : Type} : COK Tryz.prog HW 106 (call (α := α) f) := fun _ _ _ h => by
  unfold call at h; split at h
  · exact cok h fun _ => ok
  · cases h
end abacusref05_ratio
/-! ### abacusref05_Div: function 46 -/
namespace abacusref05_Div
noncomputable def b0 (c18 c50 c55 : T1) (c101 : T20) (c102 : T21) (c105 : T12) (c106 : T42) (k231 : T77) (a0 a1 : Int) : Ω (Int) := ((c50 a0).bind fun t1 => ((c50 a1).bind fun t2 => ((c101 a0 a1).bind fun t3 => (if t3 = true then some 9221120237041090560 else ((c55 a0).bind fun t4 => (if t4 = true then ((c55 a1).bind fun t5 => (if t5 = true then k231 a0 a1 (t1 != t2) true else ((c18 a0).bind fun t6 => (if t6 = true then ((c18 a1).bind fun t7 => k231 a0 a1 (t1 != t2) t7) else k231 a0 a1 (t1 != t2) false)))) else ((c18 a0).bind fun t8 => (if t8 = true then ((c18 a1).bind fun t9 => k231 a0 a1 (t1 != t2) t9) else k231 a0 a1 (t1 != t2) false))))))))
noncomputable def b231 (c18 c50 c55 : T1) (c101 : T20) (c102 : T21) (c105 : T12) (c106 : T42) (x0 x1 : Int) (x2 x3 : Bool) : Ω (Int) := (if x3 = true then some 9221120237041090560 else ((c55 x0).bind fun t1 => (if t1 = true then ((c105 x2 9218868437227405312).bind fun t3 => some t3) else ((c18 x1).bind fun t2 => (if t2 = true then ((c105 x2 9218868437227405312).bind fun t4 => some t4) else ((c55 x1).bind fun t5 => (if t5 = true then ((c105 x2 0).bind fun t6 => some t6) else ((c106 x0 x1).bind fun t7 => ((c102 t7.1 t7.2.1 t7.2.2.1 t7.2.2.2).bind fun t8 => some t8)))))))))
noncomputable def l231 (n : Nat) (x0 x1 : Int) (x2 x3 : Bool) : Ω (Int) := b231 abacusref05_zero.f abacusref05_negative.f abacusref05_infinite.f abacusref05_anyNaN.f (abacusref05_rounded.f n) abacusref05_signed.f abacusref05_ratio.f x0 x1 x2 x3
noncomputable def f (n : Nat) (a0 a1 : Int) : Ω (Int) := b0 abacusref05_zero.f abacusref05_negative.f abacusref05_infinite.f abacusref05_anyNaN.f (abacusref05_rounded.f n) abacusref05_signed.f abacusref05_ratio.f (l231 n) a0 a1
noncomputable def sg : Sig (Int) := s1 (sInt .u64)
noncomputable def code : Code := (Tryz.f46.body).getD .skip
noncomputable def cfg (c18 c50 c55 : T1) (c101 : T20) (c102 : T21) (c105 : T12) (c106 : T42) : Cfg (Int) := { T := tys, call := orCall 18 (abacusref05_zero.call c18) (orCall 50 (abacusref05_negative.call c50) (orCall 55 (abacusref05_infinite.call c55) (orCall 101 (abacusref05_anyNaN.call c101) (orCall 102 (abacusref05_rounded.call c102) (orCall 105 (abacusref05_signed.call c105) (orCall 106 (abacusref05_ratio.call c106) (noCall))))))) }
noncomputable def cuts : List (Nat × List (Nat × Want)) := [(231, [(0, .keep), (1, .keep), (5, .keep), (15, .keep)])]
noncomputable def s231 (x0 x1 : Int) (x2 x3 : Bool) : ASt := ⟨[(0, .int .u64 x0), (1, .int .u64 x1), (5, .bool x2), (15, .bool x3)], []⟩
noncomputable def A (c18 c50 c55 : T1) (c101 : T20) (c102 : T21) (c105 : T12) (c106 : T42) (n : Nat) (J : Jt (Int)) (q : Nat) (ms : List Nat) : ASt→Ω (Int) := acont (cfg c18 c50 c55 c101 c102 c105 c106) J cuts n q code 1 ms (aend (cfg c18 c50 c55 c101 c102 c105 c106) Tryz.f46.results.toList [false] sg.out)
theorem e0 {c18 c50 c55 c101 c102 c105 c106 n J a0 a1} : afun (cfg c18 c50 c55 c101 c102 c105 c106) J cuts n code Tryz.f46.results.toList [false] [.int .u64 a0, .int .u64 a1] sg.out = b0 c18 c50 c55 c101 c102 c105 c106 (fun y0 y1 y2 y3 => J 231 (A c18 c50 c55 c101 c102 c105 c106 n J 231 []) (s231 y0 y1 y2 y3)) a0 a1 := by kernel_rfl
theorem e231 {c18 c50 c55 c101 c102 c105 c106 n J x0 x1 x2 x3} : A c18 c50 c55 c101 c102 c105 c106 n J 231 [] (s231 x0 x1 x2 x3) = b231 c18 c50 c55 c101 c102 c105 c106 x0 x1 x2 x3 := by kernel_rfl
noncomputable abbrev I (n : Nat) := A abacusref05_zero.f abacusref05_negative.f abacusref05_infinite.f abacusref05_anyNaN.f (abacusref05_rounded.f n) abacusref05_signed.f abacusref05_ratio.f n idJ
theorem q231 (n x0 x1 x2 x3) : I n 231 [] (s231 x0 x1 x2 x3) = l231 n x0 x1 x2 x3 := e231
theorem ok {n  a0 a1 r} (h : f n a0 a1 = some r) : CallD Tryz.prog HW 46 [.int .u64 a0, .int .u64 a1] (sg.enc r) :=
  fun_some hwS Tryz.func46 (by kernel_rfl) (body := code) (by kernel_rfl) tys_ok (c := cfg abacusref05_zero.f abacusref05_negative.f abacusref05_infinite.f abacusref05_anyNaN.f (abacusref05_rounded.f n) abacusref05_signed.f abacusref05_ratio.f) (orCall_ok abacusref05_zero.call_ok (orCall_ok abacusref05_negative.call_ok (orCall_ok abacusref05_infinite.call_ok (orCall_ok abacusref05_anyNaN.call_ok (orCall_ok (abacusref05_rounded.call_ok (n := n)) (orCall_ok abacusref05_signed.call_ok (orCall_ok abacusref05_ratio.call_ok noCall_ok))))))) noW_ok (by kernel_rfl) (by kernel_rfl) (Nat.le_of_ble_eq_true (by kernel_rfl)) (Eq.trans ((e0 (n := n)).trans (Eq.trans (cf2 (congrArg (b0 _ _ _ _ _ _ _) (fu4 (q231 n))) _ _) rfl)) h)
noncomputable def call {α : Type} (g : T10) (ds : List D) (K : List D→Ω α) : Ω α := match ds with
  | [.int .u64 a0, .int .u64 a1] => (g a0 a1).bind fun r => K (sg.enc r)
  | _ => none
theorem call_ok {α : Type} {n : Nat} : COK Tryz.prog HW 46 (call (α := α) (f n)) := fun _ _ _ h => by
  unfold call at h; split at h
  · exact cok h fun _ => ok
  · cases h
end abacusref05_Div
/-! ### abacusref02_Top: function 150 -/
namespace abacusref02_Top
noncomputable def b0 (k57 : T16) (l0 : Λ) : Ω (Int) := k57 l0 (ln l0)
noncomputable def b57 (k57 : T16) (x0 : Λ) (x1 : Int) : Ω (Int) := (if x1 > 0 then (if 0 ≤ (wrap64 (x1 - 1)) then (if (wrap64 (x1 - 1)) < (ln x0) then (if (rd x0 (wrap64 (x1 - 1))) = 0 then k57 x0 (wrap64 (x1 - 1)) else some x1) else none) else none) else some x1)
noncomputable def l57 (n : Nat) : Nat→Λ→Int→Ω (Int)
  | 0, _, _ => none
  | m + 1, x0, x1 => b57 (l57 n m) x0 x1
noncomputable def f (n : Nat) (l0 : Λ) : Ω (Int) := b0 (l57 n n) l0
noncomputable def sg : Sig (Int) := s1 (sInt .i64)
noncomputable def code : Code := (Tryz.f150.body).getD .skip
noncomputable def cfg : Cfg (Int) := { T := tys, call := noCall }
noncomputable def cuts : List (Nat × List (Nat × Want)) := [(57, [(0, .keep), (3, .keep)])]
noncomputable def s57 (x0 : Λ) (x1 : Int) : ASt := ⟨[(0, .ro .u64 x0), (3, .int .i64 x1)], []⟩
noncomputable def A (n : Nat) (J : Jt (Int)) (q : Nat) (ms : List Nat) : ASt→Ω (Int) := acont cfg J cuts n q code 1 ms (aend cfg Tryz.f150.results.toList [false] sg.out)
theorem e0 {n J l0} : afun cfg J cuts n code Tryz.f150.results.toList [false] [.ro .u64 l0] sg.out = b0 (fun y0 y1 => J 57 (A n J 57 [n]) (s57 y0 y1)) l0 := by kernel_rfl
theorem e57 {n J m x0 x1} : A n J 57 [m + 1] (s57 x0 x1) = b57 (fun y0 y1 => J 57 (A n J 57 [m]) (s57 y0 y1)) x0 x1 := by kernel_rfl
noncomputable abbrev I (n : Nat) := A n idJ
theorem q57 (n m) : ∀ x0 x1, I n 57 [m] (s57 x0 x1) = l57 n m x0 x1 := by
  induction m with
  | zero => intros; rfl
  | succ m ih =>
    intros
    exact e57.trans (Eq.trans (cf2 (congrArg b57 (fu2 (ih))) _ _) rfl)
theorem ok {n  l0 r} (h : f n l0 = some r) : CallD Tryz.prog HW 150 [.ro .u64 l0] (sg.enc r) :=
  fun_some hwS Tryz.func150 (by kernel_rfl) (body := code) (by kernel_rfl) tys_ok (c := cfg) noCall_ok noW_ok (by kernel_rfl) (by kernel_rfl) (Nat.le_of_ble_eq_true (by kernel_rfl)) (Eq.trans ((e0 (n := n)).trans (Eq.trans (cf1 (congrArg b0 (fu2 (q57 n n))) _) rfl)) h)
noncomputable def call {α : Type} (g : T0) (ds : List D) (K : List D→Ω α) : Ω α := match ds with
  | [.ro .u64 l0] => (g l0).bind fun r => K (sg.enc r)
  | _ => none
theorem call_ok {α : Type} {n : Nat} : COK Tryz.prog HW 150 (call (α := α) (f n)) := fun _ _ _ h => by
  unfold call at h; split at h
  · exact cok h fun _ => ok
  · cases h
end abacusref02_Top
/-! ### abacusref02_doubled: function 137 -/
namespace abacusref02_doubled
noncomputable def b0 (k245 : T51) (l0 : Λ) (a1 : Int) : Ω (Λ) := (if 0 ≤ (wrap64 ((ln l0) + 1)) then (if (wrap64 ((ln l0) + 1)).toNat ≤ 35184372088832 then k245 l0 a1 0 (List.replicate (wrap64 ((ln l0) + 1)).toNat (0 : Int)) else none) else none)
noncomputable def b245 (k245 : T51) (x0 : Λ) (x1 x2 : Int) (x3 : Λ) : Ω (Λ) := (if x2 < (ln x0) then (if 0 ≤ x2 then (if x2 < (ln x0) then (if 0 ≤ x2 then (if x2 < (ln x3) then (if 0 ≤ x2 then (if x2 < (ln x0) then k245 x0 ((rd x0 x2) / 9223372036854775808) (wrap64 (x2 + 1)) (x3.set (x2 : Int).toNat (Go.bits .or .u64 (IntKind.u64.wrap ((rd x0 x2) * 2)) x1)) else none) else none) else none) else none) else none) else none) else (if 0 ≤ (ln x0) then (if (ln x0) < (ln x3) then some (x3.set ((ln x0) : Int).toNat x1) else none) else none))
noncomputable def l245 (n : Nat) : Nat→Λ→Int→Int→Λ→Ω (Λ)
  | 0, _, _, _, _ => none
  | m + 1, x0, x1, x2, x3 => b245 (l245 n m) x0 x1 x2 x3
noncomputable def f (n : Nat) (l0 : Λ) (a1 : Int) : Ω (Λ) := b0 (l245 n n) l0 a1
noncomputable def sg : Sig (Λ) := s1 (sRow .u64)
noncomputable def code : Code := (Tryz.f137.body).getD .skip
noncomputable def cfg : Cfg (Λ) := { T := tys, call := noCall }
noncomputable def cuts : List (Nat × List (Nat × Want)) := [(245, [(0, .keep), (5, .keep), (6, .keep), (7, .keep)])]
noncomputable def s245 (x0 : Λ) (x1 x2 : Int) (x3 : Λ) : ASt := ⟨[(0, .ro .u64 x0), (5, .own 0), (6, .int .u64 x1), (7, .int .i64 x2)], [.ints 24 .u64 x3]⟩
noncomputable def A (n : Nat) (J : Jt (Λ)) (q : Nat) (ms : List Nat) : ASt→Ω (Λ) := acont cfg J cuts n q code 1 ms (aend cfg Tryz.f137.results.toList [false] sg.out)
theorem e0 {n J l0 a1} : afun cfg J cuts n code Tryz.f137.results.toList [false] [.ro .u64 l0, .int .u64 a1] sg.out = b0 (fun y0 y1 y2 y3 => J 245 (A n J 245 [n]) (s245 y0 y1 y2 y3)) l0 a1 := by kernel_rfl
theorem e245 {n J m x0 x1 x2 x3} : A n J 245 [m + 1] (s245 x0 x1 x2 x3) = b245 (fun y0 y1 y2 y3 => J 245 (A n J 245 [m]) (s245 y0 y1 y2 y3)) x0 x1 x2 x3 := by kernel_rfl
noncomputable abbrev I (n : Nat) := A n idJ
theorem q245 (n m) : ∀ x0 x1 x2 x3, I n 245 [m] (s245 x0 x1 x2 x3) = l245 n m x0 x1 x2 x3 := by
  induction m with
  | zero => intros; rfl
  | succ m ih =>
    intros
    exact e245.trans (Eq.trans (cf4 (congrArg b245 (fu4 (ih))) _ _ _ _) rfl)
theorem ok {n  l0 a1 r} (h : f n l0 a1 = some r) : CallD Tryz.prog HW 137 [.ro .u64 l0, .int .u64 a1] (sg.enc r) :=
  fun_some hwS Tryz.func137 (by kernel_rfl) (body := code) (by kernel_rfl) tys_ok (c := cfg) noCall_ok noW_ok (by kernel_rfl) (by kernel_rfl) (Nat.le_of_ble_eq_true (by kernel_rfl)) (Eq.trans ((e0 (n := n)).trans (Eq.trans (cf2 (congrArg b0 (fu4 (q245 n n))) _ _) rfl)) h)
noncomputable def call {α : Type} (g : T13) (ds : List D) (K : List D→Ω α) : Ω α := match ds with
  | [.ro .u64 l0, .int .u64 a1] => (g l0 a1).bind fun r => K (sg.enc r)
  | _ => none
theorem call_ok {α : Type} {n : Nat} : COK Tryz.prog HW 137 (call (α := α) (f n)) := fun _ _ _ h => by
  unfold call at h; split at h
  · exact cok h fun _ => ok
  · cases h
end abacusref02_doubled
/-! ### abacusref02_Short: function 135 -/
namespace abacusref02_Short
noncomputable def b0 (c150 : T0) (k245 : T51) (l0 : Λ) : Ω (Λ) := ((c150 l0).bind fun t1 => (if 0 ≤ t1 then (if t1.toNat ≤ 35184372088832 then k245 l0 t1 0 (List.replicate t1.toNat (0 : Int)) else none) else none))
noncomputable def b245 (c150 : T0) (k245 : T51) (x0 : Λ) (x1 x2 : Int) (x3 : Λ) : Ω (Λ) := (if x2 < x1 then (if 0 ≤ x2 then (if x2 < (ln x0) then (if 0 ≤ x2 then (if x2 < (ln x3) then k245 x0 x1 (wrap64 (x2 + 1)) (x3.set (x2 : Int).toNat (rd x0 x2)) else none) else none) else none) else none) else some x3)
noncomputable def l245 (n : Nat) : Nat→Λ→Int→Int→Λ→Ω (Λ)
  | 0, _, _, _, _ => none
  | m + 1, x0, x1, x2, x3 => b245 (abacusref02_Top.f n) (l245 n m) x0 x1 x2 x3
noncomputable def f (n : Nat) (l0 : Λ) : Ω (Λ) := b0 (abacusref02_Top.f n) (l245 n n) l0
noncomputable def sg : Sig (Λ) := s1 (sOwn 24 .u64)
noncomputable def code : Code := (Tryz.f135.body).getD .skip
noncomputable def cfg (c150 : T0) : Cfg (Λ) := { T := tys, call := orCall 150 (abacusref02_Top.call c150) (noCall) }
noncomputable def cuts : List (Nat × List (Nat × Want)) := [(245, [(0, .keep), (3, .keep), (4, .keep), (5, .keep)])]
noncomputable def s245 (x0 : Λ) (x1 x2 : Int) (x3 : Λ) : ASt := ⟨[(0, .ro .u64 x0), (3, .int .i64 x1), (4, .own 0), (5, .int .i64 x2)], [.ints 24 .u64 x3]⟩
noncomputable def A (c150 : T0) (n : Nat) (J : Jt (Λ)) (q : Nat) (ms : List Nat) : ASt→Ω (Λ) := acont (cfg c150) J cuts n q code 1 ms (aend (cfg c150) Tryz.f135.results.toList [true] sg.out)
theorem e0 {c150 n J l0} : afun (cfg c150) J cuts n code Tryz.f135.results.toList [true] [.ro .u64 l0] sg.out = b0 c150 (fun y0 y1 y2 y3 => J 245 (A c150 n J 245 [n]) (s245 y0 y1 y2 y3)) l0 := by kernel_rfl
theorem e245 {c150 n J m x0 x1 x2 x3} : A c150 n J 245 [m + 1] (s245 x0 x1 x2 x3) = b245 c150 (fun y0 y1 y2 y3 => J 245 (A c150 n J 245 [m]) (s245 y0 y1 y2 y3)) x0 x1 x2 x3 := by kernel_rfl
noncomputable abbrev I (n : Nat) := A (abacusref02_Top.f n) n idJ
theorem q245 (n m) : ∀ x0 x1 x2 x3, I n 245 [m] (s245 x0 x1 x2 x3) = l245 n m x0 x1 x2 x3 := by
  induction m with
  | zero => intros; rfl
  | succ m ih =>
    intros
    exact e245.trans (Eq.trans (cf4 (congrArg (b245 _) (fu4 (ih))) _ _ _ _) rfl)
theorem ok {n  l0 r} (h : f n l0 = some r) : CallD Tryz.prog HW 135 [.ro .u64 l0] (sg.enc r) :=
  fun_some hwS Tryz.func135 (by kernel_rfl) (body := code) (by kernel_rfl) tys_ok (c := cfg (abacusref02_Top.f n)) (orCall_ok (abacusref02_Top.call_ok (n := n)) noCall_ok) noW_ok (by kernel_rfl) (by kernel_rfl) (Nat.le_of_ble_eq_true (by kernel_rfl)) (Eq.trans ((e0 (n := n)).trans (Eq.trans (cf1 (congrArg (b0 _) (fu4 (q245 n n))) _) rfl)) h)
noncomputable def call {α : Type} (g : T2) (ds : List D) (K : List D→Ω α) : Ω α := match ds with
  | [.ro .u64 l0] => (g l0).bind fun r => K (sg.enc r)
  | _ => none
theorem call_ok {α : Type} {n : Nat} : COK Tryz.prog HW 135 (call (α := α) (f n)) := fun _ _ _ h => by
  unfold call at h; split at h
  · exact cok h fun _ => ok
  · cases h
end abacusref02_Short
/-! ### abacusref02_Order: function 136 -/
namespace abacusref02_Order
noncomputable def b0 (c150 : T0) (k1013 : T52) (l0 l1 : Λ) : Ω (Int) := ((c150 l0).bind fun t1 => ((c150 l1).bind fun t2 => (if t1 < t2 then some (-1) else (if t1 > t2 then some 1 else k1013 l0 l1 (wrap64 (t1 - 1))))))
noncomputable def b1013 (c150 : T0) (k1013 : T52) (x0 x1 : Λ) (x2 : Int) : Ω (Int) := (if x2 ≥ 0 then (if 0 ≤ x2 then (if x2 < (ln x0) then (if 0 ≤ x2 then (if x2 < (ln x1) then (if (rd x0 x2) < (rd x1 x2) then some (-1) else (if 0 ≤ x2 then (if x2 < (ln x0) then (if 0 ≤ x2 then (if x2 < (ln x1) then (if (rd x0 x2) > (rd x1 x2) then some 1 else k1013 x0 x1 (wrap64 (x2 - 1))) else none) else none) else none) else none)) else none) else none) else none) else none) else some 0)
noncomputable def l1013 (n : Nat) : Nat→Λ→Λ→Int→Ω (Int)
  | 0, _, _, _ => none
  | m + 1, x0, x1, x2 => b1013 (abacusref02_Top.f n) (l1013 n m) x0 x1 x2
noncomputable def f (n : Nat) (l0 l1 : Λ) : Ω (Int) := b0 (abacusref02_Top.f n) (l1013 n n) l0 l1
noncomputable def sg : Sig (Int) := s1 (sInt .i64)
noncomputable def code : Code := (Tryz.f136.body).getD .skip
noncomputable def cfg (c150 : T0) : Cfg (Int) := { T := tys, call := orCall 150 (abacusref02_Top.call c150) (noCall) }
noncomputable def cuts : List (Nat × List (Nat × Want)) := [(1013, [(0, .keep), (1, .keep), (7, .keep)])]
noncomputable def s1013 (x0 x1 : Λ) (x2 : Int) : ASt := ⟨[(0, .ro .u64 x0), (1, .ro .u64 x1), (7, .int .i64 x2)], []⟩
noncomputable def A (c150 : T0) (n : Nat) (J : Jt (Int)) (q : Nat) (ms : List Nat) : ASt→Ω (Int) := acont (cfg c150) J cuts n q code 1 ms (aend (cfg c150) Tryz.f136.results.toList [false] sg.out)
theorem e0 {c150 n J l0 l1} : afun (cfg c150) J cuts n code Tryz.f136.results.toList [false] [.ro .u64 l0, .ro .u64 l1] sg.out = b0 c150 (fun y0 y1 y2 => J 1013 (A c150 n J 1013 [n]) (s1013 y0 y1 y2)) l0 l1 := by kernel_rfl
theorem e1013 {c150 n J m x0 x1 x2} : A c150 n J 1013 [m + 1] (s1013 x0 x1 x2) = b1013 c150 (fun y0 y1 y2 => J 1013 (A c150 n J 1013 [m]) (s1013 y0 y1 y2)) x0 x1 x2 := by kernel_rfl
noncomputable abbrev I (n : Nat) := A (abacusref02_Top.f n) n idJ
theorem q1013 (n m) : ∀ x0 x1 x2, I n 1013 [m] (s1013 x0 x1 x2) = l1013 n m x0 x1 x2 := by
  induction m with
  | zero => intros; rfl
  | succ m ih =>
    intros
    exact e1013.trans (Eq.trans (cf3 (congrArg (b1013 _) (fu3 (ih))) _ _ _) rfl)
theorem ok {n  l0 l1 r} (h : f n l0 l1 = some r) : CallD Tryz.prog HW 136 [.ro .u64 l0, .ro .u64 l1] (sg.enc r) :=
  fun_some hwS Tryz.func136 (by kernel_rfl) (body := code) (by kernel_rfl) tys_ok (c := cfg (abacusref02_Top.f n)) (orCall_ok (abacusref02_Top.call_ok (n := n)) noCall_ok) noW_ok (by kernel_rfl) (by kernel_rfl) (Nat.le_of_ble_eq_true (by kernel_rfl)) (Eq.trans ((e0 (n := n)).trans (Eq.trans (cf2 (congrArg (b0 _) (fu3 (q1013 n n))) _ _) rfl)) h)
noncomputable def call {α : Type} (g : T6) (ds : List D) (K : List D→Ω α) : Ω α := match ds with
  | [.ro .u64 l0, .ro .u64 l1] => (g l0 l1).bind fun r => K (sg.enc r)
  | _ => none
theorem call_ok {α : Type} {n : Nat} : COK Tryz.prog HW 136 (call (α := α) (f n)) := fun _ _ _ h => by
  unfold call at h; split at h
  · exact cok h fun _ => ok
  · cases h
end abacusref02_Order
/-! ### abacusref02_takeOff: function 139 -/
namespace abacusref02_takeOff
noncomputable def b0 (k29 : T64) (l0 : Λ) (a1 : Int) (l2 : Λ) : Ω (Λ × Unit) := k29 a1 l2 0 0 l0
noncomputable def b29 (k3663 : Int→Λ→Int→Int→Int→Λ→Ω (Λ × Unit)) (x0 : Int) (x1 : Λ) (x2 x3 : Int) (x4 : Λ) : Ω (Λ × Unit) := (if x3 < (ln x1) then (if 0 ≤ (wrap64 (x0 + x3)) then (if (wrap64 (x0 + x3)) < (ln x4) then (if 0 ≤ x3 then (if x3 < (ln x1) then (if (rd x4 (wrap64 (x0 + x3))) < (rd x1 x3) then k3663 x0 x1 1 x3 (IntKind.u64.wrap ((IntKind.u64.wrap ((rd x4 (wrap64 (x0 + x3))) - (rd x1 x3))) - x2)) x4 else (if (rd x4 (wrap64 (x0 + x3))) = (rd x1 x3) then (if x2 = 1 then k3663 x0 x1 1 x3 (IntKind.u64.wrap ((IntKind.u64.wrap ((rd x4 (wrap64 (x0 + x3))) - (rd x1 x3))) - x2)) x4 else k3663 x0 x1 0 x3 (IntKind.u64.wrap ((IntKind.u64.wrap ((rd x4 (wrap64 (x0 + x3))) - (rd x1 x3))) - x2)) x4) else k3663 x0 x1 0 x3 (IntKind.u64.wrap ((IntKind.u64.wrap ((rd x4 (wrap64 (x0 + x3))) - (rd x1 x3))) - x2)) x4)) else none) else none) else none) else none) else some (x4, ()))
noncomputable def b3663 (k29 : T64) (x0 : Int) (x1 : Λ) (x2 x3 x4 : Int) (x5 : Λ) : Ω (Λ × Unit) := (if 0 ≤ (wrap64 (x0 + x3)) then (if (wrap64 (x0 + x3)) < (ln x5) then k29 x0 x1 x2 (wrap64 (x3 + 1)) (x5.set (wrap64 (x0 + x3) : Int).toNat x4) else none) else none)
noncomputable def l3663 (n : Nat) (k29 : T64) (x0 : Int) (x1 : Λ) (x2 x3 x4 : Int) (x5 : Λ) : Ω (Λ × Unit) := b3663 k29 x0 x1 x2 x3 x4 x5
noncomputable def l29 (n : Nat) : Nat→Int→Λ→Int→Int→Λ→Ω (Λ × Unit)
  | 0, _, _, _, _, _ => none
  | m + 1, x0, x1, x2, x3, x4 => b29 (l3663 n (l29 n m)) x0 x1 x2 x3 x4
noncomputable def f (n : Nat) (l0 : Λ) (a1 : Int) (l2 : Λ) : Ω (Λ × Unit) := b0 (l29 n n) l0 a1 l2
noncomputable def sg : Sig (Unit) := s0
noncomputable def code : Code := (Tryz.f139.body).getD .skip
noncomputable def cfg : Cfg (Λ × Unit) := { T := tys, call := noCall }
noncomputable def cuts : List (Nat × List (Nat × Want)) := [(29, [(0, .keep), (1, .keep), (2, .keep), (6, .keep), (7, .keep)]), (3663, [(0, .keep), (1, .keep), (2, .keep), (6, .keep), (7, .keep), (10, .keep)])]
noncomputable def s29 (x0 : Int) (x1 : Λ) (x2 x3 : Int) (x4 : Λ) : ASt := ⟨[(0, .own 0), (1, .int .i64 x0), (2, .ro .u64 x1), (6, .int .u64 x2), (7, .int .i64 x3)], [.bor .u64 x4]⟩
noncomputable def s3663 (x0 : Int) (x1 : Λ) (x2 x3 x4 : Int) (x5 : Λ) : ASt := ⟨[(0, .own 0), (1, .int .i64 x0), (2, .ro .u64 x1), (6, .int .u64 x2), (7, .int .i64 x3), (10, .int .u64 x4)], [.bor .u64 x5]⟩
noncomputable def A (n : Nat) (J : Jt (Λ × Unit)) (q : Nat) (ms : List Nat) : ASt→Ω (Λ × Unit) := acont cfg J cuts n q code 1 ms (aendw cfg Tryz.f139.results.toList (sgw sg))
theorem e0 (n : Nat) (J : Jt (Λ × Unit)) (l0 : Λ) (a1 : Int) (l2 : Λ) : afunw cfg J cuts n code Tryz.f139.results.toList l0 [.int .i64 a1, .ro .u64 l2] (sgw sg) = b0 (fun y0 y1 y2 y3 y4 => J 29 (A n J 29 [n]) (s29 y0 y1 y2 y3 y4)) l0 a1 l2 := by kernel_rfl
theorem e29 (n : Nat) (J : Jt (Λ × Unit)) (m : Nat) (x0 : Int) (x1 : Λ) (x2 x3 : Int) (x4 : Λ) : A n J 29 [m + 1] (s29 x0 x1 x2 x3 x4) = b29 (fun y0 y1 y2 y3 y4 y5 => J 3663 (A n J 3663 [m]) (s3663 y0 y1 y2 y3 y4 y5)) x0 x1 x2 x3 x4 := by kernel_rfl
theorem e3663 (n : Nat) (J : Jt (Λ × Unit)) (m29 : Nat) (x0 : Int) (x1 : Λ) (x2 x3 x4 : Int) (x5 : Λ) : A n J 3663 [m29] (s3663 x0 x1 x2 x3 x4 x5) = b3663 (fun y0 y1 y2 y3 y4 => J 29 (A n J 29 [m29]) (s29 y0 y1 y2 y3 y4)) x0 x1 x2 x3 x4 x5 := by kernel_rfl
theorem q3663 (n m29 : Nat) (x0 : Int) (x1 : Λ) (x2 x3 x4 : Int) (x5 : Λ) : A n idJ 3663 [m29] (s3663 x0 x1 x2 x3 x4 x5) = l3663 n (fun y0 y1 y2 y3 y4 => A n idJ 29 [m29] (s29 y0 y1 y2 y3 y4)) x0 x1 x2 x3 x4 x5 := (e3663 n idJ m29 x0 x1 x2 x3 x4 x5).trans (rfl)
theorem q29 (n m : Nat) : ∀ (x0 : Int) (x1 : Λ) (x2 x3 : Int) (x4 : Λ), A n idJ 29 [m] (s29 x0 x1 x2 x3 x4) = l29 n m x0 x1 x2 x3 x4 := by
  induction m with
  | zero => intros; rfl
  | succ m ih =>
    intro x0 x1 x2 x3 x4
    refine (e29 n idJ m x0 x1 x2 x3 x4).trans ?_
    exact congrFun (congrFun (congrFun (congrFun (congrFun (congrArg b29 ((funext fun y0 => (funext fun y1 => (funext fun y2 => (funext fun y3 => (funext fun y4 => (funext fun y5 => q3663 n m y0 y1 y2 y3 y4 y5)))))).trans (by rw [show (fun y0 y1 y2 y3 y4 => A n idJ 29 [m] (s29 y0 y1 y2 y3 y4)) = _ from (funext fun y0 => (funext fun y1 => (funext fun y2 => (funext fun y3 => (funext fun y4 => ih y0 y1 y2 y3 y4)))))]))) x0) x1) x2) x3) x4
theorem eq (n : Nat) (l0 : Λ) (a1 : Int) (l2 : Λ) : afunw cfg idJ cuts n code Tryz.f139.results.toList l0 [.int .i64 a1, .ro .u64 l2] (sgw sg) = f n l0 a1 l2 := (e0 n idJ l0 a1 l2).trans (congrFun (congrFun (congrFun (congrArg b0 (funext fun y0 => (funext fun y1 => (funext fun y2 => (funext fun y3 => (funext fun y4 => q29 n n y0 y1 y2 y3 y4)))))) l0) a1) l2)
theorem ok {n : Nat} {l0 : Λ} {a1 : Int} {l2 : Λ} {r : Λ × Unit} (h : f n l0 a1 l2 = some r) : CallW Tryz.prog HW 139 l0 [.int .i64 a1, .ro .u64 l2] r.1 (sg.enc r.2) :=
  funw_some Tryz.func139 (by kernel_rfl) (body := code) (by kernel_rfl) tys_ok (c := cfg) noCall_ok noW_ok (by kernel_rfl) (by kernel_rfl) (Nat.le_of_ble_eq_true (by kernel_rfl)) ((eq n l0 a1 l2).trans h)
noncomputable def call {α : Type} (g : T38) (l0 : Λ) (ds : List D) (K : Λ→List D→Ω α) : Ω α := match ds with
  | [.int .i64 a1, .ro .u64 l2] => (g l0 a1 l2).bind fun r => K r.1 (sg.enc r.2)
  | _ => none
theorem call_ok {α : Type} {n : Nat} (l : Λ) (ds : List D) (K : Λ→List D→Ω α) (r : α) (h : call (f n) l ds K = some r) : ∃ l' rs, K l' rs = some r ∧ CallW Tryz.prog HW 139 l ds l' rs := by
  unfold call at h
  split at h
  · obtain ⟨x, hx, hk⟩ := Option.bind_eq_some_iff.1 h
    exact ⟨_, _, hk, ok (n := n) hx⟩
  · cases h
end abacusref02_takeOff
/-! ### abacusref02_Root: function 107 -/
namespace abacusref02_Root
noncomputable def b0 (c135 : T2) (c136 : T6) (c137 : T13) (c139 : T38) (c150 : T0) (k1013 : T55) (l0 : Λ) : Ω (Λ × Bool × Int) := ((c150 l0).bind fun t1 => (if t1 > 256 then some (([] : Λ), false, 2) else k1013 l0 (wrap64 ((wrap64 (32 * t1)) - 1)) ([] : Λ) ([] : Λ)))
noncomputable def b127 (c135 : T2) (c136 : T6) (c137 : T13) (c139 : T38) (c150 : T0) (x0 x1 : Λ) : Ω (Λ × Bool × Int) := ((c150 x1).bind fun t1 => some (x0, decide (t1 = 0), 0))
noncomputable def b1013 (c135 : T2) (c136 : T6) (c137 : T13) (c139 : T38) (c150 : T0) (k127 : T61) (k1013 : T55) (k2073841 : T65) (x0 : Λ) (x1 : Int) (x2 x3 : Λ) : Ω (Λ × Bool × Int) := (if x1 ≥ 0 then (if 0 ≤ (wrap64 (Int.tdiv x1 32)) then (if (wrap64 (Int.tdiv x1 32)) < (ln x0) then (if 0 ≤ (IntKind.u64.wrap (wrap64 (2 * (Int.tmod x1 32)))) then ((c137 x3 ((Go.bits .and .u64 (shr .u64 (rd x0 (wrap64 (Int.tdiv x1 32))) (IntKind.u64.wrap (wrap64 (2 * (Int.tmod x1 32))))) 3) / 2)).bind fun t1 => ((c137 t1 (Go.bits .and .u64 (Go.bits .and .u64 (shr .u64 (rd x0 (wrap64 (Int.tdiv x1 32))) (IntKind.u64.wrap (wrap64 (2 * (Int.tmod x1 32))))) 3) 1)).bind fun t2 => ((c135 t2).bind fun t3 => ((c137 x2 0).bind fun t4 => ((c137 t4 1).bind fun t5 => ((c135 t5).bind fun t6 => ((c136 t3 t6).bind fun t7 => (if t7 ≥ 0 then k2073841 x0 x1 x2 t3 t6 else ((c137 x2 0).bind fun t8 => ((c135 t8).bind fun t9 => k1013 x0 (wrap64 (x1 - 1)) t9 t3)))))))))) else none) else none) else none) else k127 x2 x3)
noncomputable def b518461 (c135 : T2) (c136 : T6) (c137 : T13) (c139 : T38) (c150 : T0) (k1013 : T55) (x0 : Λ) (x1 : Int) (x2 x3 x4 : Λ) : Ω (Λ × Bool × Int) := (if 0 < (ln x3) then ((c139 x3 0 x4).bind fun t1 => ((c135 t1.1).bind fun t2 => ((c137 x2 1).bind fun t3 => ((c135 t3).bind fun t4 => k1013 x0 (wrap64 (x1 - 1)) t4 t2)))) else none)
noncomputable def b2073841 (c135 : T2) (c136 : T6) (c137 : T13) (c139 : T38) (c150 : T0) (k518461 k2073841 : T65) (x0 : Λ) (x1 : Int) (x2 x3 x4 : Λ) : Ω (Λ × Bool × Int) := (if (ln x4) < (ln x3) then (if x4.length + 1 ≤ 17592186044416 then k2073841 x0 x1 x2 x3 (x4 ++ [0]) else none) else k518461 x0 x1 x2 x3 x4)
noncomputable def l127 (n : Nat) (x0 x1 : Λ) : Ω (Λ × Bool × Int) := b127 (abacusref02_Short.f n) (abacusref02_Order.f n) (abacusref02_doubled.f n) (abacusref02_takeOff.f n) (abacusref02_Top.f n) x0 x1
noncomputable def l518461 (n : Nat) (k1013 : T55) (x0 : Λ) (x1 : Int) (x2 x3 x4 : Λ) : Ω (Λ × Bool × Int) := b518461 (abacusref02_Short.f n) (abacusref02_Order.f n) (abacusref02_doubled.f n) (abacusref02_takeOff.f n) (abacusref02_Top.f n) k1013 x0 x1 x2 x3 x4
noncomputable def l2073841 (n : Nat) (k1013 : T55) : Nat→Λ→Int→Λ→Λ→Λ→Ω (Λ × Bool × Int)
  | 0, _, _, _, _, _ => none
  | m + 1, x0, x1, x2, x3, x4 => b2073841 (abacusref02_Short.f n) (abacusref02_Order.f n) (abacusref02_doubled.f n) (abacusref02_takeOff.f n) (abacusref02_Top.f n) (l518461 n k1013) (l2073841 n k1013 m) x0 x1 x2 x3 x4
noncomputable def l1013 (n : Nat) : Nat→Λ→Int→Λ→Λ→Ω (Λ × Bool × Int)
  | 0, _, _, _, _ => none
  | m + 1, x0, x1, x2, x3 => b1013 (abacusref02_Short.f n) (abacusref02_Order.f n) (abacusref02_doubled.f n) (abacusref02_takeOff.f n) (abacusref02_Top.f n) (l127 n) (l1013 n m) (l2073841 n (l1013 n m) n) x0 x1 x2 x3
noncomputable def f (n : Nat) (l0 : Λ) : Ω (Λ × Bool × Int) := b0 (abacusref02_Short.f n) (abacusref02_Order.f n) (abacusref02_doubled.f n) (abacusref02_takeOff.f n) (abacusref02_Top.f n) (l1013 n n) l0
noncomputable def sg : Sig (Λ × Bool × Int) := s2 (sRow .u64) (s2 (sBool) (s1 (sInt .i64)))
noncomputable def code : Code := (Tryz.f107.body).getD .skip
noncomputable def cfg (c135 : T2) (c136 : T6) (c137 : T13) (c139 : T38) (c150 : T0) : Cfg (Λ × Bool × Int) := { T := tys, call := orCall 135 (abacusref02_Short.call c135) (orCall 136 (abacusref02_Order.call c136) (orCall 137 (abacusref02_doubled.call c137) (orCall 150 (abacusref02_Top.call c150) (noCall)))), wr := [139], callw := orW 139 (abacusref02_takeOff.call c139) (noW) }
noncomputable def cuts : List (Nat × List (Nat × Want)) := [(127, [(6, .keep), (7, .keep)]), (1013, [(0, .keep), (6, .own 24 .u64), (7, .own 24 .u64), (8, .keep)]), (518461, [(0, .keep), (6, .keep), (7, .keep), (8, .keep), (10, .keep)]), (2073841, [(0, .keep), (6, .keep), (7, .keep), (8, .keep), (10, .keep)])]
noncomputable def s127 (x0 x1 : Λ) : ASt := ⟨[(6, .own 0), (7, .own 1)], [.ints 24 .u64 x0, .ints 24 .u64 x1]⟩
noncomputable def s1013 (x0 : Λ) (x1 : Int) (x2 x3 : Λ) : ASt := ⟨[(0, .ro .u64 x0), (6, .own 0), (7, .own 1), (8, .int .i64 x1)], [.ints 24 .u64 x2, .ints 24 .u64 x3]⟩
noncomputable def s518461 (x0 : Λ) (x1 : Int) (x2 x3 x4 : Λ) : ASt := ⟨[(0, .ro .u64 x0), (6, .own 0), (7, .own 1), (8, .int .i64 x1), (10, .own 2)], [.froz .u64 x2, .ints 24 .u64 x3, .ints 24 .u64 x4]⟩
noncomputable def s2073841 (x0 : Λ) (x1 : Int) (x2 x3 x4 : Λ) : ASt := ⟨[(0, .ro .u64 x0), (6, .own 0), (7, .own 1), (8, .int .i64 x1), (10, .own 2)], [.froz .u64 x2, .ints 24 .u64 x3, .ints 24 .u64 x4]⟩
noncomputable def A (c135 : T2) (c136 : T6) (c137 : T13) (c139 : T38) (c150 : T0) (n : Nat) (J : Jt (Λ × Bool × Int)) (q : Nat) (ms : List Nat) : ASt→Ω (Λ × Bool × Int) := acont (cfg c135 c136 c137 c139 c150) J cuts n q code 1 ms (aend (cfg c135 c136 c137 c139 c150) Tryz.f107.results.toList [false, false, false] sg.out)
theorem e0 {c135 c136 c137 c139 c150 n J l0} : afun (cfg c135 c136 c137 c139 c150) J cuts n code Tryz.f107.results.toList [false, false, false] [.ro .u64 l0] sg.out = b0 c135 c136 c137 c139 c150 (fun y0 y1 y2 y3 => J 1013 (A c135 c136 c137 c139 c150 n J 1013 [n]) (s1013 y0 y1 y2 y3)) l0 := by kernel_rfl
theorem e127 {c135 c136 c137 c139 c150 n J x0 x1} : A c135 c136 c137 c139 c150 n J 127 [] (s127 x0 x1) = b127 c135 c136 c137 c139 c150 x0 x1 := by kernel_rfl
theorem e1013 {c135 c136 c137 c139 c150 n J m x0 x1 x2 x3} : A c135 c136 c137 c139 c150 n J 1013 [m + 1] (s1013 x0 x1 x2 x3) = b1013 c135 c136 c137 c139 c150 (fun y0 y1 => J 127 (A c135 c136 c137 c139 c150 n J 127 []) (s127 y0 y1)) (fun y0 y1 y2 y3 => J 1013 (A c135 c136 c137 c139 c150 n J 1013 [m]) (s1013 y0 y1 y2 y3)) (fun y0 y1 y2 y3 y4 => J 2073841 (A c135 c136 c137 c139 c150 n J 2073841 [m, n]) (s2073841 y0 y1 y2 y3 y4)) x0 x1 x2 x3 := by kernel_rfl
theorem e518461 {c135 c136 c137 c139 c150 n J m1013 x0 x1 x2 x3 x4} : A c135 c136 c137 c139 c150 n J 518461 [m1013] (s518461 x0 x1 x2 x3 x4) = b518461 c135 c136 c137 c139 c150 (fun y0 y1 y2 y3 => J 1013 (A c135 c136 c137 c139 c150 n J 1013 [m1013]) (s1013 y0 y1 y2 y3)) x0 x1 x2 x3 x4 := by kernel_rfl
theorem e2073841 {c135 c136 c137 c139 c150 n J m1013 m x0 x1 x2 x3 x4} : A c135 c136 c137 c139 c150 n J 2073841 [m1013, m + 1] (s2073841 x0 x1 x2 x3 x4) = b2073841 c135 c136 c137 c139 c150 (fun y0 y1 y2 y3 y4 => J 518461 (A c135 c136 c137 c139 c150 n J 518461 [m1013]) (s518461 y0 y1 y2 y3 y4)) (fun y0 y1 y2 y3 y4 => J 2073841 (A c135 c136 c137 c139 c150 n J 2073841 [m1013, m]) (s2073841 y0 y1 y2 y3 y4)) x0 x1 x2 x3 x4 := by kernel_rfl
noncomputable abbrev I (n : Nat) := A (abacusref02_Short.f n) (abacusref02_Order.f n) (abacusref02_doubled.f n) (abacusref02_takeOff.f n) (abacusref02_Top.f n) n idJ
theorem q127 (n x0 x1) : I n 127 [] (s127 x0 x1) = l127 n x0 x1 := e127
theorem q518461 (n m1013 x0 x1 x2 x3 x4) : I n 518461 [m1013] (s518461 x0 x1 x2 x3 x4) = l518461 n (fun y0 y1 y2 y3 => I n 1013 [m1013] (s1013 y0 y1 y2 y3)) x0 x1 x2 x3 x4 := e518461
theorem q2073841 (n m1013 m) : ∀ x0 x1 x2 x3 x4, I n 2073841 [m1013, m] (s2073841 x0 x1 x2 x3 x4) = l2073841 n (fun y0 y1 y2 y3 => I n 1013 [m1013] (s1013 y0 y1 y2 y3)) m x0 x1 x2 x3 x4 := by
  induction m with
  | zero => intros; rfl
  | succ m ih =>
    intros
    exact e2073841.trans (Eq.trans (cf5 (congr (congrArg (b2073841 _ _ _ _ _) (fu5 (q518461 n m1013))) (fu5 (ih))) _ _ _ _ _) rfl)
theorem q1013 (n m) : ∀ x0 x1 x2 x3, I n 1013 [m] (s1013 x0 x1 x2 x3) = l1013 n m x0 x1 x2 x3 := by
  induction m with
  | zero => intros; rfl
  | succ m ih =>
    intros
    exact e1013.trans (Eq.trans (cf4 (congr (congr (congrArg (b1013 _ _ _ _ _) (fu2 (q127 n))) (fu4 (ih))) ((fu5 (q2073841 n m n)).trans (by rw [show (fun y0 y1 y2 y3 => I n 1013 [m] (s1013 y0 y1 y2 y3)) = _ from (fu4 (ih))]))) _ _ _ _) rfl)
theorem ok {n  l0 r} (h : f n l0 = some r) : CallD Tryz.prog HW 107 [.ro .u64 l0] (sg.enc r) :=
  fun_some hwS Tryz.func107 (by kernel_rfl) (body := code) (by kernel_rfl) tys_ok (c := cfg (abacusref02_Short.f n) (abacusref02_Order.f n) (abacusref02_doubled.f n) (abacusref02_takeOff.f n) (abacusref02_Top.f n)) (orCall_ok (abacusref02_Short.call_ok (n := n)) (orCall_ok (abacusref02_Order.call_ok (n := n)) (orCall_ok (abacusref02_doubled.call_ok (n := n)) (orCall_ok (abacusref02_Top.call_ok (n := n)) noCall_ok)))) (orW_ok (abacusref02_takeOff.call_ok (n := n)) noW_ok) (by kernel_rfl) (by kernel_rfl) (Nat.le_of_ble_eq_true (by kernel_rfl)) (Eq.trans ((e0 (n := n)).trans (Eq.trans (cf1 (congrArg (b0 _ _ _ _ _) (fu4 (q1013 n n))) _) rfl)) h)
noncomputable def call {α : Type} (g : T30) (ds : List D) (K : List D→Ω α) : Ω α := match ds with
  | [.ro .u64 l0] => (g l0).bind fun r => K (sg.enc r)
  | _ => none
theorem call_ok {α : Type} {n : Nat} : COK Tryz.prog HW 107 (call (α := α) (f n)) := fun _ _ _ h => by
  unfold call at h; split at h
  · exact cok h fun _ => ok
  · cases h
end abacusref02_Root
/-! ### abacusref01_BitLen: function 93 -/
namespace abacusref01_BitLen
noncomputable def b0 (c134 : T0) (k501 : T10) (l0 : Λ) : Ω (Int) := ((c134 l0).bind fun t1 => (if t1 = 0 then some 0 else (if 0 ≤ (wrap64 (t1 - 1)) then (if (wrap64 (t1 - 1)) < (ln l0) then k501 (wrap64 (64 * (wrap64 (t1 - 1)))) (rd l0 (wrap64 (t1 - 1))) else none) else none)))
noncomputable def b501 (c134 : T0) (k501 : T10) (x0 x1 : Int) : Ω (Int) := (if x1 > 0 then k501 (wrap64 (x0 + 1)) (IntKind.u64.wrap (Int.tdiv x1 2)) else some x0)
noncomputable def l501 (n : Nat) : Nat→Int→Int→Ω (Int)
  | 0, _, _ => none
  | m + 1, x0, x1 => b501 (abacusref01_Size.f n) (l501 n m) x0 x1
noncomputable def f (n : Nat) (l0 : Λ) : Ω (Int) := b0 (abacusref01_Size.f n) (l501 n n) l0
noncomputable def sg : Sig (Int) := s1 (sInt .i64)
noncomputable def code : Code := (Tryz.f93.body).getD .skip
noncomputable def cfg (c134 : T0) : Cfg (Int) := { T := tys, call := orCall 134 (abacusref01_Size.call c134) (noCall) }
noncomputable def cuts : List (Nat × List (Nat × Want)) := [(501, [(4, .keep), (5, .keep)])]
noncomputable def s501 (x0 x1 : Int) : ASt := ⟨[(4, .int .i64 x0), (5, .int .u64 x1)], []⟩
noncomputable def A (c134 : T0) (n : Nat) (J : Jt (Int)) (q : Nat) (ms : List Nat) : ASt→Ω (Int) := acont (cfg c134) J cuts n q code 1 ms (aend (cfg c134) Tryz.f93.results.toList [false] sg.out)
theorem e0 {c134 n J l0} : afun (cfg c134) J cuts n code Tryz.f93.results.toList [false] [.ro .u64 l0] sg.out = b0 c134 (fun y0 y1 => J 501 (A c134 n J 501 [n]) (s501 y0 y1)) l0 := by kernel_rfl
theorem e501 {c134 n J m x0 x1} : A c134 n J 501 [m + 1] (s501 x0 x1) = b501 c134 (fun y0 y1 => J 501 (A c134 n J 501 [m]) (s501 y0 y1)) x0 x1 := by kernel_rfl
noncomputable abbrev I (n : Nat) := A (abacusref01_Size.f n) n idJ
theorem q501 (n m) : ∀ x0 x1, I n 501 [m] (s501 x0 x1) = l501 n m x0 x1 := by
  induction m with
  | zero => intros; rfl
  | succ m ih =>
    intros
    exact e501.trans (Eq.trans (cf2 (congrArg (b501 _) (fu2 (ih))) _ _) rfl)
theorem ok {n  l0 r} (h : f n l0 = some r) : CallD Tryz.prog HW 93 [.ro .u64 l0] (sg.enc r) :=
  fun_some hwS Tryz.func93 (by kernel_rfl) (body := code) (by kernel_rfl) tys_ok (c := cfg (abacusref01_Size.f n)) (orCall_ok (abacusref01_Size.call_ok (n := n)) noCall_ok) noW_ok (by kernel_rfl) (by kernel_rfl) (Nat.le_of_ble_eq_true (by kernel_rfl)) (Eq.trans ((e0 (n := n)).trans (Eq.trans (cf1 (congrArg (b0 _) (fu2 (q501 n n))) _) rfl)) h)
noncomputable def call {α : Type} (g : T0) (ds : List D) (K : List D→Ω α) : Ω α := match ds with
  | [.ro .u64 l0] => (g l0).bind fun r => K (sg.enc r)
  | _ => none
theorem call_ok {α : Type} {n : Nat} : COK Tryz.prog HW 93 (call (α := α) (f n)) := fun _ _ _ h => by
  unfold call at h; split at h
  · exact cok h fun _ => ok
  · cases h
end abacusref01_BitLen
/-! ### abacusref01_Bit: function 86 -/
namespace abacusref01_Bit
noncomputable def b0 (k245 : T43) (l0 : Λ) (a1 : Int) : Ω (Int) := (if a1 < 0 then some 0 else (if (wrap64 (Int.tdiv a1 64)) ≥ (ln l0) then some 0 else (if 0 ≤ (wrap64 (Int.tdiv a1 64)) then (if (wrap64 (Int.tdiv a1 64)) < (ln l0) then k245 a1 (rd l0 (wrap64 (Int.tdiv a1 64))) 0 else none) else none)))
noncomputable def b245 (k245 : T43) (x0 x1 x2 : Int) : Ω (Int) := (if x2 < (Int.tmod x0 64) then k245 x0 (IntKind.u64.wrap (Int.tdiv x1 2)) (wrap64 (x2 + 1)) else some (wrap64 (Int.tmod x1 2)))
noncomputable def l245 (n : Nat) : Nat→Int→Int→Int→Ω (Int)
  | 0, _, _, _ => none
  | m + 1, x0, x1, x2 => b245 (l245 n m) x0 x1 x2
noncomputable def f (n : Nat) (l0 : Λ) (a1 : Int) : Ω (Int) := b0 (l245 n n) l0 a1
noncomputable def sg : Sig (Int) := s1 (sInt .i64)
noncomputable def code : Code := (Tryz.f86.body).getD .skip
noncomputable def cfg : Cfg (Int) := { T := tys, call := noCall }
noncomputable def cuts : List (Nat × List (Nat × Want)) := [(245, [(1, .keep), (5, .keep), (6, .keep)])]
noncomputable def s245 (x0 x1 x2 : Int) : ASt := ⟨[(1, .int .i64 x0), (5, .int .u64 x1), (6, .int .i64 x2)], []⟩
noncomputable def A (n : Nat) (J : Jt (Int)) (q : Nat) (ms : List Nat) : ASt→Ω (Int) := acont cfg J cuts n q code 1 ms (aend cfg Tryz.f86.results.toList [false] sg.out)
theorem e0 {n J l0 a1} : afun cfg J cuts n code Tryz.f86.results.toList [false] [.ro .u64 l0, .int .i64 a1] sg.out = b0 (fun y0 y1 y2 => J 245 (A n J 245 [n]) (s245 y0 y1 y2)) l0 a1 := by kernel_rfl
theorem e245 {n J m x0 x1 x2} : A n J 245 [m + 1] (s245 x0 x1 x2) = b245 (fun y0 y1 y2 => J 245 (A n J 245 [m]) (s245 y0 y1 y2)) x0 x1 x2 := by kernel_rfl
noncomputable abbrev I (n : Nat) := A n idJ
theorem q245 (n m) : ∀ x0 x1 x2, I n 245 [m] (s245 x0 x1 x2) = l245 n m x0 x1 x2 := by
  induction m with
  | zero => intros; rfl
  | succ m ih =>
    intros
    exact e245.trans (Eq.trans (cf3 (congrArg b245 (fu3 (ih))) _ _ _) rfl)
theorem ok {n  l0 a1 r} (h : f n l0 a1 = some r) : CallD Tryz.prog HW 86 [.ro .u64 l0, .int .i64 a1] (sg.enc r) :=
  fun_some hwS Tryz.func86 (by kernel_rfl) (body := code) (by kernel_rfl) tys_ok (c := cfg) noCall_ok noW_ok (by kernel_rfl) (by kernel_rfl) (Nat.le_of_ble_eq_true (by kernel_rfl)) (Eq.trans ((e0 (n := n)).trans (Eq.trans (cf2 (congrArg b0 (fu3 (q245 n n))) _ _) rfl)) h)
noncomputable def call {α : Type} (g : T16) (ds : List D) (K : List D→Ω α) : Ω α := match ds with
  | [.ro .u64 l0, .int .i64 a1] => (g l0 a1).bind fun r => K (sg.enc r)
  | _ => none
theorem call_ok {α : Type} {n : Nat} : COK Tryz.prog HW 86 (call (α := α) (f n)) := fun _ _ _ h => by
  unfold call at h; split at h
  · exact cok h fun _ => ok
  · cases h
end abacusref01_Bit
/-! ### abacusref01_Trail: function 95 -/
namespace abacusref01_Trail
noncomputable def b0 (k53 : T16) (l0 : Λ) : Ω (Int) := k53 l0 0
noncomputable def b53 (k53 : T16) (k53845 : T10) (x0 : Λ) (x1 : Int) : Ω (Int) := (if x1 < (ln x0) then (if 0 ≤ x1 then (if x1 < (ln x0) then (if ¬ (rd x0 x1) = 0 then (if 0 ≤ x1 then (if x1 < (ln x0) then k53845 (wrap64 (64 * x1)) (rd x0 x1) else none) else none) else k53 x0 (wrap64 (x1 + 1))) else none) else none) else some 0)
noncomputable def b53845 (k53845 : T10) (x0 x1 : Int) : Ω (Int) := (if (Int.tmod x1 2) = 0 then k53845 (wrap64 (x0 + 1)) (IntKind.u64.wrap (Int.tdiv x1 2)) else some x0)
noncomputable def l53845 (n : Nat) (k53 : T16) : Nat→Int→Int→Ω (Int)
  | 0, _, _ => none
  | m + 1, x0, x1 => b53845 (l53845 n k53 m) x0 x1
noncomputable def l53 (n : Nat) : Nat→Λ→Int→Ω (Int)
  | 0, _, _ => none
  | m + 1, x0, x1 => b53 (l53 n m) (l53845 n (l53 n m) n) x0 x1
noncomputable def f (n : Nat) (l0 : Λ) : Ω (Int) := b0 (l53 n n) l0
noncomputable def sg : Sig (Int) := s1 (sInt .i64)
noncomputable def code : Code := (Tryz.f95.body).getD .skip
noncomputable def cfg : Cfg (Int) := { T := tys, call := noCall }
noncomputable def cuts : List (Nat × List (Nat × Want)) := [(53, [(0, .keep), (3, .keep)]), (53845, [(4, .keep), (5, .keep)])]
noncomputable def s53 (x0 : Λ) (x1 : Int) : ASt := ⟨[(0, .ro .u64 x0), (3, .int .i64 x1)], []⟩
noncomputable def s53845 (x0 x1 : Int) : ASt := ⟨[(4, .int .i64 x0), (5, .int .u64 x1)], []⟩
noncomputable def A (n : Nat) (J : Jt (Int)) (q : Nat) (ms : List Nat) : ASt→Ω (Int) := acont cfg J cuts n q code 1 ms (aend cfg Tryz.f95.results.toList [false] sg.out)
theorem e0 {n J l0} : afun cfg J cuts n code Tryz.f95.results.toList [false] [.ro .u64 l0] sg.out = b0 (fun y0 y1 => J 53 (A n J 53 [n]) (s53 y0 y1)) l0 := by kernel_rfl
theorem e53 {n J m x0 x1} : A n J 53 [m + 1] (s53 x0 x1) = b53 (fun y0 y1 => J 53 (A n J 53 [m]) (s53 y0 y1)) (fun y0 y1 => J 53845 (A n J 53845 [m, n]) (s53845 y0 y1)) x0 x1 := by kernel_rfl
theorem e53845 {n J m53 m x0 x1} : A n J 53845 [m53, m + 1] (s53845 x0 x1) = b53845 (fun y0 y1 => J 53845 (A n J 53845 [m53, m]) (s53845 y0 y1)) x0 x1 := by kernel_rfl
noncomputable abbrev I (n : Nat) := A n idJ
theorem q53845 (n m53 m) : ∀ x0 x1, I n 53845 [m53, m] (s53845 x0 x1) = l53845 n (fun y0 y1 => I n 53 [m53] (s53 y0 y1)) m x0 x1 := by
  induction m with
  | zero => intros; rfl
  | succ m ih =>
    intros
    exact e53845.trans (Eq.trans (cf2 (congrArg b53845 (fu2 (ih))) _ _) rfl)
theorem q53 (n m) : ∀ x0 x1, I n 53 [m] (s53 x0 x1) = l53 n m x0 x1 := by
  induction m with
  | zero => intros; rfl
  | succ m ih =>
    intros
    exact e53.trans (Eq.trans (cf2 (congr (congrArg b53 (fu2 (ih))) ((fu2 (q53845 n m n)).trans (by rw [show (fun y0 y1 => I n 53 [m] (s53 y0 y1)) = _ from (fu2 (ih))]))) _ _) rfl)
theorem ok {n  l0 r} (h : f n l0 = some r) : CallD Tryz.prog HW 95 [.ro .u64 l0] (sg.enc r) :=
  fun_some hwS Tryz.func95 (by kernel_rfl) (body := code) (by kernel_rfl) tys_ok (c := cfg) noCall_ok noW_ok (by kernel_rfl) (by kernel_rfl) (Nat.le_of_ble_eq_true (by kernel_rfl)) (Eq.trans ((e0 (n := n)).trans (Eq.trans (cf1 (congrArg b0 (fu2 (q53 n n))) _) rfl)) h)
noncomputable def call {α : Type} (g : T0) (ds : List D) (K : List D→Ω α) : Ω α := match ds with
  | [.ro .u64 l0] => (g l0).bind fun r => K (sg.enc r)
  | _ => none
theorem call_ok {α : Type} {n : Nat} : COK Tryz.prog HW 95 (call (α := α) (f n)) := fun _ _ _ h => by
  unfold call at h; split at h
  · exact cok h fun _ => ok
  · cases h
end abacusref01_Trail
/-! ### abacusref04_Round: function 39 -/
namespace abacusref04_Round
noncomputable def b0 (c86 : T16) (c92 : T5) (c93 : T0) (c94 : T26) (c95 : T0) (k1023 : T78) (a0 : Bool) (l1 : Λ) (a2 : Int) (a3 : Bool) : Ω (Int × Int) := ((c92 l1).bind fun t1 => (if t1 = true then some (0, 2) else ((c93 l1).bind fun t2 => (if t2 = 0 then ((c94 a0 0 0).bind fun t3 => some (t3, 0)) else (if a2 < (-1048576) then ((c94 a0 0 0).bind fun t4 => some (t4, 0)) else (if a2 > 1048576 then ((c94 a0 2047 0).bind fun t5 => some (t5, 0)) else (if (wrap64 ((wrap64 (t2 - 1)) + a2)) > 1023 then ((c94 a0 2047 0).bind fun t6 => some (t6, 0)) else (if (wrap64 ((wrap64 ((wrap64 (t2 - 1)) + a2)) - 52)) < (-1074) then k1023 a0 l1 a2 a3 (wrap64 ((wrap64 (t2 - 1)) + a2)) (-1074) else k1023 a0 l1 a2 a3 (wrap64 ((wrap64 (t2 - 1)) + a2)) (wrap64 ((wrap64 ((wrap64 (t2 - 1)) + a2)) - 52))))))))))
noncomputable def b1023 (c86 : T16) (c92 : T5) (c93 : T0) (c94 : T26) (c95 : T0) (k32757 : T79) (x0 : Bool) (x1 : Λ) (x2 : Int) (x3 : Bool) (x4 x5 : Int) : Ω (Int × Int) := k32757 x0 x1 x2 x3 x5 0 x4
noncomputable def b4095 (c86 : T16) (c92 : T5) (c93 : T0) (c94 : T26) (c95 : T0) (k32767 : Bool→Int→Int→Ω (Int × Int)) (x0 : Bool) (x1 : Λ) (x2 : Int) (x3 : Bool) (x4 x5 : Int) : Ω (Int × Int) := ((c86 x1 (wrap64 ((wrap64 (x4 - 1)) - x2))).bind fun t1 => ((c95 x1).bind fun t2 => (if t1 = 1 then (if (wrap64 (t2 + x2)) < (wrap64 (x4 - 1)) then k32767 x0 x4 (IntKind.u64.wrap (x5 + 1)) else (if x3 = true then k32767 x0 x4 (IntKind.u64.wrap (x5 + 1)) else (if (Int.tmod x5 2) = 1 then k32767 x0 x4 (IntKind.u64.wrap (x5 + 1)) else k32767 x0 x4 x5))) else k32767 x0 x4 x5)))
noncomputable def b32757 (c86 : T16) (c92 : T5) (c93 : T0) (c94 : T26) (c95 : T0) (k4095 : T78) (k32757 : T79) (x0 : Bool) (x1 : Λ) (x2 : Int) (x3 : Bool) (x4 x5 x6 : Int) : Ω (Int × Int) := (if x6 ≥ x4 then ((c86 x1 (wrap64 (x6 - x2))).bind fun t1 => k32757 x0 x1 x2 x3 x4 (IntKind.u64.wrap ((IntKind.u64.wrap (2 * x5)) + (IntKind.u64.wrap t1))) (wrap64 (x6 - 1))) else k4095 x0 x1 x2 x3 x4 x5)
noncomputable def b32767 (c86 : T16) (c92 : T5) (c93 : T0) (c94 : T26) (c95 : T0) (x0 : Bool) (x1 x2 : Int) : Ω (Int × Int) := (if x2 < 4503599627370496 then ((c94 x0 0 x2).bind fun t1 => some (t1, 0)) else ((c94 x0 (wrap64 ((wrap64 (x1 + 1075)) - 1)) x2).bind fun t2 => some (t2, 0)))
noncomputable def l32767 (n : Nat) (x0 : Bool) (x1 x2 : Int) : Ω (Int × Int) := b32767 (abacusref01_Bit.f n) (abacusref01_Big.f n) (abacusref01_BitLen.f n) abacusref04_put.f (abacusref01_Trail.f n) x0 x1 x2
noncomputable def l4095 (n : Nat) (x0 : Bool) (x1 : Λ) (x2 : Int) (x3 : Bool) (x4 x5 : Int) : Ω (Int × Int) := b4095 (abacusref01_Bit.f n) (abacusref01_Big.f n) (abacusref01_BitLen.f n) abacusref04_put.f (abacusref01_Trail.f n) (l32767 n) x0 x1 x2 x3 x4 x5
noncomputable def l32757 (n : Nat) : Nat→Bool→Λ→Int→Bool→Int→Int→Int→Ω (Int × Int)
  | 0, _, _, _, _, _, _, _ => none
  | m + 1, x0, x1, x2, x3, x4, x5, x6 => b32757 (abacusref01_Bit.f n) (abacusref01_Big.f n) (abacusref01_BitLen.f n) abacusref04_put.f (abacusref01_Trail.f n) (l4095 n) (l32757 n m) x0 x1 x2 x3 x4 x5 x6
noncomputable def l1023 (n : Nat) (x0 : Bool) (x1 : Λ) (x2 : Int) (x3 : Bool) (x4 x5 : Int) : Ω (Int × Int) := b1023 (abacusref01_Bit.f n) (abacusref01_Big.f n) (abacusref01_BitLen.f n) abacusref04_put.f (abacusref01_Trail.f n) (l32757 n n) x0 x1 x2 x3 x4 x5
noncomputable def f (n : Nat) (a0 : Bool) (l1 : Λ) (a2 : Int) (a3 : Bool) : Ω (Int × Int) := b0 (abacusref01_Bit.f n) (abacusref01_Big.f n) (abacusref01_BitLen.f n) abacusref04_put.f (abacusref01_Trail.f n) (l1023 n) a0 l1 a2 a3
noncomputable def sg : Sig (Int × Int) := s2 (sInt .u64) (s1 (sInt .i64))
noncomputable def code : Code := (Tryz.f39.body).getD .skip
noncomputable def cfg (c86 : T16) (c92 : T5) (c93 : T0) (c94 : T26) (c95 : T0) : Cfg (Int × Int) := { T := tys, call := orCall 86 (abacusref01_Bit.call c86) (orCall 92 (abacusref01_Big.call c92) (orCall 93 (abacusref01_BitLen.call c93) (orCall 94 (abacusref04_put.call c94) (orCall 95 (abacusref01_Trail.call c95) (noCall))))) }
noncomputable def cuts : List (Nat × List (Nat × Want)) := [(1023, [(0, .keep), (1, .keep), (2, .keep), (3, .keep), (11, .keep), (12, .keep)]), (4095, [(0, .keep), (1, .keep), (2, .keep), (3, .keep), (12, .keep), (13, .keep)]), (32757, [(0, .keep), (1, .keep), (2, .keep), (3, .keep), (12, .keep), (13, .keep), (14, .keep)]), (32767, [(0, .keep), (12, .keep), (13, .keep)])]
noncomputable def s1023 (x0 : Bool) (x1 : Λ) (x2 : Int) (x3 : Bool) (x4 x5 : Int) : ASt := ⟨[(0, .bool x0), (1, .ro .u64 x1), (2, .int .i64 x2), (3, .bool x3), (11, .int .i64 x4), (12, .int .i64 x5)], []⟩
noncomputable def s4095 (x0 : Bool) (x1 : Λ) (x2 : Int) (x3 : Bool) (x4 x5 : Int) : ASt := ⟨[(0, .bool x0), (1, .ro .u64 x1), (2, .int .i64 x2), (3, .bool x3), (12, .int .i64 x4), (13, .int .u64 x5)], []⟩
noncomputable def s32757 (x0 : Bool) (x1 : Λ) (x2 : Int) (x3 : Bool) (x4 x5 x6 : Int) : ASt := ⟨[(0, .bool x0), (1, .ro .u64 x1), (2, .int .i64 x2), (3, .bool x3), (12, .int .i64 x4), (13, .int .u64 x5), (14, .int .i64 x6)], []⟩
noncomputable def s32767 (x0 : Bool) (x1 x2 : Int) : ASt := ⟨[(0, .bool x0), (12, .int .i64 x1), (13, .int .u64 x2)], []⟩
noncomputable def A (c86 : T16) (c92 : T5) (c93 : T0) (c94 : T26) (c95 : T0) (n : Nat) (J : Jt (Int × Int)) (q : Nat) (ms : List Nat) : ASt→Ω (Int × Int) := acont (cfg c86 c92 c93 c94 c95) J cuts n q code 1 ms (aend (cfg c86 c92 c93 c94 c95) Tryz.f39.results.toList [false, false] sg.out)
theorem e0 {c86 c92 c93 c94 c95 n J a0 l1 a2 a3} : afun (cfg c86 c92 c93 c94 c95) J cuts n code Tryz.f39.results.toList [false, false] [.bool a0, .ro .u64 l1, .int .i64 a2, .bool a3] sg.out = b0 c86 c92 c93 c94 c95 (fun y0 y1 y2 y3 y4 y5 => J 1023 (A c86 c92 c93 c94 c95 n J 1023 []) (s1023 y0 y1 y2 y3 y4 y5)) a0 l1 a2 a3 := by kernel_rfl
theorem e1023 {c86 c92 c93 c94 c95 n J x0 x1 x2 x3 x4 x5} : A c86 c92 c93 c94 c95 n J 1023 [] (s1023 x0 x1 x2 x3 x4 x5) = b1023 c86 c92 c93 c94 c95 (fun y0 y1 y2 y3 y4 y5 y6 => J 32757 (A c86 c92 c93 c94 c95 n J 32757 [n]) (s32757 y0 y1 y2 y3 y4 y5 y6)) x0 x1 x2 x3 x4 x5 := by kernel_rfl
theorem e4095 {c86 c92 c93 c94 c95 n J x0 x1 x2 x3 x4 x5} : A c86 c92 c93 c94 c95 n J 4095 [] (s4095 x0 x1 x2 x3 x4 x5) = b4095 c86 c92 c93 c94 c95 (fun y0 y1 y2 => J 32767 (A c86 c92 c93 c94 c95 n J 32767 []) (s32767 y0 y1 y2)) x0 x1 x2 x3 x4 x5 := by kernel_rfl
theorem e32757 {c86 c92 c93 c94 c95 n J m x0 x1 x2 x3 x4 x5 x6} : A c86 c92 c93 c94 c95 n J 32757 [m + 1] (s32757 x0 x1 x2 x3 x4 x5 x6) = b32757 c86 c92 c93 c94 c95 (fun y0 y1 y2 y3 y4 y5 => J 4095 (A c86 c92 c93 c94 c95 n J 4095 []) (s4095 y0 y1 y2 y3 y4 y5)) (fun y0 y1 y2 y3 y4 y5 y6 => J 32757 (A c86 c92 c93 c94 c95 n J 32757 [m]) (s32757 y0 y1 y2 y3 y4 y5 y6)) x0 x1 x2 x3 x4 x5 x6 := by kernel_rfl
theorem e32767 {c86 c92 c93 c94 c95 n J x0 x1 x2} : A c86 c92 c93 c94 c95 n J 32767 [] (s32767 x0 x1 x2) = b32767 c86 c92 c93 c94 c95 x0 x1 x2 := by kernel_rfl
noncomputable abbrev I (n : Nat) := A (abacusref01_Bit.f n) (abacusref01_Big.f n) (abacusref01_BitLen.f n) abacusref04_put.f (abacusref01_Trail.f n) n idJ
theorem q32767 (n x0 x1 x2) : I n 32767 [] (s32767 x0 x1 x2) = l32767 n x0 x1 x2 := e32767
theorem q4095 (n x0 x1 x2 x3 x4 x5) : I n 4095 [] (s4095 x0 x1 x2 x3 x4 x5) = l4095 n x0 x1 x2 x3 x4 x5 := e4095.trans (Eq.trans (cf6 (congrArg (b4095 _ _ _ _ _) (fu3 (q32767 n))) _ _ _ _ _ _) rfl)
theorem q32757 (n m) : ∀ x0 x1 x2 x3 x4 x5 x6, I n 32757 [m] (s32757 x0 x1 x2 x3 x4 x5 x6) = l32757 n m x0 x1 x2 x3 x4 x5 x6 := by
  induction m with
  | zero => intros; rfl
  | succ m ih =>
    intros
    exact e32757.trans (Eq.trans (cf7 (congr (congrArg (b32757 _ _ _ _ _) (fu6 (q4095 n))) (fu7 (ih))) _ _ _ _ _ _ _) rfl)
theorem q1023 (n x0 x1 x2 x3 x4 x5) : I n 1023 [] (s1023 x0 x1 x2 x3 x4 x5) = l1023 n x0 x1 x2 x3 x4 x5 := e1023.trans (Eq.trans (cf6 (congrArg (b1023 _ _ _ _ _) (fu7 (q32757 n n))) _ _ _ _ _ _) rfl)
theorem ok {n  a0 l1 a2 a3 r} (h : f n a0 l1 a2 a3 = some r) : CallD Tryz.prog HW 39 [.bool a0, .ro .u64 l1, .int .i64 a2, .bool a3] (sg.enc r) :=
  fun_some hwS Tryz.func39 (by kernel_rfl) (body := code) (by kernel_rfl) tys_ok (c := cfg (abacusref01_Bit.f n) (abacusref01_Big.f n) (abacusref01_BitLen.f n) abacusref04_put.f (abacusref01_Trail.f n)) (orCall_ok (abacusref01_Bit.call_ok (n := n)) (orCall_ok (abacusref01_Big.call_ok (n := n)) (orCall_ok (abacusref01_BitLen.call_ok (n := n)) (orCall_ok abacusref04_put.call_ok (orCall_ok (abacusref01_Trail.call_ok (n := n)) noCall_ok))))) noW_ok (by kernel_rfl) (by kernel_rfl) (Nat.le_of_ble_eq_true (by kernel_rfl)) (Eq.trans ((e0 (n := n)).trans (Eq.trans (cf4 (congrArg (b0 _ _ _ _ _) (fu6 (q1023 n))) _ _ _ _) rfl)) h)
noncomputable def call {α : Type} (g : T22) (ds : List D) (K : List D→Ω α) : Ω α := match ds with
  | [.bool a0, .ro .u64 l1, .int .i64 a2, .bool a3] => (g a0 l1 a2 a3).bind fun r => K (sg.enc r)
  | _ => none
theorem call_ok {α : Type} {n : Nat} : COK Tryz.prog HW 39 (call (α := α) (f n)) := fun _ _ _ h => by
  unfold call at h; split at h
  · exact cok h fun _ => ok
  · cases h
end abacusref04_Round
/-! ### abacusref05_Sqrt: function 47 -/
namespace abacusref05_Sqrt
noncomputable def b0 (c16 c18 : T1) (c39 : T22) (c50 : T1) (c51 : T11) (c55 : T1) (c79 : T13) (c107 : T30) (k63 : T37) (a0 : Int) : Ω (Int) := ((c16 a0).bind fun t1 => (if t1 = true then some 9221120237041090560 else ((c18 a0).bind fun t2 => (if t2 = true then some a0 else ((c50 a0).bind fun t3 => (if t3 = true then some 9221120237041090560 else ((c55 a0).bind fun t4 => (if t4 = true then some a0 else ((c51 a0).bind fun t5 => (if ¬ (Int.tmod t5.2.2.2 2) = 0 then k63 121 t5.1 t5.2.1 t5.2.2.1 t5.2.2.2 else k63 120 t5.1 t5.2.1 t5.2.2.1 t5.2.2.2))))))))))
noncomputable def b63 (c16 c18 : T1) (c39 : T22) (c50 : T1) (c51 : T11) (c55 : T1) (c79 : T13) (c107 : T30) (x0 : Int) (x1 : Bool) (x2 x3 : Λ) (x4 : Int) : Ω (Int) := ((c79 x2 x0).bind fun t1 => ((c107 t1).bind fun t2 => ((c39 false t2.1 (wrap64 (Int.tdiv (wrap64 (x4 - x0)) 2)) (!t2.2.1)).bind fun t3 => some t3.1)))
noncomputable def l63 (n : Nat) (x0 : Int) (x1 : Bool) (x2 x3 : Λ) (x4 : Int) : Ω (Int) := b63 abacusref04_IsNaN.f abacusref05_zero.f (abacusref04_Round.f n) abacusref05_negative.f abacusref05_of.f abacusref05_infinite.f (abacusref01_Lift.f n) (abacusref02_Root.f n) x0 x1 x2 x3 x4
noncomputable def f (n : Nat) (a0 : Int) : Ω (Int) := b0 abacusref04_IsNaN.f abacusref05_zero.f (abacusref04_Round.f n) abacusref05_negative.f abacusref05_of.f abacusref05_infinite.f (abacusref01_Lift.f n) (abacusref02_Root.f n) (l63 n) a0
noncomputable def sg : Sig (Int) := s1 (sInt .u64)
noncomputable def code : Code := (Tryz.f47.body).getD .skip
noncomputable def cfg (c16 c18 : T1) (c39 : T22) (c50 : T1) (c51 : T11) (c55 : T1) (c79 : T13) (c107 : T30) : Cfg (Int) := { T := tys, call := orCall 16 (abacusref04_IsNaN.call c16) (orCall 18 (abacusref05_zero.call c18) (orCall 39 (abacusref04_Round.call c39) (orCall 50 (abacusref05_negative.call c50) (orCall 51 (abacusref05_of.call c51) (orCall 55 (abacusref05_infinite.call c55) (orCall 79 (abacusref01_Lift.call c79) (orCall 107 (abacusref02_Root.call c107) (noCall)))))))) }
noncomputable def cuts : List (Nat × List (Nat × Want)) := [(63, [(3, .keep), (4, .keep)])]
noncomputable def s63 (x0 : Int) (x1 : Bool) (x2 x3 : Λ) (x4 : Int) : ASt := ⟨[(3, .ptr 0 0), (4, .int .i64 x0)], [.cells 60 [.bool x1, .ro .u64 x2, .ro .u64 x3, .int .i64 x4]]⟩
noncomputable def A (c16 c18 : T1) (c39 : T22) (c50 : T1) (c51 : T11) (c55 : T1) (c79 : T13) (c107 : T30) (n : Nat) (J : Jt (Int)) (q : Nat) (ms : List Nat) : ASt→Ω (Int) := acont (cfg c16 c18 c39 c50 c51 c55 c79 c107) J cuts n q code 1 ms (aend (cfg c16 c18 c39 c50 c51 c55 c79 c107) Tryz.f47.results.toList [false] sg.out)
theorem e0 {c16 c18 c39 c50 c51 c55 c79 c107 n J a0} : afun (cfg c16 c18 c39 c50 c51 c55 c79 c107) J cuts n code Tryz.f47.results.toList [false] [.int .u64 a0] sg.out = b0 c16 c18 c39 c50 c51 c55 c79 c107 (fun y0 y1 y2 y3 y4 => J 63 (A c16 c18 c39 c50 c51 c55 c79 c107 n J 63 []) (s63 y0 y1 y2 y3 y4)) a0 := by kernel_rfl
theorem e63 {c16 c18 c39 c50 c51 c55 c79 c107 n J x0 x1 x2 x3 x4} : A c16 c18 c39 c50 c51 c55 c79 c107 n J 63 [] (s63 x0 x1 x2 x3 x4) = b63 c16 c18 c39 c50 c51 c55 c79 c107 x0 x1 x2 x3 x4 := by kernel_rfl
noncomputable abbrev I (n : Nat) := A abacusref04_IsNaN.f abacusref05_zero.f (abacusref04_Round.f n) abacusref05_negative.f abacusref05_of.f abacusref05_infinite.f (abacusref01_Lift.f n) (abacusref02_Root.f n) n idJ
theorem q63 (n x0 x1 x2 x3 x4) : I n 63 [] (s63 x0 x1 x2 x3 x4) = l63 n x0 x1 x2 x3 x4 := e63
theorem ok {n  a0 r} (h : f n a0 = some r) : CallD Tryz.prog HW 47 [.int .u64 a0] (sg.enc r) :=
  fun_some hwS Tryz.func47 (by kernel_rfl) (body := code) (by kernel_rfl) tys_ok (c := cfg abacusref04_IsNaN.f abacusref05_zero.f (abacusref04_Round.f n) abacusref05_negative.f abacusref05_of.f abacusref05_infinite.f (abacusref01_Lift.f n) (abacusref02_Root.f n)) (orCall_ok abacusref04_IsNaN.call_ok (orCall_ok abacusref05_zero.call_ok (orCall_ok (abacusref04_Round.call_ok (n := n)) (orCall_ok abacusref05_negative.call_ok (orCall_ok abacusref05_of.call_ok (orCall_ok abacusref05_infinite.call_ok (orCall_ok (abacusref01_Lift.call_ok (n := n)) (orCall_ok (abacusref02_Root.call_ok (n := n)) noCall_ok)))))))) noW_ok (by kernel_rfl) (by kernel_rfl) (Nat.le_of_ble_eq_true (by kernel_rfl)) (Eq.trans ((e0 (n := n)).trans (Eq.trans (cf1 (congrArg (b0 _ _ _ _ _ _ _ _) (fu5 (q63 n))) _) rfl)) h)
noncomputable def call {α : Type} (g : T4) (ds : List D) (K : List D→Ω α) : Ω α := match ds with
  | [.int .u64 a0] => (g a0).bind fun r => K (sg.enc r)
  | _ => none
theorem call_ok {α : Type} {n : Nat} : COK Tryz.prog HW 47 (call (α := α) (f n)) := fun _ _ _ h => by
  unfold call at h; split at h
  · exact cok h fun _ => ok
  · cases h
end abacusref05_Sqrt
/-! ### abacusref05_Fma: function 48 -/
namespace abacusref05_Fma
noncomputable def b0 (c16 : T1) (c43 c45 : T10) (c50 : T1) (c51 : T11) (c53 : T9) (c55 : T1) (c101 : T20) (c102 : T21) (c103 : T9) (c105 : T12) (k29 : Int→Int→Int→Bool→Ω (Int)) (a0 a1 a2 : Int) : Ω (Int) := ((c101 a0 a1).bind fun t1 => (if t1 = true then some 9221120237041090560 else ((c16 a2).bind fun t2 => (if t2 = true then some 9221120237041090560 else ((c55 a0).bind fun t3 => (if t3 = true then k29 a0 a1 a2 true else ((c55 a1).bind fun t4 => (if t4 = true then k29 a0 a1 a2 true else ((c55 a2).bind fun t5 => k29 a0 a1 a2 t5)))))))))
noncomputable def b15 (c16 : T1) (c43 c45 : T10) (c50 : T1) (c51 : T11) (c53 : T9) (c55 : T1) (c101 : T20) (c102 : T21) (c103 : T9) (c105 : T12) (x0 x1 x2 : Int) : Ω (Int) := ((c51 x0).bind fun t1 => ((c51 x1).bind fun t2 => ((c53 t1.1 t1.2.1 t1.2.2.1 t1.2.2.2 t2.1 t2.2.1 t2.2.2.1 t2.2.2.2).bind fun t3 => ((c51 x2).bind fun t4 => ((c103 t3.1 t3.2.1 t3.2.2.1 t3.2.2.2 t4.1 t4.2.1 t4.2.2.1 t4.2.2.2).bind fun t5 => ((c102 t5.1 t5.2.1 t5.2.2.1 t5.2.2.2).bind fun t6 => some t6))))))
noncomputable def b29 (c16 : T1) (c43 c45 : T10) (c50 : T1) (c51 : T11) (c53 : T9) (c55 : T1) (c101 : T20) (c102 : T21) (c103 : T9) (c105 : T12) (k15 : T43) (k235 : T10) (x0 x1 x2 : Int) (x3 : Bool) : Ω (Int) := (if x3 = true then ((c50 x0).bind fun t1 => ((c50 x1).bind fun t2 => ((c105 (t1 != t2) 0).bind fun t3 => ((c55 x0).bind fun t4 => (if t4 = true then ((c45 x0 x1).bind fun t6 => k235 x2 t6) else ((c55 x1).bind fun t5 => (if t5 = true then ((c45 x0 x1).bind fun t7 => k235 x2 t7) else k235 x2 t3))))))) else k15 x0 x1 x2)
noncomputable def b235 (c16 : T1) (c43 c45 : T10) (c50 : T1) (c51 : T11) (c53 : T9) (c55 : T1) (c101 : T20) (c102 : T21) (c103 : T9) (c105 : T12) (x0 x1 : Int) : Ω (Int) := ((c43 x1 x0).bind fun t1 => some t1)
noncomputable def l15 (n : Nat) (x0 x1 x2 : Int) : Ω (Int) := b15 abacusref04_IsNaN.f (abacusref05_Add.f n) (abacusref05_Mul.f n) abacusref05_negative.f abacusref05_of.f (abacusref05_product.f n) abacusref05_infinite.f abacusref05_anyNaN.f (abacusref05_rounded.f n) (abacusref05_sum.f n) abacusref05_signed.f x0 x1 x2
noncomputable def l235 (n : Nat) (x0 x1 : Int) : Ω (Int) := b235 abacusref04_IsNaN.f (abacusref05_Add.f n) (abacusref05_Mul.f n) abacusref05_negative.f abacusref05_of.f (abacusref05_product.f n) abacusref05_infinite.f abacusref05_anyNaN.f (abacusref05_rounded.f n) (abacusref05_sum.f n) abacusref05_signed.f x0 x1
noncomputable def l29 (n : Nat) (x0 x1 x2 : Int) (x3 : Bool) : Ω (Int) := b29 abacusref04_IsNaN.f (abacusref05_Add.f n) (abacusref05_Mul.f n) abacusref05_negative.f abacusref05_of.f (abacusref05_product.f n) abacusref05_infinite.f abacusref05_anyNaN.f (abacusref05_rounded.f n) (abacusref05_sum.f n) abacusref05_signed.f (l15 n) (l235 n) x0 x1 x2 x3
noncomputable def f (n : Nat) (a0 a1 a2 : Int) : Ω (Int) := b0 abacusref04_IsNaN.f (abacusref05_Add.f n) (abacusref05_Mul.f n) abacusref05_negative.f abacusref05_of.f (abacusref05_product.f n) abacusref05_infinite.f abacusref05_anyNaN.f (abacusref05_rounded.f n) (abacusref05_sum.f n) abacusref05_signed.f (l29 n) a0 a1 a2
noncomputable def sg : Sig (Int) := s1 (sInt .u64)
noncomputable def code : Code := (Tryz.f48.body).getD .skip
noncomputable def cfg (c16 : T1) (c43 c45 : T10) (c50 : T1) (c51 : T11) (c53 : T9) (c55 : T1) (c101 : T20) (c102 : T21) (c103 : T9) (c105 : T12) : Cfg (Int) := { T := tys, call := orCall 16 (abacusref04_IsNaN.call c16) (orCall 43 (abacusref05_Add.call c43) (orCall 45 (abacusref05_Mul.call c45) (orCall 50 (abacusref05_negative.call c50) (orCall 51 (abacusref05_of.call c51) (orCall 53 (abacusref05_product.call c53) (orCall 55 (abacusref05_infinite.call c55) (orCall 101 (abacusref05_anyNaN.call c101) (orCall 102 (abacusref05_rounded.call c102) (orCall 103 (abacusref05_sum.call c103) (orCall 105 (abacusref05_signed.call c105) (noCall))))))))))) }
noncomputable def cuts : List (Nat × List (Nat × Want)) := [(15, [(0, .keep), (1, .keep), (2, .keep)]), (29, [(0, .keep), (1, .keep), (2, .keep), (24, .keep)]), (235, [(2, .keep), (7, .keep)])]
noncomputable def s15 (x0 x1 x2 : Int) : ASt := ⟨[(0, .int .u64 x0), (1, .int .u64 x1), (2, .int .u64 x2)], []⟩
noncomputable def s29 (x0 x1 x2 : Int) (x3 : Bool) : ASt := ⟨[(0, .int .u64 x0), (1, .int .u64 x1), (2, .int .u64 x2), (24, .bool x3)], []⟩
noncomputable def s235 (x0 x1 : Int) : ASt := ⟨[(2, .int .u64 x0), (7, .int .u64 x1)], []⟩
noncomputable def A (c16 : T1) (c43 c45 : T10) (c50 : T1) (c51 : T11) (c53 : T9) (c55 : T1) (c101 : T20) (c102 : T21) (c103 : T9) (c105 : T12) (n : Nat) (J : Jt (Int)) (q : Nat) (ms : List Nat) : ASt→Ω (Int) := acont (cfg c16 c43 c45 c50 c51 c53 c55 c101 c102 c103 c105) J cuts n q code 1 ms (aend (cfg c16 c43 c45 c50 c51 c53 c55 c101 c102 c103 c105) Tryz.f48.results.toList [false] sg.out)
theorem e0 {c16 c43 c45 c50 c51 c53 c55 c101 c102 c103 c105 n J a0 a1 a2} : afun (cfg c16 c43 c45 c50 c51 c53 c55 c101 c102 c103 c105) J cuts n code Tryz.f48.results.toList [false] [.int .u64 a0, .int .u64 a1, .int .u64 a2] sg.out = b0 c16 c43 c45 c50 c51 c53 c55 c101 c102 c103 c105 (fun y0 y1 y2 y3 => J 29 (A c16 c43 c45 c50 c51 c53 c55 c101 c102 c103 c105 n J 29 []) (s29 y0 y1 y2 y3)) a0 a1 a2 := by kernel_rfl
theorem e15 {c16 c43 c45 c50 c51 c53 c55 c101 c102 c103 c105 n J x0 x1 x2} : A c16 c43 c45 c50 c51 c53 c55 c101 c102 c103 c105 n J 15 [] (s15 x0 x1 x2) = b15 c16 c43 c45 c50 c51 c53 c55 c101 c102 c103 c105 x0 x1 x2 := by kernel_rfl
theorem e29 {c16 c43 c45 c50 c51 c53 c55 c101 c102 c103 c105 n J x0 x1 x2 x3} : A c16 c43 c45 c50 c51 c53 c55 c101 c102 c103 c105 n J 29 [] (s29 x0 x1 x2 x3) = b29 c16 c43 c45 c50 c51 c53 c55 c101 c102 c103 c105 (fun y0 y1 y2 => J 15 (A c16 c43 c45 c50 c51 c53 c55 c101 c102 c103 c105 n J 15 []) (s15 y0 y1 y2)) (fun y0 y1 => J 235 (A c16 c43 c45 c50 c51 c53 c55 c101 c102 c103 c105 n J 235 []) (s235 y0 y1)) x0 x1 x2 x3 := by kernel_rfl
theorem e235 {c16 c43 c45 c50 c51 c53 c55 c101 c102 c103 c105 n J x0 x1} : A c16 c43 c45 c50 c51 c53 c55 c101 c102 c103 c105 n J 235 [] (s235 x0 x1) = b235 c16 c43 c45 c50 c51 c53 c55 c101 c102 c103 c105 x0 x1 := by kernel_rfl
noncomputable abbrev I (n : Nat) := A abacusref04_IsNaN.f (abacusref05_Add.f n) (abacusref05_Mul.f n) abacusref05_negative.f abacusref05_of.f (abacusref05_product.f n) abacusref05_infinite.f abacusref05_anyNaN.f (abacusref05_rounded.f n) (abacusref05_sum.f n) abacusref05_signed.f n idJ
theorem q15 (n x0 x1 x2) : I n 15 [] (s15 x0 x1 x2) = l15 n x0 x1 x2 := e15
theorem q235 (n x0 x1) : I n 235 [] (s235 x0 x1) = l235 n x0 x1 := e235
theorem q29 (n x0 x1 x2 x3) : I n 29 [] (s29 x0 x1 x2 x3) = l29 n x0 x1 x2 x3 := e29.trans (Eq.trans (cf4 (congr (congrArg (b29 _ _ _ _ _ _ _ _ _ _ _) (fu3 (q15 n))) (fu2 (q235 n))) _ _ _ _) rfl)
theorem ok {n  a0 a1 a2 r} (h : f n a0 a1 a2 = some r) : CallD Tryz.prog HW 48 [.int .u64 a0, .int .u64 a1, .int .u64 a2] (sg.enc r) :=
  fun_some hwS Tryz.func48 (by kernel_rfl) (body := code) (by kernel_rfl) tys_ok (c := cfg abacusref04_IsNaN.f (abacusref05_Add.f n) (abacusref05_Mul.f n) abacusref05_negative.f abacusref05_of.f (abacusref05_product.f n) abacusref05_infinite.f abacusref05_anyNaN.f (abacusref05_rounded.f n) (abacusref05_sum.f n) abacusref05_signed.f) (orCall_ok abacusref04_IsNaN.call_ok (orCall_ok (abacusref05_Add.call_ok (n := n)) (orCall_ok (abacusref05_Mul.call_ok (n := n)) (orCall_ok abacusref05_negative.call_ok (orCall_ok abacusref05_of.call_ok (orCall_ok (abacusref05_product.call_ok (n := n)) (orCall_ok abacusref05_infinite.call_ok (orCall_ok abacusref05_anyNaN.call_ok (orCall_ok (abacusref05_rounded.call_ok (n := n)) (orCall_ok (abacusref05_sum.call_ok (n := n)) (orCall_ok abacusref05_signed.call_ok noCall_ok))))))))))) noW_ok (by kernel_rfl) (by kernel_rfl) (Nat.le_of_ble_eq_true (by kernel_rfl)) (Eq.trans ((e0 (n := n)).trans (Eq.trans (cf3 (congrArg (b0 _ _ _ _ _ _ _ _ _ _ _) (fu4 (q29 n))) _ _ _) rfl)) h)
noncomputable def call {α : Type} (g : T43) (ds : List D) (K : List D→Ω α) : Ω α := match ds with
  | [.int .u64 a0, .int .u64 a1, .int .u64 a2] => (g a0 a1 a2).bind fun r => K (sg.enc r)
  | _ => none
theorem call_ok {α : Type} {n : Nat} : COK Tryz.prog HW 48 (call (α := α) (f n)) := fun _ _ _ h => by
  unfold call at h; split at h
  · exact cok h fun _ => ok
  · cases h
end abacusref05_Fma
/-! ### abacusref05_answer: function 15 -/
namespace abacusref05_answer
noncomputable def b0 (c43 c44 c45 c46 : T10) (c47 : T4) (c48 : T43) (a0 a1 a2 a3 : Int) : Ω (Int) := (if a0 = 1 then ((c43 a1 a2).bind fun t1 => some t1) else (if a0 = 2 then ((c44 a1 a2).bind fun t2 => some t2) else (if a0 = 3 then ((c45 a1 a2).bind fun t3 => some t3) else (if a0 = 4 then ((c46 a1 a2).bind fun t4 => some t4) else (if a0 = 5 then ((c47 a1).bind fun t5 => some t5) else ((c48 a1 a2 a3).bind fun t6 => some t6))))))
noncomputable def f (n : Nat) (a0 a1 a2 a3 : Int) : Ω (Int) := b0 (abacusref05_Add.f n) (abacusref05_Sub.f n) (abacusref05_Mul.f n) (abacusref05_Div.f n) (abacusref05_Sqrt.f n) (abacusref05_Fma.f n) a0 a1 a2 a3
noncomputable def sg : Sig (Int) := s1 (sInt .u64)
noncomputable def code : Code := (Tryz.f15.body).getD .skip
noncomputable def cfg (c43 c44 c45 c46 : T10) (c47 : T4) (c48 : T43) : Cfg (Int) := { T := tys, call := orCall 43 (abacusref05_Add.call c43) (orCall 44 (abacusref05_Sub.call c44) (orCall 45 (abacusref05_Mul.call c45) (orCall 46 (abacusref05_Div.call c46) (orCall 47 (abacusref05_Sqrt.call c47) (orCall 48 (abacusref05_Fma.call c48) (noCall)))))) }
noncomputable def cuts : List (Nat × List (Nat × Want)) := []
theorem e0 {c43 c44 c45 c46 c47 c48 n J a0 a1 a2 a3} : afun (cfg c43 c44 c45 c46 c47 c48) J cuts n code Tryz.f15.results.toList [false] [.int .i64 a0, .int .u64 a1, .int .u64 a2, .int .u64 a3] sg.out = b0 c43 c44 c45 c46 c47 c48 a0 a1 a2 a3 := by kernel_rfl
theorem ok {n  a0 a1 a2 a3 r} (h : f n a0 a1 a2 a3 = some r) : CallD Tryz.prog HW 15 [.int .i64 a0, .int .u64 a1, .int .u64 a2, .int .u64 a3] (sg.enc r) :=
  fun_some hwS Tryz.func15 (by kernel_rfl) (body := code) (by kernel_rfl) tys_ok (c := cfg (abacusref05_Add.f n) (abacusref05_Sub.f n) (abacusref05_Mul.f n) (abacusref05_Div.f n) (abacusref05_Sqrt.f n) (abacusref05_Fma.f n)) (orCall_ok (abacusref05_Add.call_ok (n := n)) (orCall_ok (abacusref05_Sub.call_ok (n := n)) (orCall_ok (abacusref05_Mul.call_ok (n := n)) (orCall_ok (abacusref05_Div.call_ok (n := n)) (orCall_ok (abacusref05_Sqrt.call_ok (n := n)) (orCall_ok (abacusref05_Fma.call_ok (n := n)) noCall_ok)))))) noW_ok (by kernel_rfl) (by kernel_rfl) (Nat.le_of_ble_eq_true (by kernel_rfl)) (Eq.trans ((e0 (n := n))) h)
noncomputable def call {α : Type} (g : T35) (ds : List D) (K : List D→Ω α) : Ω α := match ds with
  | [.int .i64 a0, .int .u64 a1, .int .u64 a2, .int .u64 a3] => (g a0 a1 a2 a3).bind fun r => K (sg.enc r)
  | _ => none
theorem call_ok {α : Type} {n : Nat} : COK Tryz.prog HW 15 (call (α := α) (f n)) := fun _ _ _ h => by
  unfold call at h; split at h
  · exact cok h fun _ => ok
  · cases h
end abacusref05_answer
/-! ### abacusref04_Finite: function 17 -/
namespace abacusref04_Finite
noncomputable def b0 (c49 : T4) (a0 : Int) : Ω (Bool) := ((c49 a0).bind fun t1 => some (decide (t1 < 9218868437227405312)))
noncomputable def f (a0 : Int) : Ω (Bool) := b0 abacusref04_Abs.f a0
noncomputable def sg : Sig (Bool) := s1 (sBool)
noncomputable def code : Code := (Tryz.f17.body).getD .skip
noncomputable def cfg (c49 : T4) : Cfg (Bool) := { T := tys, call := orCall 49 (abacusref04_Abs.call c49) (noCall) }
noncomputable def cuts : List (Nat × List (Nat × Want)) := []
theorem e0 {c49 n J a0} : afun (cfg c49) J cuts n code Tryz.f17.results.toList [false] [.int .u64 a0] sg.out = b0 c49 a0 := by kernel_rfl
theorem ok {a0 r} (h : f a0 = some r) : CallD Tryz.prog HW 17 [.int .u64 a0] (sg.enc r) :=
  fun_some hwS Tryz.func17 (by kernel_rfl) (body := code) (by kernel_rfl) tys_ok (c := cfg abacusref04_Abs.f) (orCall_ok abacusref04_Abs.call_ok noCall_ok) noW_ok (by kernel_rfl) (by kernel_rfl) (Nat.le_of_ble_eq_true (by kernel_rfl)) (Eq.trans ((e0 (n := 0))) h)
noncomputable def call {α : Type} (g : T1) (ds : List D) (K : List D→Ω α) : Ω α := match ds with
  | [.int .u64 a0] => (g a0).bind fun r => K (sg.enc r)
  | _ => none
theorem call_ok {α : Type} : COK Tryz.prog HW 17 (call (α := α) f) := fun _ _ _ h => by
  unfold call at h; split at h
  · exact cok h fun _ => ok
  · cases h
end abacusref04_Finite
/-! ### abacusref05_result: function 54 -/
namespace abacusref05_result
noncomputable def b0 (c51 : T11) (c53 c103 : T9) (c104 : T4) (c106 : T42) (a0 a1 a2 a3 : Int) : Ω (Bool × Λ × Λ × Int) := (if a0 = 1 then ((c51 a1).bind fun t1 => ((c51 a2).bind fun t2 => ((c103 t1.1 t1.2.1 t1.2.2.1 t1.2.2.2 t2.1 t2.2.1 t2.2.2.1 t2.2.2.2).bind fun t3 => some (t3.1, t3.2.1, t3.2.2.1, t3.2.2.2)))) else (if a0 = 2 then ((c51 a1).bind fun t4 => ((c104 a2).bind fun t5 => ((c51 t5).bind fun t6 => ((c103 t4.1 t4.2.1 t4.2.2.1 t4.2.2.2 t6.1 t6.2.1 t6.2.2.1 t6.2.2.2).bind fun t7 => some (t7.1, t7.2.1, t7.2.2.1, t7.2.2.2))))) else (if a0 = 3 then ((c51 a1).bind fun t8 => ((c51 a2).bind fun t9 => ((c53 t8.1 t8.2.1 t8.2.2.1 t8.2.2.2 t9.1 t9.2.1 t9.2.2.1 t9.2.2.2).bind fun t10 => some (t10.1, t10.2.1, t10.2.2.1, t10.2.2.2)))) else (if a0 = 4 then ((c106 a1 a2).bind fun t11 => some (t11.1, t11.2.1, t11.2.2.1, t11.2.2.2)) else ((c51 a1).bind fun t12 => ((c51 a2).bind fun t13 => ((c53 t12.1 t12.2.1 t12.2.2.1 t12.2.2.2 t13.1 t13.2.1 t13.2.2.1 t13.2.2.2).bind fun t14 => ((c51 a3).bind fun t15 => ((c103 t14.1 t14.2.1 t14.2.2.1 t14.2.2.2 t15.1 t15.2.1 t15.2.2.1 t15.2.2.2).bind fun t16 => some (t16.1, t16.2.1, t16.2.2.1, t16.2.2.2))))))))))
noncomputable def f (n : Nat) (a0 a1 a2 a3 : Int) : Ω (Bool × Λ × Λ × Int) := b0 abacusref05_of.f (abacusref05_product.f n) (abacusref05_sum.f n) abacusref04_Neg.f abacusref05_ratio.f a0 a1 a2 a3
noncomputable def sg : Sig (Bool × Λ × Λ × Int) := s1 (sAgg (s2 (sBool) (s2 (sRow .u64) (s2 (sRow .u64) (s1 (sInt .i64))))))
noncomputable def code : Code := (Tryz.f54.body).getD .skip
noncomputable def cfg (c51 : T11) (c53 c103 : T9) (c104 : T4) (c106 : T42) : Cfg (Bool × Λ × Λ × Int) := { T := tys, call := orCall 51 (abacusref05_of.call c51) (orCall 53 (abacusref05_product.call c53) (orCall 103 (abacusref05_sum.call c103) (orCall 104 (abacusref04_Neg.call c104) (orCall 106 (abacusref05_ratio.call c106) (noCall))))) }
noncomputable def cuts : List (Nat × List (Nat × Want)) := []
theorem e0 {c51 c53 c103 c104 c106 n J a0 a1 a2 a3} : afun (cfg c51 c53 c103 c104 c106) J cuts n code Tryz.f54.results.toList [false] [.int .i64 a0, .int .u64 a1, .int .u64 a2, .int .u64 a3] sg.out = b0 c51 c53 c103 c104 c106 a0 a1 a2 a3 := by kernel_rfl
theorem ok {n  a0 a1 a2 a3 r} (h : f n a0 a1 a2 a3 = some r) : CallD Tryz.prog HW 54 [.int .i64 a0, .int .u64 a1, .int .u64 a2, .int .u64 a3] (sg.enc r) :=
  fun_some hwS Tryz.func54 (by kernel_rfl) (body := code) (by kernel_rfl) tys_ok (c := cfg abacusref05_of.f (abacusref05_product.f n) (abacusref05_sum.f n) abacusref04_Neg.f abacusref05_ratio.f) (orCall_ok abacusref05_of.call_ok (orCall_ok (abacusref05_product.call_ok (n := n)) (orCall_ok (abacusref05_sum.call_ok (n := n)) (orCall_ok abacusref04_Neg.call_ok (orCall_ok abacusref05_ratio.call_ok noCall_ok))))) noW_ok (by kernel_rfl) (by kernel_rfl) (Nat.le_of_ble_eq_true (by kernel_rfl)) (Eq.trans ((e0 (n := n))) h)
noncomputable def call {α : Type} (g : T44) (ds : List D) (K : List D→Ω α) : Ω α := match ds with
  | [.int .i64 a0, .int .u64 a1, .int .u64 a2, .int .u64 a3] => (g a0 a1 a2 a3).bind fun r => K (sg.enc r)
  | _ => none
theorem call_ok {α : Type} {n : Nat} : COK Tryz.prog HW 54 (call (α := α) (f n)) := fun _ _ _ h => by
  unfold call at h; split at h
  · exact cok h fun _ => ok
  · cases h
end abacusref05_result
/-! ### abacusref05_is: function 52 -/
namespace abacusref05_is
noncomputable def b0 (c18 : T1) (c51 : T11) (c79 : T13) (c85 : T6) (c108 : T23) (c109 : T17) (a0 : Int) (a1 : Bool) (l2 l3 : Λ) (a4 : Int) : Ω (Bool) := ((c108 a1 l2 l3 a4).bind fun t1 => (if t1 = true then ((c18 a0).bind fun t2 => some t2) else ((c51 a0).bind fun t3 => ((c108 t3.1 t3.2.1 t3.2.2.1 t3.2.2.2).bind fun t4 => (if t4 = true then some false else (if (t3.1 != a1) = true then some false else ((c109 t3.2.1 l3).bind fun t5 => (if a4 ≥ t3.2.2.2 then ((c79 l2 (wrap64 (a4 - t3.2.2.2))).bind fun t6 => ((c85 t6 t5).bind fun t7 => some (decide (t7 = 0)))) else ((c79 t5 (wrap64 (t3.2.2.2 - a4))).bind fun t8 => ((c85 l2 t8).bind fun t9 => some (decide (t9 = 0))))))))))))
noncomputable def f (n : Nat) (a0 : Int) (a1 : Bool) (l2 l3 : Λ) (a4 : Int) : Ω (Bool) := b0 abacusref05_zero.f abacusref05_of.f (abacusref01_Lift.f n) (abacusref01_Cmp.f n) (abacusref05_none.f n) (abacusref01_Times.f n) a0 a1 l2 l3 a4
noncomputable def sg : Sig (Bool) := s1 (sBool)
noncomputable def code : Code := (Tryz.f52.body).getD .skip
noncomputable def cfg (c18 : T1) (c51 : T11) (c79 : T13) (c85 : T6) (c108 : T23) (c109 : T17) : Cfg (Bool) := { T := tys, call := orCall 18 (abacusref05_zero.call c18) (orCall 51 (abacusref05_of.call c51) (orCall 79 (abacusref01_Lift.call c79) (orCall 85 (abacusref01_Cmp.call c85) (orCall 108 (abacusref05_none.call c108) (orCall 109 (abacusref01_Times.call c109) (noCall)))))) }
noncomputable def cuts : List (Nat × List (Nat × Want)) := []
theorem e0 {c18 c51 c79 c85 c108 c109 n J a0 a1 l2 l3 a4} : afun (cfg c18 c51 c79 c85 c108 c109) J cuts n code Tryz.f52.results.toList [false] [.int .u64 a0, .agg [.bool a1, .ro .u64 l2, .ro .u64 l3, .int .i64 a4]] sg.out = b0 c18 c51 c79 c85 c108 c109 a0 a1 l2 l3 a4 := by kernel_rfl
theorem ok {n  a0 a1 l2 l3 a4 r} (h : f n a0 a1 l2 l3 a4 = some r) : CallD Tryz.prog HW 52 [.int .u64 a0, .agg [.bool a1, .ro .u64 l2, .ro .u64 l3, .int .i64 a4]] (sg.enc r) :=
  fun_some hwS Tryz.func52 (by kernel_rfl) (body := code) (by kernel_rfl) tys_ok (c := cfg abacusref05_zero.f abacusref05_of.f (abacusref01_Lift.f n) (abacusref01_Cmp.f n) (abacusref05_none.f n) (abacusref01_Times.f n)) (orCall_ok abacusref05_zero.call_ok (orCall_ok abacusref05_of.call_ok (orCall_ok (abacusref01_Lift.call_ok (n := n)) (orCall_ok (abacusref01_Cmp.call_ok (n := n)) (orCall_ok (abacusref05_none.call_ok (n := n)) (orCall_ok (abacusref01_Times.call_ok (n := n)) noCall_ok)))))) noW_ok (by kernel_rfl) (by kernel_rfl) (Nat.le_of_ble_eq_true (by kernel_rfl)) (Eq.trans ((e0 (n := n))) h)
noncomputable def call {α : Type} (g : T45) (ds : List D) (K : List D→Ω α) : Ω α := match ds with
  | [.int .u64 a0, .agg [.bool a1, .ro .u64 l2, .ro .u64 l3, .int .i64 a4]] => (g a0 a1 l2 l3 a4).bind fun r => K (sg.enc r)
  | _ => none
theorem call_ok {α : Type} {n : Nat} : COK Tryz.prog HW 52 (call (α := α) (f n)) := fun _ _ _ h => by
  unfold call at h; split at h
  · exact cok h fun _ => ok
  · cases h
end abacusref05_is
/-! ### abacusref05_tiny: function 56 -/
namespace abacusref05_tiny
noncomputable def b0 (c79 : T13) (c85 : T6) (c108 : T23) (a0 : Bool) (l1 l2 : Λ) (a3 : Int) : Ω (Bool) := ((c108 a0 l1 l2 a3).bind fun t1 => (if t1 = true then some false else (if (wrap64 (a3 + 1022)) ≥ 0 then ((c79 l1 (wrap64 (a3 + 1022))).bind fun t2 => ((c85 t2 l2).bind fun t3 => some (decide (t3 < 0)))) else ((c79 l2 (wrap64 (-(wrap64 (a3 + 1022))))).bind fun t4 => ((c85 l1 t4).bind fun t5 => some (decide (t5 < 0)))))))
noncomputable def f (n : Nat) (a0 : Bool) (l1 l2 : Λ) (a3 : Int) : Ω (Bool) := b0 (abacusref01_Lift.f n) (abacusref01_Cmp.f n) (abacusref05_none.f n) a0 l1 l2 a3
noncomputable def sg : Sig (Bool) := s1 (sBool)
noncomputable def code : Code := (Tryz.f56.body).getD .skip
noncomputable def cfg (c79 : T13) (c85 : T6) (c108 : T23) : Cfg (Bool) := { T := tys, call := orCall 79 (abacusref01_Lift.call c79) (orCall 85 (abacusref01_Cmp.call c85) (orCall 108 (abacusref05_none.call c108) (noCall))) }
noncomputable def cuts : List (Nat × List (Nat × Want)) := []
theorem e0 {c79 c85 c108 n J a0 l1 l2 a3} : afun (cfg c79 c85 c108) J cuts n code Tryz.f56.results.toList [false] [.agg [.bool a0, .ro .u64 l1, .ro .u64 l2, .int .i64 a3]] sg.out = b0 c79 c85 c108 a0 l1 l2 a3 := by kernel_rfl
theorem ok {n  a0 l1 l2 a3 r} (h : f n a0 l1 l2 a3 = some r) : CallD Tryz.prog HW 56 [.agg [.bool a0, .ro .u64 l1, .ro .u64 l2, .int .i64 a3]] (sg.enc r) :=
  fun_some hwS Tryz.func56 (by kernel_rfl) (body := code) (by kernel_rfl) tys_ok (c := cfg (abacusref01_Lift.f n) (abacusref01_Cmp.f n) (abacusref05_none.f n)) (orCall_ok (abacusref01_Lift.call_ok (n := n)) (orCall_ok (abacusref01_Cmp.call_ok (n := n)) (orCall_ok (abacusref05_none.call_ok (n := n)) noCall_ok))) noW_ok (by kernel_rfl) (by kernel_rfl) (Nat.le_of_ble_eq_true (by kernel_rfl)) (Eq.trans ((e0 (n := n))) h)
noncomputable def call {α : Type} (g : T23) (ds : List D) (K : List D→Ω α) : Ω α := match ds with
  | [.agg [.bool a0, .ro .u64 l1, .ro .u64 l2, .int .i64 a3]] => (g a0 l1 l2 a3).bind fun r => K (sg.enc r)
  | _ => none
theorem call_ok {α : Type} {n : Nat} : COK Tryz.prog HW 56 (call (α := α) (f n)) := fun _ _ _ h => by
  unfold call at h; split at h
  · exact cok h fun _ => ok
  · cases h
end abacusref05_tiny
end Go.Proofs.YtobocamcoaeliaaGreatDoor.F
