/- What the functions compute, and that calls of them answer so (printed by gen.py). Conditions: HW, a table as it was laid. -/
import Derived.Test.YtobocamcoaeliaaGreatDoorA17
import Derived.Test.YtobocamcoaeliaaGreatDoorProg
namespace Go.Proofs.YtobocamcoaeliaaGreatDoor.F
open Go.RowKit Go.Proofs.YtobocamcoaeliaaGreatDoorA
set_option linter.unusedVariables false
set_option maxRecDepth 100000
abbrev Λ := List Int
abbrev Ω := Option
abbrev T0 := Int→Ω (Int)
abbrev T1 := Λ→Ω (Int)
abbrev T2 := Int→Ω (Bool × Int × Int × Int)
abbrev T3 := Λ→Ω (Λ)
abbrev T4 := Int→Int→Int→Ω (Int × Int)
abbrev T5 := Λ→Ω (Bool)
abbrev T6 := Bool→Λ→Int→Bool→Ω (Int × Int)
abbrev T7 := Bool→Int→Ω (Int)
abbrev T8 := Int→Int→Ω (Int × Int)
abbrev T9 := Int→Int→Ω (Int)
abbrev T10 := Λ→Λ→Ω (Int)
abbrev T11 := Λ→Ω (Λ × Int)
abbrev T12 := Λ→Λ→Ω (Λ × Int)
abbrev T13 := Λ→Int→Ω (Int)
abbrev T14 := Λ→Int→Ω (Λ)
abbrev T15 := Bool→Int→Int→Ω (Bool)
abbrev T16 := Λ→Int→Ω (Λ × Int)
abbrev T17 := Int→Int→Int→Ω (Int)
abbrev T18 := Λ→Λ→Ω (Λ)
abbrev T19 := Bool→Int→Int→Int→Bool→Int→Int→Int→Int→Ω (Int × Bool)
abbrev T20 := Λ→Int→Ω (Λ × Bool × Int)
abbrev T21 := Int→Int→Int→Int→Ω (Bool)
abbrev T22 := Λ→Ω (Int × Bool)
abbrev T23 := Bool→Λ→Λ→Int→Ω (Int × Int)
abbrev T24 := Bool→Int→Int→Ω (Int)
abbrev T25 := Int→Ω (Λ)
abbrev T26 := Λ→Λ→Ω (Λ × Λ)
abbrev T27 := Bool→Int→Int→Int→Ω (Int × Int)
abbrev T28 := Int→Ω (Int × Int)
abbrev T29 := Λ→Int→Λ→Ω (Bool)
abbrev T30 := Λ→Int→Λ→Ω (Λ × Unit)
abbrev T31 := Int→Int→Int→Int→Int→Int→Int→Int→Int→Ω (Int × Int)
abbrev T32 := Λ→Int→Ω (Λ × Bool)
abbrev T33 := Λ→Λ→Ω (Λ × Λ × Int)
abbrev T34 := Λ→Int→Int→Ω (Λ × Int)
abbrev T35 := Int→Int→Ω (Λ)
abbrev T36 := Int→Bool→Int→Int→Int→Ω (Int)
abbrev T37 := Λ→Int→Int→Ω (Λ)
abbrev T38 := Λ→Λ→Int→Ω (Λ × Bool)
abbrev T39 := Λ→Λ→Ω (Λ × Bool)
abbrev T40 := Bool→Int→Int→Int→Bool→Int→Int→Int→Ω (Λ × Λ × Int)
abbrev T41 := Int→Bool→Λ→Λ→Int→Ω (Int)
abbrev T42 := Λ→Λ→Int→Ω (Int)
abbrev T43 := Λ→Int→Int→Λ→Ω (Λ)
abbrev T44 := Λ→Λ→Int→Int→Λ→Ω (Λ)
abbrev T45 := Int→Int→Bool→Int→Int→Int→Ω (Int)
abbrev T46 := Ω (Bool)
abbrev T47 := Ω (Int × Int)
abbrev T48 := Bool→Int→Int→Int→Ω (Bool × Λ × Int)
abbrev T49 := Λ→Int→Λ→Int→Ω (Λ × Λ × Int)
abbrev T50 := Bool→Λ→Int→Bool→Λ→Int→Ω (Bool × Λ × Int)
abbrev T51 := Bool→Λ→Int→Ω (Int × Int)
abbrev T52 := Λ→Int→Λ→Ω (Λ)
abbrev T53 := Int→Ω (Bool × Λ × Int)
abbrev T54 := Λ→Λ→Int→Int→Λ→Ω (Λ × Int)
abbrev T55 := Λ→Int→Int→Λ→Int→Λ→Ω (Λ × Int)
abbrev T56 := Int→Int→Bool→Int→Int→Int→Ω (Int × Int)
abbrev T57 := Int→Int→Int→Bool→Int→Int→Int→Ω (Int × Int)
abbrev T58 := Λ→Λ→Int→Λ→Ω (Λ)
abbrev T59 := Λ→Int→Bool→Ω (Int)
abbrev T60 := Int→Λ→Λ→Int→Ω (Λ × Int)
abbrev T61 := Λ→Int→Ω (Λ × Int × Int)
abbrev T62 := Int→Int→Int→Λ→Λ→Λ→Ω (Λ × Λ)
abbrev T63 := Λ→Λ→Int→Int→Int→Λ→Ω (Λ × Int)
abbrev T64 := Bool→Λ→Int→Λ→Λ→Ω (Int × Int)
abbrev T65 := Bool→Λ→Λ→Int→Int→Ω (Int)
abbrev T66 := Int→Λ→Ω (Λ)
abbrev T67 := Int→Λ→Int→Int→Λ→Ω (Λ × Unit)
abbrev T68 := Int→List (Λ)→Λ→Λ→Ω (Λ × Λ)
abbrev T69 := Int→Bool→Int→Int→Ω (Int × Int)
abbrev T70 := Int→Ω (Bool)
abbrev T71 := Int→Λ→Λ→Λ→Λ→Int→Int→Ω (Bool)
abbrev T72 := Int→Int→Λ→Int→Int→Λ→Ω (Λ × Int)
abbrev T73 := Λ→Bool→Int→Int→Int→Int→Λ→Ω (Λ × Bool × Int)
abbrev T74 := Int→Int→Int→Int→Int→Int→Int→Int→Ω (Int × Int)
abbrev T75 := Int→Int→Int→Int→Int→Int→Ω (Int × Int)
abbrev T76 := Λ→Int→Int→Int→Int→Λ→Int→Int→Λ→Ω (Λ × Int)
abbrev T77 := Λ→Int→Int→Int→Λ→Ω (Λ × Int × Int)
abbrev T78 := Int→Int→Λ→Int→Int→Λ→Ω (Λ)
abbrev T79 := Λ→Int→Int→Int→Int→Int→Λ→Ω (Λ × Bool)
abbrev T80 := Λ→Int→Int→Int→Λ→Ω (Λ × Bool)
abbrev T81 := Int→Int→Int→Int→Int→Bool→Λ→Λ→Λ→Ω (Λ × Λ)
abbrev T82 := Λ→Int→Λ→Ω (Λ × Int)
abbrev T83 := Λ→Int→Int→Int→Int→Λ→Ω (Λ × Int)
abbrev T84 := Int→Bool→Bool→Int→Int→Int→Ω (Int × Int)
abbrev T85 := Int→Bool→Int→Int→Int→Ω (Int × Int)
abbrev T86 := Bool→Λ→Int→Bool→Int→Int→Ω (Int × Int)
abbrev T87 := Bool→Λ→Int→Bool→Int→Int→Int→Ω (Int × Int)
abbrev T88 := Int→Λ→Int→Λ→Ω (Λ)
abbrev T89 := Int→Λ→Int→Int→Λ→Ω (Λ)
abbrev T90 := Λ→Int→Int→Int→Λ→Ω (Λ)
abbrev T91 := Λ→Int→Λ→Int→Ω (Bool)
abbrev T92 := Λ→Λ→Int→Λ→Λ→List (Λ)→Ω (Λ × Λ)
abbrev T93 := Int→Int→List (Λ)→Λ→Λ→Ω (Λ × Λ)
abbrev T94 := Λ→Λ→Int→Int→Int→Λ→Ω (Λ)
abbrev T95 := Int→Int→Int→Λ→Ω (Λ)
abbrev T96 := Bool→Λ→Λ→Int→Int→Int→Ω (Int × Int)
abbrev T97 := Int→Λ→Λ→Λ→Λ→Int→Int→Bool→Int→Ω (Bool)
/-- The table of math/bits.TrailingZeros64 stands as it was laid. -/
def HW : World → Prop := fun w => ∀ j, j < 64 → w.cell? ⟨0, j, none⟩ = some (.int .u8 ((Lib.deBruijn64tab.getD j 0 : Nat) : Int))
theorem hwS : ∀ w w' : World, Below w.heap.size w w' → HW w → HW w' := fun w w' hb h j hj => by
  have h1 := h j hj
  rw [← h1]
  exact hb.cell (Nat.lt_of_not_le fun hn => by simp [World.cell?, Array.getElem?_eq_none hn] at h1)
def tys : List (Nat × TI) := [(2, ⟨.int .i64, 1, 8, [.int .i64 0], false⟩),
  (3, ⟨.int .i64, 1, 8, [.int .i64 0], false⟩),
  (4, ⟨.bool, 1, 1, [.bool false], false⟩),
  (24, ⟨.int .u64, 1, 8, [.int .u64 0], false⟩),
  (28, ⟨.slice 36, 1, 24, [.nil], false⟩),
  (36, ⟨.struct [(0, 1, false), (1, 1, false), (2, 1, false), (3, 1, false)], 4, 32, [.int .i64 0, .int .u64 0, .int .u64 0, .int .i64 0], true⟩),
  (40, ⟨.slice 24, 1, 24, [.nil], false⟩),
  (54, ⟨.struct [(0, 1, false), (1, 1, false), (2, 1, false), (3, 1, false)], 4, 32, [.bool false, .int .i64 0, .int .u64 0, .int .i64 0], true⟩),
  (86, ⟨.int .u64, 1, 8, [.int .u64 0], false⟩),
  (102, ⟨.struct [(0, 1, false), (1, 1, false), (2, 1, false)], 3, 40, [.bool false, .nil, .int .i64 0], false⟩),
  (108, ⟨.struct [(0, 1, false), (1, 1, false), (2, 1, false), (3, 1, false)], 4, 64, [.bool false, .nil, .nil, .int .i64 0], false⟩),
  (119, ⟨.slice 40, 1, 24, [.nil], false⟩)]
theorem tys_ok : TOK Tryz.prog tys := tok_of (by kernel_rfl)
/-! ### ieee_Abs: function 140 -/
namespace ieee_Abs
noncomputable def b0 (a0 : Int) : Ω (Int) := some (Go.bits .andNot .u64 a0 9223372036854775808)
noncomputable def f (a0 : Int) : Ω (Int) := b0 a0
noncomputable def sg : Sig (Int) := s1 (sInt .u64)
noncomputable def code : Code := (Tryz.f140.body).getD .skip
noncomputable def cfg : Cfg (Int) := { T := tys, call := noCall }
noncomputable def cuts : List (Nat × List (Nat × Want)) := []
theorem e0 {n J a0} : afun cfg J cuts n code Tryz.f140.results.toList [false] [.int .u64 a0] sg.out = b0 a0 := by kernel_rfl
theorem ok {a0 r} (h : f a0 = some r) : CallD Tryz.prog HW 140 [.int .u64 a0] (sg.enc r) :=
  fun_some hwS Tryz.func140 (by kernel_rfl) (body := code) (by kernel_rfl) tys_ok (c := cfg) noCall_ok noW_ok (by kernel_rfl) (by kernel_rfl) (Nat.le_of_ble_eq_true (by kernel_rfl)) (Eq.trans ((e0 (n := 0))) h)
noncomputable def call {α : Type} (g : T0) (ds : List D) (K : List D→Ω α) : Ω α := match ds with
  | [.int .u64 a0] => (g a0).bind fun r => K (sg.enc r)
  | _ => none
theorem call_ok {α : Type} : COK Tryz.prog HW 140 (call (α := α) f) := fun _ _ _ h => by
  unfold call at h; split at h
  · exact cok h fun _ => ok
  · cases h
end ieee_Abs
/-! ### ieee_Class: function 87 -/
namespace ieee_Class
noncomputable def b0 (c140 : T0) (a0 : Int) : Ω (Int) := ((c140 a0).bind fun t1 => (if t1 = 0 then some 0 else (if t1 < 4503599627370496 then some 1 else (if t1 < 9218868437227405312 then some 2 else (if t1 = 9218868437227405312 then some 3 else some 4)))))
noncomputable def f (a0 : Int) : Ω (Int) := b0 ieee_Abs.f a0
noncomputable def sg : Sig (Int) := s1 (sInt .i64)
noncomputable def code : Code := (Tryz.f87.body).getD .skip
noncomputable def cfg (c140 : T0) : Cfg (Int) := { T := tys, call := orCall 140 (ieee_Abs.call c140) (noCall) }
noncomputable def cuts : List (Nat × List (Nat × Want)) := []
theorem e0 {c140 n J a0} : afun (cfg c140) J cuts n code Tryz.f87.results.toList [false] [.int .u64 a0] sg.out = b0 c140 a0 := by kernel_rfl
theorem ok {a0 r} (h : f a0 = some r) : CallD Tryz.prog HW 87 [.int .u64 a0] (sg.enc r) :=
  fun_some hwS Tryz.func87 (by kernel_rfl) (body := code) (by kernel_rfl) tys_ok (c := cfg ieee_Abs.f) (orCall_ok ieee_Abs.call_ok noCall_ok) noW_ok (by kernel_rfl) (by kernel_rfl) (Nat.le_of_ble_eq_true (by kernel_rfl)) (Eq.trans ((e0 (n := 0))) h)
noncomputable def call {α : Type} (g : T0) (ds : List D) (K : List D→Ω α) : Ω α := match ds with
  | [.int .u64 a0] => (g a0).bind fun r => K (sg.enc r)
  | _ => none
theorem call_ok {α : Type} : COK Tryz.prog HW 87 (call (α := α) f) := fun _ _ _ h => by
  unfold call at h; split at h
  · exact cok h fun _ => ok
  · cases h
end ieee_Class
/-! ### ieee_Decode: function 36 -/
namespace ieee_Decode
noncomputable def b0 (c87 : T0) (a0 : Int) : Ω (Bool × Int × Int × Int) := ((c87 a0).bind fun t1 => (if t1 = 1 then some (decide (¬ (Go.bits .and .u64 a0 9223372036854775808) = 0), t1, Go.bits .and .u64 a0 4503599627370495, (-1074)) else (if t1 = 2 then some (decide (¬ (Go.bits .and .u64 a0 9223372036854775808) = 0), t1, Go.bits .or .u64 4503599627370496 (Go.bits .and .u64 a0 4503599627370495), wrap64 ((wrap64 (Go.bits .and .u64 (a0 / 4503599627370496) 2047)) - 1075)) else (if t1 = 4 then some (decide (¬ (Go.bits .and .u64 a0 9223372036854775808) = 0), t1, Go.bits .and .u64 a0 4503599627370495, 0) else some (decide (¬ (Go.bits .and .u64 a0 9223372036854775808) = 0), t1, 0, 0)))))
noncomputable def f (a0 : Int) : Ω (Bool × Int × Int × Int) := b0 ieee_Class.f a0
noncomputable def sg : Sig (Bool × Int × Int × Int) := s1 (sAgg (s2 (sBool) (s2 (sInt .i64) (s2 (sInt .u64) (s1 (sInt .i64))))))
noncomputable def code : Code := (Tryz.f36.body).getD .skip
noncomputable def cfg (c87 : T0) : Cfg (Bool × Int × Int × Int) := { T := tys, call := orCall 87 (ieee_Class.call c87) (noCall) }
noncomputable def cuts : List (Nat × List (Nat × Want)) := []
theorem e0 {c87 n J a0} : afun (cfg c87) J cuts n code Tryz.f36.results.toList [false] [.int .u64 a0] sg.out = b0 c87 a0 := by kernel_rfl
theorem ok {a0 r} (h : f a0 = some r) : CallD Tryz.prog HW 36 [.int .u64 a0] (sg.enc r) :=
  fun_some hwS Tryz.func36 (by kernel_rfl) (body := code) (by kernel_rfl) tys_ok (c := cfg ieee_Class.f) (orCall_ok ieee_Class.call_ok noCall_ok) noW_ok (by kernel_rfl) (by kernel_rfl) (Nat.le_of_ble_eq_true (by kernel_rfl)) (Eq.trans ((e0 (n := 0))) h)
noncomputable def call {α : Type} (g : T2) (ds : List D) (K : List D→Ω α) : Ω α := match ds with
  | [.int .u64 a0] => (g a0).bind fun r => K (sg.enc r)
  | _ => none
theorem call_ok {α : Type} : COK Tryz.prog HW 36 (call (α := α) f) := fun _ _ _ h => by
  unfold call at h; split at h
  · exact cok h fun _ => ok
  · cases h
end ieee_Decode
/-! ### remain_Trunc_1: function 64 -/
namespace remain_Trunc_1
noncomputable def b0 (a0 : Bool) (a1 a2 : Int) : Ω (Bool) := some false
noncomputable def f (a0 : Bool) (a1 a2 : Int) : Ω (Bool) := b0 a0 a1 a2
noncomputable def sg : Sig (Bool) := s1 (sBool)
noncomputable def code : Code := (Tryz.f64.body).getD .skip
noncomputable def cfg : Cfg (Bool) := { T := tys, call := noCall }
noncomputable def cuts : List (Nat × List (Nat × Want)) := []
theorem e0 {n J a0 a1 a2} : afun cfg J cuts n code Tryz.f64.results.toList [false] [.bool a0, .int .u64 a1, .int .i64 a2] sg.out = b0 a0 a1 a2 := by kernel_rfl
theorem ok {a0 a1 a2 r} (h : f a0 a1 a2 = some r) : CallD Tryz.prog HW 64 [.bool a0, .int .u64 a1, .int .i64 a2] (sg.enc r) :=
  fun_some hwS Tryz.func64 (by kernel_rfl) (body := code) (by kernel_rfl) tys_ok (c := cfg) noCall_ok noW_ok (by kernel_rfl) (by kernel_rfl) (Nat.le_of_ble_eq_true (by kernel_rfl)) (Eq.trans ((e0 (n := 0))) h)
noncomputable def call {α : Type} (g : T15) (ds : List D) (K : List D→Ω α) : Ω α := match ds with
  | [.bool a0, .int .u64 a1, .int .i64 a2] => (g a0 a1 a2).bind fun r => K (sg.enc r)
  | _ => none
theorem call_ok {α : Type} : COK Tryz.prog HW 64 (call (α := α) f) := fun _ _ _ h => by
  unfold call at h; split at h
  · exact cok h fun _ => ok
  · cases h
end remain_Trunc_1
/-! ### nat_FromUint: function 116 -/
namespace nat_FromUint
noncomputable def b0 (a0 : Int) : Ω (Λ) := (if a0 = 0 then some ([] : Λ) else some [a0])
noncomputable def f (a0 : Int) : Ω (Λ) := b0 a0
noncomputable def sg : Sig (Λ) := s1 (sRow .u64)
noncomputable def code : Code := (Tryz.f116.body).getD .skip
noncomputable def cfg : Cfg (Λ) := { T := tys, call := noCall }
noncomputable def cuts : List (Nat × List (Nat × Want)) := []
theorem e0 {n J a0} : afun cfg J cuts n code Tryz.f116.results.toList [false] [.int .u64 a0] sg.out = b0 a0 := by kernel_rfl
theorem ok {a0 r} (h : f a0 = some r) : CallD Tryz.prog HW 116 [.int .u64 a0] (sg.enc r) :=
  fun_some hwS Tryz.func116 (by kernel_rfl) (body := code) (by kernel_rfl) tys_ok (c := cfg) noCall_ok noW_ok (by kernel_rfl) (by kernel_rfl) (Nat.le_of_ble_eq_true (by kernel_rfl)) (Eq.trans ((e0 (n := 0))) h)
noncomputable def call {α : Type} (g : T25) (ds : List D) (K : List D→Ω α) : Ω α := match ds with
  | [.int .u64 a0] => (g a0).bind fun r => K (sg.enc r)
  | _ => none
theorem call_ok {α : Type} : COK Tryz.prog HW 116 (call (α := α) f) := fun _ _ _ h => by
  unfold call at h; split at h
  · exact cok h fun _ => ok
  · cases h
end nat_FromUint
/-! ### nat_size: function 142 -/
namespace nat_size
noncomputable def b0 (k57 : T13) (l0 : Λ) : Ω (Int) := k57 l0 (ln l0)
noncomputable def b57 (k57 : T13) (x0 : Λ) (x1 : Int) : Ω (Int) := (if x1 > 0 then (if 0 ≤ (wrap64 (x1 - 1)) then (if (wrap64 (x1 - 1)) < (ln x0) then (if (rd x0 (wrap64 (x1 - 1))) = 0 then k57 x0 (wrap64 (x1 - 1)) else some x1) else none) else none) else some x1)
noncomputable def l57 (n : Nat) : Nat→Λ→Int→Ω (Int)
  | 0, _, _ => none
  | m + 1, x0, x1 => b57 (l57 n m) x0 x1
noncomputable def f (n : Nat) (l0 : Λ) : Ω (Int) := b0 (l57 n n) l0
noncomputable def sg : Sig (Int) := s1 (sInt .i64)
noncomputable def code : Code := (Tryz.f142.body).getD .skip
noncomputable def cfg : Cfg (Int) := { T := tys, call := noCall }
noncomputable def cuts : List (Nat × List (Nat × Want)) := [(57, [(0, .keep), (3, .keep)])]
noncomputable def s57 (x0 : Λ) (x1 : Int) : ASt := ⟨[(0, .ro .u64 x0), (3, .int .i64 x1)], []⟩
noncomputable def A (n : Nat) (J : Jt (Int)) (q : Nat) (ms : List Nat) : ASt→Ω (Int) := acont cfg J cuts n q code 1 ms (aend cfg Tryz.f142.results.toList [false] sg.out)
theorem e0 {n J l0} : afun cfg J cuts n code Tryz.f142.results.toList [false] [.ro .u64 l0] sg.out = b0 (fun y0 y1 => J 57 (A n J 57 [n]) (s57 y0 y1)) l0 := by kernel_rfl
theorem e57 {n J m x0 x1} : A n J 57 [m + 1] (s57 x0 x1) = b57 (fun y0 y1 => J 57 (A n J 57 [m]) (s57 y0 y1)) x0 x1 := by kernel_rfl
noncomputable abbrev I (n : Nat) := A n idJ
theorem q57 (n m) : ∀ x0 x1, I n 57 [m] (s57 x0 x1) = l57 n m x0 x1 := by
  induction m with
  | zero => intros; rfl
  | succ m ih =>
    intros
    exact e57.trans (Eq.trans (cf2 (congrArg b57 (fu2 (ih))) _ _) rfl)
theorem ok {n  l0 r} (h : f n l0 = some r) : CallD Tryz.prog HW 142 [.ro .u64 l0] (sg.enc r) :=
  fun_some hwS Tryz.func142 (by kernel_rfl) (body := code) (by kernel_rfl) tys_ok (c := cfg) noCall_ok noW_ok (by kernel_rfl) (by kernel_rfl) (Nat.le_of_ble_eq_true (by kernel_rfl)) (Eq.trans ((e0 (n := n)).trans (Eq.trans (cf1 (congrArg b0 (fu2 (q57 n n))) _) rfl)) h)
noncomputable def call {α : Type} (g : T1) (ds : List D) (K : List D→Ω α) : Ω α := match ds with
  | [.ro .u64 l0] => (g l0).bind fun r => K (sg.enc r)
  | _ => none
theorem call_ok {α : Type} {n : Nat} : COK Tryz.prog HW 142 (call (α := α) (f n)) := fun _ _ _ h => by
  unfold call at h; split at h
  · exact cok h fun _ => ok
  · cases h
end nat_size
/-! ### nat_big: function 141 -/
namespace nat_big
noncomputable def b0 (c142 : T1) (l0 : Λ) : Ω (Bool) := ((c142 l0).bind fun t1 => some (decide (t1 > 4096)))
noncomputable def f (n : Nat) (l0 : Λ) : Ω (Bool) := b0 (nat_size.f n) l0
noncomputable def sg : Sig (Bool) := s1 (sBool)
noncomputable def code : Code := (Tryz.f141.body).getD .skip
noncomputable def cfg (c142 : T1) : Cfg (Bool) := { T := tys, call := orCall 142 (nat_size.call c142) (noCall) }
noncomputable def cuts : List (Nat × List (Nat × Want)) := []
theorem e0 {c142 n J l0} : afun (cfg c142) J cuts n code Tryz.f141.results.toList [false] [.ro .u64 l0] sg.out = b0 c142 l0 := by kernel_rfl
theorem ok {n  l0 r} (h : f n l0 = some r) : CallD Tryz.prog HW 141 [.ro .u64 l0] (sg.enc r) :=
  fun_some hwS Tryz.func141 (by kernel_rfl) (body := code) (by kernel_rfl) tys_ok (c := cfg (nat_size.f n)) (orCall_ok (nat_size.call_ok (n := n)) noCall_ok) noW_ok (by kernel_rfl) (by kernel_rfl) (Nat.le_of_ble_eq_true (by kernel_rfl)) (Eq.trans ((e0 (n := n))) h)
noncomputable def call {α : Type} (g : T5) (ds : List D) (K : List D→Ω α) : Ω α := match ds with
  | [.ro .u64 l0] => (g l0).bind fun r => K (sg.enc r)
  | _ => none
theorem call_ok {α : Type} {n : Nat} : COK Tryz.prog HW 141 (call (α := α) (f n)) := fun _ _ _ h => by
  unfold call at h; split at h
  · exact cok h fun _ => ok
  · cases h
end nat_big
/-! ### bits_Mul64: function 122 -/
namespace bits_Mul64
noncomputable def b0 (a0 a1 : Int) : Ω (Int × Int) := some (IntKind.u64.wrap ((IntKind.u64.wrap ((IntKind.u64.wrap ((a0 / 4294967296) * (a1 / 4294967296))) + ((IntKind.u64.wrap ((IntKind.u64.wrap ((a0 / 4294967296) * (Go.bits .and .u64 a1 4294967295))) + ((IntKind.u64.wrap ((Go.bits .and .u64 a0 4294967295) * (Go.bits .and .u64 a1 4294967295))) / 4294967296))) / 4294967296))) + ((IntKind.u64.wrap ((Go.bits .and .u64 (IntKind.u64.wrap ((IntKind.u64.wrap ((a0 / 4294967296) * (Go.bits .and .u64 a1 4294967295))) + ((IntKind.u64.wrap ((Go.bits .and .u64 a0 4294967295) * (Go.bits .and .u64 a1 4294967295))) / 4294967296))) 4294967295) + (IntKind.u64.wrap ((Go.bits .and .u64 a0 4294967295) * (a1 / 4294967296))))) / 4294967296)), IntKind.u64.wrap (a0 * a1))
noncomputable def f (a0 a1 : Int) : Ω (Int × Int) := b0 a0 a1
noncomputable def sg : Sig (Int × Int) := s2 (sInt .u64) (s1 (sInt .u64))
noncomputable def code : Code := (Tryz.f122.body).getD .skip
noncomputable def cfg : Cfg (Int × Int) := { T := tys, call := noCall }
noncomputable def cuts : List (Nat × List (Nat × Want)) := []
theorem e0 {n J a0 a1} : afun cfg J cuts n code Tryz.f122.results.toList [false, false] [.int .u64 a0, .int .u64 a1] sg.out = b0 a0 a1 := by kernel_rfl
theorem ok {a0 a1 r} (h : f a0 a1 = some r) : CallD Tryz.prog HW 122 [.int .u64 a0, .int .u64 a1] (sg.enc r) :=
  fun_some hwS Tryz.func122 (by kernel_rfl) (body := code) (by kernel_rfl) tys_ok (c := cfg) noCall_ok noW_ok (by kernel_rfl) (by kernel_rfl) (Nat.le_of_ble_eq_true (by kernel_rfl)) (Eq.trans ((e0 (n := 0))) h)
noncomputable def call {α : Type} (g : T8) (ds : List D) (K : List D→Ω α) : Ω α := match ds with
  | [.int .u64 a0, .int .u64 a1] => (g a0 a1).bind fun r => K (sg.enc r)
  | _ => none
theorem call_ok {α : Type} : COK Tryz.prog HW 122 (call (α := α) f) := fun _ _ _ h => by
  unfold call at h; split at h
  · exact cok h fun _ => ok
  · cases h
end bits_Mul64
/-! ### nat_cut: function 143 -/
namespace nat_cut
noncomputable def b0 (c142 : T1) (l0 : Λ) : Ω (Λ × Int) := ((c142 l0).bind fun t1 => (if t1 > 4096 then some (([] : Λ), 2) else (if 0 ≤ t1 then (if t1 ≤ t1 then (if t1 ≤ (ln l0) then ((some (l0.take t1.toNat) : Ω (Λ)).bind fun y2 => some (y2, 0)) else none) else none) else none)))
noncomputable def f (n : Nat) (l0 : Λ) : Ω (Λ × Int) := b0 (nat_size.f n) l0
noncomputable def sg : Sig (Λ × Int) := s2 (sRow .u64) (s1 (sInt .i64))
noncomputable def code : Code := (Tryz.f143.body).getD .skip
noncomputable def cfg (c142 : T1) : Cfg (Λ × Int) := { T := tys, call := orCall 142 (nat_size.call c142) (noCall) }
noncomputable def cuts : List (Nat × List (Nat × Want)) := []
theorem e0 {c142 n J l0} : afun (cfg c142) J cuts n code Tryz.f143.results.toList [false, false] [.ro .u64 l0] sg.out = b0 c142 l0 := by kernel_rfl
theorem ok {n  l0 r} (h : f n l0 = some r) : CallD Tryz.prog HW 143 [.ro .u64 l0] (sg.enc r) :=
  fun_some hwS Tryz.func143 (by kernel_rfl) (body := code) (by kernel_rfl) tys_ok (c := cfg (nat_size.f n)) (orCall_ok (nat_size.call_ok (n := n)) noCall_ok) noW_ok (by kernel_rfl) (by kernel_rfl) (Nat.le_of_ble_eq_true (by kernel_rfl)) (Eq.trans ((e0 (n := n))) h)
noncomputable def call {α : Type} (g : T11) (ds : List D) (K : List D→Ω α) : Ω α := match ds with
  | [.ro .u64 l0] => (g l0).bind fun r => K (sg.enc r)
  | _ => none
theorem call_ok {α : Type} {n : Nat} : COK Tryz.prog HW 143 (call (α := α) (f n)) := fun _ _ _ h => by
  unfold call at h; split at h
  · exact cok h fun _ => ok
  · cases h
end nat_cut
/-! ### nat_Shl: function 88 -/
namespace nat_Shl
noncomputable def b0 (c122 : T8) (c141 : T5) (c142 : T1) (c143 : T11) (k8181 : T72) (l0 : Λ) (a1 : Int) : Ω (Λ × Int) := ((c141 l0).bind fun t1 => (if t1 = true then some (([] : Λ), 2) else (if a1 < 0 then some (([] : Λ), 1) else ((c142 l0).bind fun t2 => (if 0 ≤ t2 then (if t2 ≤ (ln l0) then ((some (l0.take t2.toNat) : Ω (Λ)).bind fun y3 => (if (ln y3) = 0 then some (([] : Λ), 0) else (if a1 > 262144 then some (([] : Λ), 2) else (if 0 ≤ (wrap64 ((wrap64 ((wrap64 (Int.tdiv a1 64)) + (ln y3))) + 1)) then (if (wrap64 ((wrap64 ((wrap64 (Int.tdiv a1 64)) + (ln y3))) + 1)).toNat ≤ 35184372088832 then k8181 (wrap64 (Int.tdiv a1 64)) (IntKind.u64.wrap (Int.tmod a1 64)) y3 (ln y3) 0 (List.replicate (wrap64 ((wrap64 ((wrap64 (Int.tdiv a1 64)) + (ln y3))) + 1)).toNat (0 : Int)) else none) else none)))) else none) else none)))))
noncomputable def b1023 (c122 : T8) (c141 : T5) (c142 : T1) (c143 : T11) (x0 : Λ) : Ω (Λ × Int) := ((c143 x0).bind fun t1 => some (t1.1, t1.2))
noncomputable def b8181 (c122 : T8) (c141 : T5) (c142 : T1) (c143 k1023 : T11) (k8181 : T72) (x0 x1 : Int) (x2 : Λ) (x3 x4 : Int) (x5 : Λ) : Ω (Λ × Int) := (if x4 < x3 then (if 0 ≤ x4 then (if x4 < (ln x2) then (if 0 ≤ x1 then ((c122 (rd x2 x4) (shl .u64 1 x1)).bind fun t1 => (if 0 ≤ (wrap64 (x0 + x4)) then (if (wrap64 (x0 + x4)) < (ln x5) then (if 0 ≤ (wrap64 (x0 + x4)) then (if (wrap64 (x0 + x4)) < (ln x5) then (if 0 ≤ (wrap64 ((wrap64 (x0 + x4)) + 1)) then (if (wrap64 ((wrap64 (x0 + x4)) + 1)) < (ln (x5.set (wrap64 (x0 + x4) : Int).toNat (Go.bits .or .u64 (rd x5 (wrap64 (x0 + x4))) t1.2))) then k8181 x0 x1 x2 x3 (wrap64 (x4 + 1)) ((x5.set (wrap64 (x0 + x4) : Int).toNat (Go.bits .or .u64 (rd x5 (wrap64 (x0 + x4))) t1.2)).set (wrap64 ((wrap64 (x0 + x4)) + 1) : Int).toNat t1.1) else none) else none) else none) else none) else none) else none)) else none) else none) else none) else k1023 x5)
noncomputable def l1023 (n : Nat) (x0 : Λ) : Ω (Λ × Int) := b1023 bits_Mul64.f (nat_big.f n) (nat_size.f n) (nat_cut.f n) x0
noncomputable def l8181 (n : Nat) : Nat→Int→Int→Λ→Int→Int→Λ→Ω (Λ × Int)
  | 0, _, _, _, _, _, _ => none
  | m + 1, x0, x1, x2, x3, x4, x5 => b8181 bits_Mul64.f (nat_big.f n) (nat_size.f n) (nat_cut.f n) (l1023 n) (l8181 n m) x0 x1 x2 x3 x4 x5
noncomputable def f (n : Nat) (l0 : Λ) (a1 : Int) : Ω (Λ × Int) := b0 bits_Mul64.f (nat_big.f n) (nat_size.f n) (nat_cut.f n) (l8181 n n) l0 a1
noncomputable def sg : Sig (Λ × Int) := s2 (sRow .u64) (s1 (sInt .i64))
noncomputable def code : Code := (Tryz.f88.body).getD .skip
noncomputable def cfg (c122 : T8) (c141 : T5) (c142 : T1) (c143 : T11) : Cfg (Λ × Int) := { T := tys, call := orCall 122 (bits_Mul64.call c122) (orCall 141 (nat_big.call c141) (orCall 142 (nat_size.call c142) (orCall 143 (nat_cut.call c143) (noCall)))) }
noncomputable def cuts : List (Nat × List (Nat × Want)) := [(1023, [(8, .keep)]), (8181, [(6, .keep), (7, .keep), (8, .keep), (37, .keep), (38, .keep), (39, .keep)])]
noncomputable def s1023 (x0 : Λ) : ASt := ⟨[(8, .own 0)], [.ints 24 .u64 x0]⟩
noncomputable def s8181 (x0 x1 : Int) (x2 : Λ) (x3 x4 : Int) (x5 : Λ) : ASt := ⟨[(6, .int .i64 x0), (7, .int .u64 x1), (8, .own 0), (37, .ro .u64 x2), (38, .int .i64 x3), (39, .int .i64 x4)], [.ints 24 .u64 x5]⟩
noncomputable def A (c122 : T8) (c141 : T5) (c142 : T1) (c143 : T11) (n : Nat) (J : Jt (Λ × Int)) (q : Nat) (ms : List Nat) : ASt→Ω (Λ × Int) := acont (cfg c122 c141 c142 c143) J cuts n q code 1 ms (aend (cfg c122 c141 c142 c143) Tryz.f88.results.toList [false, false] sg.out)
theorem e0 {c122 c141 c142 c143 n J l0 a1} : afun (cfg c122 c141 c142 c143) J cuts n code Tryz.f88.results.toList [false, false] [.ro .u64 l0, .int .i64 a1] sg.out = b0 c122 c141 c142 c143 (fun y0 y1 y2 y3 y4 y5 => J 8181 (A c122 c141 c142 c143 n J 8181 [n]) (s8181 y0 y1 y2 y3 y4 y5)) l0 a1 := by kernel_rfl
theorem e1023 {c122 c141 c142 c143 n J x0} : A c122 c141 c142 c143 n J 1023 [] (s1023 x0) = b1023 c122 c141 c142 c143 x0 := by kernel_rfl
theorem e8181 {c122 c141 c142 c143 n J m x0 x1 x2 x3 x4 x5} : A c122 c141 c142 c143 n J 8181 [m + 1] (s8181 x0 x1 x2 x3 x4 x5) = b8181 c122 c141 c142 c143 (fun y0 => J 1023 (A c122 c141 c142 c143 n J 1023 []) (s1023 y0)) (fun y0 y1 y2 y3 y4 y5 => J 8181 (A c122 c141 c142 c143 n J 8181 [m]) (s8181 y0 y1 y2 y3 y4 y5)) x0 x1 x2 x3 x4 x5 := by kernel_rfl
noncomputable abbrev I (n : Nat) := A bits_Mul64.f (nat_big.f n) (nat_size.f n) (nat_cut.f n) n idJ
theorem q1023 (n x0) : I n 1023 [] (s1023 x0) = l1023 n x0 := e1023
theorem q8181 (n m) : ∀ x0 x1 x2 x3 x4 x5, I n 8181 [m] (s8181 x0 x1 x2 x3 x4 x5) = l8181 n m x0 x1 x2 x3 x4 x5 := by
  induction m with
  | zero => intros; rfl
  | succ m ih =>
    intros
    exact e8181.trans (Eq.trans (cf6 (congr (congrArg (b8181 _ _ _ _) (fu1 (q1023 n))) (fu6 (ih))) _ _ _ _ _ _) rfl)
theorem ok {n  l0 a1 r} (h : f n l0 a1 = some r) : CallD Tryz.prog HW 88 [.ro .u64 l0, .int .i64 a1] (sg.enc r) :=
  fun_some hwS Tryz.func88 (by kernel_rfl) (body := code) (by kernel_rfl) tys_ok (c := cfg bits_Mul64.f (nat_big.f n) (nat_size.f n) (nat_cut.f n)) (orCall_ok bits_Mul64.call_ok (orCall_ok (nat_big.call_ok (n := n)) (orCall_ok (nat_size.call_ok (n := n)) (orCall_ok (nat_cut.call_ok (n := n)) noCall_ok)))) noW_ok (by kernel_rfl) (by kernel_rfl) (Nat.le_of_ble_eq_true (by kernel_rfl)) (Eq.trans ((e0 (n := n)).trans (Eq.trans (cf2 (congrArg (b0 _ _ _ _) (fu6 (q8181 n n))) _ _) rfl)) h)
noncomputable def call {α : Type} (g : T16) (ds : List D) (K : List D→Ω α) : Ω α := match ds with
  | [.ro .u64 l0, .int .i64 a1] => (g l0 a1).bind fun r => K (sg.enc r)
  | _ => none
theorem call_ok {α : Type} {n : Nat} : COK Tryz.prog HW 88 (call (α := α) (f n)) := fun _ _ _ h => by
  unfold call at h; split at h
  · exact cok h fun _ => ok
  · cases h
end nat_Shl
/-! ### ieee_near: function 90 -/
namespace ieee_near
noncomputable def b0 (a0 : Int) : Ω (Int) := some (mx (-1099511627776) (mn 1099511627776 a0))
noncomputable def f (a0 : Int) : Ω (Int) := b0 a0
noncomputable def sg : Sig (Int) := s1 (sInt .i64)
noncomputable def code : Code := (Tryz.f90.body).getD .skip
noncomputable def cfg : Cfg (Int) := { T := tys, call := noCall }
noncomputable def cuts : List (Nat × List (Nat × Want)) := []
theorem e0 {n J a0} : afun cfg J cuts n code Tryz.f90.results.toList [false] [.int .i64 a0] sg.out = b0 a0 := by kernel_rfl
theorem ok {a0 r} (h : f a0 = some r) : CallD Tryz.prog HW 90 [.int .i64 a0] (sg.enc r) :=
  fun_some hwS Tryz.func90 (by kernel_rfl) (body := code) (by kernel_rfl) tys_ok (c := cfg) noCall_ok noW_ok (by kernel_rfl) (by kernel_rfl) (Nat.le_of_ble_eq_true (by kernel_rfl)) (Eq.trans ((e0 (n := 0))) h)
noncomputable def call {α : Type} (g : T0) (ds : List D) (K : List D→Ω α) : Ω α := match ds with
  | [.int .i64 a0] => (g a0).bind fun r => K (sg.enc r)
  | _ => none
theorem call_ok {α : Type} : COK Tryz.prog HW 90 (call (α := α) f) := fun _ _ _ h => by
  unfold call at h; split at h
  · exact cok h fun _ => ok
  · cases h
end ieee_near
/-! ### bits_Len64: function 67 -/
namespace bits_Len64
def f (a0 : Int) : Ω (Int) := if 0 ≤ a0 ∧ a0 ≤ 18446744073709551615 then some (Lib.bitLen a0.toNat : Nat) else none
def sg : Sig (Int) := s1 (sInt .i64)
theorem ok {a0 : Int} {r : Int} (h : f a0 = some r) : CallD Tryz.prog HW 67 [.int .u64 a0] (sg.enc r) := by
  unfold f at h
  split at h
  · rename_i hh
    obtain rfl := Option.some.inj h
    refine calld_scal rfl rfl fun w _ => .inl ⟨_, Tryz.func67, by kernel_rfl, by kernel_rfl, (Go.Proofs.YtobocamcoaeliaaGreatDoorG.len64 a0 w hh.1 hh.2).mono ?_⟩
    rintro e w' ⟨rfl, rfl⟩
    exact ⟨_, rfl, rfl, rfl⟩
  · cases h
noncomputable def call {α : Type} (g : T0) (ds : List D) (K : List D→Ω α) : Ω α := match ds with
  | [.int .u64 a0] => (g a0).bind fun r => K (sg.enc r)
  | _ => none
theorem call_ok {α : Type} : COK Tryz.prog HW 67 (call (α := α) f) := fun _ _ _ h => by
  unfold call at h; split at h
  · exact cok h fun _ => ok
  · cases h
end bits_Len64
/-! ### nat_BitLen: function 119 -/
namespace nat_BitLen
noncomputable def b0 (c67 : T0) (c142 : T1) (l0 : Λ) : Ω (Int) := ((c142 l0).bind fun t1 => (if t1 = 0 then some 0 else (if 0 ≤ (wrap64 (t1 - 1)) then (if (wrap64 (t1 - 1)) < (ln l0) then ((c67 (rd l0 (wrap64 (t1 - 1)))).bind fun t2 => some (wrap64 ((wrap64 (64 * (wrap64 (t1 - 1)))) + t2))) else none) else none)))
noncomputable def f (n : Nat) (l0 : Λ) : Ω (Int) := b0 bits_Len64.f (nat_size.f n) l0
noncomputable def sg : Sig (Int) := s1 (sInt .i64)
noncomputable def code : Code := (Tryz.f119.body).getD .skip
noncomputable def cfg (c67 : T0) (c142 : T1) : Cfg (Int) := { T := tys, call := orCall 67 (bits_Len64.call c67) (orCall 142 (nat_size.call c142) (noCall)) }
noncomputable def cuts : List (Nat × List (Nat × Want)) := []
theorem e0 {c67 c142 n J l0} : afun (cfg c67 c142) J cuts n code Tryz.f119.results.toList [false] [.ro .u64 l0] sg.out = b0 c67 c142 l0 := by kernel_rfl
theorem ok {n  l0 r} (h : f n l0 = some r) : CallD Tryz.prog HW 119 [.ro .u64 l0] (sg.enc r) :=
  fun_some hwS Tryz.func119 (by kernel_rfl) (body := code) (by kernel_rfl) tys_ok (c := cfg bits_Len64.f (nat_size.f n)) (orCall_ok bits_Len64.call_ok (orCall_ok (nat_size.call_ok (n := n)) noCall_ok)) noW_ok (by kernel_rfl) (by kernel_rfl) (Nat.le_of_ble_eq_true (by kernel_rfl)) (Eq.trans ((e0 (n := n))) h)
noncomputable def call {α : Type} (g : T1) (ds : List D) (K : List D→Ω α) : Ω α := match ds with
  | [.ro .u64 l0] => (g l0).bind fun r => K (sg.enc r)
  | _ => none
theorem call_ok {α : Type} {n : Nat} : COK Tryz.prog HW 119 (call (α := α) (f n)) := fun _ _ _ h => by
  unfold call at h; split at h
  · exact cok h fun _ => ok
  · cases h
end nat_BitLen
/-! ### bits_TrailingZeros64: function 69 -/
namespace bits_TrailingZeros64
def f (a0 : Int) : Ω (Int) := if 0 ≤ a0 ∧ a0 < 18446744073709551616 then some (Lib.ctz 64 a0.toNat : Nat) else none
def sg : Sig (Int) := s1 (sInt .i64)
set_option maxHeartbeats 1000000 in
theorem core (x k idx : Nat) (w : World) (hx0 : ((x : Int) == 0) = false)
    (key : IntKind.u64.wrap (bits BinOp.and IntKind.u64 (x : Int) (IntKind.u64.wrap (-(x : Int))) * 285870213051353865) / 288230376151711744 = (idx : Int))
    (hi : idx < 64) (hk : k < 64) (hcell : w.cell? ⟨0, idx, none⟩ = some (.int .u8 k)) :
    Calls Tryz.prog 69 #[.int .u64 x] w fun e w' => e = .returned (.int .i64 k) ∧ w' = w := by
  go_enter Tryz.func69, Tryz.ntmps69
  go_wp2_with (simp only [key])
  go_ret
  exact ⟨rfl, rfl⟩
theorem zero (w : World) : Calls Tryz.prog 69 #[.int .u64 0] w fun e w' => e = .returned (.int .i64 64) ∧ w' = w := by
  go_enter Tryz.func69, Tryz.ntmps69
  go_wp2
  go_ret
  exact ⟨rfl, rfl⟩
theorem ok {a0 : Int} {r : Int} (h : f a0 = some r) : CallD Tryz.prog HW 69 [.int .u64 a0] (sg.enc r) := by
  unfold f at h
  split at h
  · rename_i hh
    obtain rfl := Option.some.inj h
    refine calld_scal rfl rfl fun w hw => .inl ⟨_, Tryz.func69, by kernel_rfl, by kernel_rfl, ?_⟩
    obtain ⟨x, rfl⟩ := Int.eq_ofNat_of_zero_le hh.1
    have hx : x < 18446744073709551616 := by omega
    show Calls Tryz.prog 69 #[.int .u64 x] w _
    rw [Int.toNat_natCast]
    by_cases hx0 : x = 0
    · subst hx0
      refine (zero w).mono ?_
      rintro e w' ⟨rfl, rfl⟩
      exact ⟨_, rfl, rfl, rfl⟩
    · obtain ⟨hlow, hk⟩ := Lib.lowest_bit 64 x hx0 hx
      obtain ⟨hi, htab⟩ := Lib.deBruijn64_at _ hk
      have hcell := hw _ hi
      rw [htab] at hcell
      refine (core x _ _ w (by simp; omega) (tz64_key x _ hx hx0 hlow) hi hk hcell).mono ?_
      rintro e w' ⟨rfl, rfl⟩
      exact ⟨_, rfl, rfl, rfl⟩
  · cases h
noncomputable def call {α : Type} (g : T0) (ds : List D) (K : List D→Ω α) : Ω α := match ds with
  | [.int .u64 a0] => (g a0).bind fun r => K (sg.enc r)
  | _ => none
theorem call_ok {α : Type} : COK Tryz.prog HW 69 (call (α := α) f) := fun _ _ _ h => by
  unfold call at h; split at h
  · exact cok h fun _ => ok
  · cases h
end bits_TrailingZeros64
/-! ### nat_Trail: function 120 -/
namespace nat_Trail
noncomputable def b0 (c69 : T0) (k53 : Λ→Int→Int→Ω (Int)) (l0 : Λ) : Ω (Int) := k53 l0 (ln l0) 0
noncomputable def b53 (c69 : T0) (k53 : Λ→Int→Int→Ω (Int)) (x0 : Λ) (x1 x2 : Int) : Ω (Int) := (if x2 < x1 then (if 0 ≤ x2 then (if x2 < (ln x0) then (if ¬ (rd x0 x2) = 0 then ((c69 (rd x0 x2)).bind fun t1 => some (wrap64 ((wrap64 (64 * x2)) + t1))) else k53 x0 x1 (wrap64 (x2 + 1))) else none) else none) else some 0)
noncomputable def l53 (n : Nat) : Nat→Λ→Int→Int→Ω (Int)
  | 0, _, _, _ => none
  | m + 1, x0, x1, x2 => b53 bits_TrailingZeros64.f (l53 n m) x0 x1 x2
noncomputable def f (n : Nat) (l0 : Λ) : Ω (Int) := b0 bits_TrailingZeros64.f (l53 n n) l0
noncomputable def sg : Sig (Int) := s1 (sInt .i64)
noncomputable def code : Code := (Tryz.f120.body).getD .skip
noncomputable def cfg (c69 : T0) : Cfg (Int) := { T := tys, call := orCall 69 (bits_TrailingZeros64.call c69) (noCall) }
noncomputable def cuts : List (Nat × List (Nat × Want)) := [(53, [(5, .keep), (6, .keep), (7, .keep)])]
noncomputable def s53 (x0 : Λ) (x1 x2 : Int) : ASt := ⟨[(5, .ro .u64 x0), (6, .int .i64 x1), (7, .int .i64 x2)], []⟩
noncomputable def A (c69 : T0) (n : Nat) (J : Jt (Int)) (q : Nat) (ms : List Nat) : ASt→Ω (Int) := acont (cfg c69) J cuts n q code 1 ms (aend (cfg c69) Tryz.f120.results.toList [false] sg.out)
theorem e0 {c69 n J l0} : afun (cfg c69) J cuts n code Tryz.f120.results.toList [false] [.ro .u64 l0] sg.out = b0 c69 (fun y0 y1 y2 => J 53 (A c69 n J 53 [n]) (s53 y0 y1 y2)) l0 := by kernel_rfl
theorem e53 {c69 n J m x0 x1 x2} : A c69 n J 53 [m + 1] (s53 x0 x1 x2) = b53 c69 (fun y0 y1 y2 => J 53 (A c69 n J 53 [m]) (s53 y0 y1 y2)) x0 x1 x2 := by kernel_rfl
noncomputable abbrev I (n : Nat) := A bits_TrailingZeros64.f n idJ
theorem q53 (n m) : ∀ x0 x1 x2, I n 53 [m] (s53 x0 x1 x2) = l53 n m x0 x1 x2 := by
  induction m with
  | zero => intros; rfl
  | succ m ih =>
    intros
    exact e53.trans (Eq.trans (cf3 (congrArg (b53 _) (fu3 (ih))) _ _ _) rfl)
theorem ok {n  l0 r} (h : f n l0 = some r) : CallD Tryz.prog HW 120 [.ro .u64 l0] (sg.enc r) :=
  fun_some hwS Tryz.func120 (by kernel_rfl) (body := code) (by kernel_rfl) tys_ok (c := cfg bits_TrailingZeros64.f) (orCall_ok bits_TrailingZeros64.call_ok noCall_ok) noW_ok (by kernel_rfl) (by kernel_rfl) (Nat.le_of_ble_eq_true (by kernel_rfl)) (Eq.trans ((e0 (n := n)).trans (Eq.trans (cf1 (congrArg (b0 _) (fu3 (q53 n n))) _) rfl)) h)
noncomputable def call {α : Type} (g : T1) (ds : List D) (K : List D→Ω α) : Ω α := match ds with
  | [.ro .u64 l0] => (g l0).bind fun r => K (sg.enc r)
  | _ => none
theorem call_ok {α : Type} {n : Nat} : COK Tryz.prog HW 120 (call (α := α) (f n)) := fun _ _ _ h => by
  unfold call at h; split at h
  · exact cok h fun _ => ok
  · cases h
end nat_Trail
/-! ### nat_Shr: function 144 -/
namespace nat_Shr
noncomputable def b0 (c120 : T1) (c141 : T5) (c142 : T1) (c143 : T11) (k31 : Λ→Int→Bool→Ω (Λ × Bool × Int)) (l0 : Λ) (a1 : Int) : Ω (Λ × Bool × Int) := ((c141 l0).bind fun t1 => (if t1 = true then some (([] : Λ), false, 2) else (if a1 < 0 then some (([] : Λ), false, 1) else ((c142 l0).bind fun t2 => (if t2 > 0 then ((c120 l0).bind fun t3 => k31 l0 a1 (decide (t3 < a1))) else k31 l0 a1 false)))))
noncomputable def b31 (c120 : T1) (c141 : T5) (c142 : T1) (c143 : T11) (k8181 : T73) (x0 : Λ) (x1 : Int) (x2 : Bool) : Ω (Λ × Bool × Int) := ((c142 x0).bind fun t1 => (if 0 ≤ t1 then (if t1 ≤ (ln x0) then ((some (x0.take t1.toNat) : Ω (Λ)).bind fun y2 => (if x1 ≥ (wrap64 (64 * (ln y2))) then some (([] : Λ), x2, 0) else (if 0 ≤ (wrap64 ((ln y2) - (wrap64 (Int.tdiv x1 64)))) then (if (wrap64 ((ln y2) - (wrap64 (Int.tdiv x1 64)))).toNat ≤ 35184372088832 then k8181 y2 x2 (wrap64 (Int.tdiv x1 64)) (IntKind.u64.wrap (Int.tmod x1 64)) (ln (List.replicate (wrap64 ((ln y2) - (wrap64 (Int.tdiv x1 64)))).toNat (0 : Int))) 0 (List.replicate (wrap64 ((ln y2) - (wrap64 (Int.tdiv x1 64)))).toNat (0 : Int)) else none) else none))) else none) else none))
noncomputable def b1023 (c120 : T1) (c141 : T5) (c142 : T1) (c143 : T11) (x0 : Bool) (x1 : Λ) : Ω (Λ × Bool × Int) := ((c143 x1).bind fun t1 => some (t1.1, x0, t1.2))
noncomputable def b8181 (c120 : T1) (c141 : T5) (c142 : T1) (c143 : T11) (k1023 : Bool→Λ→Ω (Λ × Bool × Int)) (k8181 : T73) (x0 : Λ) (x1 : Bool) (x2 x3 x4 x5 : Int) (x6 : Λ) : Ω (Λ × Bool × Int) := (if x5 < x4 then (if 0 ≤ (wrap64 (x2 + x5)) then (if (wrap64 (x2 + x5)) < (ln x0) then (if 0 ≤ x3 then (if (wrap64 ((wrap64 (x2 + x5)) + 1)) < (ln x0) then (if x3 > 0 then (if 0 ≤ (wrap64 ((wrap64 (x2 + x5)) + 1)) then (if (wrap64 ((wrap64 (x2 + x5)) + 1)) < (ln x0) then (if 0 ≤ (IntKind.u64.wrap (64 - x3)) then (if 0 ≤ x5 then (if x5 < (ln x6) then k8181 x0 x1 x2 x3 x4 (wrap64 (x5 + 1)) (x6.set (x5 : Int).toNat (Go.bits .or .u64 (shr .u64 (rd x0 (wrap64 (x2 + x5))) x3) (shl .u64 (rd x0 (wrap64 ((wrap64 (x2 + x5)) + 1))) (IntKind.u64.wrap (64 - x3))))) else none) else none) else none) else none) else none) else (if 0 ≤ x5 then (if x5 < (ln x6) then k8181 x0 x1 x2 x3 x4 (wrap64 (x5 + 1)) (x6.set (x5 : Int).toNat (shr .u64 (rd x0 (wrap64 (x2 + x5))) x3)) else none) else none)) else (if 0 ≤ x5 then (if x5 < (ln x6) then k8181 x0 x1 x2 x3 x4 (wrap64 (x5 + 1)) (x6.set (x5 : Int).toNat (shr .u64 (rd x0 (wrap64 (x2 + x5))) x3)) else none) else none)) else none) else none) else none) else k1023 x1 x6)
noncomputable def l1023 (n : Nat) (x0 : Bool) (x1 : Λ) : Ω (Λ × Bool × Int) := b1023 (nat_Trail.f n) (nat_big.f n) (nat_size.f n) (nat_cut.f n) x0 x1
noncomputable def l8181 (n : Nat) : Nat→Λ→Bool→Int→Int→Int→Int→Λ→Ω (Λ × Bool × Int)
  | 0, _, _, _, _, _, _, _ => none
  | m + 1, x0, x1, x2, x3, x4, x5, x6 => b8181 (nat_Trail.f n) (nat_big.f n) (nat_size.f n) (nat_cut.f n) (l1023 n) (l8181 n m) x0 x1 x2 x3 x4 x5 x6
noncomputable def l31 (n : Nat) (x0 : Λ) (x1 : Int) (x2 : Bool) : Ω (Λ × Bool × Int) := b31 (nat_Trail.f n) (nat_big.f n) (nat_size.f n) (nat_cut.f n) (l8181 n n) x0 x1 x2
noncomputable def f (n : Nat) (l0 : Λ) (a1 : Int) : Ω (Λ × Bool × Int) := b0 (nat_Trail.f n) (nat_big.f n) (nat_size.f n) (nat_cut.f n) (l31 n) l0 a1
noncomputable def sg : Sig (Λ × Bool × Int) := s2 (sRow .u64) (s2 (sBool) (s1 (sInt .i64)))
noncomputable def code : Code := (Tryz.f144.body).getD .skip
noncomputable def cfg (c120 : T1) (c141 : T5) (c142 : T1) (c143 : T11) : Cfg (Λ × Bool × Int) := { T := tys, call := orCall 120 (nat_Trail.call c120) (orCall 141 (nat_big.call c141) (orCall 142 (nat_size.call c142) (orCall 143 (nat_cut.call c143) (noCall)))) }
noncomputable def cuts : List (Nat × List (Nat × Want)) := [(31, [(0, .keep), (1, .keep), (7, .keep)]), (1023, [(7, .keep), (10, .keep)]), (8181, [(0, .keep), (7, .keep), (8, .keep), (9, .keep), (10, .keep), (49, .keep), (50, .keep)])]
noncomputable def s31 (x0 : Λ) (x1 : Int) (x2 : Bool) : ASt := ⟨[(0, .ro .u64 x0), (1, .int .i64 x1), (7, .bool x2)], []⟩
noncomputable def s1023 (x0 : Bool) (x1 : Λ) : ASt := ⟨[(7, .bool x0), (10, .own 0)], [.ints 24 .u64 x1]⟩
noncomputable def s8181 (x0 : Λ) (x1 : Bool) (x2 x3 x4 x5 : Int) (x6 : Λ) : ASt := ⟨[(0, .ro .u64 x0), (7, .bool x1), (8, .int .i64 x2), (9, .int .u64 x3), (10, .own 0), (49, .int .i64 x4), (50, .int .i64 x5)], [.ints 24 .u64 x6]⟩
noncomputable def A (c120 : T1) (c141 : T5) (c142 : T1) (c143 : T11) (n : Nat) (J : Jt (Λ × Bool × Int)) (q : Nat) (ms : List Nat) : ASt→Ω (Λ × Bool × Int) := acont (cfg c120 c141 c142 c143) J cuts n q code 1 ms (aend (cfg c120 c141 c142 c143) Tryz.f144.results.toList [false, false, false] sg.out)
theorem e0 {c120 c141 c142 c143 n J l0 a1} : afun (cfg c120 c141 c142 c143) J cuts n code Tryz.f144.results.toList [false, false, false] [.ro .u64 l0, .int .i64 a1] sg.out = b0 c120 c141 c142 c143 (fun y0 y1 y2 => J 31 (A c120 c141 c142 c143 n J 31 []) (s31 y0 y1 y2)) l0 a1 := by kernel_rfl
theorem e31 {c120 c141 c142 c143 n J x0 x1 x2} : A c120 c141 c142 c143 n J 31 [] (s31 x0 x1 x2) = b31 c120 c141 c142 c143 (fun y0 y1 y2 y3 y4 y5 y6 => J 8181 (A c120 c141 c142 c143 n J 8181 [n]) (s8181 y0 y1 y2 y3 y4 y5 y6)) x0 x1 x2 := by kernel_rfl
theorem e1023 {c120 c141 c142 c143 n J x0 x1} : A c120 c141 c142 c143 n J 1023 [] (s1023 x0 x1) = b1023 c120 c141 c142 c143 x0 x1 := by kernel_rfl
theorem e8181 {c120 c141 c142 c143 n J m x0 x1 x2 x3 x4 x5 x6} : A c120 c141 c142 c143 n J 8181 [m + 1] (s8181 x0 x1 x2 x3 x4 x5 x6) = b8181 c120 c141 c142 c143 (fun y0 y1 => J 1023 (A c120 c141 c142 c143 n J 1023 []) (s1023 y0 y1)) (fun y0 y1 y2 y3 y4 y5 y6 => J 8181 (A c120 c141 c142 c143 n J 8181 [m]) (s8181 y0 y1 y2 y3 y4 y5 y6)) x0 x1 x2 x3 x4 x5 x6 := by kernel_rfl
noncomputable abbrev I (n : Nat) := A (nat_Trail.f n) (nat_big.f n) (nat_size.f n) (nat_cut.f n) n idJ
theorem q1023 (n x0 x1) : I n 1023 [] (s1023 x0 x1) = l1023 n x0 x1 := e1023
theorem q8181 (n m) : ∀ x0 x1 x2 x3 x4 x5 x6, I n 8181 [m] (s8181 x0 x1 x2 x3 x4 x5 x6) = l8181 n m x0 x1 x2 x3 x4 x5 x6 := by
  induction m with
  | zero => intros; rfl
  | succ m ih =>
    intros
    exact e8181.trans (Eq.trans (cf7 (congr (congrArg (b8181 _ _ _ _) (fu2 (q1023 n))) (fu7 (ih))) _ _ _ _ _ _ _) rfl)
theorem q31 (n x0 x1 x2) : I n 31 [] (s31 x0 x1 x2) = l31 n x0 x1 x2 := e31.trans (Eq.trans (cf3 (congrArg (b31 _ _ _ _) (fu7 (q8181 n n))) _ _ _) rfl)
theorem ok {n  l0 a1 r} (h : f n l0 a1 = some r) : CallD Tryz.prog HW 144 [.ro .u64 l0, .int .i64 a1] (sg.enc r) :=
  fun_some hwS Tryz.func144 (by kernel_rfl) (body := code) (by kernel_rfl) tys_ok (c := cfg (nat_Trail.f n) (nat_big.f n) (nat_size.f n) (nat_cut.f n)) (orCall_ok (nat_Trail.call_ok (n := n)) (orCall_ok (nat_big.call_ok (n := n)) (orCall_ok (nat_size.call_ok (n := n)) (orCall_ok (nat_cut.call_ok (n := n)) noCall_ok)))) noW_ok (by kernel_rfl) (by kernel_rfl) (Nat.le_of_ble_eq_true (by kernel_rfl)) (Eq.trans ((e0 (n := n)).trans (Eq.trans (cf2 (congrArg (b0 _ _ _ _) (fu3 (q31 n))) _ _) rfl)) h)
noncomputable def call {α : Type} (g : T20) (ds : List D) (K : List D→Ω α) : Ω α := match ds with
  | [.ro .u64 l0, .int .i64 a1] => (g l0 a1).bind fun r => K (sg.enc r)
  | _ => none
theorem call_ok {α : Type} {n : Nat} : COK Tryz.prog HW 144 (call (α := α) (f n)) := fun _ _ _ h => by
  unfold call at h; split at h
  · exact cok h fun _ => ok
  · cases h
end nat_Shr
/-! ### nat_ToUint: function 145 -/
namespace nat_ToUint
noncomputable def b0 (c142 : T1) (l0 : Λ) : Ω (Int × Bool) := ((c142 l0).bind fun t1 => (if t1 = 0 then some (0, true) else (if t1 = 1 then (if 0 < (ln l0) then some (rd l0 0, true) else none) else some (0, false))))
noncomputable def f (n : Nat) (l0 : Λ) : Ω (Int × Bool) := b0 (nat_size.f n) l0
noncomputable def sg : Sig (Int × Bool) := s2 (sInt .u64) (s1 (sBool))
noncomputable def code : Code := (Tryz.f145.body).getD .skip
noncomputable def cfg (c142 : T1) : Cfg (Int × Bool) := { T := tys, call := orCall 142 (nat_size.call c142) (noCall) }
noncomputable def cuts : List (Nat × List (Nat × Want)) := []
theorem e0 {c142 n J l0} : afun (cfg c142) J cuts n code Tryz.f145.results.toList [false, false] [.ro .u64 l0] sg.out = b0 c142 l0 := by kernel_rfl
theorem ok {n  l0 r} (h : f n l0 = some r) : CallD Tryz.prog HW 145 [.ro .u64 l0] (sg.enc r) :=
  fun_some hwS Tryz.func145 (by kernel_rfl) (body := code) (by kernel_rfl) tys_ok (c := cfg (nat_size.f n)) (orCall_ok (nat_size.call_ok (n := n)) noCall_ok) noW_ok (by kernel_rfl) (by kernel_rfl) (Nat.le_of_ble_eq_true (by kernel_rfl)) (Eq.trans ((e0 (n := n))) h)
noncomputable def call {α : Type} (g : T22) (ds : List D) (K : List D→Ω α) : Ω α := match ds with
  | [.ro .u64 l0] => (g l0).bind fun r => K (sg.enc r)
  | _ => none
theorem call_ok {α : Type} {n : Nat} : COK Tryz.prog HW 145 (call (α := α) (f n)) := fun _ _ _ h => by
  unfold call at h; split at h
  · exact cok h fun _ => ok
  · cases h
end nat_ToUint
/-! ### nat_Bit: function 146 -/
namespace nat_Bit
noncomputable def b0 (l0 : Λ) (a1 : Int) : Ω (Int) := (if a1 < 0 then some 0 else (if (wrap64 (Int.tdiv a1 64)) ≥ (ln l0) then some 0 else (if 0 ≤ (wrap64 (Int.tdiv a1 64)) then (if (wrap64 (Int.tdiv a1 64)) < (ln l0) then (if 0 ≤ (IntKind.u64.wrap (Int.tmod a1 64)) then some (wrap64 (Go.bits .and .u64 (shr .u64 (rd l0 (wrap64 (Int.tdiv a1 64))) (IntKind.u64.wrap (Int.tmod a1 64))) 1)) else none) else none) else none)))
noncomputable def f (l0 : Λ) (a1 : Int) : Ω (Int) := b0 l0 a1
noncomputable def sg : Sig (Int) := s1 (sInt .i64)
noncomputable def code : Code := (Tryz.f146.body).getD .skip
noncomputable def cfg : Cfg (Int) := { T := tys, call := noCall }
noncomputable def cuts : List (Nat × List (Nat × Want)) := []
theorem e0 {n J l0 a1} : afun cfg J cuts n code Tryz.f146.results.toList [false] [.ro .u64 l0, .int .i64 a1] sg.out = b0 l0 a1 := by kernel_rfl
theorem ok {l0 a1 r} (h : f l0 a1 = some r) : CallD Tryz.prog HW 146 [.ro .u64 l0, .int .i64 a1] (sg.enc r) :=
  fun_some hwS Tryz.func146 (by kernel_rfl) (body := code) (by kernel_rfl) tys_ok (c := cfg) noCall_ok noW_ok (by kernel_rfl) (by kernel_rfl) (Nat.le_of_ble_eq_true (by kernel_rfl)) (Eq.trans ((e0 (n := 0))) h)
noncomputable def call {α : Type} (g : T13) (ds : List D) (K : List D→Ω α) : Ω α := match ds with
  | [.ro .u64 l0, .int .i64 a1] => (g l0 a1).bind fun r => K (sg.enc r)
  | _ => none
theorem call_ok {α : Type} : COK Tryz.prog HW 146 (call (α := α) f) := fun _ _ _ h => by
  unfold call at h; split at h
  · exact cok h fun _ => ok
  · cases h
end nat_Bit
/-! ### ieee_magnitude: function 89 -/
namespace ieee_magnitude
noncomputable def b0 (c119 c120 : T1) (c144 : T20) (c145 : T22) (c146 : T13) (k255 : T9) (l0 : Λ) (a1 : Int) (a2 : Bool) : Ω (Int) := ((c119 l0).bind fun t1 => (if (ln l0) = 0 then some 0 else (if (wrap64 (t1 + a1)) < (-1074) then some 0 else (if (wrap64 (t1 + a1)) > 1024 then some 9218868437227405312 else (if (wrap64 ((mx (wrap64 ((wrap64 (t1 + a1)) - 53)) (-1074)) - a1)) ≤ 0 then (if 0 < (ln l0) then (if 0 ≤ (IntKind.u64.wrap (wrap64 (-(wrap64 ((mx (wrap64 ((wrap64 (t1 + a1)) - 53)) (-1074)) - a1))))) then k255 (mx (wrap64 ((wrap64 (t1 + a1)) - 53)) (-1074)) (shl .u64 (rd l0 0) (IntKind.u64.wrap (wrap64 (-(wrap64 ((mx (wrap64 ((wrap64 (t1 + a1)) - 53)) (-1074)) - a1)))))) else none) else none) else ((c144 l0 (wrap64 ((mx (wrap64 ((wrap64 (t1 + a1)) - 53)) (-1074)) - a1))).bind fun t2 => ((c145 t2.1).bind fun t3 => ((c146 l0 (wrap64 ((wrap64 ((mx (wrap64 ((wrap64 (t1 + a1)) - 53)) (-1074)) - a1)) - 1))).bind fun t4 => (if t4 = 1 then (if a2 = true then k255 (mx (wrap64 ((wrap64 (t1 + a1)) - 53)) (-1074)) (IntKind.u64.wrap (t3.1 + 1)) else (if (Go.bits .and .u64 t3.1 1) = 1 then k255 (mx (wrap64 ((wrap64 (t1 + a1)) - 53)) (-1074)) (IntKind.u64.wrap (t3.1 + 1)) else ((c120 l0).bind fun t5 => (if t5 < (wrap64 ((wrap64 ((mx (wrap64 ((wrap64 (t1 + a1)) - 53)) (-1074)) - a1)) - 1)) then k255 (mx (wrap64 ((wrap64 (t1 + a1)) - 53)) (-1074)) (IntKind.u64.wrap (t3.1 + 1)) else k255 (mx (wrap64 ((wrap64 (t1 + a1)) - 53)) (-1074)) t3.1)))) else k255 (mx (wrap64 ((wrap64 (t1 + a1)) - 53)) (-1074)) t3.1)))))))))
noncomputable def b255 (c119 c120 : T1) (c144 : T20) (c145 : T22) (c146 : T13) (x0 x1 : Int) : Ω (Int) := some (IntKind.u64.wrap ((IntKind.u64.wrap ((IntKind.u64.wrap (wrap64 (x0 - (-1074)))) * 4503599627370496)) + x1))
noncomputable def l255 (n : Nat) (x0 x1 : Int) : Ω (Int) := b255 (nat_BitLen.f n) (nat_Trail.f n) (nat_Shr.f n) (nat_ToUint.f n) nat_Bit.f x0 x1
noncomputable def f (n : Nat) (l0 : Λ) (a1 : Int) (a2 : Bool) : Ω (Int) := b0 (nat_BitLen.f n) (nat_Trail.f n) (nat_Shr.f n) (nat_ToUint.f n) nat_Bit.f (l255 n) l0 a1 a2
noncomputable def sg : Sig (Int) := s1 (sInt .u64)
noncomputable def code : Code := (Tryz.f89.body).getD .skip
noncomputable def cfg (c119 c120 : T1) (c144 : T20) (c145 : T22) (c146 : T13) : Cfg (Int) := { T := tys, call := orCall 119 (nat_BitLen.call c119) (orCall 120 (nat_Trail.call c120) (orCall 144 (nat_Shr.call c144) (orCall 145 (nat_ToUint.call c145) (orCall 146 (nat_Bit.call c146) (noCall))))) }
noncomputable def cuts : List (Nat × List (Nat × Want)) := [(255, [(8, .keep), (10, .keep)])]
noncomputable def s255 (x0 x1 : Int) : ASt := ⟨[(8, .int .i64 x0), (10, .int .u64 x1)], []⟩
noncomputable def A (c119 c120 : T1) (c144 : T20) (c145 : T22) (c146 : T13) (n : Nat) (J : Jt (Int)) (q : Nat) (ms : List Nat) : ASt→Ω (Int) := acont (cfg c119 c120 c144 c145 c146) J cuts n q code 1 ms (aend (cfg c119 c120 c144 c145 c146) Tryz.f89.results.toList [false] sg.out)
theorem e0 {c119 c120 c144 c145 c146 n J l0 a1 a2} : afun (cfg c119 c120 c144 c145 c146) J cuts n code Tryz.f89.results.toList [false] [.ro .u64 l0, .int .i64 a1, .bool a2] sg.out = b0 c119 c120 c144 c145 c146 (fun y0 y1 => J 255 (A c119 c120 c144 c145 c146 n J 255 []) (s255 y0 y1)) l0 a1 a2 := by kernel_rfl
theorem e255 {c119 c120 c144 c145 c146 n J x0 x1} : A c119 c120 c144 c145 c146 n J 255 [] (s255 x0 x1) = b255 c119 c120 c144 c145 c146 x0 x1 := by kernel_rfl
noncomputable abbrev I (n : Nat) := A (nat_BitLen.f n) (nat_Trail.f n) (nat_Shr.f n) (nat_ToUint.f n) nat_Bit.f n idJ
theorem q255 (n x0 x1) : I n 255 [] (s255 x0 x1) = l255 n x0 x1 := e255
theorem ok {n  l0 a1 a2 r} (h : f n l0 a1 a2 = some r) : CallD Tryz.prog HW 89 [.ro .u64 l0, .int .i64 a1, .bool a2] (sg.enc r) :=
  fun_some hwS Tryz.func89 (by kernel_rfl) (body := code) (by kernel_rfl) tys_ok (c := cfg (nat_BitLen.f n) (nat_Trail.f n) (nat_Shr.f n) (nat_ToUint.f n) nat_Bit.f) (orCall_ok (nat_BitLen.call_ok (n := n)) (orCall_ok (nat_Trail.call_ok (n := n)) (orCall_ok (nat_Shr.call_ok (n := n)) (orCall_ok (nat_ToUint.call_ok (n := n)) (orCall_ok nat_Bit.call_ok noCall_ok))))) noW_ok (by kernel_rfl) (by kernel_rfl) (Nat.le_of_ble_eq_true (by kernel_rfl)) (Eq.trans ((e0 (n := n)).trans (Eq.trans (cf3 (congrArg (b0 _ _ _ _ _) (fu2 (q255 n))) _ _ _) rfl)) h)
noncomputable def call {α : Type} (g : T59) (ds : List D) (K : List D→Ω α) : Ω α := match ds with
  | [.ro .u64 l0, .int .i64 a1, .bool a2] => (g l0 a1 a2).bind fun r => K (sg.enc r)
  | _ => none
theorem call_ok {α : Type} {n : Nat} : COK Tryz.prog HW 89 (call (α := α) (f n)) := fun _ _ _ h => by
  unfold call at h; split at h
  · exact cok h fun _ => ok
  · cases h
end ieee_magnitude
/-! ### ieee_Neg: function 91 -/
namespace ieee_Neg
noncomputable def b0 (a0 : Int) : Ω (Int) := some (Go.bits .xor .u64 a0 9223372036854775808)
noncomputable def f (a0 : Int) : Ω (Int) := b0 a0
noncomputable def sg : Sig (Int) := s1 (sInt .u64)
noncomputable def code : Code := (Tryz.f91.body).getD .skip
noncomputable def cfg : Cfg (Int) := { T := tys, call := noCall }
noncomputable def cuts : List (Nat × List (Nat × Want)) := []
theorem e0 {n J a0} : afun cfg J cuts n code Tryz.f91.results.toList [false] [.int .u64 a0] sg.out = b0 a0 := by kernel_rfl
theorem ok {a0 r} (h : f a0 = some r) : CallD Tryz.prog HW 91 [.int .u64 a0] (sg.enc r) :=
  fun_some hwS Tryz.func91 (by kernel_rfl) (body := code) (by kernel_rfl) tys_ok (c := cfg) noCall_ok noW_ok (by kernel_rfl) (by kernel_rfl) (Nat.le_of_ble_eq_true (by kernel_rfl)) (Eq.trans ((e0 (n := 0))) h)
noncomputable def call {α : Type} (g : T0) (ds : List D) (K : List D→Ω α) : Ω α := match ds with
  | [.int .u64 a0] => (g a0).bind fun r => K (sg.enc r)
  | _ => none
theorem call_ok {α : Type} : COK Tryz.prog HW 91 (call (α := α) f) := fun _ _ _ h => by
  unfold call at h; split at h
  · exact cok h fun _ => ok
  · cases h
end ieee_Neg
/-! ### ieee_Round: function 37 -/
namespace ieee_Round
noncomputable def b0 (c88 : T16) (c89 : T59) (c90 c91 : T0) (a0 : Bool) (l1 : Λ) (a2 : Int) (a3 : Bool) : Ω (Int × Int) := ((c88 l1 0).bind fun t1 => (if ¬ t1.2 = 0 then some (0, t1.2) else ((c90 a2).bind fun t2 => ((c89 t1.1 t2 a3).bind fun t3 => (if a0 = true then ((c91 t3).bind fun t4 => some (t4, 0)) else some (t3, 0))))))
noncomputable def f (n : Nat) (a0 : Bool) (l1 : Λ) (a2 : Int) (a3 : Bool) : Ω (Int × Int) := b0 (nat_Shl.f n) (ieee_magnitude.f n) ieee_near.f ieee_Neg.f a0 l1 a2 a3
noncomputable def sg : Sig (Int × Int) := s2 (sInt .u64) (s1 (sInt .i64))
noncomputable def code : Code := (Tryz.f37.body).getD .skip
noncomputable def cfg (c88 : T16) (c89 : T59) (c90 c91 : T0) : Cfg (Int × Int) := { T := tys, call := orCall 88 (nat_Shl.call c88) (orCall 89 (ieee_magnitude.call c89) (orCall 90 (ieee_near.call c90) (orCall 91 (ieee_Neg.call c91) (noCall)))) }
noncomputable def cuts : List (Nat × List (Nat × Want)) := []
theorem e0 {c88 c89 c90 c91 n J a0 l1 a2 a3} : afun (cfg c88 c89 c90 c91) J cuts n code Tryz.f37.results.toList [false, false] [.bool a0, .ro .u64 l1, .int .i64 a2, .bool a3] sg.out = b0 c88 c89 c90 c91 a0 l1 a2 a3 := by kernel_rfl
theorem ok {n  a0 l1 a2 a3 r} (h : f n a0 l1 a2 a3 = some r) : CallD Tryz.prog HW 37 [.bool a0, .ro .u64 l1, .int .i64 a2, .bool a3] (sg.enc r) :=
  fun_some hwS Tryz.func37 (by kernel_rfl) (body := code) (by kernel_rfl) tys_ok (c := cfg (nat_Shl.f n) (ieee_magnitude.f n) ieee_near.f ieee_Neg.f) (orCall_ok (nat_Shl.call_ok (n := n)) (orCall_ok (ieee_magnitude.call_ok (n := n)) (orCall_ok ieee_near.call_ok (orCall_ok ieee_Neg.call_ok noCall_ok)))) noW_ok (by kernel_rfl) (by kernel_rfl) (Nat.le_of_ble_eq_true (by kernel_rfl)) (Eq.trans ((e0 (n := n))) h)
noncomputable def call {α : Type} (g : T6) (ds : List D) (K : List D→Ω α) : Ω α := match ds with
  | [.bool a0, .ro .u64 l1, .int .i64 a2, .bool a3] => (g a0 l1 a2 a3).bind fun r => K (sg.enc r)
  | _ => none
theorem call_ok {α : Type} {n : Nat} : COK Tryz.prog HW 37 (call (α := α) (f n)) := fun _ _ _ h => by
  unfold call at h; split at h
  · exact cok h fun _ => ok
  · cases h
end ieee_Round
/-! ### ieee_FromUint: function 121 -/
namespace ieee_FromUint
noncomputable def b0 (c37 : T6) (c116 : T25) (a0 : Int) : Ω (Int) := ((c116 a0).bind fun t1 => ((c37 false t1 0 false).bind fun t2 => some t2.1))
noncomputable def f (n : Nat) (a0 : Int) : Ω (Int) := b0 (ieee_Round.f n) nat_FromUint.f a0
noncomputable def sg : Sig (Int) := s1 (sInt .u64)
noncomputable def code : Code := (Tryz.f121.body).getD .skip
noncomputable def cfg (c37 : T6) (c116 : T25) : Cfg (Int) := { T := tys, call := orCall 37 (ieee_Round.call c37) (orCall 116 (nat_FromUint.call c116) (noCall)) }
noncomputable def cuts : List (Nat × List (Nat × Want)) := []
theorem e0 {c37 c116 n J a0} : afun (cfg c37 c116) J cuts n code Tryz.f121.results.toList [false] [.int .u64 a0] sg.out = b0 c37 c116 a0 := by kernel_rfl
theorem ok {n  a0 r} (h : f n a0 = some r) : CallD Tryz.prog HW 121 [.int .u64 a0] (sg.enc r) :=
  fun_some hwS Tryz.func121 (by kernel_rfl) (body := code) (by kernel_rfl) tys_ok (c := cfg (ieee_Round.f n) nat_FromUint.f) (orCall_ok (ieee_Round.call_ok (n := n)) (orCall_ok nat_FromUint.call_ok noCall_ok)) noW_ok (by kernel_rfl) (by kernel_rfl) (Nat.le_of_ble_eq_true (by kernel_rfl)) (Eq.trans ((e0 (n := n))) h)
noncomputable def call {α : Type} (g : T0) (ds : List D) (K : List D→Ω α) : Ω α := match ds with
  | [.int .u64 a0] => (g a0).bind fun r => K (sg.enc r)
  | _ => none
theorem call_ok {α : Type} {n : Nat} : COK Tryz.prog HW 121 (call (α := α) (f n)) := fun _ _ _ h => by
  unfold call at h; split at h
  · exact cok h fun _ => ok
  · cases h
end ieee_FromUint
/-! ### remain_signed: function 68 -/
namespace remain_signed
noncomputable def b0 (a0 : Bool) (a1 : Int) : Ω (Int) := (if a0 = true then some (Go.bits .or .u64 a1 9223372036854775808) else some (Go.bits .andNot .u64 a1 9223372036854775808))
noncomputable def f (a0 : Bool) (a1 : Int) : Ω (Int) := b0 a0 a1
noncomputable def sg : Sig (Int) := s1 (sInt .u64)
noncomputable def code : Code := (Tryz.f68.body).getD .skip
noncomputable def cfg : Cfg (Int) := { T := tys, call := noCall }
noncomputable def cuts : List (Nat × List (Nat × Want)) := []
theorem e0 {n J a0 a1} : afun cfg J cuts n code Tryz.f68.results.toList [false] [.bool a0, .int .u64 a1] sg.out = b0 a0 a1 := by kernel_rfl
theorem ok {a0 a1 r} (h : f a0 a1 = some r) : CallD Tryz.prog HW 68 [.bool a0, .int .u64 a1] (sg.enc r) :=
  fun_some hwS Tryz.func68 (by kernel_rfl) (body := code) (by kernel_rfl) tys_ok (c := cfg) noCall_ok noW_ok (by kernel_rfl) (by kernel_rfl) (Nat.le_of_ble_eq_true (by kernel_rfl)) (Eq.trans ((e0 (n := 0))) h)
noncomputable def call {α : Type} (g : T7) (ds : List D) (K : List D→Ω α) : Ω α := match ds with
  | [.bool a0, .int .u64 a1] => (g a0 a1).bind fun r => K (sg.enc r)
  | _ => none
theorem call_ok {α : Type} : COK Tryz.prog HW 68 (call (α := α) f) := fun _ _ _ h => by
  unfold call at h; split at h
  · exact cok h fun _ => ok
  · cases h
end remain_signed
/-! ### remain_round_64: function 63 -/
namespace remain_round_64
noncomputable def b0 (c36 : T2) (c64 : T15) (c68 : T7) (c121 : T0) (k255 : T45) (a0 : Int) : Ω (Int) := ((c36 a0).bind fun t1 => (if t1.2.1 = 4 then some 9221120237041090560 else (if t1.2.1 = 3 then some a0 else (if t1.2.1 = 0 then some a0 else (if t1.2.2.2 ≥ 0 then some a0 else (if (wrap64 (-t1.2.2.2)) ≤ 63 then (if 0 ≤ (wrap64 (-t1.2.2.2)) then (if 0 ≤ (wrap64 (-t1.2.2.2)) then (if 0 ≤ (wrap64 ((wrap64 (-t1.2.2.2)) - 1)) then (if (Go.bits .and .u64 t1.2.2.1 (IntKind.u64.wrap ((shl .u64 1 (wrap64 (-t1.2.2.2))) - 1))) = 0 then k255 (shr .u64 t1.2.2.1 (wrap64 (-t1.2.2.2))) 0 t1.1 t1.2.1 t1.2.2.1 t1.2.2.2 else (if (Go.bits .and .u64 t1.2.2.1 (IntKind.u64.wrap ((shl .u64 1 (wrap64 (-t1.2.2.2))) - 1))) = (shl .u64 1 (wrap64 ((wrap64 (-t1.2.2.2)) - 1))) then k255 (shr .u64 t1.2.2.1 (wrap64 (-t1.2.2.2))) 2 t1.1 t1.2.1 t1.2.2.1 t1.2.2.2 else (if (Go.bits .and .u64 t1.2.2.1 (IntKind.u64.wrap ((shl .u64 1 (wrap64 (-t1.2.2.2))) - 1))) > (shl .u64 1 (wrap64 ((wrap64 (-t1.2.2.2)) - 1))) then k255 (shr .u64 t1.2.2.1 (wrap64 (-t1.2.2.2))) 3 t1.1 t1.2.1 t1.2.2.1 t1.2.2.2 else k255 (shr .u64 t1.2.2.1 (wrap64 (-t1.2.2.2))) 1 t1.1 t1.2.1 t1.2.2.1 t1.2.2.2))) else none) else none) else none) else k255 0 1 t1.1 t1.2.1 t1.2.2.1 t1.2.2.2))))))
noncomputable def b255 (c36 : T2) (c64 : T15) (c68 : T7) (c121 : T0) (k511 : T36) (x0 x1 : Int) (x2 : Bool) (x3 x4 x5 : Int) : Ω (Int) := (if ¬ x1 = 0 then ((c64 x2 x0 x1).bind fun t1 => (if t1 = true then k511 (IntKind.u64.wrap (x0 + 1)) x2 x3 x4 x5 else k511 x0 x2 x3 x4 x5)) else k511 x0 x2 x3 x4 x5)
noncomputable def b511 (c36 : T2) (c64 : T15) (c68 : T7) (c121 : T0) (x0 : Int) (x1 : Bool) (x2 x3 x4 : Int) : Ω (Int) := ((c121 x0).bind fun t1 => ((c68 x1 t1).bind fun t2 => some t2))
noncomputable def l511 (n : Nat) (x0 : Int) (x1 : Bool) (x2 x3 x4 : Int) : Ω (Int) := b511 ieee_Decode.f remain_Trunc_1.f remain_signed.f (ieee_FromUint.f n) x0 x1 x2 x3 x4
noncomputable def l255 (n : Nat) (x0 x1 : Int) (x2 : Bool) (x3 x4 x5 : Int) : Ω (Int) := b255 ieee_Decode.f remain_Trunc_1.f remain_signed.f (ieee_FromUint.f n) (l511 n) x0 x1 x2 x3 x4 x5
noncomputable def f (n : Nat) (a0 : Int) : Ω (Int) := b0 ieee_Decode.f remain_Trunc_1.f remain_signed.f (ieee_FromUint.f n) (l255 n) a0
noncomputable def sg : Sig (Int) := s1 (sInt .u64)
noncomputable def code : Code := (Tryz.f63.body).getD .skip
noncomputable def cfg (c36 : T2) (c64 : T15) (c68 : T7) (c121 : T0) : Cfg (Int) := { T := tys, call := orCall 36 (ieee_Decode.call c36) (orCall 64 (remain_Trunc_1.call c64) (orCall 68 (remain_signed.call c68) (orCall 121 (ieee_FromUint.call c121) (noCall)))) }
noncomputable def cuts : List (Nat × List (Nat × Want)) := [(255, [(1, .keep), (5, .keep), (7, .keep), (8, .keep)]), (511, [(5, .keep), (7, .keep)])]
noncomputable def s255 (x0 x1 : Int) (x2 : Bool) (x3 x4 x5 : Int) : ASt := ⟨[(1, .fn 64), (5, .ptr 0 0), (7, .int .u64 x0), (8, .int .i64 x1)], [.cells 54 [.bool x2, .int .i64 x3, .int .u64 x4, .int .i64 x5]]⟩
noncomputable def s511 (x0 : Int) (x1 : Bool) (x2 x3 x4 : Int) : ASt := ⟨[(5, .ptr 0 0), (7, .int .u64 x0)], [.cells 54 [.bool x1, .int .i64 x2, .int .u64 x3, .int .i64 x4]]⟩
noncomputable def A (c36 : T2) (c64 : T15) (c68 : T7) (c121 : T0) (n : Nat) (J : Jt (Int)) (q : Nat) (ms : List Nat) : ASt→Ω (Int) := acont (cfg c36 c64 c68 c121) J cuts n q code 1 ms (aend (cfg c36 c64 c68 c121) Tryz.f63.results.toList [false] sg.out)
theorem e0 {c36 c64 c68 c121 n J a0} : afun (cfg c36 c64 c68 c121) J cuts n code Tryz.f63.results.toList [false] [.int .u64 a0, .fn 64] sg.out = b0 c36 c64 c68 c121 (fun y0 y1 y2 y3 y4 y5 => J 255 (A c36 c64 c68 c121 n J 255 []) (s255 y0 y1 y2 y3 y4 y5)) a0 := by kernel_rfl
theorem e255 {c36 c64 c68 c121 n J x0 x1 x2 x3 x4 x5} : A c36 c64 c68 c121 n J 255 [] (s255 x0 x1 x2 x3 x4 x5) = b255 c36 c64 c68 c121 (fun y0 y1 y2 y3 y4 => J 511 (A c36 c64 c68 c121 n J 511 []) (s511 y0 y1 y2 y3 y4)) x0 x1 x2 x3 x4 x5 := by kernel_rfl
theorem e511 {c36 c64 c68 c121 n J x0 x1 x2 x3 x4} : A c36 c64 c68 c121 n J 511 [] (s511 x0 x1 x2 x3 x4) = b511 c36 c64 c68 c121 x0 x1 x2 x3 x4 := by kernel_rfl
noncomputable abbrev I (n : Nat) := A ieee_Decode.f remain_Trunc_1.f remain_signed.f (ieee_FromUint.f n) n idJ
theorem q511 (n x0 x1 x2 x3 x4) : I n 511 [] (s511 x0 x1 x2 x3 x4) = l511 n x0 x1 x2 x3 x4 := e511
theorem q255 (n x0 x1 x2 x3 x4 x5) : I n 255 [] (s255 x0 x1 x2 x3 x4 x5) = l255 n x0 x1 x2 x3 x4 x5 := e255.trans (Eq.trans (cf6 (congrArg (b255 _ _ _ _) (fu5 (q511 n))) _ _ _ _ _ _) rfl)
theorem ok {n  a0 r} (h : f n a0 = some r) : CallD Tryz.prog HW 63 [.int .u64 a0, .fn 64] (sg.enc r) :=
  fun_some hwS Tryz.func63 (by kernel_rfl) (body := code) (by kernel_rfl) tys_ok (c := cfg ieee_Decode.f remain_Trunc_1.f remain_signed.f (ieee_FromUint.f n)) (orCall_ok ieee_Decode.call_ok (orCall_ok remain_Trunc_1.call_ok (orCall_ok remain_signed.call_ok (orCall_ok (ieee_FromUint.call_ok (n := n)) noCall_ok)))) noW_ok (by kernel_rfl) (by kernel_rfl) (Nat.le_of_ble_eq_true (by kernel_rfl)) (Eq.trans ((e0 (n := n)).trans (Eq.trans (cf1 (congrArg (b0 _ _ _ _) (fu6 (q255 n))) _) rfl)) h)
noncomputable def call {α : Type} (g : T0) (ds : List D) (K : List D→Ω α) : Ω α := match ds with
  | [.int .u64 a0, .fn f0] => (match Nat.beq f0 64 with
    | true => (g a0).bind fun r => K (sg.enc r)
    | false => none)
  | _ => none
theorem call_ok {α : Type} {n : Nat} (ds : List D) (K : List D→Ω α) (r : α) (h : call (f n) ds K = some r) : ∃ rs, K rs = some r ∧ CallD Tryz.prog HW 63 ds rs := by
  unfold call at h
  split at h
  · split at h
    · rename_i hq
      rw [Nat.eq_of_beq_eq_true hq]
      obtain ⟨x, hx, hk⟩ := Option.bind_eq_some_iff.1 h
      exact ⟨_, hk, ok (n := n) hx⟩
    · cases h
  · cases h
end remain_round_64
/-! ### remain_Trunc: function 21 -/
namespace remain_Trunc
noncomputable def b0 (c630064 : T0) (a0 : Int) : Ω (Int) := ((c630064 a0).bind fun t1 => some t1)
noncomputable def f (n : Nat) (a0 : Int) : Ω (Int) := b0 (remain_round_64.f n) a0
noncomputable def sg : Sig (Int) := s1 (sInt .u64)
noncomputable def code : Code := (Tryz.f21.body).getD .skip
noncomputable def cfg (c630064 : T0) : Cfg (Int) := { T := tys, call := orCall 63 (remain_round_64.call c630064) (noCall) }
noncomputable def cuts : List (Nat × List (Nat × Want)) := []
theorem e0 {c630064 n J a0} : afun (cfg c630064) J cuts n code Tryz.f21.results.toList [false] [.int .u64 a0] sg.out = b0 c630064 a0 := by kernel_rfl
theorem ok {n  a0 r} (h : f n a0 = some r) : CallD Tryz.prog HW 21 [.int .u64 a0] (sg.enc r) :=
  fun_some hwS Tryz.func21 (by kernel_rfl) (body := code) (by kernel_rfl) tys_ok (c := cfg (remain_round_64.f n)) (orCall_ok (remain_round_64.call_ok (n := n)) noCall_ok) noW_ok (by kernel_rfl) (by kernel_rfl) (Nat.le_of_ble_eq_true (by kernel_rfl)) (Eq.trans ((e0 (n := n))) h)
noncomputable def call {α : Type} (g : T0) (ds : List D) (K : List D→Ω α) : Ω α := match ds with
  | [.int .u64 a0] => (g a0).bind fun r => K (sg.enc r)
  | _ => none
theorem call_ok {α : Type} {n : Nat} : COK Tryz.prog HW 21 (call (α := α) (f n)) := fun _ _ _ h => by
  unfold call at h; split at h
  · exact cok h fun _ => ok
  · cases h
end remain_Trunc
/-! ### remain_special: function 65 -/
namespace remain_special
noncomputable def b0 (a0 : Bool) (a1 a2 a3 : Int) (a4 : Bool) (a5 a6 a7 a8 : Int) : Ω (Int × Bool) := (if a1 = 4 then some (9221120237041090560, true) else (if a5 = 4 then some (9221120237041090560, true) else (if a1 = 3 then some (9221120237041090560, true) else (if a5 = 0 then some (9221120237041090560, true) else (if a5 = 3 then some (a8, true) else (if a1 = 0 then some (a8, true) else some (0, false)))))))
noncomputable def f (a0 : Bool) (a1 a2 a3 : Int) (a4 : Bool) (a5 a6 a7 a8 : Int) : Ω (Int × Bool) := b0 a0 a1 a2 a3 a4 a5 a6 a7 a8
noncomputable def sg : Sig (Int × Bool) := s2 (sInt .u64) (s1 (sBool))
noncomputable def code : Code := (Tryz.f65.body).getD .skip
noncomputable def cfg : Cfg (Int × Bool) := { T := tys, call := noCall }
noncomputable def cuts : List (Nat × List (Nat × Want)) := []
theorem e0 {n J a0 a1 a2 a3 a4 a5 a6 a7 a8} : afun cfg J cuts n code Tryz.f65.results.toList [false, false] [.agg [.bool a0, .int .i64 a1, .int .u64 a2, .int .i64 a3], .agg [.bool a4, .int .i64 a5, .int .u64 a6, .int .i64 a7], .int .u64 a8] sg.out = b0 a0 a1 a2 a3 a4 a5 a6 a7 a8 := by kernel_rfl
theorem ok {a0 a1 a2 a3 a4 a5 a6 a7 a8 r} (h : f a0 a1 a2 a3 a4 a5 a6 a7 a8 = some r) : CallD Tryz.prog HW 65 [.agg [.bool a0, .int .i64 a1, .int .u64 a2, .int .i64 a3], .agg [.bool a4, .int .i64 a5, .int .u64 a6, .int .i64 a7], .int .u64 a8] (sg.enc r) :=
  fun_some hwS Tryz.func65 (by kernel_rfl) (body := code) (by kernel_rfl) tys_ok (c := cfg) noCall_ok noW_ok (by kernel_rfl) (by kernel_rfl) (Nat.le_of_ble_eq_true (by kernel_rfl)) (Eq.trans ((e0 (n := 0))) h)
noncomputable def call {α : Type} (g : T19) (ds : List D) (K : List D→Ω α) : Ω α := match ds with
  | [.agg [.bool a0, .int .i64 a1, .int .u64 a2, .int .i64 a3], .agg [.bool a4, .int .i64 a5, .int .u64 a6, .int .i64 a7], .int .u64 a8] => (g a0 a1 a2 a3 a4 a5 a6 a7 a8).bind fun r => K (sg.enc r)
  | _ => none
theorem call_ok {α : Type} : COK Tryz.prog HW 65 (call (α := α) f) := fun _ _ _ h => by
  unfold call at h; split at h
  · exact cok h fun _ => ok
  · cases h
end remain_special
/-! ### bits_LeadingZeros64: function 160 -/
namespace bits_LeadingZeros64
noncomputable def b0 (c67 : T0) (a0 : Int) : Ω (Int) := ((c67 a0).bind fun t1 => some (wrap64 (64 - t1)))
noncomputable def f (a0 : Int) : Ω (Int) := b0 bits_Len64.f a0
noncomputable def sg : Sig (Int) := s1 (sInt .i64)
noncomputable def code : Code := (Tryz.f160.body).getD .skip
noncomputable def cfg (c67 : T0) : Cfg (Int) := { T := tys, call := orCall 67 (bits_Len64.call c67) (noCall) }
noncomputable def cuts : List (Nat × List (Nat × Want)) := []
theorem e0 {c67 n J a0} : afun (cfg c67) J cuts n code Tryz.f160.results.toList [false] [.int .u64 a0] sg.out = b0 c67 a0 := by kernel_rfl
theorem ok {a0 r} (h : f a0 = some r) : CallD Tryz.prog HW 160 [.int .u64 a0] (sg.enc r) :=
  fun_some hwS Tryz.func160 (by kernel_rfl) (body := code) (by kernel_rfl) tys_ok (c := cfg bits_Len64.f) (orCall_ok bits_Len64.call_ok noCall_ok) noW_ok (by kernel_rfl) (by kernel_rfl) (Nat.le_of_ble_eq_true (by kernel_rfl)) (Eq.trans ((e0 (n := 0))) h)
noncomputable def call {α : Type} (g : T0) (ds : List D) (K : List D→Ω α) : Ω α := match ds with
  | [.int .u64 a0] => (g a0).bind fun r => K (sg.enc r)
  | _ => none
theorem call_ok {α : Type} : COK Tryz.prog HW 160 (call (α := α) f) := fun _ _ _ h => by
  unfold call at h; split at h
  · exact cok h fun _ => ok
  · cases h
end bits_LeadingZeros64
/-! ### bits_Div64: function 152 -/
namespace bits_Div64
noncomputable def b0 (c160 : T0) (k262137 : T31) (a0 a1 a2 : Int) : Ω (Int × Int) := (if a2 = 0 then none else (if a2 ≤ a0 then none else (if a0 = 0 then (if a2 = 0 then none else (if a2 = 0 then none else some (IntKind.u64.wrap (Int.tdiv a1 a2), Int.tmod a1 a2))) else ((c160 a2).bind fun t1 => (if 0 ≤ (IntKind.u64.wrap t1) then (if 0 ≤ (IntKind.u64.wrap t1) then (if 0 ≤ (IntKind.u64.wrap (64 - (IntKind.u64.wrap t1))) then (if 0 ≤ (IntKind.u64.wrap t1) then (if ((shl .u64 a2 (IntKind.u64.wrap t1)) / 4294967296) = 0 then none else k262137 (shl .u64 a2 (IntKind.u64.wrap t1)) (IntKind.u64.wrap t1) ((shl .u64 a2 (IntKind.u64.wrap t1)) / 4294967296) (Go.bits .and .u64 (shl .u64 a2 (IntKind.u64.wrap t1)) 4294967295) (Go.bits .or .u64 (shl .u64 a0 (IntKind.u64.wrap t1)) (shr .u64 a1 (IntKind.u64.wrap (64 - (IntKind.u64.wrap t1))))) ((shl .u64 a1 (IntKind.u64.wrap t1)) / 4294967296) (Go.bits .and .u64 (shl .u64 a1 (IntKind.u64.wrap t1)) 4294967295) (IntKind.u64.wrap (Int.tdiv (Go.bits .or .u64 (shl .u64 a0 (IntKind.u64.wrap t1)) (shr .u64 a1 (IntKind.u64.wrap (64 - (IntKind.u64.wrap t1))))) ((shl .u64 a2 (IntKind.u64.wrap t1)) / 4294967296))) (IntKind.u64.wrap ((Go.bits .or .u64 (shl .u64 a0 (IntKind.u64.wrap t1)) (shr .u64 a1 (IntKind.u64.wrap (64 - (IntKind.u64.wrap t1))))) - (IntKind.u64.wrap ((IntKind.u64.wrap (Int.tdiv (Go.bits .or .u64 (shl .u64 a0 (IntKind.u64.wrap t1)) (shr .u64 a1 (IntKind.u64.wrap (64 - (IntKind.u64.wrap t1))))) ((shl .u64 a2 (IntKind.u64.wrap t1)) / 4294967296))) * ((shl .u64 a2 (IntKind.u64.wrap t1)) / 4294967296)))))) else none) else none) else none) else none)))))
noncomputable def b65535 (c160 : T0) (k4194297 : T31) (x0 x1 x2 x3 x4 x5 x6 x7 : Int) : Ω (Int × Int) := (if x2 = 0 then none else k4194297 x0 x1 x2 x3 x6 x7 (IntKind.u64.wrap ((IntKind.u64.wrap ((IntKind.u64.wrap ((IntKind.u64.wrap (x4 * 4294967296)) + x5)) - (IntKind.u64.wrap (x7 * x0)))) - (IntKind.u64.wrap ((IntKind.u64.wrap (Int.tdiv (IntKind.u64.wrap ((IntKind.u64.wrap ((IntKind.u64.wrap (x4 * 4294967296)) + x5)) - (IntKind.u64.wrap (x7 * x0)))) x2)) * x2)))) (IntKind.u64.wrap ((IntKind.u64.wrap ((IntKind.u64.wrap (x4 * 4294967296)) + x5)) - (IntKind.u64.wrap (x7 * x0)))) (IntKind.u64.wrap (Int.tdiv (IntKind.u64.wrap ((IntKind.u64.wrap ((IntKind.u64.wrap (x4 * 4294967296)) + x5)) - (IntKind.u64.wrap (x7 * x0)))) x2)))
noncomputable def b262137 (c160 : T0) (k65535 : T74) (k524273 : T31) (x0 x1 x2 x3 x4 x5 x6 x7 x8 : Int) : Ω (Int × Int) := (if x7 ≥ 4294967296 then k524273 x0 x1 x2 x3 x4 x5 x6 x7 x8 else (if (IntKind.u64.wrap (x7 * x3)) > (IntKind.u64.wrap ((IntKind.u64.wrap (4294967296 * x8)) + x5)) then k524273 x0 x1 x2 x3 x4 x5 x6 x7 x8 else k65535 x0 x1 x2 x3 x4 x5 x6 x7))
noncomputable def b524273 (c160 : T0) (k65535 : T74) (k262137 : T31) (x0 x1 x2 x3 x4 x5 x6 x7 x8 : Int) : Ω (Int × Int) := (if (IntKind.u64.wrap (x8 + x2)) ≥ 4294967296 then k65535 x0 x1 x2 x3 x4 x5 x6 (IntKind.u64.wrap (x7 - 1)) else k262137 x0 x1 x2 x3 x4 x5 x6 (IntKind.u64.wrap (x7 - 1)) (IntKind.u64.wrap (x8 + x2)))
noncomputable def b1048575 (c160 : T0) (x0 x1 x2 x3 x4 x5 : Int) : Ω (Int × Int) := (if 0 ≤ x1 then some (IntKind.u64.wrap ((IntKind.u64.wrap (x3 * 4294967296)) + x5), shr .u64 (IntKind.u64.wrap ((IntKind.u64.wrap ((IntKind.u64.wrap (x4 * 4294967296)) + x2)) - (IntKind.u64.wrap (x5 * x0)))) x1) else none)
noncomputable def b4194297 (c160 : T0) (k1048575 : T75) (k8388593 : T31) (x0 x1 x2 x3 x4 x5 x6 x7 x8 : Int) : Ω (Int × Int) := (if x8 ≥ 4294967296 then k8388593 x0 x1 x2 x3 x4 x5 x6 x7 x8 else (if (IntKind.u64.wrap (x8 * x3)) > (IntKind.u64.wrap ((IntKind.u64.wrap (4294967296 * x6)) + x4)) then k8388593 x0 x1 x2 x3 x4 x5 x6 x7 x8 else k1048575 x0 x1 x4 x5 x7 x8))
noncomputable def b8388593 (c160 : T0) (k1048575 : T75) (k4194297 : T31) (x0 x1 x2 x3 x4 x5 x6 x7 x8 : Int) : Ω (Int × Int) := (if (IntKind.u64.wrap (x6 + x2)) ≥ 4294967296 then k1048575 x0 x1 x4 x5 x7 (IntKind.u64.wrap (x8 - 1)) else k4194297 x0 x1 x2 x3 x4 x5 (IntKind.u64.wrap (x6 + x2)) x7 (IntKind.u64.wrap (x8 - 1)))
noncomputable def l1048575 (n : Nat) (x0 x1 x2 x3 x4 x5 : Int) : Ω (Int × Int) := b1048575 bits_LeadingZeros64.f x0 x1 x2 x3 x4 x5
noncomputable def l8388593 (n : Nat) (k4194297 : T31) (x0 x1 x2 x3 x4 x5 x6 x7 x8 : Int) : Ω (Int × Int) := b8388593 bits_LeadingZeros64.f (l1048575 n) k4194297 x0 x1 x2 x3 x4 x5 x6 x7 x8
noncomputable def l4194297 (n : Nat) : Nat→Int→Int→Int→Int→Int→Int→Int→Int→Int→Ω (Int × Int)
  | 0, _, _, _, _, _, _, _, _, _ => none
  | m + 1, x0, x1, x2, x3, x4, x5, x6, x7, x8 => b4194297 bits_LeadingZeros64.f (l1048575 n) (l8388593 n (l4194297 n m)) x0 x1 x2 x3 x4 x5 x6 x7 x8
noncomputable def l65535 (n : Nat) (x0 x1 x2 x3 x4 x5 x6 x7 : Int) : Ω (Int × Int) := b65535 bits_LeadingZeros64.f (l4194297 n n) x0 x1 x2 x3 x4 x5 x6 x7
noncomputable def l524273 (n : Nat) (k262137 : T31) (x0 x1 x2 x3 x4 x5 x6 x7 x8 : Int) : Ω (Int × Int) := b524273 bits_LeadingZeros64.f (l65535 n) k262137 x0 x1 x2 x3 x4 x5 x6 x7 x8
noncomputable def l262137 (n : Nat) : Nat→Int→Int→Int→Int→Int→Int→Int→Int→Int→Ω (Int × Int)
  | 0, _, _, _, _, _, _, _, _, _ => none
  | m + 1, x0, x1, x2, x3, x4, x5, x6, x7, x8 => b262137 bits_LeadingZeros64.f (l65535 n) (l524273 n (l262137 n m)) x0 x1 x2 x3 x4 x5 x6 x7 x8
noncomputable def f (n : Nat) (a0 a1 a2 : Int) : Ω (Int × Int) := b0 bits_LeadingZeros64.f (l262137 n n) a0 a1 a2
noncomputable def sg : Sig (Int × Int) := s2 (sInt .u64) (s1 (sInt .u64))
noncomputable def code : Code := (Tryz.f152.body).getD .skip
noncomputable def cfg (c160 : T0) : Cfg (Int × Int) := { T := tys, call := orCall 160 (bits_LeadingZeros64.call c160) (noCall) }
noncomputable def cuts : List (Nat × List (Nat × Want)) := [(65535, [(2, .keep), (8, .keep), (9, .keep), (10, .keep), (11, .keep), (13, .keep), (14, .keep), (15, .keep)]), (262137, [(2, .keep), (8, .keep), (9, .keep), (10, .keep), (11, .keep), (13, .keep), (14, .keep), (15, .keep), (16, .keep)]), (524273, [(2, .keep), (8, .keep), (9, .keep), (10, .keep), (11, .keep), (13, .keep), (14, .keep), (15, .keep), (16, .keep)]), (1048575, [(2, .keep), (8, .keep), (14, .keep), (15, .keep), (17, .keep), (18, .keep)]), (4194297, [(2, .keep), (8, .keep), (9, .keep), (10, .keep), (14, .keep), (15, .keep), (16, .keep), (17, .keep), (18, .keep)]), (8388593, [(2, .keep), (8, .keep), (9, .keep), (10, .keep), (14, .keep), (15, .keep), (16, .keep), (17, .keep), (18, .keep)])]
noncomputable def s65535 (x0 x1 x2 x3 x4 x5 x6 x7 : Int) : ASt := ⟨[(2, .int .u64 x0), (8, .int .u64 x1), (9, .int .u64 x2), (10, .int .u64 x3), (11, .int .u64 x4), (13, .int .u64 x5), (14, .int .u64 x6), (15, .int .u64 x7)], []⟩
noncomputable def s262137 (x0 x1 x2 x3 x4 x5 x6 x7 x8 : Int) : ASt := ⟨[(2, .int .u64 x0), (8, .int .u64 x1), (9, .int .u64 x2), (10, .int .u64 x3), (11, .int .u64 x4), (13, .int .u64 x5), (14, .int .u64 x6), (15, .int .u64 x7), (16, .int .u64 x8)], []⟩
noncomputable def s524273 (x0 x1 x2 x3 x4 x5 x6 x7 x8 : Int) : ASt := ⟨[(2, .int .u64 x0), (8, .int .u64 x1), (9, .int .u64 x2), (10, .int .u64 x3), (11, .int .u64 x4), (13, .int .u64 x5), (14, .int .u64 x6), (15, .int .u64 x7), (16, .int .u64 x8)], []⟩
noncomputable def s1048575 (x0 x1 x2 x3 x4 x5 : Int) : ASt := ⟨[(2, .int .u64 x0), (8, .int .u64 x1), (14, .int .u64 x2), (15, .int .u64 x3), (17, .int .u64 x4), (18, .int .u64 x5)], []⟩
noncomputable def s4194297 (x0 x1 x2 x3 x4 x5 x6 x7 x8 : Int) : ASt := ⟨[(2, .int .u64 x0), (8, .int .u64 x1), (9, .int .u64 x2), (10, .int .u64 x3), (14, .int .u64 x4), (15, .int .u64 x5), (16, .int .u64 x6), (17, .int .u64 x7), (18, .int .u64 x8)], []⟩
noncomputable def s8388593 (x0 x1 x2 x3 x4 x5 x6 x7 x8 : Int) : ASt := ⟨[(2, .int .u64 x0), (8, .int .u64 x1), (9, .int .u64 x2), (10, .int .u64 x3), (14, .int .u64 x4), (15, .int .u64 x5), (16, .int .u64 x6), (17, .int .u64 x7), (18, .int .u64 x8)], []⟩
noncomputable def A (c160 : T0) (n : Nat) (J : Jt (Int × Int)) (q : Nat) (ms : List Nat) : ASt→Ω (Int × Int) := acont (cfg c160) J cuts n q code 1 ms (aend (cfg c160) Tryz.f152.results.toList [false, false] sg.out)
theorem e0 {c160 n J a0 a1 a2} : afun (cfg c160) J cuts n code Tryz.f152.results.toList [false, false] [.int .u64 a0, .int .u64 a1, .int .u64 a2] sg.out = b0 c160 (fun y0 y1 y2 y3 y4 y5 y6 y7 y8 => J 262137 (A c160 n J 262137 [n]) (s262137 y0 y1 y2 y3 y4 y5 y6 y7 y8)) a0 a1 a2 := by kernel_rfl
theorem e65535 {c160 n J x0 x1 x2 x3 x4 x5 x6 x7} : A c160 n J 65535 [] (s65535 x0 x1 x2 x3 x4 x5 x6 x7) = b65535 c160 (fun y0 y1 y2 y3 y4 y5 y6 y7 y8 => J 4194297 (A c160 n J 4194297 [n]) (s4194297 y0 y1 y2 y3 y4 y5 y6 y7 y8)) x0 x1 x2 x3 x4 x5 x6 x7 := by kernel_rfl
theorem e262137 {c160 n J m x0 x1 x2 x3 x4 x5 x6 x7 x8} : A c160 n J 262137 [m + 1] (s262137 x0 x1 x2 x3 x4 x5 x6 x7 x8) = b262137 c160 (fun y0 y1 y2 y3 y4 y5 y6 y7 => J 65535 (A c160 n J 65535 []) (s65535 y0 y1 y2 y3 y4 y5 y6 y7)) (fun y0 y1 y2 y3 y4 y5 y6 y7 y8 => J 524273 (A c160 n J 524273 [m]) (s524273 y0 y1 y2 y3 y4 y5 y6 y7 y8)) x0 x1 x2 x3 x4 x5 x6 x7 x8 := by kernel_rfl
theorem e524273 {c160 n J m262137 x0 x1 x2 x3 x4 x5 x6 x7 x8} : A c160 n J 524273 [m262137] (s524273 x0 x1 x2 x3 x4 x5 x6 x7 x8) = b524273 c160 (fun y0 y1 y2 y3 y4 y5 y6 y7 => J 65535 (A c160 n J 65535 []) (s65535 y0 y1 y2 y3 y4 y5 y6 y7)) (fun y0 y1 y2 y3 y4 y5 y6 y7 y8 => J 262137 (A c160 n J 262137 [m262137]) (s262137 y0 y1 y2 y3 y4 y5 y6 y7 y8)) x0 x1 x2 x3 x4 x5 x6 x7 x8 := by kernel_rfl
theorem e1048575 {c160 n J x0 x1 x2 x3 x4 x5} : A c160 n J 1048575 [] (s1048575 x0 x1 x2 x3 x4 x5) = b1048575 c160 x0 x1 x2 x3 x4 x5 := by kernel_rfl
theorem e4194297 {c160 n J m x0 x1 x2 x3 x4 x5 x6 x7 x8} : A c160 n J 4194297 [m + 1] (s4194297 x0 x1 x2 x3 x4 x5 x6 x7 x8) = b4194297 c160 (fun y0 y1 y2 y3 y4 y5 => J 1048575 (A c160 n J 1048575 []) (s1048575 y0 y1 y2 y3 y4 y5)) (fun y0 y1 y2 y3 y4 y5 y6 y7 y8 => J 8388593 (A c160 n J 8388593 [m]) (s8388593 y0 y1 y2 y3 y4 y5 y6 y7 y8)) x0 x1 x2 x3 x4 x5 x6 x7 x8 := by kernel_rfl
theorem e8388593 {c160 n J m4194297 x0 x1 x2 x3 x4 x5 x6 x7 x8} : A c160 n J 8388593 [m4194297] (s8388593 x0 x1 x2 x3 x4 x5 x6 x7 x8) = b8388593 c160 (fun y0 y1 y2 y3 y4 y5 => J 1048575 (A c160 n J 1048575 []) (s1048575 y0 y1 y2 y3 y4 y5)) (fun y0 y1 y2 y3 y4 y5 y6 y7 y8 => J 4194297 (A c160 n J 4194297 [m4194297]) (s4194297 y0 y1 y2 y3 y4 y5 y6 y7 y8)) x0 x1 x2 x3 x4 x5 x6 x7 x8 := by kernel_rfl
noncomputable abbrev I (n : Nat) := A bits_LeadingZeros64.f n idJ
theorem q1048575 (n x0 x1 x2 x3 x4 x5) : I n 1048575 [] (s1048575 x0 x1 x2 x3 x4 x5) = l1048575 n x0 x1 x2 x3 x4 x5 := e1048575
theorem q8388593 (n m4194297 x0 x1 x2 x3 x4 x5 x6 x7 x8) : I n 8388593 [m4194297] (s8388593 x0 x1 x2 x3 x4 x5 x6 x7 x8) = l8388593 n (fun y0 y1 y2 y3 y4 y5 y6 y7 y8 => I n 4194297 [m4194297] (s4194297 y0 y1 y2 y3 y4 y5 y6 y7 y8)) x0 x1 x2 x3 x4 x5 x6 x7 x8 := e8388593.trans (Eq.trans (cf9 (congr (congrArg (b8388593 _) (fu6 (q1048575 n))) rfl) _ _ _ _ _ _ _ _ _) rfl)
theorem q4194297 (n m) : ∀ x0 x1 x2 x3 x4 x5 x6 x7 x8, I n 4194297 [m] (s4194297 x0 x1 x2 x3 x4 x5 x6 x7 x8) = l4194297 n m x0 x1 x2 x3 x4 x5 x6 x7 x8 := by
  induction m with
  | zero => intros; rfl
  | succ m ih =>
    intros
    exact e4194297.trans (Eq.trans (cf9 (congr (congrArg (b4194297 _) (fu6 (q1048575 n))) ((fu9 (q8388593 n m)).trans (by rw [show (fun y0 y1 y2 y3 y4 y5 y6 y7 y8 => I n 4194297 [m] (s4194297 y0 y1 y2 y3 y4 y5 y6 y7 y8)) = _ from (fu9 (ih))]))) _ _ _ _ _ _ _ _ _) rfl)
theorem q65535 (n x0 x1 x2 x3 x4 x5 x6 x7) : I n 65535 [] (s65535 x0 x1 x2 x3 x4 x5 x6 x7) = l65535 n x0 x1 x2 x3 x4 x5 x6 x7 := e65535.trans (Eq.trans (cf8 (congrArg (b65535 _) (fu9 (q4194297 n n))) _ _ _ _ _ _ _ _) rfl)
theorem q524273 (n m262137 x0 x1 x2 x3 x4 x5 x6 x7 x8) : I n 524273 [m262137] (s524273 x0 x1 x2 x3 x4 x5 x6 x7 x8) = l524273 n (fun y0 y1 y2 y3 y4 y5 y6 y7 y8 => I n 262137 [m262137] (s262137 y0 y1 y2 y3 y4 y5 y6 y7 y8)) x0 x1 x2 x3 x4 x5 x6 x7 x8 := e524273.trans (Eq.trans (cf9 (congr (congrArg (b524273 _) (fu8 (q65535 n))) rfl) _ _ _ _ _ _ _ _ _) rfl)
theorem q262137 (n m) : ∀ x0 x1 x2 x3 x4 x5 x6 x7 x8, I n 262137 [m] (s262137 x0 x1 x2 x3 x4 x5 x6 x7 x8) = l262137 n m x0 x1 x2 x3 x4 x5 x6 x7 x8 := by
  induction m with
  | zero => intros; rfl
  | succ m ih =>
    intros
    exact e262137.trans (Eq.trans (cf9 (congr (congrArg (b262137 _) (fu8 (q65535 n))) ((fu9 (q524273 n m)).trans (by rw [show (fun y0 y1 y2 y3 y4 y5 y6 y7 y8 => I n 262137 [m] (s262137 y0 y1 y2 y3 y4 y5 y6 y7 y8)) = _ from (fu9 (ih))]))) _ _ _ _ _ _ _ _ _) rfl)
theorem ok {n  a0 a1 a2 r} (h : f n a0 a1 a2 = some r) : CallD Tryz.prog HW 152 [.int .u64 a0, .int .u64 a1, .int .u64 a2] (sg.enc r) :=
  fun_some hwS Tryz.func152 (by kernel_rfl) (body := code) (by kernel_rfl) tys_ok (c := cfg bits_LeadingZeros64.f) (orCall_ok bits_LeadingZeros64.call_ok noCall_ok) noW_ok (by kernel_rfl) (by kernel_rfl) (Nat.le_of_ble_eq_true (by kernel_rfl)) (Eq.trans ((e0 (n := n)).trans (Eq.trans (cf3 (congrArg (b0 _) (fu9 (q262137 n n))) _ _ _) rfl)) h)
noncomputable def call {α : Type} (g : T4) (ds : List D) (K : List D→Ω α) : Ω α := match ds with
  | [.int .u64 a0, .int .u64 a1, .int .u64 a2] => (g a0 a1 a2).bind fun r => K (sg.enc r)
  | _ => none
theorem call_ok {α : Type} {n : Nat} : COK Tryz.prog HW 152 (call (α := α) (f n)) := fun _ _ _ h => by
  unfold call at h; split at h
  · exact cok h fun _ => ok
  · cases h
end bits_Div64
/-! ### bits_Rem64: function 123 -/
namespace bits_Rem64
noncomputable def b0 (c152 : T4) (a0 a1 a2 : Int) : Ω (Int) := (if a2 = 0 then none else ((c152 (Int.tmod a0 a2) a1 a2).bind fun t1 => some t1.2))
noncomputable def f (n : Nat) (a0 a1 a2 : Int) : Ω (Int) := b0 (bits_Div64.f n) a0 a1 a2
noncomputable def sg : Sig (Int) := s1 (sInt .u64)
noncomputable def code : Code := (Tryz.f123.body).getD .skip
noncomputable def cfg (c152 : T4) : Cfg (Int) := { T := tys, call := orCall 152 (bits_Div64.call c152) (noCall) }
noncomputable def cuts : List (Nat × List (Nat × Want)) := []
theorem e0 {c152 n J a0 a1 a2} : afun (cfg c152) J cuts n code Tryz.f123.results.toList [false] [.int .u64 a0, .int .u64 a1, .int .u64 a2] sg.out = b0 c152 a0 a1 a2 := by kernel_rfl
theorem ok {n  a0 a1 a2 r} (h : f n a0 a1 a2 = some r) : CallD Tryz.prog HW 123 [.int .u64 a0, .int .u64 a1, .int .u64 a2] (sg.enc r) :=
  fun_some hwS Tryz.func123 (by kernel_rfl) (body := code) (by kernel_rfl) tys_ok (c := cfg (bits_Div64.f n)) (orCall_ok (bits_Div64.call_ok (n := n)) noCall_ok) noW_ok (by kernel_rfl) (by kernel_rfl) (Nat.le_of_ble_eq_true (by kernel_rfl)) (Eq.trans ((e0 (n := n))) h)
noncomputable def call {α : Type} (g : T17) (ds : List D) (K : List D→Ω α) : Ω α := match ds with
  | [.int .u64 a0, .int .u64 a1, .int .u64 a2] => (g a0 a1 a2).bind fun r => K (sg.enc r)
  | _ => none
theorem call_ok {α : Type} {n : Nat} : COK Tryz.prog HW 123 (call (α := α) (f n)) := fun _ _ _ h => by
  unfold call at h; split at h
  · exact cok h fun _ => ok
  · cases h
end bits_Rem64
/-! ### remain_residue: function 66 -/
namespace remain_residue
noncomputable def b0 (c122 : T8) (c123 k57 : T17) (a0 a1 a2 : Int) : Ω (Int) := (if a2 = 0 then none else k57 a1 a2 (Int.tmod a0 a2))
noncomputable def b57 (c122 : T8) (c123 k57 : T17) (x0 x1 x2 : Int) : Ω (Int) := (if x0 > 0 then (if 0 ≤ (mn x0 32) then ((c122 x2 (shl .u64 1 (mn x0 32))).bind fun t1 => ((c123 t1.1 t1.2 x1).bind fun t2 => k57 (wrap64 (x0 - (mn x0 32))) x1 t2)) else none) else some x2)
noncomputable def l57 (n : Nat) : Nat→Int→Int→Int→Ω (Int)
  | 0, _, _, _ => none
  | m + 1, x0, x1, x2 => b57 bits_Mul64.f (bits_Rem64.f n) (l57 n m) x0 x1 x2
noncomputable def f (n : Nat) (a0 a1 a2 : Int) : Ω (Int) := b0 bits_Mul64.f (bits_Rem64.f n) (l57 n n) a0 a1 a2
noncomputable def sg : Sig (Int) := s1 (sInt .u64)
noncomputable def code : Code := (Tryz.f66.body).getD .skip
noncomputable def cfg (c122 : T8) (c123 : T17) : Cfg (Int) := { T := tys, call := orCall 122 (bits_Mul64.call c122) (orCall 123 (bits_Rem64.call c123) (noCall)) }
noncomputable def cuts : List (Nat × List (Nat × Want)) := [(57, [(1, .keep), (2, .keep), (7, .keep)])]
noncomputable def s57 (x0 x1 x2 : Int) : ASt := ⟨[(1, .int .i64 x0), (2, .int .u64 x1), (7, .int .u64 x2)], []⟩
noncomputable def A (c122 : T8) (c123 : T17) (n : Nat) (J : Jt (Int)) (q : Nat) (ms : List Nat) : ASt→Ω (Int) := acont (cfg c122 c123) J cuts n q code 1 ms (aend (cfg c122 c123) Tryz.f66.results.toList [false] sg.out)
theorem e0 {c122 c123 n J a0 a1 a2} : afun (cfg c122 c123) J cuts n code Tryz.f66.results.toList [false] [.int .u64 a0, .int .i64 a1, .int .u64 a2] sg.out = b0 c122 c123 (fun y0 y1 y2 => J 57 (A c122 c123 n J 57 [n]) (s57 y0 y1 y2)) a0 a1 a2 := by kernel_rfl
theorem e57 {c122 c123 n J m x0 x1 x2} : A c122 c123 n J 57 [m + 1] (s57 x0 x1 x2) = b57 c122 c123 (fun y0 y1 y2 => J 57 (A c122 c123 n J 57 [m]) (s57 y0 y1 y2)) x0 x1 x2 := by kernel_rfl
noncomputable abbrev I (n : Nat) := A bits_Mul64.f (bits_Rem64.f n) n idJ
theorem q57 (n m) : ∀ x0 x1 x2, I n 57 [m] (s57 x0 x1 x2) = l57 n m x0 x1 x2 := by
  induction m with
  | zero => intros; rfl
  | succ m ih =>
    intros
    exact e57.trans (Eq.trans (cf3 (congrArg (b57 _ _) (fu3 (ih))) _ _ _) rfl)
theorem ok {n  a0 a1 a2 r} (h : f n a0 a1 a2 = some r) : CallD Tryz.prog HW 66 [.int .u64 a0, .int .i64 a1, .int .u64 a2] (sg.enc r) :=
  fun_some hwS Tryz.func66 (by kernel_rfl) (body := code) (by kernel_rfl) tys_ok (c := cfg bits_Mul64.f (bits_Rem64.f n)) (orCall_ok bits_Mul64.call_ok (orCall_ok (bits_Rem64.call_ok (n := n)) noCall_ok)) noW_ok (by kernel_rfl) (by kernel_rfl) (Nat.le_of_ble_eq_true (by kernel_rfl)) (Eq.trans ((e0 (n := n)).trans (Eq.trans (cf3 (congrArg (b0 _ _) (fu3 (q57 n n))) _ _ _) rfl)) h)
noncomputable def call {α : Type} (g : T17) (ds : List D) (K : List D→Ω α) : Ω α := match ds with
  | [.int .u64 a0, .int .i64 a1, .int .u64 a2] => (g a0 a1 a2).bind fun r => K (sg.enc r)
  | _ => none
theorem call_ok {α : Type} {n : Nat} : COK Tryz.prog HW 66 (call (α := α) (f n)) := fun _ _ _ h => by
  unfold call at h; split at h
  · exact cok h fun _ => ok
  · cases h
end remain_residue
/-! ### remain_Fmod: function 22 -/
namespace remain_Fmod
noncomputable def b0 (c36 : T2) (c37 : T6) (c65 : T19) (c66 : T17) (c67 : T0) (k63 : T45) (a0 a1 : Int) : Ω (Int) := ((c36 a0).bind fun t1 => ((c36 a1).bind fun t2 => ((c65 t1.1 t1.2.1 t1.2.2.1 t1.2.2.2 t2.1 t2.2.1 t2.2.2.1 t2.2.2.2 a0).bind fun t3 => (if t3.2 = true then some t3.1 else (if (wrap64 (t1.2.2.2 - t2.2.2.2)) ≥ 0 then ((c66 t1.2.2.1 (wrap64 (t1.2.2.2 - t2.2.2.2)) t2.2.2.1).bind fun t4 => k63 t4 t2.2.2.2 t1.1 t1.2.1 t1.2.2.1 t1.2.2.2) else ((c67 t2.2.2.1).bind fun t5 => (if (wrap64 (t5 - (wrap64 (t1.2.2.2 - t2.2.2.2)))) > 64 then some a0 else (if 0 ≤ (wrap64 (-(wrap64 (t1.2.2.2 - t2.2.2.2)))) then (if (shl .u64 t2.2.2.1 (wrap64 (-(wrap64 (t1.2.2.2 - t2.2.2.2))))) = 0 then none else k63 (Int.tmod t1.2.2.1 (shl .u64 t2.2.2.1 (wrap64 (-(wrap64 (t1.2.2.2 - t2.2.2.2)))))) t1.2.2.2 t1.1 t1.2.1 t1.2.2.1 t1.2.2.2) else none))))))))
noncomputable def b63 (c36 : T2) (c37 : T6) (c65 : T19) (c66 : T17) (c67 : T0) (x0 x1 : Int) (x2 : Bool) (x3 x4 x5 : Int) : Ω (Int) := ((c37 x2 [x0] x1 false).bind fun t1 => some t1.1)
noncomputable def l63 (n : Nat) (x0 x1 : Int) (x2 : Bool) (x3 x4 x5 : Int) : Ω (Int) := b63 ieee_Decode.f (ieee_Round.f n) remain_special.f (remain_residue.f n) bits_Len64.f x0 x1 x2 x3 x4 x5
noncomputable def f (n : Nat) (a0 a1 : Int) : Ω (Int) := b0 ieee_Decode.f (ieee_Round.f n) remain_special.f (remain_residue.f n) bits_Len64.f (l63 n) a0 a1
noncomputable def sg : Sig (Int) := s1 (sInt .u64)
noncomputable def code : Code := (Tryz.f22.body).getD .skip
noncomputable def cfg (c36 : T2) (c37 : T6) (c65 : T19) (c66 : T17) (c67 : T0) : Cfg (Int) := { T := tys, call := orCall 36 (ieee_Decode.call c36) (orCall 37 (ieee_Round.call c37) (orCall 65 (remain_special.call c65) (orCall 66 (remain_residue.call c66) (orCall 67 (bits_Len64.call c67) (noCall))))) }
noncomputable def cuts : List (Nat × List (Nat × Want)) := [(63, [(5, .keep), (9, .keep), (10, .keep)])]
noncomputable def s63 (x0 x1 : Int) (x2 : Bool) (x3 x4 x5 : Int) : ASt := ⟨[(5, .ptr 0 0), (9, .int .u64 x0), (10, .int .i64 x1)], [.cells 54 [.bool x2, .int .i64 x3, .int .u64 x4, .int .i64 x5]]⟩
noncomputable def A (c36 : T2) (c37 : T6) (c65 : T19) (c66 : T17) (c67 : T0) (n : Nat) (J : Jt (Int)) (q : Nat) (ms : List Nat) : ASt→Ω (Int) := acont (cfg c36 c37 c65 c66 c67) J cuts n q code 1 ms (aend (cfg c36 c37 c65 c66 c67) Tryz.f22.results.toList [false] sg.out)
theorem e0 {c36 c37 c65 c66 c67 n J a0 a1} : afun (cfg c36 c37 c65 c66 c67) J cuts n code Tryz.f22.results.toList [false] [.int .u64 a0, .int .u64 a1] sg.out = b0 c36 c37 c65 c66 c67 (fun y0 y1 y2 y3 y4 y5 => J 63 (A c36 c37 c65 c66 c67 n J 63 []) (s63 y0 y1 y2 y3 y4 y5)) a0 a1 := by kernel_rfl
theorem e63 {c36 c37 c65 c66 c67 n J x0 x1 x2 x3 x4 x5} : A c36 c37 c65 c66 c67 n J 63 [] (s63 x0 x1 x2 x3 x4 x5) = b63 c36 c37 c65 c66 c67 x0 x1 x2 x3 x4 x5 := by kernel_rfl
noncomputable abbrev I (n : Nat) := A ieee_Decode.f (ieee_Round.f n) remain_special.f (remain_residue.f n) bits_Len64.f n idJ
theorem q63 (n x0 x1 x2 x3 x4 x5) : I n 63 [] (s63 x0 x1 x2 x3 x4 x5) = l63 n x0 x1 x2 x3 x4 x5 := e63
theorem ok {n  a0 a1 r} (h : f n a0 a1 = some r) : CallD Tryz.prog HW 22 [.int .u64 a0, .int .u64 a1] (sg.enc r) :=
  fun_some hwS Tryz.func22 (by kernel_rfl) (body := code) (by kernel_rfl) tys_ok (c := cfg ieee_Decode.f (ieee_Round.f n) remain_special.f (remain_residue.f n) bits_Len64.f) (orCall_ok ieee_Decode.call_ok (orCall_ok (ieee_Round.call_ok (n := n)) (orCall_ok remain_special.call_ok (orCall_ok (remain_residue.call_ok (n := n)) (orCall_ok bits_Len64.call_ok noCall_ok))))) noW_ok (by kernel_rfl) (by kernel_rfl) (Nat.le_of_ble_eq_true (by kernel_rfl)) (Eq.trans ((e0 (n := n)).trans (Eq.trans (cf2 (congrArg (b0 _ _ _ _ _) (fu6 (q63 n))) _ _) rfl)) h)
noncomputable def call {α : Type} (g : T9) (ds : List D) (K : List D→Ω α) : Ω α := match ds with
  | [.int .u64 a0, .int .u64 a1] => (g a0 a1).bind fun r => K (sg.enc r)
  | _ => none
theorem call_ok {α : Type} {n : Nat} : COK Tryz.prog HW 22 (call (α := α) (f n)) := fun _ _ _ h => by
  unfold call at h; split at h
  · exact cok h fun _ => ok
  · cases h
end remain_Fmod
/-! ### remain_Scale: function 12 -/
namespace remain_Scale
noncomputable def b0 (c36 : T2) (c37 : T6) (a0 a1 : Int) : Ω (Int) := ((c36 a0).bind fun t1 => (if t1.2.1 = 4 then some 9221120237041090560 else (if t1.2.1 = 3 then some a0 else (if t1.2.1 = 0 then some a0 else ((c37 t1.1 [t1.2.2.1] (wrap64 (t1.2.2.2 + (mx (-5000) (mn a1 5000)))) false).bind fun t2 => some t2.1)))))
noncomputable def f (n : Nat) (a0 a1 : Int) : Ω (Int) := b0 ieee_Decode.f (ieee_Round.f n) a0 a1
noncomputable def sg : Sig (Int) := s1 (sInt .u64)
noncomputable def code : Code := (Tryz.f12.body).getD .skip
noncomputable def cfg (c36 : T2) (c37 : T6) : Cfg (Int) := { T := tys, call := orCall 36 (ieee_Decode.call c36) (orCall 37 (ieee_Round.call c37) (noCall)) }
noncomputable def cuts : List (Nat × List (Nat × Want)) := []
theorem e0 {c36 c37 n J a0 a1} : afun (cfg c36 c37) J cuts n code Tryz.f12.results.toList [false] [.int .u64 a0, .int .i64 a1] sg.out = b0 c36 c37 a0 a1 := by kernel_rfl
theorem ok {n  a0 a1 r} (h : f n a0 a1 = some r) : CallD Tryz.prog HW 12 [.int .u64 a0, .int .i64 a1] (sg.enc r) :=
  fun_some hwS Tryz.func12 (by kernel_rfl) (body := code) (by kernel_rfl) tys_ok (c := cfg ieee_Decode.f (ieee_Round.f n)) (orCall_ok ieee_Decode.call_ok (orCall_ok (ieee_Round.call_ok (n := n)) noCall_ok)) noW_ok (by kernel_rfl) (by kernel_rfl) (Nat.le_of_ble_eq_true (by kernel_rfl)) (Eq.trans ((e0 (n := n))) h)
noncomputable def call {α : Type} (g : T9) (ds : List D) (K : List D→Ω α) : Ω α := match ds with
  | [.int .u64 a0, .int .i64 a1] => (g a0 a1).bind fun r => K (sg.enc r)
  | _ => none
theorem call_ok {α : Type} {n : Nat} : COK Tryz.prog HW 12 (call (α := α) (f n)) := fun _ _ _ h => by
  unfold call at h; split at h
  · exact cok h fun _ => ok
  · cases h
end remain_Scale
/-! ### nat_Trim: function 153 -/
namespace nat_Trim
noncomputable def b0 (c142 : T1) (l0 : Λ) : Ω (Λ) := ((c142 l0).bind fun t1 => (if 0 ≤ t1 then (if t1.toNat ≤ 35184372088832 then (if 0 ≤ t1 then (if t1 ≤ (ln l0) then ((some (l0.take t1.toNat) : Ω (Λ)).bind fun y2 => (if y2.length = (List.replicate t1.toNat (0 : Int)).length then some y2 else none)) else none) else none) else none) else none))
noncomputable def f (n : Nat) (l0 : Λ) : Ω (Λ) := b0 (nat_size.f n) l0
noncomputable def sg : Sig (Λ) := s1 (sRow .u64)
noncomputable def code : Code := (Tryz.f153.body).getD .skip
noncomputable def cfg (c142 : T1) : Cfg (Λ) := { T := tys, call := orCall 142 (nat_size.call c142) (noCall) }
noncomputable def cuts : List (Nat × List (Nat × Want)) := []
theorem e0 {c142 n J l0} : afun (cfg c142) J cuts n code Tryz.f153.results.toList [false] [.ro .u64 l0] sg.out = b0 c142 l0 := by kernel_rfl
theorem ok {n  l0 r} (h : f n l0 = some r) : CallD Tryz.prog HW 153 [.ro .u64 l0] (sg.enc r) :=
  fun_some hwS Tryz.func153 (by kernel_rfl) (body := code) (by kernel_rfl) tys_ok (c := cfg (nat_size.f n)) (orCall_ok (nat_size.call_ok (n := n)) noCall_ok) noW_ok (by kernel_rfl) (by kernel_rfl) (Nat.le_of_ble_eq_true (by kernel_rfl)) (Eq.trans ((e0 (n := n))) h)
noncomputable def call {α : Type} (g : T3) (ds : List D) (K : List D→Ω α) : Ω α := match ds with
  | [.ro .u64 l0] => (g l0).bind fun r => K (sg.enc r)
  | _ => none
theorem call_ok {α : Type} {n : Nat} : COK Tryz.prog HW 153 (call (α := α) (f n)) := fun _ _ _ h => by
  unfold call at h; split at h
  · exact cok h fun _ => ok
  · cases h
end nat_Trim
/-! ### quot_small: function 124 -/
namespace quot_small
noncomputable def b0 (c153 : T3) (l0 : Λ) (a1 : Int) : Ω (Λ × Bool) := ((c153 l0).bind fun t1 => some (t1, decide ((ln t1) ≤ a1)))
noncomputable def f (n : Nat) (l0 : Λ) (a1 : Int) : Ω (Λ × Bool) := b0 (nat_Trim.f n) l0 a1
noncomputable def sg : Sig (Λ × Bool) := s2 (sRow .u64) (s1 (sBool))
noncomputable def code : Code := (Tryz.f124.body).getD .skip
noncomputable def cfg (c153 : T3) : Cfg (Λ × Bool) := { T := tys, call := orCall 153 (nat_Trim.call c153) (noCall) }
noncomputable def cuts : List (Nat × List (Nat × Want)) := []
theorem e0 {c153 n J l0 a1} : afun (cfg c153) J cuts n code Tryz.f124.results.toList [false, false] [.ro .u64 l0, .int .i64 a1] sg.out = b0 c153 l0 a1 := by kernel_rfl
theorem ok {n  l0 a1 r} (h : f n l0 a1 = some r) : CallD Tryz.prog HW 124 [.ro .u64 l0, .int .i64 a1] (sg.enc r) :=
  fun_some hwS Tryz.func124 (by kernel_rfl) (body := code) (by kernel_rfl) tys_ok (c := cfg (nat_Trim.f n)) (orCall_ok (nat_Trim.call_ok (n := n)) noCall_ok) noW_ok (by kernel_rfl) (by kernel_rfl) (Nat.le_of_ble_eq_true (by kernel_rfl)) (Eq.trans ((e0 (n := n))) h)
noncomputable def call {α : Type} (g : T32) (ds : List D) (K : List D→Ω α) : Ω α := match ds with
  | [.ro .u64 l0, .int .i64 a1] => (g l0 a1).bind fun r => K (sg.enc r)
  | _ => none
theorem call_ok {α : Type} {n : Nat} : COK Tryz.prog HW 124 (call (α := α) (f n)) := fun _ _ _ h => by
  unfold call at h; split at h
  · exact cok h fun _ => ok
  · cases h
end quot_small
/-! ### bits_Len: function 125 -/
namespace bits_Len
noncomputable def b0 (c67 : T0) (a0 : Int) : Ω (Int) := ((c67 a0).bind fun t1 => some t1)
noncomputable def f (a0 : Int) : Ω (Int) := b0 bits_Len64.f a0
noncomputable def sg : Sig (Int) := s1 (sInt .i64)
noncomputable def code : Code := (Tryz.f125.body).getD .skip
noncomputable def cfg (c67 : T0) : Cfg (Int) := { T := tys, call := orCall 67 (bits_Len64.call c67) (noCall) }
noncomputable def cuts : List (Nat × List (Nat × Want)) := []
theorem e0 {c67 n J a0} : afun (cfg c67) J cuts n code Tryz.f125.results.toList [false] [.int .u64 a0] sg.out = b0 c67 a0 := by kernel_rfl
theorem ok {a0 r} (h : f a0 = some r) : CallD Tryz.prog HW 125 [.int .u64 a0] (sg.enc r) :=
  fun_some hwS Tryz.func125 (by kernel_rfl) (body := code) (by kernel_rfl) tys_ok (c := cfg bits_Len64.f) (orCall_ok bits_Len64.call_ok noCall_ok) noW_ok (by kernel_rfl) (by kernel_rfl) (Nat.le_of_ble_eq_true (by kernel_rfl)) (Eq.trans ((e0 (n := 0))) h)
noncomputable def call {α : Type} (g : T0) (ds : List D) (K : List D→Ω α) : Ω α := match ds with
  | [.int .u64 a0] => (g a0).bind fun r => K (sg.enc r)
  | _ => none
theorem call_ok {α : Type} : COK Tryz.prog HW 125 (call (α := α) f) := fun _ _ _ h => by
  unfold call at h; split at h
  · exact cok h fun _ => ok
  · cases h
end bits_Len
/-! ### bits_Add64: function 155 -/
namespace bits_Add64
def f (a0 a1 a2 : Int) : Ω (Int × Int) := if 0 ≤ a0 ∧ 0 ≤ a1 ∧ 0 ≤ a2 ∧ a2 ≤ 1 then some ((a0 + a1 + a2) % 18446744073709551616, (a0 + a1 + a2) / 18446744073709551616) else none
def sg : Sig (Int × Int) := s2 (sInt .u64) (s1 (sInt .u64))
theorem ok {a0 a1 a2 : Int} {r : Int × Int} (h : f a0 a1 a2 = some r) : CallD Tryz.prog HW 155 [.int .u64 a0, .int .u64 a1, .int .u64 a2] (sg.enc r) := by
  unfold f at h
  split at h
  · rename_i hh
    obtain rfl := Option.some.inj h
    exact calld_scal rfl rfl fun w _ => .inr ⟨_, _, run_add64' Tryz.func155 (by kernel_rfl) (by kernel_rfl) (by kernel_rfl) (by kernel_rfl) a0 a1 a2 hh.1 hh.2.1 hh.2.2.1 hh.2.2.2 w, rfl, rfl⟩
  · cases h
noncomputable def call {α : Type} (g : T4) (ds : List D) (K : List D→Ω α) : Ω α := match ds with
  | [.int .u64 a0, .int .u64 a1, .int .u64 a2] => (g a0 a1 a2).bind fun r => K (sg.enc r)
  | _ => none
theorem call_ok {α : Type} : COK Tryz.prog HW 155 (call (α := α) f) := fun _ _ _ h => by
  unfold call at h; split at h
  · exact cok h fun _ => ok
  · cases h
end bits_Add64
/-! ### nat_Mul: function 126 -/
namespace nat_Mul
noncomputable def b0 (c122 : T8) (c141 : T5) (c142 : T1) (c143 : T11) (c155 : T4) (k2037 : T54) (l0 l1 : Λ) : Ω (Λ × Int) := ((c141 l0).bind fun t1 => (if t1 = true then some (([] : Λ), 2) else ((c141 l1).bind fun t2 => (if t2 = true then some (([] : Λ), 2) else ((c142 l0).bind fun t3 => (if 0 ≤ t3 then (if t3 ≤ (ln l0) then ((some (l0.take t3.toNat) : Ω (Λ)).bind fun y4 => ((c142 l1).bind fun t5 => (if 0 ≤ t5 then (if t5 ≤ (ln l1) then ((some (l1.take t5.toNat) : Ω (Λ)).bind fun y6 => (if (ln y4) = 0 then some (([] : Λ), 0) else (if (ln y6) = 0 then some (([] : Λ), 0) else (if (wrap64 ((wrap64 ((ln y4) + (ln y6))) - 1)) > 4096 then some (([] : Λ), 2) else (if 0 ≤ (wrap64 ((ln y4) + (ln y6))) then (if (wrap64 ((ln y4) + (ln y6))).toNat ≤ 35184372088832 then k2037 y6 y4 (ln y4) 0 (List.replicate (wrap64 ((ln y4) + (ln y6))).toNat (0 : Int)) else none) else none))))) else none) else none))) else none) else none))))))
noncomputable def b255 (c122 : T8) (c141 : T5) (c142 : T1) (c143 : T11) (c155 : T4) (x0 : Λ) : Ω (Λ × Int) := ((c143 x0).bind fun t1 => some (t1.1, t1.2))
noncomputable def b2037 (c122 : T8) (c141 : T5) (c142 : T1) (c143 : T11) (c155 : T4) (k255 : T11) (k2085685 : T76) (x0 x1 : Λ) (x2 x3 : Int) (x4 : Λ) : Ω (Λ × Int) := (if x3 < x2 then (if 0 ≤ x3 then (if x3 < (ln x1) then k2085685 x0 x3 0 0 (rd x1 x3) x1 x2 (ln x0) x4 else none) else none) else k255 x4)
noncomputable def b260711 (c122 : T8) (c141 : T5) (c142 : T1) (c143 : T11) (c155 : T4) (k2037 : T54) (x0 : Λ) (x1 x2 : Int) (x3 : Λ) (x4 : Int) (x5 : Λ) : Ω (Λ × Int) := (if 0 ≤ (wrap64 (x1 + (ln x0))) then (if (wrap64 (x1 + (ln x0))) < (ln x5) then k2037 x0 x3 x4 (wrap64 (x1 + 1)) (x5.set (wrap64 (x1 + (ln x0)) : Int).toNat x2) else none) else none)
noncomputable def b2085685 (c122 : T8) (c141 : T5) (c142 : T1) (c143 : T11) (c155 : T4) (k260711 : T55) (k2085685 : T76) (x0 : Λ) (x1 x2 x3 x4 : Int) (x5 : Λ) (x6 x7 : Int) (x8 : Λ) : Ω (Λ × Int) := (if x3 < x7 then (if 0 ≤ x3 then (if x3 < (ln x0) then ((c122 x4 (rd x0 x3)).bind fun t1 => (if 0 ≤ (wrap64 (x1 + x3)) then (if (wrap64 (x1 + x3)) < (ln x8) then ((c155 t1.2 (rd x8 (wrap64 (x1 + x3))) 0).bind fun t2 => ((c155 t2.1 x2 0).bind fun t3 => (if 0 ≤ (wrap64 (x1 + x3)) then (if (wrap64 (x1 + x3)) < (ln x8) then k2085685 x0 x1 (IntKind.u64.wrap ((IntKind.u64.wrap (t1.1 + t2.2)) + t3.2)) (wrap64 (x3 + 1)) x4 x5 x6 x7 (x8.set (wrap64 (x1 + x3) : Int).toNat t3.1) else none) else none))) else none) else none)) else none) else none) else k260711 x0 x1 x2 x5 x6 x8)
noncomputable def l255 (n : Nat) (x0 : Λ) : Ω (Λ × Int) := b255 bits_Mul64.f (nat_big.f n) (nat_size.f n) (nat_cut.f n) bits_Add64.f x0
noncomputable def l260711 (n : Nat) (k2037 : T54) (x0 : Λ) (x1 x2 : Int) (x3 : Λ) (x4 : Int) (x5 : Λ) : Ω (Λ × Int) := b260711 bits_Mul64.f (nat_big.f n) (nat_size.f n) (nat_cut.f n) bits_Add64.f k2037 x0 x1 x2 x3 x4 x5
noncomputable def l2085685 (n : Nat) (k2037 : T54) : Nat→Λ→Int→Int→Int→Int→Λ→Int→Int→Λ→Ω (Λ × Int)
  | 0, _, _, _, _, _, _, _, _, _ => none
  | m + 1, x0, x1, x2, x3, x4, x5, x6, x7, x8 => b2085685 bits_Mul64.f (nat_big.f n) (nat_size.f n) (nat_cut.f n) bits_Add64.f (l260711 n k2037) (l2085685 n k2037 m) x0 x1 x2 x3 x4 x5 x6 x7 x8
noncomputable def l2037 (n : Nat) : Nat→Λ→Λ→Int→Int→Λ→Ω (Λ × Int)
  | 0, _, _, _, _, _ => none
  | m + 1, x0, x1, x2, x3, x4 => b2037 bits_Mul64.f (nat_big.f n) (nat_size.f n) (nat_cut.f n) bits_Add64.f (l255 n) (l2085685 n (l2037 n m) n) x0 x1 x2 x3 x4
noncomputable def f (n : Nat) (l0 l1 : Λ) : Ω (Λ × Int) := b0 bits_Mul64.f (nat_big.f n) (nat_size.f n) (nat_cut.f n) bits_Add64.f (l2037 n n) l0 l1
noncomputable def sg : Sig (Λ × Int) := s2 (sRow .u64) (s1 (sInt .i64))
noncomputable def code : Code := (Tryz.f126.body).getD .skip
noncomputable def cfg (c122 : T8) (c141 : T5) (c142 : T1) (c143 : T11) (c155 : T4) : Cfg (Λ × Int) := { T := tys, call := orCall 122 (bits_Mul64.call c122) (orCall 141 (nat_big.call c141) (orCall 142 (nat_size.call c142) (orCall 143 (nat_cut.call c143) (orCall 155 (bits_Add64.call c155) (noCall))))) }
noncomputable def cuts : List (Nat × List (Nat × Want)) := [(255, [(6, .keep)]), (2037, [(1, .keep), (6, .keep), (50, .keep), (51, .keep), (52, .keep)]), (260711, [(1, .keep), (6, .keep), (7, .keep), (9, .keep), (50, .keep), (51, .keep), (52, .keep)]), (2085685, [(1, .keep), (6, .keep), (7, .keep), (8, .keep), (9, .keep), (50, .keep), (51, .keep), (52, .keep), (57, .keep), (58, .keep), (59, .keep)])]
noncomputable def s255 (x0 : Λ) : ASt := ⟨[(6, .own 0)], [.ints 24 .u64 x0]⟩
noncomputable def s2037 (x0 x1 : Λ) (x2 x3 : Int) (x4 : Λ) : ASt := ⟨[(1, .ro .u64 x0), (6, .own 0), (50, .ro .u64 x1), (51, .int .i64 x2), (52, .int .i64 x3)], [.ints 24 .u64 x4]⟩
noncomputable def s260711 (x0 : Λ) (x1 x2 : Int) (x3 : Λ) (x4 : Int) (x5 : Λ) : ASt := ⟨[(1, .ro .u64 x0), (6, .own 0), (7, .int .i64 x1), (9, .int .u64 x2), (50, .ro .u64 x3), (51, .int .i64 x4), (52, .int .i64 x1)], [.ints 24 .u64 x5]⟩
noncomputable def s2085685 (x0 : Λ) (x1 x2 x3 x4 : Int) (x5 : Λ) (x6 x7 : Int) (x8 : Λ) : ASt := ⟨[(1, .ro .u64 x0), (6, .own 0), (7, .int .i64 x1), (8, .int .u64 x4), (9, .int .u64 x2), (50, .ro .u64 x5), (51, .int .i64 x6), (52, .int .i64 x1), (57, .ro .u64 x0), (58, .int .i64 x7), (59, .int .i64 x3)], [.ints 24 .u64 x8]⟩
noncomputable def A (c122 : T8) (c141 : T5) (c142 : T1) (c143 : T11) (c155 : T4) (n : Nat) (J : Jt (Λ × Int)) (q : Nat) (ms : List Nat) : ASt→Ω (Λ × Int) := acont (cfg c122 c141 c142 c143 c155) J cuts n q code 1 ms (aend (cfg c122 c141 c142 c143 c155) Tryz.f126.results.toList [false, false] sg.out)
theorem e0 {c122 c141 c142 c143 c155 n J l0 l1} : afun (cfg c122 c141 c142 c143 c155) J cuts n code Tryz.f126.results.toList [false, false] [.ro .u64 l0, .ro .u64 l1] sg.out = b0 c122 c141 c142 c143 c155 (fun y0 y1 y2 y3 y4 => J 2037 (A c122 c141 c142 c143 c155 n J 2037 [n]) (s2037 y0 y1 y2 y3 y4)) l0 l1 := by kernel_rfl
theorem e255 {c122 c141 c142 c143 c155 n J x0} : A c122 c141 c142 c143 c155 n J 255 [] (s255 x0) = b255 c122 c141 c142 c143 c155 x0 := by kernel_rfl
theorem e2037 {c122 c141 c142 c143 c155 n J m x0 x1 x2 x3 x4} : A c122 c141 c142 c143 c155 n J 2037 [m + 1] (s2037 x0 x1 x2 x3 x4) = b2037 c122 c141 c142 c143 c155 (fun y0 => J 255 (A c122 c141 c142 c143 c155 n J 255 []) (s255 y0)) (fun y0 y1 y2 y3 y4 y5 y6 y7 y8 => J 2085685 (A c122 c141 c142 c143 c155 n J 2085685 [m, n]) (s2085685 y0 y1 y2 y3 y4 y5 y6 y7 y8)) x0 x1 x2 x3 x4 := by kernel_rfl
theorem e260711 {c122 c141 c142 c143 c155 n J m2037 x0 x1 x2 x3 x4 x5} : A c122 c141 c142 c143 c155 n J 260711 [m2037] (s260711 x0 x1 x2 x3 x4 x5) = b260711 c122 c141 c142 c143 c155 (fun y0 y1 y2 y3 y4 => J 2037 (A c122 c141 c142 c143 c155 n J 2037 [m2037]) (s2037 y0 y1 y2 y3 y4)) x0 x1 x2 x3 x4 x5 := by kernel_rfl
theorem e2085685 {c122 c141 c142 c143 c155 n J m2037 m x0 x1 x2 x3 x4 x5 x6 x7 x8} : A c122 c141 c142 c143 c155 n J 2085685 [m2037, m + 1] (s2085685 x0 x1 x2 x3 x4 x5 x6 x7 x8) = b2085685 c122 c141 c142 c143 c155 (fun y0 y1 y2 y3 y4 y5 => J 260711 (A c122 c141 c142 c143 c155 n J 260711 [m2037]) (s260711 y0 y1 y2 y3 y4 y5)) (fun y0 y1 y2 y3 y4 y5 y6 y7 y8 => J 2085685 (A c122 c141 c142 c143 c155 n J 2085685 [m2037, m]) (s2085685 y0 y1 y2 y3 y4 y5 y6 y7 y8)) x0 x1 x2 x3 x4 x5 x6 x7 x8 := by kernel_rfl
noncomputable abbrev I (n : Nat) := A bits_Mul64.f (nat_big.f n) (nat_size.f n) (nat_cut.f n) bits_Add64.f n idJ
theorem q255 (n x0) : I n 255 [] (s255 x0) = l255 n x0 := e255
theorem q260711 (n m2037 x0 x1 x2 x3 x4 x5) : I n 260711 [m2037] (s260711 x0 x1 x2 x3 x4 x5) = l260711 n (fun y0 y1 y2 y3 y4 => I n 2037 [m2037] (s2037 y0 y1 y2 y3 y4)) x0 x1 x2 x3 x4 x5 := e260711
theorem q2085685 (n m2037 m) : ∀ x0 x1 x2 x3 x4 x5 x6 x7 x8, I n 2085685 [m2037, m] (s2085685 x0 x1 x2 x3 x4 x5 x6 x7 x8) = l2085685 n (fun y0 y1 y2 y3 y4 => I n 2037 [m2037] (s2037 y0 y1 y2 y3 y4)) m x0 x1 x2 x3 x4 x5 x6 x7 x8 := by
  induction m with
  | zero => intros; rfl
  | succ m ih =>
    intros
    exact e2085685.trans (Eq.trans (cf9 (congr (congrArg (b2085685 _ _ _ _ _) (fu6 (q260711 n m2037))) (fu9 (ih))) _ _ _ _ _ _ _ _ _) rfl)
theorem q2037 (n m) : ∀ x0 x1 x2 x3 x4, I n 2037 [m] (s2037 x0 x1 x2 x3 x4) = l2037 n m x0 x1 x2 x3 x4 := by
  induction m with
  | zero => intros; rfl
  | succ m ih =>
    intros
    exact e2037.trans (Eq.trans (cf5 (congr (congrArg (b2037 _ _ _ _ _) (fu1 (q255 n))) ((fu9 (q2085685 n m n)).trans (by rw [show (fun y0 y1 y2 y3 y4 => I n 2037 [m] (s2037 y0 y1 y2 y3 y4)) = _ from (fu5 (ih))]))) _ _ _ _ _) rfl)
theorem ok {n  l0 l1 r} (h : f n l0 l1 = some r) : CallD Tryz.prog HW 126 [.ro .u64 l0, .ro .u64 l1] (sg.enc r) :=
  fun_some hwS Tryz.func126 (by kernel_rfl) (body := code) (by kernel_rfl) tys_ok (c := cfg bits_Mul64.f (nat_big.f n) (nat_size.f n) (nat_cut.f n) bits_Add64.f) (orCall_ok bits_Mul64.call_ok (orCall_ok (nat_big.call_ok (n := n)) (orCall_ok (nat_size.call_ok (n := n)) (orCall_ok (nat_cut.call_ok (n := n)) (orCall_ok bits_Add64.call_ok noCall_ok))))) noW_ok (by kernel_rfl) (by kernel_rfl) (Nat.le_of_ble_eq_true (by kernel_rfl)) (Eq.trans ((e0 (n := n)).trans (Eq.trans (cf2 (congrArg (b0 _ _ _ _ _) (fu5 (q2037 n n))) _ _) rfl)) h)
noncomputable def call {α : Type} (g : T12) (ds : List D) (K : List D→Ω α) : Ω α := match ds with
  | [.ro .u64 l0, .ro .u64 l1] => (g l0 l1).bind fun r => K (sg.enc r)
  | _ => none
theorem call_ok {α : Type} {n : Nat} : COK Tryz.prog HW 126 (call (α := α) (f n)) := fun _ _ _ h => by
  unfold call at h; split at h
  · exact cok h fun _ => ok
  · cases h
end nat_Mul
/-! ### quot_Pow: function 70 -/
namespace quot_Pow
noncomputable def b0 (c119 : T1) (c124 : T32) (c125 : T0) (c126 : T12) (k1013 : T60) (l0 : Λ) (a1 : Int) : Ω (Λ × Int) := ((c124 l0 4096).bind fun t1 => ((c119 t1.1).bind fun t2 => (if (!t1.2) = true then some (([] : Λ), 2) else (if a1 < 0 then some (([] : Λ), 1) else (if a1 = 0 then some ([1], 0) else (if t2 ≤ 1 then some (t1.1, 0) else (if a1 ≥ 262144 then some (([] : Λ), 2) else (if (wrap64 ((wrap64 (t2 - 1)) * a1)) ≥ 262144 then some (([] : Λ), 2) else ((c125 (IntKind.u64.wrap a1)).bind fun t3 => k1013 a1 t1.1 [1] (wrap64 (t3 - 1)))))))))))
noncomputable def b1013 (c119 : T1) (c124 : T32) (c125 : T0) (c126 : T12) (k64807 : Int→Λ→Λ→Int→Int→Ω (Λ × Int)) (x0 : Int) (x1 x2 : Λ) (x3 : Int) : Ω (Λ × Int) := (if x3 ≥ 0 then ((c126 x2 x2).bind fun t1 => (if t1.2 = 0 then (if 0 ≤ (IntKind.u64.wrap x3) then (if (Go.bits .and .i64 (shr .i64 x0 (IntKind.u64.wrap x3)) 1) = 1 then ((c126 t1.1 x1).bind fun t2 => k64807 x0 x1 t2.1 x3 t2.2) else k64807 x0 x1 t1.1 x3 t1.2) else none) else k64807 x0 x1 t1.1 x3 t1.2)) else some (x2, 0))
noncomputable def b64807 (c119 : T1) (c124 : T32) (c125 : T0) (c126 : T12) (k1013 : T60) (x0 : Int) (x1 x2 : Λ) (x3 x4 : Int) : Ω (Λ × Int) := (if ¬ x4 = 0 then some (([] : Λ), x4) else k1013 x0 x1 x2 (wrap64 (x3 - 1)))
noncomputable def l64807 (n : Nat) (k1013 : T60) (x0 : Int) (x1 x2 : Λ) (x3 x4 : Int) : Ω (Λ × Int) := b64807 (nat_BitLen.f n) (quot_small.f n) bits_Len.f (nat_Mul.f n) k1013 x0 x1 x2 x3 x4
noncomputable def l1013 (n : Nat) : Nat→Int→Λ→Λ→Int→Ω (Λ × Int)
  | 0, _, _, _, _ => none
  | m + 1, x0, x1, x2, x3 => b1013 (nat_BitLen.f n) (quot_small.f n) bits_Len.f (nat_Mul.f n) (l64807 n (l1013 n m)) x0 x1 x2 x3
noncomputable def f (n : Nat) (l0 : Λ) (a1 : Int) : Ω (Λ × Int) := b0 (nat_BitLen.f n) (quot_small.f n) bits_Len.f (nat_Mul.f n) (l1013 n n) l0 a1
noncomputable def sg : Sig (Λ × Int) := s2 (sRow .u64) (s1 (sInt .i64))
noncomputable def code : Code := (Tryz.f70.body).getD .skip
noncomputable def cfg (c119 : T1) (c124 : T32) (c125 : T0) (c126 : T12) : Cfg (Λ × Int) := { T := tys, call := orCall 119 (nat_BitLen.call c119) (orCall 124 (quot_small.call c124) (orCall 125 (bits_Len.call c125) (orCall 126 (nat_Mul.call c126) (noCall)))) }
noncomputable def cuts : List (Nat × List (Nat × Want)) := [(1013, [(1, .keep), (6, .keep), (9, .cast), (10, .keep)]), (64807, [(1, .keep), (6, .keep), (9, .keep), (10, .keep), (11, .keep)])]
noncomputable def s1013 (x0 : Int) (x1 x2 : Λ) (x3 : Int) : ASt := ⟨[(1, .int .i64 x0), (6, .ro .u64 x1), (9, .ro .u64 x2), (10, .int .i64 x3)], []⟩
noncomputable def s64807 (x0 : Int) (x1 x2 : Λ) (x3 x4 : Int) : ASt := ⟨[(1, .int .i64 x0), (6, .ro .u64 x1), (9, .ro .u64 x2), (10, .int .i64 x3), (11, .int .i64 x4)], []⟩
noncomputable def A (c119 : T1) (c124 : T32) (c125 : T0) (c126 : T12) (n : Nat) (J : Jt (Λ × Int)) (q : Nat) (ms : List Nat) : ASt→Ω (Λ × Int) := acont (cfg c119 c124 c125 c126) J cuts n q code 1 ms (aend (cfg c119 c124 c125 c126) Tryz.f70.results.toList [false, false] sg.out)
theorem e0 {c119 c124 c125 c126 n J l0 a1} : afun (cfg c119 c124 c125 c126) J cuts n code Tryz.f70.results.toList [false, false] [.ro .u64 l0, .int .i64 a1] sg.out = b0 c119 c124 c125 c126 (fun y0 y1 y2 y3 => J 1013 (A c119 c124 c125 c126 n J 1013 [n]) (s1013 y0 y1 y2 y3)) l0 a1 := by kernel_rfl
theorem e1013 {c119 c124 c125 c126 n J m x0 x1 x2 x3} : A c119 c124 c125 c126 n J 1013 [m + 1] (s1013 x0 x1 x2 x3) = b1013 c119 c124 c125 c126 (fun y0 y1 y2 y3 y4 => J 64807 (A c119 c124 c125 c126 n J 64807 [m]) (s64807 y0 y1 y2 y3 y4)) x0 x1 x2 x3 := by kernel_rfl
theorem e64807 {c119 c124 c125 c126 n J m1013 x0 x1 x2 x3 x4} : A c119 c124 c125 c126 n J 64807 [m1013] (s64807 x0 x1 x2 x3 x4) = b64807 c119 c124 c125 c126 (fun y0 y1 y2 y3 => J 1013 (A c119 c124 c125 c126 n J 1013 [m1013]) (s1013 y0 y1 y2 y3)) x0 x1 x2 x3 x4 := by kernel_rfl
noncomputable abbrev I (n : Nat) := A (nat_BitLen.f n) (quot_small.f n) bits_Len.f (nat_Mul.f n) n idJ
theorem q64807 (n m1013 x0 x1 x2 x3 x4) : I n 64807 [m1013] (s64807 x0 x1 x2 x3 x4) = l64807 n (fun y0 y1 y2 y3 => I n 1013 [m1013] (s1013 y0 y1 y2 y3)) x0 x1 x2 x3 x4 := e64807
theorem q1013 (n m) : ∀ x0 x1 x2 x3, I n 1013 [m] (s1013 x0 x1 x2 x3) = l1013 n m x0 x1 x2 x3 := by
  induction m with
  | zero => intros; rfl
  | succ m ih =>
    intros
    exact e1013.trans (Eq.trans (cf4 (congrArg (b1013 _ _ _ _) ((fu5 (q64807 n m)).trans (by rw [show (fun y0 y1 y2 y3 => I n 1013 [m] (s1013 y0 y1 y2 y3)) = _ from (fu4 (ih))]))) _ _ _ _) rfl)
theorem ok {n  l0 a1 r} (h : f n l0 a1 = some r) : CallD Tryz.prog HW 70 [.ro .u64 l0, .int .i64 a1] (sg.enc r) :=
  fun_some hwS Tryz.func70 (by kernel_rfl) (body := code) (by kernel_rfl) tys_ok (c := cfg (nat_BitLen.f n) (quot_small.f n) bits_Len.f (nat_Mul.f n)) (orCall_ok (nat_BitLen.call_ok (n := n)) (orCall_ok (quot_small.call_ok (n := n)) (orCall_ok bits_Len.call_ok (orCall_ok (nat_Mul.call_ok (n := n)) noCall_ok)))) noW_ok (by kernel_rfl) (by kernel_rfl) (Nat.le_of_ble_eq_true (by kernel_rfl)) (Eq.trans ((e0 (n := n)).trans (Eq.trans (cf2 (congrArg (b0 _ _ _ _) (fu4 (q1013 n n))) _ _) rfl)) h)
noncomputable def call {α : Type} (g : T16) (ds : List D) (K : List D→Ω α) : Ω α := match ds with
  | [.ro .u64 l0, .int .i64 a1] => (g l0 a1).bind fun r => K (sg.enc r)
  | _ => none
theorem call_ok {α : Type} {n : Nat} : COK Tryz.prog HW 70 (call (α := α) (f n)) := fun _ _ _ h => by
  unfold call at h; split at h
  · exact cok h fun _ => ok
  · cases h
end quot_Pow
/-! ### nat_Cmp: function 129 -/
namespace nat_Cmp
noncomputable def b0 (c142 : T1) (k245 : T42) (l0 l1 : Λ) : Ω (Int) := ((c142 l0).bind fun t1 => ((c142 l1).bind fun t2 => (if ¬ t1 = t2 then (if t1 < t2 then some (-1) else some 1) else k245 l0 l1 (wrap64 (t1 - 1)))))
noncomputable def b245 (c142 : T1) (k245 : T42) (x0 x1 : Λ) (x2 : Int) : Ω (Int) := (if x2 ≥ 0 then (if 0 ≤ x2 then (if x2 < (ln x0) then (if 0 ≤ x2 then (if x2 < (ln x1) then (if ¬ (rd x0 x2) = (rd x1 x2) then (if 0 ≤ x2 then (if x2 < (ln x0) then (if 0 ≤ x2 then (if x2 < (ln x1) then (if (rd x0 x2) < (rd x1 x2) then some (-1) else some 1) else none) else none) else none) else none) else k245 x0 x1 (wrap64 (x2 - 1))) else none) else none) else none) else none) else some 0)
noncomputable def l245 (n : Nat) : Nat→Λ→Λ→Int→Ω (Int)
  | 0, _, _, _ => none
  | m + 1, x0, x1, x2 => b245 (nat_size.f n) (l245 n m) x0 x1 x2
noncomputable def f (n : Nat) (l0 l1 : Λ) : Ω (Int) := b0 (nat_size.f n) (l245 n n) l0 l1
noncomputable def sg : Sig (Int) := s1 (sInt .i64)
noncomputable def code : Code := (Tryz.f129.body).getD .skip
noncomputable def cfg (c142 : T1) : Cfg (Int) := { T := tys, call := orCall 142 (nat_size.call c142) (noCall) }
noncomputable def cuts : List (Nat × List (Nat × Want)) := [(245, [(0, .keep), (1, .keep), (7, .keep)])]
noncomputable def s245 (x0 x1 : Λ) (x2 : Int) : ASt := ⟨[(0, .ro .u64 x0), (1, .ro .u64 x1), (7, .int .i64 x2)], []⟩
noncomputable def A (c142 : T1) (n : Nat) (J : Jt (Int)) (q : Nat) (ms : List Nat) : ASt→Ω (Int) := acont (cfg c142) J cuts n q code 1 ms (aend (cfg c142) Tryz.f129.results.toList [false] sg.out)
theorem e0 {c142 n J l0 l1} : afun (cfg c142) J cuts n code Tryz.f129.results.toList [false] [.ro .u64 l0, .ro .u64 l1] sg.out = b0 c142 (fun y0 y1 y2 => J 245 (A c142 n J 245 [n]) (s245 y0 y1 y2)) l0 l1 := by kernel_rfl
theorem e245 {c142 n J m x0 x1 x2} : A c142 n J 245 [m + 1] (s245 x0 x1 x2) = b245 c142 (fun y0 y1 y2 => J 245 (A c142 n J 245 [m]) (s245 y0 y1 y2)) x0 x1 x2 := by kernel_rfl
noncomputable abbrev I (n : Nat) := A (nat_size.f n) n idJ
theorem q245 (n m) : ∀ x0 x1 x2, I n 245 [m] (s245 x0 x1 x2) = l245 n m x0 x1 x2 := by
  induction m with
  | zero => intros; rfl
  | succ m ih =>
    intros
    exact e245.trans (Eq.trans (cf3 (congrArg (b245 _) (fu3 (ih))) _ _ _) rfl)
theorem ok {n  l0 l1 r} (h : f n l0 l1 = some r) : CallD Tryz.prog HW 129 [.ro .u64 l0, .ro .u64 l1] (sg.enc r) :=
  fun_some hwS Tryz.func129 (by kernel_rfl) (body := code) (by kernel_rfl) tys_ok (c := cfg (nat_size.f n)) (orCall_ok (nat_size.call_ok (n := n)) noCall_ok) noW_ok (by kernel_rfl) (by kernel_rfl) (Nat.le_of_ble_eq_true (by kernel_rfl)) (Eq.trans ((e0 (n := n)).trans (Eq.trans (cf2 (congrArg (b0 _) (fu3 (q245 n n))) _ _) rfl)) h)
noncomputable def call {α : Type} (g : T10) (ds : List D) (K : List D→Ω α) : Ω α := match ds with
  | [.ro .u64 l0, .ro .u64 l1] => (g l0 l1).bind fun r => K (sg.enc r)
  | _ => none
theorem call_ok {α : Type} {n : Nat} : COK Tryz.prog HW 129 (call (α := α) (f n)) := fun _ _ _ h => by
  unfold call at h; split at h
  · exact cok h fun _ => ok
  · cases h
end nat_Cmp
/-! ### nat_DivSmall: function 156 -/
namespace nat_DivSmall
noncomputable def b0 (c141 : T5) (c142 : T1) (c143 : T11) (c152 : T4) (k2037 : T77) (l0 : Λ) (a1 : Int) : Ω (Λ × Int × Int) := ((c141 l0).bind fun t1 => (if t1 = true then some (([] : Λ), 0, 2) else (if a1 = 0 then some (([] : Λ), 0, 4) else ((c142 l0).bind fun t2 => (if 0 ≤ t2 then (if t2 ≤ (ln l0) then ((some (l0.take t2.toNat) : Ω (Λ)).bind fun y3 => (if 0 ≤ (ln y3) then (if (ln y3).toNat ≤ 35184372088832 then k2037 y3 a1 0 (wrap64 ((ln y3) - 1)) (List.replicate (ln y3).toNat (0 : Int)) else none) else none)) else none) else none)))))
noncomputable def b255 (c141 : T5) (c142 : T1) (c143 : T11) (c152 : T4) (x0 : Int) (x1 : Λ) : Ω (Λ × Int × Int) := ((c143 x1).bind fun t1 => some (t1.1, x0, t1.2))
noncomputable def b2037 (c141 : T5) (c142 : T1) (c143 : T11) (c152 : T4) (k255 : Int→Λ→Ω (Λ × Int × Int)) (k2037 : T77) (x0 : Λ) (x1 x2 x3 : Int) (x4 : Λ) : Ω (Λ × Int × Int) := (if x3 ≥ 0 then (if 0 ≤ x3 then (if x3 < (ln x0) then ((c152 x2 (rd x0 x3) x1).bind fun t1 => (if 0 ≤ x3 then (if x3 < (ln x4) then k2037 x0 x1 t1.2 (wrap64 (x3 - 1)) (x4.set (x3 : Int).toNat t1.1) else none) else none)) else none) else none) else k255 x2 x4)
noncomputable def l255 (n : Nat) (x0 : Int) (x1 : Λ) : Ω (Λ × Int × Int) := b255 (nat_big.f n) (nat_size.f n) (nat_cut.f n) (bits_Div64.f n) x0 x1
noncomputable def l2037 (n : Nat) : Nat→Λ→Int→Int→Int→Λ→Ω (Λ × Int × Int)
  | 0, _, _, _, _, _ => none
  | m + 1, x0, x1, x2, x3, x4 => b2037 (nat_big.f n) (nat_size.f n) (nat_cut.f n) (bits_Div64.f n) (l255 n) (l2037 n m) x0 x1 x2 x3 x4
noncomputable def f (n : Nat) (l0 : Λ) (a1 : Int) : Ω (Λ × Int × Int) := b0 (nat_big.f n) (nat_size.f n) (nat_cut.f n) (bits_Div64.f n) (l2037 n n) l0 a1
noncomputable def sg : Sig (Λ × Int × Int) := s2 (sRow .u64) (s2 (sInt .u64) (s1 (sInt .i64)))
noncomputable def code : Code := (Tryz.f156.body).getD .skip
noncomputable def cfg (c141 : T5) (c142 : T1) (c143 : T11) (c152 : T4) : Cfg (Λ × Int × Int) := { T := tys, call := orCall 141 (nat_big.call c141) (orCall 142 (nat_size.call c142) (orCall 143 (nat_cut.call c143) (orCall 152 (bits_Div64.call c152) (noCall)))) }
noncomputable def cuts : List (Nat × List (Nat × Want)) := [(255, [(7, .keep), (8, .keep)]), (2037, [(0, .keep), (1, .keep), (7, .keep), (8, .keep), (9, .keep)])]
noncomputable def s255 (x0 : Int) (x1 : Λ) : ASt := ⟨[(7, .own 0), (8, .int .u64 x0)], [.ints 24 .u64 x1]⟩
noncomputable def s2037 (x0 : Λ) (x1 x2 x3 : Int) (x4 : Λ) : ASt := ⟨[(0, .ro .u64 x0), (1, .int .u64 x1), (7, .own 0), (8, .int .u64 x2), (9, .int .i64 x3)], [.ints 24 .u64 x4]⟩
noncomputable def A (c141 : T5) (c142 : T1) (c143 : T11) (c152 : T4) (n : Nat) (J : Jt (Λ × Int × Int)) (q : Nat) (ms : List Nat) : ASt→Ω (Λ × Int × Int) := acont (cfg c141 c142 c143 c152) J cuts n q code 1 ms (aend (cfg c141 c142 c143 c152) Tryz.f156.results.toList [false, false, false] sg.out)
theorem e0 {c141 c142 c143 c152 n J l0 a1} : afun (cfg c141 c142 c143 c152) J cuts n code Tryz.f156.results.toList [false, false, false] [.ro .u64 l0, .int .u64 a1] sg.out = b0 c141 c142 c143 c152 (fun y0 y1 y2 y3 y4 => J 2037 (A c141 c142 c143 c152 n J 2037 [n]) (s2037 y0 y1 y2 y3 y4)) l0 a1 := by kernel_rfl
theorem e255 {c141 c142 c143 c152 n J x0 x1} : A c141 c142 c143 c152 n J 255 [] (s255 x0 x1) = b255 c141 c142 c143 c152 x0 x1 := by kernel_rfl
theorem e2037 {c141 c142 c143 c152 n J m x0 x1 x2 x3 x4} : A c141 c142 c143 c152 n J 2037 [m + 1] (s2037 x0 x1 x2 x3 x4) = b2037 c141 c142 c143 c152 (fun y0 y1 => J 255 (A c141 c142 c143 c152 n J 255 []) (s255 y0 y1)) (fun y0 y1 y2 y3 y4 => J 2037 (A c141 c142 c143 c152 n J 2037 [m]) (s2037 y0 y1 y2 y3 y4)) x0 x1 x2 x3 x4 := by kernel_rfl
noncomputable abbrev I (n : Nat) := A (nat_big.f n) (nat_size.f n) (nat_cut.f n) (bits_Div64.f n) n idJ
theorem q255 (n x0 x1) : I n 255 [] (s255 x0 x1) = l255 n x0 x1 := e255
theorem q2037 (n m) : ∀ x0 x1 x2 x3 x4, I n 2037 [m] (s2037 x0 x1 x2 x3 x4) = l2037 n m x0 x1 x2 x3 x4 := by
  induction m with
  | zero => intros; rfl
  | succ m ih =>
    intros
    exact e2037.trans (Eq.trans (cf5 (congr (congrArg (b2037 _ _ _ _) (fu2 (q255 n))) (fu5 (ih))) _ _ _ _ _) rfl)
theorem ok {n  l0 a1 r} (h : f n l0 a1 = some r) : CallD Tryz.prog HW 156 [.ro .u64 l0, .int .u64 a1] (sg.enc r) :=
  fun_some hwS Tryz.func156 (by kernel_rfl) (body := code) (by kernel_rfl) tys_ok (c := cfg (nat_big.f n) (nat_size.f n) (nat_cut.f n) (bits_Div64.f n)) (orCall_ok (nat_big.call_ok (n := n)) (orCall_ok (nat_size.call_ok (n := n)) (orCall_ok (nat_cut.call_ok (n := n)) (orCall_ok (bits_Div64.call_ok (n := n)) noCall_ok)))) noW_ok (by kernel_rfl) (by kernel_rfl) (Nat.le_of_ble_eq_true (by kernel_rfl)) (Eq.trans ((e0 (n := n)).trans (Eq.trans (cf2 (congrArg (b0 _ _ _ _) (fu5 (q2037 n n))) _ _) rfl)) h)
noncomputable def call {α : Type} (g : T61) (ds : List D) (K : List D→Ω α) : Ω α := match ds with
  | [.ro .u64 l0, .int .u64 a1] => (g l0 a1).bind fun r => K (sg.enc r)
  | _ => none
theorem call_ok {α : Type} {n : Nat} : COK Tryz.prog HW 156 (call (α := α) (f n)) := fun _ _ _ h => by
  unfold call at h; split at h
  · exact cok h fun _ => ok
  · cases h
end nat_DivSmall
/-! ### quot_raised: function 161 -/
namespace quot_raised
noncomputable def b0 (k117 : T78) (l0 : Λ) (a1 a2 : Int) : Ω (Λ) := (if 0 ≤ a2 then (if a2.toNat ≤ 35184372088832 then k117 a1 a2 l0 (ln l0) 0 (List.replicate a2.toNat (0 : Int)) else none) else none)
noncomputable def b117 (k117 : T78) (x0 x1 : Int) (x2 : Λ) (x3 x4 : Int) (x5 : Λ) : Ω (Λ) := (if x4 < x3 then (if 0 ≤ x4 then (if x4 < (ln x2) then (if 0 ≤ x4 then (if x4 < (ln x5) then (if 0 ≤ (IntKind.u64.wrap x0) then (if 0 ≤ x4 then (if x4 < (ln x5) then (if (wrap64 (x4 + 1)) < x1 then (if x0 > 0 then (if 0 ≤ (IntKind.u64.wrap (wrap64 (64 - x0))) then (if 0 ≤ (wrap64 (x4 + 1)) then (if (wrap64 (x4 + 1)) < (ln (x5.set (x4 : Int).toNat (Go.bits .or .u64 (rd x5 x4) (shl .u64 (rd x2 x4) (IntKind.u64.wrap x0))))) then k117 x0 x1 x2 x3 (wrap64 (x4 + 1)) ((x5.set (x4 : Int).toNat (Go.bits .or .u64 (rd x5 x4) (shl .u64 (rd x2 x4) (IntKind.u64.wrap x0)))).set (wrap64 (x4 + 1) : Int).toNat (shr .u64 (rd x2 x4) (IntKind.u64.wrap (wrap64 (64 - x0))))) else none) else none) else none) else k117 x0 x1 x2 x3 (wrap64 (x4 + 1)) (x5.set (x4 : Int).toNat (Go.bits .or .u64 (rd x5 x4) (shl .u64 (rd x2 x4) (IntKind.u64.wrap x0))))) else k117 x0 x1 x2 x3 (wrap64 (x4 + 1)) (x5.set (x4 : Int).toNat (Go.bits .or .u64 (rd x5 x4) (shl .u64 (rd x2 x4) (IntKind.u64.wrap x0))))) else none) else none) else none) else none) else none) else none) else none) else some x5)
noncomputable def l117 (n : Nat) : Nat→Int→Int→Λ→Int→Int→Λ→Ω (Λ)
  | 0, _, _, _, _, _, _ => none
  | m + 1, x0, x1, x2, x3, x4, x5 => b117 (l117 n m) x0 x1 x2 x3 x4 x5
noncomputable def f (n : Nat) (l0 : Λ) (a1 a2 : Int) : Ω (Λ) := b0 (l117 n n) l0 a1 a2
noncomputable def sg : Sig (Λ) := s1 (sOwn 24 .u64)
noncomputable def code : Code := (Tryz.f161.body).getD .skip
noncomputable def cfg : Cfg (Λ) := { T := tys, call := noCall }
noncomputable def cuts : List (Nat × List (Nat × Want)) := [(117, [(1, .keep), (2, .keep), (7, .keep), (12, .keep), (13, .keep), (14, .keep)])]
noncomputable def s117 (x0 x1 : Int) (x2 : Λ) (x3 x4 : Int) (x5 : Λ) : ASt := ⟨[(1, .int .i64 x0), (2, .int .i64 x1), (7, .own 0), (12, .ro .u64 x2), (13, .int .i64 x3), (14, .int .i64 x4)], [.ints 24 .u64 x5]⟩
noncomputable def A (n : Nat) (J : Jt (Λ)) (q : Nat) (ms : List Nat) : ASt→Ω (Λ) := acont cfg J cuts n q code 1 ms (aend cfg Tryz.f161.results.toList [true] sg.out)
theorem e0 {n J l0 a1 a2} : afun cfg J cuts n code Tryz.f161.results.toList [true] [.ro .u64 l0, .int .i64 a1, .int .i64 a2] sg.out = b0 (fun y0 y1 y2 y3 y4 y5 => J 117 (A n J 117 [n]) (s117 y0 y1 y2 y3 y4 y5)) l0 a1 a2 := by kernel_rfl
theorem e117 {n J m x0 x1 x2 x3 x4 x5} : A n J 117 [m + 1] (s117 x0 x1 x2 x3 x4 x5) = b117 (fun y0 y1 y2 y3 y4 y5 => J 117 (A n J 117 [m]) (s117 y0 y1 y2 y3 y4 y5)) x0 x1 x2 x3 x4 x5 := by kernel_rfl
noncomputable abbrev I (n : Nat) := A n idJ
theorem q117 (n m) : ∀ x0 x1 x2 x3 x4 x5, I n 117 [m] (s117 x0 x1 x2 x3 x4 x5) = l117 n m x0 x1 x2 x3 x4 x5 := by
  induction m with
  | zero => intros; rfl
  | succ m ih =>
    intros
    exact e117.trans (Eq.trans (cf6 (congrArg b117 (fu6 (ih))) _ _ _ _ _ _) rfl)
theorem ok {n  l0 a1 a2 r} (h : f n l0 a1 a2 = some r) : CallD Tryz.prog HW 161 [.ro .u64 l0, .int .i64 a1, .int .i64 a2] (sg.enc r) :=
  fun_some hwS Tryz.func161 (by kernel_rfl) (body := code) (by kernel_rfl) tys_ok (c := cfg) noCall_ok noW_ok (by kernel_rfl) (by kernel_rfl) (Nat.le_of_ble_eq_true (by kernel_rfl)) (Eq.trans ((e0 (n := n)).trans (Eq.trans (cf3 (congrArg b0 (fu6 (q117 n n))) _ _ _) rfl)) h)
noncomputable def call {α : Type} (g : T37) (ds : List D) (K : List D→Ω α) : Ω α := match ds with
  | [.ro .u64 l0, .int .i64 a1, .int .i64 a2] => (g l0 a1 a2).bind fun r => K (sg.enc r)
  | _ => none
theorem call_ok {α : Type} {n : Nat} : COK Tryz.prog HW 161 (call (α := α) (f n)) := fun _ _ _ h => by
  unfold call at h; split at h
  · exact cok h fun _ => ok
  · cases h
end quot_raised
/-! ### quot_guess: function 162 -/
namespace quot_guess
noncomputable def b0 (c152 : T4) (l0 l1 : Λ) : Ω (Int) := (if 0 ≤ (ln l1) then (if (ln l1) < (ln l0) then (if 0 ≤ (wrap64 ((ln l1) - 1)) then (if (wrap64 ((ln l1) - 1)) < (ln l1) then (if (rd l0 (ln l1)) ≥ (rd l1 (wrap64 ((ln l1) - 1))) then some 18446744073709551615 else (if 0 ≤ (ln l1) then (if (ln l1) < (ln l0) then (if 0 ≤ (wrap64 ((ln l1) - 1)) then (if (wrap64 ((ln l1) - 1)) < (ln l0) then (if 0 ≤ (wrap64 ((ln l1) - 1)) then (if (wrap64 ((ln l1) - 1)) < (ln l1) then ((c152 (rd l0 (ln l1)) (rd l0 (wrap64 ((ln l1) - 1))) (rd l1 (wrap64 ((ln l1) - 1)))).bind fun t1 => some t1.1) else none) else none) else none) else none) else none) else none)) else none) else none) else none) else none)
noncomputable def f (n : Nat) (l0 l1 : Λ) : Ω (Int) := b0 (bits_Div64.f n) l0 l1
noncomputable def sg : Sig (Int) := s1 (sInt .u64)
noncomputable def code : Code := (Tryz.f162.body).getD .skip
noncomputable def cfg (c152 : T4) : Cfg (Int) := { T := tys, call := orCall 152 (bits_Div64.call c152) (noCall) }
noncomputable def cuts : List (Nat × List (Nat × Want)) := []
theorem e0 {c152 n J l0 l1} : afun (cfg c152) J cuts n code Tryz.f162.results.toList [false] [.ro .u64 l0, .ro .u64 l1] sg.out = b0 c152 l0 l1 := by kernel_rfl
theorem ok {n  l0 l1 r} (h : f n l0 l1 = some r) : CallD Tryz.prog HW 162 [.ro .u64 l0, .ro .u64 l1] (sg.enc r) :=
  fun_some hwS Tryz.func162 (by kernel_rfl) (body := code) (by kernel_rfl) tys_ok (c := cfg (bits_Div64.f n)) (orCall_ok (bits_Div64.call_ok (n := n)) noCall_ok) noW_ok (by kernel_rfl) (by kernel_rfl) (Nat.le_of_ble_eq_true (by kernel_rfl)) (Eq.trans ((e0 (n := n))) h)
noncomputable def call {α : Type} (g : T10) (ds : List D) (K : List D→Ω α) : Ω α := match ds with
  | [.ro .u64 l0, .ro .u64 l1] => (g l0 l1).bind fun r => K (sg.enc r)
  | _ => none
theorem call_ok {α : Type} {n : Nat} : COK Tryz.prog HW 162 (call (α := α) (f n)) := fun _ _ _ h => by
  unfold call at h; split at h
  · exact cok h fun _ => ok
  · cases h
end quot_guess
/-! ### bits_Sub64: function 158 -/
namespace bits_Sub64
def f (a0 a1 a2 : Int) : Ω (Int × Int) := if 0 ≤ a0 ∧ 0 ≤ a1 ∧ a1 < 18446744073709551616 ∧ 0 ≤ a2 ∧ a2 ≤ 1 then some ((a0 - a1 - a2) % 18446744073709551616, if a0 < a1 + a2 then 1 else 0) else none
def sg : Sig (Int × Int) := s2 (sInt .u64) (s1 (sInt .u64))
theorem ok {a0 a1 a2 : Int} {r : Int × Int} (h : f a0 a1 a2 = some r) : CallD Tryz.prog HW 158 [.int .u64 a0, .int .u64 a1, .int .u64 a2] (sg.enc r) := by
  unfold f at h
  split at h
  · rename_i hh
    obtain rfl := Option.some.inj h
    exact calld_scal rfl rfl fun w _ => .inr ⟨_, _, run_sub64' Tryz.func158 (by kernel_rfl) (by kernel_rfl) (by kernel_rfl) (by kernel_rfl) a0 a1 a2 hh.1 hh.2.1 hh.2.2.1 hh.2.2.2.1 hh.2.2.2.2 w, rfl, rfl⟩
  · cases h
noncomputable def call {α : Type} (g : T4) (ds : List D) (K : List D→Ω α) : Ω α := match ds with
  | [.int .u64 a0, .int .u64 a1, .int .u64 a2] => (g a0 a1 a2).bind fun r => K (sg.enc r)
  | _ => none
theorem call_ok {α : Type} : COK Tryz.prog HW 158 (call (α := α) f) := fun _ _ _ h => by
  unfold call at h; split at h
  · exact cok h fun _ => ok
  · cases h
end bits_Sub64
/-! ### quot_takeOff: function 163 -/
namespace quot_takeOff
noncomputable def b0 (c122 : T8) (c155 c158 : T4) (k117 : T79) (l0 l1 : Λ) (a2 : Int) : Ω (Λ × Bool) := k117 l1 a2 0 0 0 (ln l1) l0
noncomputable def b15 (c122 : T8) (c155 c158 : T4) (x0 : Λ) (x1 x2 : Int) (x3 : Λ) : Ω (Λ × Bool) := (if 0 ≤ (ln x0) then (if (ln x0) < (ln x3) then ((c158 (rd x3 (ln x0)) x1 x2).bind fun t1 => (if 0 ≤ (ln x0) then (if (ln x0) < (ln x3) then some (x3.set ((ln x0) : Int).toNat t1.1, decide (¬ t1.2 = 0)) else none) else none)) else none) else none)
noncomputable def b117 (c122 : T8) (c155 c158 : T4) (k15 : Λ→Int→Int→Λ→Ω (Λ × Bool)) (k117 : T79) (x0 : Λ) (x1 x2 x3 x4 x5 : Int) (x6 : Λ) : Ω (Λ × Bool) := (if x4 < x5 then (if 0 ≤ x4 then (if x4 < (ln x0) then ((c122 x1 (rd x0 x4)).bind fun t1 => ((c155 t1.2 x2 0).bind fun t2 => (if 0 ≤ x4 then (if x4 < (ln x6) then ((c158 (rd x6 x4) t2.1 x3).bind fun t3 => (if 0 ≤ x4 then (if x4 < (ln x6) then k117 x0 x1 (IntKind.u64.wrap (t1.1 + t2.2)) t3.2 (wrap64 (x4 + 1)) x5 (x6.set (x4 : Int).toNat t3.1) else none) else none)) else none) else none))) else none) else none) else k15 x0 x2 x3 x6)
noncomputable def l15 (n : Nat) (x0 : Λ) (x1 x2 : Int) (x3 : Λ) : Ω (Λ × Bool) := b15 bits_Mul64.f bits_Add64.f bits_Sub64.f x0 x1 x2 x3
noncomputable def l117 (n : Nat) : Nat→Λ→Int→Int→Int→Int→Int→Λ→Ω (Λ × Bool)
  | 0, _, _, _, _, _, _, _ => none
  | m + 1, x0, x1, x2, x3, x4, x5, x6 => b117 bits_Mul64.f bits_Add64.f bits_Sub64.f (l15 n) (l117 n m) x0 x1 x2 x3 x4 x5 x6
noncomputable def f (n : Nat) (l0 l1 : Λ) (a2 : Int) : Ω (Λ × Bool) := b0 bits_Mul64.f bits_Add64.f bits_Sub64.f (l117 n n) l0 l1 a2
noncomputable def sg : Sig (Bool) := s1 (sBool)
noncomputable def code : Code := (Tryz.f163.body).getD .skip
noncomputable def cfg (c122 : T8) (c155 c158 : T4) : Cfg (Λ × Bool) := { T := tys, call := orCall 122 (bits_Mul64.call c122) (orCall 155 (bits_Add64.call c155) (orCall 158 (bits_Sub64.call c158) (noCall))) }
noncomputable def cuts : List (Nat × List (Nat × Want)) := [(15, [(0, .keep), (1, .keep), (7, .keep), (8, .keep)]), (117, [(0, .keep), (1, .keep), (2, .keep), (7, .keep), (8, .keep), (14, .keep), (15, .keep), (16, .keep)])]
noncomputable def s15 (x0 : Λ) (x1 x2 : Int) (x3 : Λ) : ASt := ⟨[(0, .own 0), (1, .ro .u64 x0), (7, .int .u64 x1), (8, .int .u64 x2)], [.bor .u64 x3]⟩
noncomputable def s117 (x0 : Λ) (x1 x2 x3 x4 x5 : Int) (x6 : Λ) : ASt := ⟨[(0, .own 0), (1, .ro .u64 x0), (2, .int .u64 x1), (7, .int .u64 x2), (8, .int .u64 x3), (14, .ro .u64 x0), (15, .int .i64 x5), (16, .int .i64 x4)], [.bor .u64 x6]⟩
noncomputable def A (c122 : T8) (c155 c158 : T4) (n : Nat) (J : Jt (Λ × Bool)) (q : Nat) (ms : List Nat) : ASt→Ω (Λ × Bool) := acont (cfg c122 c155 c158) J cuts n q code 1 ms (aendw (cfg c122 c155 c158) Tryz.f163.results.toList (sgw sg))
theorem e0 (c122 : T8) (c155 c158 : T4) (n : Nat) (J : Jt (Λ × Bool)) (l0 l1 : Λ) (a2 : Int) : afunw (cfg c122 c155 c158) J cuts n code Tryz.f163.results.toList l0 [.ro .u64 l1, .int .u64 a2] (sgw sg) = b0 c122 c155 c158 (fun y0 y1 y2 y3 y4 y5 y6 => J 117 (A c122 c155 c158 n J 117 [n]) (s117 y0 y1 y2 y3 y4 y5 y6)) l0 l1 a2 := by kernel_rfl
theorem e15 (c122 : T8) (c155 c158 : T4) (n : Nat) (J : Jt (Λ × Bool)) (x0 : Λ) (x1 x2 : Int) (x3 : Λ) : A c122 c155 c158 n J 15 [] (s15 x0 x1 x2 x3) = b15 c122 c155 c158 x0 x1 x2 x3 := by kernel_rfl
theorem e117 (c122 : T8) (c155 c158 : T4) (n : Nat) (J : Jt (Λ × Bool)) (m : Nat) (x0 : Λ) (x1 x2 x3 x4 x5 : Int) (x6 : Λ) : A c122 c155 c158 n J 117 [m + 1] (s117 x0 x1 x2 x3 x4 x5 x6) = b117 c122 c155 c158 (fun y0 y1 y2 y3 => J 15 (A c122 c155 c158 n J 15 []) (s15 y0 y1 y2 y3)) (fun y0 y1 y2 y3 y4 y5 y6 => J 117 (A c122 c155 c158 n J 117 [m]) (s117 y0 y1 y2 y3 y4 y5 y6)) x0 x1 x2 x3 x4 x5 x6 := by kernel_rfl
theorem q15 (n : Nat) (x0 : Λ) (x1 x2 : Int) (x3 : Λ) : A bits_Mul64.f bits_Add64.f bits_Sub64.f n idJ 15 [] (s15 x0 x1 x2 x3) = l15 n x0 x1 x2 x3 := (e15 bits_Mul64.f bits_Add64.f bits_Sub64.f n idJ x0 x1 x2 x3).trans (rfl)
theorem q117 (n m : Nat) : ∀ (x0 : Λ) (x1 x2 x3 x4 x5 : Int) (x6 : Λ), A bits_Mul64.f bits_Add64.f bits_Sub64.f n idJ 117 [m] (s117 x0 x1 x2 x3 x4 x5 x6) = l117 n m x0 x1 x2 x3 x4 x5 x6 := by
  induction m with
  | zero => intros; rfl
  | succ m ih =>
    intro x0 x1 x2 x3 x4 x5 x6
    refine (e117 bits_Mul64.f bits_Add64.f bits_Sub64.f n idJ m x0 x1 x2 x3 x4 x5 x6).trans ?_
    exact congrFun (congrFun (congrFun (congrFun (congrFun (congrFun (congrFun (congr (congrArg (b117 bits_Mul64.f bits_Add64.f bits_Sub64.f) (funext fun y0 => (funext fun y1 => (funext fun y2 => (funext fun y3 => q15 n y0 y1 y2 y3))))) (funext fun y0 => (funext fun y1 => (funext fun y2 => (funext fun y3 => (funext fun y4 => (funext fun y5 => (funext fun y6 => ih y0 y1 y2 y3 y4 y5 y6)))))))) x0) x1) x2) x3) x4) x5) x6
theorem eq (n : Nat) (l0 l1 : Λ) (a2 : Int) : afunw (cfg bits_Mul64.f bits_Add64.f bits_Sub64.f) idJ cuts n code Tryz.f163.results.toList l0 [.ro .u64 l1, .int .u64 a2] (sgw sg) = f n l0 l1 a2 := (e0 bits_Mul64.f bits_Add64.f bits_Sub64.f n idJ l0 l1 a2).trans (congrFun (congrFun (congrFun (congrArg (b0 bits_Mul64.f bits_Add64.f bits_Sub64.f) (funext fun y0 => (funext fun y1 => (funext fun y2 => (funext fun y3 => (funext fun y4 => (funext fun y5 => (funext fun y6 => q117 n n y0 y1 y2 y3 y4 y5 y6)))))))) l0) l1) a2)
theorem ok {n : Nat} {l0 : Λ} {l1 : Λ} {a2 : Int} {r : Λ × Bool} (h : f n l0 l1 a2 = some r) : CallW Tryz.prog HW 163 l0 [.ro .u64 l1, .int .u64 a2] r.1 (sg.enc r.2) :=
  funw_some Tryz.func163 (by kernel_rfl) (body := code) (by kernel_rfl) tys_ok (c := cfg bits_Mul64.f bits_Add64.f bits_Sub64.f) (orCall_ok bits_Mul64.call_ok (orCall_ok bits_Add64.call_ok (orCall_ok bits_Sub64.call_ok noCall_ok))) noW_ok (by kernel_rfl) (by kernel_rfl) (Nat.le_of_ble_eq_true (by kernel_rfl)) ((eq n l0 l1 a2).trans h)
noncomputable def call {α : Type} (g : T38) (l0 : Λ) (ds : List D) (K : Λ→List D→Ω α) : Ω α := match ds with
  | [.ro .u64 l1, .int .u64 a2] => (g l0 l1 a2).bind fun r => K r.1 (sg.enc r.2)
  | _ => none
theorem call_ok {α : Type} {n : Nat} (l : Λ) (ds : List D) (K : Λ→List D→Ω α) (r : α) (h : call (f n) l ds K = some r) : ∃ l' rs, K l' rs = some r ∧ CallW Tryz.prog HW 163 l ds l' rs := by
  unfold call at h
  split at h
  · obtain ⟨x, hx, hk⟩ := Option.bind_eq_some_iff.1 h
    exact ⟨_, _, hk, ok (n := n) hx⟩
  · cases h
end quot_takeOff
/-! ### quot_putBack: function 164 -/
namespace quot_putBack
noncomputable def b0 (c155 : T4) (k117 : T80) (l0 l1 : Λ) : Ω (Λ × Bool) := k117 l1 0 0 (ln l1) l0
noncomputable def b15 (c155 : T4) (x0 : Λ) (x1 : Int) (x2 : Λ) : Ω (Λ × Bool) := (if 0 ≤ (ln x0) then (if (ln x0) < (ln x2) then ((c155 (rd x2 (ln x0)) 0 x1).bind fun t1 => (if 0 ≤ (ln x0) then (if (ln x0) < (ln x2) then some (x2.set ((ln x0) : Int).toNat t1.1, decide (¬ t1.2 = 0)) else none) else none)) else none) else none)
noncomputable def b117 (c155 : T4) (k15 : Λ→Int→Λ→Ω (Λ × Bool)) (k117 : T80) (x0 : Λ) (x1 x2 x3 : Int) (x4 : Λ) : Ω (Λ × Bool) := (if x2 < x3 then (if 0 ≤ x2 then (if x2 < (ln x0) then (if 0 ≤ x2 then (if x2 < (ln x4) then ((c155 (rd x4 x2) (rd x0 x2) x1).bind fun t1 => (if 0 ≤ x2 then (if x2 < (ln x4) then k117 x0 t1.2 (wrap64 (x2 + 1)) x3 (x4.set (x2 : Int).toNat t1.1) else none) else none)) else none) else none) else none) else none) else k15 x0 x1 x4)
noncomputable def l15 (n : Nat) (x0 : Λ) (x1 : Int) (x2 : Λ) : Ω (Λ × Bool) := b15 bits_Add64.f x0 x1 x2
noncomputable def l117 (n : Nat) : Nat→Λ→Int→Int→Int→Λ→Ω (Λ × Bool)
  | 0, _, _, _, _, _ => none
  | m + 1, x0, x1, x2, x3, x4 => b117 bits_Add64.f (l15 n) (l117 n m) x0 x1 x2 x3 x4
noncomputable def f (n : Nat) (l0 l1 : Λ) : Ω (Λ × Bool) := b0 bits_Add64.f (l117 n n) l0 l1
noncomputable def sg : Sig (Bool) := s1 (sBool)
noncomputable def code : Code := (Tryz.f164.body).getD .skip
noncomputable def cfg (c155 : T4) : Cfg (Λ × Bool) := { T := tys, call := orCall 155 (bits_Add64.call c155) (noCall) }
noncomputable def cuts : List (Nat × List (Nat × Want)) := [(15, [(0, .keep), (1, .keep), (5, .keep)]), (117, [(0, .keep), (1, .keep), (5, .keep), (8, .keep), (9, .keep), (10, .keep)])]
noncomputable def s15 (x0 : Λ) (x1 : Int) (x2 : Λ) : ASt := ⟨[(0, .own 0), (1, .ro .u64 x0), (5, .int .u64 x1)], [.bor .u64 x2]⟩
noncomputable def s117 (x0 : Λ) (x1 x2 x3 : Int) (x4 : Λ) : ASt := ⟨[(0, .own 0), (1, .ro .u64 x0), (5, .int .u64 x1), (8, .ro .u64 x0), (9, .int .i64 x3), (10, .int .i64 x2)], [.bor .u64 x4]⟩
noncomputable def A (c155 : T4) (n : Nat) (J : Jt (Λ × Bool)) (q : Nat) (ms : List Nat) : ASt→Ω (Λ × Bool) := acont (cfg c155) J cuts n q code 1 ms (aendw (cfg c155) Tryz.f164.results.toList (sgw sg))
theorem e0 (c155 : T4) (n : Nat) (J : Jt (Λ × Bool)) (l0 l1 : Λ) : afunw (cfg c155) J cuts n code Tryz.f164.results.toList l0 [.ro .u64 l1] (sgw sg) = b0 c155 (fun y0 y1 y2 y3 y4 => J 117 (A c155 n J 117 [n]) (s117 y0 y1 y2 y3 y4)) l0 l1 := by kernel_rfl
theorem e15 (c155 : T4) (n : Nat) (J : Jt (Λ × Bool)) (x0 : Λ) (x1 : Int) (x2 : Λ) : A c155 n J 15 [] (s15 x0 x1 x2) = b15 c155 x0 x1 x2 := by kernel_rfl
theorem e117 (c155 : T4) (n : Nat) (J : Jt (Λ × Bool)) (m : Nat) (x0 : Λ) (x1 x2 x3 : Int) (x4 : Λ) : A c155 n J 117 [m + 1] (s117 x0 x1 x2 x3 x4) = b117 c155 (fun y0 y1 y2 => J 15 (A c155 n J 15 []) (s15 y0 y1 y2)) (fun y0 y1 y2 y3 y4 => J 117 (A c155 n J 117 [m]) (s117 y0 y1 y2 y3 y4)) x0 x1 x2 x3 x4 := by kernel_rfl
theorem q15 (n : Nat) (x0 : Λ) (x1 : Int) (x2 : Λ) : A bits_Add64.f n idJ 15 [] (s15 x0 x1 x2) = l15 n x0 x1 x2 := (e15 bits_Add64.f n idJ x0 x1 x2).trans (rfl)
theorem q117 (n m : Nat) : ∀ (x0 : Λ) (x1 x2 x3 : Int) (x4 : Λ), A bits_Add64.f n idJ 117 [m] (s117 x0 x1 x2 x3 x4) = l117 n m x0 x1 x2 x3 x4 := by
  induction m with
  | zero => intros; rfl
  | succ m ih =>
    intro x0 x1 x2 x3 x4
    refine (e117 bits_Add64.f n idJ m x0 x1 x2 x3 x4).trans ?_
    exact congrFun (congrFun (congrFun (congrFun (congrFun (congr (congrArg (b117 bits_Add64.f) (funext fun y0 => (funext fun y1 => (funext fun y2 => q15 n y0 y1 y2)))) (funext fun y0 => (funext fun y1 => (funext fun y2 => (funext fun y3 => (funext fun y4 => ih y0 y1 y2 y3 y4)))))) x0) x1) x2) x3) x4
theorem eq (n : Nat) (l0 l1 : Λ) : afunw (cfg bits_Add64.f) idJ cuts n code Tryz.f164.results.toList l0 [.ro .u64 l1] (sgw sg) = f n l0 l1 := (e0 bits_Add64.f n idJ l0 l1).trans (congrFun (congrFun (congrArg (b0 bits_Add64.f) (funext fun y0 => (funext fun y1 => (funext fun y2 => (funext fun y3 => (funext fun y4 => q117 n n y0 y1 y2 y3 y4)))))) l0) l1)
theorem ok {n : Nat} {l0 : Λ} {l1 : Λ} {r : Λ × Bool} (h : f n l0 l1 = some r) : CallW Tryz.prog HW 164 l0 [.ro .u64 l1] r.1 (sg.enc r.2) :=
  funw_some Tryz.func164 (by kernel_rfl) (body := code) (by kernel_rfl) tys_ok (c := cfg bits_Add64.f) (orCall_ok bits_Add64.call_ok noCall_ok) noW_ok (by kernel_rfl) (by kernel_rfl) (Nat.le_of_ble_eq_true (by kernel_rfl)) ((eq n l0 l1).trans h)
noncomputable def call {α : Type} (g : T39) (l0 : Λ) (ds : List D) (K : Λ→List D→Ω α) : Ω α := match ds with
  | [.ro .u64 l1] => (g l0 l1).bind fun r => K r.1 (sg.enc r.2)
  | _ => none
theorem call_ok {α : Type} {n : Nat} (l : Λ) (ds : List D) (K : Λ→List D→Ω α) (r : α) (h : call (f n) l ds K = some r) : ∃ l' rs, K l' rs = some r ∧ CallW Tryz.prog HW 164 l ds l' rs := by
  unfold call at h
  split at h
  · obtain ⟨x, hx, hk⟩ := Option.bind_eq_some_iff.1 h
    exact ⟨_, _, hk, ok (n := n) hx⟩
  · cases h
end quot_putBack
/-! ### quot_long: function 157 -/
namespace quot_long
noncomputable def b0 (c144 : T20) (c153 : T3) (c160 : T0) (c161 : T37) (c162 : T10) (c163 : T38) (c164 : T39) (k7157 : T62) (l0 l1 : Λ) : Ω (Λ × Λ) := (if 0 ≤ (wrap64 ((ln l1) - 1)) then (if (wrap64 ((ln l1) - 1)) < (ln l1) then ((c160 (rd l1 (wrap64 ((ln l1) - 1)))).bind fun t1 => ((c161 l1 t1 (ln l1)).bind fun t2 => ((c161 l0 t1 (wrap64 ((ln l0) + 1))).bind fun t3 => (if 0 ≤ (wrap64 ((wrap64 ((ln l0) - (ln l1))) + 1)) then (if (wrap64 ((wrap64 ((ln l0) - (ln l1))) + 1)).toNat ≤ 35184372088832 then k7157 (ln l1) t1 (wrap64 ((ln (List.replicate (wrap64 ((wrap64 ((ln l0) - (ln l1))) + 1)).toNat (0 : Int))) - 1)) t2 t3 (List.replicate (wrap64 ((wrap64 ((ln l0) - (ln l1))) + 1)).toNat (0 : Int)) else none) else none)))) else none) else none)
noncomputable def b895 (c144 : T20) (c153 : T3) (c160 : T0) (c161 : T37) (c162 : T10) (c163 : T38) (c164 : T39) (x0 x1 : Int) (x2 x3 : Λ) : Ω (Λ × Λ) := (if 0 ≤ x0 then (if x0 ≤ (ln x2) then ((c144 ((x2.take (x0 : Int).toNat).drop 0) x1).bind fun t1 => ((c153 x3).bind fun t2 => some (t2, t1.1))) else none) else none)
noncomputable def b7157 (c144 : T20) (c153 : T3) (c160 : T0) (c161 : T37) (c162 : T10) (c163 : T38) (c164 : T39) (k895 : Int→Int→Λ→Λ→Ω (Λ × Λ)) (k1832093 : T81) (x0 x1 x2 : Int) (x3 x4 x5 : Λ) : Ω (Λ × Λ) := (if x2 ≥ 0 then (if 0 ≤ (wrap64 ((wrap64 (x2 + x0)) + 1)) then (if (wrap64 ((wrap64 (x2 + x0)) + 1)) ≤ (ln x4) then (if 0 ≤ x2 then (if x2 ≤ (wrap64 ((wrap64 (x2 + x0)) + 1)) then ((c162 ((x4.take (wrap64 ((wrap64 (x2 + x0)) + 1) : Int).toNat).drop (x2 : Int).toNat) x3).bind fun t1 => (if x2 < (wrap64 ((wrap64 (x2 + x0)) + 1)) then ((c163 ((x4.take (wrap64 ((wrap64 (x2 + x0)) + 1) : Int).toNat).drop (x2 : Int).toNat) x3 t1).bind fun t2 => k1832093 x0 x1 x2 (wrap64 ((wrap64 (x2 + x0)) + 1)) t1 t2.2 x3 (x4.take (x2 : Int).toNat ++ t2.1 ++ x4.drop (wrap64 ((wrap64 (x2 + x0)) + 1) : Int).toNat) x5) else none)) else none) else none) else none) else none) else k895 x0 x1 x4 x5)
noncomputable def b1832093 (c144 : T20) (c153 : T3) (c160 : T0) (c161 : T37) (c162 : T10) (c163 : T38) (c164 : T39) (k7157 : T62) (k1832093 : T81) (x0 x1 x2 x3 x4 : Int) (x5 : Bool) (x6 x7 x8 : Λ) : Ω (Λ × Λ) := (if (!x5) = true then (if 0 ≤ x2 then (if x2 < (ln x8) then k7157 x0 x1 (wrap64 (x2 - 1)) x6 x7 (x8.set (x2 : Int).toNat x4) else none) else none) else (if x2 < x3 then ((c164 ((x7.take (x3 : Int).toNat).drop (x2 : Int).toNat) x6).bind fun t1 => k1832093 x0 x1 x2 x3 (IntKind.u64.wrap (x4 - 1)) (!t1.2) x6 (x7.take (x2 : Int).toNat ++ t1.1 ++ x7.drop (x3 : Int).toNat) x8) else none))
noncomputable def l895 (n : Nat) (x0 x1 : Int) (x2 x3 : Λ) : Ω (Λ × Λ) := b895 (nat_Shr.f n) (nat_Trim.f n) bits_LeadingZeros64.f (quot_raised.f n) (quot_guess.f n) (quot_takeOff.f n) (quot_putBack.f n) x0 x1 x2 x3
noncomputable def l1832093 (n : Nat) (k7157 : T62) : Nat→Int→Int→Int→Int→Int→Bool→Λ→Λ→Λ→Ω (Λ × Λ)
  | 0, _, _, _, _, _, _, _, _, _ => none
  | m + 1, x0, x1, x2, x3, x4, x5, x6, x7, x8 => b1832093 (nat_Shr.f n) (nat_Trim.f n) bits_LeadingZeros64.f (quot_raised.f n) (quot_guess.f n) (quot_takeOff.f n) (quot_putBack.f n) k7157 (l1832093 n k7157 m) x0 x1 x2 x3 x4 x5 x6 x7 x8
noncomputable def l7157 (n : Nat) : Nat→Int→Int→Int→Λ→Λ→Λ→Ω (Λ × Λ)
  | 0, _, _, _, _, _, _ => none
  | m + 1, x0, x1, x2, x3, x4, x5 => b7157 (nat_Shr.f n) (nat_Trim.f n) bits_LeadingZeros64.f (quot_raised.f n) (quot_guess.f n) (quot_takeOff.f n) (quot_putBack.f n) (l895 n) (l1832093 n (l7157 n m) n) x0 x1 x2 x3 x4 x5
noncomputable def f (n : Nat) (l0 l1 : Λ) : Ω (Λ × Λ) := b0 (nat_Shr.f n) (nat_Trim.f n) bits_LeadingZeros64.f (quot_raised.f n) (quot_guess.f n) (quot_takeOff.f n) (quot_putBack.f n) (l7157 n n) l0 l1
noncomputable def sg : Sig (Λ × Λ) := s2 (sRow .u64) (s1 (sRow .u64))
noncomputable def code : Code := (Tryz.f157.body).getD .skip
noncomputable def cfg (c144 : T20) (c153 : T3) (c160 : T0) (c161 : T37) (c162 : T10) (c163 : T38) (c164 : T39) : Cfg (Λ × Λ) := { T := tys, call := orCall 144 (nat_Shr.call c144) (orCall 153 (nat_Trim.call c153) (orCall 160 (bits_LeadingZeros64.call c160) (orCall 161 (quot_raised.call c161) (orCall 162 (quot_guess.call c162) (noCall))))), win := true, wr := [163, 164], callw := orW 163 (quot_takeOff.call c163) (orW 164 (quot_putBack.call c164) (noW)) }
noncomputable def cuts : List (Nat × List (Nat × Want)) := [(895, [(6, .keep), (7, .keep), (9, .keep), (10, .keep)]), (7157, [(6, .keep), (7, .keep), (8, .keep), (9, .keep), (10, .keep), (11, .keep)]), (1832093, [(6, .keep), (7, .keep), (8, .keep), (9, .keep), (10, .keep), (11, .keep), (12, .keep), (13, .keep), (14, .keep)])]
noncomputable def s895 (x0 x1 : Int) (x2 x3 : Λ) : ASt := ⟨[(6, .int .i64 x0), (7, .int .i64 x1), (9, .own 0), (10, .own 1)], [.ints 24 .u64 x2, .ints 24 .u64 x3]⟩
noncomputable def s7157 (x0 x1 x2 : Int) (x3 x4 x5 : Λ) : ASt := ⟨[(6, .int .i64 x0), (7, .int .i64 x1), (8, .own 0), (9, .own 1), (10, .own 2), (11, .int .i64 x2)], [.ints 24 .u64 x3, .ints 24 .u64 x4, .ints 24 .u64 x5]⟩
noncomputable def s1832093 (x0 x1 x2 x3 x4 : Int) (x5 : Bool) (x6 x7 x8 : Λ) : ASt := ⟨[(6, .int .i64 x0), (7, .int .i64 x1), (8, .own 0), (9, .own 1), (10, .own 2), (11, .int .i64 x2), (12, .win 1 x2 x3), (13, .int .u64 x4), (14, .bool x5)], [.ints 24 .u64 x6, .ints 24 .u64 x7, .ints 24 .u64 x8]⟩
noncomputable def A (c144 : T20) (c153 : T3) (c160 : T0) (c161 : T37) (c162 : T10) (c163 : T38) (c164 : T39) (n : Nat) (J : Jt (Λ × Λ)) (q : Nat) (ms : List Nat) : ASt→Ω (Λ × Λ) := acont (cfg c144 c153 c160 c161 c162 c163 c164) J cuts n q code 1 ms (aend (cfg c144 c153 c160 c161 c162 c163 c164) Tryz.f157.results.toList [false, false] sg.out)
theorem e0 {c144 c153 c160 c161 c162 c163 c164 n J l0 l1} : afun (cfg c144 c153 c160 c161 c162 c163 c164) J cuts n code Tryz.f157.results.toList [false, false] [.ro .u64 l0, .ro .u64 l1] sg.out = b0 c144 c153 c160 c161 c162 c163 c164 (fun y0 y1 y2 y3 y4 y5 => J 7157 (A c144 c153 c160 c161 c162 c163 c164 n J 7157 [n]) (s7157 y0 y1 y2 y3 y4 y5)) l0 l1 := by kernel_rfl
theorem e895 {c144 c153 c160 c161 c162 c163 c164 n J x0 x1 x2 x3} : A c144 c153 c160 c161 c162 c163 c164 n J 895 [] (s895 x0 x1 x2 x3) = b895 c144 c153 c160 c161 c162 c163 c164 x0 x1 x2 x3 := by kernel_rfl
theorem e7157 {c144 c153 c160 c161 c162 c163 c164 n J m x0 x1 x2 x3 x4 x5} : A c144 c153 c160 c161 c162 c163 c164 n J 7157 [m + 1] (s7157 x0 x1 x2 x3 x4 x5) = b7157 c144 c153 c160 c161 c162 c163 c164 (fun y0 y1 y2 y3 => J 895 (A c144 c153 c160 c161 c162 c163 c164 n J 895 []) (s895 y0 y1 y2 y3)) (fun y0 y1 y2 y3 y4 y5 y6 y7 y8 => J 1832093 (A c144 c153 c160 c161 c162 c163 c164 n J 1832093 [m, n]) (s1832093 y0 y1 y2 y3 y4 y5 y6 y7 y8)) x0 x1 x2 x3 x4 x5 := by kernel_rfl
theorem e1832093 {c144 c153 c160 c161 c162 c163 c164 n J m7157 m x0 x1 x2 x3 x4 x5 x6 x7 x8} : A c144 c153 c160 c161 c162 c163 c164 n J 1832093 [m7157, m + 1] (s1832093 x0 x1 x2 x3 x4 x5 x6 x7 x8) = b1832093 c144 c153 c160 c161 c162 c163 c164 (fun y0 y1 y2 y3 y4 y5 => J 7157 (A c144 c153 c160 c161 c162 c163 c164 n J 7157 [m7157]) (s7157 y0 y1 y2 y3 y4 y5)) (fun y0 y1 y2 y3 y4 y5 y6 y7 y8 => J 1832093 (A c144 c153 c160 c161 c162 c163 c164 n J 1832093 [m7157, m]) (s1832093 y0 y1 y2 y3 y4 y5 y6 y7 y8)) x0 x1 x2 x3 x4 x5 x6 x7 x8 := by kernel_rfl
noncomputable abbrev I (n : Nat) := A (nat_Shr.f n) (nat_Trim.f n) bits_LeadingZeros64.f (quot_raised.f n) (quot_guess.f n) (quot_takeOff.f n) (quot_putBack.f n) n idJ
theorem q895 (n x0 x1 x2 x3) : I n 895 [] (s895 x0 x1 x2 x3) = l895 n x0 x1 x2 x3 := e895
theorem q1832093 (n m7157 m) : ∀ x0 x1 x2 x3 x4 x5 x6 x7 x8, I n 1832093 [m7157, m] (s1832093 x0 x1 x2 x3 x4 x5 x6 x7 x8) = l1832093 n (fun y0 y1 y2 y3 y4 y5 => I n 7157 [m7157] (s7157 y0 y1 y2 y3 y4 y5)) m x0 x1 x2 x3 x4 x5 x6 x7 x8 := by
  induction m with
  | zero => intros; rfl
  | succ m ih =>
    intros
    exact e1832093.trans (Eq.trans (cf9 (congr (congrArg (b1832093 _ _ _ _ _ _ _) rfl) (fu9 (ih))) _ _ _ _ _ _ _ _ _) rfl)
theorem q7157 (n m) : ∀ x0 x1 x2 x3 x4 x5, I n 7157 [m] (s7157 x0 x1 x2 x3 x4 x5) = l7157 n m x0 x1 x2 x3 x4 x5 := by
  induction m with
  | zero => intros; rfl
  | succ m ih =>
    intros
    exact e7157.trans (Eq.trans (cf6 (congr (congrArg (b7157 _ _ _ _ _ _ _) (fu4 (q895 n))) ((fu9 (q1832093 n m n)).trans (by rw [show (fun y0 y1 y2 y3 y4 y5 => I n 7157 [m] (s7157 y0 y1 y2 y3 y4 y5)) = _ from (fu6 (ih))]))) _ _ _ _ _ _) rfl)
theorem ok {n  l0 l1 r} (h : f n l0 l1 = some r) : CallD Tryz.prog HW 157 [.ro .u64 l0, .ro .u64 l1] (sg.enc r) :=
  fun_some hwS Tryz.func157 (by kernel_rfl) (body := code) (by kernel_rfl) tys_ok (c := cfg (nat_Shr.f n) (nat_Trim.f n) bits_LeadingZeros64.f (quot_raised.f n) (quot_guess.f n) (quot_takeOff.f n) (quot_putBack.f n)) (orCall_ok (nat_Shr.call_ok (n := n)) (orCall_ok (nat_Trim.call_ok (n := n)) (orCall_ok bits_LeadingZeros64.call_ok (orCall_ok (quot_raised.call_ok (n := n)) (orCall_ok (quot_guess.call_ok (n := n)) noCall_ok))))) (orW_ok (quot_takeOff.call_ok (n := n)) (orW_ok (quot_putBack.call_ok (n := n)) noW_ok)) (by kernel_rfl) (by kernel_rfl) (Nat.le_of_ble_eq_true (by kernel_rfl)) (Eq.trans ((e0 (n := n)).trans (Eq.trans (cf2 (congrArg (b0 _ _ _ _ _ _ _) (fu6 (q7157 n n))) _ _) rfl)) h)
noncomputable def call {α : Type} (g : T26) (ds : List D) (K : List D→Ω α) : Ω α := match ds with
  | [.ro .u64 l0, .ro .u64 l1] => (g l0 l1).bind fun r => K (sg.enc r)
  | _ => none
theorem call_ok {α : Type} {n : Nat} : COK Tryz.prog HW 157 (call (α := α) (f n)) := fun _ _ _ h => by
  unfold call at h; split at h
  · exact cok h fun _ => ok
  · cases h
end quot_long
/-! ### quot_DivMod: function 127 -/
namespace quot_DivMod
noncomputable def b0 (c116 : T25) (c124 : T32) (c129 : T10) (c156 : T61) (c157 : T26) (l0 l1 : Λ) : Ω (Λ × Λ × Int) := ((c124 l0 4096).bind fun t1 => ((c124 l1 4096).bind fun t2 => (if (!t1.2) = true then some (([] : Λ), ([] : Λ), 2) else (if (!t2.2) = true then some (([] : Λ), ([] : Λ), 2) else (if (ln t2.1) = 0 then some (([] : Λ), ([] : Λ), 4) else ((c129 t1.1 t2.1).bind fun t3 => (if t3 < 0 then some (([] : Λ), t1.1, 0) else (if (ln t2.1) = 1 then (if 0 < (ln t2.1) then ((c156 t1.1 (rd t2.1 0)).bind fun t4 => ((c116 t4.2.1).bind fun t5 => some (t4.1, t5, t4.2.2))) else none) else ((c157 t1.1 t2.1).bind fun t6 => some (t6.1, t6.2, 0))))))))))
noncomputable def f (n : Nat) (l0 l1 : Λ) : Ω (Λ × Λ × Int) := b0 nat_FromUint.f (quot_small.f n) (nat_Cmp.f n) (nat_DivSmall.f n) (quot_long.f n) l0 l1
noncomputable def sg : Sig (Λ × Λ × Int) := s2 (sRow .u64) (s2 (sRow .u64) (s1 (sInt .i64)))
noncomputable def code : Code := (Tryz.f127.body).getD .skip
noncomputable def cfg (c116 : T25) (c124 : T32) (c129 : T10) (c156 : T61) (c157 : T26) : Cfg (Λ × Λ × Int) := { T := tys, call := orCall 116 (nat_FromUint.call c116) (orCall 124 (quot_small.call c124) (orCall 129 (nat_Cmp.call c129) (orCall 156 (nat_DivSmall.call c156) (orCall 157 (quot_long.call c157) (noCall))))) }
noncomputable def cuts : List (Nat × List (Nat × Want)) := []
theorem e0 {c116 c124 c129 c156 c157 n J l0 l1} : afun (cfg c116 c124 c129 c156 c157) J cuts n code Tryz.f127.results.toList [false, false, false] [.ro .u64 l0, .ro .u64 l1] sg.out = b0 c116 c124 c129 c156 c157 l0 l1 := by kernel_rfl
theorem ok {n  l0 l1 r} (h : f n l0 l1 = some r) : CallD Tryz.prog HW 127 [.ro .u64 l0, .ro .u64 l1] (sg.enc r) :=
  fun_some hwS Tryz.func127 (by kernel_rfl) (body := code) (by kernel_rfl) tys_ok (c := cfg nat_FromUint.f (quot_small.f n) (nat_Cmp.f n) (nat_DivSmall.f n) (quot_long.f n)) (orCall_ok nat_FromUint.call_ok (orCall_ok (quot_small.call_ok (n := n)) (orCall_ok (nat_Cmp.call_ok (n := n)) (orCall_ok (nat_DivSmall.call_ok (n := n)) (orCall_ok (quot_long.call_ok (n := n)) noCall_ok))))) noW_ok (by kernel_rfl) (by kernel_rfl) (Nat.le_of_ble_eq_true (by kernel_rfl)) (Eq.trans ((e0 (n := n))) h)
noncomputable def call {α : Type} (g : T33) (ds : List D) (K : List D→Ω α) : Ω α := match ds with
  | [.ro .u64 l0, .ro .u64 l1] => (g l0 l1).bind fun r => K (sg.enc r)
  | _ => none
theorem call_ok {α : Type} {n : Nat} : COK Tryz.prog HW 127 (call (α := α) (f n)) := fun _ _ _ h => by
  unfold call at h; split at h
  · exact cok h fun _ => ok
  · cases h
end quot_DivMod
/-! ### nat_Sub: function 128 -/
namespace nat_Sub
noncomputable def b0 (c129 : T10) (c141 : T5) (c142 : T1) (c143 : T11) (c158 : T4) (k2037 : T55) (l0 l1 : Λ) : Ω (Λ × Int) := ((c141 l0).bind fun t1 => (if t1 = true then some (([] : Λ), 2) else ((c141 l1).bind fun t2 => (if t2 = true then some (([] : Λ), 2) else ((c129 l0 l1).bind fun t3 => (if t3 < 0 then some (([] : Λ), 10) else ((c142 l0).bind fun t4 => (if 0 ≤ t4 then (if t4 ≤ (ln l0) then ((some (l0.take t4.toNat) : Ω (Λ)).bind fun y5 => ((c142 l1).bind fun t6 => (if 0 ≤ t6 then (if t6 ≤ (ln l1) then ((some (l1.take t6.toNat) : Ω (Λ)).bind fun y7 => (if 0 ≤ (ln y5) then (if (ln y5).toNat ≤ 35184372088832 then k2037 y7 0 0 y5 (ln y5) (List.replicate (ln y5).toNat (0 : Int)) else none) else none)) else none) else none))) else none) else none))))))))
noncomputable def b255 (c129 : T10) (c141 : T5) (c142 : T1) (c143 : T11) (c158 : T4) (x0 : Λ) : Ω (Λ × Int) := ((c143 x0).bind fun t1 => some (t1.1, t1.2))
noncomputable def b2037 (c129 : T10) (c141 : T5) (c142 : T1) (c143 : T11) (c158 : T4) (k255 : T11) (k260711 : Λ→Int→Int→Int→Int→Λ→Int→Λ→Ω (Λ × Int)) (x0 : Λ) (x1 x2 : Int) (x3 : Λ) (x4 : Int) (x5 : Λ) : Ω (Λ × Int) := (if x2 < x4 then (if 0 ≤ x2 then (if x2 < (ln x3) then (if x2 < (ln x0) then (if 0 ≤ x2 then (if x2 < (ln x0) then k260711 x0 x1 x2 (rd x3 x2) (rd x0 x2) x3 x4 x5 else none) else none) else k260711 x0 x1 x2 (rd x3 x2) 0 x3 x4 x5) else none) else none) else k255 x5)
noncomputable def b260711 (c129 : T10) (c141 : T5) (c142 : T1) (c143 : T11) (c158 : T4) (k2037 : T55) (x0 : Λ) (x1 x2 x3 x4 : Int) (x5 : Λ) (x6 : Int) (x7 : Λ) : Ω (Λ × Int) := ((c158 x3 x4 x1).bind fun t1 => (if 0 ≤ x2 then (if x2 < (ln x7) then k2037 x0 t1.2 (wrap64 (x2 + 1)) x5 x6 (x7.set (x2 : Int).toNat t1.1) else none) else none))
noncomputable def l255 (n : Nat) (x0 : Λ) : Ω (Λ × Int) := b255 (nat_Cmp.f n) (nat_big.f n) (nat_size.f n) (nat_cut.f n) bits_Sub64.f x0
noncomputable def l260711 (n : Nat) (k2037 : T55) (x0 : Λ) (x1 x2 x3 x4 : Int) (x5 : Λ) (x6 : Int) (x7 : Λ) : Ω (Λ × Int) := b260711 (nat_Cmp.f n) (nat_big.f n) (nat_size.f n) (nat_cut.f n) bits_Sub64.f k2037 x0 x1 x2 x3 x4 x5 x6 x7
noncomputable def l2037 (n : Nat) : Nat→Λ→Int→Int→Λ→Int→Λ→Ω (Λ × Int)
  | 0, _, _, _, _, _, _ => none
  | m + 1, x0, x1, x2, x3, x4, x5 => b2037 (nat_Cmp.f n) (nat_big.f n) (nat_size.f n) (nat_cut.f n) bits_Sub64.f (l255 n) (l260711 n (l2037 n m)) x0 x1 x2 x3 x4 x5
noncomputable def f (n : Nat) (l0 l1 : Λ) : Ω (Λ × Int) := b0 (nat_Cmp.f n) (nat_big.f n) (nat_size.f n) (nat_cut.f n) bits_Sub64.f (l2037 n n) l0 l1
noncomputable def sg : Sig (Λ × Int) := s2 (sRow .u64) (s1 (sInt .i64))
noncomputable def code : Code := (Tryz.f128.body).getD .skip
noncomputable def cfg (c129 : T10) (c141 : T5) (c142 : T1) (c143 : T11) (c158 : T4) : Cfg (Λ × Int) := { T := tys, call := orCall 129 (nat_Cmp.call c129) (orCall 141 (nat_big.call c141) (orCall 142 (nat_size.call c142) (orCall 143 (nat_cut.call c143) (orCall 158 (bits_Sub64.call c158) (noCall))))) }
noncomputable def cuts : List (Nat × List (Nat × Want)) := [(255, [(6, .keep)]), (2037, [(1, .keep), (6, .keep), (7, .keep), (32, .keep), (33, .keep), (34, .keep)]), (260711, [(1, .keep), (6, .keep), (7, .keep), (8, .keep), (9, .keep), (10, .keep), (32, .keep), (33, .keep), (34, .keep)])]
noncomputable def s255 (x0 : Λ) : ASt := ⟨[(6, .own 0)], [.ints 24 .u64 x0]⟩
noncomputable def s2037 (x0 : Λ) (x1 x2 : Int) (x3 : Λ) (x4 : Int) (x5 : Λ) : ASt := ⟨[(1, .ro .u64 x0), (6, .own 0), (7, .int .u64 x1), (32, .ro .u64 x3), (33, .int .i64 x4), (34, .int .i64 x2)], [.ints 24 .u64 x5]⟩
noncomputable def s260711 (x0 : Λ) (x1 x2 x3 x4 : Int) (x5 : Λ) (x6 : Int) (x7 : Λ) : ASt := ⟨[(1, .ro .u64 x0), (6, .own 0), (7, .int .u64 x1), (8, .int .i64 x2), (9, .int .u64 x3), (10, .int .u64 x4), (32, .ro .u64 x5), (33, .int .i64 x6), (34, .int .i64 x2)], [.ints 24 .u64 x7]⟩
noncomputable def A (c129 : T10) (c141 : T5) (c142 : T1) (c143 : T11) (c158 : T4) (n : Nat) (J : Jt (Λ × Int)) (q : Nat) (ms : List Nat) : ASt→Ω (Λ × Int) := acont (cfg c129 c141 c142 c143 c158) J cuts n q code 1 ms (aend (cfg c129 c141 c142 c143 c158) Tryz.f128.results.toList [false, false] sg.out)
theorem e0 {c129 c141 c142 c143 c158 n J l0 l1} : afun (cfg c129 c141 c142 c143 c158) J cuts n code Tryz.f128.results.toList [false, false] [.ro .u64 l0, .ro .u64 l1] sg.out = b0 c129 c141 c142 c143 c158 (fun y0 y1 y2 y3 y4 y5 => J 2037 (A c129 c141 c142 c143 c158 n J 2037 [n]) (s2037 y0 y1 y2 y3 y4 y5)) l0 l1 := by kernel_rfl
theorem e255 {c129 c141 c142 c143 c158 n J x0} : A c129 c141 c142 c143 c158 n J 255 [] (s255 x0) = b255 c129 c141 c142 c143 c158 x0 := by kernel_rfl
theorem e2037 {c129 c141 c142 c143 c158 n J m x0 x1 x2 x3 x4 x5} : A c129 c141 c142 c143 c158 n J 2037 [m + 1] (s2037 x0 x1 x2 x3 x4 x5) = b2037 c129 c141 c142 c143 c158 (fun y0 => J 255 (A c129 c141 c142 c143 c158 n J 255 []) (s255 y0)) (fun y0 y1 y2 y3 y4 y5 y6 y7 => J 260711 (A c129 c141 c142 c143 c158 n J 260711 [m]) (s260711 y0 y1 y2 y3 y4 y5 y6 y7)) x0 x1 x2 x3 x4 x5 := by kernel_rfl
theorem e260711 {c129 c141 c142 c143 c158 n J m2037 x0 x1 x2 x3 x4 x5 x6 x7} : A c129 c141 c142 c143 c158 n J 260711 [m2037] (s260711 x0 x1 x2 x3 x4 x5 x6 x7) = b260711 c129 c141 c142 c143 c158 (fun y0 y1 y2 y3 y4 y5 => J 2037 (A c129 c141 c142 c143 c158 n J 2037 [m2037]) (s2037 y0 y1 y2 y3 y4 y5)) x0 x1 x2 x3 x4 x5 x6 x7 := by kernel_rfl
noncomputable abbrev I (n : Nat) := A (nat_Cmp.f n) (nat_big.f n) (nat_size.f n) (nat_cut.f n) bits_Sub64.f n idJ
theorem q255 (n x0) : I n 255 [] (s255 x0) = l255 n x0 := e255
theorem q260711 (n m2037 x0 x1 x2 x3 x4 x5 x6 x7) : I n 260711 [m2037] (s260711 x0 x1 x2 x3 x4 x5 x6 x7) = l260711 n (fun y0 y1 y2 y3 y4 y5 => I n 2037 [m2037] (s2037 y0 y1 y2 y3 y4 y5)) x0 x1 x2 x3 x4 x5 x6 x7 := e260711
theorem q2037 (n m) : ∀ x0 x1 x2 x3 x4 x5, I n 2037 [m] (s2037 x0 x1 x2 x3 x4 x5) = l2037 n m x0 x1 x2 x3 x4 x5 := by
  induction m with
  | zero => intros; rfl
  | succ m ih =>
    intros
    exact e2037.trans (Eq.trans (cf6 (congr (congrArg (b2037 _ _ _ _ _) (fu1 (q255 n))) ((fu8 (q260711 n m)).trans (by rw [show (fun y0 y1 y2 y3 y4 y5 => I n 2037 [m] (s2037 y0 y1 y2 y3 y4 y5)) = _ from (fu6 (ih))]))) _ _ _ _ _ _) rfl)
theorem ok {n  l0 l1 r} (h : f n l0 l1 = some r) : CallD Tryz.prog HW 128 [.ro .u64 l0, .ro .u64 l1] (sg.enc r) :=
  fun_some hwS Tryz.func128 (by kernel_rfl) (body := code) (by kernel_rfl) tys_ok (c := cfg (nat_Cmp.f n) (nat_big.f n) (nat_size.f n) (nat_cut.f n) bits_Sub64.f) (orCall_ok (nat_Cmp.call_ok (n := n)) (orCall_ok (nat_big.call_ok (n := n)) (orCall_ok (nat_size.call_ok (n := n)) (orCall_ok (nat_cut.call_ok (n := n)) (orCall_ok bits_Sub64.call_ok noCall_ok))))) noW_ok (by kernel_rfl) (by kernel_rfl) (Nat.le_of_ble_eq_true (by kernel_rfl)) (Eq.trans ((e0 (n := n)).trans (Eq.trans (cf2 (congrArg (b0 _ _ _ _ _) (fu6 (q2037 n n))) _ _) rfl)) h)
noncomputable def call {α : Type} (g : T12) (ds : List D) (K : List D→Ω α) : Ω α := match ds with
  | [.ro .u64 l0, .ro .u64 l1] => (g l0 l1).bind fun r => K (sg.enc r)
  | _ => none
theorem call_ok {α : Type} {n : Nat} : COK Tryz.prog HW 128 (call (α := α) (f n)) := fun _ _ _ h => by
  unfold call at h; split at h
  · exact cok h fun _ => ok
  · cases h
end nat_Sub
/-! ### nat_Add: function 130 -/
namespace nat_Add
noncomputable def b0 (c141 : T5) (c142 : T1) (c143 : T11) (c155 : T4) (k31 : T12) (l0 l1 : Λ) : Ω (Λ × Int) := ((c141 l0).bind fun t1 => (if t1 = true then some (([] : Λ), 2) else ((c141 l1).bind fun t2 => (if t2 = true then some (([] : Λ), 2) else ((c142 l0).bind fun t3 => (if 0 ≤ t3 then (if t3 ≤ (ln l0) then ((some (l0.take t3.toNat) : Ω (Λ)).bind fun y4 => ((c142 l1).bind fun t5 => (if 0 ≤ t5 then (if t5 ≤ (ln l1) then ((some (l1.take t5.toNat) : Ω (Λ)).bind fun y6 => (if (ln y4) < (ln y6) then k31 y6 y4 else k31 y4 y6)) else none) else none))) else none) else none))))))
noncomputable def b31 (c141 : T5) (c142 : T1) (c143 : T11) (c155 : T4) (k2037 : T63) (x0 x1 : Λ) : Ω (Λ × Int) := (if 0 ≤ (wrap64 ((ln x0) + 1)) then (if (wrap64 ((ln x0) + 1)).toNat ≤ 35184372088832 then k2037 x0 x1 0 0 (ln x0) (List.replicate (wrap64 ((ln x0) + 1)).toNat (0 : Int)) else none) else none)
noncomputable def b255 (c141 : T5) (c142 : T1) (c143 : T11) (c155 : T4) (x0 : Λ) (x1 : Int) (x2 : Λ) : Ω (Λ × Int) := (if 0 ≤ (ln x0) then (if (ln x0) < (ln x2) then ((c143 (x2.set ((ln x0) : Int).toNat x1)).bind fun t1 => some (t1.1, t1.2)) else none) else none)
noncomputable def b2037 (c141 : T5) (c142 : T1) (c143 : T11) (c155 : T4) (k255 : T82) (k260711 : Λ→Λ→Int→Int→Int→Int→Int→Λ→Ω (Λ × Int)) (x0 x1 : Λ) (x2 x3 x4 : Int) (x5 : Λ) : Ω (Λ × Int) := (if x3 < x4 then (if 0 ≤ x3 then (if x3 < (ln x0) then (if x3 < (ln x1) then (if 0 ≤ x3 then (if x3 < (ln x1) then k260711 x0 x1 x2 x3 (rd x0 x3) (rd x1 x3) x4 x5 else none) else none) else k260711 x0 x1 x2 x3 (rd x0 x3) 0 x4 x5) else none) else none) else k255 x0 x2 x5)
noncomputable def b260711 (c141 : T5) (c142 : T1) (c143 : T11) (c155 : T4) (k2037 : T63) (x0 x1 : Λ) (x2 x3 x4 x5 x6 : Int) (x7 : Λ) : Ω (Λ × Int) := ((c155 x4 x5 x2).bind fun t1 => (if 0 ≤ x3 then (if x3 < (ln x7) then k2037 x0 x1 t1.2 (wrap64 (x3 + 1)) x6 (x7.set (x3 : Int).toNat t1.1) else none) else none))
noncomputable def l255 (n : Nat) (x0 : Λ) (x1 : Int) (x2 : Λ) : Ω (Λ × Int) := b255 (nat_big.f n) (nat_size.f n) (nat_cut.f n) bits_Add64.f x0 x1 x2
noncomputable def l260711 (n : Nat) (k2037 : T63) (x0 x1 : Λ) (x2 x3 x4 x5 x6 : Int) (x7 : Λ) : Ω (Λ × Int) := b260711 (nat_big.f n) (nat_size.f n) (nat_cut.f n) bits_Add64.f k2037 x0 x1 x2 x3 x4 x5 x6 x7
noncomputable def l2037 (n : Nat) : Nat→Λ→Λ→Int→Int→Int→Λ→Ω (Λ × Int)
  | 0, _, _, _, _, _, _ => none
  | m + 1, x0, x1, x2, x3, x4, x5 => b2037 (nat_big.f n) (nat_size.f n) (nat_cut.f n) bits_Add64.f (l255 n) (l260711 n (l2037 n m)) x0 x1 x2 x3 x4 x5
noncomputable def l31 (n : Nat) (x0 x1 : Λ) : Ω (Λ × Int) := b31 (nat_big.f n) (nat_size.f n) (nat_cut.f n) bits_Add64.f (l2037 n n) x0 x1
noncomputable def f (n : Nat) (l0 l1 : Λ) : Ω (Λ × Int) := b0 (nat_big.f n) (nat_size.f n) (nat_cut.f n) bits_Add64.f (l31 n) l0 l1
noncomputable def sg : Sig (Λ × Int) := s2 (sRow .u64) (s1 (sInt .i64))
noncomputable def code : Code := (Tryz.f130.body).getD .skip
noncomputable def cfg (c141 : T5) (c142 : T1) (c143 : T11) (c155 : T4) : Cfg (Λ × Int) := { T := tys, call := orCall 141 (nat_big.call c141) (orCall 142 (nat_size.call c142) (orCall 143 (nat_cut.call c143) (orCall 155 (bits_Add64.call c155) (noCall)))) }
noncomputable def cuts : List (Nat × List (Nat × Want)) := [(31, [(0, .keep), (1, .keep)]), (255, [(0, .keep), (6, .keep), (7, .keep)]), (2037, [(0, .keep), (1, .keep), (6, .keep), (7, .keep), (36, .keep), (37, .keep), (38, .keep)]), (260711, [(0, .keep), (1, .keep), (6, .keep), (7, .keep), (8, .keep), (9, .keep), (10, .keep), (36, .keep), (37, .keep), (38, .keep)])]
noncomputable def s31 (x0 x1 : Λ) : ASt := ⟨[(0, .ro .u64 x0), (1, .ro .u64 x1)], []⟩
noncomputable def s255 (x0 : Λ) (x1 : Int) (x2 : Λ) : ASt := ⟨[(0, .ro .u64 x0), (6, .own 0), (7, .int .u64 x1)], [.ints 24 .u64 x2]⟩
noncomputable def s2037 (x0 x1 : Λ) (x2 x3 x4 : Int) (x5 : Λ) : ASt := ⟨[(0, .ro .u64 x0), (1, .ro .u64 x1), (6, .own 0), (7, .int .u64 x2), (36, .ro .u64 x0), (37, .int .i64 x4), (38, .int .i64 x3)], [.ints 24 .u64 x5]⟩
noncomputable def s260711 (x0 x1 : Λ) (x2 x3 x4 x5 x6 : Int) (x7 : Λ) : ASt := ⟨[(0, .ro .u64 x0), (1, .ro .u64 x1), (6, .own 0), (7, .int .u64 x2), (8, .int .i64 x3), (9, .int .u64 x4), (10, .int .u64 x5), (36, .ro .u64 x0), (37, .int .i64 x6), (38, .int .i64 x3)], [.ints 24 .u64 x7]⟩
noncomputable def A (c141 : T5) (c142 : T1) (c143 : T11) (c155 : T4) (n : Nat) (J : Jt (Λ × Int)) (q : Nat) (ms : List Nat) : ASt→Ω (Λ × Int) := acont (cfg c141 c142 c143 c155) J cuts n q code 1 ms (aend (cfg c141 c142 c143 c155) Tryz.f130.results.toList [false, false] sg.out)
theorem e0 {c141 c142 c143 c155 n J l0 l1} : afun (cfg c141 c142 c143 c155) J cuts n code Tryz.f130.results.toList [false, false] [.ro .u64 l0, .ro .u64 l1] sg.out = b0 c141 c142 c143 c155 (fun y0 y1 => J 31 (A c141 c142 c143 c155 n J 31 []) (s31 y0 y1)) l0 l1 := by kernel_rfl
theorem e31 {c141 c142 c143 c155 n J x0 x1} : A c141 c142 c143 c155 n J 31 [] (s31 x0 x1) = b31 c141 c142 c143 c155 (fun y0 y1 y2 y3 y4 y5 => J 2037 (A c141 c142 c143 c155 n J 2037 [n]) (s2037 y0 y1 y2 y3 y4 y5)) x0 x1 := by kernel_rfl
theorem e255 {c141 c142 c143 c155 n J x0 x1 x2} : A c141 c142 c143 c155 n J 255 [] (s255 x0 x1 x2) = b255 c141 c142 c143 c155 x0 x1 x2 := by kernel_rfl
theorem e2037 {c141 c142 c143 c155 n J m x0 x1 x2 x3 x4 x5} : A c141 c142 c143 c155 n J 2037 [m + 1] (s2037 x0 x1 x2 x3 x4 x5) = b2037 c141 c142 c143 c155 (fun y0 y1 y2 => J 255 (A c141 c142 c143 c155 n J 255 []) (s255 y0 y1 y2)) (fun y0 y1 y2 y3 y4 y5 y6 y7 => J 260711 (A c141 c142 c143 c155 n J 260711 [m]) (s260711 y0 y1 y2 y3 y4 y5 y6 y7)) x0 x1 x2 x3 x4 x5 := by kernel_rfl
theorem e260711 {c141 c142 c143 c155 n J m2037 x0 x1 x2 x3 x4 x5 x6 x7} : A c141 c142 c143 c155 n J 260711 [m2037] (s260711 x0 x1 x2 x3 x4 x5 x6 x7) = b260711 c141 c142 c143 c155 (fun y0 y1 y2 y3 y4 y5 => J 2037 (A c141 c142 c143 c155 n J 2037 [m2037]) (s2037 y0 y1 y2 y3 y4 y5)) x0 x1 x2 x3 x4 x5 x6 x7 := by kernel_rfl
noncomputable abbrev I (n : Nat) := A (nat_big.f n) (nat_size.f n) (nat_cut.f n) bits_Add64.f n idJ
theorem q255 (n x0 x1 x2) : I n 255 [] (s255 x0 x1 x2) = l255 n x0 x1 x2 := e255
theorem q260711 (n m2037 x0 x1 x2 x3 x4 x5 x6 x7) : I n 260711 [m2037] (s260711 x0 x1 x2 x3 x4 x5 x6 x7) = l260711 n (fun y0 y1 y2 y3 y4 y5 => I n 2037 [m2037] (s2037 y0 y1 y2 y3 y4 y5)) x0 x1 x2 x3 x4 x5 x6 x7 := e260711
theorem q2037 (n m) : ∀ x0 x1 x2 x3 x4 x5, I n 2037 [m] (s2037 x0 x1 x2 x3 x4 x5) = l2037 n m x0 x1 x2 x3 x4 x5 := by
  induction m with
  | zero => intros; rfl
  | succ m ih =>
    intros
    exact e2037.trans (Eq.trans (cf6 (congr (congrArg (b2037 _ _ _ _) (fu3 (q255 n))) ((fu8 (q260711 n m)).trans (by rw [show (fun y0 y1 y2 y3 y4 y5 => I n 2037 [m] (s2037 y0 y1 y2 y3 y4 y5)) = _ from (fu6 (ih))]))) _ _ _ _ _ _) rfl)
theorem q31 (n x0 x1) : I n 31 [] (s31 x0 x1) = l31 n x0 x1 := e31.trans (Eq.trans (cf2 (congrArg (b31 _ _ _ _) (fu6 (q2037 n n))) _ _) rfl)
theorem ok {n  l0 l1 r} (h : f n l0 l1 = some r) : CallD Tryz.prog HW 130 [.ro .u64 l0, .ro .u64 l1] (sg.enc r) :=
  fun_some hwS Tryz.func130 (by kernel_rfl) (body := code) (by kernel_rfl) tys_ok (c := cfg (nat_big.f n) (nat_size.f n) (nat_cut.f n) bits_Add64.f) (orCall_ok (nat_big.call_ok (n := n)) (orCall_ok (nat_size.call_ok (n := n)) (orCall_ok (nat_cut.call_ok (n := n)) (orCall_ok bits_Add64.call_ok noCall_ok)))) noW_ok (by kernel_rfl) (by kernel_rfl) (Nat.le_of_ble_eq_true (by kernel_rfl)) (Eq.trans ((e0 (n := n)).trans (Eq.trans (cf2 (congrArg (b0 _ _ _ _) (fu2 (q31 n))) _ _) rfl)) h)
noncomputable def call {α : Type} (g : T12) (ds : List D) (K : List D→Ω α) : Ω α := match ds with
  | [.ro .u64 l0, .ro .u64 l1] => (g l0 l1).bind fun r => K (sg.enc r)
  | _ => none
theorem call_ok {α : Type} {n : Nat} : COK Tryz.prog HW 130 (call (α := α) (f n)) := fun _ _ _ h => by
  unfold call at h; split at h
  · exact cok h fun _ => ok
  · cases h
end nat_Add
/-! ### nat_MulAdd: function 131 -/
namespace nat_MulAdd
noncomputable def b0 (c122 : T8) (c141 : T5) (c142 : T1) (c143 : T11) (c155 : T4) (k1013 : T83) (l0 : Λ) (a1 a2 : Int) : Ω (Λ × Int) := ((c141 l0).bind fun t1 => (if t1 = true then some (([] : Λ), 2) else ((c142 l0).bind fun t2 => (if 0 ≤ t2 then (if t2 ≤ (ln l0) then ((some (l0.take t2.toNat) : Ω (Λ)).bind fun y3 => (if 0 ≤ (wrap64 ((ln y3) + 1)) then (if (wrap64 ((ln y3) + 1)).toNat ≤ 35184372088832 then k1013 y3 a1 a2 (ln y3) 0 (List.replicate (wrap64 ((ln y3) + 1)).toNat (0 : Int)) else none) else none)) else none) else none))))
noncomputable def b127 (c122 : T8) (c141 : T5) (c142 : T1) (c143 : T11) (c155 : T4) (x0 : Λ) (x1 : Int) (x2 : Λ) : Ω (Λ × Int) := (if 0 ≤ (ln x0) then (if (ln x0) < (ln x2) then ((c143 (x2.set ((ln x0) : Int).toNat x1)).bind fun t1 => some (t1.1, t1.2)) else none) else none)
noncomputable def b1013 (c122 : T8) (c141 : T5) (c142 : T1) (c143 : T11) (c155 : T4) (k127 : T82) (k1013 : T83) (x0 : Λ) (x1 x2 x3 x4 : Int) (x5 : Λ) : Ω (Λ × Int) := (if x4 < x3 then (if 0 ≤ x4 then (if x4 < (ln x0) then ((c122 (rd x0 x4) x1).bind fun t1 => ((c155 t1.2 x2 0).bind fun t2 => (if 0 ≤ x4 then (if x4 < (ln x5) then k1013 x0 x1 (IntKind.u64.wrap (t1.1 + t2.2)) x3 (wrap64 (x4 + 1)) (x5.set (x4 : Int).toNat t2.1) else none) else none))) else none) else none) else k127 x0 x2 x5)
noncomputable def l127 (n : Nat) (x0 : Λ) (x1 : Int) (x2 : Λ) : Ω (Λ × Int) := b127 bits_Mul64.f (nat_big.f n) (nat_size.f n) (nat_cut.f n) bits_Add64.f x0 x1 x2
noncomputable def l1013 (n : Nat) : Nat→Λ→Int→Int→Int→Int→Λ→Ω (Λ × Int)
  | 0, _, _, _, _, _, _ => none
  | m + 1, x0, x1, x2, x3, x4, x5 => b1013 bits_Mul64.f (nat_big.f n) (nat_size.f n) (nat_cut.f n) bits_Add64.f (l127 n) (l1013 n m) x0 x1 x2 x3 x4 x5
noncomputable def f (n : Nat) (l0 : Λ) (a1 a2 : Int) : Ω (Λ × Int) := b0 bits_Mul64.f (nat_big.f n) (nat_size.f n) (nat_cut.f n) bits_Add64.f (l1013 n n) l0 a1 a2
noncomputable def sg : Sig (Λ × Int) := s2 (sRow .u64) (s1 (sInt .i64))
noncomputable def code : Code := (Tryz.f131.body).getD .skip
noncomputable def cfg (c122 : T8) (c141 : T5) (c142 : T1) (c143 : T11) (c155 : T4) : Cfg (Λ × Int) := { T := tys, call := orCall 122 (bits_Mul64.call c122) (orCall 141 (nat_big.call c141) (orCall 142 (nat_size.call c142) (orCall 143 (nat_cut.call c143) (orCall 155 (bits_Add64.call c155) (noCall))))) }
noncomputable def cuts : List (Nat × List (Nat × Want)) := [(127, [(0, .keep), (8, .keep), (9, .keep)]), (1013, [(0, .keep), (1, .keep), (8, .keep), (9, .keep), (26, .keep), (27, .keep), (28, .keep)])]
noncomputable def s127 (x0 : Λ) (x1 : Int) (x2 : Λ) : ASt := ⟨[(0, .ro .u64 x0), (8, .own 0), (9, .int .u64 x1)], [.ints 24 .u64 x2]⟩
noncomputable def s1013 (x0 : Λ) (x1 x2 x3 x4 : Int) (x5 : Λ) : ASt := ⟨[(0, .ro .u64 x0), (1, .int .u64 x1), (8, .own 0), (9, .int .u64 x2), (26, .ro .u64 x0), (27, .int .i64 x3), (28, .int .i64 x4)], [.ints 24 .u64 x5]⟩
noncomputable def A (c122 : T8) (c141 : T5) (c142 : T1) (c143 : T11) (c155 : T4) (n : Nat) (J : Jt (Λ × Int)) (q : Nat) (ms : List Nat) : ASt→Ω (Λ × Int) := acont (cfg c122 c141 c142 c143 c155) J cuts n q code 1 ms (aend (cfg c122 c141 c142 c143 c155) Tryz.f131.results.toList [false, false] sg.out)
theorem e0 {c122 c141 c142 c143 c155 n J l0 a1 a2} : afun (cfg c122 c141 c142 c143 c155) J cuts n code Tryz.f131.results.toList [false, false] [.ro .u64 l0, .int .u64 a1, .int .u64 a2] sg.out = b0 c122 c141 c142 c143 c155 (fun y0 y1 y2 y3 y4 y5 => J 1013 (A c122 c141 c142 c143 c155 n J 1013 [n]) (s1013 y0 y1 y2 y3 y4 y5)) l0 a1 a2 := by kernel_rfl
theorem e127 {c122 c141 c142 c143 c155 n J x0 x1 x2} : A c122 c141 c142 c143 c155 n J 127 [] (s127 x0 x1 x2) = b127 c122 c141 c142 c143 c155 x0 x1 x2 := by kernel_rfl
theorem e1013 {c122 c141 c142 c143 c155 n J m x0 x1 x2 x3 x4 x5} : A c122 c141 c142 c143 c155 n J 1013 [m + 1] (s1013 x0 x1 x2 x3 x4 x5) = b1013 c122 c141 c142 c143 c155 (fun y0 y1 y2 => J 127 (A c122 c141 c142 c143 c155 n J 127 []) (s127 y0 y1 y2)) (fun y0 y1 y2 y3 y4 y5 => J 1013 (A c122 c141 c142 c143 c155 n J 1013 [m]) (s1013 y0 y1 y2 y3 y4 y5)) x0 x1 x2 x3 x4 x5 := by kernel_rfl
noncomputable abbrev I (n : Nat) := A bits_Mul64.f (nat_big.f n) (nat_size.f n) (nat_cut.f n) bits_Add64.f n idJ
theorem q127 (n x0 x1 x2) : I n 127 [] (s127 x0 x1 x2) = l127 n x0 x1 x2 := e127
theorem q1013 (n m) : ∀ x0 x1 x2 x3 x4 x5, I n 1013 [m] (s1013 x0 x1 x2 x3 x4 x5) = l1013 n m x0 x1 x2 x3 x4 x5 := by
  induction m with
  | zero => intros; rfl
  | succ m ih =>
    intros
    exact e1013.trans (Eq.trans (cf6 (congr (congrArg (b1013 _ _ _ _ _) (fu3 (q127 n))) (fu6 (ih))) _ _ _ _ _ _) rfl)
theorem ok {n  l0 a1 a2 r} (h : f n l0 a1 a2 = some r) : CallD Tryz.prog HW 131 [.ro .u64 l0, .int .u64 a1, .int .u64 a2] (sg.enc r) :=
  fun_some hwS Tryz.func131 (by kernel_rfl) (body := code) (by kernel_rfl) tys_ok (c := cfg bits_Mul64.f (nat_big.f n) (nat_size.f n) (nat_cut.f n) bits_Add64.f) (orCall_ok bits_Mul64.call_ok (orCall_ok (nat_big.call_ok (n := n)) (orCall_ok (nat_size.call_ok (n := n)) (orCall_ok (nat_cut.call_ok (n := n)) (orCall_ok bits_Add64.call_ok noCall_ok))))) noW_ok (by kernel_rfl) (by kernel_rfl) (Nat.le_of_ble_eq_true (by kernel_rfl)) (Eq.trans ((e0 (n := n)).trans (Eq.trans (cf3 (congrArg (b0 _ _ _ _ _) (fu6 (q1013 n n))) _ _ _) rfl)) h)
noncomputable def call {α : Type} (g : T34) (ds : List D) (K : List D→Ω α) : Ω α := match ds with
  | [.ro .u64 l0, .int .u64 a1, .int .u64 a2] => (g l0 a1 a2).bind fun r => K (sg.enc r)
  | _ => none
theorem call_ok {α : Type} {n : Nat} : COK Tryz.prog HW 131 (call (α := α) (f n)) := fun _ _ _ h => by
  unfold call at h; split at h
  · exact cok h fun _ => ok
  · cases h
end nat_MulAdd
/-! ### ieee_RoundRatio: function 71 -/
namespace ieee_RoundRatio
noncomputable def b0 (c37 : T6) (c88 : T16) (c90 : T0) (c119 : T1) (c127 : T33) (c128 : T12) (c129 : T10) (c130 : T12) (c131 : T34) (k127 : T23) (a0 : Bool) (l1 l2 : Λ) (a3 : Int) : Ω (Int × Int) := ((c88 l1 0).bind fun t1 => ((c88 l2 0).bind fun t2 => (if ¬ t1.2 = 0 then some (0, 2) else (if ¬ t2.2 = 0 then some (0, 2) else (if (ln t2.1) = 0 then some (0, 4) else (if (ln t1.1) = 0 then ((c37 a0 ([] : Λ) 0 false).bind fun t3 => some (t3.1, t3.2)) else ((c90 a3).bind fun t4 => ((c119 t2.1).bind fun t5 => ((c119 t1.1).bind fun t6 => (if (wrap64 (t5 - t6)) > 0 then ((c88 t1.1 (wrap64 (t5 - t6))).bind fun t7 => k127 a0 t7.1 t2.1 (wrap64 (t4 - (wrap64 (t5 - t6))))) else k127 a0 t1.1 t2.1 t4))))))))))
noncomputable def b127 (c37 : T6) (c88 : T16) (c90 : T0) (c119 : T1) (c127 : T33) (c128 : T12) (c129 : T10) (c130 : T12) (c131 : T34) (k4089 : T64) (x0 : Bool) (x1 x2 : Λ) (x3 : Int) : Ω (Int × Int) := ((c127 x1 x2).bind fun t1 => (if ¬ t1.2.2 = 0 then some (0, t1.2.2) else k4089 x0 x2 x3 t1.1 t1.2.1))
noncomputable def b1023 (c37 : T6) (c88 : T16) (c90 : T0) (c119 : T1) (c127 : T33) (c128 : T12) (c129 : T10) (c130 : T12) (c131 : T34) (x0 : Bool) (x1 : Int) (x2 x3 : Λ) : Ω (Int × Int) := ((c37 x0 x2 x1 (decide ((ln x3) > 0))).bind fun t1 => some (t1.1, t1.2))
noncomputable def b4089 (c37 : T6) (c88 : T16) (c90 : T0) (c119 : T1) (c127 : T33) (c128 : T12) (c129 : T10) (c130 : T12) (c131 : T34) (k1023 : Bool→Int→Λ→Λ→Ω (Int × Int)) (k130839 : Bool→Λ→Int→Λ→Λ→Int→Ω (Int × Int)) (x0 : Bool) (x1 : Λ) (x2 : Int) (x3 x4 : Λ) : Ω (Int × Int) := ((c119 x3).bind fun t1 => (if t1 < 66 then ((c128 x1 x4).bind fun t2 => ((c129 x4 t2.1).bind fun t3 => (if t3 ≥ 0 then ((c128 x4 t2.1).bind fun t4 => k130839 x0 x1 x2 x3 t4.1 1) else ((c130 x4 x4).bind fun t5 => k130839 x0 x1 x2 x3 t5.1 0)))) else k1023 x0 x2 x3 x4))
noncomputable def b130839 (c37 : T6) (c88 : T16) (c90 : T0) (c119 : T1) (c127 : T33) (c128 : T12) (c129 : T10) (c130 : T12) (c131 : T34) (k4089 : T64) (x0 : Bool) (x1 : Λ) (x2 : Int) (x3 x4 : Λ) (x5 : Int) : Ω (Int × Int) := ((c131 x3 2 x5).bind fun t1 => k4089 x0 x1 (wrap64 (x2 - 1)) t1.1 x4)
noncomputable def l1023 (n : Nat) (x0 : Bool) (x1 : Int) (x2 x3 : Λ) : Ω (Int × Int) := b1023 (ieee_Round.f n) (nat_Shl.f n) ieee_near.f (nat_BitLen.f n) (quot_DivMod.f n) (nat_Sub.f n) (nat_Cmp.f n) (nat_Add.f n) (nat_MulAdd.f n) x0 x1 x2 x3
noncomputable def l130839 (n : Nat) (k4089 : T64) (x0 : Bool) (x1 : Λ) (x2 : Int) (x3 x4 : Λ) (x5 : Int) : Ω (Int × Int) := b130839 (ieee_Round.f n) (nat_Shl.f n) ieee_near.f (nat_BitLen.f n) (quot_DivMod.f n) (nat_Sub.f n) (nat_Cmp.f n) (nat_Add.f n) (nat_MulAdd.f n) k4089 x0 x1 x2 x3 x4 x5
noncomputable def l4089 (n : Nat) : Nat→Bool→Λ→Int→Λ→Λ→Ω (Int × Int)
  | 0, _, _, _, _, _ => none
  | m + 1, x0, x1, x2, x3, x4 => b4089 (ieee_Round.f n) (nat_Shl.f n) ieee_near.f (nat_BitLen.f n) (quot_DivMod.f n) (nat_Sub.f n) (nat_Cmp.f n) (nat_Add.f n) (nat_MulAdd.f n) (l1023 n) (l130839 n (l4089 n m)) x0 x1 x2 x3 x4
noncomputable def l127 (n : Nat) (x0 : Bool) (x1 x2 : Λ) (x3 : Int) : Ω (Int × Int) := b127 (ieee_Round.f n) (nat_Shl.f n) ieee_near.f (nat_BitLen.f n) (quot_DivMod.f n) (nat_Sub.f n) (nat_Cmp.f n) (nat_Add.f n) (nat_MulAdd.f n) (l4089 n n) x0 x1 x2 x3
noncomputable def f (n : Nat) (a0 : Bool) (l1 l2 : Λ) (a3 : Int) : Ω (Int × Int) := b0 (ieee_Round.f n) (nat_Shl.f n) ieee_near.f (nat_BitLen.f n) (quot_DivMod.f n) (nat_Sub.f n) (nat_Cmp.f n) (nat_Add.f n) (nat_MulAdd.f n) (l127 n) a0 l1 l2 a3
noncomputable def sg : Sig (Int × Int) := s2 (sInt .u64) (s1 (sInt .i64))
noncomputable def code : Code := (Tryz.f71.body).getD .skip
noncomputable def cfg (c37 : T6) (c88 : T16) (c90 : T0) (c119 : T1) (c127 : T33) (c128 : T12) (c129 : T10) (c130 : T12) (c131 : T34) : Cfg (Int × Int) := { T := tys, call := orCall 37 (ieee_Round.call c37) (orCall 88 (nat_Shl.call c88) (orCall 90 (ieee_near.call c90) (orCall 119 (nat_BitLen.call c119) (orCall 127 (quot_DivMod.call c127) (orCall 128 (nat_Sub.call c128) (orCall 129 (nat_Cmp.call c129) (orCall 130 (nat_Add.call c130) (orCall 131 (nat_MulAdd.call c131) (noCall))))))))) }
noncomputable def cuts : List (Nat × List (Nat × Want)) := [(127, [(0, .keep), (1, .keep), (2, .keep), (3, .keep)]), (1023, [(0, .keep), (3, .keep), (13, .keep), (14, .keep)]), (4089, [(0, .keep), (2, .keep), (3, .keep), (13, .keep), (14, .keep)]), (130839, [(0, .keep), (2, .keep), (3, .keep), (13, .keep), (14, .keep), (17, .keep)])]
noncomputable def s127 (x0 : Bool) (x1 x2 : Λ) (x3 : Int) : ASt := ⟨[(0, .bool x0), (1, .ro .u64 x1), (2, .ro .u64 x2), (3, .int .i64 x3)], []⟩
noncomputable def s1023 (x0 : Bool) (x1 : Int) (x2 x3 : Λ) : ASt := ⟨[(0, .bool x0), (3, .int .i64 x1), (13, .ro .u64 x2), (14, .ro .u64 x3)], []⟩
noncomputable def s4089 (x0 : Bool) (x1 : Λ) (x2 : Int) (x3 x4 : Λ) : ASt := ⟨[(0, .bool x0), (2, .ro .u64 x1), (3, .int .i64 x2), (13, .ro .u64 x3), (14, .ro .u64 x4)], []⟩
noncomputable def s130839 (x0 : Bool) (x1 : Λ) (x2 : Int) (x3 x4 : Λ) (x5 : Int) : ASt := ⟨[(0, .bool x0), (2, .ro .u64 x1), (3, .int .i64 x2), (13, .ro .u64 x3), (14, .ro .u64 x4), (17, .int .u64 x5)], []⟩
noncomputable def A (c37 : T6) (c88 : T16) (c90 : T0) (c119 : T1) (c127 : T33) (c128 : T12) (c129 : T10) (c130 : T12) (c131 : T34) (n : Nat) (J : Jt (Int × Int)) (q : Nat) (ms : List Nat) : ASt→Ω (Int × Int) := acont (cfg c37 c88 c90 c119 c127 c128 c129 c130 c131) J cuts n q code 1 ms (aend (cfg c37 c88 c90 c119 c127 c128 c129 c130 c131) Tryz.f71.results.toList [false, false] sg.out)
theorem e0 {c37 c88 c90 c119 c127 c128 c129 c130 c131 n J a0 l1 l2 a3} : afun (cfg c37 c88 c90 c119 c127 c128 c129 c130 c131) J cuts n code Tryz.f71.results.toList [false, false] [.bool a0, .ro .u64 l1, .ro .u64 l2, .int .i64 a3] sg.out = b0 c37 c88 c90 c119 c127 c128 c129 c130 c131 (fun y0 y1 y2 y3 => J 127 (A c37 c88 c90 c119 c127 c128 c129 c130 c131 n J 127 []) (s127 y0 y1 y2 y3)) a0 l1 l2 a3 := by kernel_rfl
theorem e127 {c37 c88 c90 c119 c127 c128 c129 c130 c131 n J x0 x1 x2 x3} : A c37 c88 c90 c119 c127 c128 c129 c130 c131 n J 127 [] (s127 x0 x1 x2 x3) = b127 c37 c88 c90 c119 c127 c128 c129 c130 c131 (fun y0 y1 y2 y3 y4 => J 4089 (A c37 c88 c90 c119 c127 c128 c129 c130 c131 n J 4089 [n]) (s4089 y0 y1 y2 y3 y4)) x0 x1 x2 x3 := by kernel_rfl
theorem e1023 {c37 c88 c90 c119 c127 c128 c129 c130 c131 n J x0 x1 x2 x3} : A c37 c88 c90 c119 c127 c128 c129 c130 c131 n J 1023 [] (s1023 x0 x1 x2 x3) = b1023 c37 c88 c90 c119 c127 c128 c129 c130 c131 x0 x1 x2 x3 := by kernel_rfl
theorem e4089 {c37 c88 c90 c119 c127 c128 c129 c130 c131 n J m x0 x1 x2 x3 x4} : A c37 c88 c90 c119 c127 c128 c129 c130 c131 n J 4089 [m + 1] (s4089 x0 x1 x2 x3 x4) = b4089 c37 c88 c90 c119 c127 c128 c129 c130 c131 (fun y0 y1 y2 y3 => J 1023 (A c37 c88 c90 c119 c127 c128 c129 c130 c131 n J 1023 []) (s1023 y0 y1 y2 y3)) (fun y0 y1 y2 y3 y4 y5 => J 130839 (A c37 c88 c90 c119 c127 c128 c129 c130 c131 n J 130839 [m]) (s130839 y0 y1 y2 y3 y4 y5)) x0 x1 x2 x3 x4 := by kernel_rfl
theorem e130839 {c37 c88 c90 c119 c127 c128 c129 c130 c131 n J m4089 x0 x1 x2 x3 x4 x5} : A c37 c88 c90 c119 c127 c128 c129 c130 c131 n J 130839 [m4089] (s130839 x0 x1 x2 x3 x4 x5) = b130839 c37 c88 c90 c119 c127 c128 c129 c130 c131 (fun y0 y1 y2 y3 y4 => J 4089 (A c37 c88 c90 c119 c127 c128 c129 c130 c131 n J 4089 [m4089]) (s4089 y0 y1 y2 y3 y4)) x0 x1 x2 x3 x4 x5 := by kernel_rfl
noncomputable abbrev I (n : Nat) := A (ieee_Round.f n) (nat_Shl.f n) ieee_near.f (nat_BitLen.f n) (quot_DivMod.f n) (nat_Sub.f n) (nat_Cmp.f n) (nat_Add.f n) (nat_MulAdd.f n) n idJ
theorem q1023 (n x0 x1 x2 x3) : I n 1023 [] (s1023 x0 x1 x2 x3) = l1023 n x0 x1 x2 x3 := e1023
theorem q130839 (n m4089 x0 x1 x2 x3 x4 x5) : I n 130839 [m4089] (s130839 x0 x1 x2 x3 x4 x5) = l130839 n (fun y0 y1 y2 y3 y4 => I n 4089 [m4089] (s4089 y0 y1 y2 y3 y4)) x0 x1 x2 x3 x4 x5 := e130839
theorem q4089 (n m) : ∀ x0 x1 x2 x3 x4, I n 4089 [m] (s4089 x0 x1 x2 x3 x4) = l4089 n m x0 x1 x2 x3 x4 := by
  induction m with
  | zero => intros; rfl
  | succ m ih =>
    intros
    exact e4089.trans (Eq.trans (cf5 (congr (congrArg (b4089 _ _ _ _ _ _ _ _ _) (fu4 (q1023 n))) ((fu6 (q130839 n m)).trans (by rw [show (fun y0 y1 y2 y3 y4 => I n 4089 [m] (s4089 y0 y1 y2 y3 y4)) = _ from (fu5 (ih))]))) _ _ _ _ _) rfl)
theorem q127 (n x0 x1 x2 x3) : I n 127 [] (s127 x0 x1 x2 x3) = l127 n x0 x1 x2 x3 := e127.trans (Eq.trans (cf4 (congrArg (b127 _ _ _ _ _ _ _ _ _) (fu5 (q4089 n n))) _ _ _ _) rfl)
theorem ok {n  a0 l1 l2 a3 r} (h : f n a0 l1 l2 a3 = some r) : CallD Tryz.prog HW 71 [.bool a0, .ro .u64 l1, .ro .u64 l2, .int .i64 a3] (sg.enc r) :=
  fun_some hwS Tryz.func71 (by kernel_rfl) (body := code) (by kernel_rfl) tys_ok (c := cfg (ieee_Round.f n) (nat_Shl.f n) ieee_near.f (nat_BitLen.f n) (quot_DivMod.f n) (nat_Sub.f n) (nat_Cmp.f n) (nat_Add.f n) (nat_MulAdd.f n)) (orCall_ok (ieee_Round.call_ok (n := n)) (orCall_ok (nat_Shl.call_ok (n := n)) (orCall_ok ieee_near.call_ok (orCall_ok (nat_BitLen.call_ok (n := n)) (orCall_ok (quot_DivMod.call_ok (n := n)) (orCall_ok (nat_Sub.call_ok (n := n)) (orCall_ok (nat_Cmp.call_ok (n := n)) (orCall_ok (nat_Add.call_ok (n := n)) (orCall_ok (nat_MulAdd.call_ok (n := n)) noCall_ok))))))))) noW_ok (by kernel_rfl) (by kernel_rfl) (Nat.le_of_ble_eq_true (by kernel_rfl)) (Eq.trans ((e0 (n := n)).trans (Eq.trans (cf4 (congrArg (b0 _ _ _ _ _ _ _ _ _) (fu4 (q127 n))) _ _ _ _) rfl)) h)
noncomputable def call {α : Type} (g : T23) (ds : List D) (K : List D→Ω α) : Ω α := match ds with
  | [.bool a0, .ro .u64 l1, .ro .u64 l2, .int .i64 a3] => (g a0 l1 l2 a3).bind fun r => K (sg.enc r)
  | _ => none
theorem call_ok {α : Type} {n : Nat} : COK Tryz.prog HW 71 (call (α := α) (f n)) := fun _ _ _ h => by
  unfold call at h; split at h
  · exact cok h fun _ => ok
  · cases h
end ieee_RoundRatio
/-! ### remain_Power: function 23 -/
namespace remain_Power
noncomputable def b0 (c36 : T2) (c37 : T6) (c68 : T7) (c69 : T0) (c70 : T16) (c71 : T23) (k63 : T84) (a0 a1 : Int) : Ω (Int × Int) := (if a1 < (-1024) then some (0, 60) else (if a1 > 1024 then some (0, 60) else (if a1 = 0 then some (4607182418800017408, 0) else ((c36 a0).bind fun t1 => (if t1.1 = true then k63 a1 (decide (¬ (Int.tmod a1 2) = 0)) t1.1 t1.2.1 t1.2.2.1 t1.2.2.2 else k63 a1 false t1.1 t1.2.1 t1.2.2.1 t1.2.2.2)))))
noncomputable def b63 (c36 : T2) (c37 : T6) (c68 : T7) (c69 : T0) (c70 : T16) (c71 : T23) (x0 : Int) (x1 x2 : Bool) (x3 x4 x5 : Int) : Ω (Int × Int) := (if x3 = 4 then some (9221120237041090560, 0) else (if x3 = 3 then (if ((decide (x3 = 3)) == (decide (x0 > 0))) = true then ((c68 x1 9218868437227405312).bind fun t1 => some (t1, 0)) else ((c68 x1 0).bind fun t2 => some (t2, 0))) else (if x3 = 0 then (if ((decide (x3 = 3)) == (decide (x0 > 0))) = true then ((c68 x1 9218868437227405312).bind fun t3 => some (t3, 0)) else ((c68 x1 0).bind fun t4 => some (t4, 0))) else ((c69 x4).bind fun t5 => (if 0 ≤ t5 then (if x0 > 0 then ((c70 [shr .u64 x4 t5] x0).bind fun t6 => (if ¬ t6.2 = 0 then some (0, t6.2) else ((c37 x1 t6.1 (wrap64 ((wrap64 (x5 + t5)) * x0)) false).bind fun t7 => some (t7.1, t7.2)))) else ((c70 [shr .u64 x4 t5] (wrap64 (-x0))).bind fun t8 => (if ¬ t8.2 = 0 then some (0, t8.2) else ((c71 x1 [1] t8.1 (wrap64 ((wrap64 (x5 + t5)) * x0))).bind fun t9 => some (t9.1, t9.2))))) else none)))))
noncomputable def l63 (n : Nat) (x0 : Int) (x1 x2 : Bool) (x3 x4 x5 : Int) : Ω (Int × Int) := b63 ieee_Decode.f (ieee_Round.f n) remain_signed.f bits_TrailingZeros64.f (quot_Pow.f n) (ieee_RoundRatio.f n) x0 x1 x2 x3 x4 x5
noncomputable def f (n : Nat) (a0 a1 : Int) : Ω (Int × Int) := b0 ieee_Decode.f (ieee_Round.f n) remain_signed.f bits_TrailingZeros64.f (quot_Pow.f n) (ieee_RoundRatio.f n) (l63 n) a0 a1
noncomputable def sg : Sig (Int × Int) := s2 (sInt .u64) (s1 (sInt .i64))
noncomputable def code : Code := (Tryz.f23.body).getD .skip
noncomputable def cfg (c36 : T2) (c37 : T6) (c68 : T7) (c69 : T0) (c70 : T16) (c71 : T23) : Cfg (Int × Int) := { T := tys, call := orCall 36 (ieee_Decode.call c36) (orCall 37 (ieee_Round.call c37) (orCall 68 (remain_signed.call c68) (orCall 69 (bits_TrailingZeros64.call c69) (orCall 70 (quot_Pow.call c70) (orCall 71 (ieee_RoundRatio.call c71) (noCall)))))) }
noncomputable def cuts : List (Nat × List (Nat × Want)) := [(63, [(1, .keep), (6, .keep), (7, .keep)])]
noncomputable def s63 (x0 : Int) (x1 x2 : Bool) (x3 x4 x5 : Int) : ASt := ⟨[(1, .int .i64 x0), (6, .ptr 0 0), (7, .bool x1)], [.cells 54 [.bool x2, .int .i64 x3, .int .u64 x4, .int .i64 x5]]⟩
noncomputable def A (c36 : T2) (c37 : T6) (c68 : T7) (c69 : T0) (c70 : T16) (c71 : T23) (n : Nat) (J : Jt (Int × Int)) (q : Nat) (ms : List Nat) : ASt→Ω (Int × Int) := acont (cfg c36 c37 c68 c69 c70 c71) J cuts n q code 1 ms (aend (cfg c36 c37 c68 c69 c70 c71) Tryz.f23.results.toList [false, false] sg.out)
theorem e0 {c36 c37 c68 c69 c70 c71 n J a0 a1} : afun (cfg c36 c37 c68 c69 c70 c71) J cuts n code Tryz.f23.results.toList [false, false] [.int .u64 a0, .int .i64 a1] sg.out = b0 c36 c37 c68 c69 c70 c71 (fun y0 y1 y2 y3 y4 y5 => J 63 (A c36 c37 c68 c69 c70 c71 n J 63 []) (s63 y0 y1 y2 y3 y4 y5)) a0 a1 := by kernel_rfl
theorem e63 {c36 c37 c68 c69 c70 c71 n J x0 x1 x2 x3 x4 x5} : A c36 c37 c68 c69 c70 c71 n J 63 [] (s63 x0 x1 x2 x3 x4 x5) = b63 c36 c37 c68 c69 c70 c71 x0 x1 x2 x3 x4 x5 := by kernel_rfl
noncomputable abbrev I (n : Nat) := A ieee_Decode.f (ieee_Round.f n) remain_signed.f bits_TrailingZeros64.f (quot_Pow.f n) (ieee_RoundRatio.f n) n idJ
theorem q63 (n x0 x1 x2 x3 x4 x5) : I n 63 [] (s63 x0 x1 x2 x3 x4 x5) = l63 n x0 x1 x2 x3 x4 x5 := e63
theorem ok {n  a0 a1 r} (h : f n a0 a1 = some r) : CallD Tryz.prog HW 23 [.int .u64 a0, .int .i64 a1] (sg.enc r) :=
  fun_some hwS Tryz.func23 (by kernel_rfl) (body := code) (by kernel_rfl) tys_ok (c := cfg ieee_Decode.f (ieee_Round.f n) remain_signed.f bits_TrailingZeros64.f (quot_Pow.f n) (ieee_RoundRatio.f n)) (orCall_ok ieee_Decode.call_ok (orCall_ok (ieee_Round.call_ok (n := n)) (orCall_ok remain_signed.call_ok (orCall_ok bits_TrailingZeros64.call_ok (orCall_ok (quot_Pow.call_ok (n := n)) (orCall_ok (ieee_RoundRatio.call_ok (n := n)) noCall_ok)))))) noW_ok (by kernel_rfl) (by kernel_rfl) (Nat.le_of_ble_eq_true (by kernel_rfl)) (Eq.trans ((e0 (n := n)).trans (Eq.trans (cf2 (congrArg (b0 _ _ _ _ _ _) (fu6 (q63 n))) _ _) rfl)) h)
noncomputable def call {α : Type} (g : T8) (ds : List D) (K : List D→Ω α) : Ω α := match ds with
  | [.int .u64 a0, .int .i64 a1] => (g a0 a1).bind fun r => K (sg.enc r)
  | _ => none
theorem call_ok {α : Type} {n : Nat} : COK Tryz.prog HW 23 (call (α := α) (f n)) := fun _ _ _ h => by
  unfold call at h; split at h
  · exact cok h fun _ => ok
  · cases h
end remain_Power
/-! ### abacuslaw06_awake: function 9 -/
namespace abacuslaw06_awake
noncomputable def b0 (c12 : T9) (c21 : T0) (c22 : T9) (c23 : T8) : Ω (Bool) := ((c21 4612811918334230528).bind fun t1 => ((c22 13841250504769798144 4611686018427387904).bind fun t2 => ((c12 4613937818241073152 (-1075)).bind fun t3 => ((c23 4611686018427387904 10).bind fun t4 => (if t1 = 4611686018427387904 then (if t2 = 13832806255468478464 then (if t3 = 2 then (if t4.1 = 4652218415073722368 then some (decide (t4.2 = 0)) else some false) else some false) else some false) else some false)))))
noncomputable def f (n : Nat) : Ω (Bool) := b0 (remain_Scale.f n) (remain_Trunc.f n) (remain_Fmod.f n) (remain_Power.f n)
noncomputable def sg : Sig (Bool) := s1 (sBool)
noncomputable def code : Code := (Tryz.f9.body).getD .skip
noncomputable def cfg (c12 : T9) (c21 : T0) (c22 : T9) (c23 : T8) : Cfg (Bool) := { T := tys, call := orCall 12 (remain_Scale.call c12) (orCall 21 (remain_Trunc.call c21) (orCall 22 (remain_Fmod.call c22) (orCall 23 (remain_Power.call c23) (noCall)))) }
noncomputable def cuts : List (Nat × List (Nat × Want)) := []
theorem e0 {c12 c21 c22 c23 n J} : afun (cfg c12 c21 c22 c23) J cuts n code Tryz.f9.results.toList [false] [] sg.out = b0 c12 c21 c22 c23 := by kernel_rfl
theorem ok {n r} (h : f n = some r) : CallD Tryz.prog HW 9 [] (sg.enc r) :=
  fun_some hwS Tryz.func9 (by kernel_rfl) (body := code) (by kernel_rfl) tys_ok (c := cfg (remain_Scale.f n) (remain_Trunc.f n) (remain_Fmod.f n) (remain_Power.f n)) (orCall_ok (remain_Scale.call_ok (n := n)) (orCall_ok (remain_Trunc.call_ok (n := n)) (orCall_ok (remain_Fmod.call_ok (n := n)) (orCall_ok (remain_Power.call_ok (n := n)) noCall_ok)))) noW_ok (by kernel_rfl) (by kernel_rfl) (Nat.le_of_ble_eq_true (by kernel_rfl)) (Eq.trans ((e0 (n := n))) h)
noncomputable def call {α : Type} (g : T46) (ds : List D) (K : List D→Ω α) : Ω α := match ds with
  | [] => (g).bind fun r => K (sg.enc r)
  | _ :: _ => none
theorem call_ok {α : Type} {n : Nat} : COK Tryz.prog HW 9 (call (α := α) (f n)) := fun _ _ _ h => by
  unfold call at h; split at h
  · exact cok h fun _ => ok
  · cases h
end abacuslaw06_awake
/-! ### abacusref04_Decode: function 38 -/
namespace abacusref04_Decode
noncomputable def b0 (a0 : Int) : Ω (Bool × Int × Int × Int) := (if (wrap64 (Int.tmod (IntKind.u64.wrap (Int.tdiv a0 4503599627370496)) 2048)) = 2047 then (if (Int.tmod a0 4503599627370496) = 0 then some (decide ((IntKind.u64.wrap (Int.tdiv a0 9223372036854775808)) = 1), 3, 0, 0) else some (decide ((IntKind.u64.wrap (Int.tdiv a0 9223372036854775808)) = 1), 4, Int.tmod a0 4503599627370496, 0)) else (if (wrap64 (Int.tmod (IntKind.u64.wrap (Int.tdiv a0 4503599627370496)) 2048)) > 0 then some (decide ((IntKind.u64.wrap (Int.tdiv a0 9223372036854775808)) = 1), 2, IntKind.u64.wrap (4503599627370496 + (Int.tmod a0 4503599627370496)), wrap64 ((wrap64 (Int.tmod (IntKind.u64.wrap (Int.tdiv a0 4503599627370496)) 2048)) - 1075)) else (if (Int.tmod a0 4503599627370496) = 0 then some (decide ((IntKind.u64.wrap (Int.tdiv a0 9223372036854775808)) = 1), 0, 0, 0) else some (decide ((IntKind.u64.wrap (Int.tdiv a0 9223372036854775808)) = 1), 1, Int.tmod a0 4503599627370496, (-1074)))))
noncomputable def f (a0 : Int) : Ω (Bool × Int × Int × Int) := b0 a0
noncomputable def sg : Sig (Bool × Int × Int × Int) := s1 (sAgg (s2 (sBool) (s2 (sInt .i64) (s2 (sInt .u64) (s1 (sInt .i64))))))
noncomputable def code : Code := (Tryz.f38.body).getD .skip
noncomputable def cfg : Cfg (Bool × Int × Int × Int) := { T := tys, call := noCall }
noncomputable def cuts : List (Nat × List (Nat × Want)) := []
theorem e0 {n J a0} : afun cfg J cuts n code Tryz.f38.results.toList [false] [.int .u64 a0] sg.out = b0 a0 := by kernel_rfl
theorem ok {a0 r} (h : f a0 = some r) : CallD Tryz.prog HW 38 [.int .u64 a0] (sg.enc r) :=
  fun_some hwS Tryz.func38 (by kernel_rfl) (body := code) (by kernel_rfl) tys_ok (c := cfg) noCall_ok noW_ok (by kernel_rfl) (by kernel_rfl) (Nat.le_of_ble_eq_true (by kernel_rfl)) (Eq.trans ((e0 (n := 0))) h)
noncomputable def call {α : Type} (g : T2) (ds : List D) (K : List D→Ω α) : Ω α := match ds with
  | [.int .u64 a0] => (g a0).bind fun r => K (sg.enc r)
  | _ => none
theorem call_ok {α : Type} : COK Tryz.prog HW 38 (call (α := α) f) := fun _ _ _ h => by
  unfold call at h; split at h
  · exact cok h fun _ => ok
  · cases h
end abacusref04_Decode
/-! ### abacusref06_Cut: function 78 -/
namespace abacusref06_Cut
noncomputable def b0 (k1013 : T56) (a0 : Bool) (a1 a2 a3 : Int) : Ω (Int × Int) := (if a3 ≥ 0 then some (a2, 0) else (if a2 = 0 then some (0, 0) else (if a3 < (-60) then some (0, 1) else k1013 1 0 a0 a1 a2 a3)))
noncomputable def b127 (k1023 : T57) (x0 : Int) (x1 : Bool) (x2 x3 x4 : Int) : Ω (Int × Int) := (if x0 = 0 then none else (if (Int.tmod x3 x0) > 0 then k1023 x0 (Int.tmod x3 x0) 1 x1 x2 x3 x4 else k1023 x0 (Int.tmod x3 x0) 0 x1 x2 x3 x4))
noncomputable def b1013 (k127 : T85) (k1013 : T56) (x0 x1 : Int) (x2 : Bool) (x3 x4 x5 : Int) : Ω (Int × Int) := (if x1 > x5 then k1013 (IntKind.u64.wrap (2 * x0)) (wrap64 (x1 - 1)) x2 x3 x4 x5 else k127 x0 x2 x3 x4 x5)
noncomputable def b1023 (k2047 : T57) (x0 x1 x2 : Int) (x3 : Bool) (x4 x5 x6 : Int) : Ω (Int × Int) := (if (IntKind.u64.wrap (2 * x1)) = x0 then k2047 x0 x1 2 x3 x4 x5 x6 else k2047 x0 x1 x2 x3 x4 x5 x6)
noncomputable def b2047 (k4095 : T56) (x0 x1 x2 : Int) (x3 : Bool) (x4 x5 x6 : Int) : Ω (Int × Int) := (if (IntKind.u64.wrap (2 * x1)) > x0 then k4095 x0 3 x3 x4 x5 x6 else k4095 x0 x2 x3 x4 x5 x6)
noncomputable def b4095 (x0 x1 : Int) (x2 : Bool) (x3 x4 x5 : Int) : Ω (Int × Int) := (if x0 = 0 then none else some (IntKind.u64.wrap (Int.tdiv x4 x0), x1))
noncomputable def l4095 (n : Nat) (x0 x1 : Int) (x2 : Bool) (x3 x4 x5 : Int) : Ω (Int × Int) := b4095 x0 x1 x2 x3 x4 x5
noncomputable def l2047 (n : Nat) (x0 x1 x2 : Int) (x3 : Bool) (x4 x5 x6 : Int) : Ω (Int × Int) := b2047 (l4095 n) x0 x1 x2 x3 x4 x5 x6
noncomputable def l1023 (n : Nat) (x0 x1 x2 : Int) (x3 : Bool) (x4 x5 x6 : Int) : Ω (Int × Int) := b1023 (l2047 n) x0 x1 x2 x3 x4 x5 x6
noncomputable def l127 (n : Nat) (x0 : Int) (x1 : Bool) (x2 x3 x4 : Int) : Ω (Int × Int) := b127 (l1023 n) x0 x1 x2 x3 x4
noncomputable def l1013 (n : Nat) : Nat→Int→Int→Bool→Int→Int→Int→Ω (Int × Int)
  | 0, _, _, _, _, _, _ => none
  | m + 1, x0, x1, x2, x3, x4, x5 => b1013 (l127 n) (l1013 n m) x0 x1 x2 x3 x4 x5
noncomputable def f (n : Nat) (a0 : Bool) (a1 a2 a3 : Int) : Ω (Int × Int) := b0 (l1013 n n) a0 a1 a2 a3
noncomputable def sg : Sig (Int × Int) := s2 (sInt .u64) (s1 (sInt .i64))
noncomputable def code : Code := (Tryz.f78.body).getD .skip
noncomputable def cfg : Cfg (Int × Int) := { T := tys, call := noCall }
noncomputable def cuts : List (Nat × List (Nat × Want)) := [(127, [(1, .keep), (4, .keep)]), (1013, [(1, .keep), (4, .keep), (5, .keep)]), (1023, [(1, .keep), (4, .keep), (6, .keep), (7, .keep)]), (2047, [(1, .keep), (4, .keep), (6, .keep), (7, .keep)]), (4095, [(1, .keep), (4, .keep), (7, .keep)])]
noncomputable def s127 (x0 : Int) (x1 : Bool) (x2 x3 x4 : Int) : ASt := ⟨[(1, .ptr 0 0), (4, .int .u64 x0)], [.cells 54 [.bool x1, .int .i64 x2, .int .u64 x3, .int .i64 x4]]⟩
noncomputable def s1013 (x0 x1 : Int) (x2 : Bool) (x3 x4 x5 : Int) : ASt := ⟨[(1, .ptr 0 0), (4, .int .u64 x0), (5, .int .i64 x1)], [.cells 54 [.bool x2, .int .i64 x3, .int .u64 x4, .int .i64 x5]]⟩
noncomputable def s1023 (x0 x1 x2 : Int) (x3 : Bool) (x4 x5 x6 : Int) : ASt := ⟨[(1, .ptr 0 0), (4, .int .u64 x0), (6, .int .u64 x1), (7, .int .i64 x2)], [.cells 54 [.bool x3, .int .i64 x4, .int .u64 x5, .int .i64 x6]]⟩
noncomputable def s2047 (x0 x1 x2 : Int) (x3 : Bool) (x4 x5 x6 : Int) : ASt := ⟨[(1, .ptr 0 0), (4, .int .u64 x0), (6, .int .u64 x1), (7, .int .i64 x2)], [.cells 54 [.bool x3, .int .i64 x4, .int .u64 x5, .int .i64 x6]]⟩
noncomputable def s4095 (x0 x1 : Int) (x2 : Bool) (x3 x4 x5 : Int) : ASt := ⟨[(1, .ptr 0 0), (4, .int .u64 x0), (7, .int .i64 x1)], [.cells 54 [.bool x2, .int .i64 x3, .int .u64 x4, .int .i64 x5]]⟩
noncomputable def A (n : Nat) (J : Jt (Int × Int)) (q : Nat) (ms : List Nat) : ASt→Ω (Int × Int) := acont cfg J cuts n q code 1 ms (aend cfg Tryz.f78.results.toList [false, false] sg.out)
theorem e0 {n J a0 a1 a2 a3} : afun cfg J cuts n code Tryz.f78.results.toList [false, false] [.agg [.bool a0, .int .i64 a1, .int .u64 a2, .int .i64 a3]] sg.out = b0 (fun y0 y1 y2 y3 y4 y5 => J 1013 (A n J 1013 [n]) (s1013 y0 y1 y2 y3 y4 y5)) a0 a1 a2 a3 := by kernel_rfl
theorem e127 {n J x0 x1 x2 x3 x4} : A n J 127 [] (s127 x0 x1 x2 x3 x4) = b127 (fun y0 y1 y2 y3 y4 y5 y6 => J 1023 (A n J 1023 []) (s1023 y0 y1 y2 y3 y4 y5 y6)) x0 x1 x2 x3 x4 := by kernel_rfl
theorem e1013 {n J m x0 x1 x2 x3 x4 x5} : A n J 1013 [m + 1] (s1013 x0 x1 x2 x3 x4 x5) = b1013 (fun y0 y1 y2 y3 y4 => J 127 (A n J 127 []) (s127 y0 y1 y2 y3 y4)) (fun y0 y1 y2 y3 y4 y5 => J 1013 (A n J 1013 [m]) (s1013 y0 y1 y2 y3 y4 y5)) x0 x1 x2 x3 x4 x5 := by kernel_rfl
theorem e1023 {n J x0 x1 x2 x3 x4 x5 x6} : A n J 1023 [] (s1023 x0 x1 x2 x3 x4 x5 x6) = b1023 (fun y0 y1 y2 y3 y4 y5 y6 => J 2047 (A n J 2047 []) (s2047 y0 y1 y2 y3 y4 y5 y6)) x0 x1 x2 x3 x4 x5 x6 := by kernel_rfl
theorem e2047 {n J x0 x1 x2 x3 x4 x5 x6} : A n J 2047 [] (s2047 x0 x1 x2 x3 x4 x5 x6) = b2047 (fun y0 y1 y2 y3 y4 y5 => J 4095 (A n J 4095 []) (s4095 y0 y1 y2 y3 y4 y5)) x0 x1 x2 x3 x4 x5 x6 := by kernel_rfl
theorem e4095 {n J x0 x1 x2 x3 x4 x5} : A n J 4095 [] (s4095 x0 x1 x2 x3 x4 x5) = b4095 x0 x1 x2 x3 x4 x5 := by kernel_rfl
noncomputable abbrev I (n : Nat) := A n idJ
theorem q4095 (n x0 x1 x2 x3 x4 x5) : I n 4095 [] (s4095 x0 x1 x2 x3 x4 x5) = l4095 n x0 x1 x2 x3 x4 x5 := e4095
theorem q2047 (n x0 x1 x2 x3 x4 x5 x6) : I n 2047 [] (s2047 x0 x1 x2 x3 x4 x5 x6) = l2047 n x0 x1 x2 x3 x4 x5 x6 := e2047.trans (Eq.trans (cf7 (congrArg b2047 (fu6 (q4095 n))) _ _ _ _ _ _ _) rfl)
theorem q1023 (n x0 x1 x2 x3 x4 x5 x6) : I n 1023 [] (s1023 x0 x1 x2 x3 x4 x5 x6) = l1023 n x0 x1 x2 x3 x4 x5 x6 := e1023.trans (Eq.trans (cf7 (congrArg b1023 (fu7 (q2047 n))) _ _ _ _ _ _ _) rfl)
theorem q127 (n x0 x1 x2 x3 x4) : I n 127 [] (s127 x0 x1 x2 x3 x4) = l127 n x0 x1 x2 x3 x4 := e127.trans (Eq.trans (cf5 (congrArg b127 (fu7 (q1023 n))) _ _ _ _ _) rfl)
theorem q1013 (n m) : ∀ x0 x1 x2 x3 x4 x5, I n 1013 [m] (s1013 x0 x1 x2 x3 x4 x5) = l1013 n m x0 x1 x2 x3 x4 x5 := by
  induction m with
  | zero => intros; rfl
  | succ m ih =>
    intros
    exact e1013.trans (Eq.trans (cf6 (congr (congrArg b1013 (fu5 (q127 n))) (fu6 (ih))) _ _ _ _ _ _) rfl)
theorem ok {n  a0 a1 a2 a3 r} (h : f n a0 a1 a2 a3 = some r) : CallD Tryz.prog HW 78 [.agg [.bool a0, .int .i64 a1, .int .u64 a2, .int .i64 a3]] (sg.enc r) :=
  fun_some hwS Tryz.func78 (by kernel_rfl) (body := code) (by kernel_rfl) tys_ok (c := cfg) noCall_ok noW_ok (by kernel_rfl) (by kernel_rfl) (Nat.le_of_ble_eq_true (by kernel_rfl)) (Eq.trans ((e0 (n := n)).trans (Eq.trans (cf4 (congrArg b0 (fu6 (q1013 n n))) _ _ _ _) rfl)) h)
noncomputable def call {α : Type} (g : T27) (ds : List D) (K : List D→Ω α) : Ω α := match ds with
  | [.agg [.bool a0, .int .i64 a1, .int .u64 a2, .int .i64 a3]] => (g a0 a1 a2 a3).bind fun r => K (sg.enc r)
  | _ => none
theorem call_ok {α : Type} {n : Nat} : COK Tryz.prog HW 78 (call (α := α) (f n)) := fun _ _ _ h => by
  unfold call at h; split at h
  · exact cok h fun _ => ok
  · cases h
end abacusref06_Cut
/-! ### abacusref01_Size: function 134 -/
namespace abacusref01_Size
noncomputable def b0 (k57 : T13) (l0 : Λ) : Ω (Int) := k57 l0 (ln l0)
noncomputable def b57 (k57 : T13) (x0 : Λ) (x1 : Int) : Ω (Int) := (if x1 > 0 then (if 0 ≤ (wrap64 (x1 - 1)) then (if (wrap64 (x1 - 1)) < (ln x0) then (if (rd x0 (wrap64 (x1 - 1))) = 0 then k57 x0 (wrap64 (x1 - 1)) else some x1) else none) else none) else some x1)
noncomputable def l57 (n : Nat) : Nat→Λ→Int→Ω (Int)
  | 0, _, _ => none
  | m + 1, x0, x1 => b57 (l57 n m) x0 x1
noncomputable def f (n : Nat) (l0 : Λ) : Ω (Int) := b0 (l57 n n) l0
noncomputable def sg : Sig (Int) := s1 (sInt .i64)
noncomputable def code : Code := (Tryz.f134.body).getD .skip
noncomputable def cfg : Cfg (Int) := { T := tys, call := noCall }
noncomputable def cuts : List (Nat × List (Nat × Want)) := [(57, [(0, .keep), (3, .keep)])]
noncomputable def s57 (x0 : Λ) (x1 : Int) : ASt := ⟨[(0, .ro .u64 x0), (3, .int .i64 x1)], []⟩
noncomputable def A (n : Nat) (J : Jt (Int)) (q : Nat) (ms : List Nat) : ASt→Ω (Int) := acont cfg J cuts n q code 1 ms (aend cfg Tryz.f134.results.toList [false] sg.out)
theorem e0 {n J l0} : afun cfg J cuts n code Tryz.f134.results.toList [false] [.ro .u64 l0] sg.out = b0 (fun y0 y1 => J 57 (A n J 57 [n]) (s57 y0 y1)) l0 := by kernel_rfl
theorem e57 {n J m x0 x1} : A n J 57 [m + 1] (s57 x0 x1) = b57 (fun y0 y1 => J 57 (A n J 57 [m]) (s57 y0 y1)) x0 x1 := by kernel_rfl
noncomputable abbrev I (n : Nat) := A n idJ
theorem q57 (n m) : ∀ x0 x1, I n 57 [m] (s57 x0 x1) = l57 n m x0 x1 := by
  induction m with
  | zero => intros; rfl
  | succ m ih =>
    intros
    exact e57.trans (Eq.trans (cf2 (congrArg b57 (fu2 (ih))) _ _) rfl)
theorem ok {n  l0 r} (h : f n l0 = some r) : CallD Tryz.prog HW 134 [.ro .u64 l0] (sg.enc r) :=
  fun_some hwS Tryz.func134 (by kernel_rfl) (body := code) (by kernel_rfl) tys_ok (c := cfg) noCall_ok noW_ok (by kernel_rfl) (by kernel_rfl) (Nat.le_of_ble_eq_true (by kernel_rfl)) (Eq.trans ((e0 (n := n)).trans (Eq.trans (cf1 (congrArg b0 (fu2 (q57 n n))) _) rfl)) h)
noncomputable def call {α : Type} (g : T1) (ds : List D) (K : List D→Ω α) : Ω α := match ds with
  | [.ro .u64 l0] => (g l0).bind fun r => K (sg.enc r)
  | _ => none
theorem call_ok {α : Type} {n : Nat} : COK Tryz.prog HW 134 (call (α := α) (f n)) := fun _ _ _ h => by
  unfold call at h; split at h
  · exact cok h fun _ => ok
  · cases h
end abacusref01_Size
/-! ### abacusref01_Big: function 92 -/
namespace abacusref01_Big
noncomputable def b0 (c134 : T1) (l0 : Λ) : Ω (Bool) := ((c134 l0).bind fun t1 => some (decide (t1 > 4096)))
noncomputable def f (n : Nat) (l0 : Λ) : Ω (Bool) := b0 (abacusref01_Size.f n) l0
noncomputable def sg : Sig (Bool) := s1 (sBool)
noncomputable def code : Code := (Tryz.f92.body).getD .skip
noncomputable def cfg (c134 : T1) : Cfg (Bool) := { T := tys, call := orCall 134 (abacusref01_Size.call c134) (noCall) }
noncomputable def cuts : List (Nat × List (Nat × Want)) := []
theorem e0 {c134 n J l0} : afun (cfg c134) J cuts n code Tryz.f92.results.toList [false] [.ro .u64 l0] sg.out = b0 c134 l0 := by kernel_rfl
theorem ok {n  l0 r} (h : f n l0 = some r) : CallD Tryz.prog HW 92 [.ro .u64 l0] (sg.enc r) :=
  fun_some hwS Tryz.func92 (by kernel_rfl) (body := code) (by kernel_rfl) tys_ok (c := cfg (abacusref01_Size.f n)) (orCall_ok (abacusref01_Size.call_ok (n := n)) noCall_ok) noW_ok (by kernel_rfl) (by kernel_rfl) (Nat.le_of_ble_eq_true (by kernel_rfl)) (Eq.trans ((e0 (n := n))) h)
noncomputable def call {α : Type} (g : T5) (ds : List D) (K : List D→Ω α) : Ω α := match ds with
  | [.ro .u64 l0] => (g l0).bind fun r => K (sg.enc r)
  | _ => none
theorem call_ok {α : Type} {n : Nat} : COK Tryz.prog HW 92 (call (α := α) (f n)) := fun _ _ _ h => by
  unfold call at h; split at h
  · exact cok h fun _ => ok
  · cases h
end abacusref01_Big
/-! ### abacusref01_BitLen: function 93 -/
namespace abacusref01_BitLen
noncomputable def b0 (c134 : T1) (k501 : T9) (l0 : Λ) : Ω (Int) := ((c134 l0).bind fun t1 => (if t1 = 0 then some 0 else (if 0 ≤ (wrap64 (t1 - 1)) then (if (wrap64 (t1 - 1)) < (ln l0) then k501 (wrap64 (64 * (wrap64 (t1 - 1)))) (rd l0 (wrap64 (t1 - 1))) else none) else none)))
noncomputable def b501 (c134 : T1) (k501 : T9) (x0 x1 : Int) : Ω (Int) := (if x1 > 0 then k501 (wrap64 (x0 + 1)) (IntKind.u64.wrap (Int.tdiv x1 2)) else some x0)
noncomputable def l501 (n : Nat) : Nat→Int→Int→Ω (Int)
  | 0, _, _ => none
  | m + 1, x0, x1 => b501 (abacusref01_Size.f n) (l501 n m) x0 x1
noncomputable def f (n : Nat) (l0 : Λ) : Ω (Int) := b0 (abacusref01_Size.f n) (l501 n n) l0
noncomputable def sg : Sig (Int) := s1 (sInt .i64)
noncomputable def code : Code := (Tryz.f93.body).getD .skip
noncomputable def cfg (c134 : T1) : Cfg (Int) := { T := tys, call := orCall 134 (abacusref01_Size.call c134) (noCall) }
noncomputable def cuts : List (Nat × List (Nat × Want)) := [(501, [(4, .keep), (5, .keep)])]
noncomputable def s501 (x0 x1 : Int) : ASt := ⟨[(4, .int .i64 x0), (5, .int .u64 x1)], []⟩
noncomputable def A (c134 : T1) (n : Nat) (J : Jt (Int)) (q : Nat) (ms : List Nat) : ASt→Ω (Int) := acont (cfg c134) J cuts n q code 1 ms (aend (cfg c134) Tryz.f93.results.toList [false] sg.out)
theorem e0 {c134 n J l0} : afun (cfg c134) J cuts n code Tryz.f93.results.toList [false] [.ro .u64 l0] sg.out = b0 c134 (fun y0 y1 => J 501 (A c134 n J 501 [n]) (s501 y0 y1)) l0 := by kernel_rfl
theorem e501 {c134 n J m x0 x1} : A c134 n J 501 [m + 1] (s501 x0 x1) = b501 c134 (fun y0 y1 => J 501 (A c134 n J 501 [m]) (s501 y0 y1)) x0 x1 := by kernel_rfl
noncomputable abbrev I (n : Nat) := A (abacusref01_Size.f n) n idJ
theorem q501 (n m) : ∀ x0 x1, I n 501 [m] (s501 x0 x1) = l501 n m x0 x1 := by
  induction m with
  | zero => intros; rfl
  | succ m ih =>
    intros
    exact e501.trans (Eq.trans (cf2 (congrArg (b501 _) (fu2 (ih))) _ _) rfl)
theorem ok {n  l0 r} (h : f n l0 = some r) : CallD Tryz.prog HW 93 [.ro .u64 l0] (sg.enc r) :=
  fun_some hwS Tryz.func93 (by kernel_rfl) (body := code) (by kernel_rfl) tys_ok (c := cfg (abacusref01_Size.f n)) (orCall_ok (abacusref01_Size.call_ok (n := n)) noCall_ok) noW_ok (by kernel_rfl) (by kernel_rfl) (Nat.le_of_ble_eq_true (by kernel_rfl)) (Eq.trans ((e0 (n := n)).trans (Eq.trans (cf1 (congrArg (b0 _) (fu2 (q501 n n))) _) rfl)) h)
noncomputable def call {α : Type} (g : T1) (ds : List D) (K : List D→Ω α) : Ω α := match ds with
  | [.ro .u64 l0] => (g l0).bind fun r => K (sg.enc r)
  | _ => none
theorem call_ok {α : Type} {n : Nat} : COK Tryz.prog HW 93 (call (α := α) (f n)) := fun _ _ _ h => by
  unfold call at h; split at h
  · exact cok h fun _ => ok
  · cases h
end abacusref01_BitLen
end Go.Proofs.YtobocamcoaeliaaGreatDoor.F
