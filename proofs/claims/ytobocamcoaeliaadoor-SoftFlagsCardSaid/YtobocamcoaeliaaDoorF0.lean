/- What the functions compute, and that calls of them answer so (printed by gen.py). Conditions: HW, a table as it was laid. -/
import Derived.Test.YtobocamcoaeliaaDoorA17
import Derived.Test.YtobocamcoaeliaaDoorProg
namespace Go.Proofs.YtobocamcoaeliaaDoor.F
open Go.RowKit Go.Proofs.YtobocamcoaeliaaDoorA
set_option linter.unusedVariables false
set_option maxRecDepth 100000
abbrev Λ := List Int
abbrev Ω := Option
/-- The table of math/bits.TrailingZeros64 stands as it was laid. -/
def HW : World → Prop := fun w => ∀ j, j < 64 → w.cell? ⟨0, j, none⟩ = some (.int .u8 ((Lib.deBruijn64tab.getD j 0 : Nat) : Int))
theorem hwS : ∀ w w' : World, Below w.heap.size w w' → HW w → HW w' := fun w w' hb h j hj => by
  have h1 := h j hj
  rw [← h1]
  exact hb.cell (Nat.lt_of_not_le fun hn => by simp [World.cell?, Array.getElem?_eq_none hn] at h1)
def tys : List (Nat × TI) := [(2, ⟨.int .i64, 1, 8, [.int .i64 0], false⟩),
  (3, ⟨.int .i64, 1, 8, [.int .i64 0], false⟩),
  (4, ⟨.bool, 1, 1, [.bool false], false⟩),
  (22, ⟨.int .u64, 1, 8, [.int .u64 0], false⟩),
  (24, ⟨.struct [(0, 1, false), (1, 1, false), (2, 1, false)], 3, 24, [.int .u64 0, .int .u64 0, .int .u64 0], true⟩),
  (38, ⟨.slice 41, 1, 24, [.nil], false⟩),
  (41, ⟨.other, 1, 8, [.nilf], false⟩),
  (42, ⟨.slice 22, 1, 24, [.nil], false⟩),
  (46, ⟨.struct [(0, 1, false), (1, 1, false), (2, 1, false), (3, 1, false)], 4, 32, [.bool false, .int .i64 0, .int .u64 0, .int .i64 0], true⟩),
  (52, ⟨.struct [(0, 1, false), (1, 1, false)], 2, 32, [.bool false, .nil], false⟩),
  (69, ⟨.int .u64, 1, 8, [.int .u64 0], false⟩),
  (87, ⟨.struct [(0, 1, false), (1, 1, false), (2, 1, false)], 3, 40, [.bool false, .nil, .int .i64 0], false⟩),
  (92, ⟨.struct [(0, 1, false), (1, 1, false), (2, 1, false), (3, 1, false)], 4, 64, [.bool false, .nil, .nil, .int .i64 0], false⟩)]
theorem tys_ok : TOK Tryd.prog tys := tok_of (by kernel_rfl)
/-! ### soft_operations: function 18 -/
namespace soft_operations
noncomputable def b0 : Ω (Unit) := some ()
noncomputable def f : Ω (Unit) := b0
noncomputable def sg : Sig (Unit) := s1 (sFns 41 [none, some 44, some 45, some 46, some 47, some 48, some 49])
noncomputable def code : Code := (Tryd.f18.body).getD .skip
noncomputable def cfg : Cfg (Unit) := { T := tys, call := noCall }
noncomputable def cuts : List (Nat × List (Nat × Want)) := []
theorem e0 {n J} : afun cfg J cuts n code Tryd.f18.results.toList [false] [] sg.out = b0 := by kernel_rfl
theorem ok {r} (h : f = some r) : CallD Tryd.prog HW 18 [] (sg.enc r) :=
  fun_some hwS Tryd.func18 (by kernel_rfl) (body := code) (by kernel_rfl) tys_ok (c := cfg) noCall_ok noW_ok (by kernel_rfl) (by kernel_rfl) (Nat.le_of_ble_eq_true (by kernel_rfl)) (Eq.trans ((e0 (n := 0))) h)
noncomputable def call {α : Type} (g : Ω (Unit)) (ds : List D) (K : List D→Ω α) : Ω α := match ds with
  | [] => (g).bind fun r => K (sg.enc r)
  | _ :: _ => none
theorem call_ok {α : Type} : COK Tryd.prog HW 18 (call (α := α) f) := fun _ _ _ h => by
  unfold call at h; split at h
  · exact cok h fun _ => ok
  · cases h
end soft_operations
/-! ### ieee_Abs: function 17 -/
namespace ieee_Abs
noncomputable def b0 (a0 : Int) : Ω (Int) := some (Go.bits .andNot .u64 a0 9223372036854775808)
noncomputable def f (a0 : Int) : Ω (Int) := b0 a0
noncomputable def sg : Sig (Int) := s1 (sInt .u64)
noncomputable def code : Code := (Tryd.f17.body).getD .skip
noncomputable def cfg : Cfg (Int) := { T := tys, call := noCall }
noncomputable def cuts : List (Nat × List (Nat × Want)) := []
theorem e0 {n J a0} : afun cfg J cuts n code Tryd.f17.results.toList [false] [.int .u64 a0] sg.out = b0 a0 := by kernel_rfl
theorem ok {a0 r} (h : f a0 = some r) : CallD Tryd.prog HW 17 [.int .u64 a0] (sg.enc r) :=
  fun_some hwS Tryd.func17 (by kernel_rfl) (body := code) (by kernel_rfl) tys_ok (c := cfg) noCall_ok noW_ok (by kernel_rfl) (by kernel_rfl) (Nat.le_of_ble_eq_true (by kernel_rfl)) (Eq.trans ((e0 (n := 0))) h)
noncomputable def call {α : Type} (g : Int→Ω (Int)) (ds : List D) (K : List D→Ω α) : Ω α := match ds with
  | [.int .u64 a0] => (g a0).bind fun r => K (sg.enc r)
  | _ => none
theorem call_ok {α : Type} : COK Tryd.prog HW 17 (call (α := α) f) := fun _ _ _ h => by
  unfold call at h; split at h
  · exact cok h fun _ => ok
  · cases h
end ieee_Abs
/-! ### ieee_Class: function 55 -/
namespace ieee_Class
noncomputable def b0 (c17 : Int→Ω (Int)) (a0 : Int) : Ω (Int) := ((c17 a0).bind fun t1 => (if t1 = 0 then some 0 else (if t1 < 4503599627370496 then some 1 else (if t1 < 9218868437227405312 then some 2 else (if t1 = 9218868437227405312 then some 3 else some 4)))))
noncomputable def f (a0 : Int) : Ω (Int) := b0 ieee_Abs.f a0
noncomputable def sg : Sig (Int) := s1 (sInt .i64)
noncomputable def code : Code := (Tryd.f55.body).getD .skip
noncomputable def cfg (c17 : Int→Ω (Int)) : Cfg (Int) := { T := tys, call := orCall 17 (ieee_Abs.call c17) (noCall) }
noncomputable def cuts : List (Nat × List (Nat × Want)) := []
theorem e0 {c17 n J a0} : afun (cfg c17) J cuts n code Tryd.f55.results.toList [false] [.int .u64 a0] sg.out = b0 c17 a0 := by kernel_rfl
theorem ok {a0 r} (h : f a0 = some r) : CallD Tryd.prog HW 55 [.int .u64 a0] (sg.enc r) :=
  fun_some hwS Tryd.func55 (by kernel_rfl) (body := code) (by kernel_rfl) tys_ok (c := cfg ieee_Abs.f) (orCall_ok ieee_Abs.call_ok noCall_ok) noW_ok (by kernel_rfl) (by kernel_rfl) (Nat.le_of_ble_eq_true (by kernel_rfl)) (Eq.trans ((e0 (n := 0))) h)
noncomputable def call {α : Type} (g : Int→Ω (Int)) (ds : List D) (K : List D→Ω α) : Ω α := match ds with
  | [.int .u64 a0] => (g a0).bind fun r => K (sg.enc r)
  | _ => none
theorem call_ok {α : Type} : COK Tryd.prog HW 55 (call (α := α) f) := fun _ _ _ h => by
  unfold call at h; split at h
  · exact cok h fun _ => ok
  · cases h
end ieee_Class
/-! ### ieee_Decode: function 20 -/
namespace ieee_Decode
noncomputable def b0 (c55 : Int→Ω (Int)) (a0 : Int) : Ω (Bool × Int × Int × Int) := ((c55 a0).bind fun t1 => (if t1 = 1 then some (decide (¬ (Go.bits .and .u64 a0 9223372036854775808) = 0), t1, Go.bits .and .u64 a0 4503599627370495, (-1074)) else (if t1 = 2 then some (decide (¬ (Go.bits .and .u64 a0 9223372036854775808) = 0), t1, Go.bits .or .u64 4503599627370496 (Go.bits .and .u64 a0 4503599627370495), wrap64 ((wrap64 (Go.bits .and .u64 (a0 / 4503599627370496) 2047)) - 1075)) else (if t1 = 4 then some (decide (¬ (Go.bits .and .u64 a0 9223372036854775808) = 0), t1, Go.bits .and .u64 a0 4503599627370495, 0) else some (decide (¬ (Go.bits .and .u64 a0 9223372036854775808) = 0), t1, 0, 0)))))
noncomputable def f (a0 : Int) : Ω (Bool × Int × Int × Int) := b0 ieee_Class.f a0
noncomputable def sg : Sig (Bool × Int × Int × Int) := s1 (sAgg (s2 (sBool) (s2 (sInt .i64) (s2 (sInt .u64) (s1 (sInt .i64))))))
noncomputable def code : Code := (Tryd.f20.body).getD .skip
noncomputable def cfg (c55 : Int→Ω (Int)) : Cfg (Bool × Int × Int × Int) := { T := tys, call := orCall 55 (ieee_Class.call c55) (noCall) }
noncomputable def cuts : List (Nat × List (Nat × Want)) := []
theorem e0 {c55 n J a0} : afun (cfg c55) J cuts n code Tryd.f20.results.toList [false] [.int .u64 a0] sg.out = b0 c55 a0 := by kernel_rfl
theorem ok {a0 r} (h : f a0 = some r) : CallD Tryd.prog HW 20 [.int .u64 a0] (sg.enc r) :=
  fun_some hwS Tryd.func20 (by kernel_rfl) (body := code) (by kernel_rfl) tys_ok (c := cfg ieee_Class.f) (orCall_ok ieee_Class.call_ok noCall_ok) noW_ok (by kernel_rfl) (by kernel_rfl) (Nat.le_of_ble_eq_true (by kernel_rfl)) (Eq.trans ((e0 (n := 0))) h)
noncomputable def call {α : Type} (g : Int→Ω (Bool × Int × Int × Int)) (ds : List D) (K : List D→Ω α) : Ω α := match ds with
  | [.int .u64 a0] => (g a0).bind fun r => K (sg.enc r)
  | _ => none
theorem call_ok {α : Type} : COK Tryd.prog HW 20 (call (α := α) f) := fun _ _ _ h => by
  unfold call at h; split at h
  · exact cok h fun _ => ok
  · cases h
end ieee_Decode
/-! ### soft_invalid: function 75 -/
namespace soft_invalid
noncomputable def b0 : Ω (Int × Int) := some (9221120237041090560, 1)
noncomputable def f : Ω (Int × Int) := b0
noncomputable def sg : Sig (Int × Int) := s2 (sInt .u64) (s1 (sInt .i64))
noncomputable def code : Code := (Tryd.f75.body).getD .skip
noncomputable def cfg : Cfg (Int × Int) := { T := tys, call := noCall }
noncomputable def cuts : List (Nat × List (Nat × Want)) := []
theorem e0 {n J} : afun cfg J cuts n code Tryd.f75.results.toList [false, false] [] sg.out = b0 := by kernel_rfl
theorem ok {r} (h : f = some r) : CallD Tryd.prog HW 75 [] (sg.enc r) :=
  fun_some hwS Tryd.func75 (by kernel_rfl) (body := code) (by kernel_rfl) tys_ok (c := cfg) noCall_ok noW_ok (by kernel_rfl) (by kernel_rfl) (Nat.le_of_ble_eq_true (by kernel_rfl)) (Eq.trans ((e0 (n := 0))) h)
noncomputable def call {α : Type} (g : Ω (Int × Int)) (ds : List D) (K : List D→Ω α) : Ω α := match ds with
  | [] => (g).bind fun r => K (sg.enc r)
  | _ :: _ => none
theorem call_ok {α : Type} : COK Tryd.prog HW 75 (call (α := α) f) := fun _ _ _ h => by
  unfold call at h; split at h
  · exact cok h fun _ => ok
  · cases h
end soft_invalid
/-! ### soft_withSign: function 80 -/
namespace soft_withSign
noncomputable def b0 (a0 : Bool) (a1 : Int) : Ω (Int) := (if a0 = true then some (Go.bits .or .u64 a1 9223372036854775808) else some a1)
noncomputable def f (a0 : Bool) (a1 : Int) : Ω (Int) := b0 a0 a1
noncomputable def sg : Sig (Int) := s1 (sInt .u64)
noncomputable def code : Code := (Tryd.f80.body).getD .skip
noncomputable def cfg : Cfg (Int) := { T := tys, call := noCall }
noncomputable def cuts : List (Nat × List (Nat × Want)) := []
theorem e0 {n J a0 a1} : afun cfg J cuts n code Tryd.f80.results.toList [false] [.bool a0, .int .u64 a1] sg.out = b0 a0 a1 := by kernel_rfl
theorem ok {a0 a1 r} (h : f a0 a1 = some r) : CallD Tryd.prog HW 80 [.bool a0, .int .u64 a1] (sg.enc r) :=
  fun_some hwS Tryd.func80 (by kernel_rfl) (body := code) (by kernel_rfl) tys_ok (c := cfg) noCall_ok noW_ok (by kernel_rfl) (by kernel_rfl) (Nat.le_of_ble_eq_true (by kernel_rfl)) (Eq.trans ((e0 (n := 0))) h)
noncomputable def call {α : Type} (g : Bool→Int→Ω (Int)) (ds : List D) (K : List D→Ω α) : Ω α := match ds with
  | [.bool a0, .int .u64 a1] => (g a0 a1).bind fun r => K (sg.enc r)
  | _ => none
theorem call_ok {α : Type} : COK Tryd.prog HW 80 (call (α := α) f) := fun _ _ _ h => by
  unfold call at h; split at h
  · exact cok h fun _ => ok
  · cases h
end soft_withSign
/-! ### nat_FromUint: function 58 -/
namespace nat_FromUint
noncomputable def b0 (a0 : Int) : Ω (Λ) := (if a0 = 0 then some ([] : Λ) else some [a0])
noncomputable def f (a0 : Int) : Ω (Λ) := b0 a0
noncomputable def sg : Sig (Λ) := s1 (sRow .u64)
noncomputable def code : Code := (Tryd.f58.body).getD .skip
noncomputable def cfg : Cfg (Λ) := { T := tys, call := noCall }
noncomputable def cuts : List (Nat × List (Nat × Want)) := []
theorem e0 {n J a0} : afun cfg J cuts n code Tryd.f58.results.toList [false] [.int .u64 a0] sg.out = b0 a0 := by kernel_rfl
theorem ok {a0 r} (h : f a0 = some r) : CallD Tryd.prog HW 58 [.int .u64 a0] (sg.enc r) :=
  fun_some hwS Tryd.func58 (by kernel_rfl) (body := code) (by kernel_rfl) tys_ok (c := cfg) noCall_ok noW_ok (by kernel_rfl) (by kernel_rfl) (Nat.le_of_ble_eq_true (by kernel_rfl)) (Eq.trans ((e0 (n := 0))) h)
noncomputable def call {α : Type} (g : Int→Ω (Λ)) (ds : List D) (K : List D→Ω α) : Ω α := match ds with
  | [.int .u64 a0] => (g a0).bind fun r => K (sg.enc r)
  | _ => none
theorem call_ok {α : Type} : COK Tryd.prog HW 58 (call (α := α) f) := fun _ _ _ h => by
  unfold call at h; split at h
  · exact cok h fun _ => ok
  · cases h
end nat_FromUint
/-! ### nat_size: function 51 -/
namespace nat_size
noncomputable def b0 (k57 : Λ→Int→Ω (Int)) (l0 : Λ) : Ω (Int) := k57 l0 (ln l0)
noncomputable def b57 (k57 : Λ→Int→Ω (Int)) (x0 : Λ) (x1 : Int) : Ω (Int) := (if x1 > 0 then (if 0 ≤ (wrap64 (x1 - 1)) then (if (wrap64 (x1 - 1)) < (ln x0) then (if (rd x0 (wrap64 (x1 - 1))) = 0 then k57 x0 (wrap64 (x1 - 1)) else some x1) else none) else none) else some x1)
noncomputable def l57 (n : Nat) : Nat→Λ→Int→Ω (Int)
  | 0, _, _ => none
  | m + 1, x0, x1 => b57 (l57 n m) x0 x1
noncomputable def f (n : Nat) (l0 : Λ) : Ω (Int) := b0 (l57 n n) l0
noncomputable def sg : Sig (Int) := s1 (sInt .i64)
noncomputable def code : Code := (Tryd.f51.body).getD .skip
noncomputable def cfg : Cfg (Int) := { T := tys, call := noCall }
noncomputable def cuts : List (Nat × List (Nat × Want)) := [(57, [(0, .keep), (3, .keep)])]
noncomputable def s57 (x0 : Λ) (x1 : Int) : ASt := ⟨[(0, .ro .u64 x0), (3, .int .i64 x1)], []⟩
noncomputable def A (n : Nat) (J : Jt (Int)) (q : Nat) (ms : List Nat) : ASt→Ω (Int) := acont cfg J cuts n q code 1 ms (aend cfg Tryd.f51.results.toList [false] sg.out)
theorem e0 {n J l0} : afun cfg J cuts n code Tryd.f51.results.toList [false] [.ro .u64 l0] sg.out = b0 (fun y0 y1 => J 57 (A n J 57 [n]) (s57 y0 y1)) l0 := by kernel_rfl
theorem e57 {n J m x0 x1} : A n J 57 [m + 1] (s57 x0 x1) = b57 (fun y0 y1 => J 57 (A n J 57 [m]) (s57 y0 y1)) x0 x1 := by kernel_rfl
noncomputable abbrev I (n : Nat) := A n idJ
theorem q57 (n m) : ∀ x0 x1, I n 57 [m] (s57 x0 x1) = l57 n m x0 x1 := by
  induction m with
  | zero => intros; rfl
  | succ m ih =>
    intros
    exact e57.trans (Eq.trans (cf2 (congrArg b57 (fu2 (ih))) _ _) rfl)
theorem ok {n  l0 r} (h : f n l0 = some r) : CallD Tryd.prog HW 51 [.ro .u64 l0] (sg.enc r) :=
  fun_some hwS Tryd.func51 (by kernel_rfl) (body := code) (by kernel_rfl) tys_ok (c := cfg) noCall_ok noW_ok (by kernel_rfl) (by kernel_rfl) (Nat.le_of_ble_eq_true (by kernel_rfl)) (Eq.trans ((e0 (n := n)).trans (Eq.trans (cf1 (congrArg b0 (fu2 (q57 n n))) _) rfl)) h)
noncomputable def call {α : Type} (g : Λ→Ω (Int)) (ds : List D) (K : List D→Ω α) : Ω α := match ds with
  | [.ro .u64 l0] => (g l0).bind fun r => K (sg.enc r)
  | _ => none
theorem call_ok {α : Type} {n : Nat} : COK Tryd.prog HW 51 (call (α := α) (f n)) := fun _ _ _ h => by
  unfold call at h; split at h
  · exact cok h fun _ => ok
  · cases h
end nat_size
/-! ### nat_big: function 50 -/
namespace nat_big
noncomputable def b0 (c51 : Λ→Ω (Int)) (l0 : Λ) : Ω (Bool) := ((c51 l0).bind fun t1 => some (decide (t1 > 4096)))
noncomputable def f (n : Nat) (l0 : Λ) : Ω (Bool) := b0 (nat_size.f n) l0
noncomputable def sg : Sig (Bool) := s1 (sBool)
noncomputable def code : Code := (Tryd.f50.body).getD .skip
noncomputable def cfg (c51 : Λ→Ω (Int)) : Cfg (Bool) := { T := tys, call := orCall 51 (nat_size.call c51) (noCall) }
noncomputable def cuts : List (Nat × List (Nat × Want)) := []
theorem e0 {c51 n J l0} : afun (cfg c51) J cuts n code Tryd.f50.results.toList [false] [.ro .u64 l0] sg.out = b0 c51 l0 := by kernel_rfl
theorem ok {n  l0 r} (h : f n l0 = some r) : CallD Tryd.prog HW 50 [.ro .u64 l0] (sg.enc r) :=
  fun_some hwS Tryd.func50 (by kernel_rfl) (body := code) (by kernel_rfl) tys_ok (c := cfg (nat_size.f n)) (orCall_ok (nat_size.call_ok (n := n)) noCall_ok) noW_ok (by kernel_rfl) (by kernel_rfl) (Nat.le_of_ble_eq_true (by kernel_rfl)) (Eq.trans ((e0 (n := n))) h)
noncomputable def call {α : Type} (g : Λ→Ω (Bool)) (ds : List D) (K : List D→Ω α) : Ω α := match ds with
  | [.ro .u64 l0] => (g l0).bind fun r => K (sg.enc r)
  | _ => none
theorem call_ok {α : Type} {n : Nat} : COK Tryd.prog HW 50 (call (α := α) (f n)) := fun _ _ _ h => by
  unfold call at h; split at h
  · exact cok h fun _ => ok
  · cases h
end nat_big
/-! ### bits_Mul64: function 52 -/
namespace bits_Mul64
noncomputable def b0 (a0 a1 : Int) : Ω (Int × Int) := some (IntKind.u64.wrap ((IntKind.u64.wrap ((IntKind.u64.wrap ((a0 / 4294967296) * (a1 / 4294967296))) + ((IntKind.u64.wrap ((IntKind.u64.wrap ((a0 / 4294967296) * (Go.bits .and .u64 a1 4294967295))) + ((IntKind.u64.wrap ((Go.bits .and .u64 a0 4294967295) * (Go.bits .and .u64 a1 4294967295))) / 4294967296))) / 4294967296))) + ((IntKind.u64.wrap ((Go.bits .and .u64 (IntKind.u64.wrap ((IntKind.u64.wrap ((a0 / 4294967296) * (Go.bits .and .u64 a1 4294967295))) + ((IntKind.u64.wrap ((Go.bits .and .u64 a0 4294967295) * (Go.bits .and .u64 a1 4294967295))) / 4294967296))) 4294967295) + (IntKind.u64.wrap ((Go.bits .and .u64 a0 4294967295) * (a1 / 4294967296))))) / 4294967296)), IntKind.u64.wrap (a0 * a1))
noncomputable def f (a0 a1 : Int) : Ω (Int × Int) := b0 a0 a1
noncomputable def sg : Sig (Int × Int) := s2 (sInt .u64) (s1 (sInt .u64))
noncomputable def code : Code := (Tryd.f52.body).getD .skip
noncomputable def cfg : Cfg (Int × Int) := { T := tys, call := noCall }
noncomputable def cuts : List (Nat × List (Nat × Want)) := []
theorem e0 {n J a0 a1} : afun cfg J cuts n code Tryd.f52.results.toList [false, false] [.int .u64 a0, .int .u64 a1] sg.out = b0 a0 a1 := by kernel_rfl
theorem ok {a0 a1 r} (h : f a0 a1 = some r) : CallD Tryd.prog HW 52 [.int .u64 a0, .int .u64 a1] (sg.enc r) :=
  fun_some hwS Tryd.func52 (by kernel_rfl) (body := code) (by kernel_rfl) tys_ok (c := cfg) noCall_ok noW_ok (by kernel_rfl) (by kernel_rfl) (Nat.le_of_ble_eq_true (by kernel_rfl)) (Eq.trans ((e0 (n := 0))) h)
noncomputable def call {α : Type} (g : Int→Int→Ω (Int × Int)) (ds : List D) (K : List D→Ω α) : Ω α := match ds with
  | [.int .u64 a0, .int .u64 a1] => (g a0 a1).bind fun r => K (sg.enc r)
  | _ => none
theorem call_ok {α : Type} : COK Tryd.prog HW 52 (call (α := α) f) := fun _ _ _ h => by
  unfold call at h; split at h
  · exact cok h fun _ => ok
  · cases h
end bits_Mul64
/-! ### bits_Add64: function 53 -/
namespace bits_Add64
def f (a0 a1 a2 : Int) : Ω (Int × Int) := if 0 ≤ a0 ∧ 0 ≤ a1 ∧ 0 ≤ a2 ∧ a2 ≤ 1 then some ((a0 + a1 + a2) % 18446744073709551616, (a0 + a1 + a2) / 18446744073709551616) else none
def sg : Sig (Int × Int) := s2 (sInt .u64) (s1 (sInt .u64))
theorem ok {a0 a1 a2 : Int} {r : Int × Int} (h : f a0 a1 a2 = some r) : CallD Tryd.prog HW 53 [.int .u64 a0, .int .u64 a1, .int .u64 a2] (sg.enc r) := by
  unfold f at h
  split at h
  · rename_i hh
    obtain rfl := Option.some.inj h
    exact calld_scal rfl rfl fun w _ => .inr ⟨_, _, run_add64' Tryd.func53 (by kernel_rfl) (by kernel_rfl) (by kernel_rfl) (by kernel_rfl) a0 a1 a2 hh.1 hh.2.1 hh.2.2.1 hh.2.2.2 w, rfl, rfl⟩
  · cases h
noncomputable def call {α : Type} (g : Int→Int→Int→Ω (Int × Int)) (ds : List D) (K : List D→Ω α) : Ω α := match ds with
  | [.int .u64 a0, .int .u64 a1, .int .u64 a2] => (g a0 a1 a2).bind fun r => K (sg.enc r)
  | _ => none
theorem call_ok {α : Type} : COK Tryd.prog HW 53 (call (α := α) f) := fun _ _ _ h => by
  unfold call at h; split at h
  · exact cok h fun _ => ok
  · cases h
end bits_Add64
/-! ### nat_cut: function 54 -/
namespace nat_cut
noncomputable def b0 (c51 : Λ→Ω (Int)) (l0 : Λ) : Ω (Λ × Int) := ((c51 l0).bind fun t1 => (if t1 > 4096 then some (([] : Λ), 2) else (if 0 ≤ t1 then (if t1 ≤ t1 then (if t1 ≤ (ln l0) then ((some (l0.take t1.toNat) : Ω (Λ)).bind fun y2 => some (y2, 0)) else none) else none) else none)))
noncomputable def f (n : Nat) (l0 : Λ) : Ω (Λ × Int) := b0 (nat_size.f n) l0
noncomputable def sg : Sig (Λ × Int) := s2 (sRow .u64) (s1 (sInt .i64))
noncomputable def code : Code := (Tryd.f54.body).getD .skip
noncomputable def cfg (c51 : Λ→Ω (Int)) : Cfg (Λ × Int) := { T := tys, call := orCall 51 (nat_size.call c51) (noCall) }
noncomputable def cuts : List (Nat × List (Nat × Want)) := []
theorem e0 {c51 n J l0} : afun (cfg c51) J cuts n code Tryd.f54.results.toList [false, false] [.ro .u64 l0] sg.out = b0 c51 l0 := by kernel_rfl
theorem ok {n  l0 r} (h : f n l0 = some r) : CallD Tryd.prog HW 54 [.ro .u64 l0] (sg.enc r) :=
  fun_some hwS Tryd.func54 (by kernel_rfl) (body := code) (by kernel_rfl) tys_ok (c := cfg (nat_size.f n)) (orCall_ok (nat_size.call_ok (n := n)) noCall_ok) noW_ok (by kernel_rfl) (by kernel_rfl) (Nat.le_of_ble_eq_true (by kernel_rfl)) (Eq.trans ((e0 (n := n))) h)
noncomputable def call {α : Type} (g : Λ→Ω (Λ × Int)) (ds : List D) (K : List D→Ω α) : Ω α := match ds with
  | [.ro .u64 l0] => (g l0).bind fun r => K (sg.enc r)
  | _ => none
theorem call_ok {α : Type} {n : Nat} : COK Tryd.prog HW 54 (call (α := α) (f n)) := fun _ _ _ h => by
  unfold call at h; split at h
  · exact cok h fun _ => ok
  · cases h
end nat_cut
/-! ### nat_Mul: function 19 -/
namespace nat_Mul
noncomputable def b0 (c50 : Λ→Ω (Bool)) (c51 : Λ→Ω (Int)) (c52 : Int→Int→Ω (Int × Int)) (c53 : Int→Int→Int→Ω (Int × Int)) (c54 : Λ→Ω (Λ × Int)) (k2037 : Λ→Λ→Int→Int→Λ→Ω (Λ × Int)) (l0 l1 : Λ) : Ω (Λ × Int) := ((c50 l0).bind fun t1 => (if t1 = true then some (([] : Λ), 2) else ((c50 l1).bind fun t2 => (if t2 = true then some (([] : Λ), 2) else ((c51 l0).bind fun t3 => (if 0 ≤ t3 then (if t3 ≤ (ln l0) then ((some (l0.take t3.toNat) : Ω (Λ)).bind fun y4 => ((c51 l1).bind fun t5 => (if 0 ≤ t5 then (if t5 ≤ (ln l1) then ((some (l1.take t5.toNat) : Ω (Λ)).bind fun y6 => (if (ln y4) = 0 then some (([] : Λ), 0) else (if (ln y6) = 0 then some (([] : Λ), 0) else (if (wrap64 ((wrap64 ((ln y4) + (ln y6))) - 1)) > 4096 then some (([] : Λ), 2) else (if 0 ≤ (wrap64 ((ln y4) + (ln y6))) then (if (wrap64 ((ln y4) + (ln y6))).toNat ≤ 35184372088832 then k2037 y6 y4 (ln y4) 0 (List.replicate (wrap64 ((ln y4) + (ln y6))).toNat (0 : Int)) else none) else none))))) else none) else none))) else none) else none))))))
noncomputable def b255 (c50 : Λ→Ω (Bool)) (c51 : Λ→Ω (Int)) (c52 : Int→Int→Ω (Int × Int)) (c53 : Int→Int→Int→Ω (Int × Int)) (c54 : Λ→Ω (Λ × Int)) (x0 : Λ) : Ω (Λ × Int) := ((c54 x0).bind fun t1 => some (t1.1, t1.2))
noncomputable def b2037 (c50 : Λ→Ω (Bool)) (c51 : Λ→Ω (Int)) (c52 : Int→Int→Ω (Int × Int)) (c53 : Int→Int→Int→Ω (Int × Int)) (c54 : Λ→Ω (Λ × Int)) (k255 : Λ→Ω (Λ × Int)) (k2085685 : Λ→Int→Int→Int→Int→Λ→Int→Int→Λ→Ω (Λ × Int)) (x0 x1 : Λ) (x2 x3 : Int) (x4 : Λ) : Ω (Λ × Int) := (if x3 < x2 then (if 0 ≤ x3 then (if x3 < (ln x1) then k2085685 x0 x3 0 0 (rd x1 x3) x1 x2 (ln x0) x4 else none) else none) else k255 x4)
noncomputable def b260711 (c50 : Λ→Ω (Bool)) (c51 : Λ→Ω (Int)) (c52 : Int→Int→Ω (Int × Int)) (c53 : Int→Int→Int→Ω (Int × Int)) (c54 : Λ→Ω (Λ × Int)) (k2037 : Λ→Λ→Int→Int→Λ→Ω (Λ × Int)) (x0 : Λ) (x1 x2 : Int) (x3 : Λ) (x4 : Int) (x5 : Λ) : Ω (Λ × Int) := (if 0 ≤ (wrap64 (x1 + (ln x0))) then (if (wrap64 (x1 + (ln x0))) < (ln x5) then k2037 x0 x3 x4 (wrap64 (x1 + 1)) (x5.set (wrap64 (x1 + (ln x0)) : Int).toNat x2) else none) else none)
noncomputable def b2085685 (c50 : Λ→Ω (Bool)) (c51 : Λ→Ω (Int)) (c52 : Int→Int→Ω (Int × Int)) (c53 : Int→Int→Int→Ω (Int × Int)) (c54 : Λ→Ω (Λ × Int)) (k260711 : Λ→Int→Int→Λ→Int→Λ→Ω (Λ × Int)) (k2085685 : Λ→Int→Int→Int→Int→Λ→Int→Int→Λ→Ω (Λ × Int)) (x0 : Λ) (x1 x2 x3 x4 : Int) (x5 : Λ) (x6 x7 : Int) (x8 : Λ) : Ω (Λ × Int) := (if x3 < x7 then (if 0 ≤ x3 then (if x3 < (ln x0) then ((c52 x4 (rd x0 x3)).bind fun t1 => (if 0 ≤ (wrap64 (x1 + x3)) then (if (wrap64 (x1 + x3)) < (ln x8) then ((c53 t1.2 (rd x8 (wrap64 (x1 + x3))) 0).bind fun t2 => ((c53 t2.1 x2 0).bind fun t3 => (if 0 ≤ (wrap64 (x1 + x3)) then (if (wrap64 (x1 + x3)) < (ln x8) then k2085685 x0 x1 (IntKind.u64.wrap ((IntKind.u64.wrap (t1.1 + t2.2)) + t3.2)) (wrap64 (x3 + 1)) x4 x5 x6 x7 (x8.set (wrap64 (x1 + x3) : Int).toNat t3.1) else none) else none))) else none) else none)) else none) else none) else k260711 x0 x1 x2 x5 x6 x8)
noncomputable def l255 (n : Nat) (x0 : Λ) : Ω (Λ × Int) := b255 (nat_big.f n) (nat_size.f n) bits_Mul64.f bits_Add64.f (nat_cut.f n) x0
noncomputable def l260711 (n : Nat) (k2037 : Λ→Λ→Int→Int→Λ→Ω (Λ × Int)) (x0 : Λ) (x1 x2 : Int) (x3 : Λ) (x4 : Int) (x5 : Λ) : Ω (Λ × Int) := b260711 (nat_big.f n) (nat_size.f n) bits_Mul64.f bits_Add64.f (nat_cut.f n) k2037 x0 x1 x2 x3 x4 x5
noncomputable def l2085685 (n : Nat) (k2037 : Λ→Λ→Int→Int→Λ→Ω (Λ × Int)) : Nat→Λ→Int→Int→Int→Int→Λ→Int→Int→Λ→Ω (Λ × Int)
  | 0, _, _, _, _, _, _, _, _, _ => none
  | m + 1, x0, x1, x2, x3, x4, x5, x6, x7, x8 => b2085685 (nat_big.f n) (nat_size.f n) bits_Mul64.f bits_Add64.f (nat_cut.f n) (l260711 n k2037) (l2085685 n k2037 m) x0 x1 x2 x3 x4 x5 x6 x7 x8
noncomputable def l2037 (n : Nat) : Nat→Λ→Λ→Int→Int→Λ→Ω (Λ × Int)
  | 0, _, _, _, _, _ => none
  | m + 1, x0, x1, x2, x3, x4 => b2037 (nat_big.f n) (nat_size.f n) bits_Mul64.f bits_Add64.f (nat_cut.f n) (l255 n) (l2085685 n (l2037 n m) n) x0 x1 x2 x3 x4
noncomputable def f (n : Nat) (l0 l1 : Λ) : Ω (Λ × Int) := b0 (nat_big.f n) (nat_size.f n) bits_Mul64.f bits_Add64.f (nat_cut.f n) (l2037 n n) l0 l1
noncomputable def sg : Sig (Λ × Int) := s2 (sRow .u64) (s1 (sInt .i64))
noncomputable def code : Code := (Tryd.f19.body).getD .skip
noncomputable def cfg (c50 : Λ→Ω (Bool)) (c51 : Λ→Ω (Int)) (c52 : Int→Int→Ω (Int × Int)) (c53 : Int→Int→Int→Ω (Int × Int)) (c54 : Λ→Ω (Λ × Int)) : Cfg (Λ × Int) := { T := tys, call := orCall 50 (nat_big.call c50) (orCall 51 (nat_size.call c51) (orCall 52 (bits_Mul64.call c52) (orCall 53 (bits_Add64.call c53) (orCall 54 (nat_cut.call c54) (noCall))))) }
noncomputable def cuts : List (Nat × List (Nat × Want)) := [(255, [(6, .keep)]), (2037, [(1, .keep), (6, .keep), (50, .keep), (51, .keep), (52, .keep)]), (260711, [(1, .keep), (6, .keep), (7, .keep), (9, .keep), (50, .keep), (51, .keep), (52, .keep)]), (2085685, [(1, .keep), (6, .keep), (7, .keep), (8, .keep), (9, .keep), (50, .keep), (51, .keep), (52, .keep), (57, .keep), (58, .keep), (59, .keep)])]
noncomputable def s255 (x0 : Λ) : ASt := ⟨[(6, .own 0)], [.ints 22 .u64 x0]⟩
noncomputable def s2037 (x0 x1 : Λ) (x2 x3 : Int) (x4 : Λ) : ASt := ⟨[(1, .ro .u64 x0), (6, .own 0), (50, .ro .u64 x1), (51, .int .i64 x2), (52, .int .i64 x3)], [.ints 22 .u64 x4]⟩
noncomputable def s260711 (x0 : Λ) (x1 x2 : Int) (x3 : Λ) (x4 : Int) (x5 : Λ) : ASt := ⟨[(1, .ro .u64 x0), (6, .own 0), (7, .int .i64 x1), (9, .int .u64 x2), (50, .ro .u64 x3), (51, .int .i64 x4), (52, .int .i64 x1)], [.ints 22 .u64 x5]⟩
noncomputable def s2085685 (x0 : Λ) (x1 x2 x3 x4 : Int) (x5 : Λ) (x6 x7 : Int) (x8 : Λ) : ASt := ⟨[(1, .ro .u64 x0), (6, .own 0), (7, .int .i64 x1), (8, .int .u64 x4), (9, .int .u64 x2), (50, .ro .u64 x5), (51, .int .i64 x6), (52, .int .i64 x1), (57, .ro .u64 x0), (58, .int .i64 x7), (59, .int .i64 x3)], [.ints 22 .u64 x8]⟩
noncomputable def A (c50 : Λ→Ω (Bool)) (c51 : Λ→Ω (Int)) (c52 : Int→Int→Ω (Int × Int)) (c53 : Int→Int→Int→Ω (Int × Int)) (c54 : Λ→Ω (Λ × Int)) (n : Nat) (J : Jt (Λ × Int)) (q : Nat) (ms : List Nat) : ASt→Ω (Λ × Int) := acont (cfg c50 c51 c52 c53 c54) J cuts n q code 1 ms (aend (cfg c50 c51 c52 c53 c54) Tryd.f19.results.toList [false, false] sg.out)
theorem e0 {c50 c51 c52 c53 c54 n J l0 l1} : afun (cfg c50 c51 c52 c53 c54) J cuts n code Tryd.f19.results.toList [false, false] [.ro .u64 l0, .ro .u64 l1] sg.out = b0 c50 c51 c52 c53 c54 (fun y0 y1 y2 y3 y4 => J 2037 (A c50 c51 c52 c53 c54 n J 2037 [n]) (s2037 y0 y1 y2 y3 y4)) l0 l1 := by kernel_rfl
theorem e255 {c50 c51 c52 c53 c54 n J x0} : A c50 c51 c52 c53 c54 n J 255 [] (s255 x0) = b255 c50 c51 c52 c53 c54 x0 := by kernel_rfl
theorem e2037 {c50 c51 c52 c53 c54 n J m x0 x1 x2 x3 x4} : A c50 c51 c52 c53 c54 n J 2037 [m + 1] (s2037 x0 x1 x2 x3 x4) = b2037 c50 c51 c52 c53 c54 (fun y0 => J 255 (A c50 c51 c52 c53 c54 n J 255 []) (s255 y0)) (fun y0 y1 y2 y3 y4 y5 y6 y7 y8 => J 2085685 (A c50 c51 c52 c53 c54 n J 2085685 [m, n]) (s2085685 y0 y1 y2 y3 y4 y5 y6 y7 y8)) x0 x1 x2 x3 x4 := by kernel_rfl
theorem e260711 {c50 c51 c52 c53 c54 n J m2037 x0 x1 x2 x3 x4 x5} : A c50 c51 c52 c53 c54 n J 260711 [m2037] (s260711 x0 x1 x2 x3 x4 x5) = b260711 c50 c51 c52 c53 c54 (fun y0 y1 y2 y3 y4 => J 2037 (A c50 c51 c52 c53 c54 n J 2037 [m2037]) (s2037 y0 y1 y2 y3 y4)) x0 x1 x2 x3 x4 x5 := by kernel_rfl
theorem e2085685 {c50 c51 c52 c53 c54 n J m2037 m x0 x1 x2 x3 x4 x5 x6 x7 x8} : A c50 c51 c52 c53 c54 n J 2085685 [m2037, m + 1] (s2085685 x0 x1 x2 x3 x4 x5 x6 x7 x8) = b2085685 c50 c51 c52 c53 c54 (fun y0 y1 y2 y3 y4 y5 => J 260711 (A c50 c51 c52 c53 c54 n J 260711 [m2037]) (s260711 y0 y1 y2 y3 y4 y5)) (fun y0 y1 y2 y3 y4 y5 y6 y7 y8 => J 2085685 (A c50 c51 c52 c53 c54 n J 2085685 [m2037, m]) (s2085685 y0 y1 y2 y3 y4 y5 y6 y7 y8)) x0 x1 x2 x3 x4 x5 x6 x7 x8 := by kernel_rfl
noncomputable abbrev I (n : Nat) := A (nat_big.f n) (nat_size.f n) bits_Mul64.f bits_Add64.f (nat_cut.f n) n idJ
theorem q255 (n x0) : I n 255 [] (s255 x0) = l255 n x0 := e255
theorem q260711 (n m2037 x0 x1 x2 x3 x4 x5) : I n 260711 [m2037] (s260711 x0 x1 x2 x3 x4 x5) = l260711 n (fun y0 y1 y2 y3 y4 => I n 2037 [m2037] (s2037 y0 y1 y2 y3 y4)) x0 x1 x2 x3 x4 x5 := e260711
theorem q2085685 (n m2037 m) : ∀ x0 x1 x2 x3 x4 x5 x6 x7 x8, I n 2085685 [m2037, m] (s2085685 x0 x1 x2 x3 x4 x5 x6 x7 x8) = l2085685 n (fun y0 y1 y2 y3 y4 => I n 2037 [m2037] (s2037 y0 y1 y2 y3 y4)) m x0 x1 x2 x3 x4 x5 x6 x7 x8 := by
  induction m with
  | zero => intros; rfl
  | succ m ih =>
    intros
    exact e2085685.trans (Eq.trans (cf9 (congr (congrArg (b2085685 _ _ _ _ _) (fu6 (q260711 n m2037))) (fu9 (ih))) _ _ _ _ _ _ _ _ _) rfl)
theorem q2037 (n m) : ∀ x0 x1 x2 x3 x4, I n 2037 [m] (s2037 x0 x1 x2 x3 x4) = l2037 n m x0 x1 x2 x3 x4 := by
  induction m with
  | zero => intros; rfl
  | succ m ih =>
    intros
    exact e2037.trans (Eq.trans (cf5 (congr (congrArg (b2037 _ _ _ _ _) (fu1 (q255 n))) ((fu9 (q2085685 n m n)).trans (by rw [show (fun y0 y1 y2 y3 y4 => I n 2037 [m] (s2037 y0 y1 y2 y3 y4)) = _ from (fu5 (ih))]))) _ _ _ _ _) rfl)
theorem ok {n  l0 l1 r} (h : f n l0 l1 = some r) : CallD Tryd.prog HW 19 [.ro .u64 l0, .ro .u64 l1] (sg.enc r) :=
  fun_some hwS Tryd.func19 (by kernel_rfl) (body := code) (by kernel_rfl) tys_ok (c := cfg (nat_big.f n) (nat_size.f n) bits_Mul64.f bits_Add64.f (nat_cut.f n)) (orCall_ok (nat_big.call_ok (n := n)) (orCall_ok (nat_size.call_ok (n := n)) (orCall_ok bits_Mul64.call_ok (orCall_ok bits_Add64.call_ok (orCall_ok (nat_cut.call_ok (n := n)) noCall_ok))))) noW_ok (by kernel_rfl) (by kernel_rfl) (Nat.le_of_ble_eq_true (by kernel_rfl)) (Eq.trans ((e0 (n := n)).trans (Eq.trans (cf2 (congrArg (b0 _ _ _ _ _) (fu5 (q2037 n n))) _ _) rfl)) h)
noncomputable def call {α : Type} (g : Λ→Λ→Ω (Λ × Int)) (ds : List D) (K : List D→Ω α) : Ω α := match ds with
  | [.ro .u64 l0, .ro .u64 l1] => (g l0 l1).bind fun r => K (sg.enc r)
  | _ => none
theorem call_ok {α : Type} {n : Nat} : COK Tryd.prog HW 19 (call (α := α) (f n)) := fun _ _ _ h => by
  unfold call at h; split at h
  · exact cok h fun _ => ok
  · cases h
end nat_Mul
/-! ### soft_product: function 81 -/
namespace soft_product
noncomputable def b0 (c19 : Λ→Λ→Ω (Λ × Int)) (c58 : Int→Ω (Λ)) (a0 : Bool) (a1 a2 a3 : Int) (a4 : Bool) (a5 a6 a7 : Int) : Ω (Bool × Λ × Int) := ((c58 a2).bind fun t1 => ((c58 a6).bind fun t2 => ((c19 t1 t2).bind fun t3 => some (a0 != a4, t3.1, wrap64 (a3 + a7)))))
noncomputable def f (n : Nat) (a0 : Bool) (a1 a2 a3 : Int) (a4 : Bool) (a5 a6 a7 : Int) : Ω (Bool × Λ × Int) := b0 (nat_Mul.f n) nat_FromUint.f a0 a1 a2 a3 a4 a5 a6 a7
noncomputable def sg : Sig (Bool × Λ × Int) := s1 (sAgg (s2 (sBool) (s2 (sRow .u64) (s1 (sInt .i64)))))
noncomputable def code : Code := (Tryd.f81.body).getD .skip
noncomputable def cfg (c19 : Λ→Λ→Ω (Λ × Int)) (c58 : Int→Ω (Λ)) : Cfg (Bool × Λ × Int) := { T := tys, call := orCall 19 (nat_Mul.call c19) (orCall 58 (nat_FromUint.call c58) (noCall)) }
noncomputable def cuts : List (Nat × List (Nat × Want)) := []
theorem e0 {c19 c58 n J a0 a1 a2 a3 a4 a5 a6 a7} : afun (cfg c19 c58) J cuts n code Tryd.f81.results.toList [false] [.agg [.bool a0, .int .i64 a1, .int .u64 a2, .int .i64 a3], .agg [.bool a4, .int .i64 a5, .int .u64 a6, .int .i64 a7]] sg.out = b0 c19 c58 a0 a1 a2 a3 a4 a5 a6 a7 := by kernel_rfl
theorem ok {n  a0 a1 a2 a3 a4 a5 a6 a7 r} (h : f n a0 a1 a2 a3 a4 a5 a6 a7 = some r) : CallD Tryd.prog HW 81 [.agg [.bool a0, .int .i64 a1, .int .u64 a2, .int .i64 a3], .agg [.bool a4, .int .i64 a5, .int .u64 a6, .int .i64 a7]] (sg.enc r) :=
  fun_some hwS Tryd.func81 (by kernel_rfl) (body := code) (by kernel_rfl) tys_ok (c := cfg (nat_Mul.f n) nat_FromUint.f) (orCall_ok (nat_Mul.call_ok (n := n)) (orCall_ok nat_FromUint.call_ok noCall_ok)) noW_ok (by kernel_rfl) (by kernel_rfl) (Nat.le_of_ble_eq_true (by kernel_rfl)) (Eq.trans ((e0 (n := n))) h)
noncomputable def call {α : Type} (g : Bool→Int→Int→Int→Bool→Int→Int→Int→Ω (Bool × Λ × Int)) (ds : List D) (K : List D→Ω α) : Ω α := match ds with
  | [.agg [.bool a0, .int .i64 a1, .int .u64 a2, .int .i64 a3], .agg [.bool a4, .int .i64 a5, .int .u64 a6, .int .i64 a7]] => (g a0 a1 a2 a3 a4 a5 a6 a7).bind fun r => K (sg.enc r)
  | _ => none
theorem call_ok {α : Type} {n : Nat} : COK Tryd.prog HW 81 (call (α := α) (f n)) := fun _ _ _ h => by
  unfold call at h; split at h
  · exact cok h fun _ => ok
  · cases h
end soft_product
/-! ### soft_termOf: function 76 -/
namespace soft_termOf
noncomputable def b0 (c58 : Int→Ω (Λ)) (a0 : Bool) (a1 a2 a3 : Int) : Ω (Bool × Λ × Int) := ((c58 a2).bind fun t1 => some (a0, t1, a3))
noncomputable def f (a0 : Bool) (a1 a2 a3 : Int) : Ω (Bool × Λ × Int) := b0 nat_FromUint.f a0 a1 a2 a3
noncomputable def sg : Sig (Bool × Λ × Int) := s1 (sAgg (s2 (sBool) (s2 (sRow .u64) (s1 (sInt .i64)))))
noncomputable def code : Code := (Tryd.f76.body).getD .skip
noncomputable def cfg (c58 : Int→Ω (Λ)) : Cfg (Bool × Λ × Int) := { T := tys, call := orCall 58 (nat_FromUint.call c58) (noCall) }
noncomputable def cuts : List (Nat × List (Nat × Want)) := []
theorem e0 {c58 n J a0 a1 a2 a3} : afun (cfg c58) J cuts n code Tryd.f76.results.toList [false] [.agg [.bool a0, .int .i64 a1, .int .u64 a2, .int .i64 a3]] sg.out = b0 c58 a0 a1 a2 a3 := by kernel_rfl
theorem ok {a0 a1 a2 a3 r} (h : f a0 a1 a2 a3 = some r) : CallD Tryd.prog HW 76 [.agg [.bool a0, .int .i64 a1, .int .u64 a2, .int .i64 a3]] (sg.enc r) :=
  fun_some hwS Tryd.func76 (by kernel_rfl) (body := code) (by kernel_rfl) tys_ok (c := cfg nat_FromUint.f) (orCall_ok nat_FromUint.call_ok noCall_ok) noW_ok (by kernel_rfl) (by kernel_rfl) (Nat.le_of_ble_eq_true (by kernel_rfl)) (Eq.trans ((e0 (n := 0))) h)
noncomputable def call {α : Type} (g : Bool→Int→Int→Int→Ω (Bool × Λ × Int)) (ds : List D) (K : List D→Ω α) : Ω α := match ds with
  | [.agg [.bool a0, .int .i64 a1, .int .u64 a2, .int .i64 a3]] => (g a0 a1 a2 a3).bind fun r => K (sg.enc r)
  | _ => none
theorem call_ok {α : Type} : COK Tryd.prog HW 76 (call (α := α) f) := fun _ _ _ h => by
  unfold call at h; split at h
  · exact cok h fun _ => ok
  · cases h
end soft_termOf
/-! ### nat_Shl: function 59 -/
namespace nat_Shl
noncomputable def b0 (c50 : Λ→Ω (Bool)) (c51 : Λ→Ω (Int)) (c52 : Int→Int→Ω (Int × Int)) (c54 : Λ→Ω (Λ × Int)) (k8181 : Int→Int→Λ→Int→Int→Λ→Ω (Λ × Int)) (l0 : Λ) (a1 : Int) : Ω (Λ × Int) := ((c50 l0).bind fun t1 => (if t1 = true then some (([] : Λ), 2) else (if a1 < 0 then some (([] : Λ), 1) else ((c51 l0).bind fun t2 => (if 0 ≤ t2 then (if t2 ≤ (ln l0) then ((some (l0.take t2.toNat) : Ω (Λ)).bind fun y3 => (if (ln y3) = 0 then some (([] : Λ), 0) else (if a1 > 262144 then some (([] : Λ), 2) else (if 0 ≤ (wrap64 ((wrap64 ((wrap64 (Int.tdiv a1 64)) + (ln y3))) + 1)) then (if (wrap64 ((wrap64 ((wrap64 (Int.tdiv a1 64)) + (ln y3))) + 1)).toNat ≤ 35184372088832 then k8181 (wrap64 (Int.tdiv a1 64)) (IntKind.u64.wrap (Int.tmod a1 64)) y3 (ln y3) 0 (List.replicate (wrap64 ((wrap64 ((wrap64 (Int.tdiv a1 64)) + (ln y3))) + 1)).toNat (0 : Int)) else none) else none)))) else none) else none)))))
noncomputable def b1023 (c50 : Λ→Ω (Bool)) (c51 : Λ→Ω (Int)) (c52 : Int→Int→Ω (Int × Int)) (c54 : Λ→Ω (Λ × Int)) (x0 : Λ) : Ω (Λ × Int) := ((c54 x0).bind fun t1 => some (t1.1, t1.2))
noncomputable def b8181 (c50 : Λ→Ω (Bool)) (c51 : Λ→Ω (Int)) (c52 : Int→Int→Ω (Int × Int)) (c54 : Λ→Ω (Λ × Int)) (k1023 : Λ→Ω (Λ × Int)) (k8181 : Int→Int→Λ→Int→Int→Λ→Ω (Λ × Int)) (x0 x1 : Int) (x2 : Λ) (x3 x4 : Int) (x5 : Λ) : Ω (Λ × Int) := (if x4 < x3 then (if 0 ≤ x4 then (if x4 < (ln x2) then (if 0 ≤ x1 then ((c52 (rd x2 x4) (shl .u64 1 x1)).bind fun t1 => (if 0 ≤ (wrap64 (x0 + x4)) then (if (wrap64 (x0 + x4)) < (ln x5) then (if 0 ≤ (wrap64 (x0 + x4)) then (if (wrap64 (x0 + x4)) < (ln x5) then (if 0 ≤ (wrap64 ((wrap64 (x0 + x4)) + 1)) then (if (wrap64 ((wrap64 (x0 + x4)) + 1)) < (ln (x5.set (wrap64 (x0 + x4) : Int).toNat (Go.bits .or .u64 (rd x5 (wrap64 (x0 + x4))) t1.2))) then k8181 x0 x1 x2 x3 (wrap64 (x4 + 1)) ((x5.set (wrap64 (x0 + x4) : Int).toNat (Go.bits .or .u64 (rd x5 (wrap64 (x0 + x4))) t1.2)).set (wrap64 ((wrap64 (x0 + x4)) + 1) : Int).toNat t1.1) else none) else none) else none) else none) else none) else none)) else none) else none) else none) else k1023 x5)
noncomputable def l1023 (n : Nat) (x0 : Λ) : Ω (Λ × Int) := b1023 (nat_big.f n) (nat_size.f n) bits_Mul64.f (nat_cut.f n) x0
noncomputable def l8181 (n : Nat) : Nat→Int→Int→Λ→Int→Int→Λ→Ω (Λ × Int)
  | 0, _, _, _, _, _, _ => none
  | m + 1, x0, x1, x2, x3, x4, x5 => b8181 (nat_big.f n) (nat_size.f n) bits_Mul64.f (nat_cut.f n) (l1023 n) (l8181 n m) x0 x1 x2 x3 x4 x5
noncomputable def f (n : Nat) (l0 : Λ) (a1 : Int) : Ω (Λ × Int) := b0 (nat_big.f n) (nat_size.f n) bits_Mul64.f (nat_cut.f n) (l8181 n n) l0 a1
noncomputable def sg : Sig (Λ × Int) := s2 (sRow .u64) (s1 (sInt .i64))
noncomputable def code : Code := (Tryd.f59.body).getD .skip
noncomputable def cfg (c50 : Λ→Ω (Bool)) (c51 : Λ→Ω (Int)) (c52 : Int→Int→Ω (Int × Int)) (c54 : Λ→Ω (Λ × Int)) : Cfg (Λ × Int) := { T := tys, call := orCall 50 (nat_big.call c50) (orCall 51 (nat_size.call c51) (orCall 52 (bits_Mul64.call c52) (orCall 54 (nat_cut.call c54) (noCall)))) }
noncomputable def cuts : List (Nat × List (Nat × Want)) := [(1023, [(8, .keep)]), (8181, [(6, .keep), (7, .keep), (8, .keep), (37, .keep), (38, .keep), (39, .keep)])]
noncomputable def s1023 (x0 : Λ) : ASt := ⟨[(8, .own 0)], [.ints 22 .u64 x0]⟩
noncomputable def s8181 (x0 x1 : Int) (x2 : Λ) (x3 x4 : Int) (x5 : Λ) : ASt := ⟨[(6, .int .i64 x0), (7, .int .u64 x1), (8, .own 0), (37, .ro .u64 x2), (38, .int .i64 x3), (39, .int .i64 x4)], [.ints 22 .u64 x5]⟩
noncomputable def A (c50 : Λ→Ω (Bool)) (c51 : Λ→Ω (Int)) (c52 : Int→Int→Ω (Int × Int)) (c54 : Λ→Ω (Λ × Int)) (n : Nat) (J : Jt (Λ × Int)) (q : Nat) (ms : List Nat) : ASt→Ω (Λ × Int) := acont (cfg c50 c51 c52 c54) J cuts n q code 1 ms (aend (cfg c50 c51 c52 c54) Tryd.f59.results.toList [false, false] sg.out)
theorem e0 {c50 c51 c52 c54 n J l0 a1} : afun (cfg c50 c51 c52 c54) J cuts n code Tryd.f59.results.toList [false, false] [.ro .u64 l0, .int .i64 a1] sg.out = b0 c50 c51 c52 c54 (fun y0 y1 y2 y3 y4 y5 => J 8181 (A c50 c51 c52 c54 n J 8181 [n]) (s8181 y0 y1 y2 y3 y4 y5)) l0 a1 := by kernel_rfl
theorem e1023 {c50 c51 c52 c54 n J x0} : A c50 c51 c52 c54 n J 1023 [] (s1023 x0) = b1023 c50 c51 c52 c54 x0 := by kernel_rfl
theorem e8181 {c50 c51 c52 c54 n J m x0 x1 x2 x3 x4 x5} : A c50 c51 c52 c54 n J 8181 [m + 1] (s8181 x0 x1 x2 x3 x4 x5) = b8181 c50 c51 c52 c54 (fun y0 => J 1023 (A c50 c51 c52 c54 n J 1023 []) (s1023 y0)) (fun y0 y1 y2 y3 y4 y5 => J 8181 (A c50 c51 c52 c54 n J 8181 [m]) (s8181 y0 y1 y2 y3 y4 y5)) x0 x1 x2 x3 x4 x5 := by kernel_rfl
noncomputable abbrev I (n : Nat) := A (nat_big.f n) (nat_size.f n) bits_Mul64.f (nat_cut.f n) n idJ
theorem q1023 (n x0) : I n 1023 [] (s1023 x0) = l1023 n x0 := e1023
theorem q8181 (n m) : ∀ x0 x1 x2 x3 x4 x5, I n 8181 [m] (s8181 x0 x1 x2 x3 x4 x5) = l8181 n m x0 x1 x2 x3 x4 x5 := by
  induction m with
  | zero => intros; rfl
  | succ m ih =>
    intros
    exact e8181.trans (Eq.trans (cf6 (congr (congrArg (b8181 _ _ _ _) (fu1 (q1023 n))) (fu6 (ih))) _ _ _ _ _ _) rfl)
theorem ok {n  l0 a1 r} (h : f n l0 a1 = some r) : CallD Tryd.prog HW 59 [.ro .u64 l0, .int .i64 a1] (sg.enc r) :=
  fun_some hwS Tryd.func59 (by kernel_rfl) (body := code) (by kernel_rfl) tys_ok (c := cfg (nat_big.f n) (nat_size.f n) bits_Mul64.f (nat_cut.f n)) (orCall_ok (nat_big.call_ok (n := n)) (orCall_ok (nat_size.call_ok (n := n)) (orCall_ok bits_Mul64.call_ok (orCall_ok (nat_cut.call_ok (n := n)) noCall_ok)))) noW_ok (by kernel_rfl) (by kernel_rfl) (Nat.le_of_ble_eq_true (by kernel_rfl)) (Eq.trans ((e0 (n := n)).trans (Eq.trans (cf2 (congrArg (b0 _ _ _ _) (fu6 (q8181 n n))) _ _) rfl)) h)
noncomputable def call {α : Type} (g : Λ→Int→Ω (Λ × Int)) (ds : List D) (K : List D→Ω α) : Ω α := match ds with
  | [.ro .u64 l0, .int .i64 a1] => (g l0 a1).bind fun r => K (sg.enc r)
  | _ => none
theorem call_ok {α : Type} {n : Nat} : COK Tryd.prog HW 59 (call (α := α) (f n)) := fun _ _ _ h => by
  unfold call at h; split at h
  · exact cok h fun _ => ok
  · cases h
end nat_Shl
/-! ### soft_aligned: function 95 -/
namespace soft_aligned
noncomputable def b0 (c59 : Λ→Int→Ω (Λ × Int)) (l0 : Λ) (a1 : Int) (l2 : Λ) (a3 : Int) : Ω (Λ × Λ × Int) := (if a1 > a3 then ((c59 l0 (wrap64 (a1 - a3))).bind fun t1 => some (t1.1, l2, a3)) else ((c59 l2 (wrap64 (a3 - a1))).bind fun t2 => some (l0, t2.1, a1)))
noncomputable def f (n : Nat) (l0 : Λ) (a1 : Int) (l2 : Λ) (a3 : Int) : Ω (Λ × Λ × Int) := b0 (nat_Shl.f n) l0 a1 l2 a3
noncomputable def sg : Sig (Λ × Λ × Int) := s2 (sRow .u64) (s2 (sRow .u64) (s1 (sInt .i64)))
noncomputable def code : Code := (Tryd.f95.body).getD .skip
noncomputable def cfg (c59 : Λ→Int→Ω (Λ × Int)) : Cfg (Λ × Λ × Int) := { T := tys, call := orCall 59 (nat_Shl.call c59) (noCall) }
noncomputable def cuts : List (Nat × List (Nat × Want)) := []
theorem e0 {c59 n J l0 a1 l2 a3} : afun (cfg c59) J cuts n code Tryd.f95.results.toList [false, false, false] [.ro .u64 l0, .int .i64 a1, .ro .u64 l2, .int .i64 a3] sg.out = b0 c59 l0 a1 l2 a3 := by kernel_rfl
theorem ok {n  l0 a1 l2 a3 r} (h : f n l0 a1 l2 a3 = some r) : CallD Tryd.prog HW 95 [.ro .u64 l0, .int .i64 a1, .ro .u64 l2, .int .i64 a3] (sg.enc r) :=
  fun_some hwS Tryd.func95 (by kernel_rfl) (body := code) (by kernel_rfl) tys_ok (c := cfg (nat_Shl.f n)) (orCall_ok (nat_Shl.call_ok (n := n)) noCall_ok) noW_ok (by kernel_rfl) (by kernel_rfl) (Nat.le_of_ble_eq_true (by kernel_rfl)) (Eq.trans ((e0 (n := n))) h)
noncomputable def call {α : Type} (g : Λ→Int→Λ→Int→Ω (Λ × Λ × Int)) (ds : List D) (K : List D→Ω α) : Ω α := match ds with
  | [.ro .u64 l0, .int .i64 a1, .ro .u64 l2, .int .i64 a3] => (g l0 a1 l2 a3).bind fun r => K (sg.enc r)
  | _ => none
theorem call_ok {α : Type} {n : Nat} : COK Tryd.prog HW 95 (call (α := α) (f n)) := fun _ _ _ h => by
  unfold call at h; split at h
  · exact cok h fun _ => ok
  · cases h
end soft_aligned
/-! ### nat_Add: function 61 -/
namespace nat_Add
noncomputable def b0 (c50 : Λ→Ω (Bool)) (c51 : Λ→Ω (Int)) (c53 : Int→Int→Int→Ω (Int × Int)) (c54 : Λ→Ω (Λ × Int)) (k31 : Λ→Λ→Ω (Λ × Int)) (l0 l1 : Λ) : Ω (Λ × Int) := ((c50 l0).bind fun t1 => (if t1 = true then some (([] : Λ), 2) else ((c50 l1).bind fun t2 => (if t2 = true then some (([] : Λ), 2) else ((c51 l0).bind fun t3 => (if 0 ≤ t3 then (if t3 ≤ (ln l0) then ((some (l0.take t3.toNat) : Ω (Λ)).bind fun y4 => ((c51 l1).bind fun t5 => (if 0 ≤ t5 then (if t5 ≤ (ln l1) then ((some (l1.take t5.toNat) : Ω (Λ)).bind fun y6 => (if (ln y4) < (ln y6) then k31 y6 y4 else k31 y4 y6)) else none) else none))) else none) else none))))))
noncomputable def b31 (c50 : Λ→Ω (Bool)) (c51 : Λ→Ω (Int)) (c53 : Int→Int→Int→Ω (Int × Int)) (c54 : Λ→Ω (Λ × Int)) (k2037 : Λ→Λ→Int→Int→Int→Λ→Ω (Λ × Int)) (x0 x1 : Λ) : Ω (Λ × Int) := (if 0 ≤ (wrap64 ((ln x0) + 1)) then (if (wrap64 ((ln x0) + 1)).toNat ≤ 35184372088832 then k2037 x0 x1 0 0 (ln x0) (List.replicate (wrap64 ((ln x0) + 1)).toNat (0 : Int)) else none) else none)
noncomputable def b255 (c50 : Λ→Ω (Bool)) (c51 : Λ→Ω (Int)) (c53 : Int→Int→Int→Ω (Int × Int)) (c54 : Λ→Ω (Λ × Int)) (x0 : Λ) (x1 : Int) (x2 : Λ) : Ω (Λ × Int) := (if 0 ≤ (ln x0) then (if (ln x0) < (ln x2) then ((c54 (x2.set ((ln x0) : Int).toNat x1)).bind fun t1 => some (t1.1, t1.2)) else none) else none)
noncomputable def b2037 (c50 : Λ→Ω (Bool)) (c51 : Λ→Ω (Int)) (c53 : Int→Int→Int→Ω (Int × Int)) (c54 : Λ→Ω (Λ × Int)) (k255 : Λ→Int→Λ→Ω (Λ × Int)) (k260711 : Λ→Λ→Int→Int→Int→Int→Int→Λ→Ω (Λ × Int)) (x0 x1 : Λ) (x2 x3 x4 : Int) (x5 : Λ) : Ω (Λ × Int) := (if x3 < x4 then (if 0 ≤ x3 then (if x3 < (ln x0) then (if x3 < (ln x1) then (if 0 ≤ x3 then (if x3 < (ln x1) then k260711 x0 x1 x2 x3 (rd x0 x3) (rd x1 x3) x4 x5 else none) else none) else k260711 x0 x1 x2 x3 (rd x0 x3) 0 x4 x5) else none) else none) else k255 x0 x2 x5)
noncomputable def b260711 (c50 : Λ→Ω (Bool)) (c51 : Λ→Ω (Int)) (c53 : Int→Int→Int→Ω (Int × Int)) (c54 : Λ→Ω (Λ × Int)) (k2037 : Λ→Λ→Int→Int→Int→Λ→Ω (Λ × Int)) (x0 x1 : Λ) (x2 x3 x4 x5 x6 : Int) (x7 : Λ) : Ω (Λ × Int) := ((c53 x4 x5 x2).bind fun t1 => (if 0 ≤ x3 then (if x3 < (ln x7) then k2037 x0 x1 t1.2 (wrap64 (x3 + 1)) x6 (x7.set (x3 : Int).toNat t1.1) else none) else none))
noncomputable def l255 (n : Nat) (x0 : Λ) (x1 : Int) (x2 : Λ) : Ω (Λ × Int) := b255 (nat_big.f n) (nat_size.f n) bits_Add64.f (nat_cut.f n) x0 x1 x2
noncomputable def l260711 (n : Nat) (k2037 : Λ→Λ→Int→Int→Int→Λ→Ω (Λ × Int)) (x0 x1 : Λ) (x2 x3 x4 x5 x6 : Int) (x7 : Λ) : Ω (Λ × Int) := b260711 (nat_big.f n) (nat_size.f n) bits_Add64.f (nat_cut.f n) k2037 x0 x1 x2 x3 x4 x5 x6 x7
noncomputable def l2037 (n : Nat) : Nat→Λ→Λ→Int→Int→Int→Λ→Ω (Λ × Int)
  | 0, _, _, _, _, _, _ => none
  | m + 1, x0, x1, x2, x3, x4, x5 => b2037 (nat_big.f n) (nat_size.f n) bits_Add64.f (nat_cut.f n) (l255 n) (l260711 n (l2037 n m)) x0 x1 x2 x3 x4 x5
noncomputable def l31 (n : Nat) (x0 x1 : Λ) : Ω (Λ × Int) := b31 (nat_big.f n) (nat_size.f n) bits_Add64.f (nat_cut.f n) (l2037 n n) x0 x1
noncomputable def f (n : Nat) (l0 l1 : Λ) : Ω (Λ × Int) := b0 (nat_big.f n) (nat_size.f n) bits_Add64.f (nat_cut.f n) (l31 n) l0 l1
noncomputable def sg : Sig (Λ × Int) := s2 (sRow .u64) (s1 (sInt .i64))
noncomputable def code : Code := (Tryd.f61.body).getD .skip
noncomputable def cfg (c50 : Λ→Ω (Bool)) (c51 : Λ→Ω (Int)) (c53 : Int→Int→Int→Ω (Int × Int)) (c54 : Λ→Ω (Λ × Int)) : Cfg (Λ × Int) := { T := tys, call := orCall 50 (nat_big.call c50) (orCall 51 (nat_size.call c51) (orCall 53 (bits_Add64.call c53) (orCall 54 (nat_cut.call c54) (noCall)))) }
noncomputable def cuts : List (Nat × List (Nat × Want)) := [(31, [(0, .keep), (1, .keep)]), (255, [(0, .keep), (6, .keep), (7, .keep)]), (2037, [(0, .keep), (1, .keep), (6, .keep), (7, .keep), (36, .keep), (37, .keep), (38, .keep)]), (260711, [(0, .keep), (1, .keep), (6, .keep), (7, .keep), (8, .keep), (9, .keep), (10, .keep), (36, .keep), (37, .keep), (38, .keep)])]
noncomputable def s31 (x0 x1 : Λ) : ASt := ⟨[(0, .ro .u64 x0), (1, .ro .u64 x1)], []⟩
noncomputable def s255 (x0 : Λ) (x1 : Int) (x2 : Λ) : ASt := ⟨[(0, .ro .u64 x0), (6, .own 0), (7, .int .u64 x1)], [.ints 22 .u64 x2]⟩
noncomputable def s2037 (x0 x1 : Λ) (x2 x3 x4 : Int) (x5 : Λ) : ASt := ⟨[(0, .ro .u64 x0), (1, .ro .u64 x1), (6, .own 0), (7, .int .u64 x2), (36, .ro .u64 x0), (37, .int .i64 x4), (38, .int .i64 x3)], [.ints 22 .u64 x5]⟩
noncomputable def s260711 (x0 x1 : Λ) (x2 x3 x4 x5 x6 : Int) (x7 : Λ) : ASt := ⟨[(0, .ro .u64 x0), (1, .ro .u64 x1), (6, .own 0), (7, .int .u64 x2), (8, .int .i64 x3), (9, .int .u64 x4), (10, .int .u64 x5), (36, .ro .u64 x0), (37, .int .i64 x6), (38, .int .i64 x3)], [.ints 22 .u64 x7]⟩
noncomputable def A (c50 : Λ→Ω (Bool)) (c51 : Λ→Ω (Int)) (c53 : Int→Int→Int→Ω (Int × Int)) (c54 : Λ→Ω (Λ × Int)) (n : Nat) (J : Jt (Λ × Int)) (q : Nat) (ms : List Nat) : ASt→Ω (Λ × Int) := acont (cfg c50 c51 c53 c54) J cuts n q code 1 ms (aend (cfg c50 c51 c53 c54) Tryd.f61.results.toList [false, false] sg.out)
theorem e0 {c50 c51 c53 c54 n J l0 l1} : afun (cfg c50 c51 c53 c54) J cuts n code Tryd.f61.results.toList [false, false] [.ro .u64 l0, .ro .u64 l1] sg.out = b0 c50 c51 c53 c54 (fun y0 y1 => J 31 (A c50 c51 c53 c54 n J 31 []) (s31 y0 y1)) l0 l1 := by kernel_rfl
theorem e31 {c50 c51 c53 c54 n J x0 x1} : A c50 c51 c53 c54 n J 31 [] (s31 x0 x1) = b31 c50 c51 c53 c54 (fun y0 y1 y2 y3 y4 y5 => J 2037 (A c50 c51 c53 c54 n J 2037 [n]) (s2037 y0 y1 y2 y3 y4 y5)) x0 x1 := by kernel_rfl
theorem e255 {c50 c51 c53 c54 n J x0 x1 x2} : A c50 c51 c53 c54 n J 255 [] (s255 x0 x1 x2) = b255 c50 c51 c53 c54 x0 x1 x2 := by kernel_rfl
theorem e2037 {c50 c51 c53 c54 n J m x0 x1 x2 x3 x4 x5} : A c50 c51 c53 c54 n J 2037 [m + 1] (s2037 x0 x1 x2 x3 x4 x5) = b2037 c50 c51 c53 c54 (fun y0 y1 y2 => J 255 (A c50 c51 c53 c54 n J 255 []) (s255 y0 y1 y2)) (fun y0 y1 y2 y3 y4 y5 y6 y7 => J 260711 (A c50 c51 c53 c54 n J 260711 [m]) (s260711 y0 y1 y2 y3 y4 y5 y6 y7)) x0 x1 x2 x3 x4 x5 := by kernel_rfl
theorem e260711 {c50 c51 c53 c54 n J m2037 x0 x1 x2 x3 x4 x5 x6 x7} : A c50 c51 c53 c54 n J 260711 [m2037] (s260711 x0 x1 x2 x3 x4 x5 x6 x7) = b260711 c50 c51 c53 c54 (fun y0 y1 y2 y3 y4 y5 => J 2037 (A c50 c51 c53 c54 n J 2037 [m2037]) (s2037 y0 y1 y2 y3 y4 y5)) x0 x1 x2 x3 x4 x5 x6 x7 := by kernel_rfl
noncomputable abbrev I (n : Nat) := A (nat_big.f n) (nat_size.f n) bits_Add64.f (nat_cut.f n) n idJ
theorem q255 (n x0 x1 x2) : I n 255 [] (s255 x0 x1 x2) = l255 n x0 x1 x2 := e255
theorem q260711 (n m2037 x0 x1 x2 x3 x4 x5 x6 x7) : I n 260711 [m2037] (s260711 x0 x1 x2 x3 x4 x5 x6 x7) = l260711 n (fun y0 y1 y2 y3 y4 y5 => I n 2037 [m2037] (s2037 y0 y1 y2 y3 y4 y5)) x0 x1 x2 x3 x4 x5 x6 x7 := e260711
theorem q2037 (n m) : ∀ x0 x1 x2 x3 x4 x5, I n 2037 [m] (s2037 x0 x1 x2 x3 x4 x5) = l2037 n m x0 x1 x2 x3 x4 x5 := by
  induction m with
  | zero => intros; rfl
  | succ m ih =>
    intros
    exact e2037.trans (Eq.trans (cf6 (congr (congrArg (b2037 _ _ _ _) (fu3 (q255 n))) ((fu8 (q260711 n m)).trans (by rw [show (fun y0 y1 y2 y3 y4 y5 => I n 2037 [m] (s2037 y0 y1 y2 y3 y4 y5)) = _ from (fu6 (ih))]))) _ _ _ _ _ _) rfl)
theorem q31 (n x0 x1) : I n 31 [] (s31 x0 x1) = l31 n x0 x1 := e31.trans (Eq.trans (cf2 (congrArg (b31 _ _ _ _) (fu6 (q2037 n n))) _ _) rfl)
theorem ok {n  l0 l1 r} (h : f n l0 l1 = some r) : CallD Tryd.prog HW 61 [.ro .u64 l0, .ro .u64 l1] (sg.enc r) :=
  fun_some hwS Tryd.func61 (by kernel_rfl) (body := code) (by kernel_rfl) tys_ok (c := cfg (nat_big.f n) (nat_size.f n) bits_Add64.f (nat_cut.f n)) (orCall_ok (nat_big.call_ok (n := n)) (orCall_ok (nat_size.call_ok (n := n)) (orCall_ok bits_Add64.call_ok (orCall_ok (nat_cut.call_ok (n := n)) noCall_ok)))) noW_ok (by kernel_rfl) (by kernel_rfl) (Nat.le_of_ble_eq_true (by kernel_rfl)) (Eq.trans ((e0 (n := n)).trans (Eq.trans (cf2 (congrArg (b0 _ _ _ _) (fu2 (q31 n))) _ _) rfl)) h)
noncomputable def call {α : Type} (g : Λ→Λ→Ω (Λ × Int)) (ds : List D) (K : List D→Ω α) : Ω α := match ds with
  | [.ro .u64 l0, .ro .u64 l1] => (g l0 l1).bind fun r => K (sg.enc r)
  | _ => none
theorem call_ok {α : Type} {n : Nat} : COK Tryd.prog HW 61 (call (α := α) (f n)) := fun _ _ _ h => by
  unfold call at h; split at h
  · exact cok h fun _ => ok
  · cases h
end nat_Add
/-! ### nat_Cmp: function 21 -/
namespace nat_Cmp
noncomputable def b0 (c51 : Λ→Ω (Int)) (k245 : Λ→Λ→Int→Ω (Int)) (l0 l1 : Λ) : Ω (Int) := ((c51 l0).bind fun t1 => ((c51 l1).bind fun t2 => (if ¬ t1 = t2 then (if t1 < t2 then some (-1) else some 1) else k245 l0 l1 (wrap64 (t1 - 1)))))
noncomputable def b245 (c51 : Λ→Ω (Int)) (k245 : Λ→Λ→Int→Ω (Int)) (x0 x1 : Λ) (x2 : Int) : Ω (Int) := (if x2 ≥ 0 then (if 0 ≤ x2 then (if x2 < (ln x0) then (if 0 ≤ x2 then (if x2 < (ln x1) then (if ¬ (rd x0 x2) = (rd x1 x2) then (if 0 ≤ x2 then (if x2 < (ln x0) then (if 0 ≤ x2 then (if x2 < (ln x1) then (if (rd x0 x2) < (rd x1 x2) then some (-1) else some 1) else none) else none) else none) else none) else k245 x0 x1 (wrap64 (x2 - 1))) else none) else none) else none) else none) else some 0)
noncomputable def l245 (n : Nat) : Nat→Λ→Λ→Int→Ω (Int)
  | 0, _, _, _ => none
  | m + 1, x0, x1, x2 => b245 (nat_size.f n) (l245 n m) x0 x1 x2
noncomputable def f (n : Nat) (l0 l1 : Λ) : Ω (Int) := b0 (nat_size.f n) (l245 n n) l0 l1
noncomputable def sg : Sig (Int) := s1 (sInt .i64)
noncomputable def code : Code := (Tryd.f21.body).getD .skip
noncomputable def cfg (c51 : Λ→Ω (Int)) : Cfg (Int) := { T := tys, call := orCall 51 (nat_size.call c51) (noCall) }
noncomputable def cuts : List (Nat × List (Nat × Want)) := [(245, [(0, .keep), (1, .keep), (7, .keep)])]
noncomputable def s245 (x0 x1 : Λ) (x2 : Int) : ASt := ⟨[(0, .ro .u64 x0), (1, .ro .u64 x1), (7, .int .i64 x2)], []⟩
noncomputable def A (c51 : Λ→Ω (Int)) (n : Nat) (J : Jt (Int)) (q : Nat) (ms : List Nat) : ASt→Ω (Int) := acont (cfg c51) J cuts n q code 1 ms (aend (cfg c51) Tryd.f21.results.toList [false] sg.out)
theorem e0 {c51 n J l0 l1} : afun (cfg c51) J cuts n code Tryd.f21.results.toList [false] [.ro .u64 l0, .ro .u64 l1] sg.out = b0 c51 (fun y0 y1 y2 => J 245 (A c51 n J 245 [n]) (s245 y0 y1 y2)) l0 l1 := by kernel_rfl
theorem e245 {c51 n J m x0 x1 x2} : A c51 n J 245 [m + 1] (s245 x0 x1 x2) = b245 c51 (fun y0 y1 y2 => J 245 (A c51 n J 245 [m]) (s245 y0 y1 y2)) x0 x1 x2 := by kernel_rfl
noncomputable abbrev I (n : Nat) := A (nat_size.f n) n idJ
theorem q245 (n m) : ∀ x0 x1 x2, I n 245 [m] (s245 x0 x1 x2) = l245 n m x0 x1 x2 := by
  induction m with
  | zero => intros; rfl
  | succ m ih =>
    intros
    exact e245.trans (Eq.trans (cf3 (congrArg (b245 _) (fu3 (ih))) _ _ _) rfl)
theorem ok {n  l0 l1 r} (h : f n l0 l1 = some r) : CallD Tryd.prog HW 21 [.ro .u64 l0, .ro .u64 l1] (sg.enc r) :=
  fun_some hwS Tryd.func21 (by kernel_rfl) (body := code) (by kernel_rfl) tys_ok (c := cfg (nat_size.f n)) (orCall_ok (nat_size.call_ok (n := n)) noCall_ok) noW_ok (by kernel_rfl) (by kernel_rfl) (Nat.le_of_ble_eq_true (by kernel_rfl)) (Eq.trans ((e0 (n := n)).trans (Eq.trans (cf2 (congrArg (b0 _) (fu3 (q245 n n))) _ _) rfl)) h)
noncomputable def call {α : Type} (g : Λ→Λ→Ω (Int)) (ds : List D) (K : List D→Ω α) : Ω α := match ds with
  | [.ro .u64 l0, .ro .u64 l1] => (g l0 l1).bind fun r => K (sg.enc r)
  | _ => none
theorem call_ok {α : Type} {n : Nat} : COK Tryd.prog HW 21 (call (α := α) (f n)) := fun _ _ _ h => by
  unfold call at h; split at h
  · exact cok h fun _ => ok
  · cases h
end nat_Cmp
/-! ### bits_Sub64: function 86 -/
namespace bits_Sub64
def f (a0 a1 a2 : Int) : Ω (Int × Int) := if 0 ≤ a0 ∧ 0 ≤ a1 ∧ a1 < 18446744073709551616 ∧ 0 ≤ a2 ∧ a2 ≤ 1 then some ((a0 - a1 - a2) % 18446744073709551616, if a0 < a1 + a2 then 1 else 0) else none
def sg : Sig (Int × Int) := s2 (sInt .u64) (s1 (sInt .u64))
theorem ok {a0 a1 a2 : Int} {r : Int × Int} (h : f a0 a1 a2 = some r) : CallD Tryd.prog HW 86 [.int .u64 a0, .int .u64 a1, .int .u64 a2] (sg.enc r) := by
  unfold f at h
  split at h
  · rename_i hh
    obtain rfl := Option.some.inj h
    exact calld_scal rfl rfl fun w _ => .inr ⟨_, _, run_sub64' Tryd.func86 (by kernel_rfl) (by kernel_rfl) (by kernel_rfl) (by kernel_rfl) a0 a1 a2 hh.1 hh.2.1 hh.2.2.1 hh.2.2.2.1 hh.2.2.2.2 w, rfl, rfl⟩
  · cases h
noncomputable def call {α : Type} (g : Int→Int→Int→Ω (Int × Int)) (ds : List D) (K : List D→Ω α) : Ω α := match ds with
  | [.int .u64 a0, .int .u64 a1, .int .u64 a2] => (g a0 a1 a2).bind fun r => K (sg.enc r)
  | _ => none
theorem call_ok {α : Type} : COK Tryd.prog HW 86 (call (α := α) f) := fun _ _ _ h => by
  unfold call at h; split at h
  · exact cok h fun _ => ok
  · cases h
end bits_Sub64
/-! ### nat_Sub: function 62 -/
namespace nat_Sub
noncomputable def b0 (c21 : Λ→Λ→Ω (Int)) (c50 : Λ→Ω (Bool)) (c51 : Λ→Ω (Int)) (c54 : Λ→Ω (Λ × Int)) (c86 : Int→Int→Int→Ω (Int × Int)) (k2037 : Λ→Int→Int→Λ→Int→Λ→Ω (Λ × Int)) (l0 l1 : Λ) : Ω (Λ × Int) := ((c50 l0).bind fun t1 => (if t1 = true then some (([] : Λ), 2) else ((c50 l1).bind fun t2 => (if t2 = true then some (([] : Λ), 2) else ((c21 l0 l1).bind fun t3 => (if t3 < 0 then some (([] : Λ), 10) else ((c51 l0).bind fun t4 => (if 0 ≤ t4 then (if t4 ≤ (ln l0) then ((some (l0.take t4.toNat) : Ω (Λ)).bind fun y5 => ((c51 l1).bind fun t6 => (if 0 ≤ t6 then (if t6 ≤ (ln l1) then ((some (l1.take t6.toNat) : Ω (Λ)).bind fun y7 => (if 0 ≤ (ln y5) then (if (ln y5).toNat ≤ 35184372088832 then k2037 y7 0 0 y5 (ln y5) (List.replicate (ln y5).toNat (0 : Int)) else none) else none)) else none) else none))) else none) else none))))))))
noncomputable def b255 (c21 : Λ→Λ→Ω (Int)) (c50 : Λ→Ω (Bool)) (c51 : Λ→Ω (Int)) (c54 : Λ→Ω (Λ × Int)) (c86 : Int→Int→Int→Ω (Int × Int)) (x0 : Λ) : Ω (Λ × Int) := ((c54 x0).bind fun t1 => some (t1.1, t1.2))
noncomputable def b2037 (c21 : Λ→Λ→Ω (Int)) (c50 : Λ→Ω (Bool)) (c51 : Λ→Ω (Int)) (c54 : Λ→Ω (Λ × Int)) (c86 : Int→Int→Int→Ω (Int × Int)) (k255 : Λ→Ω (Λ × Int)) (k260711 : Λ→Int→Int→Int→Int→Λ→Int→Λ→Ω (Λ × Int)) (x0 : Λ) (x1 x2 : Int) (x3 : Λ) (x4 : Int) (x5 : Λ) : Ω (Λ × Int) := (if x2 < x4 then (if 0 ≤ x2 then (if x2 < (ln x3) then (if x2 < (ln x0) then (if 0 ≤ x2 then (if x2 < (ln x0) then k260711 x0 x1 x2 (rd x3 x2) (rd x0 x2) x3 x4 x5 else none) else none) else k260711 x0 x1 x2 (rd x3 x2) 0 x3 x4 x5) else none) else none) else k255 x5)
noncomputable def b260711 (c21 : Λ→Λ→Ω (Int)) (c50 : Λ→Ω (Bool)) (c51 : Λ→Ω (Int)) (c54 : Λ→Ω (Λ × Int)) (c86 : Int→Int→Int→Ω (Int × Int)) (k2037 : Λ→Int→Int→Λ→Int→Λ→Ω (Λ × Int)) (x0 : Λ) (x1 x2 x3 x4 : Int) (x5 : Λ) (x6 : Int) (x7 : Λ) : Ω (Λ × Int) := ((c86 x3 x4 x1).bind fun t1 => (if 0 ≤ x2 then (if x2 < (ln x7) then k2037 x0 t1.2 (wrap64 (x2 + 1)) x5 x6 (x7.set (x2 : Int).toNat t1.1) else none) else none))
noncomputable def l255 (n : Nat) (x0 : Λ) : Ω (Λ × Int) := b255 (nat_Cmp.f n) (nat_big.f n) (nat_size.f n) (nat_cut.f n) bits_Sub64.f x0
noncomputable def l260711 (n : Nat) (k2037 : Λ→Int→Int→Λ→Int→Λ→Ω (Λ × Int)) (x0 : Λ) (x1 x2 x3 x4 : Int) (x5 : Λ) (x6 : Int) (x7 : Λ) : Ω (Λ × Int) := b260711 (nat_Cmp.f n) (nat_big.f n) (nat_size.f n) (nat_cut.f n) bits_Sub64.f k2037 x0 x1 x2 x3 x4 x5 x6 x7
noncomputable def l2037 (n : Nat) : Nat→Λ→Int→Int→Λ→Int→Λ→Ω (Λ × Int)
  | 0, _, _, _, _, _, _ => none
  | m + 1, x0, x1, x2, x3, x4, x5 => b2037 (nat_Cmp.f n) (nat_big.f n) (nat_size.f n) (nat_cut.f n) bits_Sub64.f (l255 n) (l260711 n (l2037 n m)) x0 x1 x2 x3 x4 x5
noncomputable def f (n : Nat) (l0 l1 : Λ) : Ω (Λ × Int) := b0 (nat_Cmp.f n) (nat_big.f n) (nat_size.f n) (nat_cut.f n) bits_Sub64.f (l2037 n n) l0 l1
noncomputable def sg : Sig (Λ × Int) := s2 (sRow .u64) (s1 (sInt .i64))
noncomputable def code : Code := (Tryd.f62.body).getD .skip
noncomputable def cfg (c21 : Λ→Λ→Ω (Int)) (c50 : Λ→Ω (Bool)) (c51 : Λ→Ω (Int)) (c54 : Λ→Ω (Λ × Int)) (c86 : Int→Int→Int→Ω (Int × Int)) : Cfg (Λ × Int) := { T := tys, call := orCall 21 (nat_Cmp.call c21) (orCall 50 (nat_big.call c50) (orCall 51 (nat_size.call c51) (orCall 54 (nat_cut.call c54) (orCall 86 (bits_Sub64.call c86) (noCall))))) }
noncomputable def cuts : List (Nat × List (Nat × Want)) := [(255, [(6, .keep)]), (2037, [(1, .keep), (6, .keep), (7, .keep), (32, .keep), (33, .keep), (34, .keep)]), (260711, [(1, .keep), (6, .keep), (7, .keep), (8, .keep), (9, .keep), (10, .keep), (32, .keep), (33, .keep), (34, .keep)])]
noncomputable def s255 (x0 : Λ) : ASt := ⟨[(6, .own 0)], [.ints 22 .u64 x0]⟩
noncomputable def s2037 (x0 : Λ) (x1 x2 : Int) (x3 : Λ) (x4 : Int) (x5 : Λ) : ASt := ⟨[(1, .ro .u64 x0), (6, .own 0), (7, .int .u64 x1), (32, .ro .u64 x3), (33, .int .i64 x4), (34, .int .i64 x2)], [.ints 22 .u64 x5]⟩
noncomputable def s260711 (x0 : Λ) (x1 x2 x3 x4 : Int) (x5 : Λ) (x6 : Int) (x7 : Λ) : ASt := ⟨[(1, .ro .u64 x0), (6, .own 0), (7, .int .u64 x1), (8, .int .i64 x2), (9, .int .u64 x3), (10, .int .u64 x4), (32, .ro .u64 x5), (33, .int .i64 x6), (34, .int .i64 x2)], [.ints 22 .u64 x7]⟩
noncomputable def A (c21 : Λ→Λ→Ω (Int)) (c50 : Λ→Ω (Bool)) (c51 : Λ→Ω (Int)) (c54 : Λ→Ω (Λ × Int)) (c86 : Int→Int→Int→Ω (Int × Int)) (n : Nat) (J : Jt (Λ × Int)) (q : Nat) (ms : List Nat) : ASt→Ω (Λ × Int) := acont (cfg c21 c50 c51 c54 c86) J cuts n q code 1 ms (aend (cfg c21 c50 c51 c54 c86) Tryd.f62.results.toList [false, false] sg.out)
theorem e0 {c21 c50 c51 c54 c86 n J l0 l1} : afun (cfg c21 c50 c51 c54 c86) J cuts n code Tryd.f62.results.toList [false, false] [.ro .u64 l0, .ro .u64 l1] sg.out = b0 c21 c50 c51 c54 c86 (fun y0 y1 y2 y3 y4 y5 => J 2037 (A c21 c50 c51 c54 c86 n J 2037 [n]) (s2037 y0 y1 y2 y3 y4 y5)) l0 l1 := by kernel_rfl
theorem e255 {c21 c50 c51 c54 c86 n J x0} : A c21 c50 c51 c54 c86 n J 255 [] (s255 x0) = b255 c21 c50 c51 c54 c86 x0 := by kernel_rfl
theorem e2037 {c21 c50 c51 c54 c86 n J m x0 x1 x2 x3 x4 x5} : A c21 c50 c51 c54 c86 n J 2037 [m + 1] (s2037 x0 x1 x2 x3 x4 x5) = b2037 c21 c50 c51 c54 c86 (fun y0 => J 255 (A c21 c50 c51 c54 c86 n J 255 []) (s255 y0)) (fun y0 y1 y2 y3 y4 y5 y6 y7 => J 260711 (A c21 c50 c51 c54 c86 n J 260711 [m]) (s260711 y0 y1 y2 y3 y4 y5 y6 y7)) x0 x1 x2 x3 x4 x5 := by kernel_rfl
theorem e260711 {c21 c50 c51 c54 c86 n J m2037 x0 x1 x2 x3 x4 x5 x6 x7} : A c21 c50 c51 c54 c86 n J 260711 [m2037] (s260711 x0 x1 x2 x3 x4 x5 x6 x7) = b260711 c21 c50 c51 c54 c86 (fun y0 y1 y2 y3 y4 y5 => J 2037 (A c21 c50 c51 c54 c86 n J 2037 [m2037]) (s2037 y0 y1 y2 y3 y4 y5)) x0 x1 x2 x3 x4 x5 x6 x7 := by kernel_rfl
noncomputable abbrev I (n : Nat) := A (nat_Cmp.f n) (nat_big.f n) (nat_size.f n) (nat_cut.f n) bits_Sub64.f n idJ
theorem q255 (n x0) : I n 255 [] (s255 x0) = l255 n x0 := e255
theorem q260711 (n m2037 x0 x1 x2 x3 x4 x5 x6 x7) : I n 260711 [m2037] (s260711 x0 x1 x2 x3 x4 x5 x6 x7) = l260711 n (fun y0 y1 y2 y3 y4 y5 => I n 2037 [m2037] (s2037 y0 y1 y2 y3 y4 y5)) x0 x1 x2 x3 x4 x5 x6 x7 := e260711
theorem q2037 (n m) : ∀ x0 x1 x2 x3 x4 x5, I n 2037 [m] (s2037 x0 x1 x2 x3 x4 x5) = l2037 n m x0 x1 x2 x3 x4 x5 := by
  induction m with
  | zero => intros; rfl
  | succ m ih =>
    intros
    exact e2037.trans (Eq.trans (cf6 (congr (congrArg (b2037 _ _ _ _ _) (fu1 (q255 n))) ((fu8 (q260711 n m)).trans (by rw [show (fun y0 y1 y2 y3 y4 y5 => I n 2037 [m] (s2037 y0 y1 y2 y3 y4 y5)) = _ from (fu6 (ih))]))) _ _ _ _ _ _) rfl)
theorem ok {n  l0 l1 r} (h : f n l0 l1 = some r) : CallD Tryd.prog HW 62 [.ro .u64 l0, .ro .u64 l1] (sg.enc r) :=
  fun_some hwS Tryd.func62 (by kernel_rfl) (body := code) (by kernel_rfl) tys_ok (c := cfg (nat_Cmp.f n) (nat_big.f n) (nat_size.f n) (nat_cut.f n) bits_Sub64.f) (orCall_ok (nat_Cmp.call_ok (n := n)) (orCall_ok (nat_big.call_ok (n := n)) (orCall_ok (nat_size.call_ok (n := n)) (orCall_ok (nat_cut.call_ok (n := n)) (orCall_ok bits_Sub64.call_ok noCall_ok))))) noW_ok (by kernel_rfl) (by kernel_rfl) (Nat.le_of_ble_eq_true (by kernel_rfl)) (Eq.trans ((e0 (n := n)).trans (Eq.trans (cf2 (congrArg (b0 _ _ _ _ _) (fu6 (q2037 n n))) _ _) rfl)) h)
noncomputable def call {α : Type} (g : Λ→Λ→Ω (Λ × Int)) (ds : List D) (K : List D→Ω α) : Ω α := match ds with
  | [.ro .u64 l0, .ro .u64 l1] => (g l0 l1).bind fun r => K (sg.enc r)
  | _ => none
theorem call_ok {α : Type} {n : Nat} : COK Tryd.prog HW 62 (call (α := α) (f n)) := fun _ _ _ h => by
  unfold call at h; split at h
  · exact cok h fun _ => ok
  · cases h
end nat_Sub
/-! ### soft_term_plus: function 77 -/
namespace soft_term_plus
noncomputable def b0 (c21 : Λ→Λ→Ω (Int)) (c61 : Λ→Λ→Ω (Λ × Int)) (c62 : Λ→Λ→Ω (Λ × Int)) (c95 : Λ→Int→Λ→Int→Ω (Λ × Λ × Int)) (a0 : Bool) (l1 : Λ) (a2 : Int) (a3 : Bool) (l4 : Λ) (a5 : Int) : Ω (Bool × Λ × Int) := ((c95 l1 a2 l4 a5).bind fun t1 => (if (a0 == a3) = true then ((c61 t1.1 t1.2.1).bind fun t2 => some (a0, t2.1, t1.2.2)) else ((c21 t1.1 t1.2.1).bind fun t3 => (if t3 = 0 then some (false, ([] : Λ), 0) else (if t3 = 1 then ((c62 t1.1 t1.2.1).bind fun t4 => some (a0, t4.1, t1.2.2)) else ((c62 t1.2.1 t1.1).bind fun t5 => some (a3, t5.1, t1.2.2)))))))
noncomputable def f (n : Nat) (a0 : Bool) (l1 : Λ) (a2 : Int) (a3 : Bool) (l4 : Λ) (a5 : Int) : Ω (Bool × Λ × Int) := b0 (nat_Cmp.f n) (nat_Add.f n) (nat_Sub.f n) (soft_aligned.f n) a0 l1 a2 a3 l4 a5
noncomputable def sg : Sig (Bool × Λ × Int) := s1 (sAgg (s2 (sBool) (s2 (sRow .u64) (s1 (sInt .i64)))))
noncomputable def code : Code := (Tryd.f77.body).getD .skip
noncomputable def cfg (c21 : Λ→Λ→Ω (Int)) (c61 : Λ→Λ→Ω (Λ × Int)) (c62 : Λ→Λ→Ω (Λ × Int)) (c95 : Λ→Int→Λ→Int→Ω (Λ × Λ × Int)) : Cfg (Bool × Λ × Int) := { T := tys, call := orCall 21 (nat_Cmp.call c21) (orCall 61 (nat_Add.call c61) (orCall 62 (nat_Sub.call c62) (orCall 95 (soft_aligned.call c95) (noCall)))) }
noncomputable def cuts : List (Nat × List (Nat × Want)) := []
theorem e0 {c21 c61 c62 c95 n J a0 l1 a2 a3 l4 a5} : afun (cfg c21 c61 c62 c95) J cuts n code Tryd.f77.results.toList [false] [.agg [.bool a0, .ro .u64 l1, .int .i64 a2], .agg [.bool a3, .ro .u64 l4, .int .i64 a5]] sg.out = b0 c21 c61 c62 c95 a0 l1 a2 a3 l4 a5 := by kernel_rfl
theorem ok {n  a0 l1 a2 a3 l4 a5 r} (h : f n a0 l1 a2 a3 l4 a5 = some r) : CallD Tryd.prog HW 77 [.agg [.bool a0, .ro .u64 l1, .int .i64 a2], .agg [.bool a3, .ro .u64 l4, .int .i64 a5]] (sg.enc r) :=
  fun_some hwS Tryd.func77 (by kernel_rfl) (body := code) (by kernel_rfl) tys_ok (c := cfg (nat_Cmp.f n) (nat_Add.f n) (nat_Sub.f n) (soft_aligned.f n)) (orCall_ok (nat_Cmp.call_ok (n := n)) (orCall_ok (nat_Add.call_ok (n := n)) (orCall_ok (nat_Sub.call_ok (n := n)) (orCall_ok (soft_aligned.call_ok (n := n)) noCall_ok)))) noW_ok (by kernel_rfl) (by kernel_rfl) (Nat.le_of_ble_eq_true (by kernel_rfl)) (Eq.trans ((e0 (n := n))) h)
noncomputable def call {α : Type} (g : Bool→Λ→Int→Bool→Λ→Int→Ω (Bool × Λ × Int)) (ds : List D) (K : List D→Ω α) : Ω α := match ds with
  | [.agg [.bool a0, .ro .u64 l1, .int .i64 a2], .agg [.bool a3, .ro .u64 l4, .int .i64 a5]] => (g a0 l1 a2 a3 l4 a5).bind fun r => K (sg.enc r)
  | _ => none
theorem call_ok {α : Type} {n : Nat} : COK Tryd.prog HW 77 (call (α := α) (f n)) := fun _ _ _ h => by
  unfold call at h; split at h
  · exact cok h fun _ => ok
  · cases h
end soft_term_plus
/-! ### ieee_near: function 90 -/
namespace ieee_near
noncomputable def b0 (a0 : Int) : Ω (Int) := some (mx (-1099511627776) (mn 1099511627776 a0))
noncomputable def f (a0 : Int) : Ω (Int) := b0 a0
noncomputable def sg : Sig (Int) := s1 (sInt .i64)
noncomputable def code : Code := (Tryd.f90.body).getD .skip
noncomputable def cfg : Cfg (Int) := { T := tys, call := noCall }
noncomputable def cuts : List (Nat × List (Nat × Want)) := []
theorem e0 {n J a0} : afun cfg J cuts n code Tryd.f90.results.toList [false] [.int .i64 a0] sg.out = b0 a0 := by kernel_rfl
theorem ok {a0 r} (h : f a0 = some r) : CallD Tryd.prog HW 90 [.int .i64 a0] (sg.enc r) :=
  fun_some hwS Tryd.func90 (by kernel_rfl) (body := code) (by kernel_rfl) tys_ok (c := cfg) noCall_ok noW_ok (by kernel_rfl) (by kernel_rfl) (Nat.le_of_ble_eq_true (by kernel_rfl)) (Eq.trans ((e0 (n := 0))) h)
noncomputable def call {α : Type} (g : Int→Ω (Int)) (ds : List D) (K : List D→Ω α) : Ω α := match ds with
  | [.int .i64 a0] => (g a0).bind fun r => K (sg.enc r)
  | _ => none
theorem call_ok {α : Type} : COK Tryd.prog HW 90 (call (α := α) f) := fun _ _ _ h => by
  unfold call at h; split at h
  · exact cok h fun _ => ok
  · cases h
end ieee_near
/-! ### bits_Len64: function 67 -/
namespace bits_Len64
def f (a0 : Int) : Ω (Int) := if 0 ≤ a0 ∧ a0 ≤ 18446744073709551615 then some (Lib.bitLen a0.toNat : Nat) else none
def sg : Sig (Int) := s1 (sInt .i64)
theorem ok {a0 : Int} {r : Int} (h : f a0 = some r) : CallD Tryd.prog HW 67 [.int .u64 a0] (sg.enc r) := by
  unfold f at h
  split at h
  · rename_i hh
    obtain rfl := Option.some.inj h
    refine calld_scal rfl rfl fun w _ => .inl ⟨_, Tryd.func67, by kernel_rfl, by kernel_rfl, (Go.Proofs.YtobocamcoaeliaaDoorG.len64 a0 w hh.1 hh.2).mono ?_⟩
    rintro e w' ⟨rfl, rfl⟩
    exact ⟨_, rfl, rfl, rfl⟩
  · cases h
noncomputable def call {α : Type} (g : Int→Ω (Int)) (ds : List D) (K : List D→Ω α) : Ω α := match ds with
  | [.int .u64 a0] => (g a0).bind fun r => K (sg.enc r)
  | _ => none
theorem call_ok {α : Type} : COK Tryd.prog HW 67 (call (α := α) f) := fun _ _ _ h => by
  unfold call at h; split at h
  · exact cok h fun _ => ok
  · cases h
end bits_Len64
/-! ### nat_BitLen: function 84 -/
namespace nat_BitLen
noncomputable def b0 (c51 : Λ→Ω (Int)) (c67 : Int→Ω (Int)) (l0 : Λ) : Ω (Int) := ((c51 l0).bind fun t1 => (if t1 = 0 then some 0 else (if 0 ≤ (wrap64 (t1 - 1)) then (if (wrap64 (t1 - 1)) < (ln l0) then ((c67 (rd l0 (wrap64 (t1 - 1)))).bind fun t2 => some (wrap64 ((wrap64 (64 * (wrap64 (t1 - 1)))) + t2))) else none) else none)))
noncomputable def f (n : Nat) (l0 : Λ) : Ω (Int) := b0 (nat_size.f n) bits_Len64.f l0
noncomputable def sg : Sig (Int) := s1 (sInt .i64)
noncomputable def code : Code := (Tryd.f84.body).getD .skip
noncomputable def cfg (c51 : Λ→Ω (Int)) (c67 : Int→Ω (Int)) : Cfg (Int) := { T := tys, call := orCall 51 (nat_size.call c51) (orCall 67 (bits_Len64.call c67) (noCall)) }
noncomputable def cuts : List (Nat × List (Nat × Want)) := []
theorem e0 {c51 c67 n J l0} : afun (cfg c51 c67) J cuts n code Tryd.f84.results.toList [false] [.ro .u64 l0] sg.out = b0 c51 c67 l0 := by kernel_rfl
theorem ok {n  l0 r} (h : f n l0 = some r) : CallD Tryd.prog HW 84 [.ro .u64 l0] (sg.enc r) :=
  fun_some hwS Tryd.func84 (by kernel_rfl) (body := code) (by kernel_rfl) tys_ok (c := cfg (nat_size.f n) bits_Len64.f) (orCall_ok (nat_size.call_ok (n := n)) (orCall_ok bits_Len64.call_ok noCall_ok)) noW_ok (by kernel_rfl) (by kernel_rfl) (Nat.le_of_ble_eq_true (by kernel_rfl)) (Eq.trans ((e0 (n := n))) h)
noncomputable def call {α : Type} (g : Λ→Ω (Int)) (ds : List D) (K : List D→Ω α) : Ω α := match ds with
  | [.ro .u64 l0] => (g l0).bind fun r => K (sg.enc r)
  | _ => none
theorem call_ok {α : Type} {n : Nat} : COK Tryd.prog HW 84 (call (α := α) (f n)) := fun _ _ _ h => by
  unfold call at h; split at h
  · exact cok h fun _ => ok
  · cases h
end nat_BitLen
/-! ### bits_TrailingZeros64: function 42 -/
namespace bits_TrailingZeros64
def f (a0 : Int) : Ω (Int) := if 0 ≤ a0 ∧ a0 < 18446744073709551616 then some (Lib.ctz 64 a0.toNat : Nat) else none
def sg : Sig (Int) := s1 (sInt .i64)
set_option maxHeartbeats 1000000 in
theorem core (x k idx : Nat) (w : World) (hx0 : ((x : Int) == 0) = false)
    (key : IntKind.u64.wrap (bits BinOp.and IntKind.u64 (x : Int) (IntKind.u64.wrap (-(x : Int))) * 285870213051353865) / 288230376151711744 = (idx : Int))
    (hi : idx < 64) (hk : k < 64) (hcell : w.cell? ⟨0, idx, none⟩ = some (.int .u8 k)) :
    Calls Tryd.prog 42 #[.int .u64 x] w fun e w' => e = .returned (.int .i64 k) ∧ w' = w := by
  go_enter Tryd.func42, Tryd.ntmps42
  go_wp2_with (simp only [key])
  go_ret
  exact ⟨rfl, rfl⟩
theorem zero (w : World) : Calls Tryd.prog 42 #[.int .u64 0] w fun e w' => e = .returned (.int .i64 64) ∧ w' = w := by
  go_enter Tryd.func42, Tryd.ntmps42
  go_wp2
  go_ret
  exact ⟨rfl, rfl⟩
theorem ok {a0 : Int} {r : Int} (h : f a0 = some r) : CallD Tryd.prog HW 42 [.int .u64 a0] (sg.enc r) := by
  unfold f at h
  split at h
  · rename_i hh
    obtain rfl := Option.some.inj h
    refine calld_scal rfl rfl fun w hw => .inl ⟨_, Tryd.func42, by kernel_rfl, by kernel_rfl, ?_⟩
    obtain ⟨x, rfl⟩ := Int.eq_ofNat_of_zero_le hh.1
    have hx : x < 18446744073709551616 := by omega
    show Calls Tryd.prog 42 #[.int .u64 x] w _
    rw [Int.toNat_natCast]
    by_cases hx0 : x = 0
    · subst hx0
      refine (zero w).mono ?_
      rintro e w' ⟨rfl, rfl⟩
      exact ⟨_, rfl, rfl, rfl⟩
    · obtain ⟨hlow, hk⟩ := Lib.lowest_bit 64 x hx0 hx
      obtain ⟨hi, htab⟩ := Lib.deBruijn64_at _ hk
      have hcell := hw _ hi
      rw [htab] at hcell
      refine (core x _ _ w (by simp; omega) (tz64_key x _ hx hx0 hlow) hi hk hcell).mono ?_
      rintro e w' ⟨rfl, rfl⟩
      exact ⟨_, rfl, rfl, rfl⟩
  · cases h
noncomputable def call {α : Type} (g : Int→Ω (Int)) (ds : List D) (K : List D→Ω α) : Ω α := match ds with
  | [.int .u64 a0] => (g a0).bind fun r => K (sg.enc r)
  | _ => none
theorem call_ok {α : Type} : COK Tryd.prog HW 42 (call (α := α) f) := fun _ _ _ h => by
  unfold call at h; split at h
  · exact cok h fun _ => ok
  · cases h
end bits_TrailingZeros64
/-! ### nat_Trail: function 85 -/
namespace nat_Trail
noncomputable def b0 (c42 : Int→Ω (Int)) (k53 : Λ→Int→Int→Ω (Int)) (l0 : Λ) : Ω (Int) := k53 l0 (ln l0) 0
noncomputable def b53 (c42 : Int→Ω (Int)) (k53 : Λ→Int→Int→Ω (Int)) (x0 : Λ) (x1 x2 : Int) : Ω (Int) := (if x2 < x1 then (if 0 ≤ x2 then (if x2 < (ln x0) then (if ¬ (rd x0 x2) = 0 then ((c42 (rd x0 x2)).bind fun t1 => some (wrap64 ((wrap64 (64 * x2)) + t1))) else k53 x0 x1 (wrap64 (x2 + 1))) else none) else none) else some 0)
noncomputable def l53 (n : Nat) : Nat→Λ→Int→Int→Ω (Int)
  | 0, _, _, _ => none
  | m + 1, x0, x1, x2 => b53 bits_TrailingZeros64.f (l53 n m) x0 x1 x2
noncomputable def f (n : Nat) (l0 : Λ) : Ω (Int) := b0 bits_TrailingZeros64.f (l53 n n) l0
noncomputable def sg : Sig (Int) := s1 (sInt .i64)
noncomputable def code : Code := (Tryd.f85.body).getD .skip
noncomputable def cfg (c42 : Int→Ω (Int)) : Cfg (Int) := { T := tys, call := orCall 42 (bits_TrailingZeros64.call c42) (noCall) }
noncomputable def cuts : List (Nat × List (Nat × Want)) := [(53, [(5, .keep), (6, .keep), (7, .keep)])]
noncomputable def s53 (x0 : Λ) (x1 x2 : Int) : ASt := ⟨[(5, .ro .u64 x0), (6, .int .i64 x1), (7, .int .i64 x2)], []⟩
noncomputable def A (c42 : Int→Ω (Int)) (n : Nat) (J : Jt (Int)) (q : Nat) (ms : List Nat) : ASt→Ω (Int) := acont (cfg c42) J cuts n q code 1 ms (aend (cfg c42) Tryd.f85.results.toList [false] sg.out)
theorem e0 {c42 n J l0} : afun (cfg c42) J cuts n code Tryd.f85.results.toList [false] [.ro .u64 l0] sg.out = b0 c42 (fun y0 y1 y2 => J 53 (A c42 n J 53 [n]) (s53 y0 y1 y2)) l0 := by kernel_rfl
theorem e53 {c42 n J m x0 x1 x2} : A c42 n J 53 [m + 1] (s53 x0 x1 x2) = b53 c42 (fun y0 y1 y2 => J 53 (A c42 n J 53 [m]) (s53 y0 y1 y2)) x0 x1 x2 := by kernel_rfl
noncomputable abbrev I (n : Nat) := A bits_TrailingZeros64.f n idJ
theorem q53 (n m) : ∀ x0 x1 x2, I n 53 [m] (s53 x0 x1 x2) = l53 n m x0 x1 x2 := by
  induction m with
  | zero => intros; rfl
  | succ m ih =>
    intros
    exact e53.trans (Eq.trans (cf3 (congrArg (b53 _) (fu3 (ih))) _ _ _) rfl)
theorem ok {n  l0 r} (h : f n l0 = some r) : CallD Tryd.prog HW 85 [.ro .u64 l0] (sg.enc r) :=
  fun_some hwS Tryd.func85 (by kernel_rfl) (body := code) (by kernel_rfl) tys_ok (c := cfg bits_TrailingZeros64.f) (orCall_ok bits_TrailingZeros64.call_ok noCall_ok) noW_ok (by kernel_rfl) (by kernel_rfl) (Nat.le_of_ble_eq_true (by kernel_rfl)) (Eq.trans ((e0 (n := n)).trans (Eq.trans (cf1 (congrArg (b0 _) (fu3 (q53 n n))) _) rfl)) h)
noncomputable def call {α : Type} (g : Λ→Ω (Int)) (ds : List D) (K : List D→Ω α) : Ω α := match ds with
  | [.ro .u64 l0] => (g l0).bind fun r => K (sg.enc r)
  | _ => none
theorem call_ok {α : Type} {n : Nat} : COK Tryd.prog HW 85 (call (α := α) (f n)) := fun _ _ _ h => by
  unfold call at h; split at h
  · exact cok h fun _ => ok
  · cases h
end nat_Trail
/-! ### nat_Shr: function 96 -/
namespace nat_Shr
noncomputable def b0 (c50 : Λ→Ω (Bool)) (c51 : Λ→Ω (Int)) (c54 : Λ→Ω (Λ × Int)) (c85 : Λ→Ω (Int)) (k31 : Λ→Int→Bool→Ω (Λ × Bool × Int)) (l0 : Λ) (a1 : Int) : Ω (Λ × Bool × Int) := ((c50 l0).bind fun t1 => (if t1 = true then some (([] : Λ), false, 2) else (if a1 < 0 then some (([] : Λ), false, 1) else ((c51 l0).bind fun t2 => (if t2 > 0 then ((c85 l0).bind fun t3 => k31 l0 a1 (decide (t3 < a1))) else k31 l0 a1 false)))))
noncomputable def b31 (c50 : Λ→Ω (Bool)) (c51 : Λ→Ω (Int)) (c54 : Λ→Ω (Λ × Int)) (c85 : Λ→Ω (Int)) (k8181 : Λ→Bool→Int→Int→Int→Int→Λ→Ω (Λ × Bool × Int)) (x0 : Λ) (x1 : Int) (x2 : Bool) : Ω (Λ × Bool × Int) := ((c51 x0).bind fun t1 => (if 0 ≤ t1 then (if t1 ≤ (ln x0) then ((some (x0.take t1.toNat) : Ω (Λ)).bind fun y2 => (if x1 ≥ (wrap64 (64 * (ln y2))) then some (([] : Λ), x2, 0) else (if 0 ≤ (wrap64 ((ln y2) - (wrap64 (Int.tdiv x1 64)))) then (if (wrap64 ((ln y2) - (wrap64 (Int.tdiv x1 64)))).toNat ≤ 35184372088832 then k8181 y2 x2 (wrap64 (Int.tdiv x1 64)) (IntKind.u64.wrap (Int.tmod x1 64)) (ln (List.replicate (wrap64 ((ln y2) - (wrap64 (Int.tdiv x1 64)))).toNat (0 : Int))) 0 (List.replicate (wrap64 ((ln y2) - (wrap64 (Int.tdiv x1 64)))).toNat (0 : Int)) else none) else none))) else none) else none))
noncomputable def b1023 (c50 : Λ→Ω (Bool)) (c51 : Λ→Ω (Int)) (c54 : Λ→Ω (Λ × Int)) (c85 : Λ→Ω (Int)) (x0 : Bool) (x1 : Λ) : Ω (Λ × Bool × Int) := ((c54 x1).bind fun t1 => some (t1.1, x0, t1.2))
noncomputable def b8181 (c50 : Λ→Ω (Bool)) (c51 : Λ→Ω (Int)) (c54 : Λ→Ω (Λ × Int)) (c85 : Λ→Ω (Int)) (k1023 : Bool→Λ→Ω (Λ × Bool × Int)) (k8181 : Λ→Bool→Int→Int→Int→Int→Λ→Ω (Λ × Bool × Int)) (x0 : Λ) (x1 : Bool) (x2 x3 x4 x5 : Int) (x6 : Λ) : Ω (Λ × Bool × Int) := (if x5 < x4 then (if 0 ≤ (wrap64 (x2 + x5)) then (if (wrap64 (x2 + x5)) < (ln x0) then (if 0 ≤ x3 then (if (wrap64 ((wrap64 (x2 + x5)) + 1)) < (ln x0) then (if x3 > 0 then (if 0 ≤ (wrap64 ((wrap64 (x2 + x5)) + 1)) then (if (wrap64 ((wrap64 (x2 + x5)) + 1)) < (ln x0) then (if 0 ≤ (IntKind.u64.wrap (64 - x3)) then (if 0 ≤ x5 then (if x5 < (ln x6) then k8181 x0 x1 x2 x3 x4 (wrap64 (x5 + 1)) (x6.set (x5 : Int).toNat (Go.bits .or .u64 (shr .u64 (rd x0 (wrap64 (x2 + x5))) x3) (shl .u64 (rd x0 (wrap64 ((wrap64 (x2 + x5)) + 1))) (IntKind.u64.wrap (64 - x3))))) else none) else none) else none) else none) else none) else (if 0 ≤ x5 then (if x5 < (ln x6) then k8181 x0 x1 x2 x3 x4 (wrap64 (x5 + 1)) (x6.set (x5 : Int).toNat (shr .u64 (rd x0 (wrap64 (x2 + x5))) x3)) else none) else none)) else (if 0 ≤ x5 then (if x5 < (ln x6) then k8181 x0 x1 x2 x3 x4 (wrap64 (x5 + 1)) (x6.set (x5 : Int).toNat (shr .u64 (rd x0 (wrap64 (x2 + x5))) x3)) else none) else none)) else none) else none) else none) else k1023 x1 x6)
noncomputable def l1023 (n : Nat) (x0 : Bool) (x1 : Λ) : Ω (Λ × Bool × Int) := b1023 (nat_big.f n) (nat_size.f n) (nat_cut.f n) (nat_Trail.f n) x0 x1
noncomputable def l8181 (n : Nat) : Nat→Λ→Bool→Int→Int→Int→Int→Λ→Ω (Λ × Bool × Int)
  | 0, _, _, _, _, _, _, _ => none
  | m + 1, x0, x1, x2, x3, x4, x5, x6 => b8181 (nat_big.f n) (nat_size.f n) (nat_cut.f n) (nat_Trail.f n) (l1023 n) (l8181 n m) x0 x1 x2 x3 x4 x5 x6
noncomputable def l31 (n : Nat) (x0 : Λ) (x1 : Int) (x2 : Bool) : Ω (Λ × Bool × Int) := b31 (nat_big.f n) (nat_size.f n) (nat_cut.f n) (nat_Trail.f n) (l8181 n n) x0 x1 x2
noncomputable def f (n : Nat) (l0 : Λ) (a1 : Int) : Ω (Λ × Bool × Int) := b0 (nat_big.f n) (nat_size.f n) (nat_cut.f n) (nat_Trail.f n) (l31 n) l0 a1
noncomputable def sg : Sig (Λ × Bool × Int) := s2 (sRow .u64) (s2 (sBool) (s1 (sInt .i64)))
noncomputable def code : Code := (Tryd.f96.body).getD .skip
noncomputable def cfg (c50 : Λ→Ω (Bool)) (c51 : Λ→Ω (Int)) (c54 : Λ→Ω (Λ × Int)) (c85 : Λ→Ω (Int)) : Cfg (Λ × Bool × Int) := { T := tys, call := orCall 50 (nat_big.call c50) (orCall 51 (nat_size.call c51) (orCall 54 (nat_cut.call c54) (orCall 85 (nat_Trail.call c85) (noCall)))) }
noncomputable def cuts : List (Nat × List (Nat × Want)) := [(31, [(0, .keep), (1, .keep), (7, .keep)]), (1023, [(7, .keep), (10, .keep)]), (8181, [(0, .keep), (7, .keep), (8, .keep), (9, .keep), (10, .keep), (49, .keep), (50, .keep)])]
noncomputable def s31 (x0 : Λ) (x1 : Int) (x2 : Bool) : ASt := ⟨[(0, .ro .u64 x0), (1, .int .i64 x1), (7, .bool x2)], []⟩
noncomputable def s1023 (x0 : Bool) (x1 : Λ) : ASt := ⟨[(7, .bool x0), (10, .own 0)], [.ints 22 .u64 x1]⟩
noncomputable def s8181 (x0 : Λ) (x1 : Bool) (x2 x3 x4 x5 : Int) (x6 : Λ) : ASt := ⟨[(0, .ro .u64 x0), (7, .bool x1), (8, .int .i64 x2), (9, .int .u64 x3), (10, .own 0), (49, .int .i64 x4), (50, .int .i64 x5)], [.ints 22 .u64 x6]⟩
noncomputable def A (c50 : Λ→Ω (Bool)) (c51 : Λ→Ω (Int)) (c54 : Λ→Ω (Λ × Int)) (c85 : Λ→Ω (Int)) (n : Nat) (J : Jt (Λ × Bool × Int)) (q : Nat) (ms : List Nat) : ASt→Ω (Λ × Bool × Int) := acont (cfg c50 c51 c54 c85) J cuts n q code 1 ms (aend (cfg c50 c51 c54 c85) Tryd.f96.results.toList [false, false, false] sg.out)
theorem e0 {c50 c51 c54 c85 n J l0 a1} : afun (cfg c50 c51 c54 c85) J cuts n code Tryd.f96.results.toList [false, false, false] [.ro .u64 l0, .int .i64 a1] sg.out = b0 c50 c51 c54 c85 (fun y0 y1 y2 => J 31 (A c50 c51 c54 c85 n J 31 []) (s31 y0 y1 y2)) l0 a1 := by kernel_rfl
theorem e31 {c50 c51 c54 c85 n J x0 x1 x2} : A c50 c51 c54 c85 n J 31 [] (s31 x0 x1 x2) = b31 c50 c51 c54 c85 (fun y0 y1 y2 y3 y4 y5 y6 => J 8181 (A c50 c51 c54 c85 n J 8181 [n]) (s8181 y0 y1 y2 y3 y4 y5 y6)) x0 x1 x2 := by kernel_rfl
theorem e1023 {c50 c51 c54 c85 n J x0 x1} : A c50 c51 c54 c85 n J 1023 [] (s1023 x0 x1) = b1023 c50 c51 c54 c85 x0 x1 := by kernel_rfl
theorem e8181 {c50 c51 c54 c85 n J m x0 x1 x2 x3 x4 x5 x6} : A c50 c51 c54 c85 n J 8181 [m + 1] (s8181 x0 x1 x2 x3 x4 x5 x6) = b8181 c50 c51 c54 c85 (fun y0 y1 => J 1023 (A c50 c51 c54 c85 n J 1023 []) (s1023 y0 y1)) (fun y0 y1 y2 y3 y4 y5 y6 => J 8181 (A c50 c51 c54 c85 n J 8181 [m]) (s8181 y0 y1 y2 y3 y4 y5 y6)) x0 x1 x2 x3 x4 x5 x6 := by kernel_rfl
noncomputable abbrev I (n : Nat) := A (nat_big.f n) (nat_size.f n) (nat_cut.f n) (nat_Trail.f n) n idJ
theorem q1023 (n x0 x1) : I n 1023 [] (s1023 x0 x1) = l1023 n x0 x1 := e1023
theorem q8181 (n m) : ∀ x0 x1 x2 x3 x4 x5 x6, I n 8181 [m] (s8181 x0 x1 x2 x3 x4 x5 x6) = l8181 n m x0 x1 x2 x3 x4 x5 x6 := by
  induction m with
  | zero => intros; rfl
  | succ m ih =>
    intros
    exact e8181.trans (Eq.trans (cf7 (congr (congrArg (b8181 _ _ _ _) (fu2 (q1023 n))) (fu7 (ih))) _ _ _ _ _ _ _) rfl)
theorem q31 (n x0 x1 x2) : I n 31 [] (s31 x0 x1 x2) = l31 n x0 x1 x2 := e31.trans (Eq.trans (cf3 (congrArg (b31 _ _ _ _) (fu7 (q8181 n n))) _ _ _) rfl)
theorem ok {n  l0 a1 r} (h : f n l0 a1 = some r) : CallD Tryd.prog HW 96 [.ro .u64 l0, .int .i64 a1] (sg.enc r) :=
  fun_some hwS Tryd.func96 (by kernel_rfl) (body := code) (by kernel_rfl) tys_ok (c := cfg (nat_big.f n) (nat_size.f n) (nat_cut.f n) (nat_Trail.f n)) (orCall_ok (nat_big.call_ok (n := n)) (orCall_ok (nat_size.call_ok (n := n)) (orCall_ok (nat_cut.call_ok (n := n)) (orCall_ok (nat_Trail.call_ok (n := n)) noCall_ok)))) noW_ok (by kernel_rfl) (by kernel_rfl) (Nat.le_of_ble_eq_true (by kernel_rfl)) (Eq.trans ((e0 (n := n)).trans (Eq.trans (cf2 (congrArg (b0 _ _ _ _) (fu3 (q31 n))) _ _) rfl)) h)
noncomputable def call {α : Type} (g : Λ→Int→Ω (Λ × Bool × Int)) (ds : List D) (K : List D→Ω α) : Ω α := match ds with
  | [.ro .u64 l0, .int .i64 a1] => (g l0 a1).bind fun r => K (sg.enc r)
  | _ => none
theorem call_ok {α : Type} {n : Nat} : COK Tryd.prog HW 96 (call (α := α) (f n)) := fun _ _ _ h => by
  unfold call at h; split at h
  · exact cok h fun _ => ok
  · cases h
end nat_Shr
/-! ### nat_ToUint: function 98 -/
namespace nat_ToUint
noncomputable def b0 (c51 : Λ→Ω (Int)) (l0 : Λ) : Ω (Int × Bool) := ((c51 l0).bind fun t1 => (if t1 = 0 then some (0, true) else (if t1 = 1 then (if 0 < (ln l0) then some (rd l0 0, true) else none) else some (0, false))))
noncomputable def f (n : Nat) (l0 : Λ) : Ω (Int × Bool) := b0 (nat_size.f n) l0
noncomputable def sg : Sig (Int × Bool) := s2 (sInt .u64) (s1 (sBool))
noncomputable def code : Code := (Tryd.f98.body).getD .skip
noncomputable def cfg (c51 : Λ→Ω (Int)) : Cfg (Int × Bool) := { T := tys, call := orCall 51 (nat_size.call c51) (noCall) }
noncomputable def cuts : List (Nat × List (Nat × Want)) := []
theorem e0 {c51 n J l0} : afun (cfg c51) J cuts n code Tryd.f98.results.toList [false, false] [.ro .u64 l0] sg.out = b0 c51 l0 := by kernel_rfl
theorem ok {n  l0 r} (h : f n l0 = some r) : CallD Tryd.prog HW 98 [.ro .u64 l0] (sg.enc r) :=
  fun_some hwS Tryd.func98 (by kernel_rfl) (body := code) (by kernel_rfl) tys_ok (c := cfg (nat_size.f n)) (orCall_ok (nat_size.call_ok (n := n)) noCall_ok) noW_ok (by kernel_rfl) (by kernel_rfl) (Nat.le_of_ble_eq_true (by kernel_rfl)) (Eq.trans ((e0 (n := n))) h)
noncomputable def call {α : Type} (g : Λ→Ω (Int × Bool)) (ds : List D) (K : List D→Ω α) : Ω α := match ds with
  | [.ro .u64 l0] => (g l0).bind fun r => K (sg.enc r)
  | _ => none
theorem call_ok {α : Type} {n : Nat} : COK Tryd.prog HW 98 (call (α := α) (f n)) := fun _ _ _ h => by
  unfold call at h; split at h
  · exact cok h fun _ => ok
  · cases h
end nat_ToUint
/-! ### nat_Bit: function 99 -/
namespace nat_Bit
noncomputable def b0 (l0 : Λ) (a1 : Int) : Ω (Int) := (if a1 < 0 then some 0 else (if (wrap64 (Int.tdiv a1 64)) ≥ (ln l0) then some 0 else (if 0 ≤ (wrap64 (Int.tdiv a1 64)) then (if (wrap64 (Int.tdiv a1 64)) < (ln l0) then (if 0 ≤ (IntKind.u64.wrap (Int.tmod a1 64)) then some (wrap64 (Go.bits .and .u64 (shr .u64 (rd l0 (wrap64 (Int.tdiv a1 64))) (IntKind.u64.wrap (Int.tmod a1 64))) 1)) else none) else none) else none)))
noncomputable def f (l0 : Λ) (a1 : Int) : Ω (Int) := b0 l0 a1
noncomputable def sg : Sig (Int) := s1 (sInt .i64)
noncomputable def code : Code := (Tryd.f99.body).getD .skip
noncomputable def cfg : Cfg (Int) := { T := tys, call := noCall }
noncomputable def cuts : List (Nat × List (Nat × Want)) := []
theorem e0 {n J l0 a1} : afun cfg J cuts n code Tryd.f99.results.toList [false] [.ro .u64 l0, .int .i64 a1] sg.out = b0 l0 a1 := by kernel_rfl
theorem ok {l0 a1 r} (h : f l0 a1 = some r) : CallD Tryd.prog HW 99 [.ro .u64 l0, .int .i64 a1] (sg.enc r) :=
  fun_some hwS Tryd.func99 (by kernel_rfl) (body := code) (by kernel_rfl) tys_ok (c := cfg) noCall_ok noW_ok (by kernel_rfl) (by kernel_rfl) (Nat.le_of_ble_eq_true (by kernel_rfl)) (Eq.trans ((e0 (n := 0))) h)
noncomputable def call {α : Type} (g : Λ→Int→Ω (Int)) (ds : List D) (K : List D→Ω α) : Ω α := match ds with
  | [.ro .u64 l0, .int .i64 a1] => (g l0 a1).bind fun r => K (sg.enc r)
  | _ => none
theorem call_ok {α : Type} : COK Tryd.prog HW 99 (call (α := α) f) := fun _ _ _ h => by
  unfold call at h; split at h
  · exact cok h fun _ => ok
  · cases h
end nat_Bit
/-! ### ieee_magnitude: function 89 -/
namespace ieee_magnitude
noncomputable def b0 (c84 : Λ→Ω (Int)) (c85 : Λ→Ω (Int)) (c96 : Λ→Int→Ω (Λ × Bool × Int)) (c98 : Λ→Ω (Int × Bool)) (c99 : Λ→Int→Ω (Int)) (k255 : Int→Int→Ω (Int)) (l0 : Λ) (a1 : Int) (a2 : Bool) : Ω (Int) := ((c84 l0).bind fun t1 => (if (ln l0) = 0 then some 0 else (if (wrap64 (t1 + a1)) < (-1074) then some 0 else (if (wrap64 (t1 + a1)) > 1024 then some 9218868437227405312 else (if (wrap64 ((mx (wrap64 ((wrap64 (t1 + a1)) - 53)) (-1074)) - a1)) ≤ 0 then (if 0 < (ln l0) then (if 0 ≤ (IntKind.u64.wrap (wrap64 (-(wrap64 ((mx (wrap64 ((wrap64 (t1 + a1)) - 53)) (-1074)) - a1))))) then k255 (mx (wrap64 ((wrap64 (t1 + a1)) - 53)) (-1074)) (shl .u64 (rd l0 0) (IntKind.u64.wrap (wrap64 (-(wrap64 ((mx (wrap64 ((wrap64 (t1 + a1)) - 53)) (-1074)) - a1)))))) else none) else none) else ((c96 l0 (wrap64 ((mx (wrap64 ((wrap64 (t1 + a1)) - 53)) (-1074)) - a1))).bind fun t2 => ((c98 t2.1).bind fun t3 => ((c99 l0 (wrap64 ((wrap64 ((mx (wrap64 ((wrap64 (t1 + a1)) - 53)) (-1074)) - a1)) - 1))).bind fun t4 => (if t4 = 1 then (if a2 = true then k255 (mx (wrap64 ((wrap64 (t1 + a1)) - 53)) (-1074)) (IntKind.u64.wrap (t3.1 + 1)) else (if (Go.bits .and .u64 t3.1 1) = 1 then k255 (mx (wrap64 ((wrap64 (t1 + a1)) - 53)) (-1074)) (IntKind.u64.wrap (t3.1 + 1)) else ((c85 l0).bind fun t5 => (if t5 < (wrap64 ((wrap64 ((mx (wrap64 ((wrap64 (t1 + a1)) - 53)) (-1074)) - a1)) - 1)) then k255 (mx (wrap64 ((wrap64 (t1 + a1)) - 53)) (-1074)) (IntKind.u64.wrap (t3.1 + 1)) else k255 (mx (wrap64 ((wrap64 (t1 + a1)) - 53)) (-1074)) t3.1)))) else k255 (mx (wrap64 ((wrap64 (t1 + a1)) - 53)) (-1074)) t3.1)))))))))
noncomputable def b255 (c84 : Λ→Ω (Int)) (c85 : Λ→Ω (Int)) (c96 : Λ→Int→Ω (Λ × Bool × Int)) (c98 : Λ→Ω (Int × Bool)) (c99 : Λ→Int→Ω (Int)) (x0 x1 : Int) : Ω (Int) := some (IntKind.u64.wrap ((IntKind.u64.wrap ((IntKind.u64.wrap (wrap64 (x0 - (-1074)))) * 4503599627370496)) + x1))
noncomputable def l255 (n : Nat) (x0 x1 : Int) : Ω (Int) := b255 (nat_BitLen.f n) (nat_Trail.f n) (nat_Shr.f n) (nat_ToUint.f n) nat_Bit.f x0 x1
noncomputable def f (n : Nat) (l0 : Λ) (a1 : Int) (a2 : Bool) : Ω (Int) := b0 (nat_BitLen.f n) (nat_Trail.f n) (nat_Shr.f n) (nat_ToUint.f n) nat_Bit.f (l255 n) l0 a1 a2
noncomputable def sg : Sig (Int) := s1 (sInt .u64)
noncomputable def code : Code := (Tryd.f89.body).getD .skip
noncomputable def cfg (c84 : Λ→Ω (Int)) (c85 : Λ→Ω (Int)) (c96 : Λ→Int→Ω (Λ × Bool × Int)) (c98 : Λ→Ω (Int × Bool)) (c99 : Λ→Int→Ω (Int)) : Cfg (Int) := { T := tys, call := orCall 84 (nat_BitLen.call c84) (orCall 85 (nat_Trail.call c85) (orCall 96 (nat_Shr.call c96) (orCall 98 (nat_ToUint.call c98) (orCall 99 (nat_Bit.call c99) (noCall))))) }
noncomputable def cuts : List (Nat × List (Nat × Want)) := [(255, [(8, .keep), (10, .keep)])]
noncomputable def s255 (x0 x1 : Int) : ASt := ⟨[(8, .int .i64 x0), (10, .int .u64 x1)], []⟩
noncomputable def A (c84 : Λ→Ω (Int)) (c85 : Λ→Ω (Int)) (c96 : Λ→Int→Ω (Λ × Bool × Int)) (c98 : Λ→Ω (Int × Bool)) (c99 : Λ→Int→Ω (Int)) (n : Nat) (J : Jt (Int)) (q : Nat) (ms : List Nat) : ASt→Ω (Int) := acont (cfg c84 c85 c96 c98 c99) J cuts n q code 1 ms (aend (cfg c84 c85 c96 c98 c99) Tryd.f89.results.toList [false] sg.out)
theorem e0 {c84 c85 c96 c98 c99 n J l0 a1 a2} : afun (cfg c84 c85 c96 c98 c99) J cuts n code Tryd.f89.results.toList [false] [.ro .u64 l0, .int .i64 a1, .bool a2] sg.out = b0 c84 c85 c96 c98 c99 (fun y0 y1 => J 255 (A c84 c85 c96 c98 c99 n J 255 []) (s255 y0 y1)) l0 a1 a2 := by kernel_rfl
theorem e255 {c84 c85 c96 c98 c99 n J x0 x1} : A c84 c85 c96 c98 c99 n J 255 [] (s255 x0 x1) = b255 c84 c85 c96 c98 c99 x0 x1 := by kernel_rfl
noncomputable abbrev I (n : Nat) := A (nat_BitLen.f n) (nat_Trail.f n) (nat_Shr.f n) (nat_ToUint.f n) nat_Bit.f n idJ
theorem q255 (n x0 x1) : I n 255 [] (s255 x0 x1) = l255 n x0 x1 := e255
theorem ok {n  l0 a1 a2 r} (h : f n l0 a1 a2 = some r) : CallD Tryd.prog HW 89 [.ro .u64 l0, .int .i64 a1, .bool a2] (sg.enc r) :=
  fun_some hwS Tryd.func89 (by kernel_rfl) (body := code) (by kernel_rfl) tys_ok (c := cfg (nat_BitLen.f n) (nat_Trail.f n) (nat_Shr.f n) (nat_ToUint.f n) nat_Bit.f) (orCall_ok (nat_BitLen.call_ok (n := n)) (orCall_ok (nat_Trail.call_ok (n := n)) (orCall_ok (nat_Shr.call_ok (n := n)) (orCall_ok (nat_ToUint.call_ok (n := n)) (orCall_ok nat_Bit.call_ok noCall_ok))))) noW_ok (by kernel_rfl) (by kernel_rfl) (Nat.le_of_ble_eq_true (by kernel_rfl)) (Eq.trans ((e0 (n := n)).trans (Eq.trans (cf3 (congrArg (b0 _ _ _ _ _) (fu2 (q255 n))) _ _ _) rfl)) h)
noncomputable def call {α : Type} (g : Λ→Int→Bool→Ω (Int)) (ds : List D) (K : List D→Ω α) : Ω α := match ds with
  | [.ro .u64 l0, .int .i64 a1, .bool a2] => (g l0 a1 a2).bind fun r => K (sg.enc r)
  | _ => none
theorem call_ok {α : Type} {n : Nat} : COK Tryd.prog HW 89 (call (α := α) (f n)) := fun _ _ _ h => by
  unfold call at h; split at h
  · exact cok h fun _ => ok
  · cases h
end ieee_magnitude
/-! ### ieee_Neg: function 79 -/
namespace ieee_Neg
noncomputable def b0 (a0 : Int) : Ω (Int) := some (Go.bits .xor .u64 a0 9223372036854775808)
noncomputable def f (a0 : Int) : Ω (Int) := b0 a0
noncomputable def sg : Sig (Int) := s1 (sInt .u64)
noncomputable def code : Code := (Tryd.f79.body).getD .skip
noncomputable def cfg : Cfg (Int) := { T := tys, call := noCall }
noncomputable def cuts : List (Nat × List (Nat × Want)) := []
theorem e0 {n J a0} : afun cfg J cuts n code Tryd.f79.results.toList [false] [.int .u64 a0] sg.out = b0 a0 := by kernel_rfl
theorem ok {a0 r} (h : f a0 = some r) : CallD Tryd.prog HW 79 [.int .u64 a0] (sg.enc r) :=
  fun_some hwS Tryd.func79 (by kernel_rfl) (body := code) (by kernel_rfl) tys_ok (c := cfg) noCall_ok noW_ok (by kernel_rfl) (by kernel_rfl) (Nat.le_of_ble_eq_true (by kernel_rfl)) (Eq.trans ((e0 (n := 0))) h)
noncomputable def call {α : Type} (g : Int→Ω (Int)) (ds : List D) (K : List D→Ω α) : Ω α := match ds with
  | [.int .u64 a0] => (g a0).bind fun r => K (sg.enc r)
  | _ => none
theorem call_ok {α : Type} : COK Tryd.prog HW 79 (call (α := α) f) := fun _ _ _ h => by
  unfold call at h; split at h
  · exact cok h fun _ => ok
  · cases h
end ieee_Neg
/-! ### ieee_Round: function 68 -/
namespace ieee_Round
noncomputable def b0 (c59 : Λ→Int→Ω (Λ × Int)) (c79 : Int→Ω (Int)) (c89 : Λ→Int→Bool→Ω (Int)) (c90 : Int→Ω (Int)) (a0 : Bool) (l1 : Λ) (a2 : Int) (a3 : Bool) : Ω (Int × Int) := ((c59 l1 0).bind fun t1 => (if ¬ t1.2 = 0 then some (0, t1.2) else ((c90 a2).bind fun t2 => ((c89 t1.1 t2 a3).bind fun t3 => (if a0 = true then ((c79 t3).bind fun t4 => some (t4, 0)) else some (t3, 0))))))
noncomputable def f (n : Nat) (a0 : Bool) (l1 : Λ) (a2 : Int) (a3 : Bool) : Ω (Int × Int) := b0 (nat_Shl.f n) ieee_Neg.f (ieee_magnitude.f n) ieee_near.f a0 l1 a2 a3
noncomputable def sg : Sig (Int × Int) := s2 (sInt .u64) (s1 (sInt .i64))
noncomputable def code : Code := (Tryd.f68.body).getD .skip
noncomputable def cfg (c59 : Λ→Int→Ω (Λ × Int)) (c79 : Int→Ω (Int)) (c89 : Λ→Int→Bool→Ω (Int)) (c90 : Int→Ω (Int)) : Cfg (Int × Int) := { T := tys, call := orCall 59 (nat_Shl.call c59) (orCall 79 (ieee_Neg.call c79) (orCall 89 (ieee_magnitude.call c89) (orCall 90 (ieee_near.call c90) (noCall)))) }
noncomputable def cuts : List (Nat × List (Nat × Want)) := []
theorem e0 {c59 c79 c89 c90 n J a0 l1 a2 a3} : afun (cfg c59 c79 c89 c90) J cuts n code Tryd.f68.results.toList [false, false] [.bool a0, .ro .u64 l1, .int .i64 a2, .bool a3] sg.out = b0 c59 c79 c89 c90 a0 l1 a2 a3 := by kernel_rfl
theorem ok {n  a0 l1 a2 a3 r} (h : f n a0 l1 a2 a3 = some r) : CallD Tryd.prog HW 68 [.bool a0, .ro .u64 l1, .int .i64 a2, .bool a3] (sg.enc r) :=
  fun_some hwS Tryd.func68 (by kernel_rfl) (body := code) (by kernel_rfl) tys_ok (c := cfg (nat_Shl.f n) ieee_Neg.f (ieee_magnitude.f n) ieee_near.f) (orCall_ok (nat_Shl.call_ok (n := n)) (orCall_ok ieee_Neg.call_ok (orCall_ok (ieee_magnitude.call_ok (n := n)) (orCall_ok ieee_near.call_ok noCall_ok)))) noW_ok (by kernel_rfl) (by kernel_rfl) (Nat.le_of_ble_eq_true (by kernel_rfl)) (Eq.trans ((e0 (n := n))) h)
noncomputable def call {α : Type} (g : Bool→Λ→Int→Bool→Ω (Int × Int)) (ds : List D) (K : List D→Ω α) : Ω α := match ds with
  | [.bool a0, .ro .u64 l1, .int .i64 a2, .bool a3] => (g a0 l1 a2 a3).bind fun r => K (sg.enc r)
  | _ => none
theorem call_ok {α : Type} {n : Nat} : COK Tryd.prog HW 68 (call (α := α) (f n)) := fun _ _ _ h => by
  unfold call at h; split at h
  · exact cok h fun _ => ok
  · cases h
end ieee_Round
/-! ### soft_fraction_flags: function 82 -/
namespace soft_fraction_flags
noncomputable def b0 (c19 : Λ→Λ→Ω (Λ × Int)) (c20 : Int→Ω (Bool × Int × Int × Int)) (c21 : Λ→Λ→Ω (Int)) (c58 : Int→Ω (Λ)) (c95 : Λ→Int→Λ→Int→Ω (Λ × Λ × Int)) (a0 : Bool) (l1 l2 : Λ) (a3 a4 : Int) : Ω (Int) := ((c20 a4).bind fun t1 => (if t1.2.1 = 3 then some 20 else ((c58 t1.2.2.1).bind fun t2 => ((c19 l2 t2).bind fun t3 => ((c95 l1 a3 t3.1 t1.2.2.2).bind fun t4 => ((c21 t4.1 t4.2.1).bind fun t5 => (if t5 = 0 then some 0 else ((c95 l1 a3 l2 (-1022)).bind fun t6 => ((c21 t6.1 t6.2.1).bind fun t7 => (if t7 < 0 then some 24 else some 16))))))))))
noncomputable def f (n : Nat) (a0 : Bool) (l1 l2 : Λ) (a3 a4 : Int) : Ω (Int) := b0 (nat_Mul.f n) ieee_Decode.f (nat_Cmp.f n) nat_FromUint.f (soft_aligned.f n) a0 l1 l2 a3 a4
noncomputable def sg : Sig (Int) := s1 (sInt .i64)
noncomputable def code : Code := (Tryd.f82.body).getD .skip
noncomputable def cfg (c19 : Λ→Λ→Ω (Λ × Int)) (c20 : Int→Ω (Bool × Int × Int × Int)) (c21 : Λ→Λ→Ω (Int)) (c58 : Int→Ω (Λ)) (c95 : Λ→Int→Λ→Int→Ω (Λ × Λ × Int)) : Cfg (Int) := { T := tys, call := orCall 19 (nat_Mul.call c19) (orCall 20 (ieee_Decode.call c20) (orCall 21 (nat_Cmp.call c21) (orCall 58 (nat_FromUint.call c58) (orCall 95 (soft_aligned.call c95) (noCall))))) }
noncomputable def cuts : List (Nat × List (Nat × Want)) := []
theorem e0 {c19 c20 c21 c58 c95 n J a0 l1 l2 a3 a4} : afun (cfg c19 c20 c21 c58 c95) J cuts n code Tryd.f82.results.toList [false] [.agg [.bool a0, .ro .u64 l1, .ro .u64 l2, .int .i64 a3], .int .u64 a4] sg.out = b0 c19 c20 c21 c58 c95 a0 l1 l2 a3 a4 := by kernel_rfl
theorem ok {n  a0 l1 l2 a3 a4 r} (h : f n a0 l1 l2 a3 a4 = some r) : CallD Tryd.prog HW 82 [.agg [.bool a0, .ro .u64 l1, .ro .u64 l2, .int .i64 a3], .int .u64 a4] (sg.enc r) :=
  fun_some hwS Tryd.func82 (by kernel_rfl) (body := code) (by kernel_rfl) tys_ok (c := cfg (nat_Mul.f n) ieee_Decode.f (nat_Cmp.f n) nat_FromUint.f (soft_aligned.f n)) (orCall_ok (nat_Mul.call_ok (n := n)) (orCall_ok ieee_Decode.call_ok (orCall_ok (nat_Cmp.call_ok (n := n)) (orCall_ok nat_FromUint.call_ok (orCall_ok (soft_aligned.call_ok (n := n)) noCall_ok))))) noW_ok (by kernel_rfl) (by kernel_rfl) (Nat.le_of_ble_eq_true (by kernel_rfl)) (Eq.trans ((e0 (n := n))) h)
noncomputable def call {α : Type} (g : Bool→Λ→Λ→Int→Int→Ω (Int)) (ds : List D) (K : List D→Ω α) : Ω α := match ds with
  | [.agg [.bool a0, .ro .u64 l1, .ro .u64 l2, .int .i64 a3], .int .u64 a4] => (g a0 l1 l2 a3 a4).bind fun r => K (sg.enc r)
  | _ => none
theorem call_ok {α : Type} {n : Nat} : COK Tryd.prog HW 82 (call (α := α) (f n)) := fun _ _ _ h => by
  unfold call at h; split at h
  · exact cok h fun _ => ok
  · cases h
end soft_fraction_flags
/-! ### soft_term_rounded: function 78 -/
namespace soft_term_rounded
noncomputable def b0 (c68 : Bool→Λ→Int→Bool→Ω (Int × Int)) (c80 : Bool→Int→Ω (Int)) (c82 : Bool→Λ→Λ→Int→Int→Ω (Int)) (a0 : Bool) (l1 : Λ) (a2 : Int) : Ω (Int × Int) := (if (ln l1) = 0 then ((c80 a0 0).bind fun t1 => some (t1, 0)) else ((c68 a0 l1 a2 false).bind fun t2 => ((c82 a0 l1 [1] a2 t2.1).bind fun t3 => some (t2.1, t3))))
noncomputable def f (n : Nat) (a0 : Bool) (l1 : Λ) (a2 : Int) : Ω (Int × Int) := b0 (ieee_Round.f n) soft_withSign.f (soft_fraction_flags.f n) a0 l1 a2
noncomputable def sg : Sig (Int × Int) := s2 (sInt .u64) (s1 (sInt .i64))
noncomputable def code : Code := (Tryd.f78.body).getD .skip
noncomputable def cfg (c68 : Bool→Λ→Int→Bool→Ω (Int × Int)) (c80 : Bool→Int→Ω (Int)) (c82 : Bool→Λ→Λ→Int→Int→Ω (Int)) : Cfg (Int × Int) := { T := tys, call := orCall 68 (ieee_Round.call c68) (orCall 80 (soft_withSign.call c80) (orCall 82 (soft_fraction_flags.call c82) (noCall))) }
noncomputable def cuts : List (Nat × List (Nat × Want)) := []
theorem e0 {c68 c80 c82 n J a0 l1 a2} : afun (cfg c68 c80 c82) J cuts n code Tryd.f78.results.toList [false, false] [.agg [.bool a0, .ro .u64 l1, .int .i64 a2]] sg.out = b0 c68 c80 c82 a0 l1 a2 := by kernel_rfl
theorem ok {n  a0 l1 a2 r} (h : f n a0 l1 a2 = some r) : CallD Tryd.prog HW 78 [.agg [.bool a0, .ro .u64 l1, .int .i64 a2]] (sg.enc r) :=
  fun_some hwS Tryd.func78 (by kernel_rfl) (body := code) (by kernel_rfl) tys_ok (c := cfg (ieee_Round.f n) soft_withSign.f (soft_fraction_flags.f n)) (orCall_ok (ieee_Round.call_ok (n := n)) (orCall_ok soft_withSign.call_ok (orCall_ok (soft_fraction_flags.call_ok (n := n)) noCall_ok))) noW_ok (by kernel_rfl) (by kernel_rfl) (Nat.le_of_ble_eq_true (by kernel_rfl)) (Eq.trans ((e0 (n := n))) h)
noncomputable def call {α : Type} (g : Bool→Λ→Int→Ω (Int × Int)) (ds : List D) (K : List D→Ω α) : Ω α := match ds with
  | [.agg [.bool a0, .ro .u64 l1, .int .i64 a2]] => (g a0 l1 a2).bind fun r => K (sg.enc r)
  | _ => none
theorem call_ok {α : Type} {n : Nat} : COK Tryd.prog HW 78 (call (α := α) (f n)) := fun _ _ _ h => by
  unfold call at h; split at h
  · exact cok h fun _ => ok
  · cases h
end soft_term_rounded
/-! ### soft_fma: function 49 -/
namespace soft_fma
noncomputable def b0 (c20 : Int→Ω (Bool × Int × Int × Int)) (c75 : Ω (Int × Int)) (c76 : Bool→Int→Int→Int→Ω (Bool × Λ × Int)) (c77 : Bool→Λ→Int→Bool→Λ→Int→Ω (Bool × Λ × Int)) (c78 : Bool→Λ→Int→Ω (Int × Int)) (c80 : Bool→Int→Ω (Int)) (c81 : Bool→Int→Int→Int→Bool→Int→Int→Int→Ω (Bool × Λ × Int)) (k15 : Int→Bool→Bool→Int→Int→Int→Bool→Int→Int→Int→Bool→Int→Int→Int→Ω (Int × Int)) (a0 a1 a2 : Int) : Ω (Int × Int) := ((c20 a0).bind fun t1 => ((c20 a1).bind fun t2 => ((c20 a2).bind fun t3 => (if t1.2.1 = 3 then k15 a2 true t1.1 t1.2.1 t1.2.2.1 t1.2.2.2 t2.1 t2.2.1 t2.2.2.1 t2.2.2.2 t3.1 t3.2.1 t3.2.2.1 t3.2.2.2 else k15 a2 (decide (t2.2.1 = 3)) t1.1 t1.2.1 t1.2.2.1 t1.2.2.2 t2.1 t2.2.1 t2.2.2.1 t2.2.2.2 t3.1 t3.2.1 t3.2.2.1 t3.2.2.2))))
noncomputable def b15 (c20 : Int→Ω (Bool × Int × Int × Int)) (c75 : Ω (Int × Int)) (c76 : Bool→Int→Int→Int→Ω (Bool × Λ × Int)) (c77 : Bool→Λ→Int→Bool→Λ→Int→Ω (Bool × Λ × Int)) (c78 : Bool→Λ→Int→Ω (Int × Int)) (c80 : Bool→Int→Ω (Int)) (c81 : Bool→Int→Int→Int→Bool→Int→Int→Int→Ω (Bool × Λ × Int)) (k3999 : Int→Bool→Bool→Bool→Bool→Int→Int→Int→Bool→Int→Int→Int→Bool→Int→Int→Int→Ω (Int × Int)) (x0 : Int) (x1 x2 : Bool) (x3 x4 x5 : Int) (x6 : Bool) (x7 x8 x9 : Int) (x10 : Bool) (x11 x12 x13 : Int) : Ω (Int × Int) := (if x3 = 4 then some (9221120237041090560, 0) else (if x7 = 4 then some (9221120237041090560, 0) else (if x11 = 4 then some (9221120237041090560, 0) else (if x1 = true then (if x3 = 0 then ((c75).bind fun t1 => some (t1.1, t1.2)) else (if x7 = 0 then ((c75).bind fun t2 => some (t2.1, t2.2)) else (if x1 = true then (if x11 = 3 then k3999 x0 x1 (x2 != x6) (x10 != (x2 != x6)) x2 x3 x4 x5 x6 x7 x8 x9 x10 x11 x12 x13 else k3999 x0 x1 (x2 != x6) false x2 x3 x4 x5 x6 x7 x8 x9 x10 x11 x12 x13) else k3999 x0 x1 (x2 != x6) false x2 x3 x4 x5 x6 x7 x8 x9 x10 x11 x12 x13))) else (if x1 = true then (if x11 = 3 then k3999 x0 x1 (x2 != x6) (x10 != (x2 != x6)) x2 x3 x4 x5 x6 x7 x8 x9 x10 x11 x12 x13 else k3999 x0 x1 (x2 != x6) false x2 x3 x4 x5 x6 x7 x8 x9 x10 x11 x12 x13) else k3999 x0 x1 (x2 != x6) false x2 x3 x4 x5 x6 x7 x8 x9 x10 x11 x12 x13)))))
noncomputable def b3999 (c20 : Int→Ω (Bool × Int × Int × Int)) (c75 : Ω (Int × Int)) (c76 : Bool→Int→Int→Int→Ω (Bool × Λ × Int)) (c77 : Bool→Λ→Int→Bool→Λ→Int→Ω (Bool × Λ × Int)) (c78 : Bool→Λ→Int→Ω (Int × Int)) (c80 : Bool→Int→Ω (Int)) (c81 : Bool→Int→Int→Int→Bool→Int→Int→Int→Ω (Bool × Λ × Int)) (x0 : Int) (x1 x2 x3 x4 : Bool) (x5 x6 x7 : Int) (x8 : Bool) (x9 x10 x11 : Int) (x12 : Bool) (x13 x14 x15 : Int) : Ω (Int × Int) := (if x3 = true then ((c75).bind fun t1 => some (t1.1, t1.2)) else (if x1 = true then ((c80 x2 9218868437227405312).bind fun t2 => some (t2, 0)) else (if x13 = 3 then some (x0, 0) else ((c81 x4 x5 x6 x7 x8 x9 x10 x11).bind fun t3 => ((c76 x12 x13 x14 x15).bind fun t4 => ((c77 t3.1 t3.2.1 t3.2.2 t4.1 t4.2.1 t4.2.2).bind fun t5 => ((c78 t5.1 t5.2.1 t5.2.2).bind fun t6 => some (t6.1, t6.2))))))))
noncomputable def l3999 (n : Nat) (x0 : Int) (x1 x2 x3 x4 : Bool) (x5 x6 x7 : Int) (x8 : Bool) (x9 x10 x11 : Int) (x12 : Bool) (x13 x14 x15 : Int) : Ω (Int × Int) := b3999 ieee_Decode.f soft_invalid.f soft_termOf.f (soft_term_plus.f n) (soft_term_rounded.f n) soft_withSign.f (soft_product.f n) x0 x1 x2 x3 x4 x5 x6 x7 x8 x9 x10 x11 x12 x13 x14 x15
noncomputable def l15 (n : Nat) (x0 : Int) (x1 x2 : Bool) (x3 x4 x5 : Int) (x6 : Bool) (x7 x8 x9 : Int) (x10 : Bool) (x11 x12 x13 : Int) : Ω (Int × Int) := b15 ieee_Decode.f soft_invalid.f soft_termOf.f (soft_term_plus.f n) (soft_term_rounded.f n) soft_withSign.f (soft_product.f n) (l3999 n) x0 x1 x2 x3 x4 x5 x6 x7 x8 x9 x10 x11 x12 x13
noncomputable def f (n : Nat) (a0 a1 a2 : Int) : Ω (Int × Int) := b0 ieee_Decode.f soft_invalid.f soft_termOf.f (soft_term_plus.f n) (soft_term_rounded.f n) soft_withSign.f (soft_product.f n) (l15 n) a0 a1 a2
noncomputable def sg : Sig (Int × Int) := s2 (sInt .u64) (s1 (sInt .i64))
noncomputable def code : Code := (Tryd.f49.body).getD .skip
noncomputable def cfg (c20 : Int→Ω (Bool × Int × Int × Int)) (c75 : Ω (Int × Int)) (c76 : Bool→Int→Int→Int→Ω (Bool × Λ × Int)) (c77 : Bool→Λ→Int→Bool→Λ→Int→Ω (Bool × Λ × Int)) (c78 : Bool→Λ→Int→Ω (Int × Int)) (c80 : Bool→Int→Ω (Int)) (c81 : Bool→Int→Int→Int→Bool→Int→Int→Int→Ω (Bool × Λ × Int)) : Cfg (Int × Int) := { T := tys, call := orCall 20 (ieee_Decode.call c20) (orCall 75 (soft_invalid.call c75) (orCall 76 (soft_termOf.call c76) (orCall 77 (soft_term_plus.call c77) (orCall 78 (soft_term_rounded.call c78) (orCall 80 (soft_withSign.call c80) (orCall 81 (soft_product.call c81) (noCall))))))) }
noncomputable def cuts : List (Nat × List (Nat × Want)) := [(15, [(2, .keep), (8, .keep), (9, .keep), (10, .keep), (11, .keep)]), (3999, [(2, .keep), (8, .keep), (9, .keep), (10, .keep), (11, .keep), (12, .keep), (61, .keep)])]
noncomputable def s15 (x0 : Int) (x1 x2 : Bool) (x3 x4 x5 : Int) (x6 : Bool) (x7 x8 x9 : Int) (x10 : Bool) (x11 x12 x13 : Int) : ASt := ⟨[(2, .int .u64 x0), (8, .ptr 0 0), (9, .ptr 1 0), (10, .ptr 2 0), (11, .bool x1)], [.cells 46 [.bool x2, .int .i64 x3, .int .u64 x4, .int .i64 x5], .cells 46 [.bool x6, .int .i64 x7, .int .u64 x8, .int .i64 x9], .cells 46 [.bool x10, .int .i64 x11, .int .u64 x12, .int .i64 x13]]⟩
noncomputable def s3999 (x0 : Int) (x1 x2 x3 x4 : Bool) (x5 x6 x7 : Int) (x8 : Bool) (x9 x10 x11 : Int) (x12 : Bool) (x13 x14 x15 : Int) : ASt := ⟨[(2, .int .u64 x0), (8, .ptr 0 0), (9, .ptr 1 0), (10, .ptr 2 0), (11, .bool x1), (12, .bool x2), (61, .bool x3)], [.cells 46 [.bool x4, .int .i64 x5, .int .u64 x6, .int .i64 x7], .cells 46 [.bool x8, .int .i64 x9, .int .u64 x10, .int .i64 x11], .cells 46 [.bool x12, .int .i64 x13, .int .u64 x14, .int .i64 x15]]⟩
noncomputable def A (c20 : Int→Ω (Bool × Int × Int × Int)) (c75 : Ω (Int × Int)) (c76 : Bool→Int→Int→Int→Ω (Bool × Λ × Int)) (c77 : Bool→Λ→Int→Bool→Λ→Int→Ω (Bool × Λ × Int)) (c78 : Bool→Λ→Int→Ω (Int × Int)) (c80 : Bool→Int→Ω (Int)) (c81 : Bool→Int→Int→Int→Bool→Int→Int→Int→Ω (Bool × Λ × Int)) (n : Nat) (J : Jt (Int × Int)) (q : Nat) (ms : List Nat) : ASt→Ω (Int × Int) := acont (cfg c20 c75 c76 c77 c78 c80 c81) J cuts n q code 1 ms (aend (cfg c20 c75 c76 c77 c78 c80 c81) Tryd.f49.results.toList [false, false] sg.out)
theorem e0 {c20 c75 c76 c77 c78 c80 c81 n J a0 a1 a2} : afun (cfg c20 c75 c76 c77 c78 c80 c81) J cuts n code Tryd.f49.results.toList [false, false] [.int .u64 a0, .int .u64 a1, .int .u64 a2] sg.out = b0 c20 c75 c76 c77 c78 c80 c81 (fun y0 y1 y2 y3 y4 y5 y6 y7 y8 y9 y10 y11 y12 y13 => J 15 (A c20 c75 c76 c77 c78 c80 c81 n J 15 []) (s15 y0 y1 y2 y3 y4 y5 y6 y7 y8 y9 y10 y11 y12 y13)) a0 a1 a2 := by kernel_rfl
theorem e15 {c20 c75 c76 c77 c78 c80 c81 n J x0 x1 x2 x3 x4 x5 x6 x7 x8 x9 x10 x11 x12 x13} : A c20 c75 c76 c77 c78 c80 c81 n J 15 [] (s15 x0 x1 x2 x3 x4 x5 x6 x7 x8 x9 x10 x11 x12 x13) = b15 c20 c75 c76 c77 c78 c80 c81 (fun y0 y1 y2 y3 y4 y5 y6 y7 y8 y9 y10 y11 y12 y13 y14 y15 => J 3999 (A c20 c75 c76 c77 c78 c80 c81 n J 3999 []) (s3999 y0 y1 y2 y3 y4 y5 y6 y7 y8 y9 y10 y11 y12 y13 y14 y15)) x0 x1 x2 x3 x4 x5 x6 x7 x8 x9 x10 x11 x12 x13 := by kernel_rfl
theorem e3999 {c20 c75 c76 c77 c78 c80 c81 n J x0 x1 x2 x3 x4 x5 x6 x7 x8 x9 x10 x11 x12 x13 x14 x15} : A c20 c75 c76 c77 c78 c80 c81 n J 3999 [] (s3999 x0 x1 x2 x3 x4 x5 x6 x7 x8 x9 x10 x11 x12 x13 x14 x15) = b3999 c20 c75 c76 c77 c78 c80 c81 x0 x1 x2 x3 x4 x5 x6 x7 x8 x9 x10 x11 x12 x13 x14 x15 := by kernel_rfl
noncomputable abbrev I (n : Nat) := A ieee_Decode.f soft_invalid.f soft_termOf.f (soft_term_plus.f n) (soft_term_rounded.f n) soft_withSign.f (soft_product.f n) n idJ
theorem q3999 (n x0 x1 x2 x3 x4 x5 x6 x7 x8 x9 x10 x11 x12 x13 x14 x15) : I n 3999 [] (s3999 x0 x1 x2 x3 x4 x5 x6 x7 x8 x9 x10 x11 x12 x13 x14 x15) = l3999 n x0 x1 x2 x3 x4 x5 x6 x7 x8 x9 x10 x11 x12 x13 x14 x15 := e3999
theorem q15 (n x0 x1 x2 x3 x4 x5 x6 x7 x8 x9 x10 x11 x12 x13) : I n 15 [] (s15 x0 x1 x2 x3 x4 x5 x6 x7 x8 x9 x10 x11 x12 x13) = l15 n x0 x1 x2 x3 x4 x5 x6 x7 x8 x9 x10 x11 x12 x13 := e15.trans (Eq.trans (cf14 (congrArg (b15 _ _ _ _ _ _ _) (fu16 (q3999 n))) _ _ _ _ _ _ _ _ _ _ _ _ _ _) rfl)
theorem ok {n  a0 a1 a2 r} (h : f n a0 a1 a2 = some r) : CallD Tryd.prog HW 49 [.int .u64 a0, .int .u64 a1, .int .u64 a2] (sg.enc r) :=
  fun_some hwS Tryd.func49 (by kernel_rfl) (body := code) (by kernel_rfl) tys_ok (c := cfg ieee_Decode.f soft_invalid.f soft_termOf.f (soft_term_plus.f n) (soft_term_rounded.f n) soft_withSign.f (soft_product.f n)) (orCall_ok ieee_Decode.call_ok (orCall_ok soft_invalid.call_ok (orCall_ok soft_termOf.call_ok (orCall_ok (soft_term_plus.call_ok (n := n)) (orCall_ok (soft_term_rounded.call_ok (n := n)) (orCall_ok soft_withSign.call_ok (orCall_ok (soft_product.call_ok (n := n)) noCall_ok))))))) noW_ok (by kernel_rfl) (by kernel_rfl) (Nat.le_of_ble_eq_true (by kernel_rfl)) (Eq.trans ((e0 (n := n)).trans (Eq.trans (cf3 (congrArg (b0 _ _ _ _ _ _ _) (fu14 (q15 n))) _ _ _) rfl)) h)
noncomputable def call {α : Type} (g : Int→Int→Int→Ω (Int × Int)) (ds : List D) (K : List D→Ω α) : Ω α := match ds with
  | [.int .u64 a0, .int .u64 a1, .int .u64 a2] => (g a0 a1 a2).bind fun r => K (sg.enc r)
  | _ => none
theorem call_ok {α : Type} {n : Nat} : COK Tryd.prog HW 49 (call (α := α) (f n)) := fun _ _ _ h => by
  unfold call at h; split at h
  · exact cok h fun _ => ok
  · cases h
end soft_fma
/-! ### nat_Trim: function 100 -/
namespace nat_Trim
noncomputable def b0 (c51 : Λ→Ω (Int)) (l0 : Λ) : Ω (Λ) := ((c51 l0).bind fun t1 => (if 0 ≤ t1 then (if t1.toNat ≤ 35184372088832 then (if 0 ≤ t1 then (if t1 ≤ (ln l0) then ((some (l0.take t1.toNat) : Ω (Λ)).bind fun y2 => (if y2.length = (List.replicate t1.toNat (0 : Int)).length then some y2 else none)) else none) else none) else none) else none))
noncomputable def f (n : Nat) (l0 : Λ) : Ω (Λ) := b0 (nat_size.f n) l0
noncomputable def sg : Sig (Λ) := s1 (sRow .u64)
noncomputable def code : Code := (Tryd.f100.body).getD .skip
noncomputable def cfg (c51 : Λ→Ω (Int)) : Cfg (Λ) := { T := tys, call := orCall 51 (nat_size.call c51) (noCall) }
noncomputable def cuts : List (Nat × List (Nat × Want)) := []
theorem e0 {c51 n J l0} : afun (cfg c51) J cuts n code Tryd.f100.results.toList [false] [.ro .u64 l0] sg.out = b0 c51 l0 := by kernel_rfl
theorem ok {n  l0 r} (h : f n l0 = some r) : CallD Tryd.prog HW 100 [.ro .u64 l0] (sg.enc r) :=
  fun_some hwS Tryd.func100 (by kernel_rfl) (body := code) (by kernel_rfl) tys_ok (c := cfg (nat_size.f n)) (orCall_ok (nat_size.call_ok (n := n)) noCall_ok) noW_ok (by kernel_rfl) (by kernel_rfl) (Nat.le_of_ble_eq_true (by kernel_rfl)) (Eq.trans ((e0 (n := n))) h)
noncomputable def call {α : Type} (g : Λ→Ω (Λ)) (ds : List D) (K : List D→Ω α) : Ω α := match ds with
  | [.ro .u64 l0] => (g l0).bind fun r => K (sg.enc r)
  | _ => none
theorem call_ok {α : Type} {n : Nat} : COK Tryd.prog HW 100 (call (α := α) (f n)) := fun _ _ _ h => by
  unfold call at h; split at h
  · exact cok h fun _ => ok
  · cases h
end nat_Trim
/-! ### quot_small: function 91 -/
namespace quot_small
noncomputable def b0 (c100 : Λ→Ω (Λ)) (l0 : Λ) (a1 : Int) : Ω (Λ × Bool) := ((c100 l0).bind fun t1 => some (t1, decide ((ln t1) ≤ a1)))
noncomputable def f (n : Nat) (l0 : Λ) (a1 : Int) : Ω (Λ × Bool) := b0 (nat_Trim.f n) l0 a1
noncomputable def sg : Sig (Λ × Bool) := s2 (sRow .u64) (s1 (sBool))
noncomputable def code : Code := (Tryd.f91.body).getD .skip
noncomputable def cfg (c100 : Λ→Ω (Λ)) : Cfg (Λ × Bool) := { T := tys, call := orCall 100 (nat_Trim.call c100) (noCall) }
noncomputable def cuts : List (Nat × List (Nat × Want)) := []
theorem e0 {c100 n J l0 a1} : afun (cfg c100) J cuts n code Tryd.f91.results.toList [false, false] [.ro .u64 l0, .int .i64 a1] sg.out = b0 c100 l0 a1 := by kernel_rfl
theorem ok {n  l0 a1 r} (h : f n l0 a1 = some r) : CallD Tryd.prog HW 91 [.ro .u64 l0, .int .i64 a1] (sg.enc r) :=
  fun_some hwS Tryd.func91 (by kernel_rfl) (body := code) (by kernel_rfl) tys_ok (c := cfg (nat_Trim.f n)) (orCall_ok (nat_Trim.call_ok (n := n)) noCall_ok) noW_ok (by kernel_rfl) (by kernel_rfl) (Nat.le_of_ble_eq_true (by kernel_rfl)) (Eq.trans ((e0 (n := n))) h)
noncomputable def call {α : Type} (g : Λ→Int→Ω (Λ × Bool)) (ds : List D) (K : List D→Ω α) : Ω α := match ds with
  | [.ro .u64 l0, .int .i64 a1] => (g l0 a1).bind fun r => K (sg.enc r)
  | _ => none
theorem call_ok {α : Type} {n : Nat} : COK Tryd.prog HW 91 (call (α := α) (f n)) := fun _ _ _ h => by
  unfold call at h; split at h
  · exact cok h fun _ => ok
  · cases h
end quot_small
/-! ### bits_LeadingZeros64: function 104 -/
namespace bits_LeadingZeros64
noncomputable def b0 (c67 : Int→Ω (Int)) (a0 : Int) : Ω (Int) := ((c67 a0).bind fun t1 => some (wrap64 (64 - t1)))
noncomputable def f (a0 : Int) : Ω (Int) := b0 bits_Len64.f a0
noncomputable def sg : Sig (Int) := s1 (sInt .i64)
noncomputable def code : Code := (Tryd.f104.body).getD .skip
noncomputable def cfg (c67 : Int→Ω (Int)) : Cfg (Int) := { T := tys, call := orCall 67 (bits_Len64.call c67) (noCall) }
noncomputable def cuts : List (Nat × List (Nat × Want)) := []
theorem e0 {c67 n J a0} : afun (cfg c67) J cuts n code Tryd.f104.results.toList [false] [.int .u64 a0] sg.out = b0 c67 a0 := by kernel_rfl
theorem ok {a0 r} (h : f a0 = some r) : CallD Tryd.prog HW 104 [.int .u64 a0] (sg.enc r) :=
  fun_some hwS Tryd.func104 (by kernel_rfl) (body := code) (by kernel_rfl) tys_ok (c := cfg bits_Len64.f) (orCall_ok bits_Len64.call_ok noCall_ok) noW_ok (by kernel_rfl) (by kernel_rfl) (Nat.le_of_ble_eq_true (by kernel_rfl)) (Eq.trans ((e0 (n := 0))) h)
noncomputable def call {α : Type} (g : Int→Ω (Int)) (ds : List D) (K : List D→Ω α) : Ω α := match ds with
  | [.int .u64 a0] => (g a0).bind fun r => K (sg.enc r)
  | _ => none
theorem call_ok {α : Type} : COK Tryd.prog HW 104 (call (α := α) f) := fun _ _ _ h => by
  unfold call at h; split at h
  · exact cok h fun _ => ok
  · cases h
end bits_LeadingZeros64
/-! ### bits_Div64: function 97 -/
namespace bits_Div64
noncomputable def b0 (c104 : Int→Ω (Int)) (k262137 : Int→Int→Int→Int→Int→Int→Int→Int→Int→Ω (Int × Int)) (a0 a1 a2 : Int) : Ω (Int × Int) := (if a2 = 0 then none else (if a2 ≤ a0 then none else (if a0 = 0 then (if a2 = 0 then none else (if a2 = 0 then none else some (IntKind.u64.wrap (Int.tdiv a1 a2), Int.tmod a1 a2))) else ((c104 a2).bind fun t1 => (if 0 ≤ (IntKind.u64.wrap t1) then (if 0 ≤ (IntKind.u64.wrap t1) then (if 0 ≤ (IntKind.u64.wrap (64 - (IntKind.u64.wrap t1))) then (if 0 ≤ (IntKind.u64.wrap t1) then (if ((shl .u64 a2 (IntKind.u64.wrap t1)) / 4294967296) = 0 then none else k262137 (shl .u64 a2 (IntKind.u64.wrap t1)) (IntKind.u64.wrap t1) ((shl .u64 a2 (IntKind.u64.wrap t1)) / 4294967296) (Go.bits .and .u64 (shl .u64 a2 (IntKind.u64.wrap t1)) 4294967295) (Go.bits .or .u64 (shl .u64 a0 (IntKind.u64.wrap t1)) (shr .u64 a1 (IntKind.u64.wrap (64 - (IntKind.u64.wrap t1))))) ((shl .u64 a1 (IntKind.u64.wrap t1)) / 4294967296) (Go.bits .and .u64 (shl .u64 a1 (IntKind.u64.wrap t1)) 4294967295) (IntKind.u64.wrap (Int.tdiv (Go.bits .or .u64 (shl .u64 a0 (IntKind.u64.wrap t1)) (shr .u64 a1 (IntKind.u64.wrap (64 - (IntKind.u64.wrap t1))))) ((shl .u64 a2 (IntKind.u64.wrap t1)) / 4294967296))) (IntKind.u64.wrap ((Go.bits .or .u64 (shl .u64 a0 (IntKind.u64.wrap t1)) (shr .u64 a1 (IntKind.u64.wrap (64 - (IntKind.u64.wrap t1))))) - (IntKind.u64.wrap ((IntKind.u64.wrap (Int.tdiv (Go.bits .or .u64 (shl .u64 a0 (IntKind.u64.wrap t1)) (shr .u64 a1 (IntKind.u64.wrap (64 - (IntKind.u64.wrap t1))))) ((shl .u64 a2 (IntKind.u64.wrap t1)) / 4294967296))) * ((shl .u64 a2 (IntKind.u64.wrap t1)) / 4294967296)))))) else none) else none) else none) else none)))))
noncomputable def b65535 (c104 : Int→Ω (Int)) (k4194297 : Int→Int→Int→Int→Int→Int→Int→Int→Int→Ω (Int × Int)) (x0 x1 x2 x3 x4 x5 x6 x7 : Int) : Ω (Int × Int) := (if x2 = 0 then none else k4194297 x0 x1 x2 x3 x6 x7 (IntKind.u64.wrap ((IntKind.u64.wrap ((IntKind.u64.wrap ((IntKind.u64.wrap (x4 * 4294967296)) + x5)) - (IntKind.u64.wrap (x7 * x0)))) - (IntKind.u64.wrap ((IntKind.u64.wrap (Int.tdiv (IntKind.u64.wrap ((IntKind.u64.wrap ((IntKind.u64.wrap (x4 * 4294967296)) + x5)) - (IntKind.u64.wrap (x7 * x0)))) x2)) * x2)))) (IntKind.u64.wrap ((IntKind.u64.wrap ((IntKind.u64.wrap (x4 * 4294967296)) + x5)) - (IntKind.u64.wrap (x7 * x0)))) (IntKind.u64.wrap (Int.tdiv (IntKind.u64.wrap ((IntKind.u64.wrap ((IntKind.u64.wrap (x4 * 4294967296)) + x5)) - (IntKind.u64.wrap (x7 * x0)))) x2)))
noncomputable def b262137 (c104 : Int→Ω (Int)) (k65535 : Int→Int→Int→Int→Int→Int→Int→Int→Ω (Int × Int)) (k524273 : Int→Int→Int→Int→Int→Int→Int→Int→Int→Ω (Int × Int)) (x0 x1 x2 x3 x4 x5 x6 x7 x8 : Int) : Ω (Int × Int) := (if x7 ≥ 4294967296 then k524273 x0 x1 x2 x3 x4 x5 x6 x7 x8 else (if (IntKind.u64.wrap (x7 * x3)) > (IntKind.u64.wrap ((IntKind.u64.wrap (4294967296 * x8)) + x5)) then k524273 x0 x1 x2 x3 x4 x5 x6 x7 x8 else k65535 x0 x1 x2 x3 x4 x5 x6 x7))
noncomputable def b524273 (c104 : Int→Ω (Int)) (k65535 : Int→Int→Int→Int→Int→Int→Int→Int→Ω (Int × Int)) (k262137 : Int→Int→Int→Int→Int→Int→Int→Int→Int→Ω (Int × Int)) (x0 x1 x2 x3 x4 x5 x6 x7 x8 : Int) : Ω (Int × Int) := (if (IntKind.u64.wrap (x8 + x2)) ≥ 4294967296 then k65535 x0 x1 x2 x3 x4 x5 x6 (IntKind.u64.wrap (x7 - 1)) else k262137 x0 x1 x2 x3 x4 x5 x6 (IntKind.u64.wrap (x7 - 1)) (IntKind.u64.wrap (x8 + x2)))
noncomputable def b1048575 (c104 : Int→Ω (Int)) (x0 x1 x2 x3 x4 x5 : Int) : Ω (Int × Int) := (if 0 ≤ x1 then some (IntKind.u64.wrap ((IntKind.u64.wrap (x3 * 4294967296)) + x5), shr .u64 (IntKind.u64.wrap ((IntKind.u64.wrap ((IntKind.u64.wrap (x4 * 4294967296)) + x2)) - (IntKind.u64.wrap (x5 * x0)))) x1) else none)
noncomputable def b4194297 (c104 : Int→Ω (Int)) (k1048575 : Int→Int→Int→Int→Int→Int→Ω (Int × Int)) (k8388593 : Int→Int→Int→Int→Int→Int→Int→Int→Int→Ω (Int × Int)) (x0 x1 x2 x3 x4 x5 x6 x7 x8 : Int) : Ω (Int × Int) := (if x8 ≥ 4294967296 then k8388593 x0 x1 x2 x3 x4 x5 x6 x7 x8 else (if (IntKind.u64.wrap (x8 * x3)) > (IntKind.u64.wrap ((IntKind.u64.wrap (4294967296 * x6)) + x4)) then k8388593 x0 x1 x2 x3 x4 x5 x6 x7 x8 else k1048575 x0 x1 x4 x5 x7 x8))
noncomputable def b8388593 (c104 : Int→Ω (Int)) (k1048575 : Int→Int→Int→Int→Int→Int→Ω (Int × Int)) (k4194297 : Int→Int→Int→Int→Int→Int→Int→Int→Int→Ω (Int × Int)) (x0 x1 x2 x3 x4 x5 x6 x7 x8 : Int) : Ω (Int × Int) := (if (IntKind.u64.wrap (x6 + x2)) ≥ 4294967296 then k1048575 x0 x1 x4 x5 x7 (IntKind.u64.wrap (x8 - 1)) else k4194297 x0 x1 x2 x3 x4 x5 (IntKind.u64.wrap (x6 + x2)) x7 (IntKind.u64.wrap (x8 - 1)))
noncomputable def l1048575 (n : Nat) (x0 x1 x2 x3 x4 x5 : Int) : Ω (Int × Int) := b1048575 bits_LeadingZeros64.f x0 x1 x2 x3 x4 x5
noncomputable def l8388593 (n : Nat) (k4194297 : Int→Int→Int→Int→Int→Int→Int→Int→Int→Ω (Int × Int)) (x0 x1 x2 x3 x4 x5 x6 x7 x8 : Int) : Ω (Int × Int) := b8388593 bits_LeadingZeros64.f (l1048575 n) k4194297 x0 x1 x2 x3 x4 x5 x6 x7 x8
noncomputable def l4194297 (n : Nat) : Nat→Int→Int→Int→Int→Int→Int→Int→Int→Int→Ω (Int × Int)
  | 0, _, _, _, _, _, _, _, _, _ => none
  | m + 1, x0, x1, x2, x3, x4, x5, x6, x7, x8 => b4194297 bits_LeadingZeros64.f (l1048575 n) (l8388593 n (l4194297 n m)) x0 x1 x2 x3 x4 x5 x6 x7 x8
noncomputable def l65535 (n : Nat) (x0 x1 x2 x3 x4 x5 x6 x7 : Int) : Ω (Int × Int) := b65535 bits_LeadingZeros64.f (l4194297 n n) x0 x1 x2 x3 x4 x5 x6 x7
noncomputable def l524273 (n : Nat) (k262137 : Int→Int→Int→Int→Int→Int→Int→Int→Int→Ω (Int × Int)) (x0 x1 x2 x3 x4 x5 x6 x7 x8 : Int) : Ω (Int × Int) := b524273 bits_LeadingZeros64.f (l65535 n) k262137 x0 x1 x2 x3 x4 x5 x6 x7 x8
noncomputable def l262137 (n : Nat) : Nat→Int→Int→Int→Int→Int→Int→Int→Int→Int→Ω (Int × Int)
  | 0, _, _, _, _, _, _, _, _, _ => none
  | m + 1, x0, x1, x2, x3, x4, x5, x6, x7, x8 => b262137 bits_LeadingZeros64.f (l65535 n) (l524273 n (l262137 n m)) x0 x1 x2 x3 x4 x5 x6 x7 x8
noncomputable def f (n : Nat) (a0 a1 a2 : Int) : Ω (Int × Int) := b0 bits_LeadingZeros64.f (l262137 n n) a0 a1 a2
noncomputable def sg : Sig (Int × Int) := s2 (sInt .u64) (s1 (sInt .u64))
noncomputable def code : Code := (Tryd.f97.body).getD .skip
noncomputable def cfg (c104 : Int→Ω (Int)) : Cfg (Int × Int) := { T := tys, call := orCall 104 (bits_LeadingZeros64.call c104) (noCall) }
noncomputable def cuts : List (Nat × List (Nat × Want)) := [(65535, [(2, .keep), (8, .keep), (9, .keep), (10, .keep), (11, .keep), (13, .keep), (14, .keep), (15, .keep)]), (262137, [(2, .keep), (8, .keep), (9, .keep), (10, .keep), (11, .keep), (13, .keep), (14, .keep), (15, .keep), (16, .keep)]), (524273, [(2, .keep), (8, .keep), (9, .keep), (10, .keep), (11, .keep), (13, .keep), (14, .keep), (15, .keep), (16, .keep)]), (1048575, [(2, .keep), (8, .keep), (14, .keep), (15, .keep), (17, .keep), (18, .keep)]), (4194297, [(2, .keep), (8, .keep), (9, .keep), (10, .keep), (14, .keep), (15, .keep), (16, .keep), (17, .keep), (18, .keep)]), (8388593, [(2, .keep), (8, .keep), (9, .keep), (10, .keep), (14, .keep), (15, .keep), (16, .keep), (17, .keep), (18, .keep)])]
noncomputable def s65535 (x0 x1 x2 x3 x4 x5 x6 x7 : Int) : ASt := ⟨[(2, .int .u64 x0), (8, .int .u64 x1), (9, .int .u64 x2), (10, .int .u64 x3), (11, .int .u64 x4), (13, .int .u64 x5), (14, .int .u64 x6), (15, .int .u64 x7)], []⟩
noncomputable def s262137 (x0 x1 x2 x3 x4 x5 x6 x7 x8 : Int) : ASt := ⟨[(2, .int .u64 x0), (8, .int .u64 x1), (9, .int .u64 x2), (10, .int .u64 x3), (11, .int .u64 x4), (13, .int .u64 x5), (14, .int .u64 x6), (15, .int .u64 x7), (16, .int .u64 x8)], []⟩
noncomputable def s524273 (x0 x1 x2 x3 x4 x5 x6 x7 x8 : Int) : ASt := ⟨[(2, .int .u64 x0), (8, .int .u64 x1), (9, .int .u64 x2), (10, .int .u64 x3), (11, .int .u64 x4), (13, .int .u64 x5), (14, .int .u64 x6), (15, .int .u64 x7), (16, .int .u64 x8)], []⟩
noncomputable def s1048575 (x0 x1 x2 x3 x4 x5 : Int) : ASt := ⟨[(2, .int .u64 x0), (8, .int .u64 x1), (14, .int .u64 x2), (15, .int .u64 x3), (17, .int .u64 x4), (18, .int .u64 x5)], []⟩
noncomputable def s4194297 (x0 x1 x2 x3 x4 x5 x6 x7 x8 : Int) : ASt := ⟨[(2, .int .u64 x0), (8, .int .u64 x1), (9, .int .u64 x2), (10, .int .u64 x3), (14, .int .u64 x4), (15, .int .u64 x5), (16, .int .u64 x6), (17, .int .u64 x7), (18, .int .u64 x8)], []⟩
noncomputable def s8388593 (x0 x1 x2 x3 x4 x5 x6 x7 x8 : Int) : ASt := ⟨[(2, .int .u64 x0), (8, .int .u64 x1), (9, .int .u64 x2), (10, .int .u64 x3), (14, .int .u64 x4), (15, .int .u64 x5), (16, .int .u64 x6), (17, .int .u64 x7), (18, .int .u64 x8)], []⟩
noncomputable def A (c104 : Int→Ω (Int)) (n : Nat) (J : Jt (Int × Int)) (q : Nat) (ms : List Nat) : ASt→Ω (Int × Int) := acont (cfg c104) J cuts n q code 1 ms (aend (cfg c104) Tryd.f97.results.toList [false, false] sg.out)
theorem e0 {c104 n J a0 a1 a2} : afun (cfg c104) J cuts n code Tryd.f97.results.toList [false, false] [.int .u64 a0, .int .u64 a1, .int .u64 a2] sg.out = b0 c104 (fun y0 y1 y2 y3 y4 y5 y6 y7 y8 => J 262137 (A c104 n J 262137 [n]) (s262137 y0 y1 y2 y3 y4 y5 y6 y7 y8)) a0 a1 a2 := by kernel_rfl
theorem e65535 {c104 n J x0 x1 x2 x3 x4 x5 x6 x7} : A c104 n J 65535 [] (s65535 x0 x1 x2 x3 x4 x5 x6 x7) = b65535 c104 (fun y0 y1 y2 y3 y4 y5 y6 y7 y8 => J 4194297 (A c104 n J 4194297 [n]) (s4194297 y0 y1 y2 y3 y4 y5 y6 y7 y8)) x0 x1 x2 x3 x4 x5 x6 x7 := by kernel_rfl
theorem e262137 {c104 n J m x0 x1 x2 x3 x4 x5 x6 x7 x8} : A c104 n J 262137 [m + 1] (s262137 x0 x1 x2 x3 x4 x5 x6 x7 x8) = b262137 c104 (fun y0 y1 y2 y3 y4 y5 y6 y7 => J 65535 (A c104 n J 65535 []) (s65535 y0 y1 y2 y3 y4 y5 y6 y7)) (fun y0 y1 y2 y3 y4 y5 y6 y7 y8 => J 524273 (A c104 n J 524273 [m]) (s524273 y0 y1 y2 y3 y4 y5 y6 y7 y8)) x0 x1 x2 x3 x4 x5 x6 x7 x8 := by kernel_rfl
theorem e524273 {c104 n J m262137 x0 x1 x2 x3 x4 x5 x6 x7 x8} : A c104 n J 524273 [m262137] (s524273 x0 x1 x2 x3 x4 x5 x6 x7 x8) = b524273 c104 (fun y0 y1 y2 y3 y4 y5 y6 y7 => J 65535 (A c104 n J 65535 []) (s65535 y0 y1 y2 y3 y4 y5 y6 y7)) (fun y0 y1 y2 y3 y4 y5 y6 y7 y8 => J 262137 (A c104 n J 262137 [m262137]) (s262137 y0 y1 y2 y3 y4 y5 y6 y7 y8)) x0 x1 x2 x3 x4 x5 x6 x7 x8 := by kernel_rfl
theorem e1048575 {c104 n J x0 x1 x2 x3 x4 x5} : A c104 n J 1048575 [] (s1048575 x0 x1 x2 x3 x4 x5) = b1048575 c104 x0 x1 x2 x3 x4 x5 := by kernel_rfl
theorem e4194297 {c104 n J m x0 x1 x2 x3 x4 x5 x6 x7 x8} : A c104 n J 4194297 [m + 1] (s4194297 x0 x1 x2 x3 x4 x5 x6 x7 x8) = b4194297 c104 (fun y0 y1 y2 y3 y4 y5 => J 1048575 (A c104 n J 1048575 []) (s1048575 y0 y1 y2 y3 y4 y5)) (fun y0 y1 y2 y3 y4 y5 y6 y7 y8 => J 8388593 (A c104 n J 8388593 [m]) (s8388593 y0 y1 y2 y3 y4 y5 y6 y7 y8)) x0 x1 x2 x3 x4 x5 x6 x7 x8 := by kernel_rfl
theorem e8388593 {c104 n J m4194297 x0 x1 x2 x3 x4 x5 x6 x7 x8} : A c104 n J 8388593 [m4194297] (s8388593 x0 x1 x2 x3 x4 x5 x6 x7 x8) = b8388593 c104 (fun y0 y1 y2 y3 y4 y5 => J 1048575 (A c104 n J 1048575 []) (s1048575 y0 y1 y2 y3 y4 y5)) (fun y0 y1 y2 y3 y4 y5 y6 y7 y8 => J 4194297 (A c104 n J 4194297 [m4194297]) (s4194297 y0 y1 y2 y3 y4 y5 y6 y7 y8)) x0 x1 x2 x3 x4 x5 x6 x7 x8 := by kernel_rfl
noncomputable abbrev I (n : Nat) := A bits_LeadingZeros64.f n idJ
theorem q1048575 (n x0 x1 x2 x3 x4 x5) : I n 1048575 [] (s1048575 x0 x1 x2 x3 x4 x5) = l1048575 n x0 x1 x2 x3 x4 x5 := e1048575
theorem q8388593 (n m4194297 x0 x1 x2 x3 x4 x5 x6 x7 x8) : I n 8388593 [m4194297] (s8388593 x0 x1 x2 x3 x4 x5 x6 x7 x8) = l8388593 n (fun y0 y1 y2 y3 y4 y5 y6 y7 y8 => I n 4194297 [m4194297] (s4194297 y0 y1 y2 y3 y4 y5 y6 y7 y8)) x0 x1 x2 x3 x4 x5 x6 x7 x8 := e8388593.trans (Eq.trans (cf9 (congr (congrArg (b8388593 _) (fu6 (q1048575 n))) rfl) _ _ _ _ _ _ _ _ _) rfl)
theorem q4194297 (n m) : ∀ x0 x1 x2 x3 x4 x5 x6 x7 x8, I n 4194297 [m] (s4194297 x0 x1 x2 x3 x4 x5 x6 x7 x8) = l4194297 n m x0 x1 x2 x3 x4 x5 x6 x7 x8 := by
  induction m with
  | zero => intros; rfl
  | succ m ih =>
    intros
    exact e4194297.trans (Eq.trans (cf9 (congr (congrArg (b4194297 _) (fu6 (q1048575 n))) ((fu9 (q8388593 n m)).trans (by rw [show (fun y0 y1 y2 y3 y4 y5 y6 y7 y8 => I n 4194297 [m] (s4194297 y0 y1 y2 y3 y4 y5 y6 y7 y8)) = _ from (fu9 (ih))]))) _ _ _ _ _ _ _ _ _) rfl)
theorem q65535 (n x0 x1 x2 x3 x4 x5 x6 x7) : I n 65535 [] (s65535 x0 x1 x2 x3 x4 x5 x6 x7) = l65535 n x0 x1 x2 x3 x4 x5 x6 x7 := e65535.trans (Eq.trans (cf8 (congrArg (b65535 _) (fu9 (q4194297 n n))) _ _ _ _ _ _ _ _) rfl)
theorem q524273 (n m262137 x0 x1 x2 x3 x4 x5 x6 x7 x8) : I n 524273 [m262137] (s524273 x0 x1 x2 x3 x4 x5 x6 x7 x8) = l524273 n (fun y0 y1 y2 y3 y4 y5 y6 y7 y8 => I n 262137 [m262137] (s262137 y0 y1 y2 y3 y4 y5 y6 y7 y8)) x0 x1 x2 x3 x4 x5 x6 x7 x8 := e524273.trans (Eq.trans (cf9 (congr (congrArg (b524273 _) (fu8 (q65535 n))) rfl) _ _ _ _ _ _ _ _ _) rfl)
theorem q262137 (n m) : ∀ x0 x1 x2 x3 x4 x5 x6 x7 x8, I n 262137 [m] (s262137 x0 x1 x2 x3 x4 x5 x6 x7 x8) = l262137 n m x0 x1 x2 x3 x4 x5 x6 x7 x8 := by
  induction m with
  | zero => intros; rfl
  | succ m ih =>
    intros
    exact e262137.trans (Eq.trans (cf9 (congr (congrArg (b262137 _) (fu8 (q65535 n))) ((fu9 (q524273 n m)).trans (by rw [show (fun y0 y1 y2 y3 y4 y5 y6 y7 y8 => I n 262137 [m] (s262137 y0 y1 y2 y3 y4 y5 y6 y7 y8)) = _ from (fu9 (ih))]))) _ _ _ _ _ _ _ _ _) rfl)
theorem ok {n  a0 a1 a2 r} (h : f n a0 a1 a2 = some r) : CallD Tryd.prog HW 97 [.int .u64 a0, .int .u64 a1, .int .u64 a2] (sg.enc r) :=
  fun_some hwS Tryd.func97 (by kernel_rfl) (body := code) (by kernel_rfl) tys_ok (c := cfg bits_LeadingZeros64.f) (orCall_ok bits_LeadingZeros64.call_ok noCall_ok) noW_ok (by kernel_rfl) (by kernel_rfl) (Nat.le_of_ble_eq_true (by kernel_rfl)) (Eq.trans ((e0 (n := n)).trans (Eq.trans (cf3 (congrArg (b0 _) (fu9 (q262137 n n))) _ _ _) rfl)) h)
noncomputable def call {α : Type} (g : Int→Int→Int→Ω (Int × Int)) (ds : List D) (K : List D→Ω α) : Ω α := match ds with
  | [.int .u64 a0, .int .u64 a1, .int .u64 a2] => (g a0 a1 a2).bind fun r => K (sg.enc r)
  | _ => none
theorem call_ok {α : Type} {n : Nat} : COK Tryd.prog HW 97 (call (α := α) (f n)) := fun _ _ _ h => by
  unfold call at h; split at h
  · exact cok h fun _ => ok
  · cases h
end bits_Div64
/-! ### nat_DivSmall: function 102 -/
namespace nat_DivSmall
noncomputable def b0 (c50 : Λ→Ω (Bool)) (c51 : Λ→Ω (Int)) (c54 : Λ→Ω (Λ × Int)) (c97 : Int→Int→Int→Ω (Int × Int)) (k2037 : Λ→Int→Int→Int→Λ→Ω (Λ × Int × Int)) (l0 : Λ) (a1 : Int) : Ω (Λ × Int × Int) := ((c50 l0).bind fun t1 => (if t1 = true then some (([] : Λ), 0, 2) else (if a1 = 0 then some (([] : Λ), 0, 4) else ((c51 l0).bind fun t2 => (if 0 ≤ t2 then (if t2 ≤ (ln l0) then ((some (l0.take t2.toNat) : Ω (Λ)).bind fun y3 => (if 0 ≤ (ln y3) then (if (ln y3).toNat ≤ 35184372088832 then k2037 y3 a1 0 (wrap64 ((ln y3) - 1)) (List.replicate (ln y3).toNat (0 : Int)) else none) else none)) else none) else none)))))
noncomputable def b255 (c50 : Λ→Ω (Bool)) (c51 : Λ→Ω (Int)) (c54 : Λ→Ω (Λ × Int)) (c97 : Int→Int→Int→Ω (Int × Int)) (x0 : Int) (x1 : Λ) : Ω (Λ × Int × Int) := ((c54 x1).bind fun t1 => some (t1.1, x0, t1.2))
noncomputable def b2037 (c50 : Λ→Ω (Bool)) (c51 : Λ→Ω (Int)) (c54 : Λ→Ω (Λ × Int)) (c97 : Int→Int→Int→Ω (Int × Int)) (k255 : Int→Λ→Ω (Λ × Int × Int)) (k2037 : Λ→Int→Int→Int→Λ→Ω (Λ × Int × Int)) (x0 : Λ) (x1 x2 x3 : Int) (x4 : Λ) : Ω (Λ × Int × Int) := (if x3 ≥ 0 then (if 0 ≤ x3 then (if x3 < (ln x0) then ((c97 x2 (rd x0 x3) x1).bind fun t1 => (if 0 ≤ x3 then (if x3 < (ln x4) then k2037 x0 x1 t1.2 (wrap64 (x3 - 1)) (x4.set (x3 : Int).toNat t1.1) else none) else none)) else none) else none) else k255 x2 x4)
noncomputable def l255 (n : Nat) (x0 : Int) (x1 : Λ) : Ω (Λ × Int × Int) := b255 (nat_big.f n) (nat_size.f n) (nat_cut.f n) (bits_Div64.f n) x0 x1
noncomputable def l2037 (n : Nat) : Nat→Λ→Int→Int→Int→Λ→Ω (Λ × Int × Int)
  | 0, _, _, _, _, _ => none
  | m + 1, x0, x1, x2, x3, x4 => b2037 (nat_big.f n) (nat_size.f n) (nat_cut.f n) (bits_Div64.f n) (l255 n) (l2037 n m) x0 x1 x2 x3 x4
noncomputable def f (n : Nat) (l0 : Λ) (a1 : Int) : Ω (Λ × Int × Int) := b0 (nat_big.f n) (nat_size.f n) (nat_cut.f n) (bits_Div64.f n) (l2037 n n) l0 a1
noncomputable def sg : Sig (Λ × Int × Int) := s2 (sRow .u64) (s2 (sInt .u64) (s1 (sInt .i64)))
noncomputable def code : Code := (Tryd.f102.body).getD .skip
noncomputable def cfg (c50 : Λ→Ω (Bool)) (c51 : Λ→Ω (Int)) (c54 : Λ→Ω (Λ × Int)) (c97 : Int→Int→Int→Ω (Int × Int)) : Cfg (Λ × Int × Int) := { T := tys, call := orCall 50 (nat_big.call c50) (orCall 51 (nat_size.call c51) (orCall 54 (nat_cut.call c54) (orCall 97 (bits_Div64.call c97) (noCall)))) }
noncomputable def cuts : List (Nat × List (Nat × Want)) := [(255, [(7, .keep), (8, .keep)]), (2037, [(0, .keep), (1, .keep), (7, .keep), (8, .keep), (9, .keep)])]
noncomputable def s255 (x0 : Int) (x1 : Λ) : ASt := ⟨[(7, .own 0), (8, .int .u64 x0)], [.ints 22 .u64 x1]⟩
noncomputable def s2037 (x0 : Λ) (x1 x2 x3 : Int) (x4 : Λ) : ASt := ⟨[(0, .ro .u64 x0), (1, .int .u64 x1), (7, .own 0), (8, .int .u64 x2), (9, .int .i64 x3)], [.ints 22 .u64 x4]⟩
noncomputable def A (c50 : Λ→Ω (Bool)) (c51 : Λ→Ω (Int)) (c54 : Λ→Ω (Λ × Int)) (c97 : Int→Int→Int→Ω (Int × Int)) (n : Nat) (J : Jt (Λ × Int × Int)) (q : Nat) (ms : List Nat) : ASt→Ω (Λ × Int × Int) := acont (cfg c50 c51 c54 c97) J cuts n q code 1 ms (aend (cfg c50 c51 c54 c97) Tryd.f102.results.toList [false, false, false] sg.out)
theorem e0 {c50 c51 c54 c97 n J l0 a1} : afun (cfg c50 c51 c54 c97) J cuts n code Tryd.f102.results.toList [false, false, false] [.ro .u64 l0, .int .u64 a1] sg.out = b0 c50 c51 c54 c97 (fun y0 y1 y2 y3 y4 => J 2037 (A c50 c51 c54 c97 n J 2037 [n]) (s2037 y0 y1 y2 y3 y4)) l0 a1 := by kernel_rfl
theorem e255 {c50 c51 c54 c97 n J x0 x1} : A c50 c51 c54 c97 n J 255 [] (s255 x0 x1) = b255 c50 c51 c54 c97 x0 x1 := by kernel_rfl
theorem e2037 {c50 c51 c54 c97 n J m x0 x1 x2 x3 x4} : A c50 c51 c54 c97 n J 2037 [m + 1] (s2037 x0 x1 x2 x3 x4) = b2037 c50 c51 c54 c97 (fun y0 y1 => J 255 (A c50 c51 c54 c97 n J 255 []) (s255 y0 y1)) (fun y0 y1 y2 y3 y4 => J 2037 (A c50 c51 c54 c97 n J 2037 [m]) (s2037 y0 y1 y2 y3 y4)) x0 x1 x2 x3 x4 := by kernel_rfl
noncomputable abbrev I (n : Nat) := A (nat_big.f n) (nat_size.f n) (nat_cut.f n) (bits_Div64.f n) n idJ
theorem q255 (n x0 x1) : I n 255 [] (s255 x0 x1) = l255 n x0 x1 := e255
theorem q2037 (n m) : ∀ x0 x1 x2 x3 x4, I n 2037 [m] (s2037 x0 x1 x2 x3 x4) = l2037 n m x0 x1 x2 x3 x4 := by
  induction m with
  | zero => intros; rfl
  | succ m ih =>
    intros
    exact e2037.trans (Eq.trans (cf5 (congr (congrArg (b2037 _ _ _ _) (fu2 (q255 n))) (fu5 (ih))) _ _ _ _ _) rfl)
theorem ok {n  l0 a1 r} (h : f n l0 a1 = some r) : CallD Tryd.prog HW 102 [.ro .u64 l0, .int .u64 a1] (sg.enc r) :=
  fun_some hwS Tryd.func102 (by kernel_rfl) (body := code) (by kernel_rfl) tys_ok (c := cfg (nat_big.f n) (nat_size.f n) (nat_cut.f n) (bits_Div64.f n)) (orCall_ok (nat_big.call_ok (n := n)) (orCall_ok (nat_size.call_ok (n := n)) (orCall_ok (nat_cut.call_ok (n := n)) (orCall_ok (bits_Div64.call_ok (n := n)) noCall_ok)))) noW_ok (by kernel_rfl) (by kernel_rfl) (Nat.le_of_ble_eq_true (by kernel_rfl)) (Eq.trans ((e0 (n := n)).trans (Eq.trans (cf2 (congrArg (b0 _ _ _ _) (fu5 (q2037 n n))) _ _) rfl)) h)
noncomputable def call {α : Type} (g : Λ→Int→Ω (Λ × Int × Int)) (ds : List D) (K : List D→Ω α) : Ω α := match ds with
  | [.ro .u64 l0, .int .u64 a1] => (g l0 a1).bind fun r => K (sg.enc r)
  | _ => none
theorem call_ok {α : Type} {n : Nat} : COK Tryd.prog HW 102 (call (α := α) (f n)) := fun _ _ _ h => by
  unfold call at h; split at h
  · exact cok h fun _ => ok
  · cases h
end nat_DivSmall
/-! ### quot_raised: function 105 -/
namespace quot_raised
noncomputable def b0 (k117 : Int→Int→Λ→Int→Int→Λ→Ω (Λ)) (l0 : Λ) (a1 a2 : Int) : Ω (Λ) := (if 0 ≤ a2 then (if a2.toNat ≤ 35184372088832 then k117 a1 a2 l0 (ln l0) 0 (List.replicate a2.toNat (0 : Int)) else none) else none)
noncomputable def b117 (k117 : Int→Int→Λ→Int→Int→Λ→Ω (Λ)) (x0 x1 : Int) (x2 : Λ) (x3 x4 : Int) (x5 : Λ) : Ω (Λ) := (if x4 < x3 then (if 0 ≤ x4 then (if x4 < (ln x2) then (if 0 ≤ x4 then (if x4 < (ln x5) then (if 0 ≤ (IntKind.u64.wrap x0) then (if 0 ≤ x4 then (if x4 < (ln x5) then (if (wrap64 (x4 + 1)) < x1 then (if x0 > 0 then (if 0 ≤ (IntKind.u64.wrap (wrap64 (64 - x0))) then (if 0 ≤ (wrap64 (x4 + 1)) then (if (wrap64 (x4 + 1)) < (ln (x5.set (x4 : Int).toNat (Go.bits .or .u64 (rd x5 x4) (shl .u64 (rd x2 x4) (IntKind.u64.wrap x0))))) then k117 x0 x1 x2 x3 (wrap64 (x4 + 1)) ((x5.set (x4 : Int).toNat (Go.bits .or .u64 (rd x5 x4) (shl .u64 (rd x2 x4) (IntKind.u64.wrap x0)))).set (wrap64 (x4 + 1) : Int).toNat (shr .u64 (rd x2 x4) (IntKind.u64.wrap (wrap64 (64 - x0))))) else none) else none) else none) else k117 x0 x1 x2 x3 (wrap64 (x4 + 1)) (x5.set (x4 : Int).toNat (Go.bits .or .u64 (rd x5 x4) (shl .u64 (rd x2 x4) (IntKind.u64.wrap x0))))) else k117 x0 x1 x2 x3 (wrap64 (x4 + 1)) (x5.set (x4 : Int).toNat (Go.bits .or .u64 (rd x5 x4) (shl .u64 (rd x2 x4) (IntKind.u64.wrap x0))))) else none) else none) else none) else none) else none) else none) else none) else some x5)
noncomputable def l117 (n : Nat) : Nat→Int→Int→Λ→Int→Int→Λ→Ω (Λ)
  | 0, _, _, _, _, _, _ => none
  | m + 1, x0, x1, x2, x3, x4, x5 => b117 (l117 n m) x0 x1 x2 x3 x4 x5
noncomputable def f (n : Nat) (l0 : Λ) (a1 a2 : Int) : Ω (Λ) := b0 (l117 n n) l0 a1 a2
noncomputable def sg : Sig (Λ) := s1 (sOwn 22 .u64)
noncomputable def code : Code := (Tryd.f105.body).getD .skip
noncomputable def cfg : Cfg (Λ) := { T := tys, call := noCall }
noncomputable def cuts : List (Nat × List (Nat × Want)) := [(117, [(1, .keep), (2, .keep), (7, .keep), (12, .keep), (13, .keep), (14, .keep)])]
noncomputable def s117 (x0 x1 : Int) (x2 : Λ) (x3 x4 : Int) (x5 : Λ) : ASt := ⟨[(1, .int .i64 x0), (2, .int .i64 x1), (7, .own 0), (12, .ro .u64 x2), (13, .int .i64 x3), (14, .int .i64 x4)], [.ints 22 .u64 x5]⟩
noncomputable def A (n : Nat) (J : Jt (Λ)) (q : Nat) (ms : List Nat) : ASt→Ω (Λ) := acont cfg J cuts n q code 1 ms (aend cfg Tryd.f105.results.toList [true] sg.out)
theorem e0 {n J l0 a1 a2} : afun cfg J cuts n code Tryd.f105.results.toList [true] [.ro .u64 l0, .int .i64 a1, .int .i64 a2] sg.out = b0 (fun y0 y1 y2 y3 y4 y5 => J 117 (A n J 117 [n]) (s117 y0 y1 y2 y3 y4 y5)) l0 a1 a2 := by kernel_rfl
theorem e117 {n J m x0 x1 x2 x3 x4 x5} : A n J 117 [m + 1] (s117 x0 x1 x2 x3 x4 x5) = b117 (fun y0 y1 y2 y3 y4 y5 => J 117 (A n J 117 [m]) (s117 y0 y1 y2 y3 y4 y5)) x0 x1 x2 x3 x4 x5 := by kernel_rfl
noncomputable abbrev I (n : Nat) := A n idJ
theorem q117 (n m) : ∀ x0 x1 x2 x3 x4 x5, I n 117 [m] (s117 x0 x1 x2 x3 x4 x5) = l117 n m x0 x1 x2 x3 x4 x5 := by
  induction m with
  | zero => intros; rfl
  | succ m ih =>
    intros
    exact e117.trans (Eq.trans (cf6 (congrArg b117 (fu6 (ih))) _ _ _ _ _ _) rfl)
theorem ok {n  l0 a1 a2 r} (h : f n l0 a1 a2 = some r) : CallD Tryd.prog HW 105 [.ro .u64 l0, .int .i64 a1, .int .i64 a2] (sg.enc r) :=
  fun_some hwS Tryd.func105 (by kernel_rfl) (body := code) (by kernel_rfl) tys_ok (c := cfg) noCall_ok noW_ok (by kernel_rfl) (by kernel_rfl) (Nat.le_of_ble_eq_true (by kernel_rfl)) (Eq.trans ((e0 (n := n)).trans (Eq.trans (cf3 (congrArg b0 (fu6 (q117 n n))) _ _ _) rfl)) h)
noncomputable def call {α : Type} (g : Λ→Int→Int→Ω (Λ)) (ds : List D) (K : List D→Ω α) : Ω α := match ds with
  | [.ro .u64 l0, .int .i64 a1, .int .i64 a2] => (g l0 a1 a2).bind fun r => K (sg.enc r)
  | _ => none
theorem call_ok {α : Type} {n : Nat} : COK Tryd.prog HW 105 (call (α := α) (f n)) := fun _ _ _ h => by
  unfold call at h; split at h
  · exact cok h fun _ => ok
  · cases h
end quot_raised
/-! ### quot_guess: function 106 -/
namespace quot_guess
noncomputable def b0 (c97 : Int→Int→Int→Ω (Int × Int)) (l0 l1 : Λ) : Ω (Int) := (if 0 ≤ (ln l1) then (if (ln l1) < (ln l0) then (if 0 ≤ (wrap64 ((ln l1) - 1)) then (if (wrap64 ((ln l1) - 1)) < (ln l1) then (if (rd l0 (ln l1)) ≥ (rd l1 (wrap64 ((ln l1) - 1))) then some 18446744073709551615 else (if 0 ≤ (ln l1) then (if (ln l1) < (ln l0) then (if 0 ≤ (wrap64 ((ln l1) - 1)) then (if (wrap64 ((ln l1) - 1)) < (ln l0) then (if 0 ≤ (wrap64 ((ln l1) - 1)) then (if (wrap64 ((ln l1) - 1)) < (ln l1) then ((c97 (rd l0 (ln l1)) (rd l0 (wrap64 ((ln l1) - 1))) (rd l1 (wrap64 ((ln l1) - 1)))).bind fun t1 => some t1.1) else none) else none) else none) else none) else none) else none)) else none) else none) else none) else none)
noncomputable def f (n : Nat) (l0 l1 : Λ) : Ω (Int) := b0 (bits_Div64.f n) l0 l1
noncomputable def sg : Sig (Int) := s1 (sInt .u64)
noncomputable def code : Code := (Tryd.f106.body).getD .skip
noncomputable def cfg (c97 : Int→Int→Int→Ω (Int × Int)) : Cfg (Int) := { T := tys, call := orCall 97 (bits_Div64.call c97) (noCall) }
noncomputable def cuts : List (Nat × List (Nat × Want)) := []
theorem e0 {c97 n J l0 l1} : afun (cfg c97) J cuts n code Tryd.f106.results.toList [false] [.ro .u64 l0, .ro .u64 l1] sg.out = b0 c97 l0 l1 := by kernel_rfl
theorem ok {n  l0 l1 r} (h : f n l0 l1 = some r) : CallD Tryd.prog HW 106 [.ro .u64 l0, .ro .u64 l1] (sg.enc r) :=
  fun_some hwS Tryd.func106 (by kernel_rfl) (body := code) (by kernel_rfl) tys_ok (c := cfg (bits_Div64.f n)) (orCall_ok (bits_Div64.call_ok (n := n)) noCall_ok) noW_ok (by kernel_rfl) (by kernel_rfl) (Nat.le_of_ble_eq_true (by kernel_rfl)) (Eq.trans ((e0 (n := n))) h)
noncomputable def call {α : Type} (g : Λ→Λ→Ω (Int)) (ds : List D) (K : List D→Ω α) : Ω α := match ds with
  | [.ro .u64 l0, .ro .u64 l1] => (g l0 l1).bind fun r => K (sg.enc r)
  | _ => none
theorem call_ok {α : Type} {n : Nat} : COK Tryd.prog HW 106 (call (α := α) (f n)) := fun _ _ _ h => by
  unfold call at h; split at h
  · exact cok h fun _ => ok
  · cases h
end quot_guess
/-! ### quot_takeOff: function 107 -/
namespace quot_takeOff
noncomputable def b0 (c52 : Int→Int→Ω (Int × Int)) (c53 : Int→Int→Int→Ω (Int × Int)) (c86 : Int→Int→Int→Ω (Int × Int)) (k117 : Λ→Int→Int→Int→Int→Int→Λ→Ω (Λ × Bool)) (l0 l1 : Λ) (a2 : Int) : Ω (Λ × Bool) := k117 l1 a2 0 0 0 (ln l1) l0
noncomputable def b15 (c52 : Int→Int→Ω (Int × Int)) (c53 : Int→Int→Int→Ω (Int × Int)) (c86 : Int→Int→Int→Ω (Int × Int)) (x0 : Λ) (x1 x2 : Int) (x3 : Λ) : Ω (Λ × Bool) := (if 0 ≤ (ln x0) then (if (ln x0) < (ln x3) then ((c86 (rd x3 (ln x0)) x1 x2).bind fun t1 => (if 0 ≤ (ln x0) then (if (ln x0) < (ln x3) then some (x3.set ((ln x0) : Int).toNat t1.1, decide (¬ t1.2 = 0)) else none) else none)) else none) else none)
noncomputable def b117 (c52 : Int→Int→Ω (Int × Int)) (c53 : Int→Int→Int→Ω (Int × Int)) (c86 : Int→Int→Int→Ω (Int × Int)) (k15 : Λ→Int→Int→Λ→Ω (Λ × Bool)) (k117 : Λ→Int→Int→Int→Int→Int→Λ→Ω (Λ × Bool)) (x0 : Λ) (x1 x2 x3 x4 x5 : Int) (x6 : Λ) : Ω (Λ × Bool) := (if x4 < x5 then (if 0 ≤ x4 then (if x4 < (ln x0) then ((c52 x1 (rd x0 x4)).bind fun t1 => ((c53 t1.2 x2 0).bind fun t2 => (if 0 ≤ x4 then (if x4 < (ln x6) then ((c86 (rd x6 x4) t2.1 x3).bind fun t3 => (if 0 ≤ x4 then (if x4 < (ln x6) then k117 x0 x1 (IntKind.u64.wrap (t1.1 + t2.2)) t3.2 (wrap64 (x4 + 1)) x5 (x6.set (x4 : Int).toNat t3.1) else none) else none)) else none) else none))) else none) else none) else k15 x0 x2 x3 x6)
noncomputable def l15 (n : Nat) (x0 : Λ) (x1 x2 : Int) (x3 : Λ) : Ω (Λ × Bool) := b15 bits_Mul64.f bits_Add64.f bits_Sub64.f x0 x1 x2 x3
noncomputable def l117 (n : Nat) : Nat→Λ→Int→Int→Int→Int→Int→Λ→Ω (Λ × Bool)
  | 0, _, _, _, _, _, _, _ => none
  | m + 1, x0, x1, x2, x3, x4, x5, x6 => b117 bits_Mul64.f bits_Add64.f bits_Sub64.f (l15 n) (l117 n m) x0 x1 x2 x3 x4 x5 x6
noncomputable def f (n : Nat) (l0 l1 : Λ) (a2 : Int) : Ω (Λ × Bool) := b0 bits_Mul64.f bits_Add64.f bits_Sub64.f (l117 n n) l0 l1 a2
noncomputable def sg : Sig (Bool) := s1 (sBool)
noncomputable def code : Code := (Tryd.f107.body).getD .skip
noncomputable def cfg (c52 : Int→Int→Ω (Int × Int)) (c53 : Int→Int→Int→Ω (Int × Int)) (c86 : Int→Int→Int→Ω (Int × Int)) : Cfg (Λ × Bool) := { T := tys, call := orCall 52 (bits_Mul64.call c52) (orCall 53 (bits_Add64.call c53) (orCall 86 (bits_Sub64.call c86) (noCall))) }
noncomputable def cuts : List (Nat × List (Nat × Want)) := [(15, [(0, .keep), (1, .keep), (7, .keep), (8, .keep)]), (117, [(0, .keep), (1, .keep), (2, .keep), (7, .keep), (8, .keep), (14, .keep), (15, .keep), (16, .keep)])]
noncomputable def s15 (x0 : Λ) (x1 x2 : Int) (x3 : Λ) : ASt := ⟨[(0, .own 0), (1, .ro .u64 x0), (7, .int .u64 x1), (8, .int .u64 x2)], [.bor .u64 x3]⟩
noncomputable def s117 (x0 : Λ) (x1 x2 x3 x4 x5 : Int) (x6 : Λ) : ASt := ⟨[(0, .own 0), (1, .ro .u64 x0), (2, .int .u64 x1), (7, .int .u64 x2), (8, .int .u64 x3), (14, .ro .u64 x0), (15, .int .i64 x5), (16, .int .i64 x4)], [.bor .u64 x6]⟩
noncomputable def A (c52 : Int→Int→Ω (Int × Int)) (c53 : Int→Int→Int→Ω (Int × Int)) (c86 : Int→Int→Int→Ω (Int × Int)) (n : Nat) (J : Jt (Λ × Bool)) (q : Nat) (ms : List Nat) : ASt→Ω (Λ × Bool) := acont (cfg c52 c53 c86) J cuts n q code 1 ms (aendw (cfg c52 c53 c86) Tryd.f107.results.toList (sgw sg))
theorem e0 (c52 : Int→Int→Ω (Int × Int)) (c53 : Int→Int→Int→Ω (Int × Int)) (c86 : Int→Int→Int→Ω (Int × Int)) (n : Nat) (J : Jt (Λ × Bool)) (l0 l1 : Λ) (a2 : Int) : afunw (cfg c52 c53 c86) J cuts n code Tryd.f107.results.toList l0 [.ro .u64 l1, .int .u64 a2] (sgw sg) = b0 c52 c53 c86 (fun y0 y1 y2 y3 y4 y5 y6 => J 117 (A c52 c53 c86 n J 117 [n]) (s117 y0 y1 y2 y3 y4 y5 y6)) l0 l1 a2 := by kernel_rfl
theorem e15 (c52 : Int→Int→Ω (Int × Int)) (c53 : Int→Int→Int→Ω (Int × Int)) (c86 : Int→Int→Int→Ω (Int × Int)) (n : Nat) (J : Jt (Λ × Bool)) (x0 : Λ) (x1 x2 : Int) (x3 : Λ) : A c52 c53 c86 n J 15 [] (s15 x0 x1 x2 x3) = b15 c52 c53 c86 x0 x1 x2 x3 := by kernel_rfl
theorem e117 (c52 : Int→Int→Ω (Int × Int)) (c53 : Int→Int→Int→Ω (Int × Int)) (c86 : Int→Int→Int→Ω (Int × Int)) (n : Nat) (J : Jt (Λ × Bool)) (m : Nat) (x0 : Λ) (x1 x2 x3 x4 x5 : Int) (x6 : Λ) : A c52 c53 c86 n J 117 [m + 1] (s117 x0 x1 x2 x3 x4 x5 x6) = b117 c52 c53 c86 (fun y0 y1 y2 y3 => J 15 (A c52 c53 c86 n J 15 []) (s15 y0 y1 y2 y3)) (fun y0 y1 y2 y3 y4 y5 y6 => J 117 (A c52 c53 c86 n J 117 [m]) (s117 y0 y1 y2 y3 y4 y5 y6)) x0 x1 x2 x3 x4 x5 x6 := by kernel_rfl
theorem q15 (n : Nat) (x0 : Λ) (x1 x2 : Int) (x3 : Λ) : A bits_Mul64.f bits_Add64.f bits_Sub64.f n idJ 15 [] (s15 x0 x1 x2 x3) = l15 n x0 x1 x2 x3 := (e15 bits_Mul64.f bits_Add64.f bits_Sub64.f n idJ x0 x1 x2 x3).trans (rfl)
theorem q117 (n m : Nat) : ∀ (x0 : Λ) (x1 x2 x3 x4 x5 : Int) (x6 : Λ), A bits_Mul64.f bits_Add64.f bits_Sub64.f n idJ 117 [m] (s117 x0 x1 x2 x3 x4 x5 x6) = l117 n m x0 x1 x2 x3 x4 x5 x6 := by
  induction m with
  | zero => intros; rfl
  | succ m ih =>
    intro x0 x1 x2 x3 x4 x5 x6
    refine (e117 bits_Mul64.f bits_Add64.f bits_Sub64.f n idJ m x0 x1 x2 x3 x4 x5 x6).trans ?_
    exact congrFun (congrFun (congrFun (congrFun (congrFun (congrFun (congrFun (congr (congrArg (b117 bits_Mul64.f bits_Add64.f bits_Sub64.f) (funext fun y0 => (funext fun y1 => (funext fun y2 => (funext fun y3 => q15 n y0 y1 y2 y3))))) (funext fun y0 => (funext fun y1 => (funext fun y2 => (funext fun y3 => (funext fun y4 => (funext fun y5 => (funext fun y6 => ih y0 y1 y2 y3 y4 y5 y6)))))))) x0) x1) x2) x3) x4) x5) x6
theorem eq (n : Nat) (l0 l1 : Λ) (a2 : Int) : afunw (cfg bits_Mul64.f bits_Add64.f bits_Sub64.f) idJ cuts n code Tryd.f107.results.toList l0 [.ro .u64 l1, .int .u64 a2] (sgw sg) = f n l0 l1 a2 := (e0 bits_Mul64.f bits_Add64.f bits_Sub64.f n idJ l0 l1 a2).trans (congrFun (congrFun (congrFun (congrArg (b0 bits_Mul64.f bits_Add64.f bits_Sub64.f) (funext fun y0 => (funext fun y1 => (funext fun y2 => (funext fun y3 => (funext fun y4 => (funext fun y5 => (funext fun y6 => q117 n n y0 y1 y2 y3 y4 y5 y6)))))))) l0) l1) a2)
theorem ok {n : Nat} {l0 : Λ} {l1 : Λ} {a2 : Int} {r : Λ × Bool} (h : f n l0 l1 a2 = some r) : CallW Tryd.prog HW 107 l0 [.ro .u64 l1, .int .u64 a2] r.1 (sg.enc r.2) :=
  funw_some Tryd.func107 (by kernel_rfl) (body := code) (by kernel_rfl) tys_ok (c := cfg bits_Mul64.f bits_Add64.f bits_Sub64.f) (orCall_ok bits_Mul64.call_ok (orCall_ok bits_Add64.call_ok (orCall_ok bits_Sub64.call_ok noCall_ok))) noW_ok (by kernel_rfl) (by kernel_rfl) (Nat.le_of_ble_eq_true (by kernel_rfl)) ((eq n l0 l1 a2).trans h)
noncomputable def call {α : Type} (g : Λ→Λ→Int→Ω (Λ × Bool)) (l0 : Λ) (ds : List D) (K : Λ→List D→Ω α) : Ω α := match ds with
  | [.ro .u64 l1, .int .u64 a2] => (g l0 l1 a2).bind fun r => K r.1 (sg.enc r.2)
  | _ => none
theorem call_ok {α : Type} {n : Nat} (l : Λ) (ds : List D) (K : Λ→List D→Ω α) (r : α) (h : call (f n) l ds K = some r) : ∃ l' rs, K l' rs = some r ∧ CallW Tryd.prog HW 107 l ds l' rs := by
  unfold call at h
  split at h
  · obtain ⟨x, hx, hk⟩ := Option.bind_eq_some_iff.1 h
    exact ⟨_, _, hk, ok (n := n) hx⟩
  · cases h
end quot_takeOff
/-! ### quot_putBack: function 108 -/
namespace quot_putBack
noncomputable def b0 (c53 : Int→Int→Int→Ω (Int × Int)) (k117 : Λ→Int→Int→Int→Λ→Ω (Λ × Bool)) (l0 l1 : Λ) : Ω (Λ × Bool) := k117 l1 0 0 (ln l1) l0
noncomputable def b15 (c53 : Int→Int→Int→Ω (Int × Int)) (x0 : Λ) (x1 : Int) (x2 : Λ) : Ω (Λ × Bool) := (if 0 ≤ (ln x0) then (if (ln x0) < (ln x2) then ((c53 (rd x2 (ln x0)) 0 x1).bind fun t1 => (if 0 ≤ (ln x0) then (if (ln x0) < (ln x2) then some (x2.set ((ln x0) : Int).toNat t1.1, decide (¬ t1.2 = 0)) else none) else none)) else none) else none)
noncomputable def b117 (c53 : Int→Int→Int→Ω (Int × Int)) (k15 : Λ→Int→Λ→Ω (Λ × Bool)) (k117 : Λ→Int→Int→Int→Λ→Ω (Λ × Bool)) (x0 : Λ) (x1 x2 x3 : Int) (x4 : Λ) : Ω (Λ × Bool) := (if x2 < x3 then (if 0 ≤ x2 then (if x2 < (ln x0) then (if 0 ≤ x2 then (if x2 < (ln x4) then ((c53 (rd x4 x2) (rd x0 x2) x1).bind fun t1 => (if 0 ≤ x2 then (if x2 < (ln x4) then k117 x0 t1.2 (wrap64 (x2 + 1)) x3 (x4.set (x2 : Int).toNat t1.1) else none) else none)) else none) else none) else none) else none) else k15 x0 x1 x4)
noncomputable def l15 (n : Nat) (x0 : Λ) (x1 : Int) (x2 : Λ) : Ω (Λ × Bool) := b15 bits_Add64.f x0 x1 x2
noncomputable def l117 (n : Nat) : Nat→Λ→Int→Int→Int→Λ→Ω (Λ × Bool)
  | 0, _, _, _, _, _ => none
  | m + 1, x0, x1, x2, x3, x4 => b117 bits_Add64.f (l15 n) (l117 n m) x0 x1 x2 x3 x4
noncomputable def f (n : Nat) (l0 l1 : Λ) : Ω (Λ × Bool) := b0 bits_Add64.f (l117 n n) l0 l1
noncomputable def sg : Sig (Bool) := s1 (sBool)
noncomputable def code : Code := (Tryd.f108.body).getD .skip
noncomputable def cfg (c53 : Int→Int→Int→Ω (Int × Int)) : Cfg (Λ × Bool) := { T := tys, call := orCall 53 (bits_Add64.call c53) (noCall) }
noncomputable def cuts : List (Nat × List (Nat × Want)) := [(15, [(0, .keep), (1, .keep), (5, .keep)]), (117, [(0, .keep), (1, .keep), (5, .keep), (8, .keep), (9, .keep), (10, .keep)])]
noncomputable def s15 (x0 : Λ) (x1 : Int) (x2 : Λ) : ASt := ⟨[(0, .own 0), (1, .ro .u64 x0), (5, .int .u64 x1)], [.bor .u64 x2]⟩
noncomputable def s117 (x0 : Λ) (x1 x2 x3 : Int) (x4 : Λ) : ASt := ⟨[(0, .own 0), (1, .ro .u64 x0), (5, .int .u64 x1), (8, .ro .u64 x0), (9, .int .i64 x3), (10, .int .i64 x2)], [.bor .u64 x4]⟩
noncomputable def A (c53 : Int→Int→Int→Ω (Int × Int)) (n : Nat) (J : Jt (Λ × Bool)) (q : Nat) (ms : List Nat) : ASt→Ω (Λ × Bool) := acont (cfg c53) J cuts n q code 1 ms (aendw (cfg c53) Tryd.f108.results.toList (sgw sg))
theorem e0 (c53 : Int→Int→Int→Ω (Int × Int)) (n : Nat) (J : Jt (Λ × Bool)) (l0 l1 : Λ) : afunw (cfg c53) J cuts n code Tryd.f108.results.toList l0 [.ro .u64 l1] (sgw sg) = b0 c53 (fun y0 y1 y2 y3 y4 => J 117 (A c53 n J 117 [n]) (s117 y0 y1 y2 y3 y4)) l0 l1 := by kernel_rfl
theorem e15 (c53 : Int→Int→Int→Ω (Int × Int)) (n : Nat) (J : Jt (Λ × Bool)) (x0 : Λ) (x1 : Int) (x2 : Λ) : A c53 n J 15 [] (s15 x0 x1 x2) = b15 c53 x0 x1 x2 := by kernel_rfl
theorem e117 (c53 : Int→Int→Int→Ω (Int × Int)) (n : Nat) (J : Jt (Λ × Bool)) (m : Nat) (x0 : Λ) (x1 x2 x3 : Int) (x4 : Λ) : A c53 n J 117 [m + 1] (s117 x0 x1 x2 x3 x4) = b117 c53 (fun y0 y1 y2 => J 15 (A c53 n J 15 []) (s15 y0 y1 y2)) (fun y0 y1 y2 y3 y4 => J 117 (A c53 n J 117 [m]) (s117 y0 y1 y2 y3 y4)) x0 x1 x2 x3 x4 := by kernel_rfl
theorem q15 (n : Nat) (x0 : Λ) (x1 : Int) (x2 : Λ) : A bits_Add64.f n idJ 15 [] (s15 x0 x1 x2) = l15 n x0 x1 x2 := (e15 bits_Add64.f n idJ x0 x1 x2).trans (rfl)
theorem q117 (n m : Nat) : ∀ (x0 : Λ) (x1 x2 x3 : Int) (x4 : Λ), A bits_Add64.f n idJ 117 [m] (s117 x0 x1 x2 x3 x4) = l117 n m x0 x1 x2 x3 x4 := by
  induction m with
  | zero => intros; rfl
  | succ m ih =>
    intro x0 x1 x2 x3 x4
    refine (e117 bits_Add64.f n idJ m x0 x1 x2 x3 x4).trans ?_
    exact congrFun (congrFun (congrFun (congrFun (congrFun (congr (congrArg (b117 bits_Add64.f) (funext fun y0 => (funext fun y1 => (funext fun y2 => q15 n y0 y1 y2)))) (funext fun y0 => (funext fun y1 => (funext fun y2 => (funext fun y3 => (funext fun y4 => ih y0 y1 y2 y3 y4)))))) x0) x1) x2) x3) x4
theorem eq (n : Nat) (l0 l1 : Λ) : afunw (cfg bits_Add64.f) idJ cuts n code Tryd.f108.results.toList l0 [.ro .u64 l1] (sgw sg) = f n l0 l1 := (e0 bits_Add64.f n idJ l0 l1).trans (congrFun (congrFun (congrArg (b0 bits_Add64.f) (funext fun y0 => (funext fun y1 => (funext fun y2 => (funext fun y3 => (funext fun y4 => q117 n n y0 y1 y2 y3 y4)))))) l0) l1)
theorem ok {n : Nat} {l0 : Λ} {l1 : Λ} {r : Λ × Bool} (h : f n l0 l1 = some r) : CallW Tryd.prog HW 108 l0 [.ro .u64 l1] r.1 (sg.enc r.2) :=
  funw_some Tryd.func108 (by kernel_rfl) (body := code) (by kernel_rfl) tys_ok (c := cfg bits_Add64.f) (orCall_ok bits_Add64.call_ok noCall_ok) noW_ok (by kernel_rfl) (by kernel_rfl) (Nat.le_of_ble_eq_true (by kernel_rfl)) ((eq n l0 l1).trans h)
noncomputable def call {α : Type} (g : Λ→Λ→Ω (Λ × Bool)) (l0 : Λ) (ds : List D) (K : Λ→List D→Ω α) : Ω α := match ds with
  | [.ro .u64 l1] => (g l0 l1).bind fun r => K r.1 (sg.enc r.2)
  | _ => none
theorem call_ok {α : Type} {n : Nat} (l : Λ) (ds : List D) (K : Λ→List D→Ω α) (r : α) (h : call (f n) l ds K = some r) : ∃ l' rs, K l' rs = some r ∧ CallW Tryd.prog HW 108 l ds l' rs := by
  unfold call at h
  split at h
  · obtain ⟨x, hx, hk⟩ := Option.bind_eq_some_iff.1 h
    exact ⟨_, _, hk, ok (n := n) hx⟩
  · cases h
end quot_putBack
/-! ### quot_long: function 103 -/
namespace quot_long
noncomputable def b0 (c96 : Λ→Int→Ω (Λ × Bool × Int)) (c100 : Λ→Ω (Λ)) (c104 : Int→Ω (Int)) (c105 : Λ→Int→Int→Ω (Λ)) (c106 : Λ→Λ→Ω (Int)) (c107 : Λ→Λ→Int→Ω (Λ × Bool)) (c108 : Λ→Λ→Ω (Λ × Bool)) (k7157 : Int→Int→Int→Λ→Λ→Λ→Ω (Λ × Λ)) (l0 l1 : Λ) : Ω (Λ × Λ) := (if 0 ≤ (wrap64 ((ln l1) - 1)) then (if (wrap64 ((ln l1) - 1)) < (ln l1) then ((c104 (rd l1 (wrap64 ((ln l1) - 1)))).bind fun t1 => ((c105 l1 t1 (ln l1)).bind fun t2 => ((c105 l0 t1 (wrap64 ((ln l0) + 1))).bind fun t3 => (if 0 ≤ (wrap64 ((wrap64 ((ln l0) - (ln l1))) + 1)) then (if (wrap64 ((wrap64 ((ln l0) - (ln l1))) + 1)).toNat ≤ 35184372088832 then k7157 (ln l1) t1 (wrap64 ((ln (List.replicate (wrap64 ((wrap64 ((ln l0) - (ln l1))) + 1)).toNat (0 : Int))) - 1)) t2 t3 (List.replicate (wrap64 ((wrap64 ((ln l0) - (ln l1))) + 1)).toNat (0 : Int)) else none) else none)))) else none) else none)
noncomputable def b895 (c96 : Λ→Int→Ω (Λ × Bool × Int)) (c100 : Λ→Ω (Λ)) (c104 : Int→Ω (Int)) (c105 : Λ→Int→Int→Ω (Λ)) (c106 : Λ→Λ→Ω (Int)) (c107 : Λ→Λ→Int→Ω (Λ × Bool)) (c108 : Λ→Λ→Ω (Λ × Bool)) (x0 x1 : Int) (x2 x3 : Λ) : Ω (Λ × Λ) := (if 0 ≤ x0 then (if x0 ≤ (ln x2) then ((c96 ((x2.take (x0 : Int).toNat).drop 0) x1).bind fun t1 => ((c100 x3).bind fun t2 => some (t2, t1.1))) else none) else none)
noncomputable def b7157 (c96 : Λ→Int→Ω (Λ × Bool × Int)) (c100 : Λ→Ω (Λ)) (c104 : Int→Ω (Int)) (c105 : Λ→Int→Int→Ω (Λ)) (c106 : Λ→Λ→Ω (Int)) (c107 : Λ→Λ→Int→Ω (Λ × Bool)) (c108 : Λ→Λ→Ω (Λ × Bool)) (k895 : Int→Int→Λ→Λ→Ω (Λ × Λ)) (k1832093 : Int→Int→Int→Int→Int→Bool→Λ→Λ→Λ→Ω (Λ × Λ)) (x0 x1 x2 : Int) (x3 x4 x5 : Λ) : Ω (Λ × Λ) := (if x2 ≥ 0 then (if 0 ≤ (wrap64 ((wrap64 (x2 + x0)) + 1)) then (if (wrap64 ((wrap64 (x2 + x0)) + 1)) ≤ (ln x4) then (if 0 ≤ x2 then (if x2 ≤ (wrap64 ((wrap64 (x2 + x0)) + 1)) then ((c106 ((x4.take (wrap64 ((wrap64 (x2 + x0)) + 1) : Int).toNat).drop (x2 : Int).toNat) x3).bind fun t1 => (if x2 < (wrap64 ((wrap64 (x2 + x0)) + 1)) then ((c107 ((x4.take (wrap64 ((wrap64 (x2 + x0)) + 1) : Int).toNat).drop (x2 : Int).toNat) x3 t1).bind fun t2 => k1832093 x0 x1 x2 (wrap64 ((wrap64 (x2 + x0)) + 1)) t1 t2.2 x3 (x4.take (x2 : Int).toNat ++ t2.1 ++ x4.drop (wrap64 ((wrap64 (x2 + x0)) + 1) : Int).toNat) x5) else none)) else none) else none) else none) else none) else k895 x0 x1 x4 x5)
noncomputable def b1832093 (c96 : Λ→Int→Ω (Λ × Bool × Int)) (c100 : Λ→Ω (Λ)) (c104 : Int→Ω (Int)) (c105 : Λ→Int→Int→Ω (Λ)) (c106 : Λ→Λ→Ω (Int)) (c107 : Λ→Λ→Int→Ω (Λ × Bool)) (c108 : Λ→Λ→Ω (Λ × Bool)) (k7157 : Int→Int→Int→Λ→Λ→Λ→Ω (Λ × Λ)) (k1832093 : Int→Int→Int→Int→Int→Bool→Λ→Λ→Λ→Ω (Λ × Λ)) (x0 x1 x2 x3 x4 : Int) (x5 : Bool) (x6 x7 x8 : Λ) : Ω (Λ × Λ) := (if (!x5) = true then (if 0 ≤ x2 then (if x2 < (ln x8) then k7157 x0 x1 (wrap64 (x2 - 1)) x6 x7 (x8.set (x2 : Int).toNat x4) else none) else none) else (if x2 < x3 then ((c108 ((x7.take (x3 : Int).toNat).drop (x2 : Int).toNat) x6).bind fun t1 => k1832093 x0 x1 x2 x3 (IntKind.u64.wrap (x4 - 1)) (!t1.2) x6 (x7.take (x2 : Int).toNat ++ t1.1 ++ x7.drop (x3 : Int).toNat) x8) else none))
noncomputable def l895 (n : Nat) (x0 x1 : Int) (x2 x3 : Λ) : Ω (Λ × Λ) := b895 (nat_Shr.f n) (nat_Trim.f n) bits_LeadingZeros64.f (quot_raised.f n) (quot_guess.f n) (quot_takeOff.f n) (quot_putBack.f n) x0 x1 x2 x3
noncomputable def l1832093 (n : Nat) (k7157 : Int→Int→Int→Λ→Λ→Λ→Ω (Λ × Λ)) : Nat→Int→Int→Int→Int→Int→Bool→Λ→Λ→Λ→Ω (Λ × Λ)
  | 0, _, _, _, _, _, _, _, _, _ => none
  | m + 1, x0, x1, x2, x3, x4, x5, x6, x7, x8 => b1832093 (nat_Shr.f n) (nat_Trim.f n) bits_LeadingZeros64.f (quot_raised.f n) (quot_guess.f n) (quot_takeOff.f n) (quot_putBack.f n) k7157 (l1832093 n k7157 m) x0 x1 x2 x3 x4 x5 x6 x7 x8
noncomputable def l7157 (n : Nat) : Nat→Int→Int→Int→Λ→Λ→Λ→Ω (Λ × Λ)
  | 0, _, _, _, _, _, _ => none
  | m + 1, x0, x1, x2, x3, x4, x5 => b7157 (nat_Shr.f n) (nat_Trim.f n) bits_LeadingZeros64.f (quot_raised.f n) (quot_guess.f n) (quot_takeOff.f n) (quot_putBack.f n) (l895 n) (l1832093 n (l7157 n m) n) x0 x1 x2 x3 x4 x5
noncomputable def f (n : Nat) (l0 l1 : Λ) : Ω (Λ × Λ) := b0 (nat_Shr.f n) (nat_Trim.f n) bits_LeadingZeros64.f (quot_raised.f n) (quot_guess.f n) (quot_takeOff.f n) (quot_putBack.f n) (l7157 n n) l0 l1
noncomputable def sg : Sig (Λ × Λ) := s2 (sRow .u64) (s1 (sRow .u64))
noncomputable def code : Code := (Tryd.f103.body).getD .skip
noncomputable def cfg (c96 : Λ→Int→Ω (Λ × Bool × Int)) (c100 : Λ→Ω (Λ)) (c104 : Int→Ω (Int)) (c105 : Λ→Int→Int→Ω (Λ)) (c106 : Λ→Λ→Ω (Int)) (c107 : Λ→Λ→Int→Ω (Λ × Bool)) (c108 : Λ→Λ→Ω (Λ × Bool)) : Cfg (Λ × Λ) := { T := tys, call := orCall 96 (nat_Shr.call c96) (orCall 100 (nat_Trim.call c100) (orCall 104 (bits_LeadingZeros64.call c104) (orCall 105 (quot_raised.call c105) (orCall 106 (quot_guess.call c106) (noCall))))), win := true, wr := [107, 108], callw := orW 107 (quot_takeOff.call c107) (orW 108 (quot_putBack.call c108) (noW)) }
noncomputable def cuts : List (Nat × List (Nat × Want)) := [(895, [(6, .keep), (7, .keep), (9, .keep), (10, .keep)]), (7157, [(6, .keep), (7, .keep), (8, .keep), (9, .keep), (10, .keep), (11, .keep)]), (1832093, [(6, .keep), (7, .keep), (8, .keep), (9, .keep), (10, .keep), (11, .keep), (12, .keep), (13, .keep), (14, .keep)])]
noncomputable def s895 (x0 x1 : Int) (x2 x3 : Λ) : ASt := ⟨[(6, .int .i64 x0), (7, .int .i64 x1), (9, .own 0), (10, .own 1)], [.ints 22 .u64 x2, .ints 22 .u64 x3]⟩
noncomputable def s7157 (x0 x1 x2 : Int) (x3 x4 x5 : Λ) : ASt := ⟨[(6, .int .i64 x0), (7, .int .i64 x1), (8, .own 0), (9, .own 1), (10, .own 2), (11, .int .i64 x2)], [.ints 22 .u64 x3, .ints 22 .u64 x4, .ints 22 .u64 x5]⟩
noncomputable def s1832093 (x0 x1 x2 x3 x4 : Int) (x5 : Bool) (x6 x7 x8 : Λ) : ASt := ⟨[(6, .int .i64 x0), (7, .int .i64 x1), (8, .own 0), (9, .own 1), (10, .own 2), (11, .int .i64 x2), (12, .win 1 x2 x3), (13, .int .u64 x4), (14, .bool x5)], [.ints 22 .u64 x6, .ints 22 .u64 x7, .ints 22 .u64 x8]⟩
noncomputable def A (c96 : Λ→Int→Ω (Λ × Bool × Int)) (c100 : Λ→Ω (Λ)) (c104 : Int→Ω (Int)) (c105 : Λ→Int→Int→Ω (Λ)) (c106 : Λ→Λ→Ω (Int)) (c107 : Λ→Λ→Int→Ω (Λ × Bool)) (c108 : Λ→Λ→Ω (Λ × Bool)) (n : Nat) (J : Jt (Λ × Λ)) (q : Nat) (ms : List Nat) : ASt→Ω (Λ × Λ) := acont (cfg c96 c100 c104 c105 c106 c107 c108) J cuts n q code 1 ms (aend (cfg c96 c100 c104 c105 c106 c107 c108) Tryd.f103.results.toList [false, false] sg.out)
theorem e0 {c96 c100 c104 c105 c106 c107 c108 n J l0 l1} : afun (cfg c96 c100 c104 c105 c106 c107 c108) J cuts n code Tryd.f103.results.toList [false, false] [.ro .u64 l0, .ro .u64 l1] sg.out = b0 c96 c100 c104 c105 c106 c107 c108 (fun y0 y1 y2 y3 y4 y5 => J 7157 (A c96 c100 c104 c105 c106 c107 c108 n J 7157 [n]) (s7157 y0 y1 y2 y3 y4 y5)) l0 l1 := by kernel_rfl
theorem e895 {c96 c100 c104 c105 c106 c107 c108 n J x0 x1 x2 x3} : A c96 c100 c104 c105 c106 c107 c108 n J 895 [] (s895 x0 x1 x2 x3) = b895 c96 c100 c104 c105 c106 c107 c108 x0 x1 x2 x3 := by kernel_rfl
theorem e7157 {c96 c100 c104 c105 c106 c107 c108 n J m x0 x1 x2 x3 x4 x5} : A c96 c100 c104 c105 c106 c107 c108 n J 7157 [m + 1] (s7157 x0 x1 x2 x3 x4 x5) = b7157 c96 c100 c104 c105 c106 c107 c108 (fun y0 y1 y2 y3 => J 895 (A c96 c100 c104 c105 c106 c107 c108 n J 895 []) (s895 y0 y1 y2 y3)) (fun y0 y1 y2 y3 y4 y5 y6 y7 y8 => J 1832093 (A c96 c100 c104 c105 c106 c107 c108 n J 1832093 [m, n]) (s1832093 y0 y1 y2 y3 y4 y5 y6 y7 y8)) x0 x1 x2 x3 x4 x5 := by kernel_rfl
theorem e1832093 {c96 c100 c104 c105 c106 c107 c108 n J m7157 m x0 x1 x2 x3 x4 x5 x6 x7 x8} : A c96 c100 c104 c105 c106 c107 c108 n J 1832093 [m7157, m + 1] (s1832093 x0 x1 x2 x3 x4 x5 x6 x7 x8) = b1832093 c96 c100 c104 c105 c106 c107 c108 (fun y0 y1 y2 y3 y4 y5 => J 7157 (A c96 c100 c104 c105 c106 c107 c108 n J 7157 [m7157]) (s7157 y0 y1 y2 y3 y4 y5)) (fun y0 y1 y2 y3 y4 y5 y6 y7 y8 => J 1832093 (A c96 c100 c104 c105 c106 c107 c108 n J 1832093 [m7157, m]) (s1832093 y0 y1 y2 y3 y4 y5 y6 y7 y8)) x0 x1 x2 x3 x4 x5 x6 x7 x8 := by kernel_rfl
noncomputable abbrev I (n : Nat) := A (nat_Shr.f n) (nat_Trim.f n) bits_LeadingZeros64.f (quot_raised.f n) (quot_guess.f n) (quot_takeOff.f n) (quot_putBack.f n) n idJ
theorem q895 (n x0 x1 x2 x3) : I n 895 [] (s895 x0 x1 x2 x3) = l895 n x0 x1 x2 x3 := e895
theorem q1832093 (n m7157 m) : ∀ x0 x1 x2 x3 x4 x5 x6 x7 x8, I n 1832093 [m7157, m] (s1832093 x0 x1 x2 x3 x4 x5 x6 x7 x8) = l1832093 n (fun y0 y1 y2 y3 y4 y5 => I n 7157 [m7157] (s7157 y0 y1 y2 y3 y4 y5)) m x0 x1 x2 x3 x4 x5 x6 x7 x8 := by
  induction m with
  | zero => intros; rfl
  | succ m ih =>
    intros
    exact e1832093.trans (Eq.trans (cf9 (congr (congrArg (b1832093 _ _ _ _ _ _ _) rfl) (fu9 (ih))) _ _ _ _ _ _ _ _ _) rfl)
theorem q7157 (n m) : ∀ x0 x1 x2 x3 x4 x5, I n 7157 [m] (s7157 x0 x1 x2 x3 x4 x5) = l7157 n m x0 x1 x2 x3 x4 x5 := by
  induction m with
  | zero => intros; rfl
  | succ m ih =>
    intros
    exact e7157.trans (Eq.trans (cf6 (congr (congrArg (b7157 _ _ _ _ _ _ _) (fu4 (q895 n))) ((fu9 (q1832093 n m n)).trans (by rw [show (fun y0 y1 y2 y3 y4 y5 => I n 7157 [m] (s7157 y0 y1 y2 y3 y4 y5)) = _ from (fu6 (ih))]))) _ _ _ _ _ _) rfl)
theorem ok {n  l0 l1 r} (h : f n l0 l1 = some r) : CallD Tryd.prog HW 103 [.ro .u64 l0, .ro .u64 l1] (sg.enc r) :=
  fun_some hwS Tryd.func103 (by kernel_rfl) (body := code) (by kernel_rfl) tys_ok (c := cfg (nat_Shr.f n) (nat_Trim.f n) bits_LeadingZeros64.f (quot_raised.f n) (quot_guess.f n) (quot_takeOff.f n) (quot_putBack.f n)) (orCall_ok (nat_Shr.call_ok (n := n)) (orCall_ok (nat_Trim.call_ok (n := n)) (orCall_ok bits_LeadingZeros64.call_ok (orCall_ok (quot_raised.call_ok (n := n)) (orCall_ok (quot_guess.call_ok (n := n)) noCall_ok))))) (orW_ok (quot_takeOff.call_ok (n := n)) (orW_ok (quot_putBack.call_ok (n := n)) noW_ok)) (by kernel_rfl) (by kernel_rfl) (Nat.le_of_ble_eq_true (by kernel_rfl)) (Eq.trans ((e0 (n := n)).trans (Eq.trans (cf2 (congrArg (b0 _ _ _ _ _ _ _) (fu6 (q7157 n n))) _ _) rfl)) h)
noncomputable def call {α : Type} (g : Λ→Λ→Ω (Λ × Λ)) (ds : List D) (K : List D→Ω α) : Ω α := match ds with
  | [.ro .u64 l0, .ro .u64 l1] => (g l0 l1).bind fun r => K (sg.enc r)
  | _ => none
theorem call_ok {α : Type} {n : Nat} : COK Tryd.prog HW 103 (call (α := α) (f n)) := fun _ _ _ h => by
  unfold call at h; split at h
  · exact cok h fun _ => ok
  · cases h
end quot_long
/-! ### quot_DivMod: function 93 -/
namespace quot_DivMod
noncomputable def b0 (c21 : Λ→Λ→Ω (Int)) (c58 : Int→Ω (Λ)) (c91 : Λ→Int→Ω (Λ × Bool)) (c102 : Λ→Int→Ω (Λ × Int × Int)) (c103 : Λ→Λ→Ω (Λ × Λ)) (l0 l1 : Λ) : Ω (Λ × Λ × Int) := ((c91 l0 4096).bind fun t1 => ((c91 l1 4096).bind fun t2 => (if (!t1.2) = true then some (([] : Λ), ([] : Λ), 2) else (if (!t2.2) = true then some (([] : Λ), ([] : Λ), 2) else (if (ln t2.1) = 0 then some (([] : Λ), ([] : Λ), 4) else ((c21 t1.1 t2.1).bind fun t3 => (if t3 < 0 then some (([] : Λ), t1.1, 0) else (if (ln t2.1) = 1 then (if 0 < (ln t2.1) then ((c102 t1.1 (rd t2.1 0)).bind fun t4 => ((c58 t4.2.1).bind fun t5 => some (t4.1, t5, t4.2.2))) else none) else ((c103 t1.1 t2.1).bind fun t6 => some (t6.1, t6.2, 0))))))))))
noncomputable def f (n : Nat) (l0 l1 : Λ) : Ω (Λ × Λ × Int) := b0 (nat_Cmp.f n) nat_FromUint.f (quot_small.f n) (nat_DivSmall.f n) (quot_long.f n) l0 l1
noncomputable def sg : Sig (Λ × Λ × Int) := s2 (sRow .u64) (s2 (sRow .u64) (s1 (sInt .i64)))
noncomputable def code : Code := (Tryd.f93.body).getD .skip
noncomputable def cfg (c21 : Λ→Λ→Ω (Int)) (c58 : Int→Ω (Λ)) (c91 : Λ→Int→Ω (Λ × Bool)) (c102 : Λ→Int→Ω (Λ × Int × Int)) (c103 : Λ→Λ→Ω (Λ × Λ)) : Cfg (Λ × Λ × Int) := { T := tys, call := orCall 21 (nat_Cmp.call c21) (orCall 58 (nat_FromUint.call c58) (orCall 91 (quot_small.call c91) (orCall 102 (nat_DivSmall.call c102) (orCall 103 (quot_long.call c103) (noCall))))) }
noncomputable def cuts : List (Nat × List (Nat × Want)) := []
theorem e0 {c21 c58 c91 c102 c103 n J l0 l1} : afun (cfg c21 c58 c91 c102 c103) J cuts n code Tryd.f93.results.toList [false, false, false] [.ro .u64 l0, .ro .u64 l1] sg.out = b0 c21 c58 c91 c102 c103 l0 l1 := by kernel_rfl
theorem ok {n  l0 l1 r} (h : f n l0 l1 = some r) : CallD Tryd.prog HW 93 [.ro .u64 l0, .ro .u64 l1] (sg.enc r) :=
  fun_some hwS Tryd.func93 (by kernel_rfl) (body := code) (by kernel_rfl) tys_ok (c := cfg (nat_Cmp.f n) nat_FromUint.f (quot_small.f n) (nat_DivSmall.f n) (quot_long.f n)) (orCall_ok (nat_Cmp.call_ok (n := n)) (orCall_ok nat_FromUint.call_ok (orCall_ok (quot_small.call_ok (n := n)) (orCall_ok (nat_DivSmall.call_ok (n := n)) (orCall_ok (quot_long.call_ok (n := n)) noCall_ok))))) noW_ok (by kernel_rfl) (by kernel_rfl) (Nat.le_of_ble_eq_true (by kernel_rfl)) (Eq.trans ((e0 (n := n))) h)
noncomputable def call {α : Type} (g : Λ→Λ→Ω (Λ × Λ × Int)) (ds : List D) (K : List D→Ω α) : Ω α := match ds with
  | [.ro .u64 l0, .ro .u64 l1] => (g l0 l1).bind fun r => K (sg.enc r)
  | _ => none
theorem call_ok {α : Type} {n : Nat} : COK Tryd.prog HW 93 (call (α := α) (f n)) := fun _ _ _ h => by
  unfold call at h; split at h
  · exact cok h fun _ => ok
  · cases h
end quot_DivMod
/-! ### quot_Root: function 83 -/
namespace quot_Root
noncomputable def b0 (c19 : Λ→Λ→Ω (Λ × Int)) (c21 : Λ→Λ→Ω (Int)) (c59 : Λ→Int→Ω (Λ × Int)) (c61 : Λ→Λ→Ω (Λ × Int)) (c84 : Λ→Ω (Int)) (c91 : Λ→Int→Ω (Λ × Bool)) (c93 : Λ→Λ→Ω (Λ × Λ × Int)) (c96 : Λ→Int→Ω (Λ × Bool × Int)) (k505 : Λ→Λ→Ω (Λ × Bool × Int)) (l0 : Λ) : Ω (Λ × Bool × Int) := ((c91 l0 256).bind fun t1 => (if (!t1.2) = true then some (([] : Λ), false, 2) else (if (ln t1.1) = 0 then some (([] : Λ), true, 0) else ((c84 t1.1).bind fun t2 => ((c59 [1] (wrap64 (Int.tdiv (wrap64 (t2 + 1)) 2))).bind fun t3 => k505 t1.1 t3.1)))))
noncomputable def b127 (c19 : Λ→Λ→Ω (Λ × Int)) (c21 : Λ→Λ→Ω (Int)) (c59 : Λ→Int→Ω (Λ × Int)) (c61 : Λ→Λ→Ω (Λ × Int)) (c84 : Λ→Ω (Int)) (c91 : Λ→Int→Ω (Λ × Bool)) (c93 : Λ→Λ→Ω (Λ × Λ × Int)) (c96 : Λ→Int→Ω (Λ × Bool × Int)) (x0 x1 : Λ) : Ω (Λ × Bool × Int) := ((c19 x1 x1).bind fun t1 => ((c21 t1.1 x0).bind fun t2 => some (x1, decide (t2 = 0), 0)))
noncomputable def b505 (c19 : Λ→Λ→Ω (Λ × Int)) (c21 : Λ→Λ→Ω (Int)) (c59 : Λ→Int→Ω (Λ × Int)) (c61 : Λ→Λ→Ω (Λ × Int)) (c84 : Λ→Ω (Int)) (c91 : Λ→Int→Ω (Λ × Bool)) (c93 : Λ→Λ→Ω (Λ × Λ × Int)) (c96 : Λ→Int→Ω (Λ × Bool × Int)) (k127 : Λ→Λ→Ω (Λ × Bool × Int)) (k505 : Λ→Λ→Ω (Λ × Bool × Int)) (x0 x1 : Λ) : Ω (Λ × Bool × Int) := ((c93 x0 x1).bind fun t1 => ((c61 x1 t1.1).bind fun t2 => ((c96 t2.1 1).bind fun t3 => ((c21 t3.1 x1).bind fun t4 => (if t4 ≥ 0 then k127 x0 x1 else k505 x0 t3.1)))))
noncomputable def l127 (n : Nat) (x0 x1 : Λ) : Ω (Λ × Bool × Int) := b127 (nat_Mul.f n) (nat_Cmp.f n) (nat_Shl.f n) (nat_Add.f n) (nat_BitLen.f n) (quot_small.f n) (quot_DivMod.f n) (nat_Shr.f n) x0 x1
noncomputable def l505 (n : Nat) : Nat→Λ→Λ→Ω (Λ × Bool × Int)
  | 0, _, _ => none
  | m + 1, x0, x1 => b505 (nat_Mul.f n) (nat_Cmp.f n) (nat_Shl.f n) (nat_Add.f n) (nat_BitLen.f n) (quot_small.f n) (quot_DivMod.f n) (nat_Shr.f n) (l127 n) (l505 n m) x0 x1
noncomputable def f (n : Nat) (l0 : Λ) : Ω (Λ × Bool × Int) := b0 (nat_Mul.f n) (nat_Cmp.f n) (nat_Shl.f n) (nat_Add.f n) (nat_BitLen.f n) (quot_small.f n) (quot_DivMod.f n) (nat_Shr.f n) (l505 n n) l0
noncomputable def sg : Sig (Λ × Bool × Int) := s2 (sRow .u64) (s2 (sBool) (s1 (sInt .i64)))
noncomputable def code : Code := (Tryd.f83.body).getD .skip
noncomputable def cfg (c19 : Λ→Λ→Ω (Λ × Int)) (c21 : Λ→Λ→Ω (Int)) (c59 : Λ→Int→Ω (Λ × Int)) (c61 : Λ→Λ→Ω (Λ × Int)) (c84 : Λ→Ω (Int)) (c91 : Λ→Int→Ω (Λ × Bool)) (c93 : Λ→Λ→Ω (Λ × Λ × Int)) (c96 : Λ→Int→Ω (Λ × Bool × Int)) : Cfg (Λ × Bool × Int) := { T := tys, call := orCall 19 (nat_Mul.call c19) (orCall 21 (nat_Cmp.call c21) (orCall 59 (nat_Shl.call c59) (orCall 61 (nat_Add.call c61) (orCall 84 (nat_BitLen.call c84) (orCall 91 (quot_small.call c91) (orCall 93 (quot_DivMod.call c93) (orCall 96 (nat_Shr.call c96) (noCall)))))))) }
noncomputable def cuts : List (Nat × List (Nat × Want)) := [(127, [(5, .keep), (7, .keep)]), (505, [(5, .keep), (7, .keep)])]
noncomputable def s127 (x0 x1 : Λ) : ASt := ⟨[(5, .ro .u64 x0), (7, .ro .u64 x1)], []⟩
noncomputable def s505 (x0 x1 : Λ) : ASt := ⟨[(5, .ro .u64 x0), (7, .ro .u64 x1)], []⟩
noncomputable def A (c19 : Λ→Λ→Ω (Λ × Int)) (c21 : Λ→Λ→Ω (Int)) (c59 : Λ→Int→Ω (Λ × Int)) (c61 : Λ→Λ→Ω (Λ × Int)) (c84 : Λ→Ω (Int)) (c91 : Λ→Int→Ω (Λ × Bool)) (c93 : Λ→Λ→Ω (Λ × Λ × Int)) (c96 : Λ→Int→Ω (Λ × Bool × Int)) (n : Nat) (J : Jt (Λ × Bool × Int)) (q : Nat) (ms : List Nat) : ASt→Ω (Λ × Bool × Int) := acont (cfg c19 c21 c59 c61 c84 c91 c93 c96) J cuts n q code 1 ms (aend (cfg c19 c21 c59 c61 c84 c91 c93 c96) Tryd.f83.results.toList [false, false, false] sg.out)
theorem e0 {c19 c21 c59 c61 c84 c91 c93 c96 n J l0} : afun (cfg c19 c21 c59 c61 c84 c91 c93 c96) J cuts n code Tryd.f83.results.toList [false, false, false] [.ro .u64 l0] sg.out = b0 c19 c21 c59 c61 c84 c91 c93 c96 (fun y0 y1 => J 505 (A c19 c21 c59 c61 c84 c91 c93 c96 n J 505 [n]) (s505 y0 y1)) l0 := by kernel_rfl
theorem e127 {c19 c21 c59 c61 c84 c91 c93 c96 n J x0 x1} : A c19 c21 c59 c61 c84 c91 c93 c96 n J 127 [] (s127 x0 x1) = b127 c19 c21 c59 c61 c84 c91 c93 c96 x0 x1 := by kernel_rfl
theorem e505 {c19 c21 c59 c61 c84 c91 c93 c96 n J m x0 x1} : A c19 c21 c59 c61 c84 c91 c93 c96 n J 505 [m + 1] (s505 x0 x1) = b505 c19 c21 c59 c61 c84 c91 c93 c96 (fun y0 y1 => J 127 (A c19 c21 c59 c61 c84 c91 c93 c96 n J 127 []) (s127 y0 y1)) (fun y0 y1 => J 505 (A c19 c21 c59 c61 c84 c91 c93 c96 n J 505 [m]) (s505 y0 y1)) x0 x1 := by kernel_rfl
noncomputable abbrev I (n : Nat) := A (nat_Mul.f n) (nat_Cmp.f n) (nat_Shl.f n) (nat_Add.f n) (nat_BitLen.f n) (quot_small.f n) (quot_DivMod.f n) (nat_Shr.f n) n idJ
theorem q127 (n x0 x1) : I n 127 [] (s127 x0 x1) = l127 n x0 x1 := e127
theorem q505 (n m) : ∀ x0 x1, I n 505 [m] (s505 x0 x1) = l505 n m x0 x1 := by
  induction m with
  | zero => intros; rfl
  | succ m ih =>
    intros
    exact e505.trans (Eq.trans (cf2 (congr (congrArg (b505 _ _ _ _ _ _ _ _) (fu2 (q127 n))) (fu2 (ih))) _ _) rfl)
theorem ok {n  l0 r} (h : f n l0 = some r) : CallD Tryd.prog HW 83 [.ro .u64 l0] (sg.enc r) :=
  fun_some hwS Tryd.func83 (by kernel_rfl) (body := code) (by kernel_rfl) tys_ok (c := cfg (nat_Mul.f n) (nat_Cmp.f n) (nat_Shl.f n) (nat_Add.f n) (nat_BitLen.f n) (quot_small.f n) (quot_DivMod.f n) (nat_Shr.f n)) (orCall_ok (nat_Mul.call_ok (n := n)) (orCall_ok (nat_Cmp.call_ok (n := n)) (orCall_ok (nat_Shl.call_ok (n := n)) (orCall_ok (nat_Add.call_ok (n := n)) (orCall_ok (nat_BitLen.call_ok (n := n)) (orCall_ok (quot_small.call_ok (n := n)) (orCall_ok (quot_DivMod.call_ok (n := n)) (orCall_ok (nat_Shr.call_ok (n := n)) noCall_ok)))))))) noW_ok (by kernel_rfl) (by kernel_rfl) (Nat.le_of_ble_eq_true (by kernel_rfl)) (Eq.trans ((e0 (n := n)).trans (Eq.trans (cf1 (congrArg (b0 _ _ _ _ _ _ _ _) (fu2 (q505 n n))) _) rfl)) h)
noncomputable def call {α : Type} (g : Λ→Ω (Λ × Bool × Int)) (ds : List D) (K : List D→Ω α) : Ω α := match ds with
  | [.ro .u64 l0] => (g l0).bind fun r => K (sg.enc r)
  | _ => none
theorem call_ok {α : Type} {n : Nat} : COK Tryd.prog HW 83 (call (α := α) (f n)) := fun _ _ _ h => by
  unfold call at h; split at h
  · exact cok h fun _ => ok
  · cases h
end quot_Root
/-! ### soft_sqrt: function 48 -/
namespace soft_sqrt
noncomputable def b0 (c20 : Int→Ω (Bool × Int × Int × Int)) (c58 : Int→Ω (Λ)) (c59 : Λ→Int→Ω (Λ × Int)) (c68 : Bool→Λ→Int→Bool→Ω (Int × Int)) (c75 : Ω (Int × Int)) (c83 : Λ→Ω (Λ × Bool × Int)) (c84 : Λ→Ω (Int)) (c85 : Λ→Ω (Int)) (k63 : Int→Bool→Int→Int→Int→Ω (Int × Int)) (a0 a1 a2 : Int) : Ω (Int × Int) := ((c20 a0).bind fun t1 => (if t1.2.1 = 4 then some (9221120237041090560, 0) else (if t1.2.1 = 0 then some (a0, 0) else (if t1.1 = true then ((c75).bind fun t2 => some (t2.1, t2.2)) else (if t1.2.1 = 3 then some (a0, 0) else (if ¬ (Int.tmod (wrap64 (t1.2.2.2 - 118)) 2) = 0 then k63 119 t1.1 t1.2.1 t1.2.2.1 t1.2.2.2 else k63 118 t1.1 t1.2.1 t1.2.2.1 t1.2.2.2))))))
noncomputable def b63 (c20 : Int→Ω (Bool × Int × Int × Int)) (c58 : Int→Ω (Λ)) (c59 : Λ→Int→Ω (Λ × Int)) (c68 : Bool→Λ→Int→Bool→Ω (Int × Int)) (c75 : Ω (Int × Int)) (c83 : Λ→Ω (Λ × Bool × Int)) (c84 : Λ→Ω (Int)) (c85 : Λ→Ω (Int)) (x0 : Int) (x1 : Bool) (x2 x3 x4 : Int) : Ω (Int × Int) := ((c58 x3).bind fun t1 => ((c59 t1 x0).bind fun t2 => ((c83 t2.1).bind fun t3 => ((c68 false t3.1 (wrap64 (Int.tdiv (wrap64 (x4 - x0)) 2)) (!t3.2.1)).bind fun t4 => (if t3.2.1 = true then ((c84 t3.1).bind fun t5 => ((c85 t3.1).bind fun t6 => (if (wrap64 (t5 - t6)) ≤ 53 then some (t4.1, 0) else some (t4.1, 16)))) else some (t4.1, 16))))))
noncomputable def l63 (n : Nat) (x0 : Int) (x1 : Bool) (x2 x3 x4 : Int) : Ω (Int × Int) := b63 ieee_Decode.f nat_FromUint.f (nat_Shl.f n) (ieee_Round.f n) soft_invalid.f (quot_Root.f n) (nat_BitLen.f n) (nat_Trail.f n) x0 x1 x2 x3 x4
noncomputable def f (n : Nat) (a0 a1 a2 : Int) : Ω (Int × Int) := b0 ieee_Decode.f nat_FromUint.f (nat_Shl.f n) (ieee_Round.f n) soft_invalid.f (quot_Root.f n) (nat_BitLen.f n) (nat_Trail.f n) (l63 n) a0 a1 a2
noncomputable def sg : Sig (Int × Int) := s2 (sInt .u64) (s1 (sInt .i64))
noncomputable def code : Code := (Tryd.f48.body).getD .skip
noncomputable def cfg (c20 : Int→Ω (Bool × Int × Int × Int)) (c58 : Int→Ω (Λ)) (c59 : Λ→Int→Ω (Λ × Int)) (c68 : Bool→Λ→Int→Bool→Ω (Int × Int)) (c75 : Ω (Int × Int)) (c83 : Λ→Ω (Λ × Bool × Int)) (c84 : Λ→Ω (Int)) (c85 : Λ→Ω (Int)) : Cfg (Int × Int) := { T := tys, call := orCall 20 (ieee_Decode.call c20) (orCall 58 (nat_FromUint.call c58) (orCall 59 (nat_Shl.call c59) (orCall 68 (ieee_Round.call c68) (orCall 75 (soft_invalid.call c75) (orCall 83 (quot_Root.call c83) (orCall 84 (nat_BitLen.call c84) (orCall 85 (nat_Trail.call c85) (noCall)))))))) }
noncomputable def cuts : List (Nat × List (Nat × Want)) := [(63, [(8, .keep), (9, .keep)])]
noncomputable def s63 (x0 : Int) (x1 : Bool) (x2 x3 x4 : Int) : ASt := ⟨[(8, .ptr 0 0), (9, .int .i64 x0)], [.cells 46 [.bool x1, .int .i64 x2, .int .u64 x3, .int .i64 x4]]⟩
noncomputable def A (c20 : Int→Ω (Bool × Int × Int × Int)) (c58 : Int→Ω (Λ)) (c59 : Λ→Int→Ω (Λ × Int)) (c68 : Bool→Λ→Int→Bool→Ω (Int × Int)) (c75 : Ω (Int × Int)) (c83 : Λ→Ω (Λ × Bool × Int)) (c84 : Λ→Ω (Int)) (c85 : Λ→Ω (Int)) (n : Nat) (J : Jt (Int × Int)) (q : Nat) (ms : List Nat) : ASt→Ω (Int × Int) := acont (cfg c20 c58 c59 c68 c75 c83 c84 c85) J cuts n q code 1 ms (aend (cfg c20 c58 c59 c68 c75 c83 c84 c85) Tryd.f48.results.toList [false, false] sg.out)
theorem e0 {c20 c58 c59 c68 c75 c83 c84 c85 n J a0 a1 a2} : afun (cfg c20 c58 c59 c68 c75 c83 c84 c85) J cuts n code Tryd.f48.results.toList [false, false] [.int .u64 a0, .int .u64 a1, .int .u64 a2] sg.out = b0 c20 c58 c59 c68 c75 c83 c84 c85 (fun y0 y1 y2 y3 y4 => J 63 (A c20 c58 c59 c68 c75 c83 c84 c85 n J 63 []) (s63 y0 y1 y2 y3 y4)) a0 a1 a2 := by kernel_rfl
theorem e63 {c20 c58 c59 c68 c75 c83 c84 c85 n J x0 x1 x2 x3 x4} : A c20 c58 c59 c68 c75 c83 c84 c85 n J 63 [] (s63 x0 x1 x2 x3 x4) = b63 c20 c58 c59 c68 c75 c83 c84 c85 x0 x1 x2 x3 x4 := by kernel_rfl
noncomputable abbrev I (n : Nat) := A ieee_Decode.f nat_FromUint.f (nat_Shl.f n) (ieee_Round.f n) soft_invalid.f (quot_Root.f n) (nat_BitLen.f n) (nat_Trail.f n) n idJ
theorem q63 (n x0 x1 x2 x3 x4) : I n 63 [] (s63 x0 x1 x2 x3 x4) = l63 n x0 x1 x2 x3 x4 := e63
theorem ok {n  a0 a1 a2 r} (h : f n a0 a1 a2 = some r) : CallD Tryd.prog HW 48 [.int .u64 a0, .int .u64 a1, .int .u64 a2] (sg.enc r) :=
  fun_some hwS Tryd.func48 (by kernel_rfl) (body := code) (by kernel_rfl) tys_ok (c := cfg ieee_Decode.f nat_FromUint.f (nat_Shl.f n) (ieee_Round.f n) soft_invalid.f (quot_Root.f n) (nat_BitLen.f n) (nat_Trail.f n)) (orCall_ok ieee_Decode.call_ok (orCall_ok nat_FromUint.call_ok (orCall_ok (nat_Shl.call_ok (n := n)) (orCall_ok (ieee_Round.call_ok (n := n)) (orCall_ok soft_invalid.call_ok (orCall_ok (quot_Root.call_ok (n := n)) (orCall_ok (nat_BitLen.call_ok (n := n)) (orCall_ok (nat_Trail.call_ok (n := n)) noCall_ok)))))))) noW_ok (by kernel_rfl) (by kernel_rfl) (Nat.le_of_ble_eq_true (by kernel_rfl)) (Eq.trans ((e0 (n := n)).trans (Eq.trans (cf3 (congrArg (b0 _ _ _ _ _ _ _ _) (fu5 (q63 n))) _ _ _) rfl)) h)
noncomputable def call {α : Type} (g : Int→Int→Int→Ω (Int × Int)) (ds : List D) (K : List D→Ω α) : Ω α := match ds with
  | [.int .u64 a0, .int .u64 a1, .int .u64 a2] => (g a0 a1 a2).bind fun r => K (sg.enc r)
  | _ => none
theorem call_ok {α : Type} {n : Nat} : COK Tryd.prog HW 48 (call (α := α) (f n)) := fun _ _ _ h => by
  unfold call at h; split at h
  · exact cok h fun _ => ok
  · cases h
end soft_sqrt
/-! ### nat_MulAdd: function 94 -/
namespace nat_MulAdd
noncomputable def b0 (c50 : Λ→Ω (Bool)) (c51 : Λ→Ω (Int)) (c52 : Int→Int→Ω (Int × Int)) (c53 : Int→Int→Int→Ω (Int × Int)) (c54 : Λ→Ω (Λ × Int)) (k1013 : Λ→Int→Int→Int→Int→Λ→Ω (Λ × Int)) (l0 : Λ) (a1 a2 : Int) : Ω (Λ × Int) := ((c50 l0).bind fun t1 => (if t1 = true then some (([] : Λ), 2) else ((c51 l0).bind fun t2 => (if 0 ≤ t2 then (if t2 ≤ (ln l0) then ((some (l0.take t2.toNat) : Ω (Λ)).bind fun y3 => (if 0 ≤ (wrap64 ((ln y3) + 1)) then (if (wrap64 ((ln y3) + 1)).toNat ≤ 35184372088832 then k1013 y3 a1 a2 (ln y3) 0 (List.replicate (wrap64 ((ln y3) + 1)).toNat (0 : Int)) else none) else none)) else none) else none))))
noncomputable def b127 (c50 : Λ→Ω (Bool)) (c51 : Λ→Ω (Int)) (c52 : Int→Int→Ω (Int × Int)) (c53 : Int→Int→Int→Ω (Int × Int)) (c54 : Λ→Ω (Λ × Int)) (x0 : Λ) (x1 : Int) (x2 : Λ) : Ω (Λ × Int) := (if 0 ≤ (ln x0) then (if (ln x0) < (ln x2) then ((c54 (x2.set ((ln x0) : Int).toNat x1)).bind fun t1 => some (t1.1, t1.2)) else none) else none)
noncomputable def b1013 (c50 : Λ→Ω (Bool)) (c51 : Λ→Ω (Int)) (c52 : Int→Int→Ω (Int × Int)) (c53 : Int→Int→Int→Ω (Int × Int)) (c54 : Λ→Ω (Λ × Int)) (k127 : Λ→Int→Λ→Ω (Λ × Int)) (k1013 : Λ→Int→Int→Int→Int→Λ→Ω (Λ × Int)) (x0 : Λ) (x1 x2 x3 x4 : Int) (x5 : Λ) : Ω (Λ × Int) := (if x4 < x3 then (if 0 ≤ x4 then (if x4 < (ln x0) then ((c52 (rd x0 x4) x1).bind fun t1 => ((c53 t1.2 x2 0).bind fun t2 => (if 0 ≤ x4 then (if x4 < (ln x5) then k1013 x0 x1 (IntKind.u64.wrap (t1.1 + t2.2)) x3 (wrap64 (x4 + 1)) (x5.set (x4 : Int).toNat t2.1) else none) else none))) else none) else none) else k127 x0 x2 x5)
noncomputable def l127 (n : Nat) (x0 : Λ) (x1 : Int) (x2 : Λ) : Ω (Λ × Int) := b127 (nat_big.f n) (nat_size.f n) bits_Mul64.f bits_Add64.f (nat_cut.f n) x0 x1 x2
noncomputable def l1013 (n : Nat) : Nat→Λ→Int→Int→Int→Int→Λ→Ω (Λ × Int)
  | 0, _, _, _, _, _, _ => none
  | m + 1, x0, x1, x2, x3, x4, x5 => b1013 (nat_big.f n) (nat_size.f n) bits_Mul64.f bits_Add64.f (nat_cut.f n) (l127 n) (l1013 n m) x0 x1 x2 x3 x4 x5
noncomputable def f (n : Nat) (l0 : Λ) (a1 a2 : Int) : Ω (Λ × Int) := b0 (nat_big.f n) (nat_size.f n) bits_Mul64.f bits_Add64.f (nat_cut.f n) (l1013 n n) l0 a1 a2
noncomputable def sg : Sig (Λ × Int) := s2 (sRow .u64) (s1 (sInt .i64))
noncomputable def code : Code := (Tryd.f94.body).getD .skip
noncomputable def cfg (c50 : Λ→Ω (Bool)) (c51 : Λ→Ω (Int)) (c52 : Int→Int→Ω (Int × Int)) (c53 : Int→Int→Int→Ω (Int × Int)) (c54 : Λ→Ω (Λ × Int)) : Cfg (Λ × Int) := { T := tys, call := orCall 50 (nat_big.call c50) (orCall 51 (nat_size.call c51) (orCall 52 (bits_Mul64.call c52) (orCall 53 (bits_Add64.call c53) (orCall 54 (nat_cut.call c54) (noCall))))) }
noncomputable def cuts : List (Nat × List (Nat × Want)) := [(127, [(0, .keep), (8, .keep), (9, .keep)]), (1013, [(0, .keep), (1, .keep), (8, .keep), (9, .keep), (26, .keep), (27, .keep), (28, .keep)])]
noncomputable def s127 (x0 : Λ) (x1 : Int) (x2 : Λ) : ASt := ⟨[(0, .ro .u64 x0), (8, .own 0), (9, .int .u64 x1)], [.ints 22 .u64 x2]⟩
noncomputable def s1013 (x0 : Λ) (x1 x2 x3 x4 : Int) (x5 : Λ) : ASt := ⟨[(0, .ro .u64 x0), (1, .int .u64 x1), (8, .own 0), (9, .int .u64 x2), (26, .ro .u64 x0), (27, .int .i64 x3), (28, .int .i64 x4)], [.ints 22 .u64 x5]⟩
noncomputable def A (c50 : Λ→Ω (Bool)) (c51 : Λ→Ω (Int)) (c52 : Int→Int→Ω (Int × Int)) (c53 : Int→Int→Int→Ω (Int × Int)) (c54 : Λ→Ω (Λ × Int)) (n : Nat) (J : Jt (Λ × Int)) (q : Nat) (ms : List Nat) : ASt→Ω (Λ × Int) := acont (cfg c50 c51 c52 c53 c54) J cuts n q code 1 ms (aend (cfg c50 c51 c52 c53 c54) Tryd.f94.results.toList [false, false] sg.out)
theorem e0 {c50 c51 c52 c53 c54 n J l0 a1 a2} : afun (cfg c50 c51 c52 c53 c54) J cuts n code Tryd.f94.results.toList [false, false] [.ro .u64 l0, .int .u64 a1, .int .u64 a2] sg.out = b0 c50 c51 c52 c53 c54 (fun y0 y1 y2 y3 y4 y5 => J 1013 (A c50 c51 c52 c53 c54 n J 1013 [n]) (s1013 y0 y1 y2 y3 y4 y5)) l0 a1 a2 := by kernel_rfl
theorem e127 {c50 c51 c52 c53 c54 n J x0 x1 x2} : A c50 c51 c52 c53 c54 n J 127 [] (s127 x0 x1 x2) = b127 c50 c51 c52 c53 c54 x0 x1 x2 := by kernel_rfl
theorem e1013 {c50 c51 c52 c53 c54 n J m x0 x1 x2 x3 x4 x5} : A c50 c51 c52 c53 c54 n J 1013 [m + 1] (s1013 x0 x1 x2 x3 x4 x5) = b1013 c50 c51 c52 c53 c54 (fun y0 y1 y2 => J 127 (A c50 c51 c52 c53 c54 n J 127 []) (s127 y0 y1 y2)) (fun y0 y1 y2 y3 y4 y5 => J 1013 (A c50 c51 c52 c53 c54 n J 1013 [m]) (s1013 y0 y1 y2 y3 y4 y5)) x0 x1 x2 x3 x4 x5 := by kernel_rfl
noncomputable abbrev I (n : Nat) := A (nat_big.f n) (nat_size.f n) bits_Mul64.f bits_Add64.f (nat_cut.f n) n idJ
theorem q127 (n x0 x1 x2) : I n 127 [] (s127 x0 x1 x2) = l127 n x0 x1 x2 := e127
theorem q1013 (n m) : ∀ x0 x1 x2 x3 x4 x5, I n 1013 [m] (s1013 x0 x1 x2 x3 x4 x5) = l1013 n m x0 x1 x2 x3 x4 x5 := by
  induction m with
  | zero => intros; rfl
  | succ m ih =>
    intros
    exact e1013.trans (Eq.trans (cf6 (congr (congrArg (b1013 _ _ _ _ _) (fu3 (q127 n))) (fu6 (ih))) _ _ _ _ _ _) rfl)
theorem ok {n  l0 a1 a2 r} (h : f n l0 a1 a2 = some r) : CallD Tryd.prog HW 94 [.ro .u64 l0, .int .u64 a1, .int .u64 a2] (sg.enc r) :=
  fun_some hwS Tryd.func94 (by kernel_rfl) (body := code) (by kernel_rfl) tys_ok (c := cfg (nat_big.f n) (nat_size.f n) bits_Mul64.f bits_Add64.f (nat_cut.f n)) (orCall_ok (nat_big.call_ok (n := n)) (orCall_ok (nat_size.call_ok (n := n)) (orCall_ok bits_Mul64.call_ok (orCall_ok bits_Add64.call_ok (orCall_ok (nat_cut.call_ok (n := n)) noCall_ok))))) noW_ok (by kernel_rfl) (by kernel_rfl) (Nat.le_of_ble_eq_true (by kernel_rfl)) (Eq.trans ((e0 (n := n)).trans (Eq.trans (cf3 (congrArg (b0 _ _ _ _ _) (fu6 (q1013 n n))) _ _ _) rfl)) h)
noncomputable def call {α : Type} (g : Λ→Int→Int→Ω (Λ × Int)) (ds : List D) (K : List D→Ω α) : Ω α := match ds with
  | [.ro .u64 l0, .int .u64 a1, .int .u64 a2] => (g l0 a1 a2).bind fun r => K (sg.enc r)
  | _ => none
theorem call_ok {α : Type} {n : Nat} : COK Tryd.prog HW 94 (call (α := α) (f n)) := fun _ _ _ h => by
  unfold call at h; split at h
  · exact cok h fun _ => ok
  · cases h
end nat_MulAdd
/-! ### ieee_RoundRatio: function 70 -/
namespace ieee_RoundRatio
noncomputable def b0 (c21 : Λ→Λ→Ω (Int)) (c59 : Λ→Int→Ω (Λ × Int)) (c61 : Λ→Λ→Ω (Λ × Int)) (c62 : Λ→Λ→Ω (Λ × Int)) (c68 : Bool→Λ→Int→Bool→Ω (Int × Int)) (c84 : Λ→Ω (Int)) (c90 : Int→Ω (Int)) (c93 : Λ→Λ→Ω (Λ × Λ × Int)) (c94 : Λ→Int→Int→Ω (Λ × Int)) (k127 : Bool→Λ→Λ→Int→Ω (Int × Int)) (a0 : Bool) (l1 l2 : Λ) (a3 : Int) : Ω (Int × Int) := ((c59 l1 0).bind fun t1 => ((c59 l2 0).bind fun t2 => (if ¬ t1.2 = 0 then some (0, 2) else (if ¬ t2.2 = 0 then some (0, 2) else (if (ln t2.1) = 0 then some (0, 4) else (if (ln t1.1) = 0 then ((c68 a0 ([] : Λ) 0 false).bind fun t3 => some (t3.1, t3.2)) else ((c90 a3).bind fun t4 => ((c84 t2.1).bind fun t5 => ((c84 t1.1).bind fun t6 => (if (wrap64 (t5 - t6)) > 0 then ((c59 t1.1 (wrap64 (t5 - t6))).bind fun t7 => k127 a0 t7.1 t2.1 (wrap64 (t4 - (wrap64 (t5 - t6))))) else k127 a0 t1.1 t2.1 t4))))))))))
noncomputable def b127 (c21 : Λ→Λ→Ω (Int)) (c59 : Λ→Int→Ω (Λ × Int)) (c61 : Λ→Λ→Ω (Λ × Int)) (c62 : Λ→Λ→Ω (Λ × Int)) (c68 : Bool→Λ→Int→Bool→Ω (Int × Int)) (c84 : Λ→Ω (Int)) (c90 : Int→Ω (Int)) (c93 : Λ→Λ→Ω (Λ × Λ × Int)) (c94 : Λ→Int→Int→Ω (Λ × Int)) (k4089 : Bool→Λ→Int→Λ→Λ→Ω (Int × Int)) (x0 : Bool) (x1 x2 : Λ) (x3 : Int) : Ω (Int × Int) := ((c93 x1 x2).bind fun t1 => (if ¬ t1.2.2 = 0 then some (0, t1.2.2) else k4089 x0 x2 x3 t1.1 t1.2.1))
noncomputable def b1023 (c21 : Λ→Λ→Ω (Int)) (c59 : Λ→Int→Ω (Λ × Int)) (c61 : Λ→Λ→Ω (Λ × Int)) (c62 : Λ→Λ→Ω (Λ × Int)) (c68 : Bool→Λ→Int→Bool→Ω (Int × Int)) (c84 : Λ→Ω (Int)) (c90 : Int→Ω (Int)) (c93 : Λ→Λ→Ω (Λ × Λ × Int)) (c94 : Λ→Int→Int→Ω (Λ × Int)) (x0 : Bool) (x1 : Int) (x2 x3 : Λ) : Ω (Int × Int) := ((c68 x0 x2 x1 (decide ((ln x3) > 0))).bind fun t1 => some (t1.1, t1.2))
noncomputable def b4089 (c21 : Λ→Λ→Ω (Int)) (c59 : Λ→Int→Ω (Λ × Int)) (c61 : Λ→Λ→Ω (Λ × Int)) (c62 : Λ→Λ→Ω (Λ × Int)) (c68 : Bool→Λ→Int→Bool→Ω (Int × Int)) (c84 : Λ→Ω (Int)) (c90 : Int→Ω (Int)) (c93 : Λ→Λ→Ω (Λ × Λ × Int)) (c94 : Λ→Int→Int→Ω (Λ × Int)) (k1023 : Bool→Int→Λ→Λ→Ω (Int × Int)) (k130839 : Bool→Λ→Int→Λ→Λ→Int→Ω (Int × Int)) (x0 : Bool) (x1 : Λ) (x2 : Int) (x3 x4 : Λ) : Ω (Int × Int) := ((c84 x3).bind fun t1 => (if t1 < 66 then ((c62 x1 x4).bind fun t2 => ((c21 x4 t2.1).bind fun t3 => (if t3 ≥ 0 then ((c62 x4 t2.1).bind fun t4 => k130839 x0 x1 x2 x3 t4.1 1) else ((c61 x4 x4).bind fun t5 => k130839 x0 x1 x2 x3 t5.1 0)))) else k1023 x0 x2 x3 x4))
noncomputable def b130839 (c21 : Λ→Λ→Ω (Int)) (c59 : Λ→Int→Ω (Λ × Int)) (c61 : Λ→Λ→Ω (Λ × Int)) (c62 : Λ→Λ→Ω (Λ × Int)) (c68 : Bool→Λ→Int→Bool→Ω (Int × Int)) (c84 : Λ→Ω (Int)) (c90 : Int→Ω (Int)) (c93 : Λ→Λ→Ω (Λ × Λ × Int)) (c94 : Λ→Int→Int→Ω (Λ × Int)) (k4089 : Bool→Λ→Int→Λ→Λ→Ω (Int × Int)) (x0 : Bool) (x1 : Λ) (x2 : Int) (x3 x4 : Λ) (x5 : Int) : Ω (Int × Int) := ((c94 x3 2 x5).bind fun t1 => k4089 x0 x1 (wrap64 (x2 - 1)) t1.1 x4)
noncomputable def l1023 (n : Nat) (x0 : Bool) (x1 : Int) (x2 x3 : Λ) : Ω (Int × Int) := b1023 (nat_Cmp.f n) (nat_Shl.f n) (nat_Add.f n) (nat_Sub.f n) (ieee_Round.f n) (nat_BitLen.f n) ieee_near.f (quot_DivMod.f n) (nat_MulAdd.f n) x0 x1 x2 x3
noncomputable def l130839 (n : Nat) (k4089 : Bool→Λ→Int→Λ→Λ→Ω (Int × Int)) (x0 : Bool) (x1 : Λ) (x2 : Int) (x3 x4 : Λ) (x5 : Int) : Ω (Int × Int) := b130839 (nat_Cmp.f n) (nat_Shl.f n) (nat_Add.f n) (nat_Sub.f n) (ieee_Round.f n) (nat_BitLen.f n) ieee_near.f (quot_DivMod.f n) (nat_MulAdd.f n) k4089 x0 x1 x2 x3 x4 x5
noncomputable def l4089 (n : Nat) : Nat→Bool→Λ→Int→Λ→Λ→Ω (Int × Int)
  | 0, _, _, _, _, _ => none
  | m + 1, x0, x1, x2, x3, x4 => b4089 (nat_Cmp.f n) (nat_Shl.f n) (nat_Add.f n) (nat_Sub.f n) (ieee_Round.f n) (nat_BitLen.f n) ieee_near.f (quot_DivMod.f n) (nat_MulAdd.f n) (l1023 n) (l130839 n (l4089 n m)) x0 x1 x2 x3 x4
noncomputable def l127 (n : Nat) (x0 : Bool) (x1 x2 : Λ) (x3 : Int) : Ω (Int × Int) := b127 (nat_Cmp.f n) (nat_Shl.f n) (nat_Add.f n) (nat_Sub.f n) (ieee_Round.f n) (nat_BitLen.f n) ieee_near.f (quot_DivMod.f n) (nat_MulAdd.f n) (l4089 n n) x0 x1 x2 x3
noncomputable def f (n : Nat) (a0 : Bool) (l1 l2 : Λ) (a3 : Int) : Ω (Int × Int) := b0 (nat_Cmp.f n) (nat_Shl.f n) (nat_Add.f n) (nat_Sub.f n) (ieee_Round.f n) (nat_BitLen.f n) ieee_near.f (quot_DivMod.f n) (nat_MulAdd.f n) (l127 n) a0 l1 l2 a3
noncomputable def sg : Sig (Int × Int) := s2 (sInt .u64) (s1 (sInt .i64))
noncomputable def code : Code := (Tryd.f70.body).getD .skip
noncomputable def cfg (c21 : Λ→Λ→Ω (Int)) (c59 : Λ→Int→Ω (Λ × Int)) (c61 : Λ→Λ→Ω (Λ × Int)) (c62 : Λ→Λ→Ω (Λ × Int)) (c68 : Bool→Λ→Int→Bool→Ω (Int × Int)) (c84 : Λ→Ω (Int)) (c90 : Int→Ω (Int)) (c93 : Λ→Λ→Ω (Λ × Λ × Int)) (c94 : Λ→Int→Int→Ω (Λ × Int)) : Cfg (Int × Int) := { T := tys, call := orCall 21 (nat_Cmp.call c21) (orCall 59 (nat_Shl.call c59) (orCall 61 (nat_Add.call c61) (orCall 62 (nat_Sub.call c62) (orCall 68 (ieee_Round.call c68) (orCall 84 (nat_BitLen.call c84) (orCall 90 (ieee_near.call c90) (orCall 93 (quot_DivMod.call c93) (orCall 94 (nat_MulAdd.call c94) (noCall))))))))) }
noncomputable def cuts : List (Nat × List (Nat × Want)) := [(127, [(0, .keep), (1, .keep), (2, .keep), (3, .keep)]), (1023, [(0, .keep), (3, .keep), (13, .keep), (14, .keep)]), (4089, [(0, .keep), (2, .keep), (3, .keep), (13, .keep), (14, .keep)]), (130839, [(0, .keep), (2, .keep), (3, .keep), (13, .keep), (14, .keep), (17, .keep)])]
noncomputable def s127 (x0 : Bool) (x1 x2 : Λ) (x3 : Int) : ASt := ⟨[(0, .bool x0), (1, .ro .u64 x1), (2, .ro .u64 x2), (3, .int .i64 x3)], []⟩
noncomputable def s1023 (x0 : Bool) (x1 : Int) (x2 x3 : Λ) : ASt := ⟨[(0, .bool x0), (3, .int .i64 x1), (13, .ro .u64 x2), (14, .ro .u64 x3)], []⟩
noncomputable def s4089 (x0 : Bool) (x1 : Λ) (x2 : Int) (x3 x4 : Λ) : ASt := ⟨[(0, .bool x0), (2, .ro .u64 x1), (3, .int .i64 x2), (13, .ro .u64 x3), (14, .ro .u64 x4)], []⟩
noncomputable def s130839 (x0 : Bool) (x1 : Λ) (x2 : Int) (x3 x4 : Λ) (x5 : Int) : ASt := ⟨[(0, .bool x0), (2, .ro .u64 x1), (3, .int .i64 x2), (13, .ro .u64 x3), (14, .ro .u64 x4), (17, .int .u64 x5)], []⟩
noncomputable def A (c21 : Λ→Λ→Ω (Int)) (c59 : Λ→Int→Ω (Λ × Int)) (c61 : Λ→Λ→Ω (Λ × Int)) (c62 : Λ→Λ→Ω (Λ × Int)) (c68 : Bool→Λ→Int→Bool→Ω (Int × Int)) (c84 : Λ→Ω (Int)) (c90 : Int→Ω (Int)) (c93 : Λ→Λ→Ω (Λ × Λ × Int)) (c94 : Λ→Int→Int→Ω (Λ × Int)) (n : Nat) (J : Jt (Int × Int)) (q : Nat) (ms : List Nat) : ASt→Ω (Int × Int) := acont (cfg c21 c59 c61 c62 c68 c84 c90 c93 c94) J cuts n q code 1 ms (aend (cfg c21 c59 c61 c62 c68 c84 c90 c93 c94) Tryd.f70.results.toList [false, false] sg.out)
theorem e0 {c21 c59 c61 c62 c68 c84 c90 c93 c94 n J a0 l1 l2 a3} : afun (cfg c21 c59 c61 c62 c68 c84 c90 c93 c94) J cuts n code Tryd.f70.results.toList [false, false] [.bool a0, .ro .u64 l1, .ro .u64 l2, .int .i64 a3] sg.out = b0 c21 c59 c61 c62 c68 c84 c90 c93 c94 (fun y0 y1 y2 y3 => J 127 (A c21 c59 c61 c62 c68 c84 c90 c93 c94 n J 127 []) (s127 y0 y1 y2 y3)) a0 l1 l2 a3 := by kernel_rfl
theorem e127 {c21 c59 c61 c62 c68 c84 c90 c93 c94 n J x0 x1 x2 x3} : A c21 c59 c61 c62 c68 c84 c90 c93 c94 n J 127 [] (s127 x0 x1 x2 x3) = b127 c21 c59 c61 c62 c68 c84 c90 c93 c94 (fun y0 y1 y2 y3 y4 => J 4089 (A c21 c59 c61 c62 c68 c84 c90 c93 c94 n J 4089 [n]) (s4089 y0 y1 y2 y3 y4)) x0 x1 x2 x3 := by kernel_rfl
theorem e1023 {c21 c59 c61 c62 c68 c84 c90 c93 c94 n J x0 x1 x2 x3} : A c21 c59 c61 c62 c68 c84 c90 c93 c94 n J 1023 [] (s1023 x0 x1 x2 x3) = b1023 c21 c59 c61 c62 c68 c84 c90 c93 c94 x0 x1 x2 x3 := by kernel_rfl
theorem e4089 {c21 c59 c61 c62 c68 c84 c90 c93 c94 n J m x0 x1 x2 x3 x4} : A c21 c59 c61 c62 c68 c84 c90 c93 c94 n J 4089 [m + 1] (s4089 x0 x1 x2 x3 x4) = b4089 c21 c59 c61 c62 c68 c84 c90 c93 c94 (fun y0 y1 y2 y3 => J 1023 (A c21 c59 c61 c62 c68 c84 c90 c93 c94 n J 1023 []) (s1023 y0 y1 y2 y3)) (fun y0 y1 y2 y3 y4 y5 => J 130839 (A c21 c59 c61 c62 c68 c84 c90 c93 c94 n J 130839 [m]) (s130839 y0 y1 y2 y3 y4 y5)) x0 x1 x2 x3 x4 := by kernel_rfl
theorem e130839 {c21 c59 c61 c62 c68 c84 c90 c93 c94 n J m4089 x0 x1 x2 x3 x4 x5} : A c21 c59 c61 c62 c68 c84 c90 c93 c94 n J 130839 [m4089] (s130839 x0 x1 x2 x3 x4 x5) = b130839 c21 c59 c61 c62 c68 c84 c90 c93 c94 (fun y0 y1 y2 y3 y4 => J 4089 (A c21 c59 c61 c62 c68 c84 c90 c93 c94 n J 4089 [m4089]) (s4089 y0 y1 y2 y3 y4)) x0 x1 x2 x3 x4 x5 := by kernel_rfl
noncomputable abbrev I (n : Nat) := A (nat_Cmp.f n) (nat_Shl.f n) (nat_Add.f n) (nat_Sub.f n) (ieee_Round.f n) (nat_BitLen.f n) ieee_near.f (quot_DivMod.f n) (nat_MulAdd.f n) n idJ
theorem q1023 (n x0 x1 x2 x3) : I n 1023 [] (s1023 x0 x1 x2 x3) = l1023 n x0 x1 x2 x3 := e1023
theorem q130839 (n m4089 x0 x1 x2 x3 x4 x5) : I n 130839 [m4089] (s130839 x0 x1 x2 x3 x4 x5) = l130839 n (fun y0 y1 y2 y3 y4 => I n 4089 [m4089] (s4089 y0 y1 y2 y3 y4)) x0 x1 x2 x3 x4 x5 := e130839
theorem q4089 (n m) : ∀ x0 x1 x2 x3 x4, I n 4089 [m] (s4089 x0 x1 x2 x3 x4) = l4089 n m x0 x1 x2 x3 x4 := by
  induction m with
  | zero => intros; rfl
  | succ m ih =>
    intros
    exact e4089.trans (Eq.trans (cf5 (congr (congrArg (b4089 _ _ _ _ _ _ _ _ _) (fu4 (q1023 n))) ((fu6 (q130839 n m)).trans (by rw [show (fun y0 y1 y2 y3 y4 => I n 4089 [m] (s4089 y0 y1 y2 y3 y4)) = _ from (fu5 (ih))]))) _ _ _ _ _) rfl)
theorem q127 (n x0 x1 x2 x3) : I n 127 [] (s127 x0 x1 x2 x3) = l127 n x0 x1 x2 x3 := e127.trans (Eq.trans (cf4 (congrArg (b127 _ _ _ _ _ _ _ _ _) (fu5 (q4089 n n))) _ _ _ _) rfl)
theorem ok {n  a0 l1 l2 a3 r} (h : f n a0 l1 l2 a3 = some r) : CallD Tryd.prog HW 70 [.bool a0, .ro .u64 l1, .ro .u64 l2, .int .i64 a3] (sg.enc r) :=
  fun_some hwS Tryd.func70 (by kernel_rfl) (body := code) (by kernel_rfl) tys_ok (c := cfg (nat_Cmp.f n) (nat_Shl.f n) (nat_Add.f n) (nat_Sub.f n) (ieee_Round.f n) (nat_BitLen.f n) ieee_near.f (quot_DivMod.f n) (nat_MulAdd.f n)) (orCall_ok (nat_Cmp.call_ok (n := n)) (orCall_ok (nat_Shl.call_ok (n := n)) (orCall_ok (nat_Add.call_ok (n := n)) (orCall_ok (nat_Sub.call_ok (n := n)) (orCall_ok (ieee_Round.call_ok (n := n)) (orCall_ok (nat_BitLen.call_ok (n := n)) (orCall_ok ieee_near.call_ok (orCall_ok (quot_DivMod.call_ok (n := n)) (orCall_ok (nat_MulAdd.call_ok (n := n)) noCall_ok))))))))) noW_ok (by kernel_rfl) (by kernel_rfl) (Nat.le_of_ble_eq_true (by kernel_rfl)) (Eq.trans ((e0 (n := n)).trans (Eq.trans (cf4 (congrArg (b0 _ _ _ _ _ _ _ _ _) (fu4 (q127 n))) _ _ _ _) rfl)) h)
noncomputable def call {α : Type} (g : Bool→Λ→Λ→Int→Ω (Int × Int)) (ds : List D) (K : List D→Ω α) : Ω α := match ds with
  | [.bool a0, .ro .u64 l1, .ro .u64 l2, .int .i64 a3] => (g a0 l1 l2 a3).bind fun r => K (sg.enc r)
  | _ => none
theorem call_ok {α : Type} {n : Nat} : COK Tryd.prog HW 70 (call (α := α) (f n)) := fun _ _ _ h => by
  unfold call at h; split at h
  · exact cok h fun _ => ok
  · cases h
end ieee_RoundRatio
/-! ### soft_div: function 47 -/
namespace soft_div
noncomputable def b0 (c20 : Int→Ω (Bool × Int × Int × Int)) (c58 : Int→Ω (Λ)) (c70 : Bool→Λ→Λ→Int→Ω (Int × Int)) (c75 : Ω (Int × Int)) (c80 : Bool→Int→Ω (Int)) (c82 : Bool→Λ→Λ→Int→Int→Ω (Int)) (k31 : Bool→Bool→Int→Int→Int→Bool→Int→Int→Int→Ω (Int × Int)) (a0 a1 a2 : Int) : Ω (Int × Int) := ((c20 a0).bind fun t1 => ((c20 a1).bind fun t2 => (if t1.2.1 = 4 then some (9221120237041090560, 0) else (if t2.2.1 = 4 then some (9221120237041090560, 0) else (if t1.2.1 = t2.2.1 then (if t1.2.1 = 3 then ((c75).bind fun t3 => some (t3.1, t3.2)) else (if t1.2.1 = 0 then ((c75).bind fun t4 => some (t4.1, t4.2)) else (if t1.2.1 = 3 then ((c80 (t1.1 != t2.1) 9218868437227405312).bind fun t5 => some (t5, 0)) else (if t2.2.1 = 0 then ((c80 (t1.1 != t2.1) 9218868437227405312).bind fun t6 => some (t6, 2)) else (if t1.2.1 = 0 then ((c80 (t1.1 != t2.1) 0).bind fun t7 => some (t7, 0)) else (if t2.2.1 = 3 then ((c80 (t1.1 != t2.1) 0).bind fun t8 => some (t8, 0)) else k31 (t1.1 != t2.1) t1.1 t1.2.1 t1.2.2.1 t1.2.2.2 t2.1 t2.2.1 t2.2.2.1 t2.2.2.2)))))) else (if t1.2.1 = 3 then ((c80 (t1.1 != t2.1) 9218868437227405312).bind fun t9 => some (t9, 0)) else (if t2.2.1 = 0 then ((c80 (t1.1 != t2.1) 9218868437227405312).bind fun t10 => some (t10, 2)) else (if t1.2.1 = 0 then ((c80 (t1.1 != t2.1) 0).bind fun t11 => some (t11, 0)) else (if t2.2.1 = 3 then ((c80 (t1.1 != t2.1) 0).bind fun t12 => some (t12, 0)) else k31 (t1.1 != t2.1) t1.1 t1.2.1 t1.2.2.1 t1.2.2.2 t2.1 t2.2.1 t2.2.2.1 t2.2.2.2)))))))))
noncomputable def b31 (c20 : Int→Ω (Bool × Int × Int × Int)) (c58 : Int→Ω (Λ)) (c70 : Bool→Λ→Λ→Int→Ω (Int × Int)) (c75 : Ω (Int × Int)) (c80 : Bool→Int→Ω (Int)) (c82 : Bool→Λ→Λ→Int→Int→Ω (Int)) (x0 x1 : Bool) (x2 x3 x4 : Int) (x5 : Bool) (x6 x7 x8 : Int) : Ω (Int × Int) := ((c58 x3).bind fun t1 => ((c58 x7).bind fun t2 => ((c70 x0 t1 t2 (wrap64 (x4 - x8))).bind fun t3 => ((c82 x0 t1 t2 (wrap64 (x4 - x8)) t3.1).bind fun t4 => some (t3.1, t4)))))
noncomputable def l31 (n : Nat) (x0 x1 : Bool) (x2 x3 x4 : Int) (x5 : Bool) (x6 x7 x8 : Int) : Ω (Int × Int) := b31 ieee_Decode.f nat_FromUint.f (ieee_RoundRatio.f n) soft_invalid.f soft_withSign.f (soft_fraction_flags.f n) x0 x1 x2 x3 x4 x5 x6 x7 x8
noncomputable def f (n : Nat) (a0 a1 a2 : Int) : Ω (Int × Int) := b0 ieee_Decode.f nat_FromUint.f (ieee_RoundRatio.f n) soft_invalid.f soft_withSign.f (soft_fraction_flags.f n) (l31 n) a0 a1 a2
noncomputable def sg : Sig (Int × Int) := s2 (sInt .u64) (s1 (sInt .i64))
noncomputable def code : Code := (Tryd.f47.body).getD .skip
noncomputable def cfg (c20 : Int→Ω (Bool × Int × Int × Int)) (c58 : Int→Ω (Λ)) (c70 : Bool→Λ→Λ→Int→Ω (Int × Int)) (c75 : Ω (Int × Int)) (c80 : Bool→Int→Ω (Int)) (c82 : Bool→Λ→Λ→Int→Int→Ω (Int)) : Cfg (Int × Int) := { T := tys, call := orCall 20 (ieee_Decode.call c20) (orCall 58 (nat_FromUint.call c58) (orCall 70 (ieee_RoundRatio.call c70) (orCall 75 (soft_invalid.call c75) (orCall 80 (soft_withSign.call c80) (orCall 82 (soft_fraction_flags.call c82) (noCall)))))) }
noncomputable def cuts : List (Nat × List (Nat × Want)) := [(31, [(8, .keep), (9, .keep), (10, .keep)])]
noncomputable def s31 (x0 x1 : Bool) (x2 x3 x4 : Int) (x5 : Bool) (x6 x7 x8 : Int) : ASt := ⟨[(8, .ptr 0 0), (9, .ptr 1 0), (10, .bool x0)], [.cells 46 [.bool x1, .int .i64 x2, .int .u64 x3, .int .i64 x4], .cells 46 [.bool x5, .int .i64 x6, .int .u64 x7, .int .i64 x8]]⟩
noncomputable def A (c20 : Int→Ω (Bool × Int × Int × Int)) (c58 : Int→Ω (Λ)) (c70 : Bool→Λ→Λ→Int→Ω (Int × Int)) (c75 : Ω (Int × Int)) (c80 : Bool→Int→Ω (Int)) (c82 : Bool→Λ→Λ→Int→Int→Ω (Int)) (n : Nat) (J : Jt (Int × Int)) (q : Nat) (ms : List Nat) : ASt→Ω (Int × Int) := acont (cfg c20 c58 c70 c75 c80 c82) J cuts n q code 1 ms (aend (cfg c20 c58 c70 c75 c80 c82) Tryd.f47.results.toList [false, false] sg.out)
theorem e0 {c20 c58 c70 c75 c80 c82 n J a0 a1 a2} : afun (cfg c20 c58 c70 c75 c80 c82) J cuts n code Tryd.f47.results.toList [false, false] [.int .u64 a0, .int .u64 a1, .int .u64 a2] sg.out = b0 c20 c58 c70 c75 c80 c82 (fun y0 y1 y2 y3 y4 y5 y6 y7 y8 => J 31 (A c20 c58 c70 c75 c80 c82 n J 31 []) (s31 y0 y1 y2 y3 y4 y5 y6 y7 y8)) a0 a1 a2 := by kernel_rfl
theorem e31 {c20 c58 c70 c75 c80 c82 n J x0 x1 x2 x3 x4 x5 x6 x7 x8} : A c20 c58 c70 c75 c80 c82 n J 31 [] (s31 x0 x1 x2 x3 x4 x5 x6 x7 x8) = b31 c20 c58 c70 c75 c80 c82 x0 x1 x2 x3 x4 x5 x6 x7 x8 := by kernel_rfl
noncomputable abbrev I (n : Nat) := A ieee_Decode.f nat_FromUint.f (ieee_RoundRatio.f n) soft_invalid.f soft_withSign.f (soft_fraction_flags.f n) n idJ
theorem q31 (n x0 x1 x2 x3 x4 x5 x6 x7 x8) : I n 31 [] (s31 x0 x1 x2 x3 x4 x5 x6 x7 x8) = l31 n x0 x1 x2 x3 x4 x5 x6 x7 x8 := e31
theorem ok {n  a0 a1 a2 r} (h : f n a0 a1 a2 = some r) : CallD Tryd.prog HW 47 [.int .u64 a0, .int .u64 a1, .int .u64 a2] (sg.enc r) :=
  fun_some hwS Tryd.func47 (by kernel_rfl) (body := code) (by kernel_rfl) tys_ok (c := cfg ieee_Decode.f nat_FromUint.f (ieee_RoundRatio.f n) soft_invalid.f soft_withSign.f (soft_fraction_flags.f n)) (orCall_ok ieee_Decode.call_ok (orCall_ok nat_FromUint.call_ok (orCall_ok (ieee_RoundRatio.call_ok (n := n)) (orCall_ok soft_invalid.call_ok (orCall_ok soft_withSign.call_ok (orCall_ok (soft_fraction_flags.call_ok (n := n)) noCall_ok)))))) noW_ok (by kernel_rfl) (by kernel_rfl) (Nat.le_of_ble_eq_true (by kernel_rfl)) (Eq.trans ((e0 (n := n)).trans (Eq.trans (cf3 (congrArg (b0 _ _ _ _ _ _) (fu9 (q31 n))) _ _ _) rfl)) h)
noncomputable def call {α : Type} (g : Int→Int→Int→Ω (Int × Int)) (ds : List D) (K : List D→Ω α) : Ω α := match ds with
  | [.int .u64 a0, .int .u64 a1, .int .u64 a2] => (g a0 a1 a2).bind fun r => K (sg.enc r)
  | _ => none
theorem call_ok {α : Type} {n : Nat} : COK Tryd.prog HW 47 (call (α := α) (f n)) := fun _ _ _ h => by
  unfold call at h; split at h
  · exact cok h fun _ => ok
  · cases h
end soft_div
/-! ### soft_mul: function 46 -/
namespace soft_mul
noncomputable def b0 (c20 : Int→Ω (Bool × Int × Int × Int)) (c75 : Ω (Int × Int)) (c78 : Bool→Λ→Int→Ω (Int × Int)) (c80 : Bool→Int→Ω (Int)) (c81 : Bool→Int→Int→Int→Bool→Int→Int→Int→Ω (Bool × Λ × Int)) (k487 : Bool→Bool→Bool→Int→Int→Int→Bool→Int→Int→Int→Ω (Int × Int)) (a0 a1 a2 : Int) : Ω (Int × Int) := ((c20 a0).bind fun t1 => ((c20 a1).bind fun t2 => (if t1.2.1 = 4 then some (9221120237041090560, 0) else (if t2.2.1 = 4 then some (9221120237041090560, 0) else (if t1.2.1 = 3 then (if t2.2.1 = 0 then k487 (t1.1 != t2.1) true t1.1 t1.2.1 t1.2.2.1 t1.2.2.2 t2.1 t2.2.1 t2.2.2.1 t2.2.2.2 else (if t1.2.1 = 0 then k487 (t1.1 != t2.1) (decide (t2.2.1 = 3)) t1.1 t1.2.1 t1.2.2.1 t1.2.2.2 t2.1 t2.2.1 t2.2.2.1 t2.2.2.2 else k487 (t1.1 != t2.1) false t1.1 t1.2.1 t1.2.2.1 t1.2.2.2 t2.1 t2.2.1 t2.2.2.1 t2.2.2.2)) else (if t1.2.1 = 0 then k487 (t1.1 != t2.1) (decide (t2.2.1 = 3)) t1.1 t1.2.1 t1.2.2.1 t1.2.2.2 t2.1 t2.2.1 t2.2.2.1 t2.2.2.2 else k487 (t1.1 != t2.1) false t1.1 t1.2.1 t1.2.2.1 t1.2.2.2 t2.1 t2.2.1 t2.2.2.1 t2.2.2.2))))))
noncomputable def b487 (c20 : Int→Ω (Bool × Int × Int × Int)) (c75 : Ω (Int × Int)) (c78 : Bool→Λ→Int→Ω (Int × Int)) (c80 : Bool→Int→Ω (Int)) (c81 : Bool→Int→Int→Int→Bool→Int→Int→Int→Ω (Bool × Λ × Int)) (x0 x1 x2 : Bool) (x3 x4 x5 : Int) (x6 : Bool) (x7 x8 x9 : Int) : Ω (Int × Int) := (if x1 = true then ((c75).bind fun t1 => some (t1.1, t1.2)) else (if x3 = 3 then ((c80 x0 9218868437227405312).bind fun t2 => some (t2, 0)) else (if x7 = 3 then ((c80 x0 9218868437227405312).bind fun t3 => some (t3, 0)) else ((c81 x2 x3 x4 x5 x6 x7 x8 x9).bind fun t4 => ((c78 t4.1 t4.2.1 t4.2.2).bind fun t5 => some (t5.1, t5.2))))))
noncomputable def l487 (n : Nat) (x0 x1 x2 : Bool) (x3 x4 x5 : Int) (x6 : Bool) (x7 x8 x9 : Int) : Ω (Int × Int) := b487 ieee_Decode.f soft_invalid.f (soft_term_rounded.f n) soft_withSign.f (soft_product.f n) x0 x1 x2 x3 x4 x5 x6 x7 x8 x9
noncomputable def f (n : Nat) (a0 a1 a2 : Int) : Ω (Int × Int) := b0 ieee_Decode.f soft_invalid.f (soft_term_rounded.f n) soft_withSign.f (soft_product.f n) (l487 n) a0 a1 a2
noncomputable def sg : Sig (Int × Int) := s2 (sInt .u64) (s1 (sInt .i64))
noncomputable def code : Code := (Tryd.f46.body).getD .skip
noncomputable def cfg (c20 : Int→Ω (Bool × Int × Int × Int)) (c75 : Ω (Int × Int)) (c78 : Bool→Λ→Int→Ω (Int × Int)) (c80 : Bool→Int→Ω (Int)) (c81 : Bool→Int→Int→Int→Bool→Int→Int→Int→Ω (Bool × Λ × Int)) : Cfg (Int × Int) := { T := tys, call := orCall 20 (ieee_Decode.call c20) (orCall 75 (soft_invalid.call c75) (orCall 78 (soft_term_rounded.call c78) (orCall 80 (soft_withSign.call c80) (orCall 81 (soft_product.call c81) (noCall))))) }
noncomputable def cuts : List (Nat × List (Nat × Want)) := [(487, [(8, .keep), (9, .keep), (10, .keep), (29, .keep)])]
noncomputable def s487 (x0 x1 x2 : Bool) (x3 x4 x5 : Int) (x6 : Bool) (x7 x8 x9 : Int) : ASt := ⟨[(8, .ptr 0 0), (9, .ptr 1 0), (10, .bool x0), (29, .bool x1)], [.cells 46 [.bool x2, .int .i64 x3, .int .u64 x4, .int .i64 x5], .cells 46 [.bool x6, .int .i64 x7, .int .u64 x8, .int .i64 x9]]⟩
noncomputable def A (c20 : Int→Ω (Bool × Int × Int × Int)) (c75 : Ω (Int × Int)) (c78 : Bool→Λ→Int→Ω (Int × Int)) (c80 : Bool→Int→Ω (Int)) (c81 : Bool→Int→Int→Int→Bool→Int→Int→Int→Ω (Bool × Λ × Int)) (n : Nat) (J : Jt (Int × Int)) (q : Nat) (ms : List Nat) : ASt→Ω (Int × Int) := acont (cfg c20 c75 c78 c80 c81) J cuts n q code 1 ms (aend (cfg c20 c75 c78 c80 c81) Tryd.f46.results.toList [false, false] sg.out)
theorem e0 {c20 c75 c78 c80 c81 n J a0 a1 a2} : afun (cfg c20 c75 c78 c80 c81) J cuts n code Tryd.f46.results.toList [false, false] [.int .u64 a0, .int .u64 a1, .int .u64 a2] sg.out = b0 c20 c75 c78 c80 c81 (fun y0 y1 y2 y3 y4 y5 y6 y7 y8 y9 => J 487 (A c20 c75 c78 c80 c81 n J 487 []) (s487 y0 y1 y2 y3 y4 y5 y6 y7 y8 y9)) a0 a1 a2 := by kernel_rfl
theorem e487 {c20 c75 c78 c80 c81 n J x0 x1 x2 x3 x4 x5 x6 x7 x8 x9} : A c20 c75 c78 c80 c81 n J 487 [] (s487 x0 x1 x2 x3 x4 x5 x6 x7 x8 x9) = b487 c20 c75 c78 c80 c81 x0 x1 x2 x3 x4 x5 x6 x7 x8 x9 := by kernel_rfl
noncomputable abbrev I (n : Nat) := A ieee_Decode.f soft_invalid.f (soft_term_rounded.f n) soft_withSign.f (soft_product.f n) n idJ
theorem q487 (n x0 x1 x2 x3 x4 x5 x6 x7 x8 x9) : I n 487 [] (s487 x0 x1 x2 x3 x4 x5 x6 x7 x8 x9) = l487 n x0 x1 x2 x3 x4 x5 x6 x7 x8 x9 := e487
theorem ok {n  a0 a1 a2 r} (h : f n a0 a1 a2 = some r) : CallD Tryd.prog HW 46 [.int .u64 a0, .int .u64 a1, .int .u64 a2] (sg.enc r) :=
  fun_some hwS Tryd.func46 (by kernel_rfl) (body := code) (by kernel_rfl) tys_ok (c := cfg ieee_Decode.f soft_invalid.f (soft_term_rounded.f n) soft_withSign.f (soft_product.f n)) (orCall_ok ieee_Decode.call_ok (orCall_ok soft_invalid.call_ok (orCall_ok (soft_term_rounded.call_ok (n := n)) (orCall_ok soft_withSign.call_ok (orCall_ok (soft_product.call_ok (n := n)) noCall_ok))))) noW_ok (by kernel_rfl) (by kernel_rfl) (Nat.le_of_ble_eq_true (by kernel_rfl)) (Eq.trans ((e0 (n := n)).trans (Eq.trans (cf3 (congrArg (b0 _ _ _ _ _) (fu10 (q487 n))) _ _ _) rfl)) h)
noncomputable def call {α : Type} (g : Int→Int→Int→Ω (Int × Int)) (ds : List D) (K : List D→Ω α) : Ω α := match ds with
  | [.int .u64 a0, .int .u64 a1, .int .u64 a2] => (g a0 a1 a2).bind fun r => K (sg.enc r)
  | _ => none
theorem call_ok {α : Type} {n : Nat} : COK Tryd.prog HW 46 (call (α := α) (f n)) := fun _ _ _ h => by
  unfold call at h; split at h
  · exact cok h fun _ => ok
  · cases h
end soft_mul
/-! ### soft_add: function 44 -/
namespace soft_add
noncomputable def b0 (c20 : Int→Ω (Bool × Int × Int × Int)) (c75 : Ω (Int × Int)) (c76 : Bool→Int→Int→Int→Ω (Bool × Λ × Int)) (c77 : Bool→Λ→Int→Bool→Λ→Int→Ω (Bool × Λ × Int)) (c78 : Bool→Λ→Int→Ω (Int × Int)) (k231 : Int→Int→Bool→Bool→Int→Int→Int→Bool→Int→Int→Int→Ω (Int × Int)) (a0 a1 a2 : Int) : Ω (Int × Int) := ((c20 a0).bind fun t1 => ((c20 a1).bind fun t2 => (if t1.2.1 = 4 then some (9221120237041090560, 0) else (if t2.2.1 = 4 then some (9221120237041090560, 0) else (if t1.2.1 = 3 then (if t2.2.1 = 3 then k231 a0 a1 (t1.1 != t2.1) t1.1 t1.2.1 t1.2.2.1 t1.2.2.2 t2.1 t2.2.1 t2.2.2.1 t2.2.2.2 else k231 a0 a1 false t1.1 t1.2.1 t1.2.2.1 t1.2.2.2 t2.1 t2.2.1 t2.2.2.1 t2.2.2.2) else k231 a0 a1 false t1.1 t1.2.1 t1.2.2.1 t1.2.2.2 t2.1 t2.2.1 t2.2.2.1 t2.2.2.2)))))
noncomputable def b231 (c20 : Int→Ω (Bool × Int × Int × Int)) (c75 : Ω (Int × Int)) (c76 : Bool→Int→Int→Int→Ω (Bool × Λ × Int)) (c77 : Bool→Λ→Int→Bool→Λ→Int→Ω (Bool × Λ × Int)) (c78 : Bool→Λ→Int→Ω (Int × Int)) (x0 x1 : Int) (x2 x3 : Bool) (x4 x5 x6 : Int) (x7 : Bool) (x8 x9 x10 : Int) : Ω (Int × Int) := (if x2 = true then ((c75).bind fun t1 => some (t1.1, t1.2)) else (if x4 = 3 then some (x0, 0) else (if x8 = 3 then some (x1, 0) else ((c76 x3 x4 x5 x6).bind fun t2 => ((c76 x7 x8 x9 x10).bind fun t3 => ((c77 t2.1 t2.2.1 t2.2.2 t3.1 t3.2.1 t3.2.2).bind fun t4 => ((c78 t4.1 t4.2.1 t4.2.2).bind fun t5 => some (t5.1, t5.2))))))))
noncomputable def l231 (n : Nat) (x0 x1 : Int) (x2 x3 : Bool) (x4 x5 x6 : Int) (x7 : Bool) (x8 x9 x10 : Int) : Ω (Int × Int) := b231 ieee_Decode.f soft_invalid.f soft_termOf.f (soft_term_plus.f n) (soft_term_rounded.f n) x0 x1 x2 x3 x4 x5 x6 x7 x8 x9 x10
noncomputable def f (n : Nat) (a0 a1 a2 : Int) : Ω (Int × Int) := b0 ieee_Decode.f soft_invalid.f soft_termOf.f (soft_term_plus.f n) (soft_term_rounded.f n) (l231 n) a0 a1 a2
noncomputable def sg : Sig (Int × Int) := s2 (sInt .u64) (s1 (sInt .i64))
noncomputable def code : Code := (Tryd.f44.body).getD .skip
noncomputable def cfg (c20 : Int→Ω (Bool × Int × Int × Int)) (c75 : Ω (Int × Int)) (c76 : Bool→Int→Int→Int→Ω (Bool × Λ × Int)) (c77 : Bool→Λ→Int→Bool→Λ→Int→Ω (Bool × Λ × Int)) (c78 : Bool→Λ→Int→Ω (Int × Int)) : Cfg (Int × Int) := { T := tys, call := orCall 20 (ieee_Decode.call c20) (orCall 75 (soft_invalid.call c75) (orCall 76 (soft_termOf.call c76) (orCall 77 (soft_term_plus.call c77) (orCall 78 (soft_term_rounded.call c78) (noCall))))) }
noncomputable def cuts : List (Nat × List (Nat × Want)) := [(231, [(0, .keep), (1, .keep), (8, .keep), (9, .keep), (23, .keep)])]
noncomputable def s231 (x0 x1 : Int) (x2 x3 : Bool) (x4 x5 x6 : Int) (x7 : Bool) (x8 x9 x10 : Int) : ASt := ⟨[(0, .int .u64 x0), (1, .int .u64 x1), (8, .ptr 0 0), (9, .ptr 1 0), (23, .bool x2)], [.cells 46 [.bool x3, .int .i64 x4, .int .u64 x5, .int .i64 x6], .cells 46 [.bool x7, .int .i64 x8, .int .u64 x9, .int .i64 x10]]⟩
noncomputable def A (c20 : Int→Ω (Bool × Int × Int × Int)) (c75 : Ω (Int × Int)) (c76 : Bool→Int→Int→Int→Ω (Bool × Λ × Int)) (c77 : Bool→Λ→Int→Bool→Λ→Int→Ω (Bool × Λ × Int)) (c78 : Bool→Λ→Int→Ω (Int × Int)) (n : Nat) (J : Jt (Int × Int)) (q : Nat) (ms : List Nat) : ASt→Ω (Int × Int) := acont (cfg c20 c75 c76 c77 c78) J cuts n q code 1 ms (aend (cfg c20 c75 c76 c77 c78) Tryd.f44.results.toList [false, false] sg.out)
theorem e0 {c20 c75 c76 c77 c78 n J a0 a1 a2} : afun (cfg c20 c75 c76 c77 c78) J cuts n code Tryd.f44.results.toList [false, false] [.int .u64 a0, .int .u64 a1, .int .u64 a2] sg.out = b0 c20 c75 c76 c77 c78 (fun y0 y1 y2 y3 y4 y5 y6 y7 y8 y9 y10 => J 231 (A c20 c75 c76 c77 c78 n J 231 []) (s231 y0 y1 y2 y3 y4 y5 y6 y7 y8 y9 y10)) a0 a1 a2 := by kernel_rfl
theorem e231 {c20 c75 c76 c77 c78 n J x0 x1 x2 x3 x4 x5 x6 x7 x8 x9 x10} : A c20 c75 c76 c77 c78 n J 231 [] (s231 x0 x1 x2 x3 x4 x5 x6 x7 x8 x9 x10) = b231 c20 c75 c76 c77 c78 x0 x1 x2 x3 x4 x5 x6 x7 x8 x9 x10 := by kernel_rfl
noncomputable abbrev I (n : Nat) := A ieee_Decode.f soft_invalid.f soft_termOf.f (soft_term_plus.f n) (soft_term_rounded.f n) n idJ
theorem q231 (n x0 x1 x2 x3 x4 x5 x6 x7 x8 x9 x10) : I n 231 [] (s231 x0 x1 x2 x3 x4 x5 x6 x7 x8 x9 x10) = l231 n x0 x1 x2 x3 x4 x5 x6 x7 x8 x9 x10 := e231
theorem ok {n  a0 a1 a2 r} (h : f n a0 a1 a2 = some r) : CallD Tryd.prog HW 44 [.int .u64 a0, .int .u64 a1, .int .u64 a2] (sg.enc r) :=
  fun_some hwS Tryd.func44 (by kernel_rfl) (body := code) (by kernel_rfl) tys_ok (c := cfg ieee_Decode.f soft_invalid.f soft_termOf.f (soft_term_plus.f n) (soft_term_rounded.f n)) (orCall_ok ieee_Decode.call_ok (orCall_ok soft_invalid.call_ok (orCall_ok soft_termOf.call_ok (orCall_ok (soft_term_plus.call_ok (n := n)) (orCall_ok (soft_term_rounded.call_ok (n := n)) noCall_ok))))) noW_ok (by kernel_rfl) (by kernel_rfl) (Nat.le_of_ble_eq_true (by kernel_rfl)) (Eq.trans ((e0 (n := n)).trans (Eq.trans (cf3 (congrArg (b0 _ _ _ _ _) (fu11 (q231 n))) _ _ _) rfl)) h)
noncomputable def call {α : Type} (g : Int→Int→Int→Ω (Int × Int)) (ds : List D) (K : List D→Ω α) : Ω α := match ds with
  | [.int .u64 a0, .int .u64 a1, .int .u64 a2] => (g a0 a1 a2).bind fun r => K (sg.enc r)
  | _ => none
theorem call_ok {α : Type} {n : Nat} : COK Tryd.prog HW 44 (call (α := α) (f n)) := fun _ _ _ h => by
  unfold call at h; split at h
  · exact cok h fun _ => ok
  · cases h
end soft_add
/-! ### soft_sub: function 45 -/
namespace soft_sub
noncomputable def b0 (c44 : Int→Int→Int→Ω (Int × Int)) (c79 : Int→Ω (Int)) (a0 a1 a2 : Int) : Ω (Int × Int) := ((c79 a1).bind fun t1 => ((c44 a0 t1 a2).bind fun t2 => some (t2.1, t2.2)))
noncomputable def f (n : Nat) (a0 a1 a2 : Int) : Ω (Int × Int) := b0 (soft_add.f n) ieee_Neg.f a0 a1 a2
noncomputable def sg : Sig (Int × Int) := s2 (sInt .u64) (s1 (sInt .i64))
noncomputable def code : Code := (Tryd.f45.body).getD .skip
noncomputable def cfg (c44 : Int→Int→Int→Ω (Int × Int)) (c79 : Int→Ω (Int)) : Cfg (Int × Int) := { T := tys, call := orCall 44 (soft_add.call c44) (orCall 79 (ieee_Neg.call c79) (noCall)) }
noncomputable def cuts : List (Nat × List (Nat × Want)) := []
theorem e0 {c44 c79 n J a0 a1 a2} : afun (cfg c44 c79) J cuts n code Tryd.f45.results.toList [false, false] [.int .u64 a0, .int .u64 a1, .int .u64 a2] sg.out = b0 c44 c79 a0 a1 a2 := by kernel_rfl
theorem ok {n  a0 a1 a2 r} (h : f n a0 a1 a2 = some r) : CallD Tryd.prog HW 45 [.int .u64 a0, .int .u64 a1, .int .u64 a2] (sg.enc r) :=
  fun_some hwS Tryd.func45 (by kernel_rfl) (body := code) (by kernel_rfl) tys_ok (c := cfg (soft_add.f n) ieee_Neg.f) (orCall_ok (soft_add.call_ok (n := n)) (orCall_ok ieee_Neg.call_ok noCall_ok)) noW_ok (by kernel_rfl) (by kernel_rfl) (Nat.le_of_ble_eq_true (by kernel_rfl)) (Eq.trans ((e0 (n := n))) h)
noncomputable def call {α : Type} (g : Int→Int→Int→Ω (Int × Int)) (ds : List D) (K : List D→Ω α) : Ω α := match ds with
  | [.int .u64 a0, .int .u64 a1, .int .u64 a2] => (g a0 a1 a2).bind fun r => K (sg.enc r)
  | _ => none
theorem call_ok {α : Type} {n : Nat} : COK Tryd.prog HW 45 (call (α := α) (f n)) := fun _ _ _ h => by
  unfold call at h; split at h
  · exact cok h fun _ => ok
  · cases h
end soft_sub
/-! ### soft_Told: function 5 -/
namespace soft_Told
noncomputable def b0 (c18 : Ω (Unit)) (c44 : Int→Int→Int→Ω (Int × Int)) (c45 : Int→Int→Int→Ω (Int × Int)) (c46 : Int→Int→Int→Ω (Int × Int)) (c47 : Int→Int→Int→Ω (Int × Int)) (c48 : Int→Int→Int→Ω (Int × Int)) (c49 : Int→Int→Int→Ω (Int × Int)) (a0 a1 a2 a3 : Int) : Ω (Int × Int × Int) := ((c18).bind fun t1 => (if a0 < 1 then some (0, 0, 50) else (if a0 ≥ 7 then some (0, 0, 50) else (if 0 ≤ a0 then (if a0 < 7 then (if a0 = 0 then none else (if a0 = 1 then ((c44 a1 a2 a3).bind fun t7 => some (t7.1, t7.2, 0)) else (if a0 = 2 then ((c45 a1 a2 a3).bind fun t6 => some (t6.1, t6.2, 0)) else (if a0 = 3 then ((c46 a1 a2 a3).bind fun t5 => some (t5.1, t5.2, 0)) else (if a0 = 4 then ((c47 a1 a2 a3).bind fun t4 => some (t4.1, t4.2, 0)) else (if a0 = 5 then ((c48 a1 a2 a3).bind fun t3 => some (t3.1, t3.2, 0)) else (if a0 = 6 then ((c49 a1 a2 a3).bind fun t2 => some (t2.1, t2.2, 0)) else none))))))) else none) else none))))
noncomputable def f (n : Nat) (a0 a1 a2 a3 : Int) : Ω (Int × Int × Int) := b0 soft_operations.f (soft_add.f n) (soft_sub.f n) (soft_mul.f n) (soft_div.f n) (soft_sqrt.f n) (soft_fma.f n) a0 a1 a2 a3
noncomputable def sg : Sig (Int × Int × Int) := s2 (sInt .u64) (s2 (sInt .i64) (s1 (sInt .i64)))
noncomputable def code : Code := (Tryd.f5.body).getD .skip
noncomputable def cfg (c18 : Ω (Unit)) (c44 : Int→Int→Int→Ω (Int × Int)) (c45 : Int→Int→Int→Ω (Int × Int)) (c46 : Int→Int→Int→Ω (Int × Int)) (c47 : Int→Int→Int→Ω (Int × Int)) (c48 : Int→Int→Int→Ω (Int × Int)) (c49 : Int→Int→Int→Ω (Int × Int)) : Cfg (Int × Int × Int) := { T := tys, call := orCall 18 (soft_operations.call c18) (orCall 44 (soft_add.call c44) (orCall 45 (soft_sub.call c45) (orCall 46 (soft_mul.call c46) (orCall 47 (soft_div.call c47) (orCall 48 (soft_sqrt.call c48) (orCall 49 (soft_fma.call c49) (noCall))))))) }
noncomputable def cuts : List (Nat × List (Nat × Want)) := []
theorem e0 {c18 c44 c45 c46 c47 c48 c49 n J a0 a1 a2 a3} : afun (cfg c18 c44 c45 c46 c47 c48 c49) J cuts n code Tryd.f5.results.toList [false, false, false] [.int .i64 a0, .int .u64 a1, .int .u64 a2, .int .u64 a3] sg.out = b0 c18 c44 c45 c46 c47 c48 c49 a0 a1 a2 a3 := by kernel_rfl
theorem ok {n  a0 a1 a2 a3 r} (h : f n a0 a1 a2 a3 = some r) : CallD Tryd.prog HW 5 [.int .i64 a0, .int .u64 a1, .int .u64 a2, .int .u64 a3] (sg.enc r) :=
  fun_some hwS Tryd.func5 (by kernel_rfl) (body := code) (by kernel_rfl) tys_ok (c := cfg soft_operations.f (soft_add.f n) (soft_sub.f n) (soft_mul.f n) (soft_div.f n) (soft_sqrt.f n) (soft_fma.f n)) (orCall_ok soft_operations.call_ok (orCall_ok (soft_add.call_ok (n := n)) (orCall_ok (soft_sub.call_ok (n := n)) (orCall_ok (soft_mul.call_ok (n := n)) (orCall_ok (soft_div.call_ok (n := n)) (orCall_ok (soft_sqrt.call_ok (n := n)) (orCall_ok (soft_fma.call_ok (n := n)) noCall_ok))))))) noW_ok (by kernel_rfl) (by kernel_rfl) (Nat.le_of_ble_eq_true (by kernel_rfl)) (Eq.trans ((e0 (n := n))) h)
noncomputable def call {α : Type} (g : Int→Int→Int→Int→Ω (Int × Int × Int)) (ds : List D) (K : List D→Ω α) : Ω α := match ds with
  | [.int .i64 a0, .int .u64 a1, .int .u64 a2, .int .u64 a3] => (g a0 a1 a2 a3).bind fun r => K (sg.enc r)
  | _ => none
theorem call_ok {α : Type} {n : Nat} : COK Tryd.prog HW 5 (call (α := α) (f n)) := fun _ _ _ h => by
  unfold call at h; split at h
  · exact cok h fun _ => ok
  · cases h
end soft_Told
end Go.Proofs.YtobocamcoaeliaaDoor.F
