/- What the functions compute, and that calls of them answer so (printed by gen.py). Conditions: HW, a table as it was laid. -/
import Derived.Test.YtobocamcoaeliaaDoorA17
import Derived.Test.YtobocamcoaeliaaDoorProg
namespace Go.Proofs.YtobocamcoaeliaaDoor.F
open Go.RowKit Go.Proofs.YtobocamcoaeliaaDoorA
set_option linter.unusedVariables false
set_option maxRecDepth 100000
abbrev Λ := List Int
abbrev Ω := Option
/-- The table of math/bits.TrailingZeros64 stands as it was laid. -/
def HW : World → Prop := fun w => ∀ j, j < 64 → w.cell? ⟨0, j, none⟩ = some (.int .u8 ((Lib.deBruijn64tab.getD j 0 : Nat) : Int))
theorem hwS : ∀ w w' : World, Below w.heap.size w w' → HW w → HW w' := fun w w' hb h j hj => by
  have h1 := h j hj
  rw [← h1]
  exact hb.cell (Nat.lt_of_not_le fun hn => by simp [World.cell?, Array.getElem?_eq_none hn] at h1)
def tys : List (Nat × TI) := [(2, ⟨.int .i64, 1, 8, [.int .i64 0], false⟩),
  (3, ⟨.int .i64, 1, 8, [.int .i64 0], false⟩),
  (4, ⟨.bool, 1, 1, [.bool false], false⟩),
  (22, ⟨.int .u64, 1, 8, [.int .u64 0], false⟩),
  (38, ⟨.slice 41, 1, 24, [.nil], false⟩),
  (41, ⟨.other, 1, 8, [.nilf], false⟩),
  (42, ⟨.slice 22, 1, 24, [.nil], false⟩),
  (46, ⟨.struct [(0, 1, false), (1, 1, false), (2, 1, false), (3, 1, false)], 4, 32, [.bool false, .int .i64 0, .int .u64 0, .int .i64 0], true⟩),
  (69, ⟨.int .u64, 1, 8, [.int .u64 0], false⟩),
  (87, ⟨.struct [(0, 1, false), (1, 1, false), (2, 1, false)], 3, 40, [.bool false, .nil, .int .i64 0], false⟩),
  (92, ⟨.struct [(0, 1, false), (1, 1, false), (2, 1, false), (3, 1, false)], 4, 64, [.bool false, .nil, .nil, .int .i64 0], false⟩)]
theorem tys_ok : TOK Tryd.prog tys := tok_of (by kernel_rfl)
/-! ### ieee_Abs: function 17 -/
namespace ieee_Abs
noncomputable def b0 (a0 : Int) : Ω (Int) := some (Go.bits .andNot .u64 a0 9223372036854775808)
noncomputable def f (a0 : Int) : Ω (Int) := b0 a0
noncomputable def sg : Sig (Int) := s1 (sInt .u64)
noncomputable def code : Code := (Tryd.f17.body).getD .skip
noncomputable def cfg : Cfg (Int) := { T := tys, call := noCall }
noncomputable def cuts : List (Nat × List (Nat × Want)) := []
theorem e0 (n : Nat) (J : Jt (Int)) (a0 : Int) : afun cfg J cuts n code Tryd.f17.results.toList [false] [.int .u64 a0] sg.out = b0 a0 := by kernel_rfl
theorem eq (n : Nat) (a0 : Int) : afun cfg idJ cuts n code Tryd.f17.results.toList [false] [.int .u64 a0] sg.out = f a0 := (e0 n idJ a0).trans (rfl)
theorem ok {n : Nat} {a0 : Int} {r : Int} (h : f a0 = some r) : CallD Tryd.prog HW 17 [.int .u64 a0] (sg.enc r) :=
  fun_some hwS Tryd.func17 (by kernel_rfl) (body := code) (by kernel_rfl) tys_ok (c := cfg) noCall_ok noW_ok (by kernel_rfl) (by kernel_rfl) (Nat.le_of_ble_eq_true (by kernel_rfl)) ((eq n a0).trans h)
noncomputable def call {α : Type} (g : Int→Ω (Int)) (ds : List D) (K : List D→Ω α) : Ω α := match ds with
  | [.int .u64 a0] => (g a0).bind fun r => K (sg.enc r)
  | _ => none
theorem call_ok {α : Type} {n : Nat} (ds : List D) (K : List D→Ω α) (r : α) (h : call f ds K = some r) : ∃ rs, K rs = some r ∧ CallD Tryd.prog HW 17 ds rs := by
  unfold call at h
  split at h
  · obtain ⟨x, hx, hk⟩ := Option.bind_eq_some_iff.1 h
    exact ⟨_, hk, ok (n := n) hx⟩
  · cases h
end ieee_Abs
/-! ### ieee_Class: function 55 -/
namespace ieee_Class
noncomputable def b0 (c17 : Int→Ω (Int)) (a0 : Int) : Ω (Int) := ((c17 a0).bind fun t1 => (if t1 = 0 then some 0 else (if t1 < 4503599627370496 then some 1 else (if t1 < 9218868437227405312 then some 2 else (if t1 = 9218868437227405312 then some 3 else some 4)))))
noncomputable def f (a0 : Int) : Ω (Int) := b0 ieee_Abs.f a0
noncomputable def sg : Sig (Int) := s1 (sInt .i64)
noncomputable def code : Code := (Tryd.f55.body).getD .skip
noncomputable def cfg (c17 : Int→Ω (Int)) : Cfg (Int) := { T := tys, call := orCall 17 (ieee_Abs.call c17) (noCall) }
noncomputable def cuts : List (Nat × List (Nat × Want)) := []
theorem e0 (c17 : Int→Ω (Int)) (n : Nat) (J : Jt (Int)) (a0 : Int) : afun (cfg c17) J cuts n code Tryd.f55.results.toList [false] [.int .u64 a0] sg.out = b0 c17 a0 := by kernel_rfl
theorem eq (n : Nat) (a0 : Int) : afun (cfg ieee_Abs.f) idJ cuts n code Tryd.f55.results.toList [false] [.int .u64 a0] sg.out = f a0 := (e0 ieee_Abs.f n idJ a0).trans (rfl)
theorem ok {n : Nat} {a0 : Int} {r : Int} (h : f a0 = some r) : CallD Tryd.prog HW 55 [.int .u64 a0] (sg.enc r) :=
  fun_some hwS Tryd.func55 (by kernel_rfl) (body := code) (by kernel_rfl) tys_ok (c := cfg ieee_Abs.f) (orCall_ok (ieee_Abs.call_ok (n := n)) noCall_ok) noW_ok (by kernel_rfl) (by kernel_rfl) (Nat.le_of_ble_eq_true (by kernel_rfl)) ((eq n a0).trans h)
noncomputable def call {α : Type} (g : Int→Ω (Int)) (ds : List D) (K : List D→Ω α) : Ω α := match ds with
  | [.int .u64 a0] => (g a0).bind fun r => K (sg.enc r)
  | _ => none
theorem call_ok {α : Type} {n : Nat} (ds : List D) (K : List D→Ω α) (r : α) (h : call f ds K = some r) : ∃ rs, K rs = some r ∧ CallD Tryd.prog HW 55 ds rs := by
  unfold call at h
  split at h
  · obtain ⟨x, hx, hk⟩ := Option.bind_eq_some_iff.1 h
    exact ⟨_, hk, ok (n := n) hx⟩
  · cases h
end ieee_Class
/-! ### ieee_Decode: function 20 -/
namespace ieee_Decode
noncomputable def b0 (c55 : Int→Ω (Int)) (a0 : Int) : Ω (Bool × Int × Int × Int) := ((c55 a0).bind fun t1 => (if t1 = 1 then some (decide (¬ (Go.bits .and .u64 a0 9223372036854775808) = 0), t1, Go.bits .and .u64 a0 4503599627370495, (-1074)) else (if t1 = 2 then some (decide (¬ (Go.bits .and .u64 a0 9223372036854775808) = 0), t1, Go.bits .or .u64 4503599627370496 (Go.bits .and .u64 a0 4503599627370495), wrap64 ((wrap64 (Go.bits .and .u64 (a0 / 4503599627370496) 2047)) - 1075)) else (if t1 = 4 then some (decide (¬ (Go.bits .and .u64 a0 9223372036854775808) = 0), t1, Go.bits .and .u64 a0 4503599627370495, 0) else some (decide (¬ (Go.bits .and .u64 a0 9223372036854775808) = 0), t1, 0, 0)))))
noncomputable def f (a0 : Int) : Ω (Bool × Int × Int × Int) := b0 ieee_Class.f a0
noncomputable def sg : Sig (Bool × Int × Int × Int) := s1 (sAgg (s2 (sBool) (s2 (sInt .i64) (s2 (sInt .u64) (s1 (sInt .i64))))))
noncomputable def code : Code := (Tryd.f20.body).getD .skip
noncomputable def cfg (c55 : Int→Ω (Int)) : Cfg (Bool × Int × Int × Int) := { T := tys, call := orCall 55 (ieee_Class.call c55) (noCall) }
noncomputable def cuts : List (Nat × List (Nat × Want)) := []
theorem e0 (c55 : Int→Ω (Int)) (n : Nat) (J : Jt (Bool × Int × Int × Int)) (a0 : Int) : afun (cfg c55) J cuts n code Tryd.f20.results.toList [false] [.int .u64 a0] sg.out = b0 c55 a0 := by kernel_rfl
theorem eq (n : Nat) (a0 : Int) : afun (cfg ieee_Class.f) idJ cuts n code Tryd.f20.results.toList [false] [.int .u64 a0] sg.out = f a0 := (e0 ieee_Class.f n idJ a0).trans (rfl)
theorem ok {n : Nat} {a0 : Int} {r : Bool × Int × Int × Int} (h : f a0 = some r) : CallD Tryd.prog HW 20 [.int .u64 a0] (sg.enc r) :=
  fun_some hwS Tryd.func20 (by kernel_rfl) (body := code) (by kernel_rfl) tys_ok (c := cfg ieee_Class.f) (orCall_ok (ieee_Class.call_ok (n := n)) noCall_ok) noW_ok (by kernel_rfl) (by kernel_rfl) (Nat.le_of_ble_eq_true (by kernel_rfl)) ((eq n a0).trans h)
noncomputable def call {α : Type} (g : Int→Ω (Bool × Int × Int × Int)) (ds : List D) (K : List D→Ω α) : Ω α := match ds with
  | [.int .u64 a0] => (g a0).bind fun r => K (sg.enc r)
  | _ => none
theorem call_ok {α : Type} {n : Nat} (ds : List D) (K : List D→Ω α) (r : α) (h : call f ds K = some r) : ∃ rs, K rs = some r ∧ CallD Tryd.prog HW 20 ds rs := by
  unfold call at h
  split at h
  · obtain ⟨x, hx, hk⟩ := Option.bind_eq_some_iff.1 h
    exact ⟨_, hk, ok (n := n) hx⟩
  · cases h
end ieee_Decode
/-! ### remain_Trunc_1: function 64 -/
namespace remain_Trunc_1
noncomputable def b0 (a0 : Bool) (a1 a2 : Int) : Ω (Bool) := some false
noncomputable def f (a0 : Bool) (a1 a2 : Int) : Ω (Bool) := b0 a0 a1 a2
noncomputable def sg : Sig (Bool) := s1 (sBool)
noncomputable def code : Code := (Tryd.f64.body).getD .skip
noncomputable def cfg : Cfg (Bool) := { T := tys, call := noCall }
noncomputable def cuts : List (Nat × List (Nat × Want)) := []
theorem e0 (n : Nat) (J : Jt (Bool)) (a0 : Bool) (a1 a2 : Int) : afun cfg J cuts n code Tryd.f64.results.toList [false] [.bool a0, .int .u64 a1, .int .i64 a2] sg.out = b0 a0 a1 a2 := by kernel_rfl
theorem eq (n : Nat) (a0 : Bool) (a1 a2 : Int) : afun cfg idJ cuts n code Tryd.f64.results.toList [false] [.bool a0, .int .u64 a1, .int .i64 a2] sg.out = f a0 a1 a2 := (e0 n idJ a0 a1 a2).trans (rfl)
theorem ok {n : Nat} {a0 : Bool} {a1 : Int} {a2 : Int} {r : Bool} (h : f a0 a1 a2 = some r) : CallD Tryd.prog HW 64 [.bool a0, .int .u64 a1, .int .i64 a2] (sg.enc r) :=
  fun_some hwS Tryd.func64 (by kernel_rfl) (body := code) (by kernel_rfl) tys_ok (c := cfg) noCall_ok noW_ok (by kernel_rfl) (by kernel_rfl) (Nat.le_of_ble_eq_true (by kernel_rfl)) ((eq n a0 a1 a2).trans h)
noncomputable def call {α : Type} (g : Bool→Int→Int→Ω (Bool)) (ds : List D) (K : List D→Ω α) : Ω α := match ds with
  | [.bool a0, .int .u64 a1, .int .i64 a2] => (g a0 a1 a2).bind fun r => K (sg.enc r)
  | _ => none
theorem call_ok {α : Type} {n : Nat} (ds : List D) (K : List D→Ω α) (r : α) (h : call f ds K = some r) : ∃ rs, K rs = some r ∧ CallD Tryd.prog HW 64 ds rs := by
  unfold call at h
  split at h
  · obtain ⟨x, hx, hk⟩ := Option.bind_eq_some_iff.1 h
    exact ⟨_, hk, ok (n := n) hx⟩
  · cases h
end remain_Trunc_1
/-! ### nat_FromUint: function 58 -/
namespace nat_FromUint
noncomputable def b0 (a0 : Int) : Ω (Λ) := (if a0 = 0 then some ([] : Λ) else some [a0])
noncomputable def f (a0 : Int) : Ω (Λ) := b0 a0
noncomputable def sg : Sig (Λ) := s1 (sRow .u64)
noncomputable def code : Code := (Tryd.f58.body).getD .skip
noncomputable def cfg : Cfg (Λ) := { T := tys, call := noCall }
noncomputable def cuts : List (Nat × List (Nat × Want)) := []
theorem e0 (n : Nat) (J : Jt (Λ)) (a0 : Int) : afun cfg J cuts n code Tryd.f58.results.toList [false] [.int .u64 a0] sg.out = b0 a0 := by kernel_rfl
theorem eq (n : Nat) (a0 : Int) : afun cfg idJ cuts n code Tryd.f58.results.toList [false] [.int .u64 a0] sg.out = f a0 := (e0 n idJ a0).trans (rfl)
theorem ok {n : Nat} {a0 : Int} {r : Λ} (h : f a0 = some r) : CallD Tryd.prog HW 58 [.int .u64 a0] (sg.enc r) :=
  fun_some hwS Tryd.func58 (by kernel_rfl) (body := code) (by kernel_rfl) tys_ok (c := cfg) noCall_ok noW_ok (by kernel_rfl) (by kernel_rfl) (Nat.le_of_ble_eq_true (by kernel_rfl)) ((eq n a0).trans h)
noncomputable def call {α : Type} (g : Int→Ω (Λ)) (ds : List D) (K : List D→Ω α) : Ω α := match ds with
  | [.int .u64 a0] => (g a0).bind fun r => K (sg.enc r)
  | _ => none
theorem call_ok {α : Type} {n : Nat} (ds : List D) (K : List D→Ω α) (r : α) (h : call f ds K = some r) : ∃ rs, K rs = some r ∧ CallD Tryd.prog HW 58 ds rs := by
  unfold call at h
  split at h
  · obtain ⟨x, hx, hk⟩ := Option.bind_eq_some_iff.1 h
    exact ⟨_, hk, ok (n := n) hx⟩
  · cases h
end nat_FromUint
/-! ### nat_size: function 51 -/
namespace nat_size
noncomputable def b0 (k57 : Λ→Int→Ω (Int)) (l0 : Λ) : Ω (Int) := k57 l0 (ln l0)
noncomputable def b57 (k57 : Λ→Int→Ω (Int)) (x0 : Λ) (x1 : Int) : Ω (Int) := (if x1 > 0 then (if 0 ≤ (wrap64 (x1 - 1)) then (if (wrap64 (x1 - 1)) < (ln x0) then (if (rd x0 (wrap64 (x1 - 1))) = 0 then k57 x0 (wrap64 (x1 - 1)) else some x1) else none) else none) else some x1)
noncomputable def l57 (n : Nat) : Nat→Λ→Int→Ω (Int)
  | 0, _, _ => none
  | m + 1, x0, x1 => b57 (l57 n m) x0 x1
noncomputable def f (n : Nat) (l0 : Λ) : Ω (Int) := b0 (l57 n n) l0
noncomputable def sg : Sig (Int) := s1 (sInt .i64)
noncomputable def code : Code := (Tryd.f51.body).getD .skip
noncomputable def cfg : Cfg (Int) := { T := tys, call := noCall }
noncomputable def cuts : List (Nat × List (Nat × Want)) := [(57, [(0, .keep), (3, .keep)])]
noncomputable def s57 (x0 : Λ) (x1 : Int) : ASt := ⟨[(0, .ro .u64 x0), (3, .int .i64 x1)], []⟩
noncomputable def A (n : Nat) (J : Jt (Int)) (q : Nat) (ms : List Nat) : ASt→Ω (Int) := acont cfg J cuts n q code 1 ms (aend cfg Tryd.f51.results.toList [false] sg.out)
theorem e0 (n : Nat) (J : Jt (Int)) (l0 : Λ) : afun cfg J cuts n code Tryd.f51.results.toList [false] [.ro .u64 l0] sg.out = b0 (fun y0 y1 => J 57 (A n J 57 [n]) (s57 y0 y1)) l0 := by kernel_rfl
theorem e57 (n : Nat) (J : Jt (Int)) (m : Nat) (x0 : Λ) (x1 : Int) : A n J 57 [m + 1] (s57 x0 x1) = b57 (fun y0 y1 => J 57 (A n J 57 [m]) (s57 y0 y1)) x0 x1 := by kernel_rfl
theorem q57 (n m : Nat) : ∀ (x0 : Λ) (x1 : Int), A n idJ 57 [m] (s57 x0 x1) = l57 n m x0 x1 := by
  induction m with
  | zero => intros; rfl
  | succ m ih =>
    intro x0 x1
    refine (e57 n idJ m x0 x1).trans ?_
    exact congrFun (congrFun (congrArg b57 (funext fun y0 => (funext fun y1 => ih y0 y1))) x0) x1
theorem eq (n : Nat) (l0 : Λ) : afun cfg idJ cuts n code Tryd.f51.results.toList [false] [.ro .u64 l0] sg.out = f n l0 := (e0 n idJ l0).trans (congrFun (congrArg b0 (funext fun y0 => (funext fun y1 => q57 n n y0 y1))) l0)
theorem ok {n : Nat} {l0 : Λ} {r : Int} (h : f n l0 = some r) : CallD Tryd.prog HW 51 [.ro .u64 l0] (sg.enc r) :=
  fun_some hwS Tryd.func51 (by kernel_rfl) (body := code) (by kernel_rfl) tys_ok (c := cfg) noCall_ok noW_ok (by kernel_rfl) (by kernel_rfl) (Nat.le_of_ble_eq_true (by kernel_rfl)) ((eq n l0).trans h)
noncomputable def call {α : Type} (g : Λ→Ω (Int)) (ds : List D) (K : List D→Ω α) : Ω α := match ds with
  | [.ro .u64 l0] => (g l0).bind fun r => K (sg.enc r)
  | _ => none
theorem call_ok {α : Type} {n : Nat} (ds : List D) (K : List D→Ω α) (r : α) (h : call (f n) ds K = some r) : ∃ rs, K rs = some r ∧ CallD Tryd.prog HW 51 ds rs := by
  unfold call at h
  split at h
  · obtain ⟨x, hx, hk⟩ := Option.bind_eq_some_iff.1 h
    exact ⟨_, hk, ok (n := n) hx⟩
  · cases h
end nat_size
/-! ### nat_big: function 50 -/
namespace nat_big
noncomputable def b0 (c51 : Λ→Ω (Int)) (l0 : Λ) : Ω (Bool) := ((c51 l0).bind fun t1 => some (decide (t1 > 4096)))
noncomputable def f (n : Nat) (l0 : Λ) : Ω (Bool) := b0 (nat_size.f n) l0
noncomputable def sg : Sig (Bool) := s1 (sBool)
noncomputable def code : Code := (Tryd.f50.body).getD .skip
noncomputable def cfg (c51 : Λ→Ω (Int)) : Cfg (Bool) := { T := tys, call := orCall 51 (nat_size.call c51) (noCall) }
noncomputable def cuts : List (Nat × List (Nat × Want)) := []
theorem e0 (c51 : Λ→Ω (Int)) (n : Nat) (J : Jt (Bool)) (l0 : Λ) : afun (cfg c51) J cuts n code Tryd.f50.results.toList [false] [.ro .u64 l0] sg.out = b0 c51 l0 := by kernel_rfl
theorem eq (n : Nat) (l0 : Λ) : afun (cfg (nat_size.f n)) idJ cuts n code Tryd.f50.results.toList [false] [.ro .u64 l0] sg.out = f n l0 := (e0 (nat_size.f n) n idJ l0).trans (rfl)
theorem ok {n : Nat} {l0 : Λ} {r : Bool} (h : f n l0 = some r) : CallD Tryd.prog HW 50 [.ro .u64 l0] (sg.enc r) :=
  fun_some hwS Tryd.func50 (by kernel_rfl) (body := code) (by kernel_rfl) tys_ok (c := cfg (nat_size.f n)) (orCall_ok (nat_size.call_ok (n := n)) noCall_ok) noW_ok (by kernel_rfl) (by kernel_rfl) (Nat.le_of_ble_eq_true (by kernel_rfl)) ((eq n l0).trans h)
noncomputable def call {α : Type} (g : Λ→Ω (Bool)) (ds : List D) (K : List D→Ω α) : Ω α := match ds with
  | [.ro .u64 l0] => (g l0).bind fun r => K (sg.enc r)
  | _ => none
theorem call_ok {α : Type} {n : Nat} (ds : List D) (K : List D→Ω α) (r : α) (h : call (f n) ds K = some r) : ∃ rs, K rs = some r ∧ CallD Tryd.prog HW 50 ds rs := by
  unfold call at h
  split at h
  · obtain ⟨x, hx, hk⟩ := Option.bind_eq_some_iff.1 h
    exact ⟨_, hk, ok (n := n) hx⟩
  · cases h
end nat_big
/-! ### bits_Mul64: function 52 -/
namespace bits_Mul64
noncomputable def b0 (a0 a1 : Int) : Ω (Int × Int) := some (IntKind.u64.wrap ((IntKind.u64.wrap ((IntKind.u64.wrap ((a0 / 4294967296) * (a1 / 4294967296))) + ((IntKind.u64.wrap ((IntKind.u64.wrap ((a0 / 4294967296) * (Go.bits .and .u64 a1 4294967295))) + ((IntKind.u64.wrap ((Go.bits .and .u64 a0 4294967295) * (Go.bits .and .u64 a1 4294967295))) / 4294967296))) / 4294967296))) + ((IntKind.u64.wrap ((Go.bits .and .u64 (IntKind.u64.wrap ((IntKind.u64.wrap ((a0 / 4294967296) * (Go.bits .and .u64 a1 4294967295))) + ((IntKind.u64.wrap ((Go.bits .and .u64 a0 4294967295) * (Go.bits .and .u64 a1 4294967295))) / 4294967296))) 4294967295) + (IntKind.u64.wrap ((Go.bits .and .u64 a0 4294967295) * (a1 / 4294967296))))) / 4294967296)), IntKind.u64.wrap (a0 * a1))
noncomputable def f (a0 a1 : Int) : Ω (Int × Int) := b0 a0 a1
noncomputable def sg : Sig (Int × Int) := s2 (sInt .u64) (s1 (sInt .u64))
noncomputable def code : Code := (Tryd.f52.body).getD .skip
noncomputable def cfg : Cfg (Int × Int) := { T := tys, call := noCall }
noncomputable def cuts : List (Nat × List (Nat × Want)) := []
theorem e0 (n : Nat) (J : Jt (Int × Int)) (a0 a1 : Int) : afun cfg J cuts n code Tryd.f52.results.toList [false, false] [.int .u64 a0, .int .u64 a1] sg.out = b0 a0 a1 := by kernel_rfl
theorem eq (n : Nat) (a0 a1 : Int) : afun cfg idJ cuts n code Tryd.f52.results.toList [false, false] [.int .u64 a0, .int .u64 a1] sg.out = f a0 a1 := (e0 n idJ a0 a1).trans (rfl)
theorem ok {n : Nat} {a0 : Int} {a1 : Int} {r : Int × Int} (h : f a0 a1 = some r) : CallD Tryd.prog HW 52 [.int .u64 a0, .int .u64 a1] (sg.enc r) :=
  fun_some hwS Tryd.func52 (by kernel_rfl) (body := code) (by kernel_rfl) tys_ok (c := cfg) noCall_ok noW_ok (by kernel_rfl) (by kernel_rfl) (Nat.le_of_ble_eq_true (by kernel_rfl)) ((eq n a0 a1).trans h)
noncomputable def call {α : Type} (g : Int→Int→Ω (Int × Int)) (ds : List D) (K : List D→Ω α) : Ω α := match ds with
  | [.int .u64 a0, .int .u64 a1] => (g a0 a1).bind fun r => K (sg.enc r)
  | _ => none
theorem call_ok {α : Type} {n : Nat} (ds : List D) (K : List D→Ω α) (r : α) (h : call f ds K = some r) : ∃ rs, K rs = some r ∧ CallD Tryd.prog HW 52 ds rs := by
  unfold call at h
  split at h
  · obtain ⟨x, hx, hk⟩ := Option.bind_eq_some_iff.1 h
    exact ⟨_, hk, ok (n := n) hx⟩
  · cases h
end bits_Mul64
/-! ### nat_cut: function 54 -/
namespace nat_cut
noncomputable def b0 (c51 : Λ→Ω (Int)) (l0 : Λ) : Ω (Λ × Int) := ((c51 l0).bind fun t1 => (if t1 > 4096 then some (([] : Λ), 2) else (if 0 ≤ t1 then (if t1 ≤ t1 then (if t1 ≤ (ln l0) then ((some (l0.take t1.toNat) : Ω (Λ)).bind fun y2 => some (y2, 0)) else none) else none) else none)))
noncomputable def f (n : Nat) (l0 : Λ) : Ω (Λ × Int) := b0 (nat_size.f n) l0
noncomputable def sg : Sig (Λ × Int) := s2 (sRow .u64) (s1 (sInt .i64))
noncomputable def code : Code := (Tryd.f54.body).getD .skip
noncomputable def cfg (c51 : Λ→Ω (Int)) : Cfg (Λ × Int) := { T := tys, call := orCall 51 (nat_size.call c51) (noCall) }
noncomputable def cuts : List (Nat × List (Nat × Want)) := []
theorem e0 (c51 : Λ→Ω (Int)) (n : Nat) (J : Jt (Λ × Int)) (l0 : Λ) : afun (cfg c51) J cuts n code Tryd.f54.results.toList [false, false] [.ro .u64 l0] sg.out = b0 c51 l0 := by kernel_rfl
theorem eq (n : Nat) (l0 : Λ) : afun (cfg (nat_size.f n)) idJ cuts n code Tryd.f54.results.toList [false, false] [.ro .u64 l0] sg.out = f n l0 := (e0 (nat_size.f n) n idJ l0).trans (rfl)
theorem ok {n : Nat} {l0 : Λ} {r : Λ × Int} (h : f n l0 = some r) : CallD Tryd.prog HW 54 [.ro .u64 l0] (sg.enc r) :=
  fun_some hwS Tryd.func54 (by kernel_rfl) (body := code) (by kernel_rfl) tys_ok (c := cfg (nat_size.f n)) (orCall_ok (nat_size.call_ok (n := n)) noCall_ok) noW_ok (by kernel_rfl) (by kernel_rfl) (Nat.le_of_ble_eq_true (by kernel_rfl)) ((eq n l0).trans h)
noncomputable def call {α : Type} (g : Λ→Ω (Λ × Int)) (ds : List D) (K : List D→Ω α) : Ω α := match ds with
  | [.ro .u64 l0] => (g l0).bind fun r => K (sg.enc r)
  | _ => none
theorem call_ok {α : Type} {n : Nat} (ds : List D) (K : List D→Ω α) (r : α) (h : call (f n) ds K = some r) : ∃ rs, K rs = some r ∧ CallD Tryd.prog HW 54 ds rs := by
  unfold call at h
  split at h
  · obtain ⟨x, hx, hk⟩ := Option.bind_eq_some_iff.1 h
    exact ⟨_, hk, ok (n := n) hx⟩
  · cases h
end nat_cut
/-! ### nat_Shl: function 59 -/
namespace nat_Shl
noncomputable def b0 (c50 : Λ→Ω (Bool)) (c51 : Λ→Ω (Int)) (c52 : Int→Int→Ω (Int × Int)) (c54 : Λ→Ω (Λ × Int)) (k8181 : Int→Int→Λ→Int→Int→Λ→Ω (Λ × Int)) (l0 : Λ) (a1 : Int) : Ω (Λ × Int) := ((c50 l0).bind fun t1 => (if t1 = true then some (([] : Λ), 2) else (if a1 < 0 then some (([] : Λ), 1) else ((c51 l0).bind fun t2 => (if 0 ≤ t2 then (if t2 ≤ (ln l0) then ((some (l0.take t2.toNat) : Ω (Λ)).bind fun y3 => (if (ln y3) = 0 then some (([] : Λ), 0) else (if a1 > 262144 then some (([] : Λ), 2) else (if 0 ≤ (wrap64 ((wrap64 ((wrap64 (Int.tdiv a1 64)) + (ln y3))) + 1)) then (if (wrap64 ((wrap64 ((wrap64 (Int.tdiv a1 64)) + (ln y3))) + 1)).toNat ≤ 35184372088832 then k8181 (wrap64 (Int.tdiv a1 64)) (IntKind.u64.wrap (Int.tmod a1 64)) y3 (ln y3) 0 (List.replicate (wrap64 ((wrap64 ((wrap64 (Int.tdiv a1 64)) + (ln y3))) + 1)).toNat (0 : Int)) else none) else none)))) else none) else none)))))
noncomputable def b1023 (c50 : Λ→Ω (Bool)) (c51 : Λ→Ω (Int)) (c52 : Int→Int→Ω (Int × Int)) (c54 : Λ→Ω (Λ × Int)) (x0 : Λ) : Ω (Λ × Int) := ((c54 x0).bind fun t1 => some (t1.1, t1.2))
noncomputable def b8181 (c50 : Λ→Ω (Bool)) (c51 : Λ→Ω (Int)) (c52 : Int→Int→Ω (Int × Int)) (c54 : Λ→Ω (Λ × Int)) (k1023 : Λ→Ω (Λ × Int)) (k8181 : Int→Int→Λ→Int→Int→Λ→Ω (Λ × Int)) (x0 x1 : Int) (x2 : Λ) (x3 x4 : Int) (x5 : Λ) : Ω (Λ × Int) := (if x4 < x3 then (if 0 ≤ x4 then (if x4 < (ln x2) then (if 0 ≤ x1 then ((c52 (rd x2 x4) (shl .u64 1 x1)).bind fun t1 => (if 0 ≤ (wrap64 (x0 + x4)) then (if (wrap64 (x0 + x4)) < (ln x5) then (if 0 ≤ (wrap64 (x0 + x4)) then (if (wrap64 (x0 + x4)) < (ln x5) then (if 0 ≤ (wrap64 ((wrap64 (x0 + x4)) + 1)) then (if (wrap64 ((wrap64 (x0 + x4)) + 1)) < (ln (x5.set (wrap64 (x0 + x4) : Int).toNat (Go.bits .or .u64 (rd x5 (wrap64 (x0 + x4))) t1.2))) then k8181 x0 x1 x2 x3 (wrap64 (x4 + 1)) ((x5.set (wrap64 (x0 + x4) : Int).toNat (Go.bits .or .u64 (rd x5 (wrap64 (x0 + x4))) t1.2)).set (wrap64 ((wrap64 (x0 + x4)) + 1) : Int).toNat t1.1) else none) else none) else none) else none) else none) else none)) else none) else none) else none) else k1023 x5)
noncomputable def l1023 (n : Nat) (x0 : Λ) : Ω (Λ × Int) := b1023 (nat_big.f n) (nat_size.f n) bits_Mul64.f (nat_cut.f n) x0
noncomputable def l8181 (n : Nat) : Nat→Int→Int→Λ→Int→Int→Λ→Ω (Λ × Int)
  | 0, _, _, _, _, _, _ => none
  | m + 1, x0, x1, x2, x3, x4, x5 => b8181 (nat_big.f n) (nat_size.f n) bits_Mul64.f (nat_cut.f n) (l1023 n) (l8181 n m) x0 x1 x2 x3 x4 x5
noncomputable def f (n : Nat) (l0 : Λ) (a1 : Int) : Ω (Λ × Int) := b0 (nat_big.f n) (nat_size.f n) bits_Mul64.f (nat_cut.f n) (l8181 n n) l0 a1
noncomputable def sg : Sig (Λ × Int) := s2 (sRow .u64) (s1 (sInt .i64))
noncomputable def code : Code := (Tryd.f59.body).getD .skip
noncomputable def cfg (c50 : Λ→Ω (Bool)) (c51 : Λ→Ω (Int)) (c52 : Int→Int→Ω (Int × Int)) (c54 : Λ→Ω (Λ × Int)) : Cfg (Λ × Int) := { T := tys, call := orCall 50 (nat_big.call c50) (orCall 51 (nat_size.call c51) (orCall 52 (bits_Mul64.call c52) (orCall 54 (nat_cut.call c54) (noCall)))) }
noncomputable def cuts : List (Nat × List (Nat × Want)) := [(1023, [(8, .keep)]), (8181, [(6, .keep), (7, .keep), (8, .keep), (37, .keep), (38, .keep), (39, .keep)])]
noncomputable def s1023 (x0 : Λ) : ASt := ⟨[(8, .own 0)], [.ints 22 .u64 x0]⟩
noncomputable def s8181 (x0 x1 : Int) (x2 : Λ) (x3 x4 : Int) (x5 : Λ) : ASt := ⟨[(6, .int .i64 x0), (7, .int .u64 x1), (8, .own 0), (37, .ro .u64 x2), (38, .int .i64 x3), (39, .int .i64 x4)], [.ints 22 .u64 x5]⟩
noncomputable def A (c50 : Λ→Ω (Bool)) (c51 : Λ→Ω (Int)) (c52 : Int→Int→Ω (Int × Int)) (c54 : Λ→Ω (Λ × Int)) (n : Nat) (J : Jt (Λ × Int)) (q : Nat) (ms : List Nat) : ASt→Ω (Λ × Int) := acont (cfg c50 c51 c52 c54) J cuts n q code 1 ms (aend (cfg c50 c51 c52 c54) Tryd.f59.results.toList [false, false] sg.out)
theorem e0 (c50 : Λ→Ω (Bool)) (c51 : Λ→Ω (Int)) (c52 : Int→Int→Ω (Int × Int)) (c54 : Λ→Ω (Λ × Int)) (n : Nat) (J : Jt (Λ × Int)) (l0 : Λ) (a1 : Int) : afun (cfg c50 c51 c52 c54) J cuts n code Tryd.f59.results.toList [false, false] [.ro .u64 l0, .int .i64 a1] sg.out = b0 c50 c51 c52 c54 (fun y0 y1 y2 y3 y4 y5 => J 8181 (A c50 c51 c52 c54 n J 8181 [n]) (s8181 y0 y1 y2 y3 y4 y5)) l0 a1 := by kernel_rfl
theorem e1023 (c50 : Λ→Ω (Bool)) (c51 : Λ→Ω (Int)) (c52 : Int→Int→Ω (Int × Int)) (c54 : Λ→Ω (Λ × Int)) (n : Nat) (J : Jt (Λ × Int)) (x0 : Λ) : A c50 c51 c52 c54 n J 1023 [] (s1023 x0) = b1023 c50 c51 c52 c54 x0 := by kernel_rfl
theorem e8181 (c50 : Λ→Ω (Bool)) (c51 : Λ→Ω (Int)) (c52 : Int→Int→Ω (Int × Int)) (c54 : Λ→Ω (Λ × Int)) (n : Nat) (J : Jt (Λ × Int)) (m : Nat) (x0 x1 : Int) (x2 : Λ) (x3 x4 : Int) (x5 : Λ) : A c50 c51 c52 c54 n J 8181 [m + 1] (s8181 x0 x1 x2 x3 x4 x5) = b8181 c50 c51 c52 c54 (fun y0 => J 1023 (A c50 c51 c52 c54 n J 1023 []) (s1023 y0)) (fun y0 y1 y2 y3 y4 y5 => J 8181 (A c50 c51 c52 c54 n J 8181 [m]) (s8181 y0 y1 y2 y3 y4 y5)) x0 x1 x2 x3 x4 x5 := by kernel_rfl
theorem q1023 (n : Nat) (x0 : Λ) : A (nat_big.f n) (nat_size.f n) bits_Mul64.f (nat_cut.f n) n idJ 1023 [] (s1023 x0) = l1023 n x0 := (e1023 (nat_big.f n) (nat_size.f n) bits_Mul64.f (nat_cut.f n) n idJ x0).trans (rfl)
theorem q8181 (n m : Nat) : ∀ (x0 x1 : Int) (x2 : Λ) (x3 x4 : Int) (x5 : Λ), A (nat_big.f n) (nat_size.f n) bits_Mul64.f (nat_cut.f n) n idJ 8181 [m] (s8181 x0 x1 x2 x3 x4 x5) = l8181 n m x0 x1 x2 x3 x4 x5 := by
  induction m with
  | zero => intros; rfl
  | succ m ih =>
    intro x0 x1 x2 x3 x4 x5
    refine (e8181 (nat_big.f n) (nat_size.f n) bits_Mul64.f (nat_cut.f n) n idJ m x0 x1 x2 x3 x4 x5).trans ?_
    exact congrFun (congrFun (congrFun (congrFun (congrFun (congrFun (congr (congrArg (b8181 (nat_big.f n) (nat_size.f n) bits_Mul64.f (nat_cut.f n)) (funext fun y0 => q1023 n y0)) (funext fun y0 => (funext fun y1 => (funext fun y2 => (funext fun y3 => (funext fun y4 => (funext fun y5 => ih y0 y1 y2 y3 y4 y5))))))) x0) x1) x2) x3) x4) x5
theorem eq (n : Nat) (l0 : Λ) (a1 : Int) : afun (cfg (nat_big.f n) (nat_size.f n) bits_Mul64.f (nat_cut.f n)) idJ cuts n code Tryd.f59.results.toList [false, false] [.ro .u64 l0, .int .i64 a1] sg.out = f n l0 a1 := (e0 (nat_big.f n) (nat_size.f n) bits_Mul64.f (nat_cut.f n) n idJ l0 a1).trans (congrFun (congrFun (congrArg (b0 (nat_big.f n) (nat_size.f n) bits_Mul64.f (nat_cut.f n)) (funext fun y0 => (funext fun y1 => (funext fun y2 => (funext fun y3 => (funext fun y4 => (funext fun y5 => q8181 n n y0 y1 y2 y3 y4 y5))))))) l0) a1)
theorem ok {n : Nat} {l0 : Λ} {a1 : Int} {r : Λ × Int} (h : f n l0 a1 = some r) : CallD Tryd.prog HW 59 [.ro .u64 l0, .int .i64 a1] (sg.enc r) :=
  fun_some hwS Tryd.func59 (by kernel_rfl) (body := code) (by kernel_rfl) tys_ok (c := cfg (nat_big.f n) (nat_size.f n) bits_Mul64.f (nat_cut.f n)) (orCall_ok (nat_big.call_ok (n := n)) (orCall_ok (nat_size.call_ok (n := n)) (orCall_ok (bits_Mul64.call_ok (n := n)) (orCall_ok (nat_cut.call_ok (n := n)) noCall_ok)))) noW_ok (by kernel_rfl) (by kernel_rfl) (Nat.le_of_ble_eq_true (by kernel_rfl)) ((eq n l0 a1).trans h)
noncomputable def call {α : Type} (g : Λ→Int→Ω (Λ × Int)) (ds : List D) (K : List D→Ω α) : Ω α := match ds with
  | [.ro .u64 l0, .int .i64 a1] => (g l0 a1).bind fun r => K (sg.enc r)
  | _ => none
theorem call_ok {α : Type} {n : Nat} (ds : List D) (K : List D→Ω α) (r : α) (h : call (f n) ds K = some r) : ∃ rs, K rs = some r ∧ CallD Tryd.prog HW 59 ds rs := by
  unfold call at h
  split at h
  · obtain ⟨x, hx, hk⟩ := Option.bind_eq_some_iff.1 h
    exact ⟨_, hk, ok (n := n) hx⟩
  · cases h
end nat_Shl
/-! ### ieee_near: function 90 -/
namespace ieee_near
noncomputable def b0 (a0 : Int) : Ω (Int) := some (mx (-1099511627776) (mn 1099511627776 a0))
noncomputable def f (a0 : Int) : Ω (Int) := b0 a0
noncomputable def sg : Sig (Int) := s1 (sInt .i64)
noncomputable def code : Code := (Tryd.f90.body).getD .skip
noncomputable def cfg : Cfg (Int) := { T := tys, call := noCall }
noncomputable def cuts : List (Nat × List (Nat × Want)) := []
theorem e0 (n : Nat) (J : Jt (Int)) (a0 : Int) : afun cfg J cuts n code Tryd.f90.results.toList [false] [.int .i64 a0] sg.out = b0 a0 := by kernel_rfl
theorem eq (n : Nat) (a0 : Int) : afun cfg idJ cuts n code Tryd.f90.results.toList [false] [.int .i64 a0] sg.out = f a0 := (e0 n idJ a0).trans (rfl)
theorem ok {n : Nat} {a0 : Int} {r : Int} (h : f a0 = some r) : CallD Tryd.prog HW 90 [.int .i64 a0] (sg.enc r) :=
  fun_some hwS Tryd.func90 (by kernel_rfl) (body := code) (by kernel_rfl) tys_ok (c := cfg) noCall_ok noW_ok (by kernel_rfl) (by kernel_rfl) (Nat.le_of_ble_eq_true (by kernel_rfl)) ((eq n a0).trans h)
noncomputable def call {α : Type} (g : Int→Ω (Int)) (ds : List D) (K : List D→Ω α) : Ω α := match ds with
  | [.int .i64 a0] => (g a0).bind fun r => K (sg.enc r)
  | _ => none
theorem call_ok {α : Type} {n : Nat} (ds : List D) (K : List D→Ω α) (r : α) (h : call f ds K = some r) : ∃ rs, K rs = some r ∧ CallD Tryd.prog HW 90 ds rs := by
  unfold call at h
  split at h
  · obtain ⟨x, hx, hk⟩ := Option.bind_eq_some_iff.1 h
    exact ⟨_, hk, ok (n := n) hx⟩
  · cases h
end ieee_near
/-! ### bits_Len64: function 67 -/
namespace bits_Len64
def f (a0 : Int) : Ω (Int) := if 0 ≤ a0 ∧ a0 ≤ 18446744073709551615 then some (Lib.bitLen a0.toNat : Nat) else none
def sg : Sig (Int) := s1 (sInt .i64)
theorem ok {a0 : Int} {r : Int} (h : f a0 = some r) : CallD Tryd.prog HW 67 [.int .u64 a0] (sg.enc r) := by
  unfold f at h
  split at h
  · rename_i hh
    obtain rfl := Option.some.inj h
    refine calld_scal rfl rfl fun w _ => .inl ⟨_, Tryd.func67, by kernel_rfl, by kernel_rfl, (Go.Proofs.YtobocamcoaeliaaDoorG.len64 a0 w hh.1 hh.2).mono ?_⟩
    rintro e w' ⟨rfl, rfl⟩
    exact ⟨_, rfl, rfl, rfl⟩
  · cases h
noncomputable def call {α : Type} (g : Int→Ω (Int)) (ds : List D) (K : List D→Ω α) : Ω α := match ds with
  | [.int .u64 a0] => (g a0).bind fun r => K (sg.enc r)
  | _ => none
theorem call_ok {α : Type} {n : Nat} (ds : List D) (K : List D→Ω α) (r : α) (h : call f ds K = some r) : ∃ rs, K rs = some r ∧ CallD Tryd.prog HW 67 ds rs := by
  unfold call at h
  split at h
  · obtain ⟨x, hx, hk⟩ := Option.bind_eq_some_iff.1 h
    exact ⟨_, hk, ok hx⟩
  · cases h
end bits_Len64
/-! ### nat_BitLen: function 84 -/
namespace nat_BitLen
noncomputable def b0 (c51 : Λ→Ω (Int)) (c67 : Int→Ω (Int)) (l0 : Λ) : Ω (Int) := ((c51 l0).bind fun t1 => (if t1 = 0 then some 0 else (if 0 ≤ (wrap64 (t1 - 1)) then (if (wrap64 (t1 - 1)) < (ln l0) then ((c67 (rd l0 (wrap64 (t1 - 1)))).bind fun t2 => some (wrap64 ((wrap64 (64 * (wrap64 (t1 - 1)))) + t2))) else none) else none)))
noncomputable def f (n : Nat) (l0 : Λ) : Ω (Int) := b0 (nat_size.f n) bits_Len64.f l0
noncomputable def sg : Sig (Int) := s1 (sInt .i64)
noncomputable def code : Code := (Tryd.f84.body).getD .skip
noncomputable def cfg (c51 : Λ→Ω (Int)) (c67 : Int→Ω (Int)) : Cfg (Int) := { T := tys, call := orCall 51 (nat_size.call c51) (orCall 67 (bits_Len64.call c67) (noCall)) }
noncomputable def cuts : List (Nat × List (Nat × Want)) := []
theorem e0 (c51 : Λ→Ω (Int)) (c67 : Int→Ω (Int)) (n : Nat) (J : Jt (Int)) (l0 : Λ) : afun (cfg c51 c67) J cuts n code Tryd.f84.results.toList [false] [.ro .u64 l0] sg.out = b0 c51 c67 l0 := by kernel_rfl
theorem eq (n : Nat) (l0 : Λ) : afun (cfg (nat_size.f n) bits_Len64.f) idJ cuts n code Tryd.f84.results.toList [false] [.ro .u64 l0] sg.out = f n l0 := (e0 (nat_size.f n) bits_Len64.f n idJ l0).trans (rfl)
theorem ok {n : Nat} {l0 : Λ} {r : Int} (h : f n l0 = some r) : CallD Tryd.prog HW 84 [.ro .u64 l0] (sg.enc r) :=
  fun_some hwS Tryd.func84 (by kernel_rfl) (body := code) (by kernel_rfl) tys_ok (c := cfg (nat_size.f n) bits_Len64.f) (orCall_ok (nat_size.call_ok (n := n)) (orCall_ok (bits_Len64.call_ok (n := n)) noCall_ok)) noW_ok (by kernel_rfl) (by kernel_rfl) (Nat.le_of_ble_eq_true (by kernel_rfl)) ((eq n l0).trans h)
noncomputable def call {α : Type} (g : Λ→Ω (Int)) (ds : List D) (K : List D→Ω α) : Ω α := match ds with
  | [.ro .u64 l0] => (g l0).bind fun r => K (sg.enc r)
  | _ => none
theorem call_ok {α : Type} {n : Nat} (ds : List D) (K : List D→Ω α) (r : α) (h : call (f n) ds K = some r) : ∃ rs, K rs = some r ∧ CallD Tryd.prog HW 84 ds rs := by
  unfold call at h
  split at h
  · obtain ⟨x, hx, hk⟩ := Option.bind_eq_some_iff.1 h
    exact ⟨_, hk, ok (n := n) hx⟩
  · cases h
end nat_BitLen
/-! ### bits_TrailingZeros64: function 42 -/
namespace bits_TrailingZeros64
def f (a0 : Int) : Ω (Int) := if 0 ≤ a0 ∧ a0 < 18446744073709551616 then some (Lib.ctz 64 a0.toNat : Nat) else none
def sg : Sig (Int) := s1 (sInt .i64)
set_option maxHeartbeats 1000000 in
theorem core (x k idx : Nat) (w : World) (hx0 : ((x : Int) == 0) = false)
    (key : IntKind.u64.wrap (bits BinOp.and IntKind.u64 (x : Int) (IntKind.u64.wrap (-(x : Int))) * 285870213051353865) / 288230376151711744 = (idx : Int))
    (hi : idx < 64) (hk : k < 64) (hcell : w.cell? ⟨0, idx, none⟩ = some (.int .u8 k)) :
    Calls Tryd.prog 42 #[.int .u64 x] w fun e w' => e = .returned (.int .i64 k) ∧ w' = w := by
  go_enter Tryd.func42, Tryd.ntmps42
  go_wp2_with (simp only [key])
  go_ret
  exact ⟨rfl, rfl⟩
theorem zero (w : World) : Calls Tryd.prog 42 #[.int .u64 0] w fun e w' => e = .returned (.int .i64 64) ∧ w' = w := by
  go_enter Tryd.func42, Tryd.ntmps42
  go_wp2
  go_ret
  exact ⟨rfl, rfl⟩
theorem ok {a0 : Int} {r : Int} (h : f a0 = some r) : CallD Tryd.prog HW 42 [.int .u64 a0] (sg.enc r) := by
  unfold f at h
  split at h
  · rename_i hh
    obtain rfl := Option.some.inj h
    refine calld_scal rfl rfl fun w hw => .inl ⟨_, Tryd.func42, by kernel_rfl, by kernel_rfl, ?_⟩
    obtain ⟨x, rfl⟩ := Int.eq_ofNat_of_zero_le hh.1
    have hx : x < 18446744073709551616 := by omega
    show Calls Tryd.prog 42 #[.int .u64 x] w _
    rw [Int.toNat_natCast]
    by_cases hx0 : x = 0
    · subst hx0
      refine (zero w).mono ?_
      rintro e w' ⟨rfl, rfl⟩
      exact ⟨_, rfl, rfl, rfl⟩
    · obtain ⟨hlow, hk⟩ := Lib.lowest_bit 64 x hx0 hx
      obtain ⟨hi, htab⟩ := Lib.deBruijn64_at _ hk
      have hcell := hw _ hi
      rw [htab] at hcell
      refine (core x _ _ w (by simp; omega) (tz64_key x _ hx hx0 hlow) hi hk hcell).mono ?_
      rintro e w' ⟨rfl, rfl⟩
      exact ⟨_, rfl, rfl, rfl⟩
  · cases h
noncomputable def call {α : Type} (g : Int→Ω (Int)) (ds : List D) (K : List D→Ω α) : Ω α := match ds with
  | [.int .u64 a0] => (g a0).bind fun r => K (sg.enc r)
  | _ => none
theorem call_ok {α : Type} {n : Nat} (ds : List D) (K : List D→Ω α) (r : α) (h : call f ds K = some r) : ∃ rs, K rs = some r ∧ CallD Tryd.prog HW 42 ds rs := by
  unfold call at h
  split at h
  · obtain ⟨x, hx, hk⟩ := Option.bind_eq_some_iff.1 h
    exact ⟨_, hk, ok hx⟩
  · cases h
end bits_TrailingZeros64
/-! ### nat_Trail: function 85 -/
namespace nat_Trail
noncomputable def b0 (c42 : Int→Ω (Int)) (k53 : Λ→Int→Int→Ω (Int)) (l0 : Λ) : Ω (Int) := k53 l0 (ln l0) 0
noncomputable def b53 (c42 : Int→Ω (Int)) (k53 : Λ→Int→Int→Ω (Int)) (x0 : Λ) (x1 x2 : Int) : Ω (Int) := (if x2 < x1 then (if 0 ≤ x2 then (if x2 < (ln x0) then (if ¬ (rd x0 x2) = 0 then ((c42 (rd x0 x2)).bind fun t1 => some (wrap64 ((wrap64 (64 * x2)) + t1))) else k53 x0 x1 (wrap64 (x2 + 1))) else none) else none) else some 0)
noncomputable def l53 (n : Nat) : Nat→Λ→Int→Int→Ω (Int)
  | 0, _, _, _ => none
  | m + 1, x0, x1, x2 => b53 bits_TrailingZeros64.f (l53 n m) x0 x1 x2
noncomputable def f (n : Nat) (l0 : Λ) : Ω (Int) := b0 bits_TrailingZeros64.f (l53 n n) l0
noncomputable def sg : Sig (Int) := s1 (sInt .i64)
noncomputable def code : Code := (Tryd.f85.body).getD .skip
noncomputable def cfg (c42 : Int→Ω (Int)) : Cfg (Int) := { T := tys, call := orCall 42 (bits_TrailingZeros64.call c42) (noCall) }
noncomputable def cuts : List (Nat × List (Nat × Want)) := [(53, [(5, .keep), (6, .keep), (7, .keep)])]
noncomputable def s53 (x0 : Λ) (x1 x2 : Int) : ASt := ⟨[(5, .ro .u64 x0), (6, .int .i64 x1), (7, .int .i64 x2)], []⟩
noncomputable def A (c42 : Int→Ω (Int)) (n : Nat) (J : Jt (Int)) (q : Nat) (ms : List Nat) : ASt→Ω (Int) := acont (cfg c42) J cuts n q code 1 ms (aend (cfg c42) Tryd.f85.results.toList [false] sg.out)
theorem e0 (c42 : Int→Ω (Int)) (n : Nat) (J : Jt (Int)) (l0 : Λ) : afun (cfg c42) J cuts n code Tryd.f85.results.toList [false] [.ro .u64 l0] sg.out = b0 c42 (fun y0 y1 y2 => J 53 (A c42 n J 53 [n]) (s53 y0 y1 y2)) l0 := by kernel_rfl
theorem e53 (c42 : Int→Ω (Int)) (n : Nat) (J : Jt (Int)) (m : Nat) (x0 : Λ) (x1 x2 : Int) : A c42 n J 53 [m + 1] (s53 x0 x1 x2) = b53 c42 (fun y0 y1 y2 => J 53 (A c42 n J 53 [m]) (s53 y0 y1 y2)) x0 x1 x2 := by kernel_rfl
theorem q53 (n m : Nat) : ∀ (x0 : Λ) (x1 x2 : Int), A bits_TrailingZeros64.f n idJ 53 [m] (s53 x0 x1 x2) = l53 n m x0 x1 x2 := by
  induction m with
  | zero => intros; rfl
  | succ m ih =>
    intro x0 x1 x2
    refine (e53 bits_TrailingZeros64.f n idJ m x0 x1 x2).trans ?_
    exact congrFun (congrFun (congrFun (congrArg (b53 bits_TrailingZeros64.f) (funext fun y0 => (funext fun y1 => (funext fun y2 => ih y0 y1 y2)))) x0) x1) x2
theorem eq (n : Nat) (l0 : Λ) : afun (cfg bits_TrailingZeros64.f) idJ cuts n code Tryd.f85.results.toList [false] [.ro .u64 l0] sg.out = f n l0 := (e0 bits_TrailingZeros64.f n idJ l0).trans (congrFun (congrArg (b0 bits_TrailingZeros64.f) (funext fun y0 => (funext fun y1 => (funext fun y2 => q53 n n y0 y1 y2)))) l0)
theorem ok {n : Nat} {l0 : Λ} {r : Int} (h : f n l0 = some r) : CallD Tryd.prog HW 85 [.ro .u64 l0] (sg.enc r) :=
  fun_some hwS Tryd.func85 (by kernel_rfl) (body := code) (by kernel_rfl) tys_ok (c := cfg bits_TrailingZeros64.f) (orCall_ok (bits_TrailingZeros64.call_ok (n := n)) noCall_ok) noW_ok (by kernel_rfl) (by kernel_rfl) (Nat.le_of_ble_eq_true (by kernel_rfl)) ((eq n l0).trans h)
noncomputable def call {α : Type} (g : Λ→Ω (Int)) (ds : List D) (K : List D→Ω α) : Ω α := match ds with
  | [.ro .u64 l0] => (g l0).bind fun r => K (sg.enc r)
  | _ => none
theorem call_ok {α : Type} {n : Nat} (ds : List D) (K : List D→Ω α) (r : α) (h : call (f n) ds K = some r) : ∃ rs, K rs = some r ∧ CallD Tryd.prog HW 85 ds rs := by
  unfold call at h
  split at h
  · obtain ⟨x, hx, hk⟩ := Option.bind_eq_some_iff.1 h
    exact ⟨_, hk, ok (n := n) hx⟩
  · cases h
end nat_Trail
/-! ### nat_Shr: function 96 -/
namespace nat_Shr
noncomputable def b0 (c50 : Λ→Ω (Bool)) (c51 : Λ→Ω (Int)) (c54 : Λ→Ω (Λ × Int)) (c85 : Λ→Ω (Int)) (k31 : Λ→Int→Bool→Ω (Λ × Bool × Int)) (l0 : Λ) (a1 : Int) : Ω (Λ × Bool × Int) := ((c50 l0).bind fun t1 => (if t1 = true then some (([] : Λ), false, 2) else (if a1 < 0 then some (([] : Λ), false, 1) else ((c51 l0).bind fun t2 => (if t2 > 0 then ((c85 l0).bind fun t3 => k31 l0 a1 (decide (t3 < a1))) else k31 l0 a1 false)))))
noncomputable def b31 (c50 : Λ→Ω (Bool)) (c51 : Λ→Ω (Int)) (c54 : Λ→Ω (Λ × Int)) (c85 : Λ→Ω (Int)) (k8181 : Λ→Bool→Int→Int→Int→Int→Λ→Ω (Λ × Bool × Int)) (x0 : Λ) (x1 : Int) (x2 : Bool) : Ω (Λ × Bool × Int) := ((c51 x0).bind fun t1 => (if 0 ≤ t1 then (if t1 ≤ (ln x0) then ((some (x0.take t1.toNat) : Ω (Λ)).bind fun y2 => (if x1 ≥ (wrap64 (64 * (ln y2))) then some (([] : Λ), x2, 0) else (if 0 ≤ (wrap64 ((ln y2) - (wrap64 (Int.tdiv x1 64)))) then (if (wrap64 ((ln y2) - (wrap64 (Int.tdiv x1 64)))).toNat ≤ 35184372088832 then k8181 y2 x2 (wrap64 (Int.tdiv x1 64)) (IntKind.u64.wrap (Int.tmod x1 64)) (ln (List.replicate (wrap64 ((ln y2) - (wrap64 (Int.tdiv x1 64)))).toNat (0 : Int))) 0 (List.replicate (wrap64 ((ln y2) - (wrap64 (Int.tdiv x1 64)))).toNat (0 : Int)) else none) else none))) else none) else none))
noncomputable def b1023 (c50 : Λ→Ω (Bool)) (c51 : Λ→Ω (Int)) (c54 : Λ→Ω (Λ × Int)) (c85 : Λ→Ω (Int)) (x0 : Bool) (x1 : Λ) : Ω (Λ × Bool × Int) := ((c54 x1).bind fun t1 => some (t1.1, x0, t1.2))
noncomputable def b8181 (c50 : Λ→Ω (Bool)) (c51 : Λ→Ω (Int)) (c54 : Λ→Ω (Λ × Int)) (c85 : Λ→Ω (Int)) (k1023 : Bool→Λ→Ω (Λ × Bool × Int)) (k8181 : Λ→Bool→Int→Int→Int→Int→Λ→Ω (Λ × Bool × Int)) (x0 : Λ) (x1 : Bool) (x2 x3 x4 x5 : Int) (x6 : Λ) : Ω (Λ × Bool × Int) := (if x5 < x4 then (if 0 ≤ (wrap64 (x2 + x5)) then (if (wrap64 (x2 + x5)) < (ln x0) then (if 0 ≤ x3 then (if (wrap64 ((wrap64 (x2 + x5)) + 1)) < (ln x0) then (if x3 > 0 then (if 0 ≤ (wrap64 ((wrap64 (x2 + x5)) + 1)) then (if (wrap64 ((wrap64 (x2 + x5)) + 1)) < (ln x0) then (if 0 ≤ (IntKind.u64.wrap (64 - x3)) then (if 0 ≤ x5 then (if x5 < (ln x6) then k8181 x0 x1 x2 x3 x4 (wrap64 (x5 + 1)) (x6.set (x5 : Int).toNat (Go.bits .or .u64 (shr .u64 (rd x0 (wrap64 (x2 + x5))) x3) (shl .u64 (rd x0 (wrap64 ((wrap64 (x2 + x5)) + 1))) (IntKind.u64.wrap (64 - x3))))) else none) else none) else none) else none) else none) else (if 0 ≤ x5 then (if x5 < (ln x6) then k8181 x0 x1 x2 x3 x4 (wrap64 (x5 + 1)) (x6.set (x5 : Int).toNat (shr .u64 (rd x0 (wrap64 (x2 + x5))) x3)) else none) else none)) else (if 0 ≤ x5 then (if x5 < (ln x6) then k8181 x0 x1 x2 x3 x4 (wrap64 (x5 + 1)) (x6.set (x5 : Int).toNat (shr .u64 (rd x0 (wrap64 (x2 + x5))) x3)) else none) else none)) else none) else none) else none) else k1023 x1 x6)
noncomputable def l1023 (n : Nat) (x0 : Bool) (x1 : Λ) : Ω (Λ × Bool × Int) := b1023 (nat_big.f n) (nat_size.f n) (nat_cut.f n) (nat_Trail.f n) x0 x1
noncomputable def l8181 (n : Nat) : Nat→Λ→Bool→Int→Int→Int→Int→Λ→Ω (Λ × Bool × Int)
  | 0, _, _, _, _, _, _, _ => none
  | m + 1, x0, x1, x2, x3, x4, x5, x6 => b8181 (nat_big.f n) (nat_size.f n) (nat_cut.f n) (nat_Trail.f n) (l1023 n) (l8181 n m) x0 x1 x2 x3 x4 x5 x6
noncomputable def l31 (n : Nat) (x0 : Λ) (x1 : Int) (x2 : Bool) : Ω (Λ × Bool × Int) := b31 (nat_big.f n) (nat_size.f n) (nat_cut.f n) (nat_Trail.f n) (l8181 n n) x0 x1 x2
noncomputable def f (n : Nat) (l0 : Λ) (a1 : Int) : Ω (Λ × Bool × Int) := b0 (nat_big.f n) (nat_size.f n) (nat_cut.f n) (nat_Trail.f n) (l31 n) l0 a1
noncomputable def sg : Sig (Λ × Bool × Int) := s2 (sRow .u64) (s2 (sBool) (s1 (sInt .i64)))
noncomputable def code : Code := (Tryd.f96.body).getD .skip
noncomputable def cfg (c50 : Λ→Ω (Bool)) (c51 : Λ→Ω (Int)) (c54 : Λ→Ω (Λ × Int)) (c85 : Λ→Ω (Int)) : Cfg (Λ × Bool × Int) := { T := tys, call := orCall 50 (nat_big.call c50) (orCall 51 (nat_size.call c51) (orCall 54 (nat_cut.call c54) (orCall 85 (nat_Trail.call c85) (noCall)))) }
noncomputable def cuts : List (Nat × List (Nat × Want)) := [(31, [(0, .keep), (1, .keep), (7, .keep)]), (1023, [(7, .keep), (10, .keep)]), (8181, [(0, .keep), (7, .keep), (8, .keep), (9, .keep), (10, .keep), (49, .keep), (50, .keep)])]
noncomputable def s31 (x0 : Λ) (x1 : Int) (x2 : Bool) : ASt := ⟨[(0, .ro .u64 x0), (1, .int .i64 x1), (7, .bool x2)], []⟩
noncomputable def s1023 (x0 : Bool) (x1 : Λ) : ASt := ⟨[(7, .bool x0), (10, .own 0)], [.ints 22 .u64 x1]⟩
noncomputable def s8181 (x0 : Λ) (x1 : Bool) (x2 x3 x4 x5 : Int) (x6 : Λ) : ASt := ⟨[(0, .ro .u64 x0), (7, .bool x1), (8, .int .i64 x2), (9, .int .u64 x3), (10, .own 0), (49, .int .i64 x4), (50, .int .i64 x5)], [.ints 22 .u64 x6]⟩
noncomputable def A (c50 : Λ→Ω (Bool)) (c51 : Λ→Ω (Int)) (c54 : Λ→Ω (Λ × Int)) (c85 : Λ→Ω (Int)) (n : Nat) (J : Jt (Λ × Bool × Int)) (q : Nat) (ms : List Nat) : ASt→Ω (Λ × Bool × Int) := acont (cfg c50 c51 c54 c85) J cuts n q code 1 ms (aend (cfg c50 c51 c54 c85) Tryd.f96.results.toList [false, false, false] sg.out)
theorem e0 (c50 : Λ→Ω (Bool)) (c51 : Λ→Ω (Int)) (c54 : Λ→Ω (Λ × Int)) (c85 : Λ→Ω (Int)) (n : Nat) (J : Jt (Λ × Bool × Int)) (l0 : Λ) (a1 : Int) : afun (cfg c50 c51 c54 c85) J cuts n code Tryd.f96.results.toList [false, false, false] [.ro .u64 l0, .int .i64 a1] sg.out = b0 c50 c51 c54 c85 (fun y0 y1 y2 => J 31 (A c50 c51 c54 c85 n J 31 []) (s31 y0 y1 y2)) l0 a1 := by kernel_rfl
theorem e31 (c50 : Λ→Ω (Bool)) (c51 : Λ→Ω (Int)) (c54 : Λ→Ω (Λ × Int)) (c85 : Λ→Ω (Int)) (n : Nat) (J : Jt (Λ × Bool × Int)) (x0 : Λ) (x1 : Int) (x2 : Bool) : A c50 c51 c54 c85 n J 31 [] (s31 x0 x1 x2) = b31 c50 c51 c54 c85 (fun y0 y1 y2 y3 y4 y5 y6 => J 8181 (A c50 c51 c54 c85 n J 8181 [n]) (s8181 y0 y1 y2 y3 y4 y5 y6)) x0 x1 x2 := by kernel_rfl
theorem e1023 (c50 : Λ→Ω (Bool)) (c51 : Λ→Ω (Int)) (c54 : Λ→Ω (Λ × Int)) (c85 : Λ→Ω (Int)) (n : Nat) (J : Jt (Λ × Bool × Int)) (x0 : Bool) (x1 : Λ) : A c50 c51 c54 c85 n J 1023 [] (s1023 x0 x1) = b1023 c50 c51 c54 c85 x0 x1 := by kernel_rfl
theorem e8181 (c50 : Λ→Ω (Bool)) (c51 : Λ→Ω (Int)) (c54 : Λ→Ω (Λ × Int)) (c85 : Λ→Ω (Int)) (n : Nat) (J : Jt (Λ × Bool × Int)) (m : Nat) (x0 : Λ) (x1 : Bool) (x2 x3 x4 x5 : Int) (x6 : Λ) : A c50 c51 c54 c85 n J 8181 [m + 1] (s8181 x0 x1 x2 x3 x4 x5 x6) = b8181 c50 c51 c54 c85 (fun y0 y1 => J 1023 (A c50 c51 c54 c85 n J 1023 []) (s1023 y0 y1)) (fun y0 y1 y2 y3 y4 y5 y6 => J 8181 (A c50 c51 c54 c85 n J 8181 [m]) (s8181 y0 y1 y2 y3 y4 y5 y6)) x0 x1 x2 x3 x4 x5 x6 := by kernel_rfl
theorem q1023 (n : Nat) (x0 : Bool) (x1 : Λ) : A (nat_big.f n) (nat_size.f n) (nat_cut.f n) (nat_Trail.f n) n idJ 1023 [] (s1023 x0 x1) = l1023 n x0 x1 := (e1023 (nat_big.f n) (nat_size.f n) (nat_cut.f n) (nat_Trail.f n) n idJ x0 x1).trans (rfl)
theorem q8181 (n m : Nat) : ∀ (x0 : Λ) (x1 : Bool) (x2 x3 x4 x5 : Int) (x6 : Λ), A (nat_big.f n) (nat_size.f n) (nat_cut.f n) (nat_Trail.f n) n idJ 8181 [m] (s8181 x0 x1 x2 x3 x4 x5 x6) = l8181 n m x0 x1 x2 x3 x4 x5 x6 := by
  induction m with
  | zero => intros; rfl
  | succ m ih =>
    intro x0 x1 x2 x3 x4 x5 x6
    refine (e8181 (nat_big.f n) (nat_size.f n) (nat_cut.f n) (nat_Trail.f n) n idJ m x0 x1 x2 x3 x4 x5 x6).trans ?_
    exact congrFun (congrFun (congrFun (congrFun (congrFun (congrFun (congrFun (congr (congrArg (b8181 (nat_big.f n) (nat_size.f n) (nat_cut.f n) (nat_Trail.f n)) (funext fun y0 => (funext fun y1 => q1023 n y0 y1))) (funext fun y0 => (funext fun y1 => (funext fun y2 => (funext fun y3 => (funext fun y4 => (funext fun y5 => (funext fun y6 => ih y0 y1 y2 y3 y4 y5 y6)))))))) x0) x1) x2) x3) x4) x5) x6
theorem q31 (n : Nat) (x0 : Λ) (x1 : Int) (x2 : Bool) : A (nat_big.f n) (nat_size.f n) (nat_cut.f n) (nat_Trail.f n) n idJ 31 [] (s31 x0 x1 x2) = l31 n x0 x1 x2 := (e31 (nat_big.f n) (nat_size.f n) (nat_cut.f n) (nat_Trail.f n) n idJ x0 x1 x2).trans (congrFun (congrFun (congrFun (congrArg (b31 (nat_big.f n) (nat_size.f n) (nat_cut.f n) (nat_Trail.f n)) (funext fun y0 => (funext fun y1 => (funext fun y2 => (funext fun y3 => (funext fun y4 => (funext fun y5 => (funext fun y6 => q8181 n n y0 y1 y2 y3 y4 y5 y6)))))))) x0) x1) x2)
theorem eq (n : Nat) (l0 : Λ) (a1 : Int) : afun (cfg (nat_big.f n) (nat_size.f n) (nat_cut.f n) (nat_Trail.f n)) idJ cuts n code Tryd.f96.results.toList [false, false, false] [.ro .u64 l0, .int .i64 a1] sg.out = f n l0 a1 := (e0 (nat_big.f n) (nat_size.f n) (nat_cut.f n) (nat_Trail.f n) n idJ l0 a1).trans (congrFun (congrFun (congrArg (b0 (nat_big.f n) (nat_size.f n) (nat_cut.f n) (nat_Trail.f n)) (funext fun y0 => (funext fun y1 => (funext fun y2 => q31 n y0 y1 y2)))) l0) a1)
theorem ok {n : Nat} {l0 : Λ} {a1 : Int} {r : Λ × Bool × Int} (h : f n l0 a1 = some r) : CallD Tryd.prog HW 96 [.ro .u64 l0, .int .i64 a1] (sg.enc r) :=
  fun_some hwS Tryd.func96 (by kernel_rfl) (body := code) (by kernel_rfl) tys_ok (c := cfg (nat_big.f n) (nat_size.f n) (nat_cut.f n) (nat_Trail.f n)) (orCall_ok (nat_big.call_ok (n := n)) (orCall_ok (nat_size.call_ok (n := n)) (orCall_ok (nat_cut.call_ok (n := n)) (orCall_ok (nat_Trail.call_ok (n := n)) noCall_ok)))) noW_ok (by kernel_rfl) (by kernel_rfl) (Nat.le_of_ble_eq_true (by kernel_rfl)) ((eq n l0 a1).trans h)
noncomputable def call {α : Type} (g : Λ→Int→Ω (Λ × Bool × Int)) (ds : List D) (K : List D→Ω α) : Ω α := match ds with
  | [.ro .u64 l0, .int .i64 a1] => (g l0 a1).bind fun r => K (sg.enc r)
  | _ => none
theorem call_ok {α : Type} {n : Nat} (ds : List D) (K : List D→Ω α) (r : α) (h : call (f n) ds K = some r) : ∃ rs, K rs = some r ∧ CallD Tryd.prog HW 96 ds rs := by
  unfold call at h
  split at h
  · obtain ⟨x, hx, hk⟩ := Option.bind_eq_some_iff.1 h
    exact ⟨_, hk, ok (n := n) hx⟩
  · cases h
end nat_Shr
/-! ### nat_ToUint: function 98 -/
namespace nat_ToUint
noncomputable def b0 (c51 : Λ→Ω (Int)) (l0 : Λ) : Ω (Int × Bool) := ((c51 l0).bind fun t1 => (if t1 = 0 then some (0, true) else (if t1 = 1 then (if 0 < (ln l0) then some (rd l0 0, true) else none) else some (0, false))))
noncomputable def f (n : Nat) (l0 : Λ) : Ω (Int × Bool) := b0 (nat_size.f n) l0
noncomputable def sg : Sig (Int × Bool) := s2 (sInt .u64) (s1 (sBool))
noncomputable def code : Code := (Tryd.f98.body).getD .skip
noncomputable def cfg (c51 : Λ→Ω (Int)) : Cfg (Int × Bool) := { T := tys, call := orCall 51 (nat_size.call c51) (noCall) }
noncomputable def cuts : List (Nat × List (Nat × Want)) := []
theorem e0 (c51 : Λ→Ω (Int)) (n : Nat) (J : Jt (Int × Bool)) (l0 : Λ) : afun (cfg c51) J cuts n code Tryd.f98.results.toList [false, false] [.ro .u64 l0] sg.out = b0 c51 l0 := by kernel_rfl
theorem eq (n : Nat) (l0 : Λ) : afun (cfg (nat_size.f n)) idJ cuts n code Tryd.f98.results.toList [false, false] [.ro .u64 l0] sg.out = f n l0 := (e0 (nat_size.f n) n idJ l0).trans (rfl)
theorem ok {n : Nat} {l0 : Λ} {r : Int × Bool} (h : f n l0 = some r) : CallD Tryd.prog HW 98 [.ro .u64 l0] (sg.enc r) :=
  fun_some hwS Tryd.func98 (by kernel_rfl) (body := code) (by kernel_rfl) tys_ok (c := cfg (nat_size.f n)) (orCall_ok (nat_size.call_ok (n := n)) noCall_ok) noW_ok (by kernel_rfl) (by kernel_rfl) (Nat.le_of_ble_eq_true (by kernel_rfl)) ((eq n l0).trans h)
noncomputable def call {α : Type} (g : Λ→Ω (Int × Bool)) (ds : List D) (K : List D→Ω α) : Ω α := match ds with
  | [.ro .u64 l0] => (g l0).bind fun r => K (sg.enc r)
  | _ => none
theorem call_ok {α : Type} {n : Nat} (ds : List D) (K : List D→Ω α) (r : α) (h : call (f n) ds K = some r) : ∃ rs, K rs = some r ∧ CallD Tryd.prog HW 98 ds rs := by
  unfold call at h
  split at h
  · obtain ⟨x, hx, hk⟩ := Option.bind_eq_some_iff.1 h
    exact ⟨_, hk, ok (n := n) hx⟩
  · cases h
end nat_ToUint
/-! ### nat_Bit: function 99 -/
namespace nat_Bit
noncomputable def b0 (l0 : Λ) (a1 : Int) : Ω (Int) := (if a1 < 0 then some 0 else (if (wrap64 (Int.tdiv a1 64)) ≥ (ln l0) then some 0 else (if 0 ≤ (wrap64 (Int.tdiv a1 64)) then (if (wrap64 (Int.tdiv a1 64)) < (ln l0) then (if 0 ≤ (IntKind.u64.wrap (Int.tmod a1 64)) then some (wrap64 (Go.bits .and .u64 (shr .u64 (rd l0 (wrap64 (Int.tdiv a1 64))) (IntKind.u64.wrap (Int.tmod a1 64))) 1)) else none) else none) else none)))
noncomputable def f (l0 : Λ) (a1 : Int) : Ω (Int) := b0 l0 a1
noncomputable def sg : Sig (Int) := s1 (sInt .i64)
noncomputable def code : Code := (Tryd.f99.body).getD .skip
noncomputable def cfg : Cfg (Int) := { T := tys, call := noCall }
noncomputable def cuts : List (Nat × List (Nat × Want)) := []
theorem e0 (n : Nat) (J : Jt (Int)) (l0 : Λ) (a1 : Int) : afun cfg J cuts n code Tryd.f99.results.toList [false] [.ro .u64 l0, .int .i64 a1] sg.out = b0 l0 a1 := by kernel_rfl
theorem eq (n : Nat) (l0 : Λ) (a1 : Int) : afun cfg idJ cuts n code Tryd.f99.results.toList [false] [.ro .u64 l0, .int .i64 a1] sg.out = f l0 a1 := (e0 n idJ l0 a1).trans (rfl)
theorem ok {n : Nat} {l0 : Λ} {a1 : Int} {r : Int} (h : f l0 a1 = some r) : CallD Tryd.prog HW 99 [.ro .u64 l0, .int .i64 a1] (sg.enc r) :=
  fun_some hwS Tryd.func99 (by kernel_rfl) (body := code) (by kernel_rfl) tys_ok (c := cfg) noCall_ok noW_ok (by kernel_rfl) (by kernel_rfl) (Nat.le_of_ble_eq_true (by kernel_rfl)) ((eq n l0 a1).trans h)
noncomputable def call {α : Type} (g : Λ→Int→Ω (Int)) (ds : List D) (K : List D→Ω α) : Ω α := match ds with
  | [.ro .u64 l0, .int .i64 a1] => (g l0 a1).bind fun r => K (sg.enc r)
  | _ => none
theorem call_ok {α : Type} {n : Nat} (ds : List D) (K : List D→Ω α) (r : α) (h : call f ds K = some r) : ∃ rs, K rs = some r ∧ CallD Tryd.prog HW 99 ds rs := by
  unfold call at h
  split at h
  · obtain ⟨x, hx, hk⟩ := Option.bind_eq_some_iff.1 h
    exact ⟨_, hk, ok (n := n) hx⟩
  · cases h
end nat_Bit
/-! ### ieee_magnitude: function 89 -/
namespace ieee_magnitude
noncomputable def b0 (c84 : Λ→Ω (Int)) (c85 : Λ→Ω (Int)) (c96 : Λ→Int→Ω (Λ × Bool × Int)) (c98 : Λ→Ω (Int × Bool)) (c99 : Λ→Int→Ω (Int)) (k255 : Int→Int→Ω (Int)) (l0 : Λ) (a1 : Int) (a2 : Bool) : Ω (Int) := ((c84 l0).bind fun t1 => (if (ln l0) = 0 then some 0 else (if (wrap64 (t1 + a1)) < (-1074) then some 0 else (if (wrap64 (t1 + a1)) > 1024 then some 9218868437227405312 else (if (wrap64 ((mx (wrap64 ((wrap64 (t1 + a1)) - 53)) (-1074)) - a1)) ≤ 0 then (if 0 < (ln l0) then (if 0 ≤ (IntKind.u64.wrap (wrap64 (-(wrap64 ((mx (wrap64 ((wrap64 (t1 + a1)) - 53)) (-1074)) - a1))))) then k255 (mx (wrap64 ((wrap64 (t1 + a1)) - 53)) (-1074)) (shl .u64 (rd l0 0) (IntKind.u64.wrap (wrap64 (-(wrap64 ((mx (wrap64 ((wrap64 (t1 + a1)) - 53)) (-1074)) - a1)))))) else none) else none) else ((c96 l0 (wrap64 ((mx (wrap64 ((wrap64 (t1 + a1)) - 53)) (-1074)) - a1))).bind fun t2 => ((c98 t2.1).bind fun t3 => ((c99 l0 (wrap64 ((wrap64 ((mx (wrap64 ((wrap64 (t1 + a1)) - 53)) (-1074)) - a1)) - 1))).bind fun t4 => (if t4 = 1 then (if a2 = true then k255 (mx (wrap64 ((wrap64 (t1 + a1)) - 53)) (-1074)) (IntKind.u64.wrap (t3.1 + 1)) else (if (Go.bits .and .u64 t3.1 1) = 1 then k255 (mx (wrap64 ((wrap64 (t1 + a1)) - 53)) (-1074)) (IntKind.u64.wrap (t3.1 + 1)) else ((c85 l0).bind fun t5 => (if t5 < (wrap64 ((wrap64 ((mx (wrap64 ((wrap64 (t1 + a1)) - 53)) (-1074)) - a1)) - 1)) then k255 (mx (wrap64 ((wrap64 (t1 + a1)) - 53)) (-1074)) (IntKind.u64.wrap (t3.1 + 1)) else k255 (mx (wrap64 ((wrap64 (t1 + a1)) - 53)) (-1074)) t3.1)))) else k255 (mx (wrap64 ((wrap64 (t1 + a1)) - 53)) (-1074)) t3.1)))))))))
noncomputable def b255 (c84 : Λ→Ω (Int)) (c85 : Λ→Ω (Int)) (c96 : Λ→Int→Ω (Λ × Bool × Int)) (c98 : Λ→Ω (Int × Bool)) (c99 : Λ→Int→Ω (Int)) (x0 x1 : Int) : Ω (Int) := some (IntKind.u64.wrap ((IntKind.u64.wrap ((IntKind.u64.wrap (wrap64 (x0 - (-1074)))) * 4503599627370496)) + x1))
noncomputable def l255 (n : Nat) (x0 x1 : Int) : Ω (Int) := b255 (nat_BitLen.f n) (nat_Trail.f n) (nat_Shr.f n) (nat_ToUint.f n) nat_Bit.f x0 x1
noncomputable def f (n : Nat) (l0 : Λ) (a1 : Int) (a2 : Bool) : Ω (Int) := b0 (nat_BitLen.f n) (nat_Trail.f n) (nat_Shr.f n) (nat_ToUint.f n) nat_Bit.f (l255 n) l0 a1 a2
noncomputable def sg : Sig (Int) := s1 (sInt .u64)
noncomputable def code : Code := (Tryd.f89.body).getD .skip
noncomputable def cfg (c84 : Λ→Ω (Int)) (c85 : Λ→Ω (Int)) (c96 : Λ→Int→Ω (Λ × Bool × Int)) (c98 : Λ→Ω (Int × Bool)) (c99 : Λ→Int→Ω (Int)) : Cfg (Int) := { T := tys, call := orCall 84 (nat_BitLen.call c84) (orCall 85 (nat_Trail.call c85) (orCall 96 (nat_Shr.call c96) (orCall 98 (nat_ToUint.call c98) (orCall 99 (nat_Bit.call c99) (noCall))))) }
noncomputable def cuts : List (Nat × List (Nat × Want)) := [(255, [(8, .keep), (10, .keep)])]
noncomputable def s255 (x0 x1 : Int) : ASt := ⟨[(8, .int .i64 x0), (10, .int .u64 x1)], []⟩
noncomputable def A (c84 : Λ→Ω (Int)) (c85 : Λ→Ω (Int)) (c96 : Λ→Int→Ω (Λ × Bool × Int)) (c98 : Λ→Ω (Int × Bool)) (c99 : Λ→Int→Ω (Int)) (n : Nat) (J : Jt (Int)) (q : Nat) (ms : List Nat) : ASt→Ω (Int) := acont (cfg c84 c85 c96 c98 c99) J cuts n q code 1 ms (aend (cfg c84 c85 c96 c98 c99) Tryd.f89.results.toList [false] sg.out)
theorem e0 (c84 : Λ→Ω (Int)) (c85 : Λ→Ω (Int)) (c96 : Λ→Int→Ω (Λ × Bool × Int)) (c98 : Λ→Ω (Int × Bool)) (c99 : Λ→Int→Ω (Int)) (n : Nat) (J : Jt (Int)) (l0 : Λ) (a1 : Int) (a2 : Bool) : afun (cfg c84 c85 c96 c98 c99) J cuts n code Tryd.f89.results.toList [false] [.ro .u64 l0, .int .i64 a1, .bool a2] sg.out = b0 c84 c85 c96 c98 c99 (fun y0 y1 => J 255 (A c84 c85 c96 c98 c99 n J 255 []) (s255 y0 y1)) l0 a1 a2 := by kernel_rfl
theorem e255 (c84 : Λ→Ω (Int)) (c85 : Λ→Ω (Int)) (c96 : Λ→Int→Ω (Λ × Bool × Int)) (c98 : Λ→Ω (Int × Bool)) (c99 : Λ→Int→Ω (Int)) (n : Nat) (J : Jt (Int)) (x0 x1 : Int) : A c84 c85 c96 c98 c99 n J 255 [] (s255 x0 x1) = b255 c84 c85 c96 c98 c99 x0 x1 := by kernel_rfl
theorem q255 (n : Nat) (x0 x1 : Int) : A (nat_BitLen.f n) (nat_Trail.f n) (nat_Shr.f n) (nat_ToUint.f n) nat_Bit.f n idJ 255 [] (s255 x0 x1) = l255 n x0 x1 := (e255 (nat_BitLen.f n) (nat_Trail.f n) (nat_Shr.f n) (nat_ToUint.f n) nat_Bit.f n idJ x0 x1).trans (rfl)
theorem eq (n : Nat) (l0 : Λ) (a1 : Int) (a2 : Bool) : afun (cfg (nat_BitLen.f n) (nat_Trail.f n) (nat_Shr.f n) (nat_ToUint.f n) nat_Bit.f) idJ cuts n code Tryd.f89.results.toList [false] [.ro .u64 l0, .int .i64 a1, .bool a2] sg.out = f n l0 a1 a2 := (e0 (nat_BitLen.f n) (nat_Trail.f n) (nat_Shr.f n) (nat_ToUint.f n) nat_Bit.f n idJ l0 a1 a2).trans (congrFun (congrFun (congrFun (congrArg (b0 (nat_BitLen.f n) (nat_Trail.f n) (nat_Shr.f n) (nat_ToUint.f n) nat_Bit.f) (funext fun y0 => (funext fun y1 => q255 n y0 y1))) l0) a1) a2)
theorem ok {n : Nat} {l0 : Λ} {a1 : Int} {a2 : Bool} {r : Int} (h : f n l0 a1 a2 = some r) : CallD Tryd.prog HW 89 [.ro .u64 l0, .int .i64 a1, .bool a2] (sg.enc r) :=
  fun_some hwS Tryd.func89 (by kernel_rfl) (body := code) (by kernel_rfl) tys_ok (c := cfg (nat_BitLen.f n) (nat_Trail.f n) (nat_Shr.f n) (nat_ToUint.f n) nat_Bit.f) (orCall_ok (nat_BitLen.call_ok (n := n)) (orCall_ok (nat_Trail.call_ok (n := n)) (orCall_ok (nat_Shr.call_ok (n := n)) (orCall_ok (nat_ToUint.call_ok (n := n)) (orCall_ok (nat_Bit.call_ok (n := n)) noCall_ok))))) noW_ok (by kernel_rfl) (by kernel_rfl) (Nat.le_of_ble_eq_true (by kernel_rfl)) ((eq n l0 a1 a2).trans h)
noncomputable def call {α : Type} (g : Λ→Int→Bool→Ω (Int)) (ds : List D) (K : List D→Ω α) : Ω α := match ds with
  | [.ro .u64 l0, .int .i64 a1, .bool a2] => (g l0 a1 a2).bind fun r => K (sg.enc r)
  | _ => none
theorem call_ok {α : Type} {n : Nat} (ds : List D) (K : List D→Ω α) (r : α) (h : call (f n) ds K = some r) : ∃ rs, K rs = some r ∧ CallD Tryd.prog HW 89 ds rs := by
  unfold call at h
  split at h
  · obtain ⟨x, hx, hk⟩ := Option.bind_eq_some_iff.1 h
    exact ⟨_, hk, ok (n := n) hx⟩
  · cases h
end ieee_magnitude
/-! ### ieee_Neg: function 79 -/
namespace ieee_Neg
noncomputable def b0 (a0 : Int) : Ω (Int) := some (Go.bits .xor .u64 a0 9223372036854775808)
noncomputable def f (a0 : Int) : Ω (Int) := b0 a0
noncomputable def sg : Sig (Int) := s1 (sInt .u64)
noncomputable def code : Code := (Tryd.f79.body).getD .skip
noncomputable def cfg : Cfg (Int) := { T := tys, call := noCall }
noncomputable def cuts : List (Nat × List (Nat × Want)) := []
theorem e0 (n : Nat) (J : Jt (Int)) (a0 : Int) : afun cfg J cuts n code Tryd.f79.results.toList [false] [.int .u64 a0] sg.out = b0 a0 := by kernel_rfl
theorem eq (n : Nat) (a0 : Int) : afun cfg idJ cuts n code Tryd.f79.results.toList [false] [.int .u64 a0] sg.out = f a0 := (e0 n idJ a0).trans (rfl)
theorem ok {n : Nat} {a0 : Int} {r : Int} (h : f a0 = some r) : CallD Tryd.prog HW 79 [.int .u64 a0] (sg.enc r) :=
  fun_some hwS Tryd.func79 (by kernel_rfl) (body := code) (by kernel_rfl) tys_ok (c := cfg) noCall_ok noW_ok (by kernel_rfl) (by kernel_rfl) (Nat.le_of_ble_eq_true (by kernel_rfl)) ((eq n a0).trans h)
noncomputable def call {α : Type} (g : Int→Ω (Int)) (ds : List D) (K : List D→Ω α) : Ω α := match ds with
  | [.int .u64 a0] => (g a0).bind fun r => K (sg.enc r)
  | _ => none
theorem call_ok {α : Type} {n : Nat} (ds : List D) (K : List D→Ω α) (r : α) (h : call f ds K = some r) : ∃ rs, K rs = some r ∧ CallD Tryd.prog HW 79 ds rs := by
  unfold call at h
  split at h
  · obtain ⟨x, hx, hk⟩ := Option.bind_eq_some_iff.1 h
    exact ⟨_, hk, ok (n := n) hx⟩
  · cases h
end ieee_Neg
/-! ### ieee_Round: function 68 -/
namespace ieee_Round
noncomputable def b0 (c59 : Λ→Int→Ω (Λ × Int)) (c79 : Int→Ω (Int)) (c89 : Λ→Int→Bool→Ω (Int)) (c90 : Int→Ω (Int)) (a0 : Bool) (l1 : Λ) (a2 : Int) (a3 : Bool) : Ω (Int × Int) := ((c59 l1 0).bind fun t1 => (if ¬ t1.2 = 0 then some (0, t1.2) else ((c90 a2).bind fun t2 => ((c89 t1.1 t2 a3).bind fun t3 => (if a0 = true then ((c79 t3).bind fun t4 => some (t4, 0)) else some (t3, 0))))))
noncomputable def f (n : Nat) (a0 : Bool) (l1 : Λ) (a2 : Int) (a3 : Bool) : Ω (Int × Int) := b0 (nat_Shl.f n) ieee_Neg.f (ieee_magnitude.f n) ieee_near.f a0 l1 a2 a3
noncomputable def sg : Sig (Int × Int) := s2 (sInt .u64) (s1 (sInt .i64))
noncomputable def code : Code := (Tryd.f68.body).getD .skip
noncomputable def cfg (c59 : Λ→Int→Ω (Λ × Int)) (c79 : Int→Ω (Int)) (c89 : Λ→Int→Bool→Ω (Int)) (c90 : Int→Ω (Int)) : Cfg (Int × Int) := { T := tys, call := orCall 59 (nat_Shl.call c59) (orCall 79 (ieee_Neg.call c79) (orCall 89 (ieee_magnitude.call c89) (orCall 90 (ieee_near.call c90) (noCall)))) }
noncomputable def cuts : List (Nat × List (Nat × Want)) := []
theorem e0 (c59 : Λ→Int→Ω (Λ × Int)) (c79 : Int→Ω (Int)) (c89 : Λ→Int→Bool→Ω (Int)) (c90 : Int→Ω (Int)) (n : Nat) (J : Jt (Int × Int)) (a0 : Bool) (l1 : Λ) (a2 : Int) (a3 : Bool) : afun (cfg c59 c79 c89 c90) J cuts n code Tryd.f68.results.toList [false, false] [.bool a0, .ro .u64 l1, .int .i64 a2, .bool a3] sg.out = b0 c59 c79 c89 c90 a0 l1 a2 a3 := by kernel_rfl
theorem eq (n : Nat) (a0 : Bool) (l1 : Λ) (a2 : Int) (a3 : Bool) : afun (cfg (nat_Shl.f n) ieee_Neg.f (ieee_magnitude.f n) ieee_near.f) idJ cuts n code Tryd.f68.results.toList [false, false] [.bool a0, .ro .u64 l1, .int .i64 a2, .bool a3] sg.out = f n a0 l1 a2 a3 := (e0 (nat_Shl.f n) ieee_Neg.f (ieee_magnitude.f n) ieee_near.f n idJ a0 l1 a2 a3).trans (rfl)
theorem ok {n : Nat} {a0 : Bool} {l1 : Λ} {a2 : Int} {a3 : Bool} {r : Int × Int} (h : f n a0 l1 a2 a3 = some r) : CallD Tryd.prog HW 68 [.bool a0, .ro .u64 l1, .int .i64 a2, .bool a3] (sg.enc r) :=
  fun_some hwS Tryd.func68 (by kernel_rfl) (body := code) (by kernel_rfl) tys_ok (c := cfg (nat_Shl.f n) ieee_Neg.f (ieee_magnitude.f n) ieee_near.f) (orCall_ok (nat_Shl.call_ok (n := n)) (orCall_ok (ieee_Neg.call_ok (n := n)) (orCall_ok (ieee_magnitude.call_ok (n := n)) (orCall_ok (ieee_near.call_ok (n := n)) noCall_ok)))) noW_ok (by kernel_rfl) (by kernel_rfl) (Nat.le_of_ble_eq_true (by kernel_rfl)) ((eq n a0 l1 a2 a3).trans h)
noncomputable def call {α : Type} (g : Bool→Λ→Int→Bool→Ω (Int × Int)) (ds : List D) (K : List D→Ω α) : Ω α := match ds with
  | [.bool a0, .ro .u64 l1, .int .i64 a2, .bool a3] => (g a0 l1 a2 a3).bind fun r => K (sg.enc r)
  | _ => none
theorem call_ok {α : Type} {n : Nat} (ds : List D) (K : List D→Ω α) (r : α) (h : call (f n) ds K = some r) : ∃ rs, K rs = some r ∧ CallD Tryd.prog HW 68 ds rs := by
  unfold call at h
  split at h
  · obtain ⟨x, hx, hk⟩ := Option.bind_eq_some_iff.1 h
    exact ⟨_, hk, ok (n := n) hx⟩
  · cases h
end ieee_Round
/-! ### ieee_FromUint: function 87 -/
namespace ieee_FromUint
noncomputable def b0 (c58 : Int→Ω (Λ)) (c68 : Bool→Λ→Int→Bool→Ω (Int × Int)) (a0 : Int) : Ω (Int) := ((c58 a0).bind fun t1 => ((c68 false t1 0 false).bind fun t2 => some t2.1))
noncomputable def f (n : Nat) (a0 : Int) : Ω (Int) := b0 nat_FromUint.f (ieee_Round.f n) a0
noncomputable def sg : Sig (Int) := s1 (sInt .u64)
noncomputable def code : Code := (Tryd.f87.body).getD .skip
noncomputable def cfg (c58 : Int→Ω (Λ)) (c68 : Bool→Λ→Int→Bool→Ω (Int × Int)) : Cfg (Int) := { T := tys, call := orCall 58 (nat_FromUint.call c58) (orCall 68 (ieee_Round.call c68) (noCall)) }
noncomputable def cuts : List (Nat × List (Nat × Want)) := []
theorem e0 (c58 : Int→Ω (Λ)) (c68 : Bool→Λ→Int→Bool→Ω (Int × Int)) (n : Nat) (J : Jt (Int)) (a0 : Int) : afun (cfg c58 c68) J cuts n code Tryd.f87.results.toList [false] [.int .u64 a0] sg.out = b0 c58 c68 a0 := by kernel_rfl
theorem eq (n : Nat) (a0 : Int) : afun (cfg nat_FromUint.f (ieee_Round.f n)) idJ cuts n code Tryd.f87.results.toList [false] [.int .u64 a0] sg.out = f n a0 := (e0 nat_FromUint.f (ieee_Round.f n) n idJ a0).trans (rfl)
theorem ok {n : Nat} {a0 : Int} {r : Int} (h : f n a0 = some r) : CallD Tryd.prog HW 87 [.int .u64 a0] (sg.enc r) :=
  fun_some hwS Tryd.func87 (by kernel_rfl) (body := code) (by kernel_rfl) tys_ok (c := cfg nat_FromUint.f (ieee_Round.f n)) (orCall_ok (nat_FromUint.call_ok (n := n)) (orCall_ok (ieee_Round.call_ok (n := n)) noCall_ok)) noW_ok (by kernel_rfl) (by kernel_rfl) (Nat.le_of_ble_eq_true (by kernel_rfl)) ((eq n a0).trans h)
noncomputable def call {α : Type} (g : Int→Ω (Int)) (ds : List D) (K : List D→Ω α) : Ω α := match ds with
  | [.int .u64 a0] => (g a0).bind fun r => K (sg.enc r)
  | _ => none
theorem call_ok {α : Type} {n : Nat} (ds : List D) (K : List D→Ω α) (r : α) (h : call (f n) ds K = some r) : ∃ rs, K rs = some r ∧ CallD Tryd.prog HW 87 ds rs := by
  unfold call at h
  split at h
  · obtain ⟨x, hx, hk⟩ := Option.bind_eq_some_iff.1 h
    exact ⟨_, hk, ok (n := n) hx⟩
  · cases h
end ieee_FromUint
/-! ### remain_signed: function 41 -/
namespace remain_signed
noncomputable def b0 (a0 : Bool) (a1 : Int) : Ω (Int) := (if a0 = true then some (Go.bits .or .u64 a1 9223372036854775808) else some (Go.bits .andNot .u64 a1 9223372036854775808))
noncomputable def f (a0 : Bool) (a1 : Int) : Ω (Int) := b0 a0 a1
noncomputable def sg : Sig (Int) := s1 (sInt .u64)
noncomputable def code : Code := (Tryd.f41.body).getD .skip
noncomputable def cfg : Cfg (Int) := { T := tys, call := noCall }
noncomputable def cuts : List (Nat × List (Nat × Want)) := []
theorem e0 (n : Nat) (J : Jt (Int)) (a0 : Bool) (a1 : Int) : afun cfg J cuts n code Tryd.f41.results.toList [false] [.bool a0, .int .u64 a1] sg.out = b0 a0 a1 := by kernel_rfl
theorem eq (n : Nat) (a0 : Bool) (a1 : Int) : afun cfg idJ cuts n code Tryd.f41.results.toList [false] [.bool a0, .int .u64 a1] sg.out = f a0 a1 := (e0 n idJ a0 a1).trans (rfl)
theorem ok {n : Nat} {a0 : Bool} {a1 : Int} {r : Int} (h : f a0 a1 = some r) : CallD Tryd.prog HW 41 [.bool a0, .int .u64 a1] (sg.enc r) :=
  fun_some hwS Tryd.func41 (by kernel_rfl) (body := code) (by kernel_rfl) tys_ok (c := cfg) noCall_ok noW_ok (by kernel_rfl) (by kernel_rfl) (Nat.le_of_ble_eq_true (by kernel_rfl)) ((eq n a0 a1).trans h)
noncomputable def call {α : Type} (g : Bool→Int→Ω (Int)) (ds : List D) (K : List D→Ω α) : Ω α := match ds with
  | [.bool a0, .int .u64 a1] => (g a0 a1).bind fun r => K (sg.enc r)
  | _ => none
theorem call_ok {α : Type} {n : Nat} (ds : List D) (K : List D→Ω α) (r : α) (h : call f ds K = some r) : ∃ rs, K rs = some r ∧ CallD Tryd.prog HW 41 ds rs := by
  unfold call at h
  split at h
  · obtain ⟨x, hx, hk⟩ := Option.bind_eq_some_iff.1 h
    exact ⟨_, hk, ok (n := n) hx⟩
  · cases h
end remain_signed
/-! ### remain_round_64: function 63 -/
namespace remain_round_64
noncomputable def b0 (c20 : Int→Ω (Bool × Int × Int × Int)) (c41 : Bool→Int→Ω (Int)) (c64 : Bool→Int→Int→Ω (Bool)) (c87 : Int→Ω (Int)) (k255 : Int→Int→Bool→Int→Int→Int→Ω (Int)) (a0 : Int) : Ω (Int) := ((c20 a0).bind fun t1 => (if t1.2.1 = 4 then some 9221120237041090560 else (if t1.2.1 = 3 then some a0 else (if t1.2.1 = 0 then some a0 else (if t1.2.2.2 ≥ 0 then some a0 else (if (wrap64 (-t1.2.2.2)) ≤ 63 then (if 0 ≤ (wrap64 (-t1.2.2.2)) then (if 0 ≤ (wrap64 (-t1.2.2.2)) then (if 0 ≤ (wrap64 ((wrap64 (-t1.2.2.2)) - 1)) then (if (Go.bits .and .u64 t1.2.2.1 (IntKind.u64.wrap ((shl .u64 1 (wrap64 (-t1.2.2.2))) - 1))) = 0 then k255 (shr .u64 t1.2.2.1 (wrap64 (-t1.2.2.2))) 0 t1.1 t1.2.1 t1.2.2.1 t1.2.2.2 else (if (Go.bits .and .u64 t1.2.2.1 (IntKind.u64.wrap ((shl .u64 1 (wrap64 (-t1.2.2.2))) - 1))) = (shl .u64 1 (wrap64 ((wrap64 (-t1.2.2.2)) - 1))) then k255 (shr .u64 t1.2.2.1 (wrap64 (-t1.2.2.2))) 2 t1.1 t1.2.1 t1.2.2.1 t1.2.2.2 else (if (Go.bits .and .u64 t1.2.2.1 (IntKind.u64.wrap ((shl .u64 1 (wrap64 (-t1.2.2.2))) - 1))) > (shl .u64 1 (wrap64 ((wrap64 (-t1.2.2.2)) - 1))) then k255 (shr .u64 t1.2.2.1 (wrap64 (-t1.2.2.2))) 3 t1.1 t1.2.1 t1.2.2.1 t1.2.2.2 else k255 (shr .u64 t1.2.2.1 (wrap64 (-t1.2.2.2))) 1 t1.1 t1.2.1 t1.2.2.1 t1.2.2.2))) else none) else none) else none) else k255 0 1 t1.1 t1.2.1 t1.2.2.1 t1.2.2.2))))))
noncomputable def b255 (c20 : Int→Ω (Bool × Int × Int × Int)) (c41 : Bool→Int→Ω (Int)) (c64 : Bool→Int→Int→Ω (Bool)) (c87 : Int→Ω (Int)) (k511 : Int→Bool→Int→Int→Int→Ω (Int)) (x0 x1 : Int) (x2 : Bool) (x3 x4 x5 : Int) : Ω (Int) := (if ¬ x1 = 0 then ((c64 x2 x0 x1).bind fun t1 => (if t1 = true then k511 (IntKind.u64.wrap (x0 + 1)) x2 x3 x4 x5 else k511 x0 x2 x3 x4 x5)) else k511 x0 x2 x3 x4 x5)
noncomputable def b511 (c20 : Int→Ω (Bool × Int × Int × Int)) (c41 : Bool→Int→Ω (Int)) (c64 : Bool→Int→Int→Ω (Bool)) (c87 : Int→Ω (Int)) (x0 : Int) (x1 : Bool) (x2 x3 x4 : Int) : Ω (Int) := ((c87 x0).bind fun t1 => ((c41 x1 t1).bind fun t2 => some t2))
noncomputable def l511 (n : Nat) (x0 : Int) (x1 : Bool) (x2 x3 x4 : Int) : Ω (Int) := b511 ieee_Decode.f remain_signed.f remain_Trunc_1.f (ieee_FromUint.f n) x0 x1 x2 x3 x4
noncomputable def l255 (n : Nat) (x0 x1 : Int) (x2 : Bool) (x3 x4 x5 : Int) : Ω (Int) := b255 ieee_Decode.f remain_signed.f remain_Trunc_1.f (ieee_FromUint.f n) (l511 n) x0 x1 x2 x3 x4 x5
noncomputable def f (n : Nat) (a0 : Int) : Ω (Int) := b0 ieee_Decode.f remain_signed.f remain_Trunc_1.f (ieee_FromUint.f n) (l255 n) a0
noncomputable def sg : Sig (Int) := s1 (sInt .u64)
noncomputable def code : Code := (Tryd.f63.body).getD .skip
noncomputable def cfg (c20 : Int→Ω (Bool × Int × Int × Int)) (c41 : Bool→Int→Ω (Int)) (c64 : Bool→Int→Int→Ω (Bool)) (c87 : Int→Ω (Int)) : Cfg (Int) := { T := tys, call := orCall 20 (ieee_Decode.call c20) (orCall 41 (remain_signed.call c41) (orCall 64 (remain_Trunc_1.call c64) (orCall 87 (ieee_FromUint.call c87) (noCall)))) }
noncomputable def cuts : List (Nat × List (Nat × Want)) := [(255, [(1, .keep), (5, .keep), (7, .keep), (8, .keep)]), (511, [(5, .keep), (7, .keep)])]
noncomputable def s255 (x0 x1 : Int) (x2 : Bool) (x3 x4 x5 : Int) : ASt := ⟨[(1, .fn 64), (5, .ptr 0 0), (7, .int .u64 x0), (8, .int .i64 x1)], [.cells 46 [.bool x2, .int .i64 x3, .int .u64 x4, .int .i64 x5]]⟩
noncomputable def s511 (x0 : Int) (x1 : Bool) (x2 x3 x4 : Int) : ASt := ⟨[(5, .ptr 0 0), (7, .int .u64 x0)], [.cells 46 [.bool x1, .int .i64 x2, .int .u64 x3, .int .i64 x4]]⟩
noncomputable def A (c20 : Int→Ω (Bool × Int × Int × Int)) (c41 : Bool→Int→Ω (Int)) (c64 : Bool→Int→Int→Ω (Bool)) (c87 : Int→Ω (Int)) (n : Nat) (J : Jt (Int)) (q : Nat) (ms : List Nat) : ASt→Ω (Int) := acont (cfg c20 c41 c64 c87) J cuts n q code 1 ms (aend (cfg c20 c41 c64 c87) Tryd.f63.results.toList [false] sg.out)
theorem e0 (c20 : Int→Ω (Bool × Int × Int × Int)) (c41 : Bool→Int→Ω (Int)) (c64 : Bool→Int→Int→Ω (Bool)) (c87 : Int→Ω (Int)) (n : Nat) (J : Jt (Int)) (a0 : Int) : afun (cfg c20 c41 c64 c87) J cuts n code Tryd.f63.results.toList [false] [.int .u64 a0, .fn 64] sg.out = b0 c20 c41 c64 c87 (fun y0 y1 y2 y3 y4 y5 => J 255 (A c20 c41 c64 c87 n J 255 []) (s255 y0 y1 y2 y3 y4 y5)) a0 := by kernel_rfl
theorem e255 (c20 : Int→Ω (Bool × Int × Int × Int)) (c41 : Bool→Int→Ω (Int)) (c64 : Bool→Int→Int→Ω (Bool)) (c87 : Int→Ω (Int)) (n : Nat) (J : Jt (Int)) (x0 x1 : Int) (x2 : Bool) (x3 x4 x5 : Int) : A c20 c41 c64 c87 n J 255 [] (s255 x0 x1 x2 x3 x4 x5) = b255 c20 c41 c64 c87 (fun y0 y1 y2 y3 y4 => J 511 (A c20 c41 c64 c87 n J 511 []) (s511 y0 y1 y2 y3 y4)) x0 x1 x2 x3 x4 x5 := by kernel_rfl
theorem e511 (c20 : Int→Ω (Bool × Int × Int × Int)) (c41 : Bool→Int→Ω (Int)) (c64 : Bool→Int→Int→Ω (Bool)) (c87 : Int→Ω (Int)) (n : Nat) (J : Jt (Int)) (x0 : Int) (x1 : Bool) (x2 x3 x4 : Int) : A c20 c41 c64 c87 n J 511 [] (s511 x0 x1 x2 x3 x4) = b511 c20 c41 c64 c87 x0 x1 x2 x3 x4 := by kernel_rfl
theorem q511 (n : Nat) (x0 : Int) (x1 : Bool) (x2 x3 x4 : Int) : A ieee_Decode.f remain_signed.f remain_Trunc_1.f (ieee_FromUint.f n) n idJ 511 [] (s511 x0 x1 x2 x3 x4) = l511 n x0 x1 x2 x3 x4 := (e511 ieee_Decode.f remain_signed.f remain_Trunc_1.f (ieee_FromUint.f n) n idJ x0 x1 x2 x3 x4).trans (rfl)
theorem q255 (n : Nat) (x0 x1 : Int) (x2 : Bool) (x3 x4 x5 : Int) : A ieee_Decode.f remain_signed.f remain_Trunc_1.f (ieee_FromUint.f n) n idJ 255 [] (s255 x0 x1 x2 x3 x4 x5) = l255 n x0 x1 x2 x3 x4 x5 := (e255 ieee_Decode.f remain_signed.f remain_Trunc_1.f (ieee_FromUint.f n) n idJ x0 x1 x2 x3 x4 x5).trans (congrFun (congrFun (congrFun (congrFun (congrFun (congrFun (congrArg (b255 ieee_Decode.f remain_signed.f remain_Trunc_1.f (ieee_FromUint.f n)) (funext fun y0 => (funext fun y1 => (funext fun y2 => (funext fun y3 => (funext fun y4 => q511 n y0 y1 y2 y3 y4)))))) x0) x1) x2) x3) x4) x5)
theorem eq (n : Nat) (a0 : Int) : afun (cfg ieee_Decode.f remain_signed.f remain_Trunc_1.f (ieee_FromUint.f n)) idJ cuts n code Tryd.f63.results.toList [false] [.int .u64 a0, .fn 64] sg.out = f n a0 := (e0 ieee_Decode.f remain_signed.f remain_Trunc_1.f (ieee_FromUint.f n) n idJ a0).trans (congrFun (congrArg (b0 ieee_Decode.f remain_signed.f remain_Trunc_1.f (ieee_FromUint.f n)) (funext fun y0 => (funext fun y1 => (funext fun y2 => (funext fun y3 => (funext fun y4 => (funext fun y5 => q255 n y0 y1 y2 y3 y4 y5))))))) a0)
theorem ok {n : Nat} {a0 : Int} {r : Int} (h : f n a0 = some r) : CallD Tryd.prog HW 63 [.int .u64 a0, .fn 64] (sg.enc r) :=
  fun_some hwS Tryd.func63 (by kernel_rfl) (body := code) (by kernel_rfl) tys_ok (c := cfg ieee_Decode.f remain_signed.f remain_Trunc_1.f (ieee_FromUint.f n)) (orCall_ok (ieee_Decode.call_ok (n := n)) (orCall_ok (remain_signed.call_ok (n := n)) (orCall_ok (remain_Trunc_1.call_ok (n := n)) (orCall_ok (ieee_FromUint.call_ok (n := n)) noCall_ok)))) noW_ok (by kernel_rfl) (by kernel_rfl) (Nat.le_of_ble_eq_true (by kernel_rfl)) ((eq n a0).trans h)
noncomputable def call {α : Type} (g : Int→Ω (Int)) (ds : List D) (K : List D→Ω α) : Ω α := match ds with
  | [.int .u64 a0, .fn f0] => (match Nat.beq f0 64 with
    | true => (g a0).bind fun r => K (sg.enc r)
    | false => none)
  | _ => none
theorem call_ok {α : Type} {n : Nat} (ds : List D) (K : List D→Ω α) (r : α) (h : call (f n) ds K = some r) : ∃ rs, K rs = some r ∧ CallD Tryd.prog HW 63 ds rs := by
  unfold call at h
  split at h
  · split at h
    · rename_i hq
      rw [Nat.eq_of_beq_eq_true hq]
      obtain ⟨x, hx, hk⟩ := Option.bind_eq_some_iff.1 h
      exact ⟨_, hk, ok (n := n) hx⟩
    · cases h
  · cases h
end remain_round_64
/-! ### remain_Trunc: function 34 -/
namespace remain_Trunc
noncomputable def b0 (c630064 : Int→Ω (Int)) (a0 : Int) : Ω (Int) := ((c630064 a0).bind fun t1 => some t1)
noncomputable def f (n : Nat) (a0 : Int) : Ω (Int) := b0 (remain_round_64.f n) a0
noncomputable def sg : Sig (Int) := s1 (sInt .u64)
noncomputable def code : Code := (Tryd.f34.body).getD .skip
noncomputable def cfg (c630064 : Int→Ω (Int)) : Cfg (Int) := { T := tys, call := orCall 63 (remain_round_64.call c630064) (noCall) }
noncomputable def cuts : List (Nat × List (Nat × Want)) := []
theorem e0 (c630064 : Int→Ω (Int)) (n : Nat) (J : Jt (Int)) (a0 : Int) : afun (cfg c630064) J cuts n code Tryd.f34.results.toList [false] [.int .u64 a0] sg.out = b0 c630064 a0 := by kernel_rfl
theorem eq (n : Nat) (a0 : Int) : afun (cfg (remain_round_64.f n)) idJ cuts n code Tryd.f34.results.toList [false] [.int .u64 a0] sg.out = f n a0 := (e0 (remain_round_64.f n) n idJ a0).trans (rfl)
theorem ok {n : Nat} {a0 : Int} {r : Int} (h : f n a0 = some r) : CallD Tryd.prog HW 34 [.int .u64 a0] (sg.enc r) :=
  fun_some hwS Tryd.func34 (by kernel_rfl) (body := code) (by kernel_rfl) tys_ok (c := cfg (remain_round_64.f n)) (orCall_ok (remain_round_64.call_ok (n := n)) noCall_ok) noW_ok (by kernel_rfl) (by kernel_rfl) (Nat.le_of_ble_eq_true (by kernel_rfl)) ((eq n a0).trans h)
noncomputable def call {α : Type} (g : Int→Ω (Int)) (ds : List D) (K : List D→Ω α) : Ω α := match ds with
  | [.int .u64 a0] => (g a0).bind fun r => K (sg.enc r)
  | _ => none
theorem call_ok {α : Type} {n : Nat} (ds : List D) (K : List D→Ω α) (r : α) (h : call (f n) ds K = some r) : ∃ rs, K rs = some r ∧ CallD Tryd.prog HW 34 ds rs := by
  unfold call at h
  split at h
  · obtain ⟨x, hx, hk⟩ := Option.bind_eq_some_iff.1 h
    exact ⟨_, hk, ok (n := n) hx⟩
  · cases h
end remain_Trunc
/-! ### remain_special: function 65 -/
namespace remain_special
noncomputable def b0 (a0 : Bool) (a1 a2 a3 : Int) (a4 : Bool) (a5 a6 a7 a8 : Int) : Ω (Int × Bool) := (if a1 = 4 then some (9221120237041090560, true) else (if a5 = 4 then some (9221120237041090560, true) else (if a1 = 3 then some (9221120237041090560, true) else (if a5 = 0 then some (9221120237041090560, true) else (if a5 = 3 then some (a8, true) else (if a1 = 0 then some (a8, true) else some (0, false)))))))
noncomputable def f (a0 : Bool) (a1 a2 a3 : Int) (a4 : Bool) (a5 a6 a7 a8 : Int) : Ω (Int × Bool) := b0 a0 a1 a2 a3 a4 a5 a6 a7 a8
noncomputable def sg : Sig (Int × Bool) := s2 (sInt .u64) (s1 (sBool))
noncomputable def code : Code := (Tryd.f65.body).getD .skip
noncomputable def cfg : Cfg (Int × Bool) := { T := tys, call := noCall }
noncomputable def cuts : List (Nat × List (Nat × Want)) := []
theorem e0 (n : Nat) (J : Jt (Int × Bool)) (a0 : Bool) (a1 a2 a3 : Int) (a4 : Bool) (a5 a6 a7 a8 : Int) : afun cfg J cuts n code Tryd.f65.results.toList [false, false] [.agg [.bool a0, .int .i64 a1, .int .u64 a2, .int .i64 a3], .agg [.bool a4, .int .i64 a5, .int .u64 a6, .int .i64 a7], .int .u64 a8] sg.out = b0 a0 a1 a2 a3 a4 a5 a6 a7 a8 := by kernel_rfl
theorem eq (n : Nat) (a0 : Bool) (a1 a2 a3 : Int) (a4 : Bool) (a5 a6 a7 a8 : Int) : afun cfg idJ cuts n code Tryd.f65.results.toList [false, false] [.agg [.bool a0, .int .i64 a1, .int .u64 a2, .int .i64 a3], .agg [.bool a4, .int .i64 a5, .int .u64 a6, .int .i64 a7], .int .u64 a8] sg.out = f a0 a1 a2 a3 a4 a5 a6 a7 a8 := (e0 n idJ a0 a1 a2 a3 a4 a5 a6 a7 a8).trans (rfl)
theorem ok {n : Nat} {a0 : Bool} {a1 : Int} {a2 : Int} {a3 : Int} {a4 : Bool} {a5 : Int} {a6 : Int} {a7 : Int} {a8 : Int} {r : Int × Bool} (h : f a0 a1 a2 a3 a4 a5 a6 a7 a8 = some r) : CallD Tryd.prog HW 65 [.agg [.bool a0, .int .i64 a1, .int .u64 a2, .int .i64 a3], .agg [.bool a4, .int .i64 a5, .int .u64 a6, .int .i64 a7], .int .u64 a8] (sg.enc r) :=
  fun_some hwS Tryd.func65 (by kernel_rfl) (body := code) (by kernel_rfl) tys_ok (c := cfg) noCall_ok noW_ok (by kernel_rfl) (by kernel_rfl) (Nat.le_of_ble_eq_true (by kernel_rfl)) ((eq n a0 a1 a2 a3 a4 a5 a6 a7 a8).trans h)
noncomputable def call {α : Type} (g : Bool→Int→Int→Int→Bool→Int→Int→Int→Int→Ω (Int × Bool)) (ds : List D) (K : List D→Ω α) : Ω α := match ds with
  | [.agg [.bool a0, .int .i64 a1, .int .u64 a2, .int .i64 a3], .agg [.bool a4, .int .i64 a5, .int .u64 a6, .int .i64 a7], .int .u64 a8] => (g a0 a1 a2 a3 a4 a5 a6 a7 a8).bind fun r => K (sg.enc r)
  | _ => none
theorem call_ok {α : Type} {n : Nat} (ds : List D) (K : List D→Ω α) (r : α) (h : call f ds K = some r) : ∃ rs, K rs = some r ∧ CallD Tryd.prog HW 65 ds rs := by
  unfold call at h
  split at h
  · obtain ⟨x, hx, hk⟩ := Option.bind_eq_some_iff.1 h
    exact ⟨_, hk, ok (n := n) hx⟩
  · cases h
end remain_special
/-! ### bits_LeadingZeros64: function 104 -/
namespace bits_LeadingZeros64
noncomputable def b0 (c67 : Int→Ω (Int)) (a0 : Int) : Ω (Int) := ((c67 a0).bind fun t1 => some (wrap64 (64 - t1)))
noncomputable def f (a0 : Int) : Ω (Int) := b0 bits_Len64.f a0
noncomputable def sg : Sig (Int) := s1 (sInt .i64)
noncomputable def code : Code := (Tryd.f104.body).getD .skip
noncomputable def cfg (c67 : Int→Ω (Int)) : Cfg (Int) := { T := tys, call := orCall 67 (bits_Len64.call c67) (noCall) }
noncomputable def cuts : List (Nat × List (Nat × Want)) := []
theorem e0 (c67 : Int→Ω (Int)) (n : Nat) (J : Jt (Int)) (a0 : Int) : afun (cfg c67) J cuts n code Tryd.f104.results.toList [false] [.int .u64 a0] sg.out = b0 c67 a0 := by kernel_rfl
theorem eq (n : Nat) (a0 : Int) : afun (cfg bits_Len64.f) idJ cuts n code Tryd.f104.results.toList [false] [.int .u64 a0] sg.out = f a0 := (e0 bits_Len64.f n idJ a0).trans (rfl)
theorem ok {n : Nat} {a0 : Int} {r : Int} (h : f a0 = some r) : CallD Tryd.prog HW 104 [.int .u64 a0] (sg.enc r) :=
  fun_some hwS Tryd.func104 (by kernel_rfl) (body := code) (by kernel_rfl) tys_ok (c := cfg bits_Len64.f) (orCall_ok (bits_Len64.call_ok (n := n)) noCall_ok) noW_ok (by kernel_rfl) (by kernel_rfl) (Nat.le_of_ble_eq_true (by kernel_rfl)) ((eq n a0).trans h)
noncomputable def call {α : Type} (g : Int→Ω (Int)) (ds : List D) (K : List D→Ω α) : Ω α := match ds with
  | [.int .u64 a0] => (g a0).bind fun r => K (sg.enc r)
  | _ => none
theorem call_ok {α : Type} {n : Nat} (ds : List D) (K : List D→Ω α) (r : α) (h : call f ds K = some r) : ∃ rs, K rs = some r ∧ CallD Tryd.prog HW 104 ds rs := by
  unfold call at h
  split at h
  · obtain ⟨x, hx, hk⟩ := Option.bind_eq_some_iff.1 h
    exact ⟨_, hk, ok (n := n) hx⟩
  · cases h
end bits_LeadingZeros64
/-! ### bits_Div64: function 97 -/
namespace bits_Div64
noncomputable def b0 (c104 : Int→Ω (Int)) (k262137 : Int→Int→Int→Int→Int→Int→Int→Int→Int→Ω (Int × Int)) (a0 a1 a2 : Int) : Ω (Int × Int) := (if a2 = 0 then none else (if a2 ≤ a0 then none else (if a0 = 0 then (if a2 = 0 then none else (if a2 = 0 then none else some (IntKind.u64.wrap (Int.tdiv a1 a2), Int.tmod a1 a2))) else ((c104 a2).bind fun t1 => (if 0 ≤ (IntKind.u64.wrap t1) then (if 0 ≤ (IntKind.u64.wrap t1) then (if 0 ≤ (IntKind.u64.wrap (64 - (IntKind.u64.wrap t1))) then (if 0 ≤ (IntKind.u64.wrap t1) then (if ((shl .u64 a2 (IntKind.u64.wrap t1)) / 4294967296) = 0 then none else k262137 (shl .u64 a2 (IntKind.u64.wrap t1)) (IntKind.u64.wrap t1) ((shl .u64 a2 (IntKind.u64.wrap t1)) / 4294967296) (Go.bits .and .u64 (shl .u64 a2 (IntKind.u64.wrap t1)) 4294967295) (Go.bits .or .u64 (shl .u64 a0 (IntKind.u64.wrap t1)) (shr .u64 a1 (IntKind.u64.wrap (64 - (IntKind.u64.wrap t1))))) ((shl .u64 a1 (IntKind.u64.wrap t1)) / 4294967296) (Go.bits .and .u64 (shl .u64 a1 (IntKind.u64.wrap t1)) 4294967295) (IntKind.u64.wrap (Int.tdiv (Go.bits .or .u64 (shl .u64 a0 (IntKind.u64.wrap t1)) (shr .u64 a1 (IntKind.u64.wrap (64 - (IntKind.u64.wrap t1))))) ((shl .u64 a2 (IntKind.u64.wrap t1)) / 4294967296))) (IntKind.u64.wrap ((Go.bits .or .u64 (shl .u64 a0 (IntKind.u64.wrap t1)) (shr .u64 a1 (IntKind.u64.wrap (64 - (IntKind.u64.wrap t1))))) - (IntKind.u64.wrap ((IntKind.u64.wrap (Int.tdiv (Go.bits .or .u64 (shl .u64 a0 (IntKind.u64.wrap t1)) (shr .u64 a1 (IntKind.u64.wrap (64 - (IntKind.u64.wrap t1))))) ((shl .u64 a2 (IntKind.u64.wrap t1)) / 4294967296))) * ((shl .u64 a2 (IntKind.u64.wrap t1)) / 4294967296)))))) else none) else none) else none) else none)))))
noncomputable def b65535 (c104 : Int→Ω (Int)) (k4194297 : Int→Int→Int→Int→Int→Int→Int→Int→Int→Ω (Int × Int)) (x0 x1 x2 x3 x4 x5 x6 x7 : Int) : Ω (Int × Int) := (if x2 = 0 then none else k4194297 x0 x1 x2 x3 x6 x7 (IntKind.u64.wrap ((IntKind.u64.wrap ((IntKind.u64.wrap ((IntKind.u64.wrap (x4 * 4294967296)) + x5)) - (IntKind.u64.wrap (x7 * x0)))) - (IntKind.u64.wrap ((IntKind.u64.wrap (Int.tdiv (IntKind.u64.wrap ((IntKind.u64.wrap ((IntKind.u64.wrap (x4 * 4294967296)) + x5)) - (IntKind.u64.wrap (x7 * x0)))) x2)) * x2)))) (IntKind.u64.wrap ((IntKind.u64.wrap ((IntKind.u64.wrap (x4 * 4294967296)) + x5)) - (IntKind.u64.wrap (x7 * x0)))) (IntKind.u64.wrap (Int.tdiv (IntKind.u64.wrap ((IntKind.u64.wrap ((IntKind.u64.wrap (x4 * 4294967296)) + x5)) - (IntKind.u64.wrap (x7 * x0)))) x2)))
noncomputable def b262137 (c104 : Int→Ω (Int)) (k65535 : Int→Int→Int→Int→Int→Int→Int→Int→Ω (Int × Int)) (k524273 : Int→Int→Int→Int→Int→Int→Int→Int→Int→Ω (Int × Int)) (x0 x1 x2 x3 x4 x5 x6 x7 x8 : Int) : Ω (Int × Int) := (if x7 ≥ 4294967296 then k524273 x0 x1 x2 x3 x4 x5 x6 x7 x8 else (if (IntKind.u64.wrap (x7 * x3)) > (IntKind.u64.wrap ((IntKind.u64.wrap (4294967296 * x8)) + x5)) then k524273 x0 x1 x2 x3 x4 x5 x6 x7 x8 else k65535 x0 x1 x2 x3 x4 x5 x6 x7))
noncomputable def b524273 (c104 : Int→Ω (Int)) (k65535 : Int→Int→Int→Int→Int→Int→Int→Int→Ω (Int × Int)) (k262137 : Int→Int→Int→Int→Int→Int→Int→Int→Int→Ω (Int × Int)) (x0 x1 x2 x3 x4 x5 x6 x7 x8 : Int) : Ω (Int × Int) := (if (IntKind.u64.wrap (x8 + x2)) ≥ 4294967296 then k65535 x0 x1 x2 x3 x4 x5 x6 (IntKind.u64.wrap (x7 - 1)) else k262137 x0 x1 x2 x3 x4 x5 x6 (IntKind.u64.wrap (x7 - 1)) (IntKind.u64.wrap (x8 + x2)))
noncomputable def b1048575 (c104 : Int→Ω (Int)) (x0 x1 x2 x3 x4 x5 : Int) : Ω (Int × Int) := (if 0 ≤ x1 then some (IntKind.u64.wrap ((IntKind.u64.wrap (x3 * 4294967296)) + x5), shr .u64 (IntKind.u64.wrap ((IntKind.u64.wrap ((IntKind.u64.wrap (x4 * 4294967296)) + x2)) - (IntKind.u64.wrap (x5 * x0)))) x1) else none)
noncomputable def b4194297 (c104 : Int→Ω (Int)) (k1048575 : Int→Int→Int→Int→Int→Int→Ω (Int × Int)) (k8388593 : Int→Int→Int→Int→Int→Int→Int→Int→Int→Ω (Int × Int)) (x0 x1 x2 x3 x4 x5 x6 x7 x8 : Int) : Ω (Int × Int) := (if x8 ≥ 4294967296 then k8388593 x0 x1 x2 x3 x4 x5 x6 x7 x8 else (if (IntKind.u64.wrap (x8 * x3)) > (IntKind.u64.wrap ((IntKind.u64.wrap (4294967296 * x6)) + x4)) then k8388593 x0 x1 x2 x3 x4 x5 x6 x7 x8 else k1048575 x0 x1 x4 x5 x7 x8))
noncomputable def b8388593 (c104 : Int→Ω (Int)) (k1048575 : Int→Int→Int→Int→Int→Int→Ω (Int × Int)) (k4194297 : Int→Int→Int→Int→Int→Int→Int→Int→Int→Ω (Int × Int)) (x0 x1 x2 x3 x4 x5 x6 x7 x8 : Int) : Ω (Int × Int) := (if (IntKind.u64.wrap (x6 + x2)) ≥ 4294967296 then k1048575 x0 x1 x4 x5 x7 (IntKind.u64.wrap (x8 - 1)) else k4194297 x0 x1 x2 x3 x4 x5 (IntKind.u64.wrap (x6 + x2)) x7 (IntKind.u64.wrap (x8 - 1)))
noncomputable def l1048575 (n : Nat) (x0 x1 x2 x3 x4 x5 : Int) : Ω (Int × Int) := b1048575 bits_LeadingZeros64.f x0 x1 x2 x3 x4 x5
noncomputable def l8388593 (n : Nat) (k4194297 : Int→Int→Int→Int→Int→Int→Int→Int→Int→Ω (Int × Int)) (x0 x1 x2 x3 x4 x5 x6 x7 x8 : Int) : Ω (Int × Int) := b8388593 bits_LeadingZeros64.f (l1048575 n) k4194297 x0 x1 x2 x3 x4 x5 x6 x7 x8
noncomputable def l4194297 (n : Nat) : Nat→Int→Int→Int→Int→Int→Int→Int→Int→Int→Ω (Int × Int)
  | 0, _, _, _, _, _, _, _, _, _ => none
  | m + 1, x0, x1, x2, x3, x4, x5, x6, x7, x8 => b4194297 bits_LeadingZeros64.f (l1048575 n) (l8388593 n (l4194297 n m)) x0 x1 x2 x3 x4 x5 x6 x7 x8
noncomputable def l65535 (n : Nat) (x0 x1 x2 x3 x4 x5 x6 x7 : Int) : Ω (Int × Int) := b65535 bits_LeadingZeros64.f (l4194297 n n) x0 x1 x2 x3 x4 x5 x6 x7
noncomputable def l524273 (n : Nat) (k262137 : Int→Int→Int→Int→Int→Int→Int→Int→Int→Ω (Int × Int)) (x0 x1 x2 x3 x4 x5 x6 x7 x8 : Int) : Ω (Int × Int) := b524273 bits_LeadingZeros64.f (l65535 n) k262137 x0 x1 x2 x3 x4 x5 x6 x7 x8
noncomputable def l262137 (n : Nat) : Nat→Int→Int→Int→Int→Int→Int→Int→Int→Int→Ω (Int × Int)
  | 0, _, _, _, _, _, _, _, _, _ => none
  | m + 1, x0, x1, x2, x3, x4, x5, x6, x7, x8 => b262137 bits_LeadingZeros64.f (l65535 n) (l524273 n (l262137 n m)) x0 x1 x2 x3 x4 x5 x6 x7 x8
noncomputable def f (n : Nat) (a0 a1 a2 : Int) : Ω (Int × Int) := b0 bits_LeadingZeros64.f (l262137 n n) a0 a1 a2
noncomputable def sg : Sig (Int × Int) := s2 (sInt .u64) (s1 (sInt .u64))
noncomputable def code : Code := (Tryd.f97.body).getD .skip
noncomputable def cfg (c104 : Int→Ω (Int)) : Cfg (Int × Int) := { T := tys, call := orCall 104 (bits_LeadingZeros64.call c104) (noCall) }
noncomputable def cuts : List (Nat × List (Nat × Want)) := [(65535, [(2, .keep), (8, .keep), (9, .keep), (10, .keep), (11, .keep), (13, .keep), (14, .keep), (15, .keep)]), (262137, [(2, .keep), (8, .keep), (9, .keep), (10, .keep), (11, .keep), (13, .keep), (14, .keep), (15, .keep), (16, .keep)]), (524273, [(2, .keep), (8, .keep), (9, .keep), (10, .keep), (11, .keep), (13, .keep), (14, .keep), (15, .keep), (16, .keep)]), (1048575, [(2, .keep), (8, .keep), (14, .keep), (15, .keep), (17, .keep), (18, .keep)]), (4194297, [(2, .keep), (8, .keep), (9, .keep), (10, .keep), (14, .keep), (15, .keep), (16, .keep), (17, .keep), (18, .keep)]), (8388593, [(2, .keep), (8, .keep), (9, .keep), (10, .keep), (14, .keep), (15, .keep), (16, .keep), (17, .keep), (18, .keep)])]
noncomputable def s65535 (x0 x1 x2 x3 x4 x5 x6 x7 : Int) : ASt := ⟨[(2, .int .u64 x0), (8, .int .u64 x1), (9, .int .u64 x2), (10, .int .u64 x3), (11, .int .u64 x4), (13, .int .u64 x5), (14, .int .u64 x6), (15, .int .u64 x7)], []⟩
noncomputable def s262137 (x0 x1 x2 x3 x4 x5 x6 x7 x8 : Int) : ASt := ⟨[(2, .int .u64 x0), (8, .int .u64 x1), (9, .int .u64 x2), (10, .int .u64 x3), (11, .int .u64 x4), (13, .int .u64 x5), (14, .int .u64 x6), (15, .int .u64 x7), (16, .int .u64 x8)], []⟩
noncomputable def s524273 (x0 x1 x2 x3 x4 x5 x6 x7 x8 : Int) : ASt := ⟨[(2, .int .u64 x0), (8, .int .u64 x1), (9, .int .u64 x2), (10, .int .u64 x3), (11, .int .u64 x4), (13, .int .u64 x5), (14, .int .u64 x6), (15, .int .u64 x7), (16, .int .u64 x8)], []⟩
noncomputable def s1048575 (x0 x1 x2 x3 x4 x5 : Int) : ASt := ⟨[(2, .int .u64 x0), (8, .int .u64 x1), (14, .int .u64 x2), (15, .int .u64 x3), (17, .int .u64 x4), (18, .int .u64 x5)], []⟩
noncomputable def s4194297 (x0 x1 x2 x3 x4 x5 x6 x7 x8 : Int) : ASt := ⟨[(2, .int .u64 x0), (8, .int .u64 x1), (9, .int .u64 x2), (10, .int .u64 x3), (14, .int .u64 x4), (15, .int .u64 x5), (16, .int .u64 x6), (17, .int .u64 x7), (18, .int .u64 x8)], []⟩
noncomputable def s8388593 (x0 x1 x2 x3 x4 x5 x6 x7 x8 : Int) : ASt := ⟨[(2, .int .u64 x0), (8, .int .u64 x1), (9, .int .u64 x2), (10, .int .u64 x3), (14, .int .u64 x4), (15, .int .u64 x5), (16, .int .u64 x6), (17, .int .u64 x7), (18, .int .u64 x8)], []⟩
noncomputable def A (c104 : Int→Ω (Int)) (n : Nat) (J : Jt (Int × Int)) (q : Nat) (ms : List Nat) : ASt→Ω (Int × Int) := acont (cfg c104) J cuts n q code 1 ms (aend (cfg c104) Tryd.f97.results.toList [false, false] sg.out)
theorem e0 (c104 : Int→Ω (Int)) (n : Nat) (J : Jt (Int × Int)) (a0 a1 a2 : Int) : afun (cfg c104) J cuts n code Tryd.f97.results.toList [false, false] [.int .u64 a0, .int .u64 a1, .int .u64 a2] sg.out = b0 c104 (fun y0 y1 y2 y3 y4 y5 y6 y7 y8 => J 262137 (A c104 n J 262137 [n]) (s262137 y0 y1 y2 y3 y4 y5 y6 y7 y8)) a0 a1 a2 := by kernel_rfl
theorem e65535 (c104 : Int→Ω (Int)) (n : Nat) (J : Jt (Int × Int)) (x0 x1 x2 x3 x4 x5 x6 x7 : Int) : A c104 n J 65535 [] (s65535 x0 x1 x2 x3 x4 x5 x6 x7) = b65535 c104 (fun y0 y1 y2 y3 y4 y5 y6 y7 y8 => J 4194297 (A c104 n J 4194297 [n]) (s4194297 y0 y1 y2 y3 y4 y5 y6 y7 y8)) x0 x1 x2 x3 x4 x5 x6 x7 := by kernel_rfl
theorem e262137 (c104 : Int→Ω (Int)) (n : Nat) (J : Jt (Int × Int)) (m : Nat) (x0 x1 x2 x3 x4 x5 x6 x7 x8 : Int) : A c104 n J 262137 [m + 1] (s262137 x0 x1 x2 x3 x4 x5 x6 x7 x8) = b262137 c104 (fun y0 y1 y2 y3 y4 y5 y6 y7 => J 65535 (A c104 n J 65535 []) (s65535 y0 y1 y2 y3 y4 y5 y6 y7)) (fun y0 y1 y2 y3 y4 y5 y6 y7 y8 => J 524273 (A c104 n J 524273 [m]) (s524273 y0 y1 y2 y3 y4 y5 y6 y7 y8)) x0 x1 x2 x3 x4 x5 x6 x7 x8 := by kernel_rfl
theorem e524273 (c104 : Int→Ω (Int)) (n : Nat) (J : Jt (Int × Int)) (m262137 : Nat) (x0 x1 x2 x3 x4 x5 x6 x7 x8 : Int) : A c104 n J 524273 [m262137] (s524273 x0 x1 x2 x3 x4 x5 x6 x7 x8) = b524273 c104 (fun y0 y1 y2 y3 y4 y5 y6 y7 => J 65535 (A c104 n J 65535 []) (s65535 y0 y1 y2 y3 y4 y5 y6 y7)) (fun y0 y1 y2 y3 y4 y5 y6 y7 y8 => J 262137 (A c104 n J 262137 [m262137]) (s262137 y0 y1 y2 y3 y4 y5 y6 y7 y8)) x0 x1 x2 x3 x4 x5 x6 x7 x8 := by kernel_rfl
theorem e1048575 (c104 : Int→Ω (Int)) (n : Nat) (J : Jt (Int × Int)) (x0 x1 x2 x3 x4 x5 : Int) : A c104 n J 1048575 [] (s1048575 x0 x1 x2 x3 x4 x5) = b1048575 c104 x0 x1 x2 x3 x4 x5 := by kernel_rfl
theorem e4194297 (c104 : Int→Ω (Int)) (n : Nat) (J : Jt (Int × Int)) (m : Nat) (x0 x1 x2 x3 x4 x5 x6 x7 x8 : Int) : A c104 n J 4194297 [m + 1] (s4194297 x0 x1 x2 x3 x4 x5 x6 x7 x8) = b4194297 c104 (fun y0 y1 y2 y3 y4 y5 => J 1048575 (A c104 n J 1048575 []) (s1048575 y0 y1 y2 y3 y4 y5)) (fun y0 y1 y2 y3 y4 y5 y6 y7 y8 => J 8388593 (A c104 n J 8388593 [m]) (s8388593 y0 y1 y2 y3 y4 y5 y6 y7 y8)) x0 x1 x2 x3 x4 x5 x6 x7 x8 := by kernel_rfl
theorem e8388593 (c104 : Int→Ω (Int)) (n : Nat) (J : Jt (Int × Int)) (m4194297 : Nat) (x0 x1 x2 x3 x4 x5 x6 x7 x8 : Int) : A c104 n J 8388593 [m4194297] (s8388593 x0 x1 x2 x3 x4 x5 x6 x7 x8) = b8388593 c104 (fun y0 y1 y2 y3 y4 y5 => J 1048575 (A c104 n J 1048575 []) (s1048575 y0 y1 y2 y3 y4 y5)) (fun y0 y1 y2 y3 y4 y5 y6 y7 y8 => J 4194297 (A c104 n J 4194297 [m4194297]) (s4194297 y0 y1 y2 y3 y4 y5 y6 y7 y8)) x0 x1 x2 x3 x4 x5 x6 x7 x8 := by kernel_rfl
theorem q1048575 (n : Nat) (x0 x1 x2 x3 x4 x5 : Int) : A bits_LeadingZeros64.f n idJ 1048575 [] (s1048575 x0 x1 x2 x3 x4 x5) = l1048575 n x0 x1 x2 x3 x4 x5 := (e1048575 bits_LeadingZeros64.f n idJ x0 x1 x2 x3 x4 x5).trans (rfl)
theorem q8388593 (n m4194297 : Nat) (x0 x1 x2 x3 x4 x5 x6 x7 x8 : Int) : A bits_LeadingZeros64.f n idJ 8388593 [m4194297] (s8388593 x0 x1 x2 x3 x4 x5 x6 x7 x8) = l8388593 n (fun y0 y1 y2 y3 y4 y5 y6 y7 y8 => A bits_LeadingZeros64.f n idJ 4194297 [m4194297] (s4194297 y0 y1 y2 y3 y4 y5 y6 y7 y8)) x0 x1 x2 x3 x4 x5 x6 x7 x8 := (e8388593 bits_LeadingZeros64.f n idJ m4194297 x0 x1 x2 x3 x4 x5 x6 x7 x8).trans (congrFun (congrFun (congrFun (congrFun (congrFun (congrFun (congrFun (congrFun (congrFun (congr (congrArg (b8388593 bits_LeadingZeros64.f) (funext fun y0 => (funext fun y1 => (funext fun y2 => (funext fun y3 => (funext fun y4 => (funext fun y5 => q1048575 n y0 y1 y2 y3 y4 y5))))))) rfl) x0) x1) x2) x3) x4) x5) x6) x7) x8)
theorem q4194297 (n m : Nat) : ∀ (x0 x1 x2 x3 x4 x5 x6 x7 x8 : Int), A bits_LeadingZeros64.f n idJ 4194297 [m] (s4194297 x0 x1 x2 x3 x4 x5 x6 x7 x8) = l4194297 n m x0 x1 x2 x3 x4 x5 x6 x7 x8 := by
  induction m with
  | zero => intros; rfl
  | succ m ih =>
    intro x0 x1 x2 x3 x4 x5 x6 x7 x8
    refine (e4194297 bits_LeadingZeros64.f n idJ m x0 x1 x2 x3 x4 x5 x6 x7 x8).trans ?_
    exact congrFun (congrFun (congrFun (congrFun (congrFun (congrFun (congrFun (congrFun (congrFun (congr (congrArg (b4194297 bits_LeadingZeros64.f) (funext fun y0 => (funext fun y1 => (funext fun y2 => (funext fun y3 => (funext fun y4 => (funext fun y5 => q1048575 n y0 y1 y2 y3 y4 y5))))))) ((funext fun y0 => (funext fun y1 => (funext fun y2 => (funext fun y3 => (funext fun y4 => (funext fun y5 => (funext fun y6 => (funext fun y7 => (funext fun y8 => q8388593 n m y0 y1 y2 y3 y4 y5 y6 y7 y8))))))))).trans (by rw [show (fun y0 y1 y2 y3 y4 y5 y6 y7 y8 => A bits_LeadingZeros64.f n idJ 4194297 [m] (s4194297 y0 y1 y2 y3 y4 y5 y6 y7 y8)) = _ from (funext fun y0 => (funext fun y1 => (funext fun y2 => (funext fun y3 => (funext fun y4 => (funext fun y5 => (funext fun y6 => (funext fun y7 => (funext fun y8 => ih y0 y1 y2 y3 y4 y5 y6 y7 y8)))))))))]))) x0) x1) x2) x3) x4) x5) x6) x7) x8
theorem q65535 (n : Nat) (x0 x1 x2 x3 x4 x5 x6 x7 : Int) : A bits_LeadingZeros64.f n idJ 65535 [] (s65535 x0 x1 x2 x3 x4 x5 x6 x7) = l65535 n x0 x1 x2 x3 x4 x5 x6 x7 := (e65535 bits_LeadingZeros64.f n idJ x0 x1 x2 x3 x4 x5 x6 x7).trans (congrFun (congrFun (congrFun (congrFun (congrFun (congrFun (congrFun (congrFun (congrArg (b65535 bits_LeadingZeros64.f) (funext fun y0 => (funext fun y1 => (funext fun y2 => (funext fun y3 => (funext fun y4 => (funext fun y5 => (funext fun y6 => (funext fun y7 => (funext fun y8 => q4194297 n n y0 y1 y2 y3 y4 y5 y6 y7 y8)))))))))) x0) x1) x2) x3) x4) x5) x6) x7)
theorem q524273 (n m262137 : Nat) (x0 x1 x2 x3 x4 x5 x6 x7 x8 : Int) : A bits_LeadingZeros64.f n idJ 524273 [m262137] (s524273 x0 x1 x2 x3 x4 x5 x6 x7 x8) = l524273 n (fun y0 y1 y2 y3 y4 y5 y6 y7 y8 => A bits_LeadingZeros64.f n idJ 262137 [m262137] (s262137 y0 y1 y2 y3 y4 y5 y6 y7 y8)) x0 x1 x2 x3 x4 x5 x6 x7 x8 := (e524273 bits_LeadingZeros64.f n idJ m262137 x0 x1 x2 x3 x4 x5 x6 x7 x8).trans (congrFun (congrFun (congrFun (congrFun (congrFun (congrFun (congrFun (congrFun (congrFun (congr (congrArg (b524273 bits_LeadingZeros64.f) (funext fun y0 => (funext fun y1 => (funext fun y2 => (funext fun y3 => (funext fun y4 => (funext fun y5 => (funext fun y6 => (funext fun y7 => q65535 n y0 y1 y2 y3 y4 y5 y6 y7))))))))) rfl) x0) x1) x2) x3) x4) x5) x6) x7) x8)
theorem q262137 (n m : Nat) : ∀ (x0 x1 x2 x3 x4 x5 x6 x7 x8 : Int), A bits_LeadingZeros64.f n idJ 262137 [m] (s262137 x0 x1 x2 x3 x4 x5 x6 x7 x8) = l262137 n m x0 x1 x2 x3 x4 x5 x6 x7 x8 := by
  induction m with
  | zero => intros; rfl
  | succ m ih =>
    intro x0 x1 x2 x3 x4 x5 x6 x7 x8
    refine (e262137 bits_LeadingZeros64.f n idJ m x0 x1 x2 x3 x4 x5 x6 x7 x8).trans ?_
    exact congrFun (congrFun (congrFun (congrFun (congrFun (congrFun (congrFun (congrFun (congrFun (congr (congrArg (b262137 bits_LeadingZeros64.f) (funext fun y0 => (funext fun y1 => (funext fun y2 => (funext fun y3 => (funext fun y4 => (funext fun y5 => (funext fun y6 => (funext fun y7 => q65535 n y0 y1 y2 y3 y4 y5 y6 y7))))))))) ((funext fun y0 => (funext fun y1 => (funext fun y2 => (funext fun y3 => (funext fun y4 => (funext fun y5 => (funext fun y6 => (funext fun y7 => (funext fun y8 => q524273 n m y0 y1 y2 y3 y4 y5 y6 y7 y8))))))))).trans (by rw [show (fun y0 y1 y2 y3 y4 y5 y6 y7 y8 => A bits_LeadingZeros64.f n idJ 262137 [m] (s262137 y0 y1 y2 y3 y4 y5 y6 y7 y8)) = _ from (funext fun y0 => (funext fun y1 => (funext fun y2 => (funext fun y3 => (funext fun y4 => (funext fun y5 => (funext fun y6 => (funext fun y7 => (funext fun y8 => ih y0 y1 y2 y3 y4 y5 y6 y7 y8)))))))))]))) x0) x1) x2) x3) x4) x5) x6) x7) x8
theorem eq (n : Nat) (a0 a1 a2 : Int) : afun (cfg bits_LeadingZeros64.f) idJ cuts n code Tryd.f97.results.toList [false, false] [.int .u64 a0, .int .u64 a1, .int .u64 a2] sg.out = f n a0 a1 a2 := (e0 bits_LeadingZeros64.f n idJ a0 a1 a2).trans (congrFun (congrFun (congrFun (congrArg (b0 bits_LeadingZeros64.f) (funext fun y0 => (funext fun y1 => (funext fun y2 => (funext fun y3 => (funext fun y4 => (funext fun y5 => (funext fun y6 => (funext fun y7 => (funext fun y8 => q262137 n n y0 y1 y2 y3 y4 y5 y6 y7 y8)))))))))) a0) a1) a2)
theorem ok {n : Nat} {a0 : Int} {a1 : Int} {a2 : Int} {r : Int × Int} (h : f n a0 a1 a2 = some r) : CallD Tryd.prog HW 97 [.int .u64 a0, .int .u64 a1, .int .u64 a2] (sg.enc r) :=
  fun_some hwS Tryd.func97 (by kernel_rfl) (body := code) (by kernel_rfl) tys_ok (c := cfg bits_LeadingZeros64.f) (orCall_ok (bits_LeadingZeros64.call_ok (n := n)) noCall_ok) noW_ok (by kernel_rfl) (by kernel_rfl) (Nat.le_of_ble_eq_true (by kernel_rfl)) ((eq n a0 a1 a2).trans h)
noncomputable def call {α : Type} (g : Int→Int→Int→Ω (Int × Int)) (ds : List D) (K : List D→Ω α) : Ω α := match ds with
  | [.int .u64 a0, .int .u64 a1, .int .u64 a2] => (g a0 a1 a2).bind fun r => K (sg.enc r)
  | _ => none
theorem call_ok {α : Type} {n : Nat} (ds : List D) (K : List D→Ω α) (r : α) (h : call (f n) ds K = some r) : ∃ rs, K rs = some r ∧ CallD Tryd.prog HW 97 ds rs := by
  unfold call at h
  split at h
  · obtain ⟨x, hx, hk⟩ := Option.bind_eq_some_iff.1 h
    exact ⟨_, hk, ok (n := n) hx⟩
  · cases h
end bits_Div64
/-! ### bits_Rem64: function 88 -/
namespace bits_Rem64
noncomputable def b0 (c97 : Int→Int→Int→Ω (Int × Int)) (a0 a1 a2 : Int) : Ω (Int) := (if a2 = 0 then none else ((c97 (Int.tmod a0 a2) a1 a2).bind fun t1 => some t1.2))
noncomputable def f (n : Nat) (a0 a1 a2 : Int) : Ω (Int) := b0 (bits_Div64.f n) a0 a1 a2
noncomputable def sg : Sig (Int) := s1 (sInt .u64)
noncomputable def code : Code := (Tryd.f88.body).getD .skip
noncomputable def cfg (c97 : Int→Int→Int→Ω (Int × Int)) : Cfg (Int) := { T := tys, call := orCall 97 (bits_Div64.call c97) (noCall) }
noncomputable def cuts : List (Nat × List (Nat × Want)) := []
theorem e0 (c97 : Int→Int→Int→Ω (Int × Int)) (n : Nat) (J : Jt (Int)) (a0 a1 a2 : Int) : afun (cfg c97) J cuts n code Tryd.f88.results.toList [false] [.int .u64 a0, .int .u64 a1, .int .u64 a2] sg.out = b0 c97 a0 a1 a2 := by kernel_rfl
theorem eq (n : Nat) (a0 a1 a2 : Int) : afun (cfg (bits_Div64.f n)) idJ cuts n code Tryd.f88.results.toList [false] [.int .u64 a0, .int .u64 a1, .int .u64 a2] sg.out = f n a0 a1 a2 := (e0 (bits_Div64.f n) n idJ a0 a1 a2).trans (rfl)
theorem ok {n : Nat} {a0 : Int} {a1 : Int} {a2 : Int} {r : Int} (h : f n a0 a1 a2 = some r) : CallD Tryd.prog HW 88 [.int .u64 a0, .int .u64 a1, .int .u64 a2] (sg.enc r) :=
  fun_some hwS Tryd.func88 (by kernel_rfl) (body := code) (by kernel_rfl) tys_ok (c := cfg (bits_Div64.f n)) (orCall_ok (bits_Div64.call_ok (n := n)) noCall_ok) noW_ok (by kernel_rfl) (by kernel_rfl) (Nat.le_of_ble_eq_true (by kernel_rfl)) ((eq n a0 a1 a2).trans h)
noncomputable def call {α : Type} (g : Int→Int→Int→Ω (Int)) (ds : List D) (K : List D→Ω α) : Ω α := match ds with
  | [.int .u64 a0, .int .u64 a1, .int .u64 a2] => (g a0 a1 a2).bind fun r => K (sg.enc r)
  | _ => none
theorem call_ok {α : Type} {n : Nat} (ds : List D) (K : List D→Ω α) (r : α) (h : call (f n) ds K = some r) : ∃ rs, K rs = some r ∧ CallD Tryd.prog HW 88 ds rs := by
  unfold call at h
  split at h
  · obtain ⟨x, hx, hk⟩ := Option.bind_eq_some_iff.1 h
    exact ⟨_, hk, ok (n := n) hx⟩
  · cases h
end bits_Rem64
/-! ### remain_residue: function 66 -/
namespace remain_residue
noncomputable def b0 (c52 : Int→Int→Ω (Int × Int)) (c88 : Int→Int→Int→Ω (Int)) (k57 : Int→Int→Int→Ω (Int)) (a0 a1 a2 : Int) : Ω (Int) := (if a2 = 0 then none else k57 a1 a2 (Int.tmod a0 a2))
noncomputable def b57 (c52 : Int→Int→Ω (Int × Int)) (c88 : Int→Int→Int→Ω (Int)) (k57 : Int→Int→Int→Ω (Int)) (x0 x1 x2 : Int) : Ω (Int) := (if x0 > 0 then (if 0 ≤ (mn x0 32) then ((c52 x2 (shl .u64 1 (mn x0 32))).bind fun t1 => ((c88 t1.1 t1.2 x1).bind fun t2 => k57 (wrap64 (x0 - (mn x0 32))) x1 t2)) else none) else some x2)
noncomputable def l57 (n : Nat) : Nat→Int→Int→Int→Ω (Int)
  | 0, _, _, _ => none
  | m + 1, x0, x1, x2 => b57 bits_Mul64.f (bits_Rem64.f n) (l57 n m) x0 x1 x2
noncomputable def f (n : Nat) (a0 a1 a2 : Int) : Ω (Int) := b0 bits_Mul64.f (bits_Rem64.f n) (l57 n n) a0 a1 a2
noncomputable def sg : Sig (Int) := s1 (sInt .u64)
noncomputable def code : Code := (Tryd.f66.body).getD .skip
noncomputable def cfg (c52 : Int→Int→Ω (Int × Int)) (c88 : Int→Int→Int→Ω (Int)) : Cfg (Int) := { T := tys, call := orCall 52 (bits_Mul64.call c52) (orCall 88 (bits_Rem64.call c88) (noCall)) }
noncomputable def cuts : List (Nat × List (Nat × Want)) := [(57, [(1, .keep), (2, .keep), (7, .keep)])]
noncomputable def s57 (x0 x1 x2 : Int) : ASt := ⟨[(1, .int .i64 x0), (2, .int .u64 x1), (7, .int .u64 x2)], []⟩
noncomputable def A (c52 : Int→Int→Ω (Int × Int)) (c88 : Int→Int→Int→Ω (Int)) (n : Nat) (J : Jt (Int)) (q : Nat) (ms : List Nat) : ASt→Ω (Int) := acont (cfg c52 c88) J cuts n q code 1 ms (aend (cfg c52 c88) Tryd.f66.results.toList [false] sg.out)
theorem e0 (c52 : Int→Int→Ω (Int × Int)) (c88 : Int→Int→Int→Ω (Int)) (n : Nat) (J : Jt (Int)) (a0 a1 a2 : Int) : afun (cfg c52 c88) J cuts n code Tryd.f66.results.toList [false] [.int .u64 a0, .int .i64 a1, .int .u64 a2] sg.out = b0 c52 c88 (fun y0 y1 y2 => J 57 (A c52 c88 n J 57 [n]) (s57 y0 y1 y2)) a0 a1 a2 := by kernel_rfl
theorem e57 (c52 : Int→Int→Ω (Int × Int)) (c88 : Int→Int→Int→Ω (Int)) (n : Nat) (J : Jt (Int)) (m : Nat) (x0 x1 x2 : Int) : A c52 c88 n J 57 [m + 1] (s57 x0 x1 x2) = b57 c52 c88 (fun y0 y1 y2 => J 57 (A c52 c88 n J 57 [m]) (s57 y0 y1 y2)) x0 x1 x2 := by kernel_rfl
theorem q57 (n m : Nat) : ∀ (x0 x1 x2 : Int), A bits_Mul64.f (bits_Rem64.f n) n idJ 57 [m] (s57 x0 x1 x2) = l57 n m x0 x1 x2 := by
  induction m with
  | zero => intros; rfl
  | succ m ih =>
    intro x0 x1 x2
    refine (e57 bits_Mul64.f (bits_Rem64.f n) n idJ m x0 x1 x2).trans ?_
    exact congrFun (congrFun (congrFun (congrArg (b57 bits_Mul64.f (bits_Rem64.f n)) (funext fun y0 => (funext fun y1 => (funext fun y2 => ih y0 y1 y2)))) x0) x1) x2
theorem eq (n : Nat) (a0 a1 a2 : Int) : afun (cfg bits_Mul64.f (bits_Rem64.f n)) idJ cuts n code Tryd.f66.results.toList [false] [.int .u64 a0, .int .i64 a1, .int .u64 a2] sg.out = f n a0 a1 a2 := (e0 bits_Mul64.f (bits_Rem64.f n) n idJ a0 a1 a2).trans (congrFun (congrFun (congrFun (congrArg (b0 bits_Mul64.f (bits_Rem64.f n)) (funext fun y0 => (funext fun y1 => (funext fun y2 => q57 n n y0 y1 y2)))) a0) a1) a2)
theorem ok {n : Nat} {a0 : Int} {a1 : Int} {a2 : Int} {r : Int} (h : f n a0 a1 a2 = some r) : CallD Tryd.prog HW 66 [.int .u64 a0, .int .i64 a1, .int .u64 a2] (sg.enc r) :=
  fun_some hwS Tryd.func66 (by kernel_rfl) (body := code) (by kernel_rfl) tys_ok (c := cfg bits_Mul64.f (bits_Rem64.f n)) (orCall_ok (bits_Mul64.call_ok (n := n)) (orCall_ok (bits_Rem64.call_ok (n := n)) noCall_ok)) noW_ok (by kernel_rfl) (by kernel_rfl) (Nat.le_of_ble_eq_true (by kernel_rfl)) ((eq n a0 a1 a2).trans h)
noncomputable def call {α : Type} (g : Int→Int→Int→Ω (Int)) (ds : List D) (K : List D→Ω α) : Ω α := match ds with
  | [.int .u64 a0, .int .i64 a1, .int .u64 a2] => (g a0 a1 a2).bind fun r => K (sg.enc r)
  | _ => none
theorem call_ok {α : Type} {n : Nat} (ds : List D) (K : List D→Ω α) (r : α) (h : call (f n) ds K = some r) : ∃ rs, K rs = some r ∧ CallD Tryd.prog HW 66 ds rs := by
  unfold call at h
  split at h
  · obtain ⟨x, hx, hk⟩ := Option.bind_eq_some_iff.1 h
    exact ⟨_, hk, ok (n := n) hx⟩
  · cases h
end remain_residue
/-! ### remain_Fmod: function 35 -/
namespace remain_Fmod
noncomputable def b0 (c20 : Int→Ω (Bool × Int × Int × Int)) (c65 : Bool→Int→Int→Int→Bool→Int→Int→Int→Int→Ω (Int × Bool)) (c66 : Int→Int→Int→Ω (Int)) (c67 : Int→Ω (Int)) (c68 : Bool→Λ→Int→Bool→Ω (Int × Int)) (k63 : Int→Int→Bool→Int→Int→Int→Ω (Int)) (a0 a1 : Int) : Ω (Int) := ((c20 a0).bind fun t1 => ((c20 a1).bind fun t2 => ((c65 t1.1 t1.2.1 t1.2.2.1 t1.2.2.2 t2.1 t2.2.1 t2.2.2.1 t2.2.2.2 a0).bind fun t3 => (if t3.2 = true then some t3.1 else (if (wrap64 (t1.2.2.2 - t2.2.2.2)) ≥ 0 then ((c66 t1.2.2.1 (wrap64 (t1.2.2.2 - t2.2.2.2)) t2.2.2.1).bind fun t4 => k63 t4 t2.2.2.2 t1.1 t1.2.1 t1.2.2.1 t1.2.2.2) else ((c67 t2.2.2.1).bind fun t5 => (if (wrap64 (t5 - (wrap64 (t1.2.2.2 - t2.2.2.2)))) > 64 then some a0 else (if 0 ≤ (wrap64 (-(wrap64 (t1.2.2.2 - t2.2.2.2)))) then (if (shl .u64 t2.2.2.1 (wrap64 (-(wrap64 (t1.2.2.2 - t2.2.2.2))))) = 0 then none else k63 (Int.tmod t1.2.2.1 (shl .u64 t2.2.2.1 (wrap64 (-(wrap64 (t1.2.2.2 - t2.2.2.2)))))) t1.2.2.2 t1.1 t1.2.1 t1.2.2.1 t1.2.2.2) else none))))))))
noncomputable def b63 (c20 : Int→Ω (Bool × Int × Int × Int)) (c65 : Bool→Int→Int→Int→Bool→Int→Int→Int→Int→Ω (Int × Bool)) (c66 : Int→Int→Int→Ω (Int)) (c67 : Int→Ω (Int)) (c68 : Bool→Λ→Int→Bool→Ω (Int × Int)) (x0 x1 : Int) (x2 : Bool) (x3 x4 x5 : Int) : Ω (Int) := ((c68 x2 [x0] x1 false).bind fun t1 => some t1.1)
noncomputable def l63 (n : Nat) (x0 x1 : Int) (x2 : Bool) (x3 x4 x5 : Int) : Ω (Int) := b63 ieee_Decode.f remain_special.f (remain_residue.f n) bits_Len64.f (ieee_Round.f n) x0 x1 x2 x3 x4 x5
noncomputable def f (n : Nat) (a0 a1 : Int) : Ω (Int) := b0 ieee_Decode.f remain_special.f (remain_residue.f n) bits_Len64.f (ieee_Round.f n) (l63 n) a0 a1
noncomputable def sg : Sig (Int) := s1 (sInt .u64)
noncomputable def code : Code := (Tryd.f35.body).getD .skip
noncomputable def cfg (c20 : Int→Ω (Bool × Int × Int × Int)) (c65 : Bool→Int→Int→Int→Bool→Int→Int→Int→Int→Ω (Int × Bool)) (c66 : Int→Int→Int→Ω (Int)) (c67 : Int→Ω (Int)) (c68 : Bool→Λ→Int→Bool→Ω (Int × Int)) : Cfg (Int) := { T := tys, call := orCall 20 (ieee_Decode.call c20) (orCall 65 (remain_special.call c65) (orCall 66 (remain_residue.call c66) (orCall 67 (bits_Len64.call c67) (orCall 68 (ieee_Round.call c68) (noCall))))) }
noncomputable def cuts : List (Nat × List (Nat × Want)) := [(63, [(5, .keep), (9, .keep), (10, .keep)])]
noncomputable def s63 (x0 x1 : Int) (x2 : Bool) (x3 x4 x5 : Int) : ASt := ⟨[(5, .ptr 0 0), (9, .int .u64 x0), (10, .int .i64 x1)], [.cells 46 [.bool x2, .int .i64 x3, .int .u64 x4, .int .i64 x5]]⟩
noncomputable def A (c20 : Int→Ω (Bool × Int × Int × Int)) (c65 : Bool→Int→Int→Int→Bool→Int→Int→Int→Int→Ω (Int × Bool)) (c66 : Int→Int→Int→Ω (Int)) (c67 : Int→Ω (Int)) (c68 : Bool→Λ→Int→Bool→Ω (Int × Int)) (n : Nat) (J : Jt (Int)) (q : Nat) (ms : List Nat) : ASt→Ω (Int) := acont (cfg c20 c65 c66 c67 c68) J cuts n q code 1 ms (aend (cfg c20 c65 c66 c67 c68) Tryd.f35.results.toList [false] sg.out)
theorem e0 (c20 : Int→Ω (Bool × Int × Int × Int)) (c65 : Bool→Int→Int→Int→Bool→Int→Int→Int→Int→Ω (Int × Bool)) (c66 : Int→Int→Int→Ω (Int)) (c67 : Int→Ω (Int)) (c68 : Bool→Λ→Int→Bool→Ω (Int × Int)) (n : Nat) (J : Jt (Int)) (a0 a1 : Int) : afun (cfg c20 c65 c66 c67 c68) J cuts n code Tryd.f35.results.toList [false] [.int .u64 a0, .int .u64 a1] sg.out = b0 c20 c65 c66 c67 c68 (fun y0 y1 y2 y3 y4 y5 => J 63 (A c20 c65 c66 c67 c68 n J 63 []) (s63 y0 y1 y2 y3 y4 y5)) a0 a1 := by kernel_rfl
theorem e63 (c20 : Int→Ω (Bool × Int × Int × Int)) (c65 : Bool→Int→Int→Int→Bool→Int→Int→Int→Int→Ω (Int × Bool)) (c66 : Int→Int→Int→Ω (Int)) (c67 : Int→Ω (Int)) (c68 : Bool→Λ→Int→Bool→Ω (Int × Int)) (n : Nat) (J : Jt (Int)) (x0 x1 : Int) (x2 : Bool) (x3 x4 x5 : Int) : A c20 c65 c66 c67 c68 n J 63 [] (s63 x0 x1 x2 x3 x4 x5) = b63 c20 c65 c66 c67 c68 x0 x1 x2 x3 x4 x5 := by kernel_rfl
theorem q63 (n : Nat) (x0 x1 : Int) (x2 : Bool) (x3 x4 x5 : Int) : A ieee_Decode.f remain_special.f (remain_residue.f n) bits_Len64.f (ieee_Round.f n) n idJ 63 [] (s63 x0 x1 x2 x3 x4 x5) = l63 n x0 x1 x2 x3 x4 x5 := (e63 ieee_Decode.f remain_special.f (remain_residue.f n) bits_Len64.f (ieee_Round.f n) n idJ x0 x1 x2 x3 x4 x5).trans (rfl)
theorem eq (n : Nat) (a0 a1 : Int) : afun (cfg ieee_Decode.f remain_special.f (remain_residue.f n) bits_Len64.f (ieee_Round.f n)) idJ cuts n code Tryd.f35.results.toList [false] [.int .u64 a0, .int .u64 a1] sg.out = f n a0 a1 := (e0 ieee_Decode.f remain_special.f (remain_residue.f n) bits_Len64.f (ieee_Round.f n) n idJ a0 a1).trans (congrFun (congrFun (congrArg (b0 ieee_Decode.f remain_special.f (remain_residue.f n) bits_Len64.f (ieee_Round.f n)) (funext fun y0 => (funext fun y1 => (funext fun y2 => (funext fun y3 => (funext fun y4 => (funext fun y5 => q63 n y0 y1 y2 y3 y4 y5))))))) a0) a1)
theorem ok {n : Nat} {a0 : Int} {a1 : Int} {r : Int} (h : f n a0 a1 = some r) : CallD Tryd.prog HW 35 [.int .u64 a0, .int .u64 a1] (sg.enc r) :=
  fun_some hwS Tryd.func35 (by kernel_rfl) (body := code) (by kernel_rfl) tys_ok (c := cfg ieee_Decode.f remain_special.f (remain_residue.f n) bits_Len64.f (ieee_Round.f n)) (orCall_ok (ieee_Decode.call_ok (n := n)) (orCall_ok (remain_special.call_ok (n := n)) (orCall_ok (remain_residue.call_ok (n := n)) (orCall_ok (bits_Len64.call_ok (n := n)) (orCall_ok (ieee_Round.call_ok (n := n)) noCall_ok))))) noW_ok (by kernel_rfl) (by kernel_rfl) (Nat.le_of_ble_eq_true (by kernel_rfl)) ((eq n a0 a1).trans h)
noncomputable def call {α : Type} (g : Int→Int→Ω (Int)) (ds : List D) (K : List D→Ω α) : Ω α := match ds with
  | [.int .u64 a0, .int .u64 a1] => (g a0 a1).bind fun r => K (sg.enc r)
  | _ => none
theorem call_ok {α : Type} {n : Nat} (ds : List D) (K : List D→Ω α) (r : α) (h : call (f n) ds K = some r) : ∃ rs, K rs = some r ∧ CallD Tryd.prog HW 35 ds rs := by
  unfold call at h
  split at h
  · obtain ⟨x, hx, hk⟩ := Option.bind_eq_some_iff.1 h
    exact ⟨_, hk, ok (n := n) hx⟩
  · cases h
end remain_Fmod
/-! ### remain_Scale: function 36 -/
namespace remain_Scale
noncomputable def b0 (c20 : Int→Ω (Bool × Int × Int × Int)) (c68 : Bool→Λ→Int→Bool→Ω (Int × Int)) (a0 a1 : Int) : Ω (Int) := ((c20 a0).bind fun t1 => (if t1.2.1 = 4 then some 9221120237041090560 else (if t1.2.1 = 3 then some a0 else (if t1.2.1 = 0 then some a0 else ((c68 t1.1 [t1.2.2.1] (wrap64 (t1.2.2.2 + (mx (-5000) (mn a1 5000)))) false).bind fun t2 => some t2.1)))))
noncomputable def f (n : Nat) (a0 a1 : Int) : Ω (Int) := b0 ieee_Decode.f (ieee_Round.f n) a0 a1
noncomputable def sg : Sig (Int) := s1 (sInt .u64)
noncomputable def code : Code := (Tryd.f36.body).getD .skip
noncomputable def cfg (c20 : Int→Ω (Bool × Int × Int × Int)) (c68 : Bool→Λ→Int→Bool→Ω (Int × Int)) : Cfg (Int) := { T := tys, call := orCall 20 (ieee_Decode.call c20) (orCall 68 (ieee_Round.call c68) (noCall)) }
noncomputable def cuts : List (Nat × List (Nat × Want)) := []
theorem e0 (c20 : Int→Ω (Bool × Int × Int × Int)) (c68 : Bool→Λ→Int→Bool→Ω (Int × Int)) (n : Nat) (J : Jt (Int)) (a0 a1 : Int) : afun (cfg c20 c68) J cuts n code Tryd.f36.results.toList [false] [.int .u64 a0, .int .i64 a1] sg.out = b0 c20 c68 a0 a1 := by kernel_rfl
theorem eq (n : Nat) (a0 a1 : Int) : afun (cfg ieee_Decode.f (ieee_Round.f n)) idJ cuts n code Tryd.f36.results.toList [false] [.int .u64 a0, .int .i64 a1] sg.out = f n a0 a1 := (e0 ieee_Decode.f (ieee_Round.f n) n idJ a0 a1).trans (rfl)
theorem ok {n : Nat} {a0 : Int} {a1 : Int} {r : Int} (h : f n a0 a1 = some r) : CallD Tryd.prog HW 36 [.int .u64 a0, .int .i64 a1] (sg.enc r) :=
  fun_some hwS Tryd.func36 (by kernel_rfl) (body := code) (by kernel_rfl) tys_ok (c := cfg ieee_Decode.f (ieee_Round.f n)) (orCall_ok (ieee_Decode.call_ok (n := n)) (orCall_ok (ieee_Round.call_ok (n := n)) noCall_ok)) noW_ok (by kernel_rfl) (by kernel_rfl) (Nat.le_of_ble_eq_true (by kernel_rfl)) ((eq n a0 a1).trans h)
noncomputable def call {α : Type} (g : Int→Int→Ω (Int)) (ds : List D) (K : List D→Ω α) : Ω α := match ds with
  | [.int .u64 a0, .int .i64 a1] => (g a0 a1).bind fun r => K (sg.enc r)
  | _ => none
theorem call_ok {α : Type} {n : Nat} (ds : List D) (K : List D→Ω α) (r : α) (h : call (f n) ds K = some r) : ∃ rs, K rs = some r ∧ CallD Tryd.prog HW 36 ds rs := by
  unfold call at h
  split at h
  · obtain ⟨x, hx, hk⟩ := Option.bind_eq_some_iff.1 h
    exact ⟨_, hk, ok (n := n) hx⟩
  · cases h
end remain_Scale
/-! ### nat_Trim: function 100 -/
namespace nat_Trim
noncomputable def b0 (c51 : Λ→Ω (Int)) (l0 : Λ) : Ω (Λ) := ((c51 l0).bind fun t1 => (if 0 ≤ t1 then (if t1.toNat ≤ 35184372088832 then (if 0 ≤ t1 then (if t1 ≤ (ln l0) then ((some (l0.take t1.toNat) : Ω (Λ)).bind fun y2 => (if y2.length = (List.replicate t1.toNat (0 : Int)).length then some y2 else none)) else none) else none) else none) else none))
noncomputable def f (n : Nat) (l0 : Λ) : Ω (Λ) := b0 (nat_size.f n) l0
noncomputable def sg : Sig (Λ) := s1 (sRow .u64)
noncomputable def code : Code := (Tryd.f100.body).getD .skip
noncomputable def cfg (c51 : Λ→Ω (Int)) : Cfg (Λ) := { T := tys, call := orCall 51 (nat_size.call c51) (noCall) }
noncomputable def cuts : List (Nat × List (Nat × Want)) := []
theorem e0 (c51 : Λ→Ω (Int)) (n : Nat) (J : Jt (Λ)) (l0 : Λ) : afun (cfg c51) J cuts n code Tryd.f100.results.toList [false] [.ro .u64 l0] sg.out = b0 c51 l0 := by kernel_rfl
theorem eq (n : Nat) (l0 : Λ) : afun (cfg (nat_size.f n)) idJ cuts n code Tryd.f100.results.toList [false] [.ro .u64 l0] sg.out = f n l0 := (e0 (nat_size.f n) n idJ l0).trans (rfl)
theorem ok {n : Nat} {l0 : Λ} {r : Λ} (h : f n l0 = some r) : CallD Tryd.prog HW 100 [.ro .u64 l0] (sg.enc r) :=
  fun_some hwS Tryd.func100 (by kernel_rfl) (body := code) (by kernel_rfl) tys_ok (c := cfg (nat_size.f n)) (orCall_ok (nat_size.call_ok (n := n)) noCall_ok) noW_ok (by kernel_rfl) (by kernel_rfl) (Nat.le_of_ble_eq_true (by kernel_rfl)) ((eq n l0).trans h)
noncomputable def call {α : Type} (g : Λ→Ω (Λ)) (ds : List D) (K : List D→Ω α) : Ω α := match ds with
  | [.ro .u64 l0] => (g l0).bind fun r => K (sg.enc r)
  | _ => none
theorem call_ok {α : Type} {n : Nat} (ds : List D) (K : List D→Ω α) (r : α) (h : call (f n) ds K = some r) : ∃ rs, K rs = some r ∧ CallD Tryd.prog HW 100 ds rs := by
  unfold call at h
  split at h
  · obtain ⟨x, hx, hk⟩ := Option.bind_eq_some_iff.1 h
    exact ⟨_, hk, ok (n := n) hx⟩
  · cases h
end nat_Trim
/-! ### quot_small: function 91 -/
namespace quot_small
noncomputable def b0 (c100 : Λ→Ω (Λ)) (l0 : Λ) (a1 : Int) : Ω (Λ × Bool) := ((c100 l0).bind fun t1 => some (t1, decide ((ln t1) ≤ a1)))
noncomputable def f (n : Nat) (l0 : Λ) (a1 : Int) : Ω (Λ × Bool) := b0 (nat_Trim.f n) l0 a1
noncomputable def sg : Sig (Λ × Bool) := s2 (sRow .u64) (s1 (sBool))
noncomputable def code : Code := (Tryd.f91.body).getD .skip
noncomputable def cfg (c100 : Λ→Ω (Λ)) : Cfg (Λ × Bool) := { T := tys, call := orCall 100 (nat_Trim.call c100) (noCall) }
noncomputable def cuts : List (Nat × List (Nat × Want)) := []
theorem e0 (c100 : Λ→Ω (Λ)) (n : Nat) (J : Jt (Λ × Bool)) (l0 : Λ) (a1 : Int) : afun (cfg c100) J cuts n code Tryd.f91.results.toList [false, false] [.ro .u64 l0, .int .i64 a1] sg.out = b0 c100 l0 a1 := by kernel_rfl
theorem eq (n : Nat) (l0 : Λ) (a1 : Int) : afun (cfg (nat_Trim.f n)) idJ cuts n code Tryd.f91.results.toList [false, false] [.ro .u64 l0, .int .i64 a1] sg.out = f n l0 a1 := (e0 (nat_Trim.f n) n idJ l0 a1).trans (rfl)
theorem ok {n : Nat} {l0 : Λ} {a1 : Int} {r : Λ × Bool} (h : f n l0 a1 = some r) : CallD Tryd.prog HW 91 [.ro .u64 l0, .int .i64 a1] (sg.enc r) :=
  fun_some hwS Tryd.func91 (by kernel_rfl) (body := code) (by kernel_rfl) tys_ok (c := cfg (nat_Trim.f n)) (orCall_ok (nat_Trim.call_ok (n := n)) noCall_ok) noW_ok (by kernel_rfl) (by kernel_rfl) (Nat.le_of_ble_eq_true (by kernel_rfl)) ((eq n l0 a1).trans h)
noncomputable def call {α : Type} (g : Λ→Int→Ω (Λ × Bool)) (ds : List D) (K : List D→Ω α) : Ω α := match ds with
  | [.ro .u64 l0, .int .i64 a1] => (g l0 a1).bind fun r => K (sg.enc r)
  | _ => none
theorem call_ok {α : Type} {n : Nat} (ds : List D) (K : List D→Ω α) (r : α) (h : call (f n) ds K = some r) : ∃ rs, K rs = some r ∧ CallD Tryd.prog HW 91 ds rs := by
  unfold call at h
  split at h
  · obtain ⟨x, hx, hk⟩ := Option.bind_eq_some_iff.1 h
    exact ⟨_, hk, ok (n := n) hx⟩
  · cases h
end quot_small
/-! ### bits_Len: function 92 -/
namespace bits_Len
noncomputable def b0 (c67 : Int→Ω (Int)) (a0 : Int) : Ω (Int) := ((c67 a0).bind fun t1 => some t1)
noncomputable def f (a0 : Int) : Ω (Int) := b0 bits_Len64.f a0
noncomputable def sg : Sig (Int) := s1 (sInt .i64)
noncomputable def code : Code := (Tryd.f92.body).getD .skip
noncomputable def cfg (c67 : Int→Ω (Int)) : Cfg (Int) := { T := tys, call := orCall 67 (bits_Len64.call c67) (noCall) }
noncomputable def cuts : List (Nat × List (Nat × Want)) := []
theorem e0 (c67 : Int→Ω (Int)) (n : Nat) (J : Jt (Int)) (a0 : Int) : afun (cfg c67) J cuts n code Tryd.f92.results.toList [false] [.int .u64 a0] sg.out = b0 c67 a0 := by kernel_rfl
theorem eq (n : Nat) (a0 : Int) : afun (cfg bits_Len64.f) idJ cuts n code Tryd.f92.results.toList [false] [.int .u64 a0] sg.out = f a0 := (e0 bits_Len64.f n idJ a0).trans (rfl)
theorem ok {n : Nat} {a0 : Int} {r : Int} (h : f a0 = some r) : CallD Tryd.prog HW 92 [.int .u64 a0] (sg.enc r) :=
  fun_some hwS Tryd.func92 (by kernel_rfl) (body := code) (by kernel_rfl) tys_ok (c := cfg bits_Len64.f) (orCall_ok (bits_Len64.call_ok (n := n)) noCall_ok) noW_ok (by kernel_rfl) (by kernel_rfl) (Nat.le_of_ble_eq_true (by kernel_rfl)) ((eq n a0).trans h)
noncomputable def call {α : Type} (g : Int→Ω (Int)) (ds : List D) (K : List D→Ω α) : Ω α := match ds with
  | [.int .u64 a0] => (g a0).bind fun r => K (sg.enc r)
  | _ => none
theorem call_ok {α : Type} {n : Nat} (ds : List D) (K : List D→Ω α) (r : α) (h : call f ds K = some r) : ∃ rs, K rs = some r ∧ CallD Tryd.prog HW 92 ds rs := by
  unfold call at h
  split at h
  · obtain ⟨x, hx, hk⟩ := Option.bind_eq_some_iff.1 h
    exact ⟨_, hk, ok (n := n) hx⟩
  · cases h
end bits_Len
/-! ### bits_Add64: function 53 -/
namespace bits_Add64
def f (a0 a1 a2 : Int) : Ω (Int × Int) := if 0 ≤ a0 ∧ 0 ≤ a1 ∧ 0 ≤ a2 ∧ a2 ≤ 1 then some ((a0 + a1 + a2) % 18446744073709551616, (a0 + a1 + a2) / 18446744073709551616) else none
def sg : Sig (Int × Int) := s2 (sInt .u64) (s1 (sInt .u64))
theorem ok {a0 a1 a2 : Int} {r : Int × Int} (h : f a0 a1 a2 = some r) : CallD Tryd.prog HW 53 [.int .u64 a0, .int .u64 a1, .int .u64 a2] (sg.enc r) := by
  unfold f at h
  split at h
  · rename_i hh
    obtain rfl := Option.some.inj h
    exact calld_scal rfl rfl fun w _ => .inr ⟨_, _, run_add64' Tryd.func53 (by kernel_rfl) (by kernel_rfl) (by kernel_rfl) (by kernel_rfl) a0 a1 a2 hh.1 hh.2.1 hh.2.2.1 hh.2.2.2 w, rfl, rfl⟩
  · cases h
noncomputable def call {α : Type} (g : Int→Int→Int→Ω (Int × Int)) (ds : List D) (K : List D→Ω α) : Ω α := match ds with
  | [.int .u64 a0, .int .u64 a1, .int .u64 a2] => (g a0 a1 a2).bind fun r => K (sg.enc r)
  | _ => none
theorem call_ok {α : Type} {n : Nat} (ds : List D) (K : List D→Ω α) (r : α) (h : call f ds K = some r) : ∃ rs, K rs = some r ∧ CallD Tryd.prog HW 53 ds rs := by
  unfold call at h
  split at h
  · obtain ⟨x, hx, hk⟩ := Option.bind_eq_some_iff.1 h
    exact ⟨_, hk, ok hx⟩
  · cases h
end bits_Add64
/-! ### nat_Mul: function 19 -/
namespace nat_Mul
noncomputable def b0 (c50 : Λ→Ω (Bool)) (c51 : Λ→Ω (Int)) (c52 : Int→Int→Ω (Int × Int)) (c53 : Int→Int→Int→Ω (Int × Int)) (c54 : Λ→Ω (Λ × Int)) (k2037 : Λ→Λ→Int→Int→Λ→Ω (Λ × Int)) (l0 l1 : Λ) : Ω (Λ × Int) := ((c50 l0).bind fun t1 => (if t1 = true then some (([] : Λ), 2) else ((c50 l1).bind fun t2 => (if t2 = true then some (([] : Λ), 2) else ((c51 l0).bind fun t3 => (if 0 ≤ t3 then (if t3 ≤ (ln l0) then ((some (l0.take t3.toNat) : Ω (Λ)).bind fun y4 => ((c51 l1).bind fun t5 => (if 0 ≤ t5 then (if t5 ≤ (ln l1) then ((some (l1.take t5.toNat) : Ω (Λ)).bind fun y6 => (if (ln y4) = 0 then some (([] : Λ), 0) else (if (ln y6) = 0 then some (([] : Λ), 0) else (if (wrap64 ((wrap64 ((ln y4) + (ln y6))) - 1)) > 4096 then some (([] : Λ), 2) else (if 0 ≤ (wrap64 ((ln y4) + (ln y6))) then (if (wrap64 ((ln y4) + (ln y6))).toNat ≤ 35184372088832 then k2037 y6 y4 (ln y4) 0 (List.replicate (wrap64 ((ln y4) + (ln y6))).toNat (0 : Int)) else none) else none))))) else none) else none))) else none) else none))))))
noncomputable def b255 (c50 : Λ→Ω (Bool)) (c51 : Λ→Ω (Int)) (c52 : Int→Int→Ω (Int × Int)) (c53 : Int→Int→Int→Ω (Int × Int)) (c54 : Λ→Ω (Λ × Int)) (x0 : Λ) : Ω (Λ × Int) := ((c54 x0).bind fun t1 => some (t1.1, t1.2))
noncomputable def b2037 (c50 : Λ→Ω (Bool)) (c51 : Λ→Ω (Int)) (c52 : Int→Int→Ω (Int × Int)) (c53 : Int→Int→Int→Ω (Int × Int)) (c54 : Λ→Ω (Λ × Int)) (k255 : Λ→Ω (Λ × Int)) (k2085685 : Λ→Int→Int→Int→Int→Λ→Int→Int→Λ→Ω (Λ × Int)) (x0 x1 : Λ) (x2 x3 : Int) (x4 : Λ) : Ω (Λ × Int) := (if x3 < x2 then (if 0 ≤ x3 then (if x3 < (ln x1) then k2085685 x0 x3 0 0 (rd x1 x3) x1 x2 (ln x0) x4 else none) else none) else k255 x4)
noncomputable def b260711 (c50 : Λ→Ω (Bool)) (c51 : Λ→Ω (Int)) (c52 : Int→Int→Ω (Int × Int)) (c53 : Int→Int→Int→Ω (Int × Int)) (c54 : Λ→Ω (Λ × Int)) (k2037 : Λ→Λ→Int→Int→Λ→Ω (Λ × Int)) (x0 : Λ) (x1 x2 : Int) (x3 : Λ) (x4 : Int) (x5 : Λ) : Ω (Λ × Int) := (if 0 ≤ (wrap64 (x1 + (ln x0))) then (if (wrap64 (x1 + (ln x0))) < (ln x5) then k2037 x0 x3 x4 (wrap64 (x1 + 1)) (x5.set (wrap64 (x1 + (ln x0)) : Int).toNat x2) else none) else none)
noncomputable def b2085685 (c50 : Λ→Ω (Bool)) (c51 : Λ→Ω (Int)) (c52 : Int→Int→Ω (Int × Int)) (c53 : Int→Int→Int→Ω (Int × Int)) (c54 : Λ→Ω (Λ × Int)) (k260711 : Λ→Int→Int→Λ→Int→Λ→Ω (Λ × Int)) (k2085685 : Λ→Int→Int→Int→Int→Λ→Int→Int→Λ→Ω (Λ × Int)) (x0 : Λ) (x1 x2 x3 x4 : Int) (x5 : Λ) (x6 x7 : Int) (x8 : Λ) : Ω (Λ × Int) := (if x3 < x7 then (if 0 ≤ x3 then (if x3 < (ln x0) then ((c52 x4 (rd x0 x3)).bind fun t1 => (if 0 ≤ (wrap64 (x1 + x3)) then (if (wrap64 (x1 + x3)) < (ln x8) then ((c53 t1.2 (rd x8 (wrap64 (x1 + x3))) 0).bind fun t2 => ((c53 t2.1 x2 0).bind fun t3 => (if 0 ≤ (wrap64 (x1 + x3)) then (if (wrap64 (x1 + x3)) < (ln x8) then k2085685 x0 x1 (IntKind.u64.wrap ((IntKind.u64.wrap (t1.1 + t2.2)) + t3.2)) (wrap64 (x3 + 1)) x4 x5 x6 x7 (x8.set (wrap64 (x1 + x3) : Int).toNat t3.1) else none) else none))) else none) else none)) else none) else none) else k260711 x0 x1 x2 x5 x6 x8)
noncomputable def l255 (n : Nat) (x0 : Λ) : Ω (Λ × Int) := b255 (nat_big.f n) (nat_size.f n) bits_Mul64.f bits_Add64.f (nat_cut.f n) x0
noncomputable def l260711 (n : Nat) (k2037 : Λ→Λ→Int→Int→Λ→Ω (Λ × Int)) (x0 : Λ) (x1 x2 : Int) (x3 : Λ) (x4 : Int) (x5 : Λ) : Ω (Λ × Int) := b260711 (nat_big.f n) (nat_size.f n) bits_Mul64.f bits_Add64.f (nat_cut.f n) k2037 x0 x1 x2 x3 x4 x5
noncomputable def l2085685 (n : Nat) (k2037 : Λ→Λ→Int→Int→Λ→Ω (Λ × Int)) : Nat→Λ→Int→Int→Int→Int→Λ→Int→Int→Λ→Ω (Λ × Int)
  | 0, _, _, _, _, _, _, _, _, _ => none
  | m + 1, x0, x1, x2, x3, x4, x5, x6, x7, x8 => b2085685 (nat_big.f n) (nat_size.f n) bits_Mul64.f bits_Add64.f (nat_cut.f n) (l260711 n k2037) (l2085685 n k2037 m) x0 x1 x2 x3 x4 x5 x6 x7 x8
noncomputable def l2037 (n : Nat) : Nat→Λ→Λ→Int→Int→Λ→Ω (Λ × Int)
  | 0, _, _, _, _, _ => none
  | m + 1, x0, x1, x2, x3, x4 => b2037 (nat_big.f n) (nat_size.f n) bits_Mul64.f bits_Add64.f (nat_cut.f n) (l255 n) (l2085685 n (l2037 n m) n) x0 x1 x2 x3 x4
noncomputable def f (n : Nat) (l0 l1 : Λ) : Ω (Λ × Int) := b0 (nat_big.f n) (nat_size.f n) bits_Mul64.f bits_Add64.f (nat_cut.f n) (l2037 n n) l0 l1
noncomputable def sg : Sig (Λ × Int) := s2 (sRow .u64) (s1 (sInt .i64))
noncomputable def code : Code := (Tryd.f19.body).getD .skip
noncomputable def cfg (c50 : Λ→Ω (Bool)) (c51 : Λ→Ω (Int)) (c52 : Int→Int→Ω (Int × Int)) (c53 : Int→Int→Int→Ω (Int × Int)) (c54 : Λ→Ω (Λ × Int)) : Cfg (Λ × Int) := { T := tys, call := orCall 50 (nat_big.call c50) (orCall 51 (nat_size.call c51) (orCall 52 (bits_Mul64.call c52) (orCall 53 (bits_Add64.call c53) (orCall 54 (nat_cut.call c54) (noCall))))) }
noncomputable def cuts : List (Nat × List (Nat × Want)) := [(255, [(6, .keep)]), (2037, [(1, .keep), (6, .keep), (50, .keep), (51, .keep), (52, .keep)]), (260711, [(1, .keep), (6, .keep), (7, .keep), (9, .keep), (50, .keep), (51, .keep), (52, .keep)]), (2085685, [(1, .keep), (6, .keep), (7, .keep), (8, .keep), (9, .keep), (50, .keep), (51, .keep), (52, .keep), (57, .keep), (58, .keep), (59, .keep)])]
noncomputable def s255 (x0 : Λ) : ASt := ⟨[(6, .own 0)], [.ints 22 .u64 x0]⟩
noncomputable def s2037 (x0 x1 : Λ) (x2 x3 : Int) (x4 : Λ) : ASt := ⟨[(1, .ro .u64 x0), (6, .own 0), (50, .ro .u64 x1), (51, .int .i64 x2), (52, .int .i64 x3)], [.ints 22 .u64 x4]⟩
noncomputable def s260711 (x0 : Λ) (x1 x2 : Int) (x3 : Λ) (x4 : Int) (x5 : Λ) : ASt := ⟨[(1, .ro .u64 x0), (6, .own 0), (7, .int .i64 x1), (9, .int .u64 x2), (50, .ro .u64 x3), (51, .int .i64 x4), (52, .int .i64 x1)], [.ints 22 .u64 x5]⟩
noncomputable def s2085685 (x0 : Λ) (x1 x2 x3 x4 : Int) (x5 : Λ) (x6 x7 : Int) (x8 : Λ) : ASt := ⟨[(1, .ro .u64 x0), (6, .own 0), (7, .int .i64 x1), (8, .int .u64 x4), (9, .int .u64 x2), (50, .ro .u64 x5), (51, .int .i64 x6), (52, .int .i64 x1), (57, .ro .u64 x0), (58, .int .i64 x7), (59, .int .i64 x3)], [.ints 22 .u64 x8]⟩
noncomputable def A (c50 : Λ→Ω (Bool)) (c51 : Λ→Ω (Int)) (c52 : Int→Int→Ω (Int × Int)) (c53 : Int→Int→Int→Ω (Int × Int)) (c54 : Λ→Ω (Λ × Int)) (n : Nat) (J : Jt (Λ × Int)) (q : Nat) (ms : List Nat) : ASt→Ω (Λ × Int) := acont (cfg c50 c51 c52 c53 c54) J cuts n q code 1 ms (aend (cfg c50 c51 c52 c53 c54) Tryd.f19.results.toList [false, false] sg.out)
theorem e0 (c50 : Λ→Ω (Bool)) (c51 : Λ→Ω (Int)) (c52 : Int→Int→Ω (Int × Int)) (c53 : Int→Int→Int→Ω (Int × Int)) (c54 : Λ→Ω (Λ × Int)) (n : Nat) (J : Jt (Λ × Int)) (l0 l1 : Λ) : afun (cfg c50 c51 c52 c53 c54) J cuts n code Tryd.f19.results.toList [false, false] [.ro .u64 l0, .ro .u64 l1] sg.out = b0 c50 c51 c52 c53 c54 (fun y0 y1 y2 y3 y4 => J 2037 (A c50 c51 c52 c53 c54 n J 2037 [n]) (s2037 y0 y1 y2 y3 y4)) l0 l1 := by kernel_rfl
theorem e255 (c50 : Λ→Ω (Bool)) (c51 : Λ→Ω (Int)) (c52 : Int→Int→Ω (Int × Int)) (c53 : Int→Int→Int→Ω (Int × Int)) (c54 : Λ→Ω (Λ × Int)) (n : Nat) (J : Jt (Λ × Int)) (x0 : Λ) : A c50 c51 c52 c53 c54 n J 255 [] (s255 x0) = b255 c50 c51 c52 c53 c54 x0 := by kernel_rfl
theorem e2037 (c50 : Λ→Ω (Bool)) (c51 : Λ→Ω (Int)) (c52 : Int→Int→Ω (Int × Int)) (c53 : Int→Int→Int→Ω (Int × Int)) (c54 : Λ→Ω (Λ × Int)) (n : Nat) (J : Jt (Λ × Int)) (m : Nat) (x0 x1 : Λ) (x2 x3 : Int) (x4 : Λ) : A c50 c51 c52 c53 c54 n J 2037 [m + 1] (s2037 x0 x1 x2 x3 x4) = b2037 c50 c51 c52 c53 c54 (fun y0 => J 255 (A c50 c51 c52 c53 c54 n J 255 []) (s255 y0)) (fun y0 y1 y2 y3 y4 y5 y6 y7 y8 => J 2085685 (A c50 c51 c52 c53 c54 n J 2085685 [m, n]) (s2085685 y0 y1 y2 y3 y4 y5 y6 y7 y8)) x0 x1 x2 x3 x4 := by kernel_rfl
theorem e260711 (c50 : Λ→Ω (Bool)) (c51 : Λ→Ω (Int)) (c52 : Int→Int→Ω (Int × Int)) (c53 : Int→Int→Int→Ω (Int × Int)) (c54 : Λ→Ω (Λ × Int)) (n : Nat) (J : Jt (Λ × Int)) (m2037 : Nat) (x0 : Λ) (x1 x2 : Int) (x3 : Λ) (x4 : Int) (x5 : Λ) : A c50 c51 c52 c53 c54 n J 260711 [m2037] (s260711 x0 x1 x2 x3 x4 x5) = b260711 c50 c51 c52 c53 c54 (fun y0 y1 y2 y3 y4 => J 2037 (A c50 c51 c52 c53 c54 n J 2037 [m2037]) (s2037 y0 y1 y2 y3 y4)) x0 x1 x2 x3 x4 x5 := by kernel_rfl
theorem e2085685 (c50 : Λ→Ω (Bool)) (c51 : Λ→Ω (Int)) (c52 : Int→Int→Ω (Int × Int)) (c53 : Int→Int→Int→Ω (Int × Int)) (c54 : Λ→Ω (Λ × Int)) (n : Nat) (J : Jt (Λ × Int)) (m2037 m : Nat) (x0 : Λ) (x1 x2 x3 x4 : Int) (x5 : Λ) (x6 x7 : Int) (x8 : Λ) : A c50 c51 c52 c53 c54 n J 2085685 [m2037, m + 1] (s2085685 x0 x1 x2 x3 x4 x5 x6 x7 x8) = b2085685 c50 c51 c52 c53 c54 (fun y0 y1 y2 y3 y4 y5 => J 260711 (A c50 c51 c52 c53 c54 n J 260711 [m2037]) (s260711 y0 y1 y2 y3 y4 y5)) (fun y0 y1 y2 y3 y4 y5 y6 y7 y8 => J 2085685 (A c50 c51 c52 c53 c54 n J 2085685 [m2037, m]) (s2085685 y0 y1 y2 y3 y4 y5 y6 y7 y8)) x0 x1 x2 x3 x4 x5 x6 x7 x8 := by kernel_rfl
theorem q255 (n : Nat) (x0 : Λ) : A (nat_big.f n) (nat_size.f n) bits_Mul64.f bits_Add64.f (nat_cut.f n) n idJ 255 [] (s255 x0) = l255 n x0 := (e255 (nat_big.f n) (nat_size.f n) bits_Mul64.f bits_Add64.f (nat_cut.f n) n idJ x0).trans (rfl)
theorem q260711 (n m2037 : Nat) (x0 : Λ) (x1 x2 : Int) (x3 : Λ) (x4 : Int) (x5 : Λ) : A (nat_big.f n) (nat_size.f n) bits_Mul64.f bits_Add64.f (nat_cut.f n) n idJ 260711 [m2037] (s260711 x0 x1 x2 x3 x4 x5) = l260711 n (fun y0 y1 y2 y3 y4 => A (nat_big.f n) (nat_size.f n) bits_Mul64.f bits_Add64.f (nat_cut.f n) n idJ 2037 [m2037] (s2037 y0 y1 y2 y3 y4)) x0 x1 x2 x3 x4 x5 := (e260711 (nat_big.f n) (nat_size.f n) bits_Mul64.f bits_Add64.f (nat_cut.f n) n idJ m2037 x0 x1 x2 x3 x4 x5).trans (rfl)
theorem q2085685 (n m2037 m : Nat) : ∀ (x0 : Λ) (x1 x2 x3 x4 : Int) (x5 : Λ) (x6 x7 : Int) (x8 : Λ), A (nat_big.f n) (nat_size.f n) bits_Mul64.f bits_Add64.f (nat_cut.f n) n idJ 2085685 [m2037, m] (s2085685 x0 x1 x2 x3 x4 x5 x6 x7 x8) = l2085685 n (fun y0 y1 y2 y3 y4 => A (nat_big.f n) (nat_size.f n) bits_Mul64.f bits_Add64.f (nat_cut.f n) n idJ 2037 [m2037] (s2037 y0 y1 y2 y3 y4)) m x0 x1 x2 x3 x4 x5 x6 x7 x8 := by
  induction m with
  | zero => intros; rfl
  | succ m ih =>
    intro x0 x1 x2 x3 x4 x5 x6 x7 x8
    refine (e2085685 (nat_big.f n) (nat_size.f n) bits_Mul64.f bits_Add64.f (nat_cut.f n) n idJ m2037 m x0 x1 x2 x3 x4 x5 x6 x7 x8).trans ?_
    exact congrFun (congrFun (congrFun (congrFun (congrFun (congrFun (congrFun (congrFun (congrFun (congr (congrArg (b2085685 (nat_big.f n) (nat_size.f n) bits_Mul64.f bits_Add64.f (nat_cut.f n)) (funext fun y0 => (funext fun y1 => (funext fun y2 => (funext fun y3 => (funext fun y4 => (funext fun y5 => q260711 n m2037 y0 y1 y2 y3 y4 y5))))))) (funext fun y0 => (funext fun y1 => (funext fun y2 => (funext fun y3 => (funext fun y4 => (funext fun y5 => (funext fun y6 => (funext fun y7 => (funext fun y8 => ih y0 y1 y2 y3 y4 y5 y6 y7 y8)))))))))) x0) x1) x2) x3) x4) x5) x6) x7) x8
theorem q2037 (n m : Nat) : ∀ (x0 x1 : Λ) (x2 x3 : Int) (x4 : Λ), A (nat_big.f n) (nat_size.f n) bits_Mul64.f bits_Add64.f (nat_cut.f n) n idJ 2037 [m] (s2037 x0 x1 x2 x3 x4) = l2037 n m x0 x1 x2 x3 x4 := by
  induction m with
  | zero => intros; rfl
  | succ m ih =>
    intro x0 x1 x2 x3 x4
    refine (e2037 (nat_big.f n) (nat_size.f n) bits_Mul64.f bits_Add64.f (nat_cut.f n) n idJ m x0 x1 x2 x3 x4).trans ?_
    exact congrFun (congrFun (congrFun (congrFun (congrFun (congr (congrArg (b2037 (nat_big.f n) (nat_size.f n) bits_Mul64.f bits_Add64.f (nat_cut.f n)) (funext fun y0 => q255 n y0)) ((funext fun y0 => (funext fun y1 => (funext fun y2 => (funext fun y3 => (funext fun y4 => (funext fun y5 => (funext fun y6 => (funext fun y7 => (funext fun y8 => q2085685 n m n y0 y1 y2 y3 y4 y5 y6 y7 y8))))))))).trans (by rw [show (fun y0 y1 y2 y3 y4 => A (nat_big.f n) (nat_size.f n) bits_Mul64.f bits_Add64.f (nat_cut.f n) n idJ 2037 [m] (s2037 y0 y1 y2 y3 y4)) = _ from (funext fun y0 => (funext fun y1 => (funext fun y2 => (funext fun y3 => (funext fun y4 => ih y0 y1 y2 y3 y4)))))]))) x0) x1) x2) x3) x4
theorem eq (n : Nat) (l0 l1 : Λ) : afun (cfg (nat_big.f n) (nat_size.f n) bits_Mul64.f bits_Add64.f (nat_cut.f n)) idJ cuts n code Tryd.f19.results.toList [false, false] [.ro .u64 l0, .ro .u64 l1] sg.out = f n l0 l1 := (e0 (nat_big.f n) (nat_size.f n) bits_Mul64.f bits_Add64.f (nat_cut.f n) n idJ l0 l1).trans (congrFun (congrFun (congrArg (b0 (nat_big.f n) (nat_size.f n) bits_Mul64.f bits_Add64.f (nat_cut.f n)) (funext fun y0 => (funext fun y1 => (funext fun y2 => (funext fun y3 => (funext fun y4 => q2037 n n y0 y1 y2 y3 y4)))))) l0) l1)
theorem ok {n : Nat} {l0 : Λ} {l1 : Λ} {r : Λ × Int} (h : f n l0 l1 = some r) : CallD Tryd.prog HW 19 [.ro .u64 l0, .ro .u64 l1] (sg.enc r) :=
  fun_some hwS Tryd.func19 (by kernel_rfl) (body := code) (by kernel_rfl) tys_ok (c := cfg (nat_big.f n) (nat_size.f n) bits_Mul64.f bits_Add64.f (nat_cut.f n)) (orCall_ok (nat_big.call_ok (n := n)) (orCall_ok (nat_size.call_ok (n := n)) (orCall_ok (bits_Mul64.call_ok (n := n)) (orCall_ok (bits_Add64.call_ok (n := n)) (orCall_ok (nat_cut.call_ok (n := n)) noCall_ok))))) noW_ok (by kernel_rfl) (by kernel_rfl) (Nat.le_of_ble_eq_true (by kernel_rfl)) ((eq n l0 l1).trans h)
noncomputable def call {α : Type} (g : Λ→Λ→Ω (Λ × Int)) (ds : List D) (K : List D→Ω α) : Ω α := match ds with
  | [.ro .u64 l0, .ro .u64 l1] => (g l0 l1).bind fun r => K (sg.enc r)
  | _ => none
theorem call_ok {α : Type} {n : Nat} (ds : List D) (K : List D→Ω α) (r : α) (h : call (f n) ds K = some r) : ∃ rs, K rs = some r ∧ CallD Tryd.prog HW 19 ds rs := by
  unfold call at h
  split at h
  · obtain ⟨x, hx, hk⟩ := Option.bind_eq_some_iff.1 h
    exact ⟨_, hk, ok (n := n) hx⟩
  · cases h
end nat_Mul
/-! ### quot_Pow: function 69 -/
namespace quot_Pow
noncomputable def b0 (c19 : Λ→Λ→Ω (Λ × Int)) (c84 : Λ→Ω (Int)) (c91 : Λ→Int→Ω (Λ × Bool)) (c92 : Int→Ω (Int)) (k1013 : Int→Λ→Λ→Int→Ω (Λ × Int)) (l0 : Λ) (a1 : Int) : Ω (Λ × Int) := ((c91 l0 4096).bind fun t1 => ((c84 t1.1).bind fun t2 => (if (!t1.2) = true then some (([] : Λ), 2) else (if a1 < 0 then some (([] : Λ), 1) else (if a1 = 0 then some ([1], 0) else (if t2 ≤ 1 then some (t1.1, 0) else (if a1 ≥ 262144 then some (([] : Λ), 2) else (if (wrap64 ((wrap64 (t2 - 1)) * a1)) ≥ 262144 then some (([] : Λ), 2) else ((c92 (IntKind.u64.wrap a1)).bind fun t3 => k1013 a1 t1.1 [1] (wrap64 (t3 - 1)))))))))))
noncomputable def b1013 (c19 : Λ→Λ→Ω (Λ × Int)) (c84 : Λ→Ω (Int)) (c91 : Λ→Int→Ω (Λ × Bool)) (c92 : Int→Ω (Int)) (k64807 : Int→Λ→Λ→Int→Int→Ω (Λ × Int)) (x0 : Int) (x1 x2 : Λ) (x3 : Int) : Ω (Λ × Int) := (if x3 ≥ 0 then ((c19 x2 x2).bind fun t1 => (if t1.2 = 0 then (if 0 ≤ (IntKind.u64.wrap x3) then (if (Go.bits .and .i64 (shr .i64 x0 (IntKind.u64.wrap x3)) 1) = 1 then ((c19 t1.1 x1).bind fun t2 => k64807 x0 x1 t2.1 x3 t2.2) else k64807 x0 x1 t1.1 x3 t1.2) else none) else k64807 x0 x1 t1.1 x3 t1.2)) else some (x2, 0))
noncomputable def b64807 (c19 : Λ→Λ→Ω (Λ × Int)) (c84 : Λ→Ω (Int)) (c91 : Λ→Int→Ω (Λ × Bool)) (c92 : Int→Ω (Int)) (k1013 : Int→Λ→Λ→Int→Ω (Λ × Int)) (x0 : Int) (x1 x2 : Λ) (x3 x4 : Int) : Ω (Λ × Int) := (if ¬ x4 = 0 then some (([] : Λ), x4) else k1013 x0 x1 x2 (wrap64 (x3 - 1)))
noncomputable def l64807 (n : Nat) (k1013 : Int→Λ→Λ→Int→Ω (Λ × Int)) (x0 : Int) (x1 x2 : Λ) (x3 x4 : Int) : Ω (Λ × Int) := b64807 (nat_Mul.f n) (nat_BitLen.f n) (quot_small.f n) bits_Len.f k1013 x0 x1 x2 x3 x4
noncomputable def l1013 (n : Nat) : Nat→Int→Λ→Λ→Int→Ω (Λ × Int)
  | 0, _, _, _, _ => none
  | m + 1, x0, x1, x2, x3 => b1013 (nat_Mul.f n) (nat_BitLen.f n) (quot_small.f n) bits_Len.f (l64807 n (l1013 n m)) x0 x1 x2 x3
noncomputable def f (n : Nat) (l0 : Λ) (a1 : Int) : Ω (Λ × Int) := b0 (nat_Mul.f n) (nat_BitLen.f n) (quot_small.f n) bits_Len.f (l1013 n n) l0 a1
noncomputable def sg : Sig (Λ × Int) := s2 (sRow .u64) (s1 (sInt .i64))
noncomputable def code : Code := (Tryd.f69.body).getD .skip
noncomputable def cfg (c19 : Λ→Λ→Ω (Λ × Int)) (c84 : Λ→Ω (Int)) (c91 : Λ→Int→Ω (Λ × Bool)) (c92 : Int→Ω (Int)) : Cfg (Λ × Int) := { T := tys, call := orCall 19 (nat_Mul.call c19) (orCall 84 (nat_BitLen.call c84) (orCall 91 (quot_small.call c91) (orCall 92 (bits_Len.call c92) (noCall)))) }
noncomputable def cuts : List (Nat × List (Nat × Want)) := [(1013, [(1, .keep), (6, .keep), (9, .cast), (10, .keep)]), (64807, [(1, .keep), (6, .keep), (9, .keep), (10, .keep), (11, .keep)])]
noncomputable def s1013 (x0 : Int) (x1 x2 : Λ) (x3 : Int) : ASt := ⟨[(1, .int .i64 x0), (6, .ro .u64 x1), (9, .ro .u64 x2), (10, .int .i64 x3)], []⟩
noncomputable def s64807 (x0 : Int) (x1 x2 : Λ) (x3 x4 : Int) : ASt := ⟨[(1, .int .i64 x0), (6, .ro .u64 x1), (9, .ro .u64 x2), (10, .int .i64 x3), (11, .int .i64 x4)], []⟩
noncomputable def A (c19 : Λ→Λ→Ω (Λ × Int)) (c84 : Λ→Ω (Int)) (c91 : Λ→Int→Ω (Λ × Bool)) (c92 : Int→Ω (Int)) (n : Nat) (J : Jt (Λ × Int)) (q : Nat) (ms : List Nat) : ASt→Ω (Λ × Int) := acont (cfg c19 c84 c91 c92) J cuts n q code 1 ms (aend (cfg c19 c84 c91 c92) Tryd.f69.results.toList [false, false] sg.out)
theorem e0 (c19 : Λ→Λ→Ω (Λ × Int)) (c84 : Λ→Ω (Int)) (c91 : Λ→Int→Ω (Λ × Bool)) (c92 : Int→Ω (Int)) (n : Nat) (J : Jt (Λ × Int)) (l0 : Λ) (a1 : Int) : afun (cfg c19 c84 c91 c92) J cuts n code Tryd.f69.results.toList [false, false] [.ro .u64 l0, .int .i64 a1] sg.out = b0 c19 c84 c91 c92 (fun y0 y1 y2 y3 => J 1013 (A c19 c84 c91 c92 n J 1013 [n]) (s1013 y0 y1 y2 y3)) l0 a1 := by kernel_rfl
theorem e1013 (c19 : Λ→Λ→Ω (Λ × Int)) (c84 : Λ→Ω (Int)) (c91 : Λ→Int→Ω (Λ × Bool)) (c92 : Int→Ω (Int)) (n : Nat) (J : Jt (Λ × Int)) (m : Nat) (x0 : Int) (x1 x2 : Λ) (x3 : Int) : A c19 c84 c91 c92 n J 1013 [m + 1] (s1013 x0 x1 x2 x3) = b1013 c19 c84 c91 c92 (fun y0 y1 y2 y3 y4 => J 64807 (A c19 c84 c91 c92 n J 64807 [m]) (s64807 y0 y1 y2 y3 y4)) x0 x1 x2 x3 := by kernel_rfl
theorem e64807 (c19 : Λ→Λ→Ω (Λ × Int)) (c84 : Λ→Ω (Int)) (c91 : Λ→Int→Ω (Λ × Bool)) (c92 : Int→Ω (Int)) (n : Nat) (J : Jt (Λ × Int)) (m1013 : Nat) (x0 : Int) (x1 x2 : Λ) (x3 x4 : Int) : A c19 c84 c91 c92 n J 64807 [m1013] (s64807 x0 x1 x2 x3 x4) = b64807 c19 c84 c91 c92 (fun y0 y1 y2 y3 => J 1013 (A c19 c84 c91 c92 n J 1013 [m1013]) (s1013 y0 y1 y2 y3)) x0 x1 x2 x3 x4 := by kernel_rfl
theorem q64807 (n m1013 : Nat) (x0 : Int) (x1 x2 : Λ) (x3 x4 : Int) : A (nat_Mul.f n) (nat_BitLen.f n) (quot_small.f n) bits_Len.f n idJ 64807 [m1013] (s64807 x0 x1 x2 x3 x4) = l64807 n (fun y0 y1 y2 y3 => A (nat_Mul.f n) (nat_BitLen.f n) (quot_small.f n) bits_Len.f n idJ 1013 [m1013] (s1013 y0 y1 y2 y3)) x0 x1 x2 x3 x4 := (e64807 (nat_Mul.f n) (nat_BitLen.f n) (quot_small.f n) bits_Len.f n idJ m1013 x0 x1 x2 x3 x4).trans (rfl)
theorem q1013 (n m : Nat) : ∀ (x0 : Int) (x1 x2 : Λ) (x3 : Int), A (nat_Mul.f n) (nat_BitLen.f n) (quot_small.f n) bits_Len.f n idJ 1013 [m] (s1013 x0 x1 x2 x3) = l1013 n m x0 x1 x2 x3 := by
  induction m with
  | zero => intros; rfl
  | succ m ih =>
    intro x0 x1 x2 x3
    refine (e1013 (nat_Mul.f n) (nat_BitLen.f n) (quot_small.f n) bits_Len.f n idJ m x0 x1 x2 x3).trans ?_
    exact congrFun (congrFun (congrFun (congrFun (congrArg (b1013 (nat_Mul.f n) (nat_BitLen.f n) (quot_small.f n) bits_Len.f) ((funext fun y0 => (funext fun y1 => (funext fun y2 => (funext fun y3 => (funext fun y4 => q64807 n m y0 y1 y2 y3 y4))))).trans (by rw [show (fun y0 y1 y2 y3 => A (nat_Mul.f n) (nat_BitLen.f n) (quot_small.f n) bits_Len.f n idJ 1013 [m] (s1013 y0 y1 y2 y3)) = _ from (funext fun y0 => (funext fun y1 => (funext fun y2 => (funext fun y3 => ih y0 y1 y2 y3))))]))) x0) x1) x2) x3
theorem eq (n : Nat) (l0 : Λ) (a1 : Int) : afun (cfg (nat_Mul.f n) (nat_BitLen.f n) (quot_small.f n) bits_Len.f) idJ cuts n code Tryd.f69.results.toList [false, false] [.ro .u64 l0, .int .i64 a1] sg.out = f n l0 a1 := (e0 (nat_Mul.f n) (nat_BitLen.f n) (quot_small.f n) bits_Len.f n idJ l0 a1).trans (congrFun (congrFun (congrArg (b0 (nat_Mul.f n) (nat_BitLen.f n) (quot_small.f n) bits_Len.f) (funext fun y0 => (funext fun y1 => (funext fun y2 => (funext fun y3 => q1013 n n y0 y1 y2 y3))))) l0) a1)
theorem ok {n : Nat} {l0 : Λ} {a1 : Int} {r : Λ × Int} (h : f n l0 a1 = some r) : CallD Tryd.prog HW 69 [.ro .u64 l0, .int .i64 a1] (sg.enc r) :=
  fun_some hwS Tryd.func69 (by kernel_rfl) (body := code) (by kernel_rfl) tys_ok (c := cfg (nat_Mul.f n) (nat_BitLen.f n) (quot_small.f n) bits_Len.f) (orCall_ok (nat_Mul.call_ok (n := n)) (orCall_ok (nat_BitLen.call_ok (n := n)) (orCall_ok (quot_small.call_ok (n := n)) (orCall_ok (bits_Len.call_ok (n := n)) noCall_ok)))) noW_ok (by kernel_rfl) (by kernel_rfl) (Nat.le_of_ble_eq_true (by kernel_rfl)) ((eq n l0 a1).trans h)
noncomputable def call {α : Type} (g : Λ→Int→Ω (Λ × Int)) (ds : List D) (K : List D→Ω α) : Ω α := match ds with
  | [.ro .u64 l0, .int .i64 a1] => (g l0 a1).bind fun r => K (sg.enc r)
  | _ => none
theorem call_ok {α : Type} {n : Nat} (ds : List D) (K : List D→Ω α) (r : α) (h : call (f n) ds K = some r) : ∃ rs, K rs = some r ∧ CallD Tryd.prog HW 69 ds rs := by
  unfold call at h
  split at h
  · obtain ⟨x, hx, hk⟩ := Option.bind_eq_some_iff.1 h
    exact ⟨_, hk, ok (n := n) hx⟩
  · cases h
end quot_Pow
/-! ### nat_Cmp: function 21 -/
namespace nat_Cmp
noncomputable def b0 (c51 : Λ→Ω (Int)) (k245 : Λ→Λ→Int→Ω (Int)) (l0 l1 : Λ) : Ω (Int) := ((c51 l0).bind fun t1 => ((c51 l1).bind fun t2 => (if ¬ t1 = t2 then (if t1 < t2 then some (-1) else some 1) else k245 l0 l1 (wrap64 (t1 - 1)))))
noncomputable def b245 (c51 : Λ→Ω (Int)) (k245 : Λ→Λ→Int→Ω (Int)) (x0 x1 : Λ) (x2 : Int) : Ω (Int) := (if x2 ≥ 0 then (if 0 ≤ x2 then (if x2 < (ln x0) then (if 0 ≤ x2 then (if x2 < (ln x1) then (if ¬ (rd x0 x2) = (rd x1 x2) then (if 0 ≤ x2 then (if x2 < (ln x0) then (if 0 ≤ x2 then (if x2 < (ln x1) then (if (rd x0 x2) < (rd x1 x2) then some (-1) else some 1) else none) else none) else none) else none) else k245 x0 x1 (wrap64 (x2 - 1))) else none) else none) else none) else none) else some 0)
noncomputable def l245 (n : Nat) : Nat→Λ→Λ→Int→Ω (Int)
  | 0, _, _, _ => none
  | m + 1, x0, x1, x2 => b245 (nat_size.f n) (l245 n m) x0 x1 x2
noncomputable def f (n : Nat) (l0 l1 : Λ) : Ω (Int) := b0 (nat_size.f n) (l245 n n) l0 l1
noncomputable def sg : Sig (Int) := s1 (sInt .i64)
noncomputable def code : Code := (Tryd.f21.body).getD .skip
noncomputable def cfg (c51 : Λ→Ω (Int)) : Cfg (Int) := { T := tys, call := orCall 51 (nat_size.call c51) (noCall) }
noncomputable def cuts : List (Nat × List (Nat × Want)) := [(245, [(0, .keep), (1, .keep), (7, .keep)])]
noncomputable def s245 (x0 x1 : Λ) (x2 : Int) : ASt := ⟨[(0, .ro .u64 x0), (1, .ro .u64 x1), (7, .int .i64 x2)], []⟩
noncomputable def A (c51 : Λ→Ω (Int)) (n : Nat) (J : Jt (Int)) (q : Nat) (ms : List Nat) : ASt→Ω (Int) := acont (cfg c51) J cuts n q code 1 ms (aend (cfg c51) Tryd.f21.results.toList [false] sg.out)
theorem e0 (c51 : Λ→Ω (Int)) (n : Nat) (J : Jt (Int)) (l0 l1 : Λ) : afun (cfg c51) J cuts n code Tryd.f21.results.toList [false] [.ro .u64 l0, .ro .u64 l1] sg.out = b0 c51 (fun y0 y1 y2 => J 245 (A c51 n J 245 [n]) (s245 y0 y1 y2)) l0 l1 := by kernel_rfl
theorem e245 (c51 : Λ→Ω (Int)) (n : Nat) (J : Jt (Int)) (m : Nat) (x0 x1 : Λ) (x2 : Int) : A c51 n J 245 [m + 1] (s245 x0 x1 x2) = b245 c51 (fun y0 y1 y2 => J 245 (A c51 n J 245 [m]) (s245 y0 y1 y2)) x0 x1 x2 := by kernel_rfl
theorem q245 (n m : Nat) : ∀ (x0 x1 : Λ) (x2 : Int), A (nat_size.f n) n idJ 245 [m] (s245 x0 x1 x2) = l245 n m x0 x1 x2 := by
  induction m with
  | zero => intros; rfl
  | succ m ih =>
    intro x0 x1 x2
    refine (e245 (nat_size.f n) n idJ m x0 x1 x2).trans ?_
    exact congrFun (congrFun (congrFun (congrArg (b245 (nat_size.f n)) (funext fun y0 => (funext fun y1 => (funext fun y2 => ih y0 y1 y2)))) x0) x1) x2
theorem eq (n : Nat) (l0 l1 : Λ) : afun (cfg (nat_size.f n)) idJ cuts n code Tryd.f21.results.toList [false] [.ro .u64 l0, .ro .u64 l1] sg.out = f n l0 l1 := (e0 (nat_size.f n) n idJ l0 l1).trans (congrFun (congrFun (congrArg (b0 (nat_size.f n)) (funext fun y0 => (funext fun y1 => (funext fun y2 => q245 n n y0 y1 y2)))) l0) l1)
theorem ok {n : Nat} {l0 : Λ} {l1 : Λ} {r : Int} (h : f n l0 l1 = some r) : CallD Tryd.prog HW 21 [.ro .u64 l0, .ro .u64 l1] (sg.enc r) :=
  fun_some hwS Tryd.func21 (by kernel_rfl) (body := code) (by kernel_rfl) tys_ok (c := cfg (nat_size.f n)) (orCall_ok (nat_size.call_ok (n := n)) noCall_ok) noW_ok (by kernel_rfl) (by kernel_rfl) (Nat.le_of_ble_eq_true (by kernel_rfl)) ((eq n l0 l1).trans h)
noncomputable def call {α : Type} (g : Λ→Λ→Ω (Int)) (ds : List D) (K : List D→Ω α) : Ω α := match ds with
  | [.ro .u64 l0, .ro .u64 l1] => (g l0 l1).bind fun r => K (sg.enc r)
  | _ => none
theorem call_ok {α : Type} {n : Nat} (ds : List D) (K : List D→Ω α) (r : α) (h : call (f n) ds K = some r) : ∃ rs, K rs = some r ∧ CallD Tryd.prog HW 21 ds rs := by
  unfold call at h
  split at h
  · obtain ⟨x, hx, hk⟩ := Option.bind_eq_some_iff.1 h
    exact ⟨_, hk, ok (n := n) hx⟩
  · cases h
end nat_Cmp
/-! ### nat_DivSmall: function 102 -/
namespace nat_DivSmall
noncomputable def b0 (c50 : Λ→Ω (Bool)) (c51 : Λ→Ω (Int)) (c54 : Λ→Ω (Λ × Int)) (c97 : Int→Int→Int→Ω (Int × Int)) (k2037 : Λ→Int→Int→Int→Λ→Ω (Λ × Int × Int)) (l0 : Λ) (a1 : Int) : Ω (Λ × Int × Int) := ((c50 l0).bind fun t1 => (if t1 = true then some (([] : Λ), 0, 2) else (if a1 = 0 then some (([] : Λ), 0, 4) else ((c51 l0).bind fun t2 => (if 0 ≤ t2 then (if t2 ≤ (ln l0) then ((some (l0.take t2.toNat) : Ω (Λ)).bind fun y3 => (if 0 ≤ (ln y3) then (if (ln y3).toNat ≤ 35184372088832 then k2037 y3 a1 0 (wrap64 ((ln y3) - 1)) (List.replicate (ln y3).toNat (0 : Int)) else none) else none)) else none) else none)))))
noncomputable def b255 (c50 : Λ→Ω (Bool)) (c51 : Λ→Ω (Int)) (c54 : Λ→Ω (Λ × Int)) (c97 : Int→Int→Int→Ω (Int × Int)) (x0 : Int) (x1 : Λ) : Ω (Λ × Int × Int) := ((c54 x1).bind fun t1 => some (t1.1, x0, t1.2))
noncomputable def b2037 (c50 : Λ→Ω (Bool)) (c51 : Λ→Ω (Int)) (c54 : Λ→Ω (Λ × Int)) (c97 : Int→Int→Int→Ω (Int × Int)) (k255 : Int→Λ→Ω (Λ × Int × Int)) (k2037 : Λ→Int→Int→Int→Λ→Ω (Λ × Int × Int)) (x0 : Λ) (x1 x2 x3 : Int) (x4 : Λ) : Ω (Λ × Int × Int) := (if x3 ≥ 0 then (if 0 ≤ x3 then (if x3 < (ln x0) then ((c97 x2 (rd x0 x3) x1).bind fun t1 => (if 0 ≤ x3 then (if x3 < (ln x4) then k2037 x0 x1 t1.2 (wrap64 (x3 - 1)) (x4.set (x3 : Int).toNat t1.1) else none) else none)) else none) else none) else k255 x2 x4)
noncomputable def l255 (n : Nat) (x0 : Int) (x1 : Λ) : Ω (Λ × Int × Int) := b255 (nat_big.f n) (nat_size.f n) (nat_cut.f n) (bits_Div64.f n) x0 x1
noncomputable def l2037 (n : Nat) : Nat→Λ→Int→Int→Int→Λ→Ω (Λ × Int × Int)
  | 0, _, _, _, _, _ => none
  | m + 1, x0, x1, x2, x3, x4 => b2037 (nat_big.f n) (nat_size.f n) (nat_cut.f n) (bits_Div64.f n) (l255 n) (l2037 n m) x0 x1 x2 x3 x4
noncomputable def f (n : Nat) (l0 : Λ) (a1 : Int) : Ω (Λ × Int × Int) := b0 (nat_big.f n) (nat_size.f n) (nat_cut.f n) (bits_Div64.f n) (l2037 n n) l0 a1
noncomputable def sg : Sig (Λ × Int × Int) := s2 (sRow .u64) (s2 (sInt .u64) (s1 (sInt .i64)))
noncomputable def code : Code := (Tryd.f102.body).getD .skip
noncomputable def cfg (c50 : Λ→Ω (Bool)) (c51 : Λ→Ω (Int)) (c54 : Λ→Ω (Λ × Int)) (c97 : Int→Int→Int→Ω (Int × Int)) : Cfg (Λ × Int × Int) := { T := tys, call := orCall 50 (nat_big.call c50) (orCall 51 (nat_size.call c51) (orCall 54 (nat_cut.call c54) (orCall 97 (bits_Div64.call c97) (noCall)))) }
noncomputable def cuts : List (Nat × List (Nat × Want)) := [(255, [(7, .keep), (8, .keep)]), (2037, [(0, .keep), (1, .keep), (7, .keep), (8, .keep), (9, .keep)])]
noncomputable def s255 (x0 : Int) (x1 : Λ) : ASt := ⟨[(7, .own 0), (8, .int .u64 x0)], [.ints 22 .u64 x1]⟩
noncomputable def s2037 (x0 : Λ) (x1 x2 x3 : Int) (x4 : Λ) : ASt := ⟨[(0, .ro .u64 x0), (1, .int .u64 x1), (7, .own 0), (8, .int .u64 x2), (9, .int .i64 x3)], [.ints 22 .u64 x4]⟩
noncomputable def A (c50 : Λ→Ω (Bool)) (c51 : Λ→Ω (Int)) (c54 : Λ→Ω (Λ × Int)) (c97 : Int→Int→Int→Ω (Int × Int)) (n : Nat) (J : Jt (Λ × Int × Int)) (q : Nat) (ms : List Nat) : ASt→Ω (Λ × Int × Int) := acont (cfg c50 c51 c54 c97) J cuts n q code 1 ms (aend (cfg c50 c51 c54 c97) Tryd.f102.results.toList [false, false, false] sg.out)
theorem e0 (c50 : Λ→Ω (Bool)) (c51 : Λ→Ω (Int)) (c54 : Λ→Ω (Λ × Int)) (c97 : Int→Int→Int→Ω (Int × Int)) (n : Nat) (J : Jt (Λ × Int × Int)) (l0 : Λ) (a1 : Int) : afun (cfg c50 c51 c54 c97) J cuts n code Tryd.f102.results.toList [false, false, false] [.ro .u64 l0, .int .u64 a1] sg.out = b0 c50 c51 c54 c97 (fun y0 y1 y2 y3 y4 => J 2037 (A c50 c51 c54 c97 n J 2037 [n]) (s2037 y0 y1 y2 y3 y4)) l0 a1 := by kernel_rfl
theorem e255 (c50 : Λ→Ω (Bool)) (c51 : Λ→Ω (Int)) (c54 : Λ→Ω (Λ × Int)) (c97 : Int→Int→Int→Ω (Int × Int)) (n : Nat) (J : Jt (Λ × Int × Int)) (x0 : Int) (x1 : Λ) : A c50 c51 c54 c97 n J 255 [] (s255 x0 x1) = b255 c50 c51 c54 c97 x0 x1 := by kernel_rfl
theorem e2037 (c50 : Λ→Ω (Bool)) (c51 : Λ→Ω (Int)) (c54 : Λ→Ω (Λ × Int)) (c97 : Int→Int→Int→Ω (Int × Int)) (n : Nat) (J : Jt (Λ × Int × Int)) (m : Nat) (x0 : Λ) (x1 x2 x3 : Int) (x4 : Λ) : A c50 c51 c54 c97 n J 2037 [m + 1] (s2037 x0 x1 x2 x3 x4) = b2037 c50 c51 c54 c97 (fun y0 y1 => J 255 (A c50 c51 c54 c97 n J 255 []) (s255 y0 y1)) (fun y0 y1 y2 y3 y4 => J 2037 (A c50 c51 c54 c97 n J 2037 [m]) (s2037 y0 y1 y2 y3 y4)) x0 x1 x2 x3 x4 := by kernel_rfl
theorem q255 (n : Nat) (x0 : Int) (x1 : Λ) : A (nat_big.f n) (nat_size.f n) (nat_cut.f n) (bits_Div64.f n) n idJ 255 [] (s255 x0 x1) = l255 n x0 x1 := (e255 (nat_big.f n) (nat_size.f n) (nat_cut.f n) (bits_Div64.f n) n idJ x0 x1).trans (rfl)
theorem q2037 (n m : Nat) : ∀ (x0 : Λ) (x1 x2 x3 : Int) (x4 : Λ), A (nat_big.f n) (nat_size.f n) (nat_cut.f n) (bits_Div64.f n) n idJ 2037 [m] (s2037 x0 x1 x2 x3 x4) = l2037 n m x0 x1 x2 x3 x4 := by
  induction m with
  | zero => intros; rfl
  | succ m ih =>
    intro x0 x1 x2 x3 x4
    refine (e2037 (nat_big.f n) (nat_size.f n) (nat_cut.f n) (bits_Div64.f n) n idJ m x0 x1 x2 x3 x4).trans ?_
    exact congrFun (congrFun (congrFun (congrFun (congrFun (congr (congrArg (b2037 (nat_big.f n) (nat_size.f n) (nat_cut.f n) (bits_Div64.f n)) (funext fun y0 => (funext fun y1 => q255 n y0 y1))) (funext fun y0 => (funext fun y1 => (funext fun y2 => (funext fun y3 => (funext fun y4 => ih y0 y1 y2 y3 y4)))))) x0) x1) x2) x3) x4
theorem eq (n : Nat) (l0 : Λ) (a1 : Int) : afun (cfg (nat_big.f n) (nat_size.f n) (nat_cut.f n) (bits_Div64.f n)) idJ cuts n code Tryd.f102.results.toList [false, false, false] [.ro .u64 l0, .int .u64 a1] sg.out = f n l0 a1 := (e0 (nat_big.f n) (nat_size.f n) (nat_cut.f n) (bits_Div64.f n) n idJ l0 a1).trans (congrFun (congrFun (congrArg (b0 (nat_big.f n) (nat_size.f n) (nat_cut.f n) (bits_Div64.f n)) (funext fun y0 => (funext fun y1 => (funext fun y2 => (funext fun y3 => (funext fun y4 => q2037 n n y0 y1 y2 y3 y4)))))) l0) a1)
theorem ok {n : Nat} {l0 : Λ} {a1 : Int} {r : Λ × Int × Int} (h : f n l0 a1 = some r) : CallD Tryd.prog HW 102 [.ro .u64 l0, .int .u64 a1] (sg.enc r) :=
  fun_some hwS Tryd.func102 (by kernel_rfl) (body := code) (by kernel_rfl) tys_ok (c := cfg (nat_big.f n) (nat_size.f n) (nat_cut.f n) (bits_Div64.f n)) (orCall_ok (nat_big.call_ok (n := n)) (orCall_ok (nat_size.call_ok (n := n)) (orCall_ok (nat_cut.call_ok (n := n)) (orCall_ok (bits_Div64.call_ok (n := n)) noCall_ok)))) noW_ok (by kernel_rfl) (by kernel_rfl) (Nat.le_of_ble_eq_true (by kernel_rfl)) ((eq n l0 a1).trans h)
noncomputable def call {α : Type} (g : Λ→Int→Ω (Λ × Int × Int)) (ds : List D) (K : List D→Ω α) : Ω α := match ds with
  | [.ro .u64 l0, .int .u64 a1] => (g l0 a1).bind fun r => K (sg.enc r)
  | _ => none
theorem call_ok {α : Type} {n : Nat} (ds : List D) (K : List D→Ω α) (r : α) (h : call (f n) ds K = some r) : ∃ rs, K rs = some r ∧ CallD Tryd.prog HW 102 ds rs := by
  unfold call at h
  split at h
  · obtain ⟨x, hx, hk⟩ := Option.bind_eq_some_iff.1 h
    exact ⟨_, hk, ok (n := n) hx⟩
  · cases h
end nat_DivSmall
/-! ### quot_raised: function 105 -/
namespace quot_raised
noncomputable def b0 (k117 : Int→Int→Λ→Int→Int→Λ→Ω (Λ)) (l0 : Λ) (a1 a2 : Int) : Ω (Λ) := (if 0 ≤ a2 then (if a2.toNat ≤ 35184372088832 then k117 a1 a2 l0 (ln l0) 0 (List.replicate a2.toNat (0 : Int)) else none) else none)
noncomputable def b117 (k117 : Int→Int→Λ→Int→Int→Λ→Ω (Λ)) (x0 x1 : Int) (x2 : Λ) (x3 x4 : Int) (x5 : Λ) : Ω (Λ) := (if x4 < x3 then (if 0 ≤ x4 then (if x4 < (ln x2) then (if 0 ≤ x4 then (if x4 < (ln x5) then (if 0 ≤ (IntKind.u64.wrap x0) then (if 0 ≤ x4 then (if x4 < (ln x5) then (if (wrap64 (x4 + 1)) < x1 then (if x0 > 0 then (if 0 ≤ (IntKind.u64.wrap (wrap64 (64 - x0))) then (if 0 ≤ (wrap64 (x4 + 1)) then (if (wrap64 (x4 + 1)) < (ln (x5.set (x4 : Int).toNat (Go.bits .or .u64 (rd x5 x4) (shl .u64 (rd x2 x4) (IntKind.u64.wrap x0))))) then k117 x0 x1 x2 x3 (wrap64 (x4 + 1)) ((x5.set (x4 : Int).toNat (Go.bits .or .u64 (rd x5 x4) (shl .u64 (rd x2 x4) (IntKind.u64.wrap x0)))).set (wrap64 (x4 + 1) : Int).toNat (shr .u64 (rd x2 x4) (IntKind.u64.wrap (wrap64 (64 - x0))))) else none) else none) else none) else k117 x0 x1 x2 x3 (wrap64 (x4 + 1)) (x5.set (x4 : Int).toNat (Go.bits .or .u64 (rd x5 x4) (shl .u64 (rd x2 x4) (IntKind.u64.wrap x0))))) else k117 x0 x1 x2 x3 (wrap64 (x4 + 1)) (x5.set (x4 : Int).toNat (Go.bits .or .u64 (rd x5 x4) (shl .u64 (rd x2 x4) (IntKind.u64.wrap x0))))) else none) else none) else none) else none) else none) else none) else none) else some x5)
noncomputable def l117 (n : Nat) : Nat→Int→Int→Λ→Int→Int→Λ→Ω (Λ)
  | 0, _, _, _, _, _, _ => none
  | m + 1, x0, x1, x2, x3, x4, x5 => b117 (l117 n m) x0 x1 x2 x3 x4 x5
noncomputable def f (n : Nat) (l0 : Λ) (a1 a2 : Int) : Ω (Λ) := b0 (l117 n n) l0 a1 a2
noncomputable def sg : Sig (Λ) := s1 (sOwn 22 .u64)
noncomputable def code : Code := (Tryd.f105.body).getD .skip
noncomputable def cfg : Cfg (Λ) := { T := tys, call := noCall }
noncomputable def cuts : List (Nat × List (Nat × Want)) := [(117, [(1, .keep), (2, .keep), (7, .keep), (12, .keep), (13, .keep), (14, .keep)])]
noncomputable def s117 (x0 x1 : Int) (x2 : Λ) (x3 x4 : Int) (x5 : Λ) : ASt := ⟨[(1, .int .i64 x0), (2, .int .i64 x1), (7, .own 0), (12, .ro .u64 x2), (13, .int .i64 x3), (14, .int .i64 x4)], [.ints 22 .u64 x5]⟩
noncomputable def A (n : Nat) (J : Jt (Λ)) (q : Nat) (ms : List Nat) : ASt→Ω (Λ) := acont cfg J cuts n q code 1 ms (aend cfg Tryd.f105.results.toList [true] sg.out)
theorem e0 (n : Nat) (J : Jt (Λ)) (l0 : Λ) (a1 a2 : Int) : afun cfg J cuts n code Tryd.f105.results.toList [true] [.ro .u64 l0, .int .i64 a1, .int .i64 a2] sg.out = b0 (fun y0 y1 y2 y3 y4 y5 => J 117 (A n J 117 [n]) (s117 y0 y1 y2 y3 y4 y5)) l0 a1 a2 := by kernel_rfl
theorem e117 (n : Nat) (J : Jt (Λ)) (m : Nat) (x0 x1 : Int) (x2 : Λ) (x3 x4 : Int) (x5 : Λ) : A n J 117 [m + 1] (s117 x0 x1 x2 x3 x4 x5) = b117 (fun y0 y1 y2 y3 y4 y5 => J 117 (A n J 117 [m]) (s117 y0 y1 y2 y3 y4 y5)) x0 x1 x2 x3 x4 x5 := by kernel_rfl
theorem q117 (n m : Nat) : ∀ (x0 x1 : Int) (x2 : Λ) (x3 x4 : Int) (x5 : Λ), A n idJ 117 [m] (s117 x0 x1 x2 x3 x4 x5) = l117 n m x0 x1 x2 x3 x4 x5 := by
  induction m with
  | zero => intros; rfl
  | succ m ih =>
    intro x0 x1 x2 x3 x4 x5
    refine (e117 n idJ m x0 x1 x2 x3 x4 x5).trans ?_
    exact congrFun (congrFun (congrFun (congrFun (congrFun (congrFun (congrArg b117 (funext fun y0 => (funext fun y1 => (funext fun y2 => (funext fun y3 => (funext fun y4 => (funext fun y5 => ih y0 y1 y2 y3 y4 y5))))))) x0) x1) x2) x3) x4) x5
theorem eq (n : Nat) (l0 : Λ) (a1 a2 : Int) : afun cfg idJ cuts n code Tryd.f105.results.toList [true] [.ro .u64 l0, .int .i64 a1, .int .i64 a2] sg.out = f n l0 a1 a2 := (e0 n idJ l0 a1 a2).trans (congrFun (congrFun (congrFun (congrArg b0 (funext fun y0 => (funext fun y1 => (funext fun y2 => (funext fun y3 => (funext fun y4 => (funext fun y5 => q117 n n y0 y1 y2 y3 y4 y5))))))) l0) a1) a2)
theorem ok {n : Nat} {l0 : Λ} {a1 : Int} {a2 : Int} {r : Λ} (h : f n l0 a1 a2 = some r) : CallD Tryd.prog HW 105 [.ro .u64 l0, .int .i64 a1, .int .i64 a2] (sg.enc r) :=
  fun_some hwS Tryd.func105 (by kernel_rfl) (body := code) (by kernel_rfl) tys_ok (c := cfg) noCall_ok noW_ok (by kernel_rfl) (by kernel_rfl) (Nat.le_of_ble_eq_true (by kernel_rfl)) ((eq n l0 a1 a2).trans h)
noncomputable def call {α : Type} (g : Λ→Int→Int→Ω (Λ)) (ds : List D) (K : List D→Ω α) : Ω α := match ds with
  | [.ro .u64 l0, .int .i64 a1, .int .i64 a2] => (g l0 a1 a2).bind fun r => K (sg.enc r)
  | _ => none
theorem call_ok {α : Type} {n : Nat} (ds : List D) (K : List D→Ω α) (r : α) (h : call (f n) ds K = some r) : ∃ rs, K rs = some r ∧ CallD Tryd.prog HW 105 ds rs := by
  unfold call at h
  split at h
  · obtain ⟨x, hx, hk⟩ := Option.bind_eq_some_iff.1 h
    exact ⟨_, hk, ok (n := n) hx⟩
  · cases h
end quot_raised
/-! ### quot_guess: function 106 -/
namespace quot_guess
noncomputable def b0 (c97 : Int→Int→Int→Ω (Int × Int)) (l0 l1 : Λ) : Ω (Int) := (if 0 ≤ (ln l1) then (if (ln l1) < (ln l0) then (if 0 ≤ (wrap64 ((ln l1) - 1)) then (if (wrap64 ((ln l1) - 1)) < (ln l1) then (if (rd l0 (ln l1)) ≥ (rd l1 (wrap64 ((ln l1) - 1))) then some 18446744073709551615 else (if 0 ≤ (ln l1) then (if (ln l1) < (ln l0) then (if 0 ≤ (wrap64 ((ln l1) - 1)) then (if (wrap64 ((ln l1) - 1)) < (ln l0) then (if 0 ≤ (wrap64 ((ln l1) - 1)) then (if (wrap64 ((ln l1) - 1)) < (ln l1) then ((c97 (rd l0 (ln l1)) (rd l0 (wrap64 ((ln l1) - 1))) (rd l1 (wrap64 ((ln l1) - 1)))).bind fun t1 => some t1.1) else none) else none) else none) else none) else none) else none)) else none) else none) else none) else none)
noncomputable def f (n : Nat) (l0 l1 : Λ) : Ω (Int) := b0 (bits_Div64.f n) l0 l1
noncomputable def sg : Sig (Int) := s1 (sInt .u64)
noncomputable def code : Code := (Tryd.f106.body).getD .skip
noncomputable def cfg (c97 : Int→Int→Int→Ω (Int × Int)) : Cfg (Int) := { T := tys, call := orCall 97 (bits_Div64.call c97) (noCall) }
noncomputable def cuts : List (Nat × List (Nat × Want)) := []
theorem e0 (c97 : Int→Int→Int→Ω (Int × Int)) (n : Nat) (J : Jt (Int)) (l0 l1 : Λ) : afun (cfg c97) J cuts n code Tryd.f106.results.toList [false] [.ro .u64 l0, .ro .u64 l1] sg.out = b0 c97 l0 l1 := by kernel_rfl
theorem eq (n : Nat) (l0 l1 : Λ) : afun (cfg (bits_Div64.f n)) idJ cuts n code Tryd.f106.results.toList [false] [.ro .u64 l0, .ro .u64 l1] sg.out = f n l0 l1 := (e0 (bits_Div64.f n) n idJ l0 l1).trans (rfl)
theorem ok {n : Nat} {l0 : Λ} {l1 : Λ} {r : Int} (h : f n l0 l1 = some r) : CallD Tryd.prog HW 106 [.ro .u64 l0, .ro .u64 l1] (sg.enc r) :=
  fun_some hwS Tryd.func106 (by kernel_rfl) (body := code) (by kernel_rfl) tys_ok (c := cfg (bits_Div64.f n)) (orCall_ok (bits_Div64.call_ok (n := n)) noCall_ok) noW_ok (by kernel_rfl) (by kernel_rfl) (Nat.le_of_ble_eq_true (by kernel_rfl)) ((eq n l0 l1).trans h)
noncomputable def call {α : Type} (g : Λ→Λ→Ω (Int)) (ds : List D) (K : List D→Ω α) : Ω α := match ds with
  | [.ro .u64 l0, .ro .u64 l1] => (g l0 l1).bind fun r => K (sg.enc r)
  | _ => none
theorem call_ok {α : Type} {n : Nat} (ds : List D) (K : List D→Ω α) (r : α) (h : call (f n) ds K = some r) : ∃ rs, K rs = some r ∧ CallD Tryd.prog HW 106 ds rs := by
  unfold call at h
  split at h
  · obtain ⟨x, hx, hk⟩ := Option.bind_eq_some_iff.1 h
    exact ⟨_, hk, ok (n := n) hx⟩
  · cases h
end quot_guess
/-! ### bits_Sub64: function 86 -/
namespace bits_Sub64
def f (a0 a1 a2 : Int) : Ω (Int × Int) := if 0 ≤ a0 ∧ 0 ≤ a1 ∧ a1 < 18446744073709551616 ∧ 0 ≤ a2 ∧ a2 ≤ 1 then some ((a0 - a1 - a2) % 18446744073709551616, if a0 < a1 + a2 then 1 else 0) else none
def sg : Sig (Int × Int) := s2 (sInt .u64) (s1 (sInt .u64))
theorem ok {a0 a1 a2 : Int} {r : Int × Int} (h : f a0 a1 a2 = some r) : CallD Tryd.prog HW 86 [.int .u64 a0, .int .u64 a1, .int .u64 a2] (sg.enc r) := by
  unfold f at h
  split at h
  · rename_i hh
    obtain rfl := Option.some.inj h
    exact calld_scal rfl rfl fun w _ => .inr ⟨_, _, run_sub64' Tryd.func86 (by kernel_rfl) (by kernel_rfl) (by kernel_rfl) (by kernel_rfl) a0 a1 a2 hh.1 hh.2.1 hh.2.2.1 hh.2.2.2.1 hh.2.2.2.2 w, rfl, rfl⟩
  · cases h
noncomputable def call {α : Type} (g : Int→Int→Int→Ω (Int × Int)) (ds : List D) (K : List D→Ω α) : Ω α := match ds with
  | [.int .u64 a0, .int .u64 a1, .int .u64 a2] => (g a0 a1 a2).bind fun r => K (sg.enc r)
  | _ => none
theorem call_ok {α : Type} {n : Nat} (ds : List D) (K : List D→Ω α) (r : α) (h : call f ds K = some r) : ∃ rs, K rs = some r ∧ CallD Tryd.prog HW 86 ds rs := by
  unfold call at h
  split at h
  · obtain ⟨x, hx, hk⟩ := Option.bind_eq_some_iff.1 h
    exact ⟨_, hk, ok hx⟩
  · cases h
end bits_Sub64
/-! ### quot_takeOff: function 107 -/
namespace quot_takeOff
noncomputable def b0 (c52 : Int→Int→Ω (Int × Int)) (c53 : Int→Int→Int→Ω (Int × Int)) (c86 : Int→Int→Int→Ω (Int × Int)) (k117 : Λ→Int→Int→Int→Int→Int→Λ→Ω (Λ × Bool)) (l0 l1 : Λ) (a2 : Int) : Ω (Λ × Bool) := k117 l1 a2 0 0 0 (ln l1) l0
noncomputable def b15 (c52 : Int→Int→Ω (Int × Int)) (c53 : Int→Int→Int→Ω (Int × Int)) (c86 : Int→Int→Int→Ω (Int × Int)) (x0 : Λ) (x1 x2 : Int) (x3 : Λ) : Ω (Λ × Bool) := (if 0 ≤ (ln x0) then (if (ln x0) < (ln x3) then ((c86 (rd x3 (ln x0)) x1 x2).bind fun t1 => (if 0 ≤ (ln x0) then (if (ln x0) < (ln x3) then some (x3.set ((ln x0) : Int).toNat t1.1, decide (¬ t1.2 = 0)) else none) else none)) else none) else none)
noncomputable def b117 (c52 : Int→Int→Ω (Int × Int)) (c53 : Int→Int→Int→Ω (Int × Int)) (c86 : Int→Int→Int→Ω (Int × Int)) (k15 : Λ→Int→Int→Λ→Ω (Λ × Bool)) (k117 : Λ→Int→Int→Int→Int→Int→Λ→Ω (Λ × Bool)) (x0 : Λ) (x1 x2 x3 x4 x5 : Int) (x6 : Λ) : Ω (Λ × Bool) := (if x4 < x5 then (if 0 ≤ x4 then (if x4 < (ln x0) then ((c52 x1 (rd x0 x4)).bind fun t1 => ((c53 t1.2 x2 0).bind fun t2 => (if 0 ≤ x4 then (if x4 < (ln x6) then ((c86 (rd x6 x4) t2.1 x3).bind fun t3 => (if 0 ≤ x4 then (if x4 < (ln x6) then k117 x0 x1 (IntKind.u64.wrap (t1.1 + t2.2)) t3.2 (wrap64 (x4 + 1)) x5 (x6.set (x4 : Int).toNat t3.1) else none) else none)) else none) else none))) else none) else none) else k15 x0 x2 x3 x6)
noncomputable def l15 (n : Nat) (x0 : Λ) (x1 x2 : Int) (x3 : Λ) : Ω (Λ × Bool) := b15 bits_Mul64.f bits_Add64.f bits_Sub64.f x0 x1 x2 x3
noncomputable def l117 (n : Nat) : Nat→Λ→Int→Int→Int→Int→Int→Λ→Ω (Λ × Bool)
  | 0, _, _, _, _, _, _, _ => none
  | m + 1, x0, x1, x2, x3, x4, x5, x6 => b117 bits_Mul64.f bits_Add64.f bits_Sub64.f (l15 n) (l117 n m) x0 x1 x2 x3 x4 x5 x6
noncomputable def f (n : Nat) (l0 l1 : Λ) (a2 : Int) : Ω (Λ × Bool) := b0 bits_Mul64.f bits_Add64.f bits_Sub64.f (l117 n n) l0 l1 a2
noncomputable def sg : Sig (Bool) := s1 (sBool)
noncomputable def code : Code := (Tryd.f107.body).getD .skip
noncomputable def cfg (c52 : Int→Int→Ω (Int × Int)) (c53 : Int→Int→Int→Ω (Int × Int)) (c86 : Int→Int→Int→Ω (Int × Int)) : Cfg (Λ × Bool) := { T := tys, call := orCall 52 (bits_Mul64.call c52) (orCall 53 (bits_Add64.call c53) (orCall 86 (bits_Sub64.call c86) (noCall))) }
noncomputable def cuts : List (Nat × List (Nat × Want)) := [(15, [(0, .keep), (1, .keep), (7, .keep), (8, .keep)]), (117, [(0, .keep), (1, .keep), (2, .keep), (7, .keep), (8, .keep), (14, .keep), (15, .keep), (16, .keep)])]
noncomputable def s15 (x0 : Λ) (x1 x2 : Int) (x3 : Λ) : ASt := ⟨[(0, .own 0), (1, .ro .u64 x0), (7, .int .u64 x1), (8, .int .u64 x2)], [.bor .u64 x3]⟩
noncomputable def s117 (x0 : Λ) (x1 x2 x3 x4 x5 : Int) (x6 : Λ) : ASt := ⟨[(0, .own 0), (1, .ro .u64 x0), (2, .int .u64 x1), (7, .int .u64 x2), (8, .int .u64 x3), (14, .ro .u64 x0), (15, .int .i64 x5), (16, .int .i64 x4)], [.bor .u64 x6]⟩
noncomputable def A (c52 : Int→Int→Ω (Int × Int)) (c53 : Int→Int→Int→Ω (Int × Int)) (c86 : Int→Int→Int→Ω (Int × Int)) (n : Nat) (J : Jt (Λ × Bool)) (q : Nat) (ms : List Nat) : ASt→Ω (Λ × Bool) := acont (cfg c52 c53 c86) J cuts n q code 1 ms (aendw (cfg c52 c53 c86) Tryd.f107.results.toList (sgw sg))
theorem e0 (c52 : Int→Int→Ω (Int × Int)) (c53 : Int→Int→Int→Ω (Int × Int)) (c86 : Int→Int→Int→Ω (Int × Int)) (n : Nat) (J : Jt (Λ × Bool)) (l0 l1 : Λ) (a2 : Int) : afunw (cfg c52 c53 c86) J cuts n code Tryd.f107.results.toList l0 [.ro .u64 l1, .int .u64 a2] (sgw sg) = b0 c52 c53 c86 (fun y0 y1 y2 y3 y4 y5 y6 => J 117 (A c52 c53 c86 n J 117 [n]) (s117 y0 y1 y2 y3 y4 y5 y6)) l0 l1 a2 := by kernel_rfl
theorem e15 (c52 : Int→Int→Ω (Int × Int)) (c53 : Int→Int→Int→Ω (Int × Int)) (c86 : Int→Int→Int→Ω (Int × Int)) (n : Nat) (J : Jt (Λ × Bool)) (x0 : Λ) (x1 x2 : Int) (x3 : Λ) : A c52 c53 c86 n J 15 [] (s15 x0 x1 x2 x3) = b15 c52 c53 c86 x0 x1 x2 x3 := by kernel_rfl
theorem e117 (c52 : Int→Int→Ω (Int × Int)) (c53 : Int→Int→Int→Ω (Int × Int)) (c86 : Int→Int→Int→Ω (Int × Int)) (n : Nat) (J : Jt (Λ × Bool)) (m : Nat) (x0 : Λ) (x1 x2 x3 x4 x5 : Int) (x6 : Λ) : A c52 c53 c86 n J 117 [m + 1] (s117 x0 x1 x2 x3 x4 x5 x6) = b117 c52 c53 c86 (fun y0 y1 y2 y3 => J 15 (A c52 c53 c86 n J 15 []) (s15 y0 y1 y2 y3)) (fun y0 y1 y2 y3 y4 y5 y6 => J 117 (A c52 c53 c86 n J 117 [m]) (s117 y0 y1 y2 y3 y4 y5 y6)) x0 x1 x2 x3 x4 x5 x6 := by kernel_rfl
theorem q15 (n : Nat) (x0 : Λ) (x1 x2 : Int) (x3 : Λ) : A bits_Mul64.f bits_Add64.f bits_Sub64.f n idJ 15 [] (s15 x0 x1 x2 x3) = l15 n x0 x1 x2 x3 := (e15 bits_Mul64.f bits_Add64.f bits_Sub64.f n idJ x0 x1 x2 x3).trans (rfl)
theorem q117 (n m : Nat) : ∀ (x0 : Λ) (x1 x2 x3 x4 x5 : Int) (x6 : Λ), A bits_Mul64.f bits_Add64.f bits_Sub64.f n idJ 117 [m] (s117 x0 x1 x2 x3 x4 x5 x6) = l117 n m x0 x1 x2 x3 x4 x5 x6 := by
  induction m with
  | zero => intros; rfl
  | succ m ih =>
    intro x0 x1 x2 x3 x4 x5 x6
    refine (e117 bits_Mul64.f bits_Add64.f bits_Sub64.f n idJ m x0 x1 x2 x3 x4 x5 x6).trans ?_
    exact congrFun (congrFun (congrFun (congrFun (congrFun (congrFun (congrFun (congr (congrArg (b117 bits_Mul64.f bits_Add64.f bits_Sub64.f) (funext fun y0 => (funext fun y1 => (funext fun y2 => (funext fun y3 => q15 n y0 y1 y2 y3))))) (funext fun y0 => (funext fun y1 => (funext fun y2 => (funext fun y3 => (funext fun y4 => (funext fun y5 => (funext fun y6 => ih y0 y1 y2 y3 y4 y5 y6)))))))) x0) x1) x2) x3) x4) x5) x6
theorem eq (n : Nat) (l0 l1 : Λ) (a2 : Int) : afunw (cfg bits_Mul64.f bits_Add64.f bits_Sub64.f) idJ cuts n code Tryd.f107.results.toList l0 [.ro .u64 l1, .int .u64 a2] (sgw sg) = f n l0 l1 a2 := (e0 bits_Mul64.f bits_Add64.f bits_Sub64.f n idJ l0 l1 a2).trans (congrFun (congrFun (congrFun (congrArg (b0 bits_Mul64.f bits_Add64.f bits_Sub64.f) (funext fun y0 => (funext fun y1 => (funext fun y2 => (funext fun y3 => (funext fun y4 => (funext fun y5 => (funext fun y6 => q117 n n y0 y1 y2 y3 y4 y5 y6)))))))) l0) l1) a2)
theorem ok {n : Nat} {l0 : Λ} {l1 : Λ} {a2 : Int} {r : Λ × Bool} (h : f n l0 l1 a2 = some r) : CallW Tryd.prog HW 107 l0 [.ro .u64 l1, .int .u64 a2] r.1 (sg.enc r.2) :=
  funw_some Tryd.func107 (by kernel_rfl) (body := code) (by kernel_rfl) tys_ok (c := cfg bits_Mul64.f bits_Add64.f bits_Sub64.f) (orCall_ok (bits_Mul64.call_ok (n := n)) (orCall_ok (bits_Add64.call_ok (n := n)) (orCall_ok (bits_Sub64.call_ok (n := n)) noCall_ok))) noW_ok (by kernel_rfl) (by kernel_rfl) (Nat.le_of_ble_eq_true (by kernel_rfl)) ((eq n l0 l1 a2).trans h)
noncomputable def call {α : Type} (g : Λ→Λ→Int→Ω (Λ × Bool)) (l0 : Λ) (ds : List D) (K : Λ→List D→Ω α) : Ω α := match ds with
  | [.ro .u64 l1, .int .u64 a2] => (g l0 l1 a2).bind fun r => K r.1 (sg.enc r.2)
  | _ => none
theorem call_ok {α : Type} {n : Nat} (l : Λ) (ds : List D) (K : Λ→List D→Ω α) (r : α) (h : call (f n) l ds K = some r) : ∃ l' rs, K l' rs = some r ∧ CallW Tryd.prog HW 107 l ds l' rs := by
  unfold call at h
  split at h
  · obtain ⟨x, hx, hk⟩ := Option.bind_eq_some_iff.1 h
    exact ⟨_, _, hk, ok (n := n) hx⟩
  · cases h
end quot_takeOff
/-! ### quot_putBack: function 108 -/
namespace quot_putBack
noncomputable def b0 (c53 : Int→Int→Int→Ω (Int × Int)) (k117 : Λ→Int→Int→Int→Λ→Ω (Λ × Bool)) (l0 l1 : Λ) : Ω (Λ × Bool) := k117 l1 0 0 (ln l1) l0
noncomputable def b15 (c53 : Int→Int→Int→Ω (Int × Int)) (x0 : Λ) (x1 : Int) (x2 : Λ) : Ω (Λ × Bool) := (if 0 ≤ (ln x0) then (if (ln x0) < (ln x2) then ((c53 (rd x2 (ln x0)) 0 x1).bind fun t1 => (if 0 ≤ (ln x0) then (if (ln x0) < (ln x2) then some (x2.set ((ln x0) : Int).toNat t1.1, decide (¬ t1.2 = 0)) else none) else none)) else none) else none)
noncomputable def b117 (c53 : Int→Int→Int→Ω (Int × Int)) (k15 : Λ→Int→Λ→Ω (Λ × Bool)) (k117 : Λ→Int→Int→Int→Λ→Ω (Λ × Bool)) (x0 : Λ) (x1 x2 x3 : Int) (x4 : Λ) : Ω (Λ × Bool) := (if x2 < x3 then (if 0 ≤ x2 then (if x2 < (ln x0) then (if 0 ≤ x2 then (if x2 < (ln x4) then ((c53 (rd x4 x2) (rd x0 x2) x1).bind fun t1 => (if 0 ≤ x2 then (if x2 < (ln x4) then k117 x0 t1.2 (wrap64 (x2 + 1)) x3 (x4.set (x2 : Int).toNat t1.1) else none) else none)) else none) else none) else none) else none) else k15 x0 x1 x4)
noncomputable def l15 (n : Nat) (x0 : Λ) (x1 : Int) (x2 : Λ) : Ω (Λ × Bool) := b15 bits_Add64.f x0 x1 x2
noncomputable def l117 (n : Nat) : Nat→Λ→Int→Int→Int→Λ→Ω (Λ × Bool)
  | 0, _, _, _, _, _ => none
  | m + 1, x0, x1, x2, x3, x4 => b117 bits_Add64.f (l15 n) (l117 n m) x0 x1 x2 x3 x4
noncomputable def f (n : Nat) (l0 l1 : Λ) : Ω (Λ × Bool) := b0 bits_Add64.f (l117 n n) l0 l1
noncomputable def sg : Sig (Bool) := s1 (sBool)
noncomputable def code : Code := (Tryd.f108.body).getD .skip
noncomputable def cfg (c53 : Int→Int→Int→Ω (Int × Int)) : Cfg (Λ × Bool) := { T := tys, call := orCall 53 (bits_Add64.call c53) (noCall) }
noncomputable def cuts : List (Nat × List (Nat × Want)) := [(15, [(0, .keep), (1, .keep), (5, .keep)]), (117, [(0, .keep), (1, .keep), (5, .keep), (8, .keep), (9, .keep), (10, .keep)])]
noncomputable def s15 (x0 : Λ) (x1 : Int) (x2 : Λ) : ASt := ⟨[(0, .own 0), (1, .ro .u64 x0), (5, .int .u64 x1)], [.bor .u64 x2]⟩
noncomputable def s117 (x0 : Λ) (x1 x2 x3 : Int) (x4 : Λ) : ASt := ⟨[(0, .own 0), (1, .ro .u64 x0), (5, .int .u64 x1), (8, .ro .u64 x0), (9, .int .i64 x3), (10, .int .i64 x2)], [.bor .u64 x4]⟩
noncomputable def A (c53 : Int→Int→Int→Ω (Int × Int)) (n : Nat) (J : Jt (Λ × Bool)) (q : Nat) (ms : List Nat) : ASt→Ω (Λ × Bool) := acont (cfg c53) J cuts n q code 1 ms (aendw (cfg c53) Tryd.f108.results.toList (sgw sg))
theorem e0 (c53 : Int→Int→Int→Ω (Int × Int)) (n : Nat) (J : Jt (Λ × Bool)) (l0 l1 : Λ) : afunw (cfg c53) J cuts n code Tryd.f108.results.toList l0 [.ro .u64 l1] (sgw sg) = b0 c53 (fun y0 y1 y2 y3 y4 => J 117 (A c53 n J 117 [n]) (s117 y0 y1 y2 y3 y4)) l0 l1 := by kernel_rfl
theorem e15 (c53 : Int→Int→Int→Ω (Int × Int)) (n : Nat) (J : Jt (Λ × Bool)) (x0 : Λ) (x1 : Int) (x2 : Λ) : A c53 n J 15 [] (s15 x0 x1 x2) = b15 c53 x0 x1 x2 := by kernel_rfl
theorem e117 (c53 : Int→Int→Int→Ω (Int × Int)) (n : Nat) (J : Jt (Λ × Bool)) (m : Nat) (x0 : Λ) (x1 x2 x3 : Int) (x4 : Λ) : A c53 n J 117 [m + 1] (s117 x0 x1 x2 x3 x4) = b117 c53 (fun y0 y1 y2 => J 15 (A c53 n J 15 []) (s15 y0 y1 y2)) (fun y0 y1 y2 y3 y4 => J 117 (A c53 n J 117 [m]) (s117 y0 y1 y2 y3 y4)) x0 x1 x2 x3 x4 := by kernel_rfl
theorem q15 (n : Nat) (x0 : Λ) (x1 : Int) (x2 : Λ) : A bits_Add64.f n idJ 15 [] (s15 x0 x1 x2) = l15 n x0 x1 x2 := (e15 bits_Add64.f n idJ x0 x1 x2).trans (rfl)
theorem q117 (n m : Nat) : ∀ (x0 : Λ) (x1 x2 x3 : Int) (x4 : Λ), A bits_Add64.f n idJ 117 [m] (s117 x0 x1 x2 x3 x4) = l117 n m x0 x1 x2 x3 x4 := by
  induction m with
  | zero => intros; rfl
  | succ m ih =>
    intro x0 x1 x2 x3 x4
    refine (e117 bits_Add64.f n idJ m x0 x1 x2 x3 x4).trans ?_
    exact congrFun (congrFun (congrFun (congrFun (congrFun (congr (congrArg (b117 bits_Add64.f) (funext fun y0 => (funext fun y1 => (funext fun y2 => q15 n y0 y1 y2)))) (funext fun y0 => (funext fun y1 => (funext fun y2 => (funext fun y3 => (funext fun y4 => ih y0 y1 y2 y3 y4)))))) x0) x1) x2) x3) x4
theorem eq (n : Nat) (l0 l1 : Λ) : afunw (cfg bits_Add64.f) idJ cuts n code Tryd.f108.results.toList l0 [.ro .u64 l1] (sgw sg) = f n l0 l1 := (e0 bits_Add64.f n idJ l0 l1).trans (congrFun (congrFun (congrArg (b0 bits_Add64.f) (funext fun y0 => (funext fun y1 => (funext fun y2 => (funext fun y3 => (funext fun y4 => q117 n n y0 y1 y2 y3 y4)))))) l0) l1)
theorem ok {n : Nat} {l0 : Λ} {l1 : Λ} {r : Λ × Bool} (h : f n l0 l1 = some r) : CallW Tryd.prog HW 108 l0 [.ro .u64 l1] r.1 (sg.enc r.2) :=
  funw_some Tryd.func108 (by kernel_rfl) (body := code) (by kernel_rfl) tys_ok (c := cfg bits_Add64.f) (orCall_ok (bits_Add64.call_ok (n := n)) noCall_ok) noW_ok (by kernel_rfl) (by kernel_rfl) (Nat.le_of_ble_eq_true (by kernel_rfl)) ((eq n l0 l1).trans h)
noncomputable def call {α : Type} (g : Λ→Λ→Ω (Λ × Bool)) (l0 : Λ) (ds : List D) (K : Λ→List D→Ω α) : Ω α := match ds with
  | [.ro .u64 l1] => (g l0 l1).bind fun r => K r.1 (sg.enc r.2)
  | _ => none
theorem call_ok {α : Type} {n : Nat} (l : Λ) (ds : List D) (K : Λ→List D→Ω α) (r : α) (h : call (f n) l ds K = some r) : ∃ l' rs, K l' rs = some r ∧ CallW Tryd.prog HW 108 l ds l' rs := by
  unfold call at h
  split at h
  · obtain ⟨x, hx, hk⟩ := Option.bind_eq_some_iff.1 h
    exact ⟨_, _, hk, ok (n := n) hx⟩
  · cases h
end quot_putBack
/-! ### quot_long: function 103 -/
namespace quot_long
noncomputable def b0 (c96 : Λ→Int→Ω (Λ × Bool × Int)) (c100 : Λ→Ω (Λ)) (c104 : Int→Ω (Int)) (c105 : Λ→Int→Int→Ω (Λ)) (c106 : Λ→Λ→Ω (Int)) (c107 : Λ→Λ→Int→Ω (Λ × Bool)) (c108 : Λ→Λ→Ω (Λ × Bool)) (k7157 : Int→Int→Int→Λ→Λ→Λ→Ω (Λ × Λ)) (l0 l1 : Λ) : Ω (Λ × Λ) := (if 0 ≤ (wrap64 ((ln l1) - 1)) then (if (wrap64 ((ln l1) - 1)) < (ln l1) then ((c104 (rd l1 (wrap64 ((ln l1) - 1)))).bind fun t1 => ((c105 l1 t1 (ln l1)).bind fun t2 => ((c105 l0 t1 (wrap64 ((ln l0) + 1))).bind fun t3 => (if 0 ≤ (wrap64 ((wrap64 ((ln l0) - (ln l1))) + 1)) then (if (wrap64 ((wrap64 ((ln l0) - (ln l1))) + 1)).toNat ≤ 35184372088832 then k7157 (ln l1) t1 (wrap64 ((ln (List.replicate (wrap64 ((wrap64 ((ln l0) - (ln l1))) + 1)).toNat (0 : Int))) - 1)) t2 t3 (List.replicate (wrap64 ((wrap64 ((ln l0) - (ln l1))) + 1)).toNat (0 : Int)) else none) else none)))) else none) else none)
noncomputable def b895 (c96 : Λ→Int→Ω (Λ × Bool × Int)) (c100 : Λ→Ω (Λ)) (c104 : Int→Ω (Int)) (c105 : Λ→Int→Int→Ω (Λ)) (c106 : Λ→Λ→Ω (Int)) (c107 : Λ→Λ→Int→Ω (Λ × Bool)) (c108 : Λ→Λ→Ω (Λ × Bool)) (x0 x1 : Int) (x2 x3 : Λ) : Ω (Λ × Λ) := (if 0 ≤ x0 then (if x0 ≤ (ln x2) then ((c96 ((x2.take (x0 : Int).toNat).drop 0) x1).bind fun t1 => ((c100 x3).bind fun t2 => some (t2, t1.1))) else none) else none)
noncomputable def b7157 (c96 : Λ→Int→Ω (Λ × Bool × Int)) (c100 : Λ→Ω (Λ)) (c104 : Int→Ω (Int)) (c105 : Λ→Int→Int→Ω (Λ)) (c106 : Λ→Λ→Ω (Int)) (c107 : Λ→Λ→Int→Ω (Λ × Bool)) (c108 : Λ→Λ→Ω (Λ × Bool)) (k895 : Int→Int→Λ→Λ→Ω (Λ × Λ)) (k1832093 : Int→Int→Int→Int→Int→Bool→Λ→Λ→Λ→Ω (Λ × Λ)) (x0 x1 x2 : Int) (x3 x4 x5 : Λ) : Ω (Λ × Λ) := (if x2 ≥ 0 then (if 0 ≤ (wrap64 ((wrap64 (x2 + x0)) + 1)) then (if (wrap64 ((wrap64 (x2 + x0)) + 1)) ≤ (ln x4) then (if 0 ≤ x2 then (if x2 ≤ (wrap64 ((wrap64 (x2 + x0)) + 1)) then ((c106 ((x4.take (wrap64 ((wrap64 (x2 + x0)) + 1) : Int).toNat).drop (x2 : Int).toNat) x3).bind fun t1 => (if x2 < (wrap64 ((wrap64 (x2 + x0)) + 1)) then ((c107 ((x4.take (wrap64 ((wrap64 (x2 + x0)) + 1) : Int).toNat).drop (x2 : Int).toNat) x3 t1).bind fun t2 => k1832093 x0 x1 x2 (wrap64 ((wrap64 (x2 + x0)) + 1)) t1 t2.2 x3 (x4.take (x2 : Int).toNat ++ t2.1 ++ x4.drop (wrap64 ((wrap64 (x2 + x0)) + 1) : Int).toNat) x5) else none)) else none) else none) else none) else none) else k895 x0 x1 x4 x5)
noncomputable def b1832093 (c96 : Λ→Int→Ω (Λ × Bool × Int)) (c100 : Λ→Ω (Λ)) (c104 : Int→Ω (Int)) (c105 : Λ→Int→Int→Ω (Λ)) (c106 : Λ→Λ→Ω (Int)) (c107 : Λ→Λ→Int→Ω (Λ × Bool)) (c108 : Λ→Λ→Ω (Λ × Bool)) (k7157 : Int→Int→Int→Λ→Λ→Λ→Ω (Λ × Λ)) (k1832093 : Int→Int→Int→Int→Int→Bool→Λ→Λ→Λ→Ω (Λ × Λ)) (x0 x1 x2 x3 x4 : Int) (x5 : Bool) (x6 x7 x8 : Λ) : Ω (Λ × Λ) := (if (!x5) = true then (if 0 ≤ x2 then (if x2 < (ln x8) then k7157 x0 x1 (wrap64 (x2 - 1)) x6 x7 (x8.set (x2 : Int).toNat x4) else none) else none) else (if x2 < x3 then ((c108 ((x7.take (x3 : Int).toNat).drop (x2 : Int).toNat) x6).bind fun t1 => k1832093 x0 x1 x2 x3 (IntKind.u64.wrap (x4 - 1)) (!t1.2) x6 (x7.take (x2 : Int).toNat ++ t1.1 ++ x7.drop (x3 : Int).toNat) x8) else none))
noncomputable def l895 (n : Nat) (x0 x1 : Int) (x2 x3 : Λ) : Ω (Λ × Λ) := b895 (nat_Shr.f n) (nat_Trim.f n) bits_LeadingZeros64.f (quot_raised.f n) (quot_guess.f n) (quot_takeOff.f n) (quot_putBack.f n) x0 x1 x2 x3
noncomputable def l1832093 (n : Nat) (k7157 : Int→Int→Int→Λ→Λ→Λ→Ω (Λ × Λ)) : Nat→Int→Int→Int→Int→Int→Bool→Λ→Λ→Λ→Ω (Λ × Λ)
  | 0, _, _, _, _, _, _, _, _, _ => none
  | m + 1, x0, x1, x2, x3, x4, x5, x6, x7, x8 => b1832093 (nat_Shr.f n) (nat_Trim.f n) bits_LeadingZeros64.f (quot_raised.f n) (quot_guess.f n) (quot_takeOff.f n) (quot_putBack.f n) k7157 (l1832093 n k7157 m) x0 x1 x2 x3 x4 x5 x6 x7 x8
noncomputable def l7157 (n : Nat) : Nat→Int→Int→Int→Λ→Λ→Λ→Ω (Λ × Λ)
  | 0, _, _, _, _, _, _ => none
  | m + 1, x0, x1, x2, x3, x4, x5 => b7157 (nat_Shr.f n) (nat_Trim.f n) bits_LeadingZeros64.f (quot_raised.f n) (quot_guess.f n) (quot_takeOff.f n) (quot_putBack.f n) (l895 n) (l1832093 n (l7157 n m) n) x0 x1 x2 x3 x4 x5
noncomputable def f (n : Nat) (l0 l1 : Λ) : Ω (Λ × Λ) := b0 (nat_Shr.f n) (nat_Trim.f n) bits_LeadingZeros64.f (quot_raised.f n) (quot_guess.f n) (quot_takeOff.f n) (quot_putBack.f n) (l7157 n n) l0 l1
noncomputable def sg : Sig (Λ × Λ) := s2 (sRow .u64) (s1 (sRow .u64))
noncomputable def code : Code := (Tryd.f103.body).getD .skip
noncomputable def cfg (c96 : Λ→Int→Ω (Λ × Bool × Int)) (c100 : Λ→Ω (Λ)) (c104 : Int→Ω (Int)) (c105 : Λ→Int→Int→Ω (Λ)) (c106 : Λ→Λ→Ω (Int)) (c107 : Λ→Λ→Int→Ω (Λ × Bool)) (c108 : Λ→Λ→Ω (Λ × Bool)) : Cfg (Λ × Λ) := { T := tys, call := orCall 96 (nat_Shr.call c96) (orCall 100 (nat_Trim.call c100) (orCall 104 (bits_LeadingZeros64.call c104) (orCall 105 (quot_raised.call c105) (orCall 106 (quot_guess.call c106) (noCall))))), win := true, wr := [107, 108], callw := orW 107 (quot_takeOff.call c107) (orW 108 (quot_putBack.call c108) (noW)) }
noncomputable def cuts : List (Nat × List (Nat × Want)) := [(895, [(6, .keep), (7, .keep), (9, .keep), (10, .keep)]), (7157, [(6, .keep), (7, .keep), (8, .keep), (9, .keep), (10, .keep), (11, .keep)]), (1832093, [(6, .keep), (7, .keep), (8, .keep), (9, .keep), (10, .keep), (11, .keep), (12, .keep), (13, .keep), (14, .keep)])]
noncomputable def s895 (x0 x1 : Int) (x2 x3 : Λ) : ASt := ⟨[(6, .int .i64 x0), (7, .int .i64 x1), (9, .own 0), (10, .own 1)], [.ints 22 .u64 x2, .ints 22 .u64 x3]⟩
noncomputable def s7157 (x0 x1 x2 : Int) (x3 x4 x5 : Λ) : ASt := ⟨[(6, .int .i64 x0), (7, .int .i64 x1), (8, .own 0), (9, .own 1), (10, .own 2), (11, .int .i64 x2)], [.ints 22 .u64 x3, .ints 22 .u64 x4, .ints 22 .u64 x5]⟩
noncomputable def s1832093 (x0 x1 x2 x3 x4 : Int) (x5 : Bool) (x6 x7 x8 : Λ) : ASt := ⟨[(6, .int .i64 x0), (7, .int .i64 x1), (8, .own 0), (9, .own 1), (10, .own 2), (11, .int .i64 x2), (12, .win 1 x2 x3), (13, .int .u64 x4), (14, .bool x5)], [.ints 22 .u64 x6, .ints 22 .u64 x7, .ints 22 .u64 x8]⟩
noncomputable def A (c96 : Λ→Int→Ω (Λ × Bool × Int)) (c100 : Λ→Ω (Λ)) (c104 : Int→Ω (Int)) (c105 : Λ→Int→Int→Ω (Λ)) (c106 : Λ→Λ→Ω (Int)) (c107 : Λ→Λ→Int→Ω (Λ × Bool)) (c108 : Λ→Λ→Ω (Λ × Bool)) (n : Nat) (J : Jt (Λ × Λ)) (q : Nat) (ms : List Nat) : ASt→Ω (Λ × Λ) := acont (cfg c96 c100 c104 c105 c106 c107 c108) J cuts n q code 1 ms (aend (cfg c96 c100 c104 c105 c106 c107 c108) Tryd.f103.results.toList [false, false] sg.out)
theorem e0 (c96 : Λ→Int→Ω (Λ × Bool × Int)) (c100 : Λ→Ω (Λ)) (c104 : Int→Ω (Int)) (c105 : Λ→Int→Int→Ω (Λ)) (c106 : Λ→Λ→Ω (Int)) (c107 : Λ→Λ→Int→Ω (Λ × Bool)) (c108 : Λ→Λ→Ω (Λ × Bool)) (n : Nat) (J : Jt (Λ × Λ)) (l0 l1 : Λ) : afun (cfg c96 c100 c104 c105 c106 c107 c108) J cuts n code Tryd.f103.results.toList [false, false] [.ro .u64 l0, .ro .u64 l1] sg.out = b0 c96 c100 c104 c105 c106 c107 c108 (fun y0 y1 y2 y3 y4 y5 => J 7157 (A c96 c100 c104 c105 c106 c107 c108 n J 7157 [n]) (s7157 y0 y1 y2 y3 y4 y5)) l0 l1 := by kernel_rfl
theorem e895 (c96 : Λ→Int→Ω (Λ × Bool × Int)) (c100 : Λ→Ω (Λ)) (c104 : Int→Ω (Int)) (c105 : Λ→Int→Int→Ω (Λ)) (c106 : Λ→Λ→Ω (Int)) (c107 : Λ→Λ→Int→Ω (Λ × Bool)) (c108 : Λ→Λ→Ω (Λ × Bool)) (n : Nat) (J : Jt (Λ × Λ)) (x0 x1 : Int) (x2 x3 : Λ) : A c96 c100 c104 c105 c106 c107 c108 n J 895 [] (s895 x0 x1 x2 x3) = b895 c96 c100 c104 c105 c106 c107 c108 x0 x1 x2 x3 := by kernel_rfl
theorem e7157 (c96 : Λ→Int→Ω (Λ × Bool × Int)) (c100 : Λ→Ω (Λ)) (c104 : Int→Ω (Int)) (c105 : Λ→Int→Int→Ω (Λ)) (c106 : Λ→Λ→Ω (Int)) (c107 : Λ→Λ→Int→Ω (Λ × Bool)) (c108 : Λ→Λ→Ω (Λ × Bool)) (n : Nat) (J : Jt (Λ × Λ)) (m : Nat) (x0 x1 x2 : Int) (x3 x4 x5 : Λ) : A c96 c100 c104 c105 c106 c107 c108 n J 7157 [m + 1] (s7157 x0 x1 x2 x3 x4 x5) = b7157 c96 c100 c104 c105 c106 c107 c108 (fun y0 y1 y2 y3 => J 895 (A c96 c100 c104 c105 c106 c107 c108 n J 895 []) (s895 y0 y1 y2 y3)) (fun y0 y1 y2 y3 y4 y5 y6 y7 y8 => J 1832093 (A c96 c100 c104 c105 c106 c107 c108 n J 1832093 [m, n]) (s1832093 y0 y1 y2 y3 y4 y5 y6 y7 y8)) x0 x1 x2 x3 x4 x5 := by kernel_rfl
theorem e1832093 (c96 : Λ→Int→Ω (Λ × Bool × Int)) (c100 : Λ→Ω (Λ)) (c104 : Int→Ω (Int)) (c105 : Λ→Int→Int→Ω (Λ)) (c106 : Λ→Λ→Ω (Int)) (c107 : Λ→Λ→Int→Ω (Λ × Bool)) (c108 : Λ→Λ→Ω (Λ × Bool)) (n : Nat) (J : Jt (Λ × Λ)) (m7157 m : Nat) (x0 x1 x2 x3 x4 : Int) (x5 : Bool) (x6 x7 x8 : Λ) : A c96 c100 c104 c105 c106 c107 c108 n J 1832093 [m7157, m + 1] (s1832093 x0 x1 x2 x3 x4 x5 x6 x7 x8) = b1832093 c96 c100 c104 c105 c106 c107 c108 (fun y0 y1 y2 y3 y4 y5 => J 7157 (A c96 c100 c104 c105 c106 c107 c108 n J 7157 [m7157]) (s7157 y0 y1 y2 y3 y4 y5)) (fun y0 y1 y2 y3 y4 y5 y6 y7 y8 => J 1832093 (A c96 c100 c104 c105 c106 c107 c108 n J 1832093 [m7157, m]) (s1832093 y0 y1 y2 y3 y4 y5 y6 y7 y8)) x0 x1 x2 x3 x4 x5 x6 x7 x8 := by kernel_rfl
theorem q895 (n : Nat) (x0 x1 : Int) (x2 x3 : Λ) : A (nat_Shr.f n) (nat_Trim.f n) bits_LeadingZeros64.f (quot_raised.f n) (quot_guess.f n) (quot_takeOff.f n) (quot_putBack.f n) n idJ 895 [] (s895 x0 x1 x2 x3) = l895 n x0 x1 x2 x3 := (e895 (nat_Shr.f n) (nat_Trim.f n) bits_LeadingZeros64.f (quot_raised.f n) (quot_guess.f n) (quot_takeOff.f n) (quot_putBack.f n) n idJ x0 x1 x2 x3).trans (rfl)
theorem q1832093 (n m7157 m : Nat) : ∀ (x0 x1 x2 x3 x4 : Int) (x5 : Bool) (x6 x7 x8 : Λ), A (nat_Shr.f n) (nat_Trim.f n) bits_LeadingZeros64.f (quot_raised.f n) (quot_guess.f n) (quot_takeOff.f n) (quot_putBack.f n) n idJ 1832093 [m7157, m] (s1832093 x0 x1 x2 x3 x4 x5 x6 x7 x8) = l1832093 n (fun y0 y1 y2 y3 y4 y5 => A (nat_Shr.f n) (nat_Trim.f n) bits_LeadingZeros64.f (quot_raised.f n) (quot_guess.f n) (quot_takeOff.f n) (quot_putBack.f n) n idJ 7157 [m7157] (s7157 y0 y1 y2 y3 y4 y5)) m x0 x1 x2 x3 x4 x5 x6 x7 x8 := by
  induction m with
  | zero => intros; rfl
  | succ m ih =>
    intro x0 x1 x2 x3 x4 x5 x6 x7 x8
    refine (e1832093 (nat_Shr.f n) (nat_Trim.f n) bits_LeadingZeros64.f (quot_raised.f n) (quot_guess.f n) (quot_takeOff.f n) (quot_putBack.f n) n idJ m7157 m x0 x1 x2 x3 x4 x5 x6 x7 x8).trans ?_
    exact congrFun (congrFun (congrFun (congrFun (congrFun (congrFun (congrFun (congrFun (congrFun (congr (congrArg (b1832093 (nat_Shr.f n) (nat_Trim.f n) bits_LeadingZeros64.f (quot_raised.f n) (quot_guess.f n) (quot_takeOff.f n) (quot_putBack.f n)) rfl) (funext fun y0 => (funext fun y1 => (funext fun y2 => (funext fun y3 => (funext fun y4 => (funext fun y5 => (funext fun y6 => (funext fun y7 => (funext fun y8 => ih y0 y1 y2 y3 y4 y5 y6 y7 y8)))))))))) x0) x1) x2) x3) x4) x5) x6) x7) x8
theorem q7157 (n m : Nat) : ∀ (x0 x1 x2 : Int) (x3 x4 x5 : Λ), A (nat_Shr.f n) (nat_Trim.f n) bits_LeadingZeros64.f (quot_raised.f n) (quot_guess.f n) (quot_takeOff.f n) (quot_putBack.f n) n idJ 7157 [m] (s7157 x0 x1 x2 x3 x4 x5) = l7157 n m x0 x1 x2 x3 x4 x5 := by
  induction m with
  | zero => intros; rfl
  | succ m ih =>
    intro x0 x1 x2 x3 x4 x5
    refine (e7157 (nat_Shr.f n) (nat_Trim.f n) bits_LeadingZeros64.f (quot_raised.f n) (quot_guess.f n) (quot_takeOff.f n) (quot_putBack.f n) n idJ m x0 x1 x2 x3 x4 x5).trans ?_
    exact congrFun (congrFun (congrFun (congrFun (congrFun (congrFun (congr (congrArg (b7157 (nat_Shr.f n) (nat_Trim.f n) bits_LeadingZeros64.f (quot_raised.f n) (quot_guess.f n) (quot_takeOff.f n) (quot_putBack.f n)) (funext fun y0 => (funext fun y1 => (funext fun y2 => (funext fun y3 => q895 n y0 y1 y2 y3))))) ((funext fun y0 => (funext fun y1 => (funext fun y2 => (funext fun y3 => (funext fun y4 => (funext fun y5 => (funext fun y6 => (funext fun y7 => (funext fun y8 => q1832093 n m n y0 y1 y2 y3 y4 y5 y6 y7 y8))))))))).trans (by rw [show (fun y0 y1 y2 y3 y4 y5 => A (nat_Shr.f n) (nat_Trim.f n) bits_LeadingZeros64.f (quot_raised.f n) (quot_guess.f n) (quot_takeOff.f n) (quot_putBack.f n) n idJ 7157 [m] (s7157 y0 y1 y2 y3 y4 y5)) = _ from (funext fun y0 => (funext fun y1 => (funext fun y2 => (funext fun y3 => (funext fun y4 => (funext fun y5 => ih y0 y1 y2 y3 y4 y5))))))]))) x0) x1) x2) x3) x4) x5
theorem eq (n : Nat) (l0 l1 : Λ) : afun (cfg (nat_Shr.f n) (nat_Trim.f n) bits_LeadingZeros64.f (quot_raised.f n) (quot_guess.f n) (quot_takeOff.f n) (quot_putBack.f n)) idJ cuts n code Tryd.f103.results.toList [false, false] [.ro .u64 l0, .ro .u64 l1] sg.out = f n l0 l1 := (e0 (nat_Shr.f n) (nat_Trim.f n) bits_LeadingZeros64.f (quot_raised.f n) (quot_guess.f n) (quot_takeOff.f n) (quot_putBack.f n) n idJ l0 l1).trans (congrFun (congrFun (congrArg (b0 (nat_Shr.f n) (nat_Trim.f n) bits_LeadingZeros64.f (quot_raised.f n) (quot_guess.f n) (quot_takeOff.f n) (quot_putBack.f n)) (funext fun y0 => (funext fun y1 => (funext fun y2 => (funext fun y3 => (funext fun y4 => (funext fun y5 => q7157 n n y0 y1 y2 y3 y4 y5))))))) l0) l1)
theorem ok {n : Nat} {l0 : Λ} {l1 : Λ} {r : Λ × Λ} (h : f n l0 l1 = some r) : CallD Tryd.prog HW 103 [.ro .u64 l0, .ro .u64 l1] (sg.enc r) :=
  fun_some hwS Tryd.func103 (by kernel_rfl) (body := code) (by kernel_rfl) tys_ok (c := cfg (nat_Shr.f n) (nat_Trim.f n) bits_LeadingZeros64.f (quot_raised.f n) (quot_guess.f n) (quot_takeOff.f n) (quot_putBack.f n)) (orCall_ok (nat_Shr.call_ok (n := n)) (orCall_ok (nat_Trim.call_ok (n := n)) (orCall_ok (bits_LeadingZeros64.call_ok (n := n)) (orCall_ok (quot_raised.call_ok (n := n)) (orCall_ok (quot_guess.call_ok (n := n)) noCall_ok))))) (orW_ok (quot_takeOff.call_ok (n := n)) (orW_ok (quot_putBack.call_ok (n := n)) noW_ok)) (by kernel_rfl) (by kernel_rfl) (Nat.le_of_ble_eq_true (by kernel_rfl)) ((eq n l0 l1).trans h)
noncomputable def call {α : Type} (g : Λ→Λ→Ω (Λ × Λ)) (ds : List D) (K : List D→Ω α) : Ω α := match ds with
  | [.ro .u64 l0, .ro .u64 l1] => (g l0 l1).bind fun r => K (sg.enc r)
  | _ => none
theorem call_ok {α : Type} {n : Nat} (ds : List D) (K : List D→Ω α) (r : α) (h : call (f n) ds K = some r) : ∃ rs, K rs = some r ∧ CallD Tryd.prog HW 103 ds rs := by
  unfold call at h
  split at h
  · obtain ⟨x, hx, hk⟩ := Option.bind_eq_some_iff.1 h
    exact ⟨_, hk, ok (n := n) hx⟩
  · cases h
end quot_long
/-! ### quot_DivMod: function 93 -/
namespace quot_DivMod
noncomputable def b0 (c21 : Λ→Λ→Ω (Int)) (c58 : Int→Ω (Λ)) (c91 : Λ→Int→Ω (Λ × Bool)) (c102 : Λ→Int→Ω (Λ × Int × Int)) (c103 : Λ→Λ→Ω (Λ × Λ)) (l0 l1 : Λ) : Ω (Λ × Λ × Int) := ((c91 l0 4096).bind fun t1 => ((c91 l1 4096).bind fun t2 => (if (!t1.2) = true then some (([] : Λ), ([] : Λ), 2) else (if (!t2.2) = true then some (([] : Λ), ([] : Λ), 2) else (if (ln t2.1) = 0 then some (([] : Λ), ([] : Λ), 4) else ((c21 t1.1 t2.1).bind fun t3 => (if t3 < 0 then some (([] : Λ), t1.1, 0) else (if (ln t2.1) = 1 then (if 0 < (ln t2.1) then ((c102 t1.1 (rd t2.1 0)).bind fun t4 => ((c58 t4.2.1).bind fun t5 => some (t4.1, t5, t4.2.2))) else none) else ((c103 t1.1 t2.1).bind fun t6 => some (t6.1, t6.2, 0))))))))))
noncomputable def f (n : Nat) (l0 l1 : Λ) : Ω (Λ × Λ × Int) := b0 (nat_Cmp.f n) nat_FromUint.f (quot_small.f n) (nat_DivSmall.f n) (quot_long.f n) l0 l1
noncomputable def sg : Sig (Λ × Λ × Int) := s2 (sRow .u64) (s2 (sRow .u64) (s1 (sInt .i64)))
noncomputable def code : Code := (Tryd.f93.body).getD .skip
noncomputable def cfg (c21 : Λ→Λ→Ω (Int)) (c58 : Int→Ω (Λ)) (c91 : Λ→Int→Ω (Λ × Bool)) (c102 : Λ→Int→Ω (Λ × Int × Int)) (c103 : Λ→Λ→Ω (Λ × Λ)) : Cfg (Λ × Λ × Int) := { T := tys, call := orCall 21 (nat_Cmp.call c21) (orCall 58 (nat_FromUint.call c58) (orCall 91 (quot_small.call c91) (orCall 102 (nat_DivSmall.call c102) (orCall 103 (quot_long.call c103) (noCall))))) }
noncomputable def cuts : List (Nat × List (Nat × Want)) := []
theorem e0 (c21 : Λ→Λ→Ω (Int)) (c58 : Int→Ω (Λ)) (c91 : Λ→Int→Ω (Λ × Bool)) (c102 : Λ→Int→Ω (Λ × Int × Int)) (c103 : Λ→Λ→Ω (Λ × Λ)) (n : Nat) (J : Jt (Λ × Λ × Int)) (l0 l1 : Λ) : afun (cfg c21 c58 c91 c102 c103) J cuts n code Tryd.f93.results.toList [false, false, false] [.ro .u64 l0, .ro .u64 l1] sg.out = b0 c21 c58 c91 c102 c103 l0 l1 := by kernel_rfl
theorem eq (n : Nat) (l0 l1 : Λ) : afun (cfg (nat_Cmp.f n) nat_FromUint.f (quot_small.f n) (nat_DivSmall.f n) (quot_long.f n)) idJ cuts n code Tryd.f93.results.toList [false, false, false] [.ro .u64 l0, .ro .u64 l1] sg.out = f n l0 l1 := (e0 (nat_Cmp.f n) nat_FromUint.f (quot_small.f n) (nat_DivSmall.f n) (quot_long.f n) n idJ l0 l1).trans (rfl)
theorem ok {n : Nat} {l0 : Λ} {l1 : Λ} {r : Λ × Λ × Int} (h : f n l0 l1 = some r) : CallD Tryd.prog HW 93 [.ro .u64 l0, .ro .u64 l1] (sg.enc r) :=
  fun_some hwS Tryd.func93 (by kernel_rfl) (body := code) (by kernel_rfl) tys_ok (c := cfg (nat_Cmp.f n) nat_FromUint.f (quot_small.f n) (nat_DivSmall.f n) (quot_long.f n)) (orCall_ok (nat_Cmp.call_ok (n := n)) (orCall_ok (nat_FromUint.call_ok (n := n)) (orCall_ok (quot_small.call_ok (n := n)) (orCall_ok (nat_DivSmall.call_ok (n := n)) (orCall_ok (quot_long.call_ok (n := n)) noCall_ok))))) noW_ok (by kernel_rfl) (by kernel_rfl) (Nat.le_of_ble_eq_true (by kernel_rfl)) ((eq n l0 l1).trans h)
noncomputable def call {α : Type} (g : Λ→Λ→Ω (Λ × Λ × Int)) (ds : List D) (K : List D→Ω α) : Ω α := match ds with
  | [.ro .u64 l0, .ro .u64 l1] => (g l0 l1).bind fun r => K (sg.enc r)
  | _ => none
theorem call_ok {α : Type} {n : Nat} (ds : List D) (K : List D→Ω α) (r : α) (h : call (f n) ds K = some r) : ∃ rs, K rs = some r ∧ CallD Tryd.prog HW 93 ds rs := by
  unfold call at h
  split at h
  · obtain ⟨x, hx, hk⟩ := Option.bind_eq_some_iff.1 h
    exact ⟨_, hk, ok (n := n) hx⟩
  · cases h
end quot_DivMod
/-! ### nat_Sub: function 62 -/
namespace nat_Sub
noncomputable def b0 (c21 : Λ→Λ→Ω (Int)) (c50 : Λ→Ω (Bool)) (c51 : Λ→Ω (Int)) (c54 : Λ→Ω (Λ × Int)) (c86 : Int→Int→Int→Ω (Int × Int)) (k2037 : Λ→Int→Int→Λ→Int→Λ→Ω (Λ × Int)) (l0 l1 : Λ) : Ω (Λ × Int) := ((c50 l0).bind fun t1 => (if t1 = true then some (([] : Λ), 2) else ((c50 l1).bind fun t2 => (if t2 = true then some (([] : Λ), 2) else ((c21 l0 l1).bind fun t3 => (if t3 < 0 then some (([] : Λ), 10) else ((c51 l0).bind fun t4 => (if 0 ≤ t4 then (if t4 ≤ (ln l0) then ((some (l0.take t4.toNat) : Ω (Λ)).bind fun y5 => ((c51 l1).bind fun t6 => (if 0 ≤ t6 then (if t6 ≤ (ln l1) then ((some (l1.take t6.toNat) : Ω (Λ)).bind fun y7 => (if 0 ≤ (ln y5) then (if (ln y5).toNat ≤ 35184372088832 then k2037 y7 0 0 y5 (ln y5) (List.replicate (ln y5).toNat (0 : Int)) else none) else none)) else none) else none))) else none) else none))))))))
noncomputable def b255 (c21 : Λ→Λ→Ω (Int)) (c50 : Λ→Ω (Bool)) (c51 : Λ→Ω (Int)) (c54 : Λ→Ω (Λ × Int)) (c86 : Int→Int→Int→Ω (Int × Int)) (x0 : Λ) : Ω (Λ × Int) := ((c54 x0).bind fun t1 => some (t1.1, t1.2))
noncomputable def b2037 (c21 : Λ→Λ→Ω (Int)) (c50 : Λ→Ω (Bool)) (c51 : Λ→Ω (Int)) (c54 : Λ→Ω (Λ × Int)) (c86 : Int→Int→Int→Ω (Int × Int)) (k255 : Λ→Ω (Λ × Int)) (k260711 : Λ→Int→Int→Int→Int→Λ→Int→Λ→Ω (Λ × Int)) (x0 : Λ) (x1 x2 : Int) (x3 : Λ) (x4 : Int) (x5 : Λ) : Ω (Λ × Int) := (if x2 < x4 then (if 0 ≤ x2 then (if x2 < (ln x3) then (if x2 < (ln x0) then (if 0 ≤ x2 then (if x2 < (ln x0) then k260711 x0 x1 x2 (rd x3 x2) (rd x0 x2) x3 x4 x5 else none) else none) else k260711 x0 x1 x2 (rd x3 x2) 0 x3 x4 x5) else none) else none) else k255 x5)
noncomputable def b260711 (c21 : Λ→Λ→Ω (Int)) (c50 : Λ→Ω (Bool)) (c51 : Λ→Ω (Int)) (c54 : Λ→Ω (Λ × Int)) (c86 : Int→Int→Int→Ω (Int × Int)) (k2037 : Λ→Int→Int→Λ→Int→Λ→Ω (Λ × Int)) (x0 : Λ) (x1 x2 x3 x4 : Int) (x5 : Λ) (x6 : Int) (x7 : Λ) : Ω (Λ × Int) := ((c86 x3 x4 x1).bind fun t1 => (if 0 ≤ x2 then (if x2 < (ln x7) then k2037 x0 t1.2 (wrap64 (x2 + 1)) x5 x6 (x7.set (x2 : Int).toNat t1.1) else none) else none))
noncomputable def l255 (n : Nat) (x0 : Λ) : Ω (Λ × Int) := b255 (nat_Cmp.f n) (nat_big.f n) (nat_size.f n) (nat_cut.f n) bits_Sub64.f x0
noncomputable def l260711 (n : Nat) (k2037 : Λ→Int→Int→Λ→Int→Λ→Ω (Λ × Int)) (x0 : Λ) (x1 x2 x3 x4 : Int) (x5 : Λ) (x6 : Int) (x7 : Λ) : Ω (Λ × Int) := b260711 (nat_Cmp.f n) (nat_big.f n) (nat_size.f n) (nat_cut.f n) bits_Sub64.f k2037 x0 x1 x2 x3 x4 x5 x6 x7
noncomputable def l2037 (n : Nat) : Nat→Λ→Int→Int→Λ→Int→Λ→Ω (Λ × Int)
  | 0, _, _, _, _, _, _ => none
  | m + 1, x0, x1, x2, x3, x4, x5 => b2037 (nat_Cmp.f n) (nat_big.f n) (nat_size.f n) (nat_cut.f n) bits_Sub64.f (l255 n) (l260711 n (l2037 n m)) x0 x1 x2 x3 x4 x5
noncomputable def f (n : Nat) (l0 l1 : Λ) : Ω (Λ × Int) := b0 (nat_Cmp.f n) (nat_big.f n) (nat_size.f n) (nat_cut.f n) bits_Sub64.f (l2037 n n) l0 l1
noncomputable def sg : Sig (Λ × Int) := s2 (sRow .u64) (s1 (sInt .i64))
noncomputable def code : Code := (Tryd.f62.body).getD .skip
noncomputable def cfg (c21 : Λ→Λ→Ω (Int)) (c50 : Λ→Ω (Bool)) (c51 : Λ→Ω (Int)) (c54 : Λ→Ω (Λ × Int)) (c86 : Int→Int→Int→Ω (Int × Int)) : Cfg (Λ × Int) := { T := tys, call := orCall 21 (nat_Cmp.call c21) (orCall 50 (nat_big.call c50) (orCall 51 (nat_size.call c51) (orCall 54 (nat_cut.call c54) (orCall 86 (bits_Sub64.call c86) (noCall))))) }
noncomputable def cuts : List (Nat × List (Nat × Want)) := [(255, [(6, .keep)]), (2037, [(1, .keep), (6, .keep), (7, .keep), (32, .keep), (33, .keep), (34, .keep)]), (260711, [(1, .keep), (6, .keep), (7, .keep), (8, .keep), (9, .keep), (10, .keep), (32, .keep), (33, .keep), (34, .keep)])]
noncomputable def s255 (x0 : Λ) : ASt := ⟨[(6, .own 0)], [.ints 22 .u64 x0]⟩
noncomputable def s2037 (x0 : Λ) (x1 x2 : Int) (x3 : Λ) (x4 : Int) (x5 : Λ) : ASt := ⟨[(1, .ro .u64 x0), (6, .own 0), (7, .int .u64 x1), (32, .ro .u64 x3), (33, .int .i64 x4), (34, .int .i64 x2)], [.ints 22 .u64 x5]⟩
noncomputable def s260711 (x0 : Λ) (x1 x2 x3 x4 : Int) (x5 : Λ) (x6 : Int) (x7 : Λ) : ASt := ⟨[(1, .ro .u64 x0), (6, .own 0), (7, .int .u64 x1), (8, .int .i64 x2), (9, .int .u64 x3), (10, .int .u64 x4), (32, .ro .u64 x5), (33, .int .i64 x6), (34, .int .i64 x2)], [.ints 22 .u64 x7]⟩
noncomputable def A (c21 : Λ→Λ→Ω (Int)) (c50 : Λ→Ω (Bool)) (c51 : Λ→Ω (Int)) (c54 : Λ→Ω (Λ × Int)) (c86 : Int→Int→Int→Ω (Int × Int)) (n : Nat) (J : Jt (Λ × Int)) (q : Nat) (ms : List Nat) : ASt→Ω (Λ × Int) := acont (cfg c21 c50 c51 c54 c86) J cuts n q code 1 ms (aend (cfg c21 c50 c51 c54 c86) Tryd.f62.results.toList [false, false] sg.out)
theorem e0 (c21 : Λ→Λ→Ω (Int)) (c50 : Λ→Ω (Bool)) (c51 : Λ→Ω (Int)) (c54 : Λ→Ω (Λ × Int)) (c86 : Int→Int→Int→Ω (Int × Int)) (n : Nat) (J : Jt (Λ × Int)) (l0 l1 : Λ) : afun (cfg c21 c50 c51 c54 c86) J cuts n code Tryd.f62.results.toList [false, false] [.ro .u64 l0, .ro .u64 l1] sg.out = b0 c21 c50 c51 c54 c86 (fun y0 y1 y2 y3 y4 y5 => J 2037 (A c21 c50 c51 c54 c86 n J 2037 [n]) (s2037 y0 y1 y2 y3 y4 y5)) l0 l1 := by kernel_rfl
theorem e255 (c21 : Λ→Λ→Ω (Int)) (c50 : Λ→Ω (Bool)) (c51 : Λ→Ω (Int)) (c54 : Λ→Ω (Λ × Int)) (c86 : Int→Int→Int→Ω (Int × Int)) (n : Nat) (J : Jt (Λ × Int)) (x0 : Λ) : A c21 c50 c51 c54 c86 n J 255 [] (s255 x0) = b255 c21 c50 c51 c54 c86 x0 := by kernel_rfl
theorem e2037 (c21 : Λ→Λ→Ω (Int)) (c50 : Λ→Ω (Bool)) (c51 : Λ→Ω (Int)) (c54 : Λ→Ω (Λ × Int)) (c86 : Int→Int→Int→Ω (Int × Int)) (n : Nat) (J : Jt (Λ × Int)) (m : Nat) (x0 : Λ) (x1 x2 : Int) (x3 : Λ) (x4 : Int) (x5 : Λ) : A c21 c50 c51 c54 c86 n J 2037 [m + 1] (s2037 x0 x1 x2 x3 x4 x5) = b2037 c21 c50 c51 c54 c86 (fun y0 => J 255 (A c21 c50 c51 c54 c86 n J 255 []) (s255 y0)) (fun y0 y1 y2 y3 y4 y5 y6 y7 => J 260711 (A c21 c50 c51 c54 c86 n J 260711 [m]) (s260711 y0 y1 y2 y3 y4 y5 y6 y7)) x0 x1 x2 x3 x4 x5 := by kernel_rfl
theorem e260711 (c21 : Λ→Λ→Ω (Int)) (c50 : Λ→Ω (Bool)) (c51 : Λ→Ω (Int)) (c54 : Λ→Ω (Λ × Int)) (c86 : Int→Int→Int→Ω (Int × Int)) (n : Nat) (J : Jt (Λ × Int)) (m2037 : Nat) (x0 : Λ) (x1 x2 x3 x4 : Int) (x5 : Λ) (x6 : Int) (x7 : Λ) : A c21 c50 c51 c54 c86 n J 260711 [m2037] (s260711 x0 x1 x2 x3 x4 x5 x6 x7) = b260711 c21 c50 c51 c54 c86 (fun y0 y1 y2 y3 y4 y5 => J 2037 (A c21 c50 c51 c54 c86 n J 2037 [m2037]) (s2037 y0 y1 y2 y3 y4 y5)) x0 x1 x2 x3 x4 x5 x6 x7 := by kernel_rfl
theorem q255 (n : Nat) (x0 : Λ) : A (nat_Cmp.f n) (nat_big.f n) (nat_size.f n) (nat_cut.f n) bits_Sub64.f n idJ 255 [] (s255 x0) = l255 n x0 := (e255 (nat_Cmp.f n) (nat_big.f n) (nat_size.f n) (nat_cut.f n) bits_Sub64.f n idJ x0).trans (rfl)
theorem q260711 (n m2037 : Nat) (x0 : Λ) (x1 x2 x3 x4 : Int) (x5 : Λ) (x6 : Int) (x7 : Λ) : A (nat_Cmp.f n) (nat_big.f n) (nat_size.f n) (nat_cut.f n) bits_Sub64.f n idJ 260711 [m2037] (s260711 x0 x1 x2 x3 x4 x5 x6 x7) = l260711 n (fun y0 y1 y2 y3 y4 y5 => A (nat_Cmp.f n) (nat_big.f n) (nat_size.f n) (nat_cut.f n) bits_Sub64.f n idJ 2037 [m2037] (s2037 y0 y1 y2 y3 y4 y5)) x0 x1 x2 x3 x4 x5 x6 x7 := (e260711 (nat_Cmp.f n) (nat_big.f n) (nat_size.f n) (nat_cut.f n) bits_Sub64.f n idJ m2037 x0 x1 x2 x3 x4 x5 x6 x7).trans (rfl)
theorem q2037 (n m : Nat) : ∀ (x0 : Λ) (x1 x2 : Int) (x3 : Λ) (x4 : Int) (x5 : Λ), A (nat_Cmp.f n) (nat_big.f n) (nat_size.f n) (nat_cut.f n) bits_Sub64.f n idJ 2037 [m] (s2037 x0 x1 x2 x3 x4 x5) = l2037 n m x0 x1 x2 x3 x4 x5 := by
  induction m with
  | zero => intros; rfl
  | succ m ih =>
    intro x0 x1 x2 x3 x4 x5
    refine (e2037 (nat_Cmp.f n) (nat_big.f n) (nat_size.f n) (nat_cut.f n) bits_Sub64.f n idJ m x0 x1 x2 x3 x4 x5).trans ?_
    exact congrFun (congrFun (congrFun (congrFun (congrFun (congrFun (congr (congrArg (b2037 (nat_Cmp.f n) (nat_big.f n) (nat_size.f n) (nat_cut.f n) bits_Sub64.f) (funext fun y0 => q255 n y0)) ((funext fun y0 => (funext fun y1 => (funext fun y2 => (funext fun y3 => (funext fun y4 => (funext fun y5 => (funext fun y6 => (funext fun y7 => q260711 n m y0 y1 y2 y3 y4 y5 y6 y7)))))))).trans (by rw [show (fun y0 y1 y2 y3 y4 y5 => A (nat_Cmp.f n) (nat_big.f n) (nat_size.f n) (nat_cut.f n) bits_Sub64.f n idJ 2037 [m] (s2037 y0 y1 y2 y3 y4 y5)) = _ from (funext fun y0 => (funext fun y1 => (funext fun y2 => (funext fun y3 => (funext fun y4 => (funext fun y5 => ih y0 y1 y2 y3 y4 y5))))))]))) x0) x1) x2) x3) x4) x5
theorem eq (n : Nat) (l0 l1 : Λ) : afun (cfg (nat_Cmp.f n) (nat_big.f n) (nat_size.f n) (nat_cut.f n) bits_Sub64.f) idJ cuts n code Tryd.f62.results.toList [false, false] [.ro .u64 l0, .ro .u64 l1] sg.out = f n l0 l1 := (e0 (nat_Cmp.f n) (nat_big.f n) (nat_size.f n) (nat_cut.f n) bits_Sub64.f n idJ l0 l1).trans (congrFun (congrFun (congrArg (b0 (nat_Cmp.f n) (nat_big.f n) (nat_size.f n) (nat_cut.f n) bits_Sub64.f) (funext fun y0 => (funext fun y1 => (funext fun y2 => (funext fun y3 => (funext fun y4 => (funext fun y5 => q2037 n n y0 y1 y2 y3 y4 y5))))))) l0) l1)
theorem ok {n : Nat} {l0 : Λ} {l1 : Λ} {r : Λ × Int} (h : f n l0 l1 = some r) : CallD Tryd.prog HW 62 [.ro .u64 l0, .ro .u64 l1] (sg.enc r) :=
  fun_some hwS Tryd.func62 (by kernel_rfl) (body := code) (by kernel_rfl) tys_ok (c := cfg (nat_Cmp.f n) (nat_big.f n) (nat_size.f n) (nat_cut.f n) bits_Sub64.f) (orCall_ok (nat_Cmp.call_ok (n := n)) (orCall_ok (nat_big.call_ok (n := n)) (orCall_ok (nat_size.call_ok (n := n)) (orCall_ok (nat_cut.call_ok (n := n)) (orCall_ok (bits_Sub64.call_ok (n := n)) noCall_ok))))) noW_ok (by kernel_rfl) (by kernel_rfl) (Nat.le_of_ble_eq_true (by kernel_rfl)) ((eq n l0 l1).trans h)
noncomputable def call {α : Type} (g : Λ→Λ→Ω (Λ × Int)) (ds : List D) (K : List D→Ω α) : Ω α := match ds with
  | [.ro .u64 l0, .ro .u64 l1] => (g l0 l1).bind fun r => K (sg.enc r)
  | _ => none
theorem call_ok {α : Type} {n : Nat} (ds : List D) (K : List D→Ω α) (r : α) (h : call (f n) ds K = some r) : ∃ rs, K rs = some r ∧ CallD Tryd.prog HW 62 ds rs := by
  unfold call at h
  split at h
  · obtain ⟨x, hx, hk⟩ := Option.bind_eq_some_iff.1 h
    exact ⟨_, hk, ok (n := n) hx⟩
  · cases h
end nat_Sub
/-! ### nat_Add: function 61 -/
namespace nat_Add
noncomputable def b0 (c50 : Λ→Ω (Bool)) (c51 : Λ→Ω (Int)) (c53 : Int→Int→Int→Ω (Int × Int)) (c54 : Λ→Ω (Λ × Int)) (k31 : Λ→Λ→Ω (Λ × Int)) (l0 l1 : Λ) : Ω (Λ × Int) := ((c50 l0).bind fun t1 => (if t1 = true then some (([] : Λ), 2) else ((c50 l1).bind fun t2 => (if t2 = true then some (([] : Λ), 2) else ((c51 l0).bind fun t3 => (if 0 ≤ t3 then (if t3 ≤ (ln l0) then ((some (l0.take t3.toNat) : Ω (Λ)).bind fun y4 => ((c51 l1).bind fun t5 => (if 0 ≤ t5 then (if t5 ≤ (ln l1) then ((some (l1.take t5.toNat) : Ω (Λ)).bind fun y6 => (if (ln y4) < (ln y6) then k31 y6 y4 else k31 y4 y6)) else none) else none))) else none) else none))))))
noncomputable def b31 (c50 : Λ→Ω (Bool)) (c51 : Λ→Ω (Int)) (c53 : Int→Int→Int→Ω (Int × Int)) (c54 : Λ→Ω (Λ × Int)) (k2037 : Λ→Λ→Int→Int→Int→Λ→Ω (Λ × Int)) (x0 x1 : Λ) : Ω (Λ × Int) := (if 0 ≤ (wrap64 ((ln x0) + 1)) then (if (wrap64 ((ln x0) + 1)).toNat ≤ 35184372088832 then k2037 x0 x1 0 0 (ln x0) (List.replicate (wrap64 ((ln x0) + 1)).toNat (0 : Int)) else none) else none)
noncomputable def b255 (c50 : Λ→Ω (Bool)) (c51 : Λ→Ω (Int)) (c53 : Int→Int→Int→Ω (Int × Int)) (c54 : Λ→Ω (Λ × Int)) (x0 : Λ) (x1 : Int) (x2 : Λ) : Ω (Λ × Int) := (if 0 ≤ (ln x0) then (if (ln x0) < (ln x2) then ((c54 (x2.set ((ln x0) : Int).toNat x1)).bind fun t1 => some (t1.1, t1.2)) else none) else none)
noncomputable def b2037 (c50 : Λ→Ω (Bool)) (c51 : Λ→Ω (Int)) (c53 : Int→Int→Int→Ω (Int × Int)) (c54 : Λ→Ω (Λ × Int)) (k255 : Λ→Int→Λ→Ω (Λ × Int)) (k260711 : Λ→Λ→Int→Int→Int→Int→Int→Λ→Ω (Λ × Int)) (x0 x1 : Λ) (x2 x3 x4 : Int) (x5 : Λ) : Ω (Λ × Int) := (if x3 < x4 then (if 0 ≤ x3 then (if x3 < (ln x0) then (if x3 < (ln x1) then (if 0 ≤ x3 then (if x3 < (ln x1) then k260711 x0 x1 x2 x3 (rd x0 x3) (rd x1 x3) x4 x5 else none) else none) else k260711 x0 x1 x2 x3 (rd x0 x3) 0 x4 x5) else none) else none) else k255 x0 x2 x5)
noncomputable def b260711 (c50 : Λ→Ω (Bool)) (c51 : Λ→Ω (Int)) (c53 : Int→Int→Int→Ω (Int × Int)) (c54 : Λ→Ω (Λ × Int)) (k2037 : Λ→Λ→Int→Int→Int→Λ→Ω (Λ × Int)) (x0 x1 : Λ) (x2 x3 x4 x5 x6 : Int) (x7 : Λ) : Ω (Λ × Int) := ((c53 x4 x5 x2).bind fun t1 => (if 0 ≤ x3 then (if x3 < (ln x7) then k2037 x0 x1 t1.2 (wrap64 (x3 + 1)) x6 (x7.set (x3 : Int).toNat t1.1) else none) else none))
noncomputable def l255 (n : Nat) (x0 : Λ) (x1 : Int) (x2 : Λ) : Ω (Λ × Int) := b255 (nat_big.f n) (nat_size.f n) bits_Add64.f (nat_cut.f n) x0 x1 x2
noncomputable def l260711 (n : Nat) (k2037 : Λ→Λ→Int→Int→Int→Λ→Ω (Λ × Int)) (x0 x1 : Λ) (x2 x3 x4 x5 x6 : Int) (x7 : Λ) : Ω (Λ × Int) := b260711 (nat_big.f n) (nat_size.f n) bits_Add64.f (nat_cut.f n) k2037 x0 x1 x2 x3 x4 x5 x6 x7
noncomputable def l2037 (n : Nat) : Nat→Λ→Λ→Int→Int→Int→Λ→Ω (Λ × Int)
  | 0, _, _, _, _, _, _ => none
  | m + 1, x0, x1, x2, x3, x4, x5 => b2037 (nat_big.f n) (nat_size.f n) bits_Add64.f (nat_cut.f n) (l255 n) (l260711 n (l2037 n m)) x0 x1 x2 x3 x4 x5
noncomputable def l31 (n : Nat) (x0 x1 : Λ) : Ω (Λ × Int) := b31 (nat_big.f n) (nat_size.f n) bits_Add64.f (nat_cut.f n) (l2037 n n) x0 x1
noncomputable def f (n : Nat) (l0 l1 : Λ) : Ω (Λ × Int) := b0 (nat_big.f n) (nat_size.f n) bits_Add64.f (nat_cut.f n) (l31 n) l0 l1
noncomputable def sg : Sig (Λ × Int) := s2 (sRow .u64) (s1 (sInt .i64))
noncomputable def code : Code := (Tryd.f61.body).getD .skip
noncomputable def cfg (c50 : Λ→Ω (Bool)) (c51 : Λ→Ω (Int)) (c53 : Int→Int→Int→Ω (Int × Int)) (c54 : Λ→Ω (Λ × Int)) : Cfg (Λ × Int) := { T := tys, call := orCall 50 (nat_big.call c50) (orCall 51 (nat_size.call c51) (orCall 53 (bits_Add64.call c53) (orCall 54 (nat_cut.call c54) (noCall)))) }
noncomputable def cuts : List (Nat × List (Nat × Want)) := [(31, [(0, .keep), (1, .keep)]), (255, [(0, .keep), (6, .keep), (7, .keep)]), (2037, [(0, .keep), (1, .keep), (6, .keep), (7, .keep), (36, .keep), (37, .keep), (38, .keep)]), (260711, [(0, .keep), (1, .keep), (6, .keep), (7, .keep), (8, .keep), (9, .keep), (10, .keep), (36, .keep), (37, .keep), (38, .keep)])]
noncomputable def s31 (x0 x1 : Λ) : ASt := ⟨[(0, .ro .u64 x0), (1, .ro .u64 x1)], []⟩
noncomputable def s255 (x0 : Λ) (x1 : Int) (x2 : Λ) : ASt := ⟨[(0, .ro .u64 x0), (6, .own 0), (7, .int .u64 x1)], [.ints 22 .u64 x2]⟩
noncomputable def s2037 (x0 x1 : Λ) (x2 x3 x4 : Int) (x5 : Λ) : ASt := ⟨[(0, .ro .u64 x0), (1, .ro .u64 x1), (6, .own 0), (7, .int .u64 x2), (36, .ro .u64 x0), (37, .int .i64 x4), (38, .int .i64 x3)], [.ints 22 .u64 x5]⟩
noncomputable def s260711 (x0 x1 : Λ) (x2 x3 x4 x5 x6 : Int) (x7 : Λ) : ASt := ⟨[(0, .ro .u64 x0), (1, .ro .u64 x1), (6, .own 0), (7, .int .u64 x2), (8, .int .i64 x3), (9, .int .u64 x4), (10, .int .u64 x5), (36, .ro .u64 x0), (37, .int .i64 x6), (38, .int .i64 x3)], [.ints 22 .u64 x7]⟩
noncomputable def A (c50 : Λ→Ω (Bool)) (c51 : Λ→Ω (Int)) (c53 : Int→Int→Int→Ω (Int × Int)) (c54 : Λ→Ω (Λ × Int)) (n : Nat) (J : Jt (Λ × Int)) (q : Nat) (ms : List Nat) : ASt→Ω (Λ × Int) := acont (cfg c50 c51 c53 c54) J cuts n q code 1 ms (aend (cfg c50 c51 c53 c54) Tryd.f61.results.toList [false, false] sg.out)
theorem e0 (c50 : Λ→Ω (Bool)) (c51 : Λ→Ω (Int)) (c53 : Int→Int→Int→Ω (Int × Int)) (c54 : Λ→Ω (Λ × Int)) (n : Nat) (J : Jt (Λ × Int)) (l0 l1 : Λ) : afun (cfg c50 c51 c53 c54) J cuts n code Tryd.f61.results.toList [false, false] [.ro .u64 l0, .ro .u64 l1] sg.out = b0 c50 c51 c53 c54 (fun y0 y1 => J 31 (A c50 c51 c53 c54 n J 31 []) (s31 y0 y1)) l0 l1 := by kernel_rfl
theorem e31 (c50 : Λ→Ω (Bool)) (c51 : Λ→Ω (Int)) (c53 : Int→Int→Int→Ω (Int × Int)) (c54 : Λ→Ω (Λ × Int)) (n : Nat) (J : Jt (Λ × Int)) (x0 x1 : Λ) : A c50 c51 c53 c54 n J 31 [] (s31 x0 x1) = b31 c50 c51 c53 c54 (fun y0 y1 y2 y3 y4 y5 => J 2037 (A c50 c51 c53 c54 n J 2037 [n]) (s2037 y0 y1 y2 y3 y4 y5)) x0 x1 := by kernel_rfl
theorem e255 (c50 : Λ→Ω (Bool)) (c51 : Λ→Ω (Int)) (c53 : Int→Int→Int→Ω (Int × Int)) (c54 : Λ→Ω (Λ × Int)) (n : Nat) (J : Jt (Λ × Int)) (x0 : Λ) (x1 : Int) (x2 : Λ) : A c50 c51 c53 c54 n J 255 [] (s255 x0 x1 x2) = b255 c50 c51 c53 c54 x0 x1 x2 := by kernel_rfl
theorem e2037 (c50 : Λ→Ω (Bool)) (c51 : Λ→Ω (Int)) (c53 : Int→Int→Int→Ω (Int × Int)) (c54 : Λ→Ω (Λ × Int)) (n : Nat) (J : Jt (Λ × Int)) (m : Nat) (x0 x1 : Λ) (x2 x3 x4 : Int) (x5 : Λ) : A c50 c51 c53 c54 n J 2037 [m + 1] (s2037 x0 x1 x2 x3 x4 x5) = b2037 c50 c51 c53 c54 (fun y0 y1 y2 => J 255 (A c50 c51 c53 c54 n J 255 []) (s255 y0 y1 y2)) (fun y0 y1 y2 y3 y4 y5 y6 y7 => J 260711 (A c50 c51 c53 c54 n J 260711 [m]) (s260711 y0 y1 y2 y3 y4 y5 y6 y7)) x0 x1 x2 x3 x4 x5 := by kernel_rfl
theorem e260711 (c50 : Λ→Ω (Bool)) (c51 : Λ→Ω (Int)) (c53 : Int→Int→Int→Ω (Int × Int)) (c54 : Λ→Ω (Λ × Int)) (n : Nat) (J : Jt (Λ × Int)) (m2037 : Nat) (x0 x1 : Λ) (x2 x3 x4 x5 x6 : Int) (x7 : Λ) : A c50 c51 c53 c54 n J 260711 [m2037] (s260711 x0 x1 x2 x3 x4 x5 x6 x7) = b260711 c50 c51 c53 c54 (fun y0 y1 y2 y3 y4 y5 => J 2037 (A c50 c51 c53 c54 n J 2037 [m2037]) (s2037 y0 y1 y2 y3 y4 y5)) x0 x1 x2 x3 x4 x5 x6 x7 := by kernel_rfl
theorem q255 (n : Nat) (x0 : Λ) (x1 : Int) (x2 : Λ) : A (nat_big.f n) (nat_size.f n) bits_Add64.f (nat_cut.f n) n idJ 255 [] (s255 x0 x1 x2) = l255 n x0 x1 x2 := (e255 (nat_big.f n) (nat_size.f n) bits_Add64.f (nat_cut.f n) n idJ x0 x1 x2).trans (rfl)
theorem q260711 (n m2037 : Nat) (x0 x1 : Λ) (x2 x3 x4 x5 x6 : Int) (x7 : Λ) : A (nat_big.f n) (nat_size.f n) bits_Add64.f (nat_cut.f n) n idJ 260711 [m2037] (s260711 x0 x1 x2 x3 x4 x5 x6 x7) = l260711 n (fun y0 y1 y2 y3 y4 y5 => A (nat_big.f n) (nat_size.f n) bits_Add64.f (nat_cut.f n) n idJ 2037 [m2037] (s2037 y0 y1 y2 y3 y4 y5)) x0 x1 x2 x3 x4 x5 x6 x7 := (e260711 (nat_big.f n) (nat_size.f n) bits_Add64.f (nat_cut.f n) n idJ m2037 x0 x1 x2 x3 x4 x5 x6 x7).trans (rfl)
theorem q2037 (n m : Nat) : ∀ (x0 x1 : Λ) (x2 x3 x4 : Int) (x5 : Λ), A (nat_big.f n) (nat_size.f n) bits_Add64.f (nat_cut.f n) n idJ 2037 [m] (s2037 x0 x1 x2 x3 x4 x5) = l2037 n m x0 x1 x2 x3 x4 x5 := by
  induction m with
  | zero => intros; rfl
  | succ m ih =>
    intro x0 x1 x2 x3 x4 x5
    refine (e2037 (nat_big.f n) (nat_size.f n) bits_Add64.f (nat_cut.f n) n idJ m x0 x1 x2 x3 x4 x5).trans ?_
    exact congrFun (congrFun (congrFun (congrFun (congrFun (congrFun (congr (congrArg (b2037 (nat_big.f n) (nat_size.f n) bits_Add64.f (nat_cut.f n)) (funext fun y0 => (funext fun y1 => (funext fun y2 => q255 n y0 y1 y2)))) ((funext fun y0 => (funext fun y1 => (funext fun y2 => (funext fun y3 => (funext fun y4 => (funext fun y5 => (funext fun y6 => (funext fun y7 => q260711 n m y0 y1 y2 y3 y4 y5 y6 y7)))))))).trans (by rw [show (fun y0 y1 y2 y3 y4 y5 => A (nat_big.f n) (nat_size.f n) bits_Add64.f (nat_cut.f n) n idJ 2037 [m] (s2037 y0 y1 y2 y3 y4 y5)) = _ from (funext fun y0 => (funext fun y1 => (funext fun y2 => (funext fun y3 => (funext fun y4 => (funext fun y5 => ih y0 y1 y2 y3 y4 y5))))))]))) x0) x1) x2) x3) x4) x5
theorem q31 (n : Nat) (x0 x1 : Λ) : A (nat_big.f n) (nat_size.f n) bits_Add64.f (nat_cut.f n) n idJ 31 [] (s31 x0 x1) = l31 n x0 x1 := (e31 (nat_big.f n) (nat_size.f n) bits_Add64.f (nat_cut.f n) n idJ x0 x1).trans (congrFun (congrFun (congrArg (b31 (nat_big.f n) (nat_size.f n) bits_Add64.f (nat_cut.f n)) (funext fun y0 => (funext fun y1 => (funext fun y2 => (funext fun y3 => (funext fun y4 => (funext fun y5 => q2037 n n y0 y1 y2 y3 y4 y5))))))) x0) x1)
theorem eq (n : Nat) (l0 l1 : Λ) : afun (cfg (nat_big.f n) (nat_size.f n) bits_Add64.f (nat_cut.f n)) idJ cuts n code Tryd.f61.results.toList [false, false] [.ro .u64 l0, .ro .u64 l1] sg.out = f n l0 l1 := (e0 (nat_big.f n) (nat_size.f n) bits_Add64.f (nat_cut.f n) n idJ l0 l1).trans (congrFun (congrFun (congrArg (b0 (nat_big.f n) (nat_size.f n) bits_Add64.f (nat_cut.f n)) (funext fun y0 => (funext fun y1 => q31 n y0 y1))) l0) l1)
theorem ok {n : Nat} {l0 : Λ} {l1 : Λ} {r : Λ × Int} (h : f n l0 l1 = some r) : CallD Tryd.prog HW 61 [.ro .u64 l0, .ro .u64 l1] (sg.enc r) :=
  fun_some hwS Tryd.func61 (by kernel_rfl) (body := code) (by kernel_rfl) tys_ok (c := cfg (nat_big.f n) (nat_size.f n) bits_Add64.f (nat_cut.f n)) (orCall_ok (nat_big.call_ok (n := n)) (orCall_ok (nat_size.call_ok (n := n)) (orCall_ok (bits_Add64.call_ok (n := n)) (orCall_ok (nat_cut.call_ok (n := n)) noCall_ok)))) noW_ok (by kernel_rfl) (by kernel_rfl) (Nat.le_of_ble_eq_true (by kernel_rfl)) ((eq n l0 l1).trans h)
noncomputable def call {α : Type} (g : Λ→Λ→Ω (Λ × Int)) (ds : List D) (K : List D→Ω α) : Ω α := match ds with
  | [.ro .u64 l0, .ro .u64 l1] => (g l0 l1).bind fun r => K (sg.enc r)
  | _ => none
theorem call_ok {α : Type} {n : Nat} (ds : List D) (K : List D→Ω α) (r : α) (h : call (f n) ds K = some r) : ∃ rs, K rs = some r ∧ CallD Tryd.prog HW 61 ds rs := by
  unfold call at h
  split at h
  · obtain ⟨x, hx, hk⟩ := Option.bind_eq_some_iff.1 h
    exact ⟨_, hk, ok (n := n) hx⟩
  · cases h
end nat_Add
end Go.Proofs.YtobocamcoaeliaaDoor.F
