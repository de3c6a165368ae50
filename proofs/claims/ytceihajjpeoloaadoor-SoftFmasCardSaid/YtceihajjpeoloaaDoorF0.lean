/- What the functions compute, and that calls of them answer so (printed by gen.py). Conditions: HW, a table as it was laid. -/
import Derived.Test.YtceihajjpeoloaaDoorA17
import Derived.Test.YtceihajjpeoloaaDoorProg
namespace Go.Proofs.YtceihajjpeoloaaDoor.F
open Go.RowKit Go.Proofs.YtceihajjpeoloaaDoorA
set_option linter.unusedVariables false
set_option maxRecDepth 100000
local notation "Λ" => List Int
local notation "Ω" => Option
/-- The table of math/bits.TrailingZeros64 stands as it was laid. -/
def HW : World → Prop := fun w => ∀ j, j < 64 → w.cell? ⟨0, j, none⟩ = some (.int .u8 ((Lib.deBruijn64tab.getD j 0 : Nat) : Int))
theorem hwS : ∀ w w' : World, Below w.heap.size w w' → HW w → HW w' := fun w w' hb h j hj => by
  have h1 := h j hj
  rw [← h1]
  exact hb.cell (Nat.lt_of_not_le fun hn => by simp [World.cell?, Array.getElem?_eq_none hn] at h1)
def tys : List (Nat × TI) := [(3, ⟨.int .i64, 1, 8, [.int .i64 0], false⟩),
  (4, ⟨.bool, 1, 1, [.bool false], false⟩),
  (22, ⟨.int .u64, 1, 8, [.int .u64 0], false⟩),
  (28, ⟨.slice 30, 1, 24, [.nil], false⟩),
  (30, ⟨.struct [(0, 1, false), (1, 1, false), (2, 1, false)], 3, 24, [.int .u64 0, .int .u64 0, .int .u64 0], true⟩),
  (34, ⟨.slice 22, 1, 24, [.nil], false⟩),
  (42, ⟨.struct [(0, 1, false), (1, 1, false), (2, 1, false), (3, 1, false)], 4, 32, [.bool false, .int .i64 0, .int .u64 0, .int .i64 0], true⟩),
  (71, ⟨.int .u64, 1, 8, [.int .u64 0], false⟩),
  (79, ⟨.struct [(0, 1, false), (1, 1, false), (2, 1, false), (3, 1, false)], 4, 64, [.bool false, .nil, .nil, .int .i64 0], false⟩),
  (113, ⟨.struct [(0, 1, false), (1, 1, false), (2, 1, false), (3, 1, false)], 4, 64, [.bool false, .nil, .nil, .int .i64 0], false⟩),
  (115, ⟨.struct [(0, 1, false), (1, 1, false), (2, 1, false)], 3, 40, [.bool false, .nil, .int .i64 0], false⟩)]
theorem tys_ok : TOK Tryd.prog tys := tok_of (by kernel_rfl)
/-! ### ieee_Abs: function 46 -/
noncomputable def ieee_Abs.b0 (a0 : Int) : Ω (Int) := some (Go.bits .andNot .u64 a0 9223372036854775808)
noncomputable def ieee_Abs.f (a0 : Int) : Ω (Int) := ieee_Abs.b0 a0
noncomputable def ieee_Abs.sg : Sig (Int) := s1 (sInt .u64)
noncomputable def ieee_Abs.code : Code := (Tryd.f46.body).getD .skip
noncomputable def ieee_Abs.cfg : Cfg (Int) := { T := tys, call := noCall }
noncomputable def ieee_Abs.cuts : List (Nat × List (Nat × Want)) := []
theorem ieee_Abs.e0 (n : Nat) (J : Nat→(ASt→Ω (Int))→ASt→Ω (Int)) (a0 : Int) : afun (ieee_Abs.cfg) J ieee_Abs.cuts n ieee_Abs.code Tryd.f46.results.toList [false] [.int .u64 a0] ieee_Abs.sg.out = ieee_Abs.b0 a0 := by kernel_rfl
theorem ieee_Abs.eq (n : Nat) (a0 : Int) : afun (ieee_Abs.cfg) idJ ieee_Abs.cuts n ieee_Abs.code Tryd.f46.results.toList [false] [.int .u64 a0] ieee_Abs.sg.out = ieee_Abs.f a0 := (ieee_Abs.e0 n idJ a0).trans (rfl)
theorem ieee_Abs.ok {n : Nat} {a0 : Int} {r : Int} (h : ieee_Abs.f a0 = some r) : CallD Tryd.prog HW 46 [.int .u64 a0] (ieee_Abs.sg.enc r) :=
  fun_some hwS Tryd.func46 (by kernel_rfl) (body := ieee_Abs.code) (by kernel_rfl) tys_ok (c := ieee_Abs.cfg) noCall_ok noW_ok (by kernel_rfl) (by kernel_rfl) (Nat.le_of_ble_eq_true (by kernel_rfl)) ((ieee_Abs.eq n a0).trans h)
noncomputable def ieee_Abs.call {α : Type} (g : Int→Ω (Int)) (ds : List D) (K : List D→Ω α) : Ω α := match ds with
  | [.int .u64 a0] => (g a0).bind fun r => K (ieee_Abs.sg.enc r)
  | _ => none
theorem ieee_Abs.call_ok {α : Type} {n : Nat} (ds : List D) (K : List D→Ω α) (r : α) (h : ieee_Abs.call ieee_Abs.f ds K = some r) : ∃ rs, K rs = some r ∧ CallD Tryd.prog HW 46 ds rs := by
  unfold ieee_Abs.call at h
  split at h
  · obtain ⟨x, hx, hk⟩ := Option.bind_eq_some_iff.1 h
    exact ⟨_, hk, ieee_Abs.ok (n := n) hx⟩
  · cases h
/-! ### ieee_Class: function 50 -/
noncomputable def ieee_Class.b0 (c46 : Int→Ω (Int)) (a0 : Int) : Ω (Int) := ((c46 a0).bind fun t1 => (if t1 = 0 then some 0 else (if t1 < 4503599627370496 then some 1 else (if t1 < 9218868437227405312 then some 2 else (if t1 = 9218868437227405312 then some 3 else some 4)))))
noncomputable def ieee_Class.f (a0 : Int) : Ω (Int) := ieee_Class.b0 ieee_Abs.f a0
noncomputable def ieee_Class.sg : Sig (Int) := s1 (sInt .i64)
noncomputable def ieee_Class.code : Code := (Tryd.f50.body).getD .skip
noncomputable def ieee_Class.cfg (c46 : Int→Ω (Int)) : Cfg (Int) := { T := tys, call := orCall 46 (ieee_Abs.call c46) (noCall) }
noncomputable def ieee_Class.cuts : List (Nat × List (Nat × Want)) := []
theorem ieee_Class.e0 (c46 : Int→Ω (Int)) (n : Nat) (J : Nat→(ASt→Ω (Int))→ASt→Ω (Int)) (a0 : Int) : afun (ieee_Class.cfg c46) J ieee_Class.cuts n ieee_Class.code Tryd.f50.results.toList [false] [.int .u64 a0] ieee_Class.sg.out = ieee_Class.b0 c46 a0 := by kernel_rfl
theorem ieee_Class.eq (n : Nat) (a0 : Int) : afun (ieee_Class.cfg ieee_Abs.f) idJ ieee_Class.cuts n ieee_Class.code Tryd.f50.results.toList [false] [.int .u64 a0] ieee_Class.sg.out = ieee_Class.f a0 := (ieee_Class.e0 ieee_Abs.f n idJ a0).trans (rfl)
theorem ieee_Class.ok {n : Nat} {a0 : Int} {r : Int} (h : ieee_Class.f a0 = some r) : CallD Tryd.prog HW 50 [.int .u64 a0] (ieee_Class.sg.enc r) :=
  fun_some hwS Tryd.func50 (by kernel_rfl) (body := ieee_Class.code) (by kernel_rfl) tys_ok (c := ieee_Class.cfg ieee_Abs.f) (orCall_ok (ieee_Abs.call_ok (n := n)) noCall_ok) noW_ok (by kernel_rfl) (by kernel_rfl) (Nat.le_of_ble_eq_true (by kernel_rfl)) ((ieee_Class.eq n a0).trans h)
noncomputable def ieee_Class.call {α : Type} (g : Int→Ω (Int)) (ds : List D) (K : List D→Ω α) : Ω α := match ds with
  | [.int .u64 a0] => (g a0).bind fun r => K (ieee_Class.sg.enc r)
  | _ => none
theorem ieee_Class.call_ok {α : Type} {n : Nat} (ds : List D) (K : List D→Ω α) (r : α) (h : ieee_Class.call ieee_Class.f ds K = some r) : ∃ rs, K rs = some r ∧ CallD Tryd.prog HW 50 ds rs := by
  unfold ieee_Class.call at h
  split at h
  · obtain ⟨x, hx, hk⟩ := Option.bind_eq_some_iff.1 h
    exact ⟨_, hk, ieee_Class.ok (n := n) hx⟩
  · cases h
/-! ### ieee_Decode: function 73 -/
noncomputable def ieee_Decode.b0 (c50 : Int→Ω (Int)) (a0 : Int) : Ω (Bool × Int × Int × Int) := ((c50 a0).bind fun t1 => (if t1 = 1 then some (decide (¬ (Go.bits .and .u64 a0 9223372036854775808) = 0), t1, Go.bits .and .u64 a0 4503599627370495, (-1074)) else (if t1 = 2 then some (decide (¬ (Go.bits .and .u64 a0 9223372036854775808) = 0), t1, Go.bits .or .u64 4503599627370496 (Go.bits .and .u64 a0 4503599627370495), wrap64 ((wrap64 (Go.bits .and .u64 (a0 / 4503599627370496) 2047)) - 1075)) else (if t1 = 4 then some (decide (¬ (Go.bits .and .u64 a0 9223372036854775808) = 0), t1, Go.bits .and .u64 a0 4503599627370495, 0) else some (decide (¬ (Go.bits .and .u64 a0 9223372036854775808) = 0), t1, 0, 0)))))
noncomputable def ieee_Decode.f (a0 : Int) : Ω (Bool × Int × Int × Int) := ieee_Decode.b0 ieee_Class.f a0
noncomputable def ieee_Decode.sg : Sig (Bool × Int × Int × Int) := s1 (sAgg (s2 (sBool) (s2 (sInt .i64) (s2 (sInt .u64) (s1 (sInt .i64))))))
noncomputable def ieee_Decode.code : Code := (Tryd.f73.body).getD .skip
noncomputable def ieee_Decode.cfg (c50 : Int→Ω (Int)) : Cfg (Bool × Int × Int × Int) := { T := tys, call := orCall 50 (ieee_Class.call c50) (noCall) }
noncomputable def ieee_Decode.cuts : List (Nat × List (Nat × Want)) := []
theorem ieee_Decode.e0 (c50 : Int→Ω (Int)) (n : Nat) (J : Nat→(ASt→Ω (Bool × Int × Int × Int))→ASt→Ω (Bool × Int × Int × Int)) (a0 : Int) : afun (ieee_Decode.cfg c50) J ieee_Decode.cuts n ieee_Decode.code Tryd.f73.results.toList [false] [.int .u64 a0] ieee_Decode.sg.out = ieee_Decode.b0 c50 a0 := by kernel_rfl
theorem ieee_Decode.eq (n : Nat) (a0 : Int) : afun (ieee_Decode.cfg ieee_Class.f) idJ ieee_Decode.cuts n ieee_Decode.code Tryd.f73.results.toList [false] [.int .u64 a0] ieee_Decode.sg.out = ieee_Decode.f a0 := (ieee_Decode.e0 ieee_Class.f n idJ a0).trans (rfl)
theorem ieee_Decode.ok {n : Nat} {a0 : Int} {r : Bool × Int × Int × Int} (h : ieee_Decode.f a0 = some r) : CallD Tryd.prog HW 73 [.int .u64 a0] (ieee_Decode.sg.enc r) :=
  fun_some hwS Tryd.func73 (by kernel_rfl) (body := ieee_Decode.code) (by kernel_rfl) tys_ok (c := ieee_Decode.cfg ieee_Class.f) (orCall_ok (ieee_Class.call_ok (n := n)) noCall_ok) noW_ok (by kernel_rfl) (by kernel_rfl) (Nat.le_of_ble_eq_true (by kernel_rfl)) ((ieee_Decode.eq n a0).trans h)
noncomputable def ieee_Decode.call {α : Type} (g : Int→Ω (Bool × Int × Int × Int)) (ds : List D) (K : List D→Ω α) : Ω α := match ds with
  | [.int .u64 a0] => (g a0).bind fun r => K (ieee_Decode.sg.enc r)
  | _ => none
theorem ieee_Decode.call_ok {α : Type} {n : Nat} (ds : List D) (K : List D→Ω α) (r : α) (h : ieee_Decode.call ieee_Decode.f ds K = some r) : ∃ rs, K rs = some r ∧ CallD Tryd.prog HW 73 ds rs := by
  unfold ieee_Decode.call at h
  split at h
  · obtain ⟨x, hx, hk⟩ := Option.bind_eq_some_iff.1 h
    exact ⟨_, hk, ieee_Decode.ok (n := n) hx⟩
  · cases h
/-! ### soft_invalid: function 137 -/
noncomputable def soft_invalid.b0 : Ω (Int × Int) := some (9221120237041090560, 1)
noncomputable def soft_invalid.f : Ω (Int × Int) := soft_invalid.b0
noncomputable def soft_invalid.sg : Sig (Int × Int) := s2 (sInt .u64) (s1 (sInt .i64))
noncomputable def soft_invalid.code : Code := (Tryd.f137.body).getD .skip
noncomputable def soft_invalid.cfg : Cfg (Int × Int) := { T := tys, call := noCall }
noncomputable def soft_invalid.cuts : List (Nat × List (Nat × Want)) := []
theorem soft_invalid.e0 (n : Nat) (J : Nat→(ASt→Ω (Int × Int))→ASt→Ω (Int × Int)) : afun (soft_invalid.cfg) J soft_invalid.cuts n soft_invalid.code Tryd.f137.results.toList [false, false] [] soft_invalid.sg.out = soft_invalid.b0 := by kernel_rfl
theorem soft_invalid.eq (n : Nat) : afun (soft_invalid.cfg) idJ soft_invalid.cuts n soft_invalid.code Tryd.f137.results.toList [false, false] [] soft_invalid.sg.out = soft_invalid.f := (soft_invalid.e0 n idJ).trans (rfl)
theorem soft_invalid.ok {n : Nat} {r : Int × Int} (h : soft_invalid.f = some r) : CallD Tryd.prog HW 137 [] (soft_invalid.sg.enc r) :=
  fun_some hwS Tryd.func137 (by kernel_rfl) (body := soft_invalid.code) (by kernel_rfl) tys_ok (c := soft_invalid.cfg) noCall_ok noW_ok (by kernel_rfl) (by kernel_rfl) (Nat.le_of_ble_eq_true (by kernel_rfl)) ((soft_invalid.eq n).trans h)
noncomputable def soft_invalid.call {α : Type} (g : Ω (Int × Int)) (ds : List D) (K : List D→Ω α) : Ω α := match ds with
  | [] => (g).bind fun r => K (soft_invalid.sg.enc r)
  | _ :: _ => none
theorem soft_invalid.call_ok {α : Type} {n : Nat} (ds : List D) (K : List D→Ω α) (r : α) (h : soft_invalid.call soft_invalid.f ds K = some r) : ∃ rs, K rs = some r ∧ CallD Tryd.prog HW 137 ds rs := by
  unfold soft_invalid.call at h
  split at h
  · obtain ⟨x, hx, hk⟩ := Option.bind_eq_some_iff.1 h
    exact ⟨_, hk, soft_invalid.ok (n := n) hx⟩
  · cases h
/-! ### soft_withSign: function 138 -/
noncomputable def soft_withSign.b0 (a0 : Bool) (a1 : Int) : Ω (Int) := (if a0 = true then some (Go.bits .or .u64 a1 9223372036854775808) else some a1)
noncomputable def soft_withSign.f (a0 : Bool) (a1 : Int) : Ω (Int) := soft_withSign.b0 a0 a1
noncomputable def soft_withSign.sg : Sig (Int) := s1 (sInt .u64)
noncomputable def soft_withSign.code : Code := (Tryd.f138.body).getD .skip
noncomputable def soft_withSign.cfg : Cfg (Int) := { T := tys, call := noCall }
noncomputable def soft_withSign.cuts : List (Nat × List (Nat × Want)) := []
theorem soft_withSign.e0 (n : Nat) (J : Nat→(ASt→Ω (Int))→ASt→Ω (Int)) (a0 : Bool) (a1 : Int) : afun (soft_withSign.cfg) J soft_withSign.cuts n soft_withSign.code Tryd.f138.results.toList [false] [.bool a0, .int .u64 a1] soft_withSign.sg.out = soft_withSign.b0 a0 a1 := by kernel_rfl
theorem soft_withSign.eq (n : Nat) (a0 : Bool) (a1 : Int) : afun (soft_withSign.cfg) idJ soft_withSign.cuts n soft_withSign.code Tryd.f138.results.toList [false] [.bool a0, .int .u64 a1] soft_withSign.sg.out = soft_withSign.f a0 a1 := (soft_withSign.e0 n idJ a0 a1).trans (rfl)
theorem soft_withSign.ok {n : Nat} {a0 : Bool} {a1 : Int} {r : Int} (h : soft_withSign.f a0 a1 = some r) : CallD Tryd.prog HW 138 [.bool a0, .int .u64 a1] (soft_withSign.sg.enc r) :=
  fun_some hwS Tryd.func138 (by kernel_rfl) (body := soft_withSign.code) (by kernel_rfl) tys_ok (c := soft_withSign.cfg) noCall_ok noW_ok (by kernel_rfl) (by kernel_rfl) (Nat.le_of_ble_eq_true (by kernel_rfl)) ((soft_withSign.eq n a0 a1).trans h)
noncomputable def soft_withSign.call {α : Type} (g : Bool→Int→Ω (Int)) (ds : List D) (K : List D→Ω α) : Ω α := match ds with
  | [.bool a0, .int .u64 a1] => (g a0 a1).bind fun r => K (soft_withSign.sg.enc r)
  | _ => none
theorem soft_withSign.call_ok {α : Type} {n : Nat} (ds : List D) (K : List D→Ω α) (r : α) (h : soft_withSign.call soft_withSign.f ds K = some r) : ∃ rs, K rs = some r ∧ CallD Tryd.prog HW 138 ds rs := by
  unfold soft_withSign.call at h
  split at h
  · obtain ⟨x, hx, hk⟩ := Option.bind_eq_some_iff.1 h
    exact ⟨_, hk, soft_withSign.ok (n := n) hx⟩
  · cases h
/-! ### nat_FromUint: function 118 -/
noncomputable def nat_FromUint.b0 (a0 : Int) : Ω (Λ) := (if a0 = 0 then some ([] : Λ) else some [a0])
noncomputable def nat_FromUint.f (a0 : Int) : Ω (Λ) := nat_FromUint.b0 a0
noncomputable def nat_FromUint.sg : Sig (Λ) := s1 (sRow .u64)
noncomputable def nat_FromUint.code : Code := (Tryd.f118.body).getD .skip
noncomputable def nat_FromUint.cfg : Cfg (Λ) := { T := tys, call := noCall }
noncomputable def nat_FromUint.cuts : List (Nat × List (Nat × Want)) := []
theorem nat_FromUint.e0 (n : Nat) (J : Nat→(ASt→Ω (Λ))→ASt→Ω (Λ)) (a0 : Int) : afun (nat_FromUint.cfg) J nat_FromUint.cuts n nat_FromUint.code Tryd.f118.results.toList [false] [.int .u64 a0] nat_FromUint.sg.out = nat_FromUint.b0 a0 := by kernel_rfl
theorem nat_FromUint.eq (n : Nat) (a0 : Int) : afun (nat_FromUint.cfg) idJ nat_FromUint.cuts n nat_FromUint.code Tryd.f118.results.toList [false] [.int .u64 a0] nat_FromUint.sg.out = nat_FromUint.f a0 := (nat_FromUint.e0 n idJ a0).trans (rfl)
theorem nat_FromUint.ok {n : Nat} {a0 : Int} {r : Λ} (h : nat_FromUint.f a0 = some r) : CallD Tryd.prog HW 118 [.int .u64 a0] (nat_FromUint.sg.enc r) :=
  fun_some hwS Tryd.func118 (by kernel_rfl) (body := nat_FromUint.code) (by kernel_rfl) tys_ok (c := nat_FromUint.cfg) noCall_ok noW_ok (by kernel_rfl) (by kernel_rfl) (Nat.le_of_ble_eq_true (by kernel_rfl)) ((nat_FromUint.eq n a0).trans h)
noncomputable def nat_FromUint.call {α : Type} (g : Int→Ω (Λ)) (ds : List D) (K : List D→Ω α) : Ω α := match ds with
  | [.int .u64 a0] => (g a0).bind fun r => K (nat_FromUint.sg.enc r)
  | _ => none
theorem nat_FromUint.call_ok {α : Type} {n : Nat} (ds : List D) (K : List D→Ω α) (r : α) (h : nat_FromUint.call nat_FromUint.f ds K = some r) : ∃ rs, K rs = some r ∧ CallD Tryd.prog HW 118 ds rs := by
  unfold nat_FromUint.call at h
  split at h
  · obtain ⟨x, hx, hk⟩ := Option.bind_eq_some_iff.1 h
    exact ⟨_, hk, nat_FromUint.ok (n := n) hx⟩
  · cases h
/-! ### nat_size: function 133 -/
noncomputable def nat_size.b0 (k57 : Λ→Int→Ω (Int)) (l0 : Λ) : Ω (Int) := k57 l0 (ln l0)
noncomputable def nat_size.b57 (k57 : Λ→Int→Ω (Int)) (x0 : Λ) (x1 : Int) : Ω (Int) := (if x1 > 0 then (if 0 ≤ (wrap64 (x1 - 1)) then (if (wrap64 (x1 - 1)) < (ln x0) then (if (rd x0 (wrap64 (x1 - 1))) = 0 then k57 x0 (wrap64 (x1 - 1)) else some x1) else none) else none) else some x1)
noncomputable def nat_size.l57 (n : Nat) : Nat→Λ→Int→Ω (Int)
  | 0, _, _ => none
  | m + 1, x0, x1 => nat_size.b57 (nat_size.l57 n m) x0 x1
noncomputable def nat_size.f (n : Nat) (l0 : Λ) : Ω (Int) := nat_size.b0 (nat_size.l57 n n) l0
noncomputable def nat_size.sg : Sig (Int) := s1 (sInt .i64)
noncomputable def nat_size.code : Code := (Tryd.f133.body).getD .skip
noncomputable def nat_size.cfg : Cfg (Int) := { T := tys, call := noCall }
noncomputable def nat_size.cuts : List (Nat × List (Nat × Want)) := [(57, [(0, .keep), (3, .keep)])]
noncomputable def nat_size.s57 (x0 : Λ) (x1 : Int) : ASt := ⟨[(0, .ro .u64 x0), (3, .int .i64 x1)], []⟩
noncomputable def nat_size.A (n : Nat) (J : Nat→(ASt→Ω (Int))→ASt→Ω (Int)) (q : Nat) (ms : List Nat) : ASt→Ω (Int) := acont (nat_size.cfg) J nat_size.cuts n q nat_size.code 1 ms (aend (nat_size.cfg) Tryd.f133.results.toList [false] nat_size.sg.out)
theorem nat_size.e0 (n : Nat) (J : Nat→(ASt→Ω (Int))→ASt→Ω (Int)) (l0 : Λ) : afun (nat_size.cfg) J nat_size.cuts n nat_size.code Tryd.f133.results.toList [false] [.ro .u64 l0] nat_size.sg.out = nat_size.b0 (fun y0 y1 => J 57 (nat_size.A n J 57 [n]) (nat_size.s57 y0 y1)) l0 := by kernel_rfl
theorem nat_size.e57 (n : Nat) (J : Nat→(ASt→Ω (Int))→ASt→Ω (Int)) (m : Nat) (x0 : Λ) (x1 : Int) : nat_size.A n J 57 [m + 1] (nat_size.s57 x0 x1) = nat_size.b57 (fun y0 y1 => J 57 (nat_size.A n J 57 [m]) (nat_size.s57 y0 y1)) x0 x1 := by kernel_rfl
theorem nat_size.q57 (n : Nat) (m : Nat) : ∀ (x0 : Λ) (x1 : Int), nat_size.A n idJ 57 [m] (nat_size.s57 x0 x1) = nat_size.l57 n m x0 x1 := by
  induction m with
  | zero => intros; rfl
  | succ m ih =>
    intro x0 x1
    refine (nat_size.e57 n idJ m x0 x1).trans ?_
    exact congrFun (congrFun (congrArg nat_size.b57 (funext fun y0 => (funext fun y1 => ih y0 y1))) x0) x1
theorem nat_size.eq (n : Nat) (l0 : Λ) : afun (nat_size.cfg) idJ nat_size.cuts n nat_size.code Tryd.f133.results.toList [false] [.ro .u64 l0] nat_size.sg.out = nat_size.f n l0 := (nat_size.e0 n idJ l0).trans (congrFun (congrArg nat_size.b0 (funext fun y0 => (funext fun y1 => nat_size.q57 n n y0 y1))) l0)
theorem nat_size.ok {n : Nat} {l0 : Λ} {r : Int} (h : nat_size.f n l0 = some r) : CallD Tryd.prog HW 133 [.ro .u64 l0] (nat_size.sg.enc r) :=
  fun_some hwS Tryd.func133 (by kernel_rfl) (body := nat_size.code) (by kernel_rfl) tys_ok (c := nat_size.cfg) noCall_ok noW_ok (by kernel_rfl) (by kernel_rfl) (Nat.le_of_ble_eq_true (by kernel_rfl)) ((nat_size.eq n l0).trans h)
noncomputable def nat_size.call {α : Type} (g : Λ→Ω (Int)) (ds : List D) (K : List D→Ω α) : Ω α := match ds with
  | [.ro .u64 l0] => (g l0).bind fun r => K (nat_size.sg.enc r)
  | _ => none
theorem nat_size.call_ok {α : Type} {n : Nat} (ds : List D) (K : List D→Ω α) (r : α) (h : nat_size.call (nat_size.f n) ds K = some r) : ∃ rs, K rs = some r ∧ CallD Tryd.prog HW 133 ds rs := by
  unfold nat_size.call at h
  split at h
  · obtain ⟨x, hx, hk⟩ := Option.bind_eq_some_iff.1 h
    exact ⟨_, hk, nat_size.ok (n := n) hx⟩
  · cases h
/-! ### nat_big: function 166 -/
noncomputable def nat_big.b0 (c133 : Λ→Ω (Int)) (l0 : Λ) : Ω (Bool) := ((c133 l0).bind fun t1 => some (decide (t1 > 4096)))
noncomputable def nat_big.f (n : Nat) (l0 : Λ) : Ω (Bool) := nat_big.b0 (nat_size.f n) l0
noncomputable def nat_big.sg : Sig (Bool) := s1 (sBool)
noncomputable def nat_big.code : Code := (Tryd.f166.body).getD .skip
noncomputable def nat_big.cfg (c133 : Λ→Ω (Int)) : Cfg (Bool) := { T := tys, call := orCall 133 (nat_size.call c133) (noCall) }
noncomputable def nat_big.cuts : List (Nat × List (Nat × Want)) := []
theorem nat_big.e0 (c133 : Λ→Ω (Int)) (n : Nat) (J : Nat→(ASt→Ω (Bool))→ASt→Ω (Bool)) (l0 : Λ) : afun (nat_big.cfg c133) J nat_big.cuts n nat_big.code Tryd.f166.results.toList [false] [.ro .u64 l0] nat_big.sg.out = nat_big.b0 c133 l0 := by kernel_rfl
theorem nat_big.eq (n : Nat) (l0 : Λ) : afun (nat_big.cfg (nat_size.f n)) idJ nat_big.cuts n nat_big.code Tryd.f166.results.toList [false] [.ro .u64 l0] nat_big.sg.out = nat_big.f n l0 := (nat_big.e0 (nat_size.f n) n idJ l0).trans (rfl)
theorem nat_big.ok {n : Nat} {l0 : Λ} {r : Bool} (h : nat_big.f n l0 = some r) : CallD Tryd.prog HW 166 [.ro .u64 l0] (nat_big.sg.enc r) :=
  fun_some hwS Tryd.func166 (by kernel_rfl) (body := nat_big.code) (by kernel_rfl) tys_ok (c := nat_big.cfg (nat_size.f n)) (orCall_ok (nat_size.call_ok (n := n)) noCall_ok) noW_ok (by kernel_rfl) (by kernel_rfl) (Nat.le_of_ble_eq_true (by kernel_rfl)) ((nat_big.eq n l0).trans h)
noncomputable def nat_big.call {α : Type} (g : Λ→Ω (Bool)) (ds : List D) (K : List D→Ω α) : Ω α := match ds with
  | [.ro .u64 l0] => (g l0).bind fun r => K (nat_big.sg.enc r)
  | _ => none
theorem nat_big.call_ok {α : Type} {n : Nat} (ds : List D) (K : List D→Ω α) (r : α) (h : nat_big.call (nat_big.f n) ds K = some r) : ∃ rs, K rs = some r ∧ CallD Tryd.prog HW 166 ds rs := by
  unfold nat_big.call at h
  split at h
  · obtain ⟨x, hx, hk⟩ := Option.bind_eq_some_iff.1 h
    exact ⟨_, hk, nat_big.ok (n := n) hx⟩
  · cases h
/-! ### bits_Mul64: function 169 -/
noncomputable def bits_Mul64.b0 (a0 : Int) (a1 : Int) : Ω (Int × Int) := some (IntKind.u64.wrap ((IntKind.u64.wrap ((IntKind.u64.wrap ((a0 / 4294967296) * (a1 / 4294967296))) + ((IntKind.u64.wrap ((IntKind.u64.wrap ((a0 / 4294967296) * (Go.bits .and .u64 a1 4294967295))) + ((IntKind.u64.wrap ((Go.bits .and .u64 a0 4294967295) * (Go.bits .and .u64 a1 4294967295))) / 4294967296))) / 4294967296))) + ((IntKind.u64.wrap ((Go.bits .and .u64 (IntKind.u64.wrap ((IntKind.u64.wrap ((a0 / 4294967296) * (Go.bits .and .u64 a1 4294967295))) + ((IntKind.u64.wrap ((Go.bits .and .u64 a0 4294967295) * (Go.bits .and .u64 a1 4294967295))) / 4294967296))) 4294967295) + (IntKind.u64.wrap ((Go.bits .and .u64 a0 4294967295) * (a1 / 4294967296))))) / 4294967296)), IntKind.u64.wrap (a0 * a1))
noncomputable def bits_Mul64.f (a0 : Int) (a1 : Int) : Ω (Int × Int) := bits_Mul64.b0 a0 a1
noncomputable def bits_Mul64.sg : Sig (Int × Int) := s2 (sInt .u64) (s1 (sInt .u64))
noncomputable def bits_Mul64.code : Code := (Tryd.f169.body).getD .skip
noncomputable def bits_Mul64.cfg : Cfg (Int × Int) := { T := tys, call := noCall }
noncomputable def bits_Mul64.cuts : List (Nat × List (Nat × Want)) := []
theorem bits_Mul64.e0 (n : Nat) (J : Nat→(ASt→Ω (Int × Int))→ASt→Ω (Int × Int)) (a0 : Int) (a1 : Int) : afun (bits_Mul64.cfg) J bits_Mul64.cuts n bits_Mul64.code Tryd.f169.results.toList [false, false] [.int .u64 a0, .int .u64 a1] bits_Mul64.sg.out = bits_Mul64.b0 a0 a1 := by kernel_rfl
theorem bits_Mul64.eq (n : Nat) (a0 : Int) (a1 : Int) : afun (bits_Mul64.cfg) idJ bits_Mul64.cuts n bits_Mul64.code Tryd.f169.results.toList [false, false] [.int .u64 a0, .int .u64 a1] bits_Mul64.sg.out = bits_Mul64.f a0 a1 := (bits_Mul64.e0 n idJ a0 a1).trans (rfl)
theorem bits_Mul64.ok {n : Nat} {a0 : Int} {a1 : Int} {r : Int × Int} (h : bits_Mul64.f a0 a1 = some r) : CallD Tryd.prog HW 169 [.int .u64 a0, .int .u64 a1] (bits_Mul64.sg.enc r) :=
  fun_some hwS Tryd.func169 (by kernel_rfl) (body := bits_Mul64.code) (by kernel_rfl) tys_ok (c := bits_Mul64.cfg) noCall_ok noW_ok (by kernel_rfl) (by kernel_rfl) (Nat.le_of_ble_eq_true (by kernel_rfl)) ((bits_Mul64.eq n a0 a1).trans h)
noncomputable def bits_Mul64.call {α : Type} (g : Int→Int→Ω (Int × Int)) (ds : List D) (K : List D→Ω α) : Ω α := match ds with
  | [.int .u64 a0, .int .u64 a1] => (g a0 a1).bind fun r => K (bits_Mul64.sg.enc r)
  | _ => none
theorem bits_Mul64.call_ok {α : Type} {n : Nat} (ds : List D) (K : List D→Ω α) (r : α) (h : bits_Mul64.call bits_Mul64.f ds K = some r) : ∃ rs, K rs = some r ∧ CallD Tryd.prog HW 169 ds rs := by
  unfold bits_Mul64.call at h
  split at h
  · obtain ⟨x, hx, hk⟩ := Option.bind_eq_some_iff.1 h
    exact ⟨_, hk, bits_Mul64.ok (n := n) hx⟩
  · cases h
/-! ### bits_Add64: function 167 -/
def bits_Add64.f (a0 : Int) (a1 : Int) (a2 : Int) : Ω (Int × Int) := if 0 ≤ a0 ∧ 0 ≤ a1 ∧ 0 ≤ a2 ∧ a2 ≤ 1 then some ((a0 + a1 + a2) % 18446744073709551616, (a0 + a1 + a2) / 18446744073709551616) else none
def bits_Add64.sg : Sig (Int × Int) := s2 (sInt .u64) (s1 (sInt .u64))
theorem bits_Add64.ok {a0 a1 a2 : Int} {r : Int × Int} (h : bits_Add64.f a0 a1 a2 = some r) : CallD Tryd.prog HW 167 [.int .u64 a0, .int .u64 a1, .int .u64 a2] (bits_Add64.sg.enc r) := by
  unfold bits_Add64.f at h
  split at h
  · rename_i hh
    obtain rfl := Option.some.inj h
    exact calld_scal rfl rfl fun w _ => .inr ⟨_, _, run_add64' Tryd.func167 (by kernel_rfl) (by kernel_rfl) (by kernel_rfl) (by kernel_rfl) a0 a1 a2 hh.1 hh.2.1 hh.2.2.1 hh.2.2.2 w, rfl, rfl⟩
  · cases h
noncomputable def bits_Add64.call {α : Type} (g : Int→Int→Int→Ω (Int × Int)) (ds : List D) (K : List D→Ω α) : Ω α := match ds with
  | [.int .u64 a0, .int .u64 a1, .int .u64 a2] => (g a0 a1 a2).bind fun r => K (bits_Add64.sg.enc r)
  | _ => none
theorem bits_Add64.call_ok {α : Type} {n : Nat} (ds : List D) (K : List D→Ω α) (r : α) (h : bits_Add64.call bits_Add64.f ds K = some r) : ∃ rs, K rs = some r ∧ CallD Tryd.prog HW 167 ds rs := by
  unfold bits_Add64.call at h
  split at h
  · obtain ⟨x, hx, hk⟩ := Option.bind_eq_some_iff.1 h
    exact ⟨_, hk, bits_Add64.ok hx⟩
  · cases h
/-! ### nat_cut: function 168 -/
noncomputable def nat_cut.b0 (c133 : Λ→Ω (Int)) (l0 : Λ) : Ω (Λ × Int) := ((c133 l0).bind fun t1 => (if t1 > 4096 then some (([] : Λ), 2) else (if 0 ≤ t1 then (if t1 ≤ t1 then (if t1 ≤ (ln l0) then ((some (l0.take t1.toNat) : Ω (Λ)).bind fun y2 => some (y2, 0)) else none) else none) else none)))
noncomputable def nat_cut.f (n : Nat) (l0 : Λ) : Ω (Λ × Int) := nat_cut.b0 (nat_size.f n) l0
noncomputable def nat_cut.sg : Sig (Λ × Int) := s2 (sRow .u64) (s1 (sInt .i64))
noncomputable def nat_cut.code : Code := (Tryd.f168.body).getD .skip
noncomputable def nat_cut.cfg (c133 : Λ→Ω (Int)) : Cfg (Λ × Int) := { T := tys, call := orCall 133 (nat_size.call c133) (noCall) }
noncomputable def nat_cut.cuts : List (Nat × List (Nat × Want)) := []
theorem nat_cut.e0 (c133 : Λ→Ω (Int)) (n : Nat) (J : Nat→(ASt→Ω (Λ × Int))→ASt→Ω (Λ × Int)) (l0 : Λ) : afun (nat_cut.cfg c133) J nat_cut.cuts n nat_cut.code Tryd.f168.results.toList [false, false] [.ro .u64 l0] nat_cut.sg.out = nat_cut.b0 c133 l0 := by kernel_rfl
theorem nat_cut.eq (n : Nat) (l0 : Λ) : afun (nat_cut.cfg (nat_size.f n)) idJ nat_cut.cuts n nat_cut.code Tryd.f168.results.toList [false, false] [.ro .u64 l0] nat_cut.sg.out = nat_cut.f n l0 := (nat_cut.e0 (nat_size.f n) n idJ l0).trans (rfl)
theorem nat_cut.ok {n : Nat} {l0 : Λ} {r : Λ × Int} (h : nat_cut.f n l0 = some r) : CallD Tryd.prog HW 168 [.ro .u64 l0] (nat_cut.sg.enc r) :=
  fun_some hwS Tryd.func168 (by kernel_rfl) (body := nat_cut.code) (by kernel_rfl) tys_ok (c := nat_cut.cfg (nat_size.f n)) (orCall_ok (nat_size.call_ok (n := n)) noCall_ok) noW_ok (by kernel_rfl) (by kernel_rfl) (Nat.le_of_ble_eq_true (by kernel_rfl)) ((nat_cut.eq n l0).trans h)
noncomputable def nat_cut.call {α : Type} (g : Λ→Ω (Λ × Int)) (ds : List D) (K : List D→Ω α) : Ω α := match ds with
  | [.ro .u64 l0] => (g l0).bind fun r => K (nat_cut.sg.enc r)
  | _ => none
theorem nat_cut.call_ok {α : Type} {n : Nat} (ds : List D) (K : List D→Ω α) (r : α) (h : nat_cut.call (nat_cut.f n) ds K = some r) : ∃ rs, K rs = some r ∧ CallD Tryd.prog HW 168 ds rs := by
  unfold nat_cut.call at h
  split at h
  · obtain ⟨x, hx, hk⟩ := Option.bind_eq_some_iff.1 h
    exact ⟨_, hk, nat_cut.ok (n := n) hx⟩
  · cases h
/-! ### nat_Mul: function 100 -/
noncomputable def nat_Mul.b0 (c133 : Λ→Ω (Int)) (c166 : Λ→Ω (Bool)) (c167 : Int→Int→Int→Ω (Int × Int)) (c168 : Λ→Ω (Λ × Int)) (c169 : Int→Int→Ω (Int × Int)) (k2037 : Λ→Λ→Int→Int→Λ→Ω (Λ × Int)) (l0 : Λ) (l1 : Λ) : Ω (Λ × Int) := ((c166 l0).bind fun t1 => (if t1 = true then some (([] : Λ), 2) else ((c166 l1).bind fun t2 => (if t2 = true then some (([] : Λ), 2) else ((c133 l0).bind fun t3 => (if 0 ≤ t3 then (if t3 ≤ (ln l0) then ((some (l0.take t3.toNat) : Ω (Λ)).bind fun y4 => ((c133 l1).bind fun t5 => (if 0 ≤ t5 then (if t5 ≤ (ln l1) then ((some (l1.take t5.toNat) : Ω (Λ)).bind fun y6 => (if (ln y4) = 0 then some (([] : Λ), 0) else (if (ln y6) = 0 then some (([] : Λ), 0) else (if (wrap64 ((wrap64 ((ln y4) + (ln y6))) - 1)) > 4096 then some (([] : Λ), 2) else (if 0 ≤ (wrap64 ((ln y4) + (ln y6))) then (if (wrap64 ((ln y4) + (ln y6))).toNat ≤ 35184372088832 then k2037 y6 y4 (ln y4) 0 (List.replicate (wrap64 ((ln y4) + (ln y6))).toNat (0 : Int)) else none) else none))))) else none) else none))) else none) else none))))))
noncomputable def nat_Mul.b255 (c133 : Λ→Ω (Int)) (c166 : Λ→Ω (Bool)) (c167 : Int→Int→Int→Ω (Int × Int)) (c168 : Λ→Ω (Λ × Int)) (c169 : Int→Int→Ω (Int × Int)) (x0 : Λ) : Ω (Λ × Int) := ((c168 x0).bind fun t1 => some (t1.1, t1.2))
noncomputable def nat_Mul.b2037 (c133 : Λ→Ω (Int)) (c166 : Λ→Ω (Bool)) (c167 : Int→Int→Int→Ω (Int × Int)) (c168 : Λ→Ω (Λ × Int)) (c169 : Int→Int→Ω (Int × Int)) (k255 : Λ→Ω (Λ × Int)) (k2085685 : Λ→Int→Int→Int→Int→Λ→Int→Int→Λ→Ω (Λ × Int)) (x0 : Λ) (x1 : Λ) (x2 : Int) (x3 : Int) (x4 : Λ) : Ω (Λ × Int) := (if x3 < x2 then (if 0 ≤ x3 then (if x3 < (ln x1) then k2085685 x0 x3 0 0 (rd x1 x3) x1 x2 (ln x0) x4 else none) else none) else k255 x4)
noncomputable def nat_Mul.b260711 (c133 : Λ→Ω (Int)) (c166 : Λ→Ω (Bool)) (c167 : Int→Int→Int→Ω (Int × Int)) (c168 : Λ→Ω (Λ × Int)) (c169 : Int→Int→Ω (Int × Int)) (k2037 : Λ→Λ→Int→Int→Λ→Ω (Λ × Int)) (x0 : Λ) (x1 : Int) (x2 : Int) (x3 : Λ) (x4 : Int) (x5 : Λ) : Ω (Λ × Int) := (if 0 ≤ (wrap64 (x1 + (ln x0))) then (if (wrap64 (x1 + (ln x0))) < (ln x5) then k2037 x0 x3 x4 (wrap64 (x1 + 1)) (x5.set (wrap64 (x1 + (ln x0)) : Int).toNat x2) else none) else none)
noncomputable def nat_Mul.b2085685 (c133 : Λ→Ω (Int)) (c166 : Λ→Ω (Bool)) (c167 : Int→Int→Int→Ω (Int × Int)) (c168 : Λ→Ω (Λ × Int)) (c169 : Int→Int→Ω (Int × Int)) (k260711 : Λ→Int→Int→Λ→Int→Λ→Ω (Λ × Int)) (k2085685 : Λ→Int→Int→Int→Int→Λ→Int→Int→Λ→Ω (Λ × Int)) (x0 : Λ) (x1 : Int) (x2 : Int) (x3 : Int) (x4 : Int) (x5 : Λ) (x6 : Int) (x7 : Int) (x8 : Λ) : Ω (Λ × Int) := (if x3 < x7 then (if 0 ≤ x3 then (if x3 < (ln x0) then ((c169 x4 (rd x0 x3)).bind fun t1 => (if 0 ≤ (wrap64 (x1 + x3)) then (if (wrap64 (x1 + x3)) < (ln x8) then ((c167 t1.2 (rd x8 (wrap64 (x1 + x3))) 0).bind fun t2 => ((c167 t2.1 x2 0).bind fun t3 => (if 0 ≤ (wrap64 (x1 + x3)) then (if (wrap64 (x1 + x3)) < (ln x8) then k2085685 x0 x1 (IntKind.u64.wrap ((IntKind.u64.wrap (t1.1 + t2.2)) + t3.2)) (wrap64 (x3 + 1)) x4 x5 x6 x7 (x8.set (wrap64 (x1 + x3) : Int).toNat t3.1) else none) else none))) else none) else none)) else none) else none) else k260711 x0 x1 x2 x5 x6 x8)
noncomputable def nat_Mul.l255 (n : Nat) (x0 : Λ) : Ω (Λ × Int) := nat_Mul.b255 (nat_size.f n) (nat_big.f n) bits_Add64.f (nat_cut.f n) bits_Mul64.f x0
noncomputable def nat_Mul.l260711 (n : Nat) (k2037 : Λ→Λ→Int→Int→Λ→Ω (Λ × Int)) (x0 : Λ) (x1 : Int) (x2 : Int) (x3 : Λ) (x4 : Int) (x5 : Λ) : Ω (Λ × Int) := nat_Mul.b260711 (nat_size.f n) (nat_big.f n) bits_Add64.f (nat_cut.f n) bits_Mul64.f k2037 x0 x1 x2 x3 x4 x5
noncomputable def nat_Mul.l2085685 (n : Nat) (k2037 : Λ→Λ→Int→Int→Λ→Ω (Λ × Int)) : Nat→Λ→Int→Int→Int→Int→Λ→Int→Int→Λ→Ω (Λ × Int)
  | 0, _, _, _, _, _, _, _, _, _ => none
  | m + 1, x0, x1, x2, x3, x4, x5, x6, x7, x8 => nat_Mul.b2085685 (nat_size.f n) (nat_big.f n) bits_Add64.f (nat_cut.f n) bits_Mul64.f (nat_Mul.l260711 n k2037) (nat_Mul.l2085685 n k2037 m) x0 x1 x2 x3 x4 x5 x6 x7 x8
noncomputable def nat_Mul.l2037 (n : Nat) : Nat→Λ→Λ→Int→Int→Λ→Ω (Λ × Int)
  | 0, _, _, _, _, _ => none
  | m + 1, x0, x1, x2, x3, x4 => nat_Mul.b2037 (nat_size.f n) (nat_big.f n) bits_Add64.f (nat_cut.f n) bits_Mul64.f (nat_Mul.l255 n) (nat_Mul.l2085685 n (nat_Mul.l2037 n m) n) x0 x1 x2 x3 x4
noncomputable def nat_Mul.f (n : Nat) (l0 : Λ) (l1 : Λ) : Ω (Λ × Int) := nat_Mul.b0 (nat_size.f n) (nat_big.f n) bits_Add64.f (nat_cut.f n) bits_Mul64.f (nat_Mul.l2037 n n) l0 l1
noncomputable def nat_Mul.sg : Sig (Λ × Int) := s2 (sRow .u64) (s1 (sInt .i64))
noncomputable def nat_Mul.code : Code := (Tryd.f100.body).getD .skip
noncomputable def nat_Mul.cfg (c133 : Λ→Ω (Int)) (c166 : Λ→Ω (Bool)) (c167 : Int→Int→Int→Ω (Int × Int)) (c168 : Λ→Ω (Λ × Int)) (c169 : Int→Int→Ω (Int × Int)) : Cfg (Λ × Int) := { T := tys, call := orCall 133 (nat_size.call c133) (orCall 166 (nat_big.call c166) (orCall 167 (bits_Add64.call c167) (orCall 168 (nat_cut.call c168) (orCall 169 (bits_Mul64.call c169) (noCall))))) }
noncomputable def nat_Mul.cuts : List (Nat × List (Nat × Want)) := [(255, [(6, .keep)]), (2037, [(1, .keep), (6, .keep), (50, .keep), (51, .keep), (52, .keep)]), (260711, [(1, .keep), (6, .keep), (7, .keep), (9, .keep), (50, .keep), (51, .keep), (52, .keep)]), (2085685, [(1, .keep), (6, .keep), (7, .keep), (8, .keep), (9, .keep), (50, .keep), (51, .keep), (52, .keep), (57, .keep), (58, .keep), (59, .keep)])]
noncomputable def nat_Mul.s255 (x0 : Λ) : ASt := ⟨[(6, .own 0)], [.ints 22 .u64 x0]⟩
noncomputable def nat_Mul.s2037 (x0 : Λ) (x1 : Λ) (x2 : Int) (x3 : Int) (x4 : Λ) : ASt := ⟨[(1, .ro .u64 x0), (6, .own 0), (50, .ro .u64 x1), (51, .int .i64 x2), (52, .int .i64 x3)], [.ints 22 .u64 x4]⟩
noncomputable def nat_Mul.s260711 (x0 : Λ) (x1 : Int) (x2 : Int) (x3 : Λ) (x4 : Int) (x5 : Λ) : ASt := ⟨[(1, .ro .u64 x0), (6, .own 0), (7, .int .i64 x1), (9, .int .u64 x2), (50, .ro .u64 x3), (51, .int .i64 x4), (52, .int .i64 x1)], [.ints 22 .u64 x5]⟩
noncomputable def nat_Mul.s2085685 (x0 : Λ) (x1 : Int) (x2 : Int) (x3 : Int) (x4 : Int) (x5 : Λ) (x6 : Int) (x7 : Int) (x8 : Λ) : ASt := ⟨[(1, .ro .u64 x0), (6, .own 0), (7, .int .i64 x1), (8, .int .u64 x4), (9, .int .u64 x2), (50, .ro .u64 x5), (51, .int .i64 x6), (52, .int .i64 x1), (57, .ro .u64 x0), (58, .int .i64 x7), (59, .int .i64 x3)], [.ints 22 .u64 x8]⟩
noncomputable def nat_Mul.A (c133 : Λ→Ω (Int)) (c166 : Λ→Ω (Bool)) (c167 : Int→Int→Int→Ω (Int × Int)) (c168 : Λ→Ω (Λ × Int)) (c169 : Int→Int→Ω (Int × Int)) (n : Nat) (J : Nat→(ASt→Ω (Λ × Int))→ASt→Ω (Λ × Int)) (q : Nat) (ms : List Nat) : ASt→Ω (Λ × Int) := acont (nat_Mul.cfg c133 c166 c167 c168 c169) J nat_Mul.cuts n q nat_Mul.code 1 ms (aend (nat_Mul.cfg c133 c166 c167 c168 c169) Tryd.f100.results.toList [false, false] nat_Mul.sg.out)
theorem nat_Mul.e0 (c133 : Λ→Ω (Int)) (c166 : Λ→Ω (Bool)) (c167 : Int→Int→Int→Ω (Int × Int)) (c168 : Λ→Ω (Λ × Int)) (c169 : Int→Int→Ω (Int × Int)) (n : Nat) (J : Nat→(ASt→Ω (Λ × Int))→ASt→Ω (Λ × Int)) (l0 : Λ) (l1 : Λ) : afun (nat_Mul.cfg c133 c166 c167 c168 c169) J nat_Mul.cuts n nat_Mul.code Tryd.f100.results.toList [false, false] [.ro .u64 l0, .ro .u64 l1] nat_Mul.sg.out = nat_Mul.b0 c133 c166 c167 c168 c169 (fun y0 y1 y2 y3 y4 => J 2037 (nat_Mul.A c133 c166 c167 c168 c169 n J 2037 [n]) (nat_Mul.s2037 y0 y1 y2 y3 y4)) l0 l1 := by kernel_rfl
theorem nat_Mul.e255 (c133 : Λ→Ω (Int)) (c166 : Λ→Ω (Bool)) (c167 : Int→Int→Int→Ω (Int × Int)) (c168 : Λ→Ω (Λ × Int)) (c169 : Int→Int→Ω (Int × Int)) (n : Nat) (J : Nat→(ASt→Ω (Λ × Int))→ASt→Ω (Λ × Int)) (x0 : Λ) : nat_Mul.A c133 c166 c167 c168 c169 n J 255 [] (nat_Mul.s255 x0) = nat_Mul.b255 c133 c166 c167 c168 c169 x0 := by kernel_rfl
theorem nat_Mul.e2037 (c133 : Λ→Ω (Int)) (c166 : Λ→Ω (Bool)) (c167 : Int→Int→Int→Ω (Int × Int)) (c168 : Λ→Ω (Λ × Int)) (c169 : Int→Int→Ω (Int × Int)) (n : Nat) (J : Nat→(ASt→Ω (Λ × Int))→ASt→Ω (Λ × Int)) (m : Nat) (x0 : Λ) (x1 : Λ) (x2 : Int) (x3 : Int) (x4 : Λ) : nat_Mul.A c133 c166 c167 c168 c169 n J 2037 [m + 1] (nat_Mul.s2037 x0 x1 x2 x3 x4) = nat_Mul.b2037 c133 c166 c167 c168 c169 (fun y0 => J 255 (nat_Mul.A c133 c166 c167 c168 c169 n J 255 []) (nat_Mul.s255 y0)) (fun y0 y1 y2 y3 y4 y5 y6 y7 y8 => J 2085685 (nat_Mul.A c133 c166 c167 c168 c169 n J 2085685 [m, n]) (nat_Mul.s2085685 y0 y1 y2 y3 y4 y5 y6 y7 y8)) x0 x1 x2 x3 x4 := by kernel_rfl
theorem nat_Mul.e260711 (c133 : Λ→Ω (Int)) (c166 : Λ→Ω (Bool)) (c167 : Int→Int→Int→Ω (Int × Int)) (c168 : Λ→Ω (Λ × Int)) (c169 : Int→Int→Ω (Int × Int)) (n : Nat) (J : Nat→(ASt→Ω (Λ × Int))→ASt→Ω (Λ × Int)) (m2037 : Nat) (x0 : Λ) (x1 : Int) (x2 : Int) (x3 : Λ) (x4 : Int) (x5 : Λ) : nat_Mul.A c133 c166 c167 c168 c169 n J 260711 [m2037] (nat_Mul.s260711 x0 x1 x2 x3 x4 x5) = nat_Mul.b260711 c133 c166 c167 c168 c169 (fun y0 y1 y2 y3 y4 => J 2037 (nat_Mul.A c133 c166 c167 c168 c169 n J 2037 [m2037]) (nat_Mul.s2037 y0 y1 y2 y3 y4)) x0 x1 x2 x3 x4 x5 := by kernel_rfl
theorem nat_Mul.e2085685 (c133 : Λ→Ω (Int)) (c166 : Λ→Ω (Bool)) (c167 : Int→Int→Int→Ω (Int × Int)) (c168 : Λ→Ω (Λ × Int)) (c169 : Int→Int→Ω (Int × Int)) (n : Nat) (J : Nat→(ASt→Ω (Λ × Int))→ASt→Ω (Λ × Int)) (m2037 : Nat) (m : Nat) (x0 : Λ) (x1 : Int) (x2 : Int) (x3 : Int) (x4 : Int) (x5 : Λ) (x6 : Int) (x7 : Int) (x8 : Λ) : nat_Mul.A c133 c166 c167 c168 c169 n J 2085685 [m2037, m + 1] (nat_Mul.s2085685 x0 x1 x2 x3 x4 x5 x6 x7 x8) = nat_Mul.b2085685 c133 c166 c167 c168 c169 (fun y0 y1 y2 y3 y4 y5 => J 260711 (nat_Mul.A c133 c166 c167 c168 c169 n J 260711 [m2037]) (nat_Mul.s260711 y0 y1 y2 y3 y4 y5)) (fun y0 y1 y2 y3 y4 y5 y6 y7 y8 => J 2085685 (nat_Mul.A c133 c166 c167 c168 c169 n J 2085685 [m2037, m]) (nat_Mul.s2085685 y0 y1 y2 y3 y4 y5 y6 y7 y8)) x0 x1 x2 x3 x4 x5 x6 x7 x8 := by kernel_rfl
theorem nat_Mul.q255 (n : Nat) (x0 : Λ) : nat_Mul.A (nat_size.f n) (nat_big.f n) bits_Add64.f (nat_cut.f n) bits_Mul64.f n idJ 255 [] (nat_Mul.s255 x0) = nat_Mul.l255 n x0 := (nat_Mul.e255 (nat_size.f n) (nat_big.f n) bits_Add64.f (nat_cut.f n) bits_Mul64.f n idJ x0).trans (rfl)
theorem nat_Mul.q260711 (n : Nat) (m2037 : Nat) (x0 : Λ) (x1 : Int) (x2 : Int) (x3 : Λ) (x4 : Int) (x5 : Λ) : nat_Mul.A (nat_size.f n) (nat_big.f n) bits_Add64.f (nat_cut.f n) bits_Mul64.f n idJ 260711 [m2037] (nat_Mul.s260711 x0 x1 x2 x3 x4 x5) = nat_Mul.l260711 n (fun y0 y1 y2 y3 y4 => nat_Mul.A (nat_size.f n) (nat_big.f n) bits_Add64.f (nat_cut.f n) bits_Mul64.f n idJ 2037 [m2037] (nat_Mul.s2037 y0 y1 y2 y3 y4)) x0 x1 x2 x3 x4 x5 := (nat_Mul.e260711 (nat_size.f n) (nat_big.f n) bits_Add64.f (nat_cut.f n) bits_Mul64.f n idJ m2037 x0 x1 x2 x3 x4 x5).trans (rfl)
theorem nat_Mul.q2085685 (n : Nat) (m2037 : Nat) (m : Nat) : ∀ (x0 : Λ) (x1 : Int) (x2 : Int) (x3 : Int) (x4 : Int) (x5 : Λ) (x6 : Int) (x7 : Int) (x8 : Λ), nat_Mul.A (nat_size.f n) (nat_big.f n) bits_Add64.f (nat_cut.f n) bits_Mul64.f n idJ 2085685 [m2037, m] (nat_Mul.s2085685 x0 x1 x2 x3 x4 x5 x6 x7 x8) = nat_Mul.l2085685 n (fun y0 y1 y2 y3 y4 => nat_Mul.A (nat_size.f n) (nat_big.f n) bits_Add64.f (nat_cut.f n) bits_Mul64.f n idJ 2037 [m2037] (nat_Mul.s2037 y0 y1 y2 y3 y4)) m x0 x1 x2 x3 x4 x5 x6 x7 x8 := by
  induction m with
  | zero => intros; rfl
  | succ m ih =>
    intro x0 x1 x2 x3 x4 x5 x6 x7 x8
    refine (nat_Mul.e2085685 (nat_size.f n) (nat_big.f n) bits_Add64.f (nat_cut.f n) bits_Mul64.f n idJ m2037 m x0 x1 x2 x3 x4 x5 x6 x7 x8).trans ?_
    exact congrFun (congrFun (congrFun (congrFun (congrFun (congrFun (congrFun (congrFun (congrFun (congr (congrArg (nat_Mul.b2085685 (nat_size.f n) (nat_big.f n) bits_Add64.f (nat_cut.f n) bits_Mul64.f) (funext fun y0 => (funext fun y1 => (funext fun y2 => (funext fun y3 => (funext fun y4 => (funext fun y5 => nat_Mul.q260711 n m2037 y0 y1 y2 y3 y4 y5))))))) (funext fun y0 => (funext fun y1 => (funext fun y2 => (funext fun y3 => (funext fun y4 => (funext fun y5 => (funext fun y6 => (funext fun y7 => (funext fun y8 => ih y0 y1 y2 y3 y4 y5 y6 y7 y8)))))))))) x0) x1) x2) x3) x4) x5) x6) x7) x8
theorem nat_Mul.q2037 (n : Nat) (m : Nat) : ∀ (x0 : Λ) (x1 : Λ) (x2 : Int) (x3 : Int) (x4 : Λ), nat_Mul.A (nat_size.f n) (nat_big.f n) bits_Add64.f (nat_cut.f n) bits_Mul64.f n idJ 2037 [m] (nat_Mul.s2037 x0 x1 x2 x3 x4) = nat_Mul.l2037 n m x0 x1 x2 x3 x4 := by
  induction m with
  | zero => intros; rfl
  | succ m ih =>
    intro x0 x1 x2 x3 x4
    refine (nat_Mul.e2037 (nat_size.f n) (nat_big.f n) bits_Add64.f (nat_cut.f n) bits_Mul64.f n idJ m x0 x1 x2 x3 x4).trans ?_
    exact congrFun (congrFun (congrFun (congrFun (congrFun (congr (congrArg (nat_Mul.b2037 (nat_size.f n) (nat_big.f n) bits_Add64.f (nat_cut.f n) bits_Mul64.f) (funext fun y0 => nat_Mul.q255 n y0)) ((funext fun y0 => (funext fun y1 => (funext fun y2 => (funext fun y3 => (funext fun y4 => (funext fun y5 => (funext fun y6 => (funext fun y7 => (funext fun y8 => nat_Mul.q2085685 n m n y0 y1 y2 y3 y4 y5 y6 y7 y8))))))))).trans (by rw [show (fun y0 y1 y2 y3 y4 => nat_Mul.A (nat_size.f n) (nat_big.f n) bits_Add64.f (nat_cut.f n) bits_Mul64.f n idJ 2037 [m] (nat_Mul.s2037 y0 y1 y2 y3 y4)) = _ from (funext fun y0 => (funext fun y1 => (funext fun y2 => (funext fun y3 => (funext fun y4 => ih y0 y1 y2 y3 y4)))))]))) x0) x1) x2) x3) x4
theorem nat_Mul.eq (n : Nat) (l0 : Λ) (l1 : Λ) : afun (nat_Mul.cfg (nat_size.f n) (nat_big.f n) bits_Add64.f (nat_cut.f n) bits_Mul64.f) idJ nat_Mul.cuts n nat_Mul.code Tryd.f100.results.toList [false, false] [.ro .u64 l0, .ro .u64 l1] nat_Mul.sg.out = nat_Mul.f n l0 l1 := (nat_Mul.e0 (nat_size.f n) (nat_big.f n) bits_Add64.f (nat_cut.f n) bits_Mul64.f n idJ l0 l1).trans (congrFun (congrFun (congrArg (nat_Mul.b0 (nat_size.f n) (nat_big.f n) bits_Add64.f (nat_cut.f n) bits_Mul64.f) (funext fun y0 => (funext fun y1 => (funext fun y2 => (funext fun y3 => (funext fun y4 => nat_Mul.q2037 n n y0 y1 y2 y3 y4)))))) l0) l1)
theorem nat_Mul.ok {n : Nat} {l0 : Λ} {l1 : Λ} {r : Λ × Int} (h : nat_Mul.f n l0 l1 = some r) : CallD Tryd.prog HW 100 [.ro .u64 l0, .ro .u64 l1] (nat_Mul.sg.enc r) :=
  fun_some hwS Tryd.func100 (by kernel_rfl) (body := nat_Mul.code) (by kernel_rfl) tys_ok (c := nat_Mul.cfg (nat_size.f n) (nat_big.f n) bits_Add64.f (nat_cut.f n) bits_Mul64.f) (orCall_ok (nat_size.call_ok (n := n)) (orCall_ok (nat_big.call_ok (n := n)) (orCall_ok (bits_Add64.call_ok (n := n)) (orCall_ok (nat_cut.call_ok (n := n)) (orCall_ok (bits_Mul64.call_ok (n := n)) noCall_ok))))) noW_ok (by kernel_rfl) (by kernel_rfl) (Nat.le_of_ble_eq_true (by kernel_rfl)) ((nat_Mul.eq n l0 l1).trans h)
noncomputable def nat_Mul.call {α : Type} (g : Λ→Λ→Ω (Λ × Int)) (ds : List D) (K : List D→Ω α) : Ω α := match ds with
  | [.ro .u64 l0, .ro .u64 l1] => (g l0 l1).bind fun r => K (nat_Mul.sg.enc r)
  | _ => none
theorem nat_Mul.call_ok {α : Type} {n : Nat} (ds : List D) (K : List D→Ω α) (r : α) (h : nat_Mul.call (nat_Mul.f n) ds K = some r) : ∃ rs, K rs = some r ∧ CallD Tryd.prog HW 100 ds rs := by
  unfold nat_Mul.call at h
  split at h
  · obtain ⟨x, hx, hk⟩ := Option.bind_eq_some_iff.1 h
    exact ⟨_, hk, nat_Mul.ok (n := n) hx⟩
  · cases h
/-! ### soft_product: function 143 -/
noncomputable def soft_product.b0 (c100 : Λ→Λ→Ω (Λ × Int)) (c118 : Int→Ω (Λ)) (a0 : Bool) (a1 : Int) (a2 : Int) (a3 : Int) (a4 : Bool) (a5 : Int) (a6 : Int) (a7 : Int) : Ω (Bool × Λ × Int) := ((c118 a2).bind fun t1 => ((c118 a6).bind fun t2 => ((c100 t1 t2).bind fun t3 => some (a0 != a4, t3.1, wrap64 (a3 + a7)))))
noncomputable def soft_product.f (n : Nat) (a0 : Bool) (a1 : Int) (a2 : Int) (a3 : Int) (a4 : Bool) (a5 : Int) (a6 : Int) (a7 : Int) : Ω (Bool × Λ × Int) := soft_product.b0 (nat_Mul.f n) nat_FromUint.f a0 a1 a2 a3 a4 a5 a6 a7
noncomputable def soft_product.sg : Sig (Bool × Λ × Int) := s1 (sAgg (s2 (sBool) (s2 (sRow .u64) (s1 (sInt .i64)))))
noncomputable def soft_product.code : Code := (Tryd.f143.body).getD .skip
noncomputable def soft_product.cfg (c100 : Λ→Λ→Ω (Λ × Int)) (c118 : Int→Ω (Λ)) : Cfg (Bool × Λ × Int) := { T := tys, call := orCall 100 (nat_Mul.call c100) (orCall 118 (nat_FromUint.call c118) (noCall)) }
noncomputable def soft_product.cuts : List (Nat × List (Nat × Want)) := []
theorem soft_product.e0 (c100 : Λ→Λ→Ω (Λ × Int)) (c118 : Int→Ω (Λ)) (n : Nat) (J : Nat→(ASt→Ω (Bool × Λ × Int))→ASt→Ω (Bool × Λ × Int)) (a0 : Bool) (a1 : Int) (a2 : Int) (a3 : Int) (a4 : Bool) (a5 : Int) (a6 : Int) (a7 : Int) : afun (soft_product.cfg c100 c118) J soft_product.cuts n soft_product.code Tryd.f143.results.toList [false] [.agg [.bool a0, .int .i64 a1, .int .u64 a2, .int .i64 a3], .agg [.bool a4, .int .i64 a5, .int .u64 a6, .int .i64 a7]] soft_product.sg.out = soft_product.b0 c100 c118 a0 a1 a2 a3 a4 a5 a6 a7 := by kernel_rfl
theorem soft_product.eq (n : Nat) (a0 : Bool) (a1 : Int) (a2 : Int) (a3 : Int) (a4 : Bool) (a5 : Int) (a6 : Int) (a7 : Int) : afun (soft_product.cfg (nat_Mul.f n) nat_FromUint.f) idJ soft_product.cuts n soft_product.code Tryd.f143.results.toList [false] [.agg [.bool a0, .int .i64 a1, .int .u64 a2, .int .i64 a3], .agg [.bool a4, .int .i64 a5, .int .u64 a6, .int .i64 a7]] soft_product.sg.out = soft_product.f n a0 a1 a2 a3 a4 a5 a6 a7 := (soft_product.e0 (nat_Mul.f n) nat_FromUint.f n idJ a0 a1 a2 a3 a4 a5 a6 a7).trans (rfl)
theorem soft_product.ok {n : Nat} {a0 : Bool} {a1 : Int} {a2 : Int} {a3 : Int} {a4 : Bool} {a5 : Int} {a6 : Int} {a7 : Int} {r : Bool × Λ × Int} (h : soft_product.f n a0 a1 a2 a3 a4 a5 a6 a7 = some r) : CallD Tryd.prog HW 143 [.agg [.bool a0, .int .i64 a1, .int .u64 a2, .int .i64 a3], .agg [.bool a4, .int .i64 a5, .int .u64 a6, .int .i64 a7]] (soft_product.sg.enc r) :=
  fun_some hwS Tryd.func143 (by kernel_rfl) (body := soft_product.code) (by kernel_rfl) tys_ok (c := soft_product.cfg (nat_Mul.f n) nat_FromUint.f) (orCall_ok (nat_Mul.call_ok (n := n)) (orCall_ok (nat_FromUint.call_ok (n := n)) noCall_ok)) noW_ok (by kernel_rfl) (by kernel_rfl) (Nat.le_of_ble_eq_true (by kernel_rfl)) ((soft_product.eq n a0 a1 a2 a3 a4 a5 a6 a7).trans h)
noncomputable def soft_product.call {α : Type} (g : Bool→Int→Int→Int→Bool→Int→Int→Int→Ω (Bool × Λ × Int)) (ds : List D) (K : List D→Ω α) : Ω α := match ds with
  | [.agg [.bool a0, .int .i64 a1, .int .u64 a2, .int .i64 a3], .agg [.bool a4, .int .i64 a5, .int .u64 a6, .int .i64 a7]] => (g a0 a1 a2 a3 a4 a5 a6 a7).bind fun r => K (soft_product.sg.enc r)
  | _ => none
theorem soft_product.call_ok {α : Type} {n : Nat} (ds : List D) (K : List D→Ω α) (r : α) (h : soft_product.call (soft_product.f n) ds K = some r) : ∃ rs, K rs = some r ∧ CallD Tryd.prog HW 143 ds rs := by
  unfold soft_product.call at h
  split at h
  · obtain ⟨x, hx, hk⟩ := Option.bind_eq_some_iff.1 h
    exact ⟨_, hk, soft_product.ok (n := n) hx⟩
  · cases h
/-! ### soft_termOf: function 140 -/
noncomputable def soft_termOf.b0 (c118 : Int→Ω (Λ)) (a0 : Bool) (a1 : Int) (a2 : Int) (a3 : Int) : Ω (Bool × Λ × Int) := ((c118 a2).bind fun t1 => some (a0, t1, a3))
noncomputable def soft_termOf.f (a0 : Bool) (a1 : Int) (a2 : Int) (a3 : Int) : Ω (Bool × Λ × Int) := soft_termOf.b0 nat_FromUint.f a0 a1 a2 a3
noncomputable def soft_termOf.sg : Sig (Bool × Λ × Int) := s1 (sAgg (s2 (sBool) (s2 (sRow .u64) (s1 (sInt .i64)))))
noncomputable def soft_termOf.code : Code := (Tryd.f140.body).getD .skip
noncomputable def soft_termOf.cfg (c118 : Int→Ω (Λ)) : Cfg (Bool × Λ × Int) := { T := tys, call := orCall 118 (nat_FromUint.call c118) (noCall) }
noncomputable def soft_termOf.cuts : List (Nat × List (Nat × Want)) := []
theorem soft_termOf.e0 (c118 : Int→Ω (Λ)) (n : Nat) (J : Nat→(ASt→Ω (Bool × Λ × Int))→ASt→Ω (Bool × Λ × Int)) (a0 : Bool) (a1 : Int) (a2 : Int) (a3 : Int) : afun (soft_termOf.cfg c118) J soft_termOf.cuts n soft_termOf.code Tryd.f140.results.toList [false] [.agg [.bool a0, .int .i64 a1, .int .u64 a2, .int .i64 a3]] soft_termOf.sg.out = soft_termOf.b0 c118 a0 a1 a2 a3 := by kernel_rfl
theorem soft_termOf.eq (n : Nat) (a0 : Bool) (a1 : Int) (a2 : Int) (a3 : Int) : afun (soft_termOf.cfg nat_FromUint.f) idJ soft_termOf.cuts n soft_termOf.code Tryd.f140.results.toList [false] [.agg [.bool a0, .int .i64 a1, .int .u64 a2, .int .i64 a3]] soft_termOf.sg.out = soft_termOf.f a0 a1 a2 a3 := (soft_termOf.e0 nat_FromUint.f n idJ a0 a1 a2 a3).trans (rfl)
theorem soft_termOf.ok {n : Nat} {a0 : Bool} {a1 : Int} {a2 : Int} {a3 : Int} {r : Bool × Λ × Int} (h : soft_termOf.f a0 a1 a2 a3 = some r) : CallD Tryd.prog HW 140 [.agg [.bool a0, .int .i64 a1, .int .u64 a2, .int .i64 a3]] (soft_termOf.sg.enc r) :=
  fun_some hwS Tryd.func140 (by kernel_rfl) (body := soft_termOf.code) (by kernel_rfl) tys_ok (c := soft_termOf.cfg nat_FromUint.f) (orCall_ok (nat_FromUint.call_ok (n := n)) noCall_ok) noW_ok (by kernel_rfl) (by kernel_rfl) (Nat.le_of_ble_eq_true (by kernel_rfl)) ((soft_termOf.eq n a0 a1 a2 a3).trans h)
noncomputable def soft_termOf.call {α : Type} (g : Bool→Int→Int→Int→Ω (Bool × Λ × Int)) (ds : List D) (K : List D→Ω α) : Ω α := match ds with
  | [.agg [.bool a0, .int .i64 a1, .int .u64 a2, .int .i64 a3]] => (g a0 a1 a2 a3).bind fun r => K (soft_termOf.sg.enc r)
  | _ => none
theorem soft_termOf.call_ok {α : Type} {n : Nat} (ds : List D) (K : List D→Ω α) (r : α) (h : soft_termOf.call soft_termOf.f ds K = some r) : ∃ rs, K rs = some r ∧ CallD Tryd.prog HW 140 ds rs := by
  unfold soft_termOf.call at h
  split at h
  · obtain ⟨x, hx, hk⟩ := Option.bind_eq_some_iff.1 h
    exact ⟨_, hk, soft_termOf.ok (n := n) hx⟩
  · cases h
/-! ### nat_Shl: function 125 -/
noncomputable def nat_Shl.b0 (c133 : Λ→Ω (Int)) (c166 : Λ→Ω (Bool)) (c168 : Λ→Ω (Λ × Int)) (c169 : Int→Int→Ω (Int × Int)) (k8181 : Int→Int→Λ→Int→Int→Λ→Ω (Λ × Int)) (l0 : Λ) (a1 : Int) : Ω (Λ × Int) := ((c166 l0).bind fun t1 => (if t1 = true then some (([] : Λ), 2) else (if a1 < 0 then some (([] : Λ), 1) else ((c133 l0).bind fun t2 => (if 0 ≤ t2 then (if t2 ≤ (ln l0) then ((some (l0.take t2.toNat) : Ω (Λ)).bind fun y3 => (if (ln y3) = 0 then some (([] : Λ), 0) else (if a1 > 262144 then some (([] : Λ), 2) else (if 0 ≤ (wrap64 ((wrap64 ((wrap64 (Int.tdiv a1 64)) + (ln y3))) + 1)) then (if (wrap64 ((wrap64 ((wrap64 (Int.tdiv a1 64)) + (ln y3))) + 1)).toNat ≤ 35184372088832 then k8181 (wrap64 (Int.tdiv a1 64)) (IntKind.u64.wrap (Int.tmod a1 64)) y3 (ln y3) 0 (List.replicate (wrap64 ((wrap64 ((wrap64 (Int.tdiv a1 64)) + (ln y3))) + 1)).toNat (0 : Int)) else none) else none)))) else none) else none)))))
noncomputable def nat_Shl.b1023 (c133 : Λ→Ω (Int)) (c166 : Λ→Ω (Bool)) (c168 : Λ→Ω (Λ × Int)) (c169 : Int→Int→Ω (Int × Int)) (x0 : Λ) : Ω (Λ × Int) := ((c168 x0).bind fun t1 => some (t1.1, t1.2))
noncomputable def nat_Shl.b8181 (c133 : Λ→Ω (Int)) (c166 : Λ→Ω (Bool)) (c168 : Λ→Ω (Λ × Int)) (c169 : Int→Int→Ω (Int × Int)) (k1023 : Λ→Ω (Λ × Int)) (k8181 : Int→Int→Λ→Int→Int→Λ→Ω (Λ × Int)) (x0 : Int) (x1 : Int) (x2 : Λ) (x3 : Int) (x4 : Int) (x5 : Λ) : Ω (Λ × Int) := (if x4 < x3 then (if 0 ≤ x4 then (if x4 < (ln x2) then (if 0 ≤ x1 then ((c169 (rd x2 x4) (shl .u64 1 x1)).bind fun t1 => (if 0 ≤ (wrap64 (x0 + x4)) then (if (wrap64 (x0 + x4)) < (ln x5) then (if 0 ≤ (wrap64 (x0 + x4)) then (if (wrap64 (x0 + x4)) < (ln x5) then (if 0 ≤ (wrap64 ((wrap64 (x0 + x4)) + 1)) then (if (wrap64 ((wrap64 (x0 + x4)) + 1)) < (ln (x5.set (wrap64 (x0 + x4) : Int).toNat (Go.bits .or .u64 (rd x5 (wrap64 (x0 + x4))) t1.2))) then k8181 x0 x1 x2 x3 (wrap64 (x4 + 1)) ((x5.set (wrap64 (x0 + x4) : Int).toNat (Go.bits .or .u64 (rd x5 (wrap64 (x0 + x4))) t1.2)).set (wrap64 ((wrap64 (x0 + x4)) + 1) : Int).toNat t1.1) else none) else none) else none) else none) else none) else none)) else none) else none) else none) else k1023 x5)
noncomputable def nat_Shl.l1023 (n : Nat) (x0 : Λ) : Ω (Λ × Int) := nat_Shl.b1023 (nat_size.f n) (nat_big.f n) (nat_cut.f n) bits_Mul64.f x0
noncomputable def nat_Shl.l8181 (n : Nat) : Nat→Int→Int→Λ→Int→Int→Λ→Ω (Λ × Int)
  | 0, _, _, _, _, _, _ => none
  | m + 1, x0, x1, x2, x3, x4, x5 => nat_Shl.b8181 (nat_size.f n) (nat_big.f n) (nat_cut.f n) bits_Mul64.f (nat_Shl.l1023 n) (nat_Shl.l8181 n m) x0 x1 x2 x3 x4 x5
noncomputable def nat_Shl.f (n : Nat) (l0 : Λ) (a1 : Int) : Ω (Λ × Int) := nat_Shl.b0 (nat_size.f n) (nat_big.f n) (nat_cut.f n) bits_Mul64.f (nat_Shl.l8181 n n) l0 a1
noncomputable def nat_Shl.sg : Sig (Λ × Int) := s2 (sRow .u64) (s1 (sInt .i64))
noncomputable def nat_Shl.code : Code := (Tryd.f125.body).getD .skip
noncomputable def nat_Shl.cfg (c133 : Λ→Ω (Int)) (c166 : Λ→Ω (Bool)) (c168 : Λ→Ω (Λ × Int)) (c169 : Int→Int→Ω (Int × Int)) : Cfg (Λ × Int) := { T := tys, call := orCall 133 (nat_size.call c133) (orCall 166 (nat_big.call c166) (orCall 168 (nat_cut.call c168) (orCall 169 (bits_Mul64.call c169) (noCall)))) }
noncomputable def nat_Shl.cuts : List (Nat × List (Nat × Want)) := [(1023, [(8, .keep)]), (8181, [(6, .keep), (7, .keep), (8, .keep), (37, .keep), (38, .keep), (39, .keep)])]
noncomputable def nat_Shl.s1023 (x0 : Λ) : ASt := ⟨[(8, .own 0)], [.ints 22 .u64 x0]⟩
noncomputable def nat_Shl.s8181 (x0 : Int) (x1 : Int) (x2 : Λ) (x3 : Int) (x4 : Int) (x5 : Λ) : ASt := ⟨[(6, .int .i64 x0), (7, .int .u64 x1), (8, .own 0), (37, .ro .u64 x2), (38, .int .i64 x3), (39, .int .i64 x4)], [.ints 22 .u64 x5]⟩
noncomputable def nat_Shl.A (c133 : Λ→Ω (Int)) (c166 : Λ→Ω (Bool)) (c168 : Λ→Ω (Λ × Int)) (c169 : Int→Int→Ω (Int × Int)) (n : Nat) (J : Nat→(ASt→Ω (Λ × Int))→ASt→Ω (Λ × Int)) (q : Nat) (ms : List Nat) : ASt→Ω (Λ × Int) := acont (nat_Shl.cfg c133 c166 c168 c169) J nat_Shl.cuts n q nat_Shl.code 1 ms (aend (nat_Shl.cfg c133 c166 c168 c169) Tryd.f125.results.toList [false, false] nat_Shl.sg.out)
theorem nat_Shl.e0 (c133 : Λ→Ω (Int)) (c166 : Λ→Ω (Bool)) (c168 : Λ→Ω (Λ × Int)) (c169 : Int→Int→Ω (Int × Int)) (n : Nat) (J : Nat→(ASt→Ω (Λ × Int))→ASt→Ω (Λ × Int)) (l0 : Λ) (a1 : Int) : afun (nat_Shl.cfg c133 c166 c168 c169) J nat_Shl.cuts n nat_Shl.code Tryd.f125.results.toList [false, false] [.ro .u64 l0, .int .i64 a1] nat_Shl.sg.out = nat_Shl.b0 c133 c166 c168 c169 (fun y0 y1 y2 y3 y4 y5 => J 8181 (nat_Shl.A c133 c166 c168 c169 n J 8181 [n]) (nat_Shl.s8181 y0 y1 y2 y3 y4 y5)) l0 a1 := by kernel_rfl
theorem nat_Shl.e1023 (c133 : Λ→Ω (Int)) (c166 : Λ→Ω (Bool)) (c168 : Λ→Ω (Λ × Int)) (c169 : Int→Int→Ω (Int × Int)) (n : Nat) (J : Nat→(ASt→Ω (Λ × Int))→ASt→Ω (Λ × Int)) (x0 : Λ) : nat_Shl.A c133 c166 c168 c169 n J 1023 [] (nat_Shl.s1023 x0) = nat_Shl.b1023 c133 c166 c168 c169 x0 := by kernel_rfl
theorem nat_Shl.e8181 (c133 : Λ→Ω (Int)) (c166 : Λ→Ω (Bool)) (c168 : Λ→Ω (Λ × Int)) (c169 : Int→Int→Ω (Int × Int)) (n : Nat) (J : Nat→(ASt→Ω (Λ × Int))→ASt→Ω (Λ × Int)) (m : Nat) (x0 : Int) (x1 : Int) (x2 : Λ) (x3 : Int) (x4 : Int) (x5 : Λ) : nat_Shl.A c133 c166 c168 c169 n J 8181 [m + 1] (nat_Shl.s8181 x0 x1 x2 x3 x4 x5) = nat_Shl.b8181 c133 c166 c168 c169 (fun y0 => J 1023 (nat_Shl.A c133 c166 c168 c169 n J 1023 []) (nat_Shl.s1023 y0)) (fun y0 y1 y2 y3 y4 y5 => J 8181 (nat_Shl.A c133 c166 c168 c169 n J 8181 [m]) (nat_Shl.s8181 y0 y1 y2 y3 y4 y5)) x0 x1 x2 x3 x4 x5 := by kernel_rfl
theorem nat_Shl.q1023 (n : Nat) (x0 : Λ) : nat_Shl.A (nat_size.f n) (nat_big.f n) (nat_cut.f n) bits_Mul64.f n idJ 1023 [] (nat_Shl.s1023 x0) = nat_Shl.l1023 n x0 := (nat_Shl.e1023 (nat_size.f n) (nat_big.f n) (nat_cut.f n) bits_Mul64.f n idJ x0).trans (rfl)
theorem nat_Shl.q8181 (n : Nat) (m : Nat) : ∀ (x0 : Int) (x1 : Int) (x2 : Λ) (x3 : Int) (x4 : Int) (x5 : Λ), nat_Shl.A (nat_size.f n) (nat_big.f n) (nat_cut.f n) bits_Mul64.f n idJ 8181 [m] (nat_Shl.s8181 x0 x1 x2 x3 x4 x5) = nat_Shl.l8181 n m x0 x1 x2 x3 x4 x5 := by
  induction m with
  | zero => intros; rfl
  | succ m ih =>
    intro x0 x1 x2 x3 x4 x5
    refine (nat_Shl.e8181 (nat_size.f n) (nat_big.f n) (nat_cut.f n) bits_Mul64.f n idJ m x0 x1 x2 x3 x4 x5).trans ?_
    exact congrFun (congrFun (congrFun (congrFun (congrFun (congrFun (congr (congrArg (nat_Shl.b8181 (nat_size.f n) (nat_big.f n) (nat_cut.f n) bits_Mul64.f) (funext fun y0 => nat_Shl.q1023 n y0)) (funext fun y0 => (funext fun y1 => (funext fun y2 => (funext fun y3 => (funext fun y4 => (funext fun y5 => ih y0 y1 y2 y3 y4 y5))))))) x0) x1) x2) x3) x4) x5
theorem nat_Shl.eq (n : Nat) (l0 : Λ) (a1 : Int) : afun (nat_Shl.cfg (nat_size.f n) (nat_big.f n) (nat_cut.f n) bits_Mul64.f) idJ nat_Shl.cuts n nat_Shl.code Tryd.f125.results.toList [false, false] [.ro .u64 l0, .int .i64 a1] nat_Shl.sg.out = nat_Shl.f n l0 a1 := (nat_Shl.e0 (nat_size.f n) (nat_big.f n) (nat_cut.f n) bits_Mul64.f n idJ l0 a1).trans (congrFun (congrFun (congrArg (nat_Shl.b0 (nat_size.f n) (nat_big.f n) (nat_cut.f n) bits_Mul64.f) (funext fun y0 => (funext fun y1 => (funext fun y2 => (funext fun y3 => (funext fun y4 => (funext fun y5 => nat_Shl.q8181 n n y0 y1 y2 y3 y4 y5))))))) l0) a1)
theorem nat_Shl.ok {n : Nat} {l0 : Λ} {a1 : Int} {r : Λ × Int} (h : nat_Shl.f n l0 a1 = some r) : CallD Tryd.prog HW 125 [.ro .u64 l0, .int .i64 a1] (nat_Shl.sg.enc r) :=
  fun_some hwS Tryd.func125 (by kernel_rfl) (body := nat_Shl.code) (by kernel_rfl) tys_ok (c := nat_Shl.cfg (nat_size.f n) (nat_big.f n) (nat_cut.f n) bits_Mul64.f) (orCall_ok (nat_size.call_ok (n := n)) (orCall_ok (nat_big.call_ok (n := n)) (orCall_ok (nat_cut.call_ok (n := n)) (orCall_ok (bits_Mul64.call_ok (n := n)) noCall_ok)))) noW_ok (by kernel_rfl) (by kernel_rfl) (Nat.le_of_ble_eq_true (by kernel_rfl)) ((nat_Shl.eq n l0 a1).trans h)
noncomputable def nat_Shl.call {α : Type} (g : Λ→Int→Ω (Λ × Int)) (ds : List D) (K : List D→Ω α) : Ω α := match ds with
  | [.ro .u64 l0, .int .i64 a1] => (g l0 a1).bind fun r => K (nat_Shl.sg.enc r)
  | _ => none
theorem nat_Shl.call_ok {α : Type} {n : Nat} (ds : List D) (K : List D→Ω α) (r : α) (h : nat_Shl.call (nat_Shl.f n) ds K = some r) : ∃ rs, K rs = some r ∧ CallD Tryd.prog HW 125 ds rs := by
  unfold nat_Shl.call at h
  split at h
  · obtain ⟨x, hx, hk⟩ := Option.bind_eq_some_iff.1 h
    exact ⟨_, hk, nat_Shl.ok (n := n) hx⟩
  · cases h
/-! ### soft_aligned: function 175 -/
noncomputable def soft_aligned.b0 (c125 : Λ→Int→Ω (Λ × Int)) (l0 : Λ) (a1 : Int) (l2 : Λ) (a3 : Int) : Ω (Λ × Λ × Int) := (if a1 > a3 then ((c125 l0 (wrap64 (a1 - a3))).bind fun t1 => some (t1.1, l2, a3)) else ((c125 l2 (wrap64 (a3 - a1))).bind fun t2 => some (l0, t2.1, a1)))
noncomputable def soft_aligned.f (n : Nat) (l0 : Λ) (a1 : Int) (l2 : Λ) (a3 : Int) : Ω (Λ × Λ × Int) := soft_aligned.b0 (nat_Shl.f n) l0 a1 l2 a3
noncomputable def soft_aligned.sg : Sig (Λ × Λ × Int) := s2 (sRow .u64) (s2 (sRow .u64) (s1 (sInt .i64)))
noncomputable def soft_aligned.code : Code := (Tryd.f175.body).getD .skip
noncomputable def soft_aligned.cfg (c125 : Λ→Int→Ω (Λ × Int)) : Cfg (Λ × Λ × Int) := { T := tys, call := orCall 125 (nat_Shl.call c125) (noCall) }
noncomputable def soft_aligned.cuts : List (Nat × List (Nat × Want)) := []
theorem soft_aligned.e0 (c125 : Λ→Int→Ω (Λ × Int)) (n : Nat) (J : Nat→(ASt→Ω (Λ × Λ × Int))→ASt→Ω (Λ × Λ × Int)) (l0 : Λ) (a1 : Int) (l2 : Λ) (a3 : Int) : afun (soft_aligned.cfg c125) J soft_aligned.cuts n soft_aligned.code Tryd.f175.results.toList [false, false, false] [.ro .u64 l0, .int .i64 a1, .ro .u64 l2, .int .i64 a3] soft_aligned.sg.out = soft_aligned.b0 c125 l0 a1 l2 a3 := by kernel_rfl
theorem soft_aligned.eq (n : Nat) (l0 : Λ) (a1 : Int) (l2 : Λ) (a3 : Int) : afun (soft_aligned.cfg (nat_Shl.f n)) idJ soft_aligned.cuts n soft_aligned.code Tryd.f175.results.toList [false, false, false] [.ro .u64 l0, .int .i64 a1, .ro .u64 l2, .int .i64 a3] soft_aligned.sg.out = soft_aligned.f n l0 a1 l2 a3 := (soft_aligned.e0 (nat_Shl.f n) n idJ l0 a1 l2 a3).trans (rfl)
theorem soft_aligned.ok {n : Nat} {l0 : Λ} {a1 : Int} {l2 : Λ} {a3 : Int} {r : Λ × Λ × Int} (h : soft_aligned.f n l0 a1 l2 a3 = some r) : CallD Tryd.prog HW 175 [.ro .u64 l0, .int .i64 a1, .ro .u64 l2, .int .i64 a3] (soft_aligned.sg.enc r) :=
  fun_some hwS Tryd.func175 (by kernel_rfl) (body := soft_aligned.code) (by kernel_rfl) tys_ok (c := soft_aligned.cfg (nat_Shl.f n)) (orCall_ok (nat_Shl.call_ok (n := n)) noCall_ok) noW_ok (by kernel_rfl) (by kernel_rfl) (Nat.le_of_ble_eq_true (by kernel_rfl)) ((soft_aligned.eq n l0 a1 l2 a3).trans h)
noncomputable def soft_aligned.call {α : Type} (g : Λ→Int→Λ→Int→Ω (Λ × Λ × Int)) (ds : List D) (K : List D→Ω α) : Ω α := match ds with
  | [.ro .u64 l0, .int .i64 a1, .ro .u64 l2, .int .i64 a3] => (g l0 a1 l2 a3).bind fun r => K (soft_aligned.sg.enc r)
  | _ => none
theorem soft_aligned.call_ok {α : Type} {n : Nat} (ds : List D) (K : List D→Ω α) (r : α) (h : soft_aligned.call (soft_aligned.f n) ds K = some r) : ∃ rs, K rs = some r ∧ CallD Tryd.prog HW 175 ds rs := by
  unfold soft_aligned.call at h
  split at h
  · obtain ⟨x, hx, hk⟩ := Option.bind_eq_some_iff.1 h
    exact ⟨_, hk, soft_aligned.ok (n := n) hx⟩
  · cases h
/-! ### nat_Add: function 99 -/
noncomputable def nat_Add.b0 (c133 : Λ→Ω (Int)) (c166 : Λ→Ω (Bool)) (c167 : Int→Int→Int→Ω (Int × Int)) (c168 : Λ→Ω (Λ × Int)) (k31 : Λ→Λ→Ω (Λ × Int)) (l0 : Λ) (l1 : Λ) : Ω (Λ × Int) := ((c166 l0).bind fun t1 => (if t1 = true then some (([] : Λ), 2) else ((c166 l1).bind fun t2 => (if t2 = true then some (([] : Λ), 2) else ((c133 l0).bind fun t3 => (if 0 ≤ t3 then (if t3 ≤ (ln l0) then ((some (l0.take t3.toNat) : Ω (Λ)).bind fun y4 => ((c133 l1).bind fun t5 => (if 0 ≤ t5 then (if t5 ≤ (ln l1) then ((some (l1.take t5.toNat) : Ω (Λ)).bind fun y6 => (if (ln y4) < (ln y6) then k31 y6 y4 else k31 y4 y6)) else none) else none))) else none) else none))))))
noncomputable def nat_Add.b31 (c133 : Λ→Ω (Int)) (c166 : Λ→Ω (Bool)) (c167 : Int→Int→Int→Ω (Int × Int)) (c168 : Λ→Ω (Λ × Int)) (k2037 : Λ→Λ→Int→Int→Int→Λ→Ω (Λ × Int)) (x0 : Λ) (x1 : Λ) : Ω (Λ × Int) := (if 0 ≤ (wrap64 ((ln x0) + 1)) then (if (wrap64 ((ln x0) + 1)).toNat ≤ 35184372088832 then k2037 x0 x1 0 0 (ln x0) (List.replicate (wrap64 ((ln x0) + 1)).toNat (0 : Int)) else none) else none)
noncomputable def nat_Add.b255 (c133 : Λ→Ω (Int)) (c166 : Λ→Ω (Bool)) (c167 : Int→Int→Int→Ω (Int × Int)) (c168 : Λ→Ω (Λ × Int)) (x0 : Λ) (x1 : Int) (x2 : Λ) : Ω (Λ × Int) := (if 0 ≤ (ln x0) then (if (ln x0) < (ln x2) then ((c168 (x2.set ((ln x0) : Int).toNat x1)).bind fun t1 => some (t1.1, t1.2)) else none) else none)
noncomputable def nat_Add.b2037 (c133 : Λ→Ω (Int)) (c166 : Λ→Ω (Bool)) (c167 : Int→Int→Int→Ω (Int × Int)) (c168 : Λ→Ω (Λ × Int)) (k255 : Λ→Int→Λ→Ω (Λ × Int)) (k260711 : Λ→Λ→Int→Int→Int→Int→Int→Λ→Ω (Λ × Int)) (x0 : Λ) (x1 : Λ) (x2 : Int) (x3 : Int) (x4 : Int) (x5 : Λ) : Ω (Λ × Int) := (if x3 < x4 then (if 0 ≤ x3 then (if x3 < (ln x0) then (if x3 < (ln x1) then (if 0 ≤ x3 then (if x3 < (ln x1) then k260711 x0 x1 x2 x3 (rd x0 x3) (rd x1 x3) x4 x5 else none) else none) else k260711 x0 x1 x2 x3 (rd x0 x3) 0 x4 x5) else none) else none) else k255 x0 x2 x5)
noncomputable def nat_Add.b260711 (c133 : Λ→Ω (Int)) (c166 : Λ→Ω (Bool)) (c167 : Int→Int→Int→Ω (Int × Int)) (c168 : Λ→Ω (Λ × Int)) (k2037 : Λ→Λ→Int→Int→Int→Λ→Ω (Λ × Int)) (x0 : Λ) (x1 : Λ) (x2 : Int) (x3 : Int) (x4 : Int) (x5 : Int) (x6 : Int) (x7 : Λ) : Ω (Λ × Int) := ((c167 x4 x5 x2).bind fun t1 => (if 0 ≤ x3 then (if x3 < (ln x7) then k2037 x0 x1 t1.2 (wrap64 (x3 + 1)) x6 (x7.set (x3 : Int).toNat t1.1) else none) else none))
noncomputable def nat_Add.l255 (n : Nat) (x0 : Λ) (x1 : Int) (x2 : Λ) : Ω (Λ × Int) := nat_Add.b255 (nat_size.f n) (nat_big.f n) bits_Add64.f (nat_cut.f n) x0 x1 x2
noncomputable def nat_Add.l260711 (n : Nat) (k2037 : Λ→Λ→Int→Int→Int→Λ→Ω (Λ × Int)) (x0 : Λ) (x1 : Λ) (x2 : Int) (x3 : Int) (x4 : Int) (x5 : Int) (x6 : Int) (x7 : Λ) : Ω (Λ × Int) := nat_Add.b260711 (nat_size.f n) (nat_big.f n) bits_Add64.f (nat_cut.f n) k2037 x0 x1 x2 x3 x4 x5 x6 x7
noncomputable def nat_Add.l2037 (n : Nat) : Nat→Λ→Λ→Int→Int→Int→Λ→Ω (Λ × Int)
  | 0, _, _, _, _, _, _ => none
  | m + 1, x0, x1, x2, x3, x4, x5 => nat_Add.b2037 (nat_size.f n) (nat_big.f n) bits_Add64.f (nat_cut.f n) (nat_Add.l255 n) (nat_Add.l260711 n (nat_Add.l2037 n m)) x0 x1 x2 x3 x4 x5
noncomputable def nat_Add.l31 (n : Nat) (x0 : Λ) (x1 : Λ) : Ω (Λ × Int) := nat_Add.b31 (nat_size.f n) (nat_big.f n) bits_Add64.f (nat_cut.f n) (nat_Add.l2037 n n) x0 x1
noncomputable def nat_Add.f (n : Nat) (l0 : Λ) (l1 : Λ) : Ω (Λ × Int) := nat_Add.b0 (nat_size.f n) (nat_big.f n) bits_Add64.f (nat_cut.f n) (nat_Add.l31 n) l0 l1
noncomputable def nat_Add.sg : Sig (Λ × Int) := s2 (sRow .u64) (s1 (sInt .i64))
noncomputable def nat_Add.code : Code := (Tryd.f99.body).getD .skip
noncomputable def nat_Add.cfg (c133 : Λ→Ω (Int)) (c166 : Λ→Ω (Bool)) (c167 : Int→Int→Int→Ω (Int × Int)) (c168 : Λ→Ω (Λ × Int)) : Cfg (Λ × Int) := { T := tys, call := orCall 133 (nat_size.call c133) (orCall 166 (nat_big.call c166) (orCall 167 (bits_Add64.call c167) (orCall 168 (nat_cut.call c168) (noCall)))) }
noncomputable def nat_Add.cuts : List (Nat × List (Nat × Want)) := [(31, [(0, .keep), (1, .keep)]), (255, [(0, .keep), (6, .keep), (7, .keep)]), (2037, [(0, .keep), (1, .keep), (6, .keep), (7, .keep), (36, .keep), (37, .keep), (38, .keep)]), (260711, [(0, .keep), (1, .keep), (6, .keep), (7, .keep), (8, .keep), (9, .keep), (10, .keep), (36, .keep), (37, .keep), (38, .keep)])]
noncomputable def nat_Add.s31 (x0 : Λ) (x1 : Λ) : ASt := ⟨[(0, .ro .u64 x0), (1, .ro .u64 x1)], []⟩
noncomputable def nat_Add.s255 (x0 : Λ) (x1 : Int) (x2 : Λ) : ASt := ⟨[(0, .ro .u64 x0), (6, .own 0), (7, .int .u64 x1)], [.ints 22 .u64 x2]⟩
noncomputable def nat_Add.s2037 (x0 : Λ) (x1 : Λ) (x2 : Int) (x3 : Int) (x4 : Int) (x5 : Λ) : ASt := ⟨[(0, .ro .u64 x0), (1, .ro .u64 x1), (6, .own 0), (7, .int .u64 x2), (36, .ro .u64 x0), (37, .int .i64 x4), (38, .int .i64 x3)], [.ints 22 .u64 x5]⟩
noncomputable def nat_Add.s260711 (x0 : Λ) (x1 : Λ) (x2 : Int) (x3 : Int) (x4 : Int) (x5 : Int) (x6 : Int) (x7 : Λ) : ASt := ⟨[(0, .ro .u64 x0), (1, .ro .u64 x1), (6, .own 0), (7, .int .u64 x2), (8, .int .i64 x3), (9, .int .u64 x4), (10, .int .u64 x5), (36, .ro .u64 x0), (37, .int .i64 x6), (38, .int .i64 x3)], [.ints 22 .u64 x7]⟩
noncomputable def nat_Add.A (c133 : Λ→Ω (Int)) (c166 : Λ→Ω (Bool)) (c167 : Int→Int→Int→Ω (Int × Int)) (c168 : Λ→Ω (Λ × Int)) (n : Nat) (J : Nat→(ASt→Ω (Λ × Int))→ASt→Ω (Λ × Int)) (q : Nat) (ms : List Nat) : ASt→Ω (Λ × Int) := acont (nat_Add.cfg c133 c166 c167 c168) J nat_Add.cuts n q nat_Add.code 1 ms (aend (nat_Add.cfg c133 c166 c167 c168) Tryd.f99.results.toList [false, false] nat_Add.sg.out)
theorem nat_Add.e0 (c133 : Λ→Ω (Int)) (c166 : Λ→Ω (Bool)) (c167 : Int→Int→Int→Ω (Int × Int)) (c168 : Λ→Ω (Λ × Int)) (n : Nat) (J : Nat→(ASt→Ω (Λ × Int))→ASt→Ω (Λ × Int)) (l0 : Λ) (l1 : Λ) : afun (nat_Add.cfg c133 c166 c167 c168) J nat_Add.cuts n nat_Add.code Tryd.f99.results.toList [false, false] [.ro .u64 l0, .ro .u64 l1] nat_Add.sg.out = nat_Add.b0 c133 c166 c167 c168 (fun y0 y1 => J 31 (nat_Add.A c133 c166 c167 c168 n J 31 []) (nat_Add.s31 y0 y1)) l0 l1 := by kernel_rfl
theorem nat_Add.e31 (c133 : Λ→Ω (Int)) (c166 : Λ→Ω (Bool)) (c167 : Int→Int→Int→Ω (Int × Int)) (c168 : Λ→Ω (Λ × Int)) (n : Nat) (J : Nat→(ASt→Ω (Λ × Int))→ASt→Ω (Λ × Int)) (x0 : Λ) (x1 : Λ) : nat_Add.A c133 c166 c167 c168 n J 31 [] (nat_Add.s31 x0 x1) = nat_Add.b31 c133 c166 c167 c168 (fun y0 y1 y2 y3 y4 y5 => J 2037 (nat_Add.A c133 c166 c167 c168 n J 2037 [n]) (nat_Add.s2037 y0 y1 y2 y3 y4 y5)) x0 x1 := by kernel_rfl
theorem nat_Add.e255 (c133 : Λ→Ω (Int)) (c166 : Λ→Ω (Bool)) (c167 : Int→Int→Int→Ω (Int × Int)) (c168 : Λ→Ω (Λ × Int)) (n : Nat) (J : Nat→(ASt→Ω (Λ × Int))→ASt→Ω (Λ × Int)) (x0 : Λ) (x1 : Int) (x2 : Λ) : nat_Add.A c133 c166 c167 c168 n J 255 [] (nat_Add.s255 x0 x1 x2) = nat_Add.b255 c133 c166 c167 c168 x0 x1 x2 := by kernel_rfl
theorem nat_Add.e2037 (c133 : Λ→Ω (Int)) (c166 : Λ→Ω (Bool)) (c167 : Int→Int→Int→Ω (Int × Int)) (c168 : Λ→Ω (Λ × Int)) (n : Nat) (J : Nat→(ASt→Ω (Λ × Int))→ASt→Ω (Λ × Int)) (m : Nat) (x0 : Λ) (x1 : Λ) (x2 : Int) (x3 : Int) (x4 : Int) (x5 : Λ) : nat_Add.A c133 c166 c167 c168 n J 2037 [m + 1] (nat_Add.s2037 x0 x1 x2 x3 x4 x5) = nat_Add.b2037 c133 c166 c167 c168 (fun y0 y1 y2 => J 255 (nat_Add.A c133 c166 c167 c168 n J 255 []) (nat_Add.s255 y0 y1 y2)) (fun y0 y1 y2 y3 y4 y5 y6 y7 => J 260711 (nat_Add.A c133 c166 c167 c168 n J 260711 [m]) (nat_Add.s260711 y0 y1 y2 y3 y4 y5 y6 y7)) x0 x1 x2 x3 x4 x5 := by kernel_rfl
theorem nat_Add.e260711 (c133 : Λ→Ω (Int)) (c166 : Λ→Ω (Bool)) (c167 : Int→Int→Int→Ω (Int × Int)) (c168 : Λ→Ω (Λ × Int)) (n : Nat) (J : Nat→(ASt→Ω (Λ × Int))→ASt→Ω (Λ × Int)) (m2037 : Nat) (x0 : Λ) (x1 : Λ) (x2 : Int) (x3 : Int) (x4 : Int) (x5 : Int) (x6 : Int) (x7 : Λ) : nat_Add.A c133 c166 c167 c168 n J 260711 [m2037] (nat_Add.s260711 x0 x1 x2 x3 x4 x5 x6 x7) = nat_Add.b260711 c133 c166 c167 c168 (fun y0 y1 y2 y3 y4 y5 => J 2037 (nat_Add.A c133 c166 c167 c168 n J 2037 [m2037]) (nat_Add.s2037 y0 y1 y2 y3 y4 y5)) x0 x1 x2 x3 x4 x5 x6 x7 := by kernel_rfl
theorem nat_Add.q255 (n : Nat) (x0 : Λ) (x1 : Int) (x2 : Λ) : nat_Add.A (nat_size.f n) (nat_big.f n) bits_Add64.f (nat_cut.f n) n idJ 255 [] (nat_Add.s255 x0 x1 x2) = nat_Add.l255 n x0 x1 x2 := (nat_Add.e255 (nat_size.f n) (nat_big.f n) bits_Add64.f (nat_cut.f n) n idJ x0 x1 x2).trans (rfl)
theorem nat_Add.q260711 (n : Nat) (m2037 : Nat) (x0 : Λ) (x1 : Λ) (x2 : Int) (x3 : Int) (x4 : Int) (x5 : Int) (x6 : Int) (x7 : Λ) : nat_Add.A (nat_size.f n) (nat_big.f n) bits_Add64.f (nat_cut.f n) n idJ 260711 [m2037] (nat_Add.s260711 x0 x1 x2 x3 x4 x5 x6 x7) = nat_Add.l260711 n (fun y0 y1 y2 y3 y4 y5 => nat_Add.A (nat_size.f n) (nat_big.f n) bits_Add64.f (nat_cut.f n) n idJ 2037 [m2037] (nat_Add.s2037 y0 y1 y2 y3 y4 y5)) x0 x1 x2 x3 x4 x5 x6 x7 := (nat_Add.e260711 (nat_size.f n) (nat_big.f n) bits_Add64.f (nat_cut.f n) n idJ m2037 x0 x1 x2 x3 x4 x5 x6 x7).trans (rfl)
theorem nat_Add.q2037 (n : Nat) (m : Nat) : ∀ (x0 : Λ) (x1 : Λ) (x2 : Int) (x3 : Int) (x4 : Int) (x5 : Λ), nat_Add.A (nat_size.f n) (nat_big.f n) bits_Add64.f (nat_cut.f n) n idJ 2037 [m] (nat_Add.s2037 x0 x1 x2 x3 x4 x5) = nat_Add.l2037 n m x0 x1 x2 x3 x4 x5 := by
  induction m with
  | zero => intros; rfl
  | succ m ih =>
    intro x0 x1 x2 x3 x4 x5
    refine (nat_Add.e2037 (nat_size.f n) (nat_big.f n) bits_Add64.f (nat_cut.f n) n idJ m x0 x1 x2 x3 x4 x5).trans ?_
    exact congrFun (congrFun (congrFun (congrFun (congrFun (congrFun (congr (congrArg (nat_Add.b2037 (nat_size.f n) (nat_big.f n) bits_Add64.f (nat_cut.f n)) (funext fun y0 => (funext fun y1 => (funext fun y2 => nat_Add.q255 n y0 y1 y2)))) ((funext fun y0 => (funext fun y1 => (funext fun y2 => (funext fun y3 => (funext fun y4 => (funext fun y5 => (funext fun y6 => (funext fun y7 => nat_Add.q260711 n m y0 y1 y2 y3 y4 y5 y6 y7)))))))).trans (by rw [show (fun y0 y1 y2 y3 y4 y5 => nat_Add.A (nat_size.f n) (nat_big.f n) bits_Add64.f (nat_cut.f n) n idJ 2037 [m] (nat_Add.s2037 y0 y1 y2 y3 y4 y5)) = _ from (funext fun y0 => (funext fun y1 => (funext fun y2 => (funext fun y3 => (funext fun y4 => (funext fun y5 => ih y0 y1 y2 y3 y4 y5))))))]))) x0) x1) x2) x3) x4) x5
theorem nat_Add.q31 (n : Nat) (x0 : Λ) (x1 : Λ) : nat_Add.A (nat_size.f n) (nat_big.f n) bits_Add64.f (nat_cut.f n) n idJ 31 [] (nat_Add.s31 x0 x1) = nat_Add.l31 n x0 x1 := (nat_Add.e31 (nat_size.f n) (nat_big.f n) bits_Add64.f (nat_cut.f n) n idJ x0 x1).trans (congrFun (congrFun (congrArg (nat_Add.b31 (nat_size.f n) (nat_big.f n) bits_Add64.f (nat_cut.f n)) (funext fun y0 => (funext fun y1 => (funext fun y2 => (funext fun y3 => (funext fun y4 => (funext fun y5 => nat_Add.q2037 n n y0 y1 y2 y3 y4 y5))))))) x0) x1)
theorem nat_Add.eq (n : Nat) (l0 : Λ) (l1 : Λ) : afun (nat_Add.cfg (nat_size.f n) (nat_big.f n) bits_Add64.f (nat_cut.f n)) idJ nat_Add.cuts n nat_Add.code Tryd.f99.results.toList [false, false] [.ro .u64 l0, .ro .u64 l1] nat_Add.sg.out = nat_Add.f n l0 l1 := (nat_Add.e0 (nat_size.f n) (nat_big.f n) bits_Add64.f (nat_cut.f n) n idJ l0 l1).trans (congrFun (congrFun (congrArg (nat_Add.b0 (nat_size.f n) (nat_big.f n) bits_Add64.f (nat_cut.f n)) (funext fun y0 => (funext fun y1 => nat_Add.q31 n y0 y1))) l0) l1)
theorem nat_Add.ok {n : Nat} {l0 : Λ} {l1 : Λ} {r : Λ × Int} (h : nat_Add.f n l0 l1 = some r) : CallD Tryd.prog HW 99 [.ro .u64 l0, .ro .u64 l1] (nat_Add.sg.enc r) :=
  fun_some hwS Tryd.func99 (by kernel_rfl) (body := nat_Add.code) (by kernel_rfl) tys_ok (c := nat_Add.cfg (nat_size.f n) (nat_big.f n) bits_Add64.f (nat_cut.f n)) (orCall_ok (nat_size.call_ok (n := n)) (orCall_ok (nat_big.call_ok (n := n)) (orCall_ok (bits_Add64.call_ok (n := n)) (orCall_ok (nat_cut.call_ok (n := n)) noCall_ok)))) noW_ok (by kernel_rfl) (by kernel_rfl) (Nat.le_of_ble_eq_true (by kernel_rfl)) ((nat_Add.eq n l0 l1).trans h)
noncomputable def nat_Add.call {α : Type} (g : Λ→Λ→Ω (Λ × Int)) (ds : List D) (K : List D→Ω α) : Ω α := match ds with
  | [.ro .u64 l0, .ro .u64 l1] => (g l0 l1).bind fun r => K (nat_Add.sg.enc r)
  | _ => none
theorem nat_Add.call_ok {α : Type} {n : Nat} (ds : List D) (K : List D→Ω α) (r : α) (h : nat_Add.call (nat_Add.f n) ds K = some r) : ∃ rs, K rs = some r ∧ CallD Tryd.prog HW 99 ds rs := by
  unfold nat_Add.call at h
  split at h
  · obtain ⟨x, hx, hk⟩ := Option.bind_eq_some_iff.1 h
    exact ⟨_, hk, nat_Add.ok (n := n) hx⟩
  · cases h
/-! ### nat_Cmp: function 42 -/
noncomputable def nat_Cmp.b0 (c133 : Λ→Ω (Int)) (k245 : Λ→Λ→Int→Ω (Int)) (l0 : Λ) (l1 : Λ) : Ω (Int) := ((c133 l0).bind fun t1 => ((c133 l1).bind fun t2 => (if ¬ t1 = t2 then (if t1 < t2 then some (-1) else some 1) else k245 l0 l1 (wrap64 (t1 - 1)))))
noncomputable def nat_Cmp.b245 (c133 : Λ→Ω (Int)) (k245 : Λ→Λ→Int→Ω (Int)) (x0 : Λ) (x1 : Λ) (x2 : Int) : Ω (Int) := (if x2 ≥ 0 then (if 0 ≤ x2 then (if x2 < (ln x0) then (if 0 ≤ x2 then (if x2 < (ln x1) then (if ¬ (rd x0 x2) = (rd x1 x2) then (if 0 ≤ x2 then (if x2 < (ln x0) then (if 0 ≤ x2 then (if x2 < (ln x1) then (if (rd x0 x2) < (rd x1 x2) then some (-1) else some 1) else none) else none) else none) else none) else k245 x0 x1 (wrap64 (x2 - 1))) else none) else none) else none) else none) else some 0)
noncomputable def nat_Cmp.l245 (n : Nat) : Nat→Λ→Λ→Int→Ω (Int)
  | 0, _, _, _ => none
  | m + 1, x0, x1, x2 => nat_Cmp.b245 (nat_size.f n) (nat_Cmp.l245 n m) x0 x1 x2
noncomputable def nat_Cmp.f (n : Nat) (l0 : Λ) (l1 : Λ) : Ω (Int) := nat_Cmp.b0 (nat_size.f n) (nat_Cmp.l245 n n) l0 l1
noncomputable def nat_Cmp.sg : Sig (Int) := s1 (sInt .i64)
noncomputable def nat_Cmp.code : Code := (Tryd.f42.body).getD .skip
noncomputable def nat_Cmp.cfg (c133 : Λ→Ω (Int)) : Cfg (Int) := { T := tys, call := orCall 133 (nat_size.call c133) (noCall) }
noncomputable def nat_Cmp.cuts : List (Nat × List (Nat × Want)) := [(245, [(0, .keep), (1, .keep), (7, .keep)])]
noncomputable def nat_Cmp.s245 (x0 : Λ) (x1 : Λ) (x2 : Int) : ASt := ⟨[(0, .ro .u64 x0), (1, .ro .u64 x1), (7, .int .i64 x2)], []⟩
noncomputable def nat_Cmp.A (c133 : Λ→Ω (Int)) (n : Nat) (J : Nat→(ASt→Ω (Int))→ASt→Ω (Int)) (q : Nat) (ms : List Nat) : ASt→Ω (Int) := acont (nat_Cmp.cfg c133) J nat_Cmp.cuts n q nat_Cmp.code 1 ms (aend (nat_Cmp.cfg c133) Tryd.f42.results.toList [false] nat_Cmp.sg.out)
theorem nat_Cmp.e0 (c133 : Λ→Ω (Int)) (n : Nat) (J : Nat→(ASt→Ω (Int))→ASt→Ω (Int)) (l0 : Λ) (l1 : Λ) : afun (nat_Cmp.cfg c133) J nat_Cmp.cuts n nat_Cmp.code Tryd.f42.results.toList [false] [.ro .u64 l0, .ro .u64 l1] nat_Cmp.sg.out = nat_Cmp.b0 c133 (fun y0 y1 y2 => J 245 (nat_Cmp.A c133 n J 245 [n]) (nat_Cmp.s245 y0 y1 y2)) l0 l1 := by kernel_rfl
theorem nat_Cmp.e245 (c133 : Λ→Ω (Int)) (n : Nat) (J : Nat→(ASt→Ω (Int))→ASt→Ω (Int)) (m : Nat) (x0 : Λ) (x1 : Λ) (x2 : Int) : nat_Cmp.A c133 n J 245 [m + 1] (nat_Cmp.s245 x0 x1 x2) = nat_Cmp.b245 c133 (fun y0 y1 y2 => J 245 (nat_Cmp.A c133 n J 245 [m]) (nat_Cmp.s245 y0 y1 y2)) x0 x1 x2 := by kernel_rfl
theorem nat_Cmp.q245 (n : Nat) (m : Nat) : ∀ (x0 : Λ) (x1 : Λ) (x2 : Int), nat_Cmp.A (nat_size.f n) n idJ 245 [m] (nat_Cmp.s245 x0 x1 x2) = nat_Cmp.l245 n m x0 x1 x2 := by
  induction m with
  | zero => intros; rfl
  | succ m ih =>
    intro x0 x1 x2
    refine (nat_Cmp.e245 (nat_size.f n) n idJ m x0 x1 x2).trans ?_
    exact congrFun (congrFun (congrFun (congrArg (nat_Cmp.b245 (nat_size.f n)) (funext fun y0 => (funext fun y1 => (funext fun y2 => ih y0 y1 y2)))) x0) x1) x2
theorem nat_Cmp.eq (n : Nat) (l0 : Λ) (l1 : Λ) : afun (nat_Cmp.cfg (nat_size.f n)) idJ nat_Cmp.cuts n nat_Cmp.code Tryd.f42.results.toList [false] [.ro .u64 l0, .ro .u64 l1] nat_Cmp.sg.out = nat_Cmp.f n l0 l1 := (nat_Cmp.e0 (nat_size.f n) n idJ l0 l1).trans (congrFun (congrFun (congrArg (nat_Cmp.b0 (nat_size.f n)) (funext fun y0 => (funext fun y1 => (funext fun y2 => nat_Cmp.q245 n n y0 y1 y2)))) l0) l1)
theorem nat_Cmp.ok {n : Nat} {l0 : Λ} {l1 : Λ} {r : Int} (h : nat_Cmp.f n l0 l1 = some r) : CallD Tryd.prog HW 42 [.ro .u64 l0, .ro .u64 l1] (nat_Cmp.sg.enc r) :=
  fun_some hwS Tryd.func42 (by kernel_rfl) (body := nat_Cmp.code) (by kernel_rfl) tys_ok (c := nat_Cmp.cfg (nat_size.f n)) (orCall_ok (nat_size.call_ok (n := n)) noCall_ok) noW_ok (by kernel_rfl) (by kernel_rfl) (Nat.le_of_ble_eq_true (by kernel_rfl)) ((nat_Cmp.eq n l0 l1).trans h)
noncomputable def nat_Cmp.call {α : Type} (g : Λ→Λ→Ω (Int)) (ds : List D) (K : List D→Ω α) : Ω α := match ds with
  | [.ro .u64 l0, .ro .u64 l1] => (g l0 l1).bind fun r => K (nat_Cmp.sg.enc r)
  | _ => none
theorem nat_Cmp.call_ok {α : Type} {n : Nat} (ds : List D) (K : List D→Ω α) (r : α) (h : nat_Cmp.call (nat_Cmp.f n) ds K = some r) : ∃ rs, K rs = some r ∧ CallD Tryd.prog HW 42 ds rs := by
  unfold nat_Cmp.call at h
  split at h
  · obtain ⟨x, hx, hk⟩ := Option.bind_eq_some_iff.1 h
    exact ⟨_, hk, nat_Cmp.ok (n := n) hx⟩
  · cases h
/-! ### bits_Sub64: function 170 -/
def bits_Sub64.f (a0 : Int) (a1 : Int) (a2 : Int) : Ω (Int × Int) := if 0 ≤ a0 ∧ 0 ≤ a1 ∧ a1 < 18446744073709551616 ∧ 0 ≤ a2 ∧ a2 ≤ 1 then some ((a0 - a1 - a2) % 18446744073709551616, if a0 < a1 + a2 then 1 else 0) else none
def bits_Sub64.sg : Sig (Int × Int) := s2 (sInt .u64) (s1 (sInt .u64))
theorem bits_Sub64.ok {a0 a1 a2 : Int} {r : Int × Int} (h : bits_Sub64.f a0 a1 a2 = some r) : CallD Tryd.prog HW 170 [.int .u64 a0, .int .u64 a1, .int .u64 a2] (bits_Sub64.sg.enc r) := by
  unfold bits_Sub64.f at h
  split at h
  · rename_i hh
    obtain rfl := Option.some.inj h
    exact calld_scal rfl rfl fun w _ => .inr ⟨_, _, run_sub64' Tryd.func170 (by kernel_rfl) (by kernel_rfl) (by kernel_rfl) (by kernel_rfl) a0 a1 a2 hh.1 hh.2.1 hh.2.2.1 hh.2.2.2.1 hh.2.2.2.2 w, rfl, rfl⟩
  · cases h
noncomputable def bits_Sub64.call {α : Type} (g : Int→Int→Int→Ω (Int × Int)) (ds : List D) (K : List D→Ω α) : Ω α := match ds with
  | [.int .u64 a0, .int .u64 a1, .int .u64 a2] => (g a0 a1 a2).bind fun r => K (bits_Sub64.sg.enc r)
  | _ => none
theorem bits_Sub64.call_ok {α : Type} {n : Nat} (ds : List D) (K : List D→Ω α) (r : α) (h : bits_Sub64.call bits_Sub64.f ds K = some r) : ∃ rs, K rs = some r ∧ CallD Tryd.prog HW 170 ds rs := by
  unfold bits_Sub64.call at h
  split at h
  · obtain ⟨x, hx, hk⟩ := Option.bind_eq_some_iff.1 h
    exact ⟨_, hk, bits_Sub64.ok hx⟩
  · cases h
/-! ### nat_Sub: function 122 -/
noncomputable def nat_Sub.b0 (c42 : Λ→Λ→Ω (Int)) (c133 : Λ→Ω (Int)) (c166 : Λ→Ω (Bool)) (c168 : Λ→Ω (Λ × Int)) (c170 : Int→Int→Int→Ω (Int × Int)) (k2037 : Λ→Int→Int→Λ→Int→Λ→Ω (Λ × Int)) (l0 : Λ) (l1 : Λ) : Ω (Λ × Int) := ((c166 l0).bind fun t1 => (if t1 = true then some (([] : Λ), 2) else ((c166 l1).bind fun t2 => (if t2 = true then some (([] : Λ), 2) else ((c42 l0 l1).bind fun t3 => (if t3 < 0 then some (([] : Λ), 10) else ((c133 l0).bind fun t4 => (if 0 ≤ t4 then (if t4 ≤ (ln l0) then ((some (l0.take t4.toNat) : Ω (Λ)).bind fun y5 => ((c133 l1).bind fun t6 => (if 0 ≤ t6 then (if t6 ≤ (ln l1) then ((some (l1.take t6.toNat) : Ω (Λ)).bind fun y7 => (if 0 ≤ (ln y5) then (if (ln y5).toNat ≤ 35184372088832 then k2037 y7 0 0 y5 (ln y5) (List.replicate (ln y5).toNat (0 : Int)) else none) else none)) else none) else none))) else none) else none))))))))
noncomputable def nat_Sub.b255 (c42 : Λ→Λ→Ω (Int)) (c133 : Λ→Ω (Int)) (c166 : Λ→Ω (Bool)) (c168 : Λ→Ω (Λ × Int)) (c170 : Int→Int→Int→Ω (Int × Int)) (x0 : Λ) : Ω (Λ × Int) := ((c168 x0).bind fun t1 => some (t1.1, t1.2))
noncomputable def nat_Sub.b2037 (c42 : Λ→Λ→Ω (Int)) (c133 : Λ→Ω (Int)) (c166 : Λ→Ω (Bool)) (c168 : Λ→Ω (Λ × Int)) (c170 : Int→Int→Int→Ω (Int × Int)) (k255 : Λ→Ω (Λ × Int)) (k260711 : Λ→Int→Int→Int→Int→Λ→Int→Λ→Ω (Λ × Int)) (x0 : Λ) (x1 : Int) (x2 : Int) (x3 : Λ) (x4 : Int) (x5 : Λ) : Ω (Λ × Int) := (if x2 < x4 then (if 0 ≤ x2 then (if x2 < (ln x3) then (if x2 < (ln x0) then (if 0 ≤ x2 then (if x2 < (ln x0) then k260711 x0 x1 x2 (rd x3 x2) (rd x0 x2) x3 x4 x5 else none) else none) else k260711 x0 x1 x2 (rd x3 x2) 0 x3 x4 x5) else none) else none) else k255 x5)
noncomputable def nat_Sub.b260711 (c42 : Λ→Λ→Ω (Int)) (c133 : Λ→Ω (Int)) (c166 : Λ→Ω (Bool)) (c168 : Λ→Ω (Λ × Int)) (c170 : Int→Int→Int→Ω (Int × Int)) (k2037 : Λ→Int→Int→Λ→Int→Λ→Ω (Λ × Int)) (x0 : Λ) (x1 : Int) (x2 : Int) (x3 : Int) (x4 : Int) (x5 : Λ) (x6 : Int) (x7 : Λ) : Ω (Λ × Int) := ((c170 x3 x4 x1).bind fun t1 => (if 0 ≤ x2 then (if x2 < (ln x7) then k2037 x0 t1.2 (wrap64 (x2 + 1)) x5 x6 (x7.set (x2 : Int).toNat t1.1) else none) else none))
noncomputable def nat_Sub.l255 (n : Nat) (x0 : Λ) : Ω (Λ × Int) := nat_Sub.b255 (nat_Cmp.f n) (nat_size.f n) (nat_big.f n) (nat_cut.f n) bits_Sub64.f x0
noncomputable def nat_Sub.l260711 (n : Nat) (k2037 : Λ→Int→Int→Λ→Int→Λ→Ω (Λ × Int)) (x0 : Λ) (x1 : Int) (x2 : Int) (x3 : Int) (x4 : Int) (x5 : Λ) (x6 : Int) (x7 : Λ) : Ω (Λ × Int) := nat_Sub.b260711 (nat_Cmp.f n) (nat_size.f n) (nat_big.f n) (nat_cut.f n) bits_Sub64.f k2037 x0 x1 x2 x3 x4 x5 x6 x7
noncomputable def nat_Sub.l2037 (n : Nat) : Nat→Λ→Int→Int→Λ→Int→Λ→Ω (Λ × Int)
  | 0, _, _, _, _, _, _ => none
  | m + 1, x0, x1, x2, x3, x4, x5 => nat_Sub.b2037 (nat_Cmp.f n) (nat_size.f n) (nat_big.f n) (nat_cut.f n) bits_Sub64.f (nat_Sub.l255 n) (nat_Sub.l260711 n (nat_Sub.l2037 n m)) x0 x1 x2 x3 x4 x5
noncomputable def nat_Sub.f (n : Nat) (l0 : Λ) (l1 : Λ) : Ω (Λ × Int) := nat_Sub.b0 (nat_Cmp.f n) (nat_size.f n) (nat_big.f n) (nat_cut.f n) bits_Sub64.f (nat_Sub.l2037 n n) l0 l1
noncomputable def nat_Sub.sg : Sig (Λ × Int) := s2 (sRow .u64) (s1 (sInt .i64))
noncomputable def nat_Sub.code : Code := (Tryd.f122.body).getD .skip
noncomputable def nat_Sub.cfg (c42 : Λ→Λ→Ω (Int)) (c133 : Λ→Ω (Int)) (c166 : Λ→Ω (Bool)) (c168 : Λ→Ω (Λ × Int)) (c170 : Int→Int→Int→Ω (Int × Int)) : Cfg (Λ × Int) := { T := tys, call := orCall 42 (nat_Cmp.call c42) (orCall 133 (nat_size.call c133) (orCall 166 (nat_big.call c166) (orCall 168 (nat_cut.call c168) (orCall 170 (bits_Sub64.call c170) (noCall))))) }
noncomputable def nat_Sub.cuts : List (Nat × List (Nat × Want)) := [(255, [(6, .keep)]), (2037, [(1, .keep), (6, .keep), (7, .keep), (32, .keep), (33, .keep), (34, .keep)]), (260711, [(1, .keep), (6, .keep), (7, .keep), (8, .keep), (9, .keep), (10, .keep), (32, .keep), (33, .keep), (34, .keep)])]
noncomputable def nat_Sub.s255 (x0 : Λ) : ASt := ⟨[(6, .own 0)], [.ints 22 .u64 x0]⟩
noncomputable def nat_Sub.s2037 (x0 : Λ) (x1 : Int) (x2 : Int) (x3 : Λ) (x4 : Int) (x5 : Λ) : ASt := ⟨[(1, .ro .u64 x0), (6, .own 0), (7, .int .u64 x1), (32, .ro .u64 x3), (33, .int .i64 x4), (34, .int .i64 x2)], [.ints 22 .u64 x5]⟩
noncomputable def nat_Sub.s260711 (x0 : Λ) (x1 : Int) (x2 : Int) (x3 : Int) (x4 : Int) (x5 : Λ) (x6 : Int) (x7 : Λ) : ASt := ⟨[(1, .ro .u64 x0), (6, .own 0), (7, .int .u64 x1), (8, .int .i64 x2), (9, .int .u64 x3), (10, .int .u64 x4), (32, .ro .u64 x5), (33, .int .i64 x6), (34, .int .i64 x2)], [.ints 22 .u64 x7]⟩
noncomputable def nat_Sub.A (c42 : Λ→Λ→Ω (Int)) (c133 : Λ→Ω (Int)) (c166 : Λ→Ω (Bool)) (c168 : Λ→Ω (Λ × Int)) (c170 : Int→Int→Int→Ω (Int × Int)) (n : Nat) (J : Nat→(ASt→Ω (Λ × Int))→ASt→Ω (Λ × Int)) (q : Nat) (ms : List Nat) : ASt→Ω (Λ × Int) := acont (nat_Sub.cfg c42 c133 c166 c168 c170) J nat_Sub.cuts n q nat_Sub.code 1 ms (aend (nat_Sub.cfg c42 c133 c166 c168 c170) Tryd.f122.results.toList [false, false] nat_Sub.sg.out)
theorem nat_Sub.e0 (c42 : Λ→Λ→Ω (Int)) (c133 : Λ→Ω (Int)) (c166 : Λ→Ω (Bool)) (c168 : Λ→Ω (Λ × Int)) (c170 : Int→Int→Int→Ω (Int × Int)) (n : Nat) (J : Nat→(ASt→Ω (Λ × Int))→ASt→Ω (Λ × Int)) (l0 : Λ) (l1 : Λ) : afun (nat_Sub.cfg c42 c133 c166 c168 c170) J nat_Sub.cuts n nat_Sub.code Tryd.f122.results.toList [false, false] [.ro .u64 l0, .ro .u64 l1] nat_Sub.sg.out = nat_Sub.b0 c42 c133 c166 c168 c170 (fun y0 y1 y2 y3 y4 y5 => J 2037 (nat_Sub.A c42 c133 c166 c168 c170 n J 2037 [n]) (nat_Sub.s2037 y0 y1 y2 y3 y4 y5)) l0 l1 := by kernel_rfl
theorem nat_Sub.e255 (c42 : Λ→Λ→Ω (Int)) (c133 : Λ→Ω (Int)) (c166 : Λ→Ω (Bool)) (c168 : Λ→Ω (Λ × Int)) (c170 : Int→Int→Int→Ω (Int × Int)) (n : Nat) (J : Nat→(ASt→Ω (Λ × Int))→ASt→Ω (Λ × Int)) (x0 : Λ) : nat_Sub.A c42 c133 c166 c168 c170 n J 255 [] (nat_Sub.s255 x0) = nat_Sub.b255 c42 c133 c166 c168 c170 x0 := by kernel_rfl
theorem nat_Sub.e2037 (c42 : Λ→Λ→Ω (Int)) (c133 : Λ→Ω (Int)) (c166 : Λ→Ω (Bool)) (c168 : Λ→Ω (Λ × Int)) (c170 : Int→Int→Int→Ω (Int × Int)) (n : Nat) (J : Nat→(ASt→Ω (Λ × Int))→ASt→Ω (Λ × Int)) (m : Nat) (x0 : Λ) (x1 : Int) (x2 : Int) (x3 : Λ) (x4 : Int) (x5 : Λ) : nat_Sub.A c42 c133 c166 c168 c170 n J 2037 [m + 1] (nat_Sub.s2037 x0 x1 x2 x3 x4 x5) = nat_Sub.b2037 c42 c133 c166 c168 c170 (fun y0 => J 255 (nat_Sub.A c42 c133 c166 c168 c170 n J 255 []) (nat_Sub.s255 y0)) (fun y0 y1 y2 y3 y4 y5 y6 y7 => J 260711 (nat_Sub.A c42 c133 c166 c168 c170 n J 260711 [m]) (nat_Sub.s260711 y0 y1 y2 y3 y4 y5 y6 y7)) x0 x1 x2 x3 x4 x5 := by kernel_rfl
theorem nat_Sub.e260711 (c42 : Λ→Λ→Ω (Int)) (c133 : Λ→Ω (Int)) (c166 : Λ→Ω (Bool)) (c168 : Λ→Ω (Λ × Int)) (c170 : Int→Int→Int→Ω (Int × Int)) (n : Nat) (J : Nat→(ASt→Ω (Λ × Int))→ASt→Ω (Λ × Int)) (m2037 : Nat) (x0 : Λ) (x1 : Int) (x2 : Int) (x3 : Int) (x4 : Int) (x5 : Λ) (x6 : Int) (x7 : Λ) : nat_Sub.A c42 c133 c166 c168 c170 n J 260711 [m2037] (nat_Sub.s260711 x0 x1 x2 x3 x4 x5 x6 x7) = nat_Sub.b260711 c42 c133 c166 c168 c170 (fun y0 y1 y2 y3 y4 y5 => J 2037 (nat_Sub.A c42 c133 c166 c168 c170 n J 2037 [m2037]) (nat_Sub.s2037 y0 y1 y2 y3 y4 y5)) x0 x1 x2 x3 x4 x5 x6 x7 := by kernel_rfl
theorem nat_Sub.q255 (n : Nat) (x0 : Λ) : nat_Sub.A (nat_Cmp.f n) (nat_size.f n) (nat_big.f n) (nat_cut.f n) bits_Sub64.f n idJ 255 [] (nat_Sub.s255 x0) = nat_Sub.l255 n x0 := (nat_Sub.e255 (nat_Cmp.f n) (nat_size.f n) (nat_big.f n) (nat_cut.f n) bits_Sub64.f n idJ x0).trans (rfl)
theorem nat_Sub.q260711 (n : Nat) (m2037 : Nat) (x0 : Λ) (x1 : Int) (x2 : Int) (x3 : Int) (x4 : Int) (x5 : Λ) (x6 : Int) (x7 : Λ) : nat_Sub.A (nat_Cmp.f n) (nat_size.f n) (nat_big.f n) (nat_cut.f n) bits_Sub64.f n idJ 260711 [m2037] (nat_Sub.s260711 x0 x1 x2 x3 x4 x5 x6 x7) = nat_Sub.l260711 n (fun y0 y1 y2 y3 y4 y5 => nat_Sub.A (nat_Cmp.f n) (nat_size.f n) (nat_big.f n) (nat_cut.f n) bits_Sub64.f n idJ 2037 [m2037] (nat_Sub.s2037 y0 y1 y2 y3 y4 y5)) x0 x1 x2 x3 x4 x5 x6 x7 := (nat_Sub.e260711 (nat_Cmp.f n) (nat_size.f n) (nat_big.f n) (nat_cut.f n) bits_Sub64.f n idJ m2037 x0 x1 x2 x3 x4 x5 x6 x7).trans (rfl)
theorem nat_Sub.q2037 (n : Nat) (m : Nat) : ∀ (x0 : Λ) (x1 : Int) (x2 : Int) (x3 : Λ) (x4 : Int) (x5 : Λ), nat_Sub.A (nat_Cmp.f n) (nat_size.f n) (nat_big.f n) (nat_cut.f n) bits_Sub64.f n idJ 2037 [m] (nat_Sub.s2037 x0 x1 x2 x3 x4 x5) = nat_Sub.l2037 n m x0 x1 x2 x3 x4 x5 := by
  induction m with
  | zero => intros; rfl
  | succ m ih =>
    intro x0 x1 x2 x3 x4 x5
    refine (nat_Sub.e2037 (nat_Cmp.f n) (nat_size.f n) (nat_big.f n) (nat_cut.f n) bits_Sub64.f n idJ m x0 x1 x2 x3 x4 x5).trans ?_
    exact congrFun (congrFun (congrFun (congrFun (congrFun (congrFun (congr (congrArg (nat_Sub.b2037 (nat_Cmp.f n) (nat_size.f n) (nat_big.f n) (nat_cut.f n) bits_Sub64.f) (funext fun y0 => nat_Sub.q255 n y0)) ((funext fun y0 => (funext fun y1 => (funext fun y2 => (funext fun y3 => (funext fun y4 => (funext fun y5 => (funext fun y6 => (funext fun y7 => nat_Sub.q260711 n m y0 y1 y2 y3 y4 y5 y6 y7)))))))).trans (by rw [show (fun y0 y1 y2 y3 y4 y5 => nat_Sub.A (nat_Cmp.f n) (nat_size.f n) (nat_big.f n) (nat_cut.f n) bits_Sub64.f n idJ 2037 [m] (nat_Sub.s2037 y0 y1 y2 y3 y4 y5)) = _ from (funext fun y0 => (funext fun y1 => (funext fun y2 => (funext fun y3 => (funext fun y4 => (funext fun y5 => ih y0 y1 y2 y3 y4 y5))))))]))) x0) x1) x2) x3) x4) x5
theorem nat_Sub.eq (n : Nat) (l0 : Λ) (l1 : Λ) : afun (nat_Sub.cfg (nat_Cmp.f n) (nat_size.f n) (nat_big.f n) (nat_cut.f n) bits_Sub64.f) idJ nat_Sub.cuts n nat_Sub.code Tryd.f122.results.toList [false, false] [.ro .u64 l0, .ro .u64 l1] nat_Sub.sg.out = nat_Sub.f n l0 l1 := (nat_Sub.e0 (nat_Cmp.f n) (nat_size.f n) (nat_big.f n) (nat_cut.f n) bits_Sub64.f n idJ l0 l1).trans (congrFun (congrFun (congrArg (nat_Sub.b0 (nat_Cmp.f n) (nat_size.f n) (nat_big.f n) (nat_cut.f n) bits_Sub64.f) (funext fun y0 => (funext fun y1 => (funext fun y2 => (funext fun y3 => (funext fun y4 => (funext fun y5 => nat_Sub.q2037 n n y0 y1 y2 y3 y4 y5))))))) l0) l1)
theorem nat_Sub.ok {n : Nat} {l0 : Λ} {l1 : Λ} {r : Λ × Int} (h : nat_Sub.f n l0 l1 = some r) : CallD Tryd.prog HW 122 [.ro .u64 l0, .ro .u64 l1] (nat_Sub.sg.enc r) :=
  fun_some hwS Tryd.func122 (by kernel_rfl) (body := nat_Sub.code) (by kernel_rfl) tys_ok (c := nat_Sub.cfg (nat_Cmp.f n) (nat_size.f n) (nat_big.f n) (nat_cut.f n) bits_Sub64.f) (orCall_ok (nat_Cmp.call_ok (n := n)) (orCall_ok (nat_size.call_ok (n := n)) (orCall_ok (nat_big.call_ok (n := n)) (orCall_ok (nat_cut.call_ok (n := n)) (orCall_ok (bits_Sub64.call_ok (n := n)) noCall_ok))))) noW_ok (by kernel_rfl) (by kernel_rfl) (Nat.le_of_ble_eq_true (by kernel_rfl)) ((nat_Sub.eq n l0 l1).trans h)
noncomputable def nat_Sub.call {α : Type} (g : Λ→Λ→Ω (Λ × Int)) (ds : List D) (K : List D→Ω α) : Ω α := match ds with
  | [.ro .u64 l0, .ro .u64 l1] => (g l0 l1).bind fun r => K (nat_Sub.sg.enc r)
  | _ => none
theorem nat_Sub.call_ok {α : Type} {n : Nat} (ds : List D) (K : List D→Ω α) (r : α) (h : nat_Sub.call (nat_Sub.f n) ds K = some r) : ∃ rs, K rs = some r ∧ CallD Tryd.prog HW 122 ds rs := by
  unfold nat_Sub.call at h
  split at h
  · obtain ⟨x, hx, hk⟩ := Option.bind_eq_some_iff.1 h
    exact ⟨_, hk, nat_Sub.ok (n := n) hx⟩
  · cases h
/-! ### soft_term_plus: function 141 -/
noncomputable def soft_term_plus.b0 (c42 : Λ→Λ→Ω (Int)) (c99 : Λ→Λ→Ω (Λ × Int)) (c122 : Λ→Λ→Ω (Λ × Int)) (c175 : Λ→Int→Λ→Int→Ω (Λ × Λ × Int)) (a0 : Bool) (l1 : Λ) (a2 : Int) (a3 : Bool) (l4 : Λ) (a5 : Int) : Ω (Bool × Λ × Int) := ((c175 l1 a2 l4 a5).bind fun t1 => (if (a0 == a3) = true then ((c99 t1.1 t1.2.1).bind fun t2 => some (a0, t2.1, t1.2.2)) else ((c42 t1.1 t1.2.1).bind fun t3 => (if t3 = 0 then some (false, ([] : Λ), 0) else (if t3 = 1 then ((c122 t1.1 t1.2.1).bind fun t4 => some (a0, t4.1, t1.2.2)) else ((c122 t1.2.1 t1.1).bind fun t5 => some (a3, t5.1, t1.2.2)))))))
noncomputable def soft_term_plus.f (n : Nat) (a0 : Bool) (l1 : Λ) (a2 : Int) (a3 : Bool) (l4 : Λ) (a5 : Int) : Ω (Bool × Λ × Int) := soft_term_plus.b0 (nat_Cmp.f n) (nat_Add.f n) (nat_Sub.f n) (soft_aligned.f n) a0 l1 a2 a3 l4 a5
noncomputable def soft_term_plus.sg : Sig (Bool × Λ × Int) := s1 (sAgg (s2 (sBool) (s2 (sRow .u64) (s1 (sInt .i64)))))
noncomputable def soft_term_plus.code : Code := (Tryd.f141.body).getD .skip
noncomputable def soft_term_plus.cfg (c42 : Λ→Λ→Ω (Int)) (c99 : Λ→Λ→Ω (Λ × Int)) (c122 : Λ→Λ→Ω (Λ × Int)) (c175 : Λ→Int→Λ→Int→Ω (Λ × Λ × Int)) : Cfg (Bool × Λ × Int) := { T := tys, call := orCall 42 (nat_Cmp.call c42) (orCall 99 (nat_Add.call c99) (orCall 122 (nat_Sub.call c122) (orCall 175 (soft_aligned.call c175) (noCall)))) }
noncomputable def soft_term_plus.cuts : List (Nat × List (Nat × Want)) := []
theorem soft_term_plus.e0 (c42 : Λ→Λ→Ω (Int)) (c99 : Λ→Λ→Ω (Λ × Int)) (c122 : Λ→Λ→Ω (Λ × Int)) (c175 : Λ→Int→Λ→Int→Ω (Λ × Λ × Int)) (n : Nat) (J : Nat→(ASt→Ω (Bool × Λ × Int))→ASt→Ω (Bool × Λ × Int)) (a0 : Bool) (l1 : Λ) (a2 : Int) (a3 : Bool) (l4 : Λ) (a5 : Int) : afun (soft_term_plus.cfg c42 c99 c122 c175) J soft_term_plus.cuts n soft_term_plus.code Tryd.f141.results.toList [false] [.agg [.bool a0, .ro .u64 l1, .int .i64 a2], .agg [.bool a3, .ro .u64 l4, .int .i64 a5]] soft_term_plus.sg.out = soft_term_plus.b0 c42 c99 c122 c175 a0 l1 a2 a3 l4 a5 := by kernel_rfl
theorem soft_term_plus.eq (n : Nat) (a0 : Bool) (l1 : Λ) (a2 : Int) (a3 : Bool) (l4 : Λ) (a5 : Int) : afun (soft_term_plus.cfg (nat_Cmp.f n) (nat_Add.f n) (nat_Sub.f n) (soft_aligned.f n)) idJ soft_term_plus.cuts n soft_term_plus.code Tryd.f141.results.toList [false] [.agg [.bool a0, .ro .u64 l1, .int .i64 a2], .agg [.bool a3, .ro .u64 l4, .int .i64 a5]] soft_term_plus.sg.out = soft_term_plus.f n a0 l1 a2 a3 l4 a5 := (soft_term_plus.e0 (nat_Cmp.f n) (nat_Add.f n) (nat_Sub.f n) (soft_aligned.f n) n idJ a0 l1 a2 a3 l4 a5).trans (rfl)
theorem soft_term_plus.ok {n : Nat} {a0 : Bool} {l1 : Λ} {a2 : Int} {a3 : Bool} {l4 : Λ} {a5 : Int} {r : Bool × Λ × Int} (h : soft_term_plus.f n a0 l1 a2 a3 l4 a5 = some r) : CallD Tryd.prog HW 141 [.agg [.bool a0, .ro .u64 l1, .int .i64 a2], .agg [.bool a3, .ro .u64 l4, .int .i64 a5]] (soft_term_plus.sg.enc r) :=
  fun_some hwS Tryd.func141 (by kernel_rfl) (body := soft_term_plus.code) (by kernel_rfl) tys_ok (c := soft_term_plus.cfg (nat_Cmp.f n) (nat_Add.f n) (nat_Sub.f n) (soft_aligned.f n)) (orCall_ok (nat_Cmp.call_ok (n := n)) (orCall_ok (nat_Add.call_ok (n := n)) (orCall_ok (nat_Sub.call_ok (n := n)) (orCall_ok (soft_aligned.call_ok (n := n)) noCall_ok)))) noW_ok (by kernel_rfl) (by kernel_rfl) (Nat.le_of_ble_eq_true (by kernel_rfl)) ((soft_term_plus.eq n a0 l1 a2 a3 l4 a5).trans h)
noncomputable def soft_term_plus.call {α : Type} (g : Bool→Λ→Int→Bool→Λ→Int→Ω (Bool × Λ × Int)) (ds : List D) (K : List D→Ω α) : Ω α := match ds with
  | [.agg [.bool a0, .ro .u64 l1, .int .i64 a2], .agg [.bool a3, .ro .u64 l4, .int .i64 a5]] => (g a0 l1 a2 a3 l4 a5).bind fun r => K (soft_term_plus.sg.enc r)
  | _ => none
theorem soft_term_plus.call_ok {α : Type} {n : Nat} (ds : List D) (K : List D→Ω α) (r : α) (h : soft_term_plus.call (soft_term_plus.f n) ds K = some r) : ∃ rs, K rs = some r ∧ CallD Tryd.prog HW 141 ds rs := by
  unfold soft_term_plus.call at h
  split at h
  · obtain ⟨x, hx, hk⟩ := Option.bind_eq_some_iff.1 h
    exact ⟨_, hk, soft_term_plus.ok (n := n) hx⟩
  · cases h
/-! ### ieee_near: function 136 -/
noncomputable def ieee_near.b0 (a0 : Int) : Ω (Int) := some (mx (-1099511627776) (mn 1099511627776 a0))
noncomputable def ieee_near.f (a0 : Int) : Ω (Int) := ieee_near.b0 a0
noncomputable def ieee_near.sg : Sig (Int) := s1 (sInt .i64)
noncomputable def ieee_near.code : Code := (Tryd.f136.body).getD .skip
noncomputable def ieee_near.cfg : Cfg (Int) := { T := tys, call := noCall }
noncomputable def ieee_near.cuts : List (Nat × List (Nat × Want)) := []
theorem ieee_near.e0 (n : Nat) (J : Nat→(ASt→Ω (Int))→ASt→Ω (Int)) (a0 : Int) : afun (ieee_near.cfg) J ieee_near.cuts n ieee_near.code Tryd.f136.results.toList [false] [.int .i64 a0] ieee_near.sg.out = ieee_near.b0 a0 := by kernel_rfl
theorem ieee_near.eq (n : Nat) (a0 : Int) : afun (ieee_near.cfg) idJ ieee_near.cuts n ieee_near.code Tryd.f136.results.toList [false] [.int .i64 a0] ieee_near.sg.out = ieee_near.f a0 := (ieee_near.e0 n idJ a0).trans (rfl)
theorem ieee_near.ok {n : Nat} {a0 : Int} {r : Int} (h : ieee_near.f a0 = some r) : CallD Tryd.prog HW 136 [.int .i64 a0] (ieee_near.sg.enc r) :=
  fun_some hwS Tryd.func136 (by kernel_rfl) (body := ieee_near.code) (by kernel_rfl) tys_ok (c := ieee_near.cfg) noCall_ok noW_ok (by kernel_rfl) (by kernel_rfl) (Nat.le_of_ble_eq_true (by kernel_rfl)) ((ieee_near.eq n a0).trans h)
noncomputable def ieee_near.call {α : Type} (g : Int→Ω (Int)) (ds : List D) (K : List D→Ω α) : Ω α := match ds with
  | [.int .i64 a0] => (g a0).bind fun r => K (ieee_near.sg.enc r)
  | _ => none
theorem ieee_near.call_ok {α : Type} {n : Nat} (ds : List D) (K : List D→Ω α) (r : α) (h : ieee_near.call ieee_near.f ds K = some r) : ∃ rs, K rs = some r ∧ CallD Tryd.prog HW 136 ds rs := by
  unfold ieee_near.call at h
  split at h
  · obtain ⟨x, hx, hk⟩ := Option.bind_eq_some_iff.1 h
    exact ⟨_, hk, ieee_near.ok (n := n) hx⟩
  · cases h
/-! ### bits_Len64: function 134 -/
def bits_Len64.f (a0 : Int) : Ω (Int) := if 0 ≤ a0 ∧ a0 ≤ 18446744073709551615 then some (Lib.bitLen a0.toNat : Nat) else none
def bits_Len64.sg : Sig (Int) := s1 (sInt .i64)
theorem bits_Len64.ok {a0 : Int} {r : Int} (h : bits_Len64.f a0 = some r) : CallD Tryd.prog HW 134 [.int .u64 a0] (bits_Len64.sg.enc r) := by
  unfold bits_Len64.f at h
  split at h
  · rename_i hh
    obtain rfl := Option.some.inj h
    refine calld_scal rfl rfl fun w _ => .inl ⟨_, Tryd.func134, by kernel_rfl, by kernel_rfl, (Go.Proofs.YtceihajjpeoloaaDoorG.len64 a0 w hh.1 hh.2).mono ?_⟩
    rintro e w' ⟨rfl, rfl⟩
    exact ⟨_, rfl, rfl, rfl⟩
  · cases h
noncomputable def bits_Len64.call {α : Type} (g : Int→Ω (Int)) (ds : List D) (K : List D→Ω α) : Ω α := match ds with
  | [.int .u64 a0] => (g a0).bind fun r => K (bits_Len64.sg.enc r)
  | _ => none
theorem bits_Len64.call_ok {α : Type} {n : Nat} (ds : List D) (K : List D→Ω α) (r : α) (h : bits_Len64.call bits_Len64.f ds K = some r) : ∃ rs, K rs = some r ∧ CallD Tryd.prog HW 134 ds rs := by
  unfold bits_Len64.call at h
  split at h
  · obtain ⟨x, hx, hk⟩ := Option.bind_eq_some_iff.1 h
    exact ⟨_, hk, bits_Len64.ok hx⟩
  · cases h
/-! ### nat_BitLen: function 41 -/
noncomputable def nat_BitLen.b0 (c133 : Λ→Ω (Int)) (c134 : Int→Ω (Int)) (l0 : Λ) : Ω (Int) := ((c133 l0).bind fun t1 => (if t1 = 0 then some 0 else (if 0 ≤ (wrap64 (t1 - 1)) then (if (wrap64 (t1 - 1)) < (ln l0) then ((c134 (rd l0 (wrap64 (t1 - 1)))).bind fun t2 => some (wrap64 ((wrap64 (64 * (wrap64 (t1 - 1)))) + t2))) else none) else none)))
noncomputable def nat_BitLen.f (n : Nat) (l0 : Λ) : Ω (Int) := nat_BitLen.b0 (nat_size.f n) bits_Len64.f l0
noncomputable def nat_BitLen.sg : Sig (Int) := s1 (sInt .i64)
noncomputable def nat_BitLen.code : Code := (Tryd.f41.body).getD .skip
noncomputable def nat_BitLen.cfg (c133 : Λ→Ω (Int)) (c134 : Int→Ω (Int)) : Cfg (Int) := { T := tys, call := orCall 133 (nat_size.call c133) (orCall 134 (bits_Len64.call c134) (noCall)) }
noncomputable def nat_BitLen.cuts : List (Nat × List (Nat × Want)) := []
theorem nat_BitLen.e0 (c133 : Λ→Ω (Int)) (c134 : Int→Ω (Int)) (n : Nat) (J : Nat→(ASt→Ω (Int))→ASt→Ω (Int)) (l0 : Λ) : afun (nat_BitLen.cfg c133 c134) J nat_BitLen.cuts n nat_BitLen.code Tryd.f41.results.toList [false] [.ro .u64 l0] nat_BitLen.sg.out = nat_BitLen.b0 c133 c134 l0 := by kernel_rfl
theorem nat_BitLen.eq (n : Nat) (l0 : Λ) : afun (nat_BitLen.cfg (nat_size.f n) bits_Len64.f) idJ nat_BitLen.cuts n nat_BitLen.code Tryd.f41.results.toList [false] [.ro .u64 l0] nat_BitLen.sg.out = nat_BitLen.f n l0 := (nat_BitLen.e0 (nat_size.f n) bits_Len64.f n idJ l0).trans (rfl)
theorem nat_BitLen.ok {n : Nat} {l0 : Λ} {r : Int} (h : nat_BitLen.f n l0 = some r) : CallD Tryd.prog HW 41 [.ro .u64 l0] (nat_BitLen.sg.enc r) :=
  fun_some hwS Tryd.func41 (by kernel_rfl) (body := nat_BitLen.code) (by kernel_rfl) tys_ok (c := nat_BitLen.cfg (nat_size.f n) bits_Len64.f) (orCall_ok (nat_size.call_ok (n := n)) (orCall_ok (bits_Len64.call_ok (n := n)) noCall_ok)) noW_ok (by kernel_rfl) (by kernel_rfl) (Nat.le_of_ble_eq_true (by kernel_rfl)) ((nat_BitLen.eq n l0).trans h)
noncomputable def nat_BitLen.call {α : Type} (g : Λ→Ω (Int)) (ds : List D) (K : List D→Ω α) : Ω α := match ds with
  | [.ro .u64 l0] => (g l0).bind fun r => K (nat_BitLen.sg.enc r)
  | _ => none
theorem nat_BitLen.call_ok {α : Type} {n : Nat} (ds : List D) (K : List D→Ω α) (r : α) (h : nat_BitLen.call (nat_BitLen.f n) ds K = some r) : ∃ rs, K rs = some r ∧ CallD Tryd.prog HW 41 ds rs := by
  unfold nat_BitLen.call at h
  split at h
  · obtain ⟨x, hx, hk⟩ := Option.bind_eq_some_iff.1 h
    exact ⟨_, hk, nat_BitLen.ok (n := n) hx⟩
  · cases h
/-! ### bits_TrailingZeros64: function 165 -/
def bits_TrailingZeros64.f (a0 : Int) : Ω (Int) := if 0 ≤ a0 ∧ a0 < 18446744073709551616 then some (Lib.ctz 64 a0.toNat : Nat) else none
def bits_TrailingZeros64.sg : Sig (Int) := s1 (sInt .i64)
set_option maxHeartbeats 1000000 in
theorem bits_TrailingZeros64.core (x k idx : Nat) (w : World) (hx0 : ((x : Int) == 0) = false)
    (key : IntKind.u64.wrap (bits BinOp.and IntKind.u64 (x : Int) (IntKind.u64.wrap (-(x : Int))) * 285870213051353865) / 288230376151711744 = (idx : Int))
    (hi : idx < 64) (hk : k < 64) (hcell : w.cell? ⟨0, idx, none⟩ = some (.int .u8 k)) :
    Calls Tryd.prog 165 #[.int .u64 x] w fun e w' => e = .returned (.int .i64 k) ∧ w' = w := by
  go_enter Tryd.func165, Tryd.ntmps165
  go_wp2_with (simp only [key])
  go_ret
  exact ⟨rfl, rfl⟩
theorem bits_TrailingZeros64.zero (w : World) : Calls Tryd.prog 165 #[.int .u64 0] w fun e w' => e = .returned (.int .i64 64) ∧ w' = w := by
  go_enter Tryd.func165, Tryd.ntmps165
  go_wp2
  go_ret
  exact ⟨rfl, rfl⟩
theorem bits_TrailingZeros64.ok {a0 : Int} {r : Int} (h : bits_TrailingZeros64.f a0 = some r) : CallD Tryd.prog HW 165 [.int .u64 a0] (bits_TrailingZeros64.sg.enc r) := by
  unfold bits_TrailingZeros64.f at h
  split at h
  · rename_i hh
    obtain rfl := Option.some.inj h
    refine calld_scal rfl rfl fun w hw => .inl ⟨_, Tryd.func165, by kernel_rfl, by kernel_rfl, ?_⟩
    obtain ⟨x, rfl⟩ := Int.eq_ofNat_of_zero_le hh.1
    have hx : x < 18446744073709551616 := by omega
    show Calls Tryd.prog 165 #[.int .u64 x] w _
    rw [Int.toNat_natCast]
    by_cases hx0 : x = 0
    · subst hx0
      refine (bits_TrailingZeros64.zero w).mono ?_
      rintro e w' ⟨rfl, rfl⟩
      exact ⟨_, rfl, rfl, rfl⟩
    · obtain ⟨hlow, hk⟩ := Lib.lowest_bit 64 x hx0 hx
      obtain ⟨hi, htab⟩ := Lib.deBruijn64_at _ hk
      have hcell := hw _ hi
      rw [htab] at hcell
      refine (bits_TrailingZeros64.core x _ _ w (by simp; omega) (tz64_key x _ hx hx0 hlow) hi hk hcell).mono ?_
      rintro e w' ⟨rfl, rfl⟩
      exact ⟨_, rfl, rfl, rfl⟩
  · cases h
noncomputable def bits_TrailingZeros64.call {α : Type} (g : Int→Ω (Int)) (ds : List D) (K : List D→Ω α) : Ω α := match ds with
  | [.int .u64 a0] => (g a0).bind fun r => K (bits_TrailingZeros64.sg.enc r)
  | _ => none
theorem bits_TrailingZeros64.call_ok {α : Type} {n : Nat} (ds : List D) (K : List D→Ω α) (r : α) (h : bits_TrailingZeros64.call bits_TrailingZeros64.f ds K = some r) : ∃ rs, K rs = some r ∧ CallD Tryd.prog HW 165 ds rs := by
  unfold bits_TrailingZeros64.call at h
  split at h
  · obtain ⟨x, hx, hk⟩ := Option.bind_eq_some_iff.1 h
    exact ⟨_, hk, bits_TrailingZeros64.ok hx⟩
  · cases h
/-! ### nat_Trail: function 121 -/
noncomputable def nat_Trail.b0 (c165 : Int→Ω (Int)) (k53 : Λ→Int→Int→Ω (Int)) (l0 : Λ) : Ω (Int) := k53 l0 (ln l0) 0
noncomputable def nat_Trail.b53 (c165 : Int→Ω (Int)) (k53 : Λ→Int→Int→Ω (Int)) (x0 : Λ) (x1 : Int) (x2 : Int) : Ω (Int) := (if x2 < x1 then (if 0 ≤ x2 then (if x2 < (ln x0) then (if ¬ (rd x0 x2) = 0 then ((c165 (rd x0 x2)).bind fun t1 => some (wrap64 ((wrap64 (64 * x2)) + t1))) else k53 x0 x1 (wrap64 (x2 + 1))) else none) else none) else some 0)
noncomputable def nat_Trail.l53 (n : Nat) : Nat→Λ→Int→Int→Ω (Int)
  | 0, _, _, _ => none
  | m + 1, x0, x1, x2 => nat_Trail.b53 bits_TrailingZeros64.f (nat_Trail.l53 n m) x0 x1 x2
noncomputable def nat_Trail.f (n : Nat) (l0 : Λ) : Ω (Int) := nat_Trail.b0 bits_TrailingZeros64.f (nat_Trail.l53 n n) l0
noncomputable def nat_Trail.sg : Sig (Int) := s1 (sInt .i64)
noncomputable def nat_Trail.code : Code := (Tryd.f121.body).getD .skip
noncomputable def nat_Trail.cfg (c165 : Int→Ω (Int)) : Cfg (Int) := { T := tys, call := orCall 165 (bits_TrailingZeros64.call c165) (noCall) }
noncomputable def nat_Trail.cuts : List (Nat × List (Nat × Want)) := [(53, [(5, .keep), (6, .keep), (7, .keep)])]
noncomputable def nat_Trail.s53 (x0 : Λ) (x1 : Int) (x2 : Int) : ASt := ⟨[(5, .ro .u64 x0), (6, .int .i64 x1), (7, .int .i64 x2)], []⟩
noncomputable def nat_Trail.A (c165 : Int→Ω (Int)) (n : Nat) (J : Nat→(ASt→Ω (Int))→ASt→Ω (Int)) (q : Nat) (ms : List Nat) : ASt→Ω (Int) := acont (nat_Trail.cfg c165) J nat_Trail.cuts n q nat_Trail.code 1 ms (aend (nat_Trail.cfg c165) Tryd.f121.results.toList [false] nat_Trail.sg.out)
theorem nat_Trail.e0 (c165 : Int→Ω (Int)) (n : Nat) (J : Nat→(ASt→Ω (Int))→ASt→Ω (Int)) (l0 : Λ) : afun (nat_Trail.cfg c165) J nat_Trail.cuts n nat_Trail.code Tryd.f121.results.toList [false] [.ro .u64 l0] nat_Trail.sg.out = nat_Trail.b0 c165 (fun y0 y1 y2 => J 53 (nat_Trail.A c165 n J 53 [n]) (nat_Trail.s53 y0 y1 y2)) l0 := by kernel_rfl
theorem nat_Trail.e53 (c165 : Int→Ω (Int)) (n : Nat) (J : Nat→(ASt→Ω (Int))→ASt→Ω (Int)) (m : Nat) (x0 : Λ) (x1 : Int) (x2 : Int) : nat_Trail.A c165 n J 53 [m + 1] (nat_Trail.s53 x0 x1 x2) = nat_Trail.b53 c165 (fun y0 y1 y2 => J 53 (nat_Trail.A c165 n J 53 [m]) (nat_Trail.s53 y0 y1 y2)) x0 x1 x2 := by kernel_rfl
theorem nat_Trail.q53 (n : Nat) (m : Nat) : ∀ (x0 : Λ) (x1 : Int) (x2 : Int), nat_Trail.A bits_TrailingZeros64.f n idJ 53 [m] (nat_Trail.s53 x0 x1 x2) = nat_Trail.l53 n m x0 x1 x2 := by
  induction m with
  | zero => intros; rfl
  | succ m ih =>
    intro x0 x1 x2
    refine (nat_Trail.e53 bits_TrailingZeros64.f n idJ m x0 x1 x2).trans ?_
    exact congrFun (congrFun (congrFun (congrArg (nat_Trail.b53 bits_TrailingZeros64.f) (funext fun y0 => (funext fun y1 => (funext fun y2 => ih y0 y1 y2)))) x0) x1) x2
theorem nat_Trail.eq (n : Nat) (l0 : Λ) : afun (nat_Trail.cfg bits_TrailingZeros64.f) idJ nat_Trail.cuts n nat_Trail.code Tryd.f121.results.toList [false] [.ro .u64 l0] nat_Trail.sg.out = nat_Trail.f n l0 := (nat_Trail.e0 bits_TrailingZeros64.f n idJ l0).trans (congrFun (congrArg (nat_Trail.b0 bits_TrailingZeros64.f) (funext fun y0 => (funext fun y1 => (funext fun y2 => nat_Trail.q53 n n y0 y1 y2)))) l0)
theorem nat_Trail.ok {n : Nat} {l0 : Λ} {r : Int} (h : nat_Trail.f n l0 = some r) : CallD Tryd.prog HW 121 [.ro .u64 l0] (nat_Trail.sg.enc r) :=
  fun_some hwS Tryd.func121 (by kernel_rfl) (body := nat_Trail.code) (by kernel_rfl) tys_ok (c := nat_Trail.cfg bits_TrailingZeros64.f) (orCall_ok (bits_TrailingZeros64.call_ok (n := n)) noCall_ok) noW_ok (by kernel_rfl) (by kernel_rfl) (Nat.le_of_ble_eq_true (by kernel_rfl)) ((nat_Trail.eq n l0).trans h)
noncomputable def nat_Trail.call {α : Type} (g : Λ→Ω (Int)) (ds : List D) (K : List D→Ω α) : Ω α := match ds with
  | [.ro .u64 l0] => (g l0).bind fun r => K (nat_Trail.sg.enc r)
  | _ => none
theorem nat_Trail.call_ok {α : Type} {n : Nat} (ds : List D) (K : List D→Ω α) (r : α) (h : nat_Trail.call (nat_Trail.f n) ds K = some r) : ∃ rs, K rs = some r ∧ CallD Tryd.prog HW 121 ds rs := by
  unfold nat_Trail.call at h
  split at h
  · obtain ⟨x, hx, hk⟩ := Option.bind_eq_some_iff.1 h
    exact ⟨_, hk, nat_Trail.ok (n := n) hx⟩
  · cases h
/-! ### nat_Shr: function 126 -/
noncomputable def nat_Shr.b0 (c121 : Λ→Ω (Int)) (c133 : Λ→Ω (Int)) (c166 : Λ→Ω (Bool)) (c168 : Λ→Ω (Λ × Int)) (k31 : Λ→Int→Bool→Ω (Λ × Bool × Int)) (l0 : Λ) (a1 : Int) : Ω (Λ × Bool × Int) := ((c166 l0).bind fun t1 => (if t1 = true then some (([] : Λ), false, 2) else (if a1 < 0 then some (([] : Λ), false, 1) else ((c133 l0).bind fun t2 => (if t2 > 0 then ((c121 l0).bind fun t3 => k31 l0 a1 (decide (t3 < a1))) else k31 l0 a1 false)))))
noncomputable def nat_Shr.b31 (c121 : Λ→Ω (Int)) (c133 : Λ→Ω (Int)) (c166 : Λ→Ω (Bool)) (c168 : Λ→Ω (Λ × Int)) (k8181 : Λ→Bool→Int→Int→Int→Int→Λ→Ω (Λ × Bool × Int)) (x0 : Λ) (x1 : Int) (x2 : Bool) : Ω (Λ × Bool × Int) := ((c133 x0).bind fun t1 => (if 0 ≤ t1 then (if t1 ≤ (ln x0) then ((some (x0.take t1.toNat) : Ω (Λ)).bind fun y2 => (if x1 ≥ (wrap64 (64 * (ln y2))) then some (([] : Λ), x2, 0) else (if 0 ≤ (wrap64 ((ln y2) - (wrap64 (Int.tdiv x1 64)))) then (if (wrap64 ((ln y2) - (wrap64 (Int.tdiv x1 64)))).toNat ≤ 35184372088832 then k8181 y2 x2 (wrap64 (Int.tdiv x1 64)) (IntKind.u64.wrap (Int.tmod x1 64)) (ln (List.replicate (wrap64 ((ln y2) - (wrap64 (Int.tdiv x1 64)))).toNat (0 : Int))) 0 (List.replicate (wrap64 ((ln y2) - (wrap64 (Int.tdiv x1 64)))).toNat (0 : Int)) else none) else none))) else none) else none))
noncomputable def nat_Shr.b1023 (c121 : Λ→Ω (Int)) (c133 : Λ→Ω (Int)) (c166 : Λ→Ω (Bool)) (c168 : Λ→Ω (Λ × Int)) (x0 : Bool) (x1 : Λ) : Ω (Λ × Bool × Int) := ((c168 x1).bind fun t1 => some (t1.1, x0, t1.2))
noncomputable def nat_Shr.b8181 (c121 : Λ→Ω (Int)) (c133 : Λ→Ω (Int)) (c166 : Λ→Ω (Bool)) (c168 : Λ→Ω (Λ × Int)) (k1023 : Bool→Λ→Ω (Λ × Bool × Int)) (k8181 : Λ→Bool→Int→Int→Int→Int→Λ→Ω (Λ × Bool × Int)) (x0 : Λ) (x1 : Bool) (x2 : Int) (x3 : Int) (x4 : Int) (x5 : Int) (x6 : Λ) : Ω (Λ × Bool × Int) := (if x5 < x4 then (if 0 ≤ (wrap64 (x2 + x5)) then (if (wrap64 (x2 + x5)) < (ln x0) then (if 0 ≤ x3 then (if (wrap64 ((wrap64 (x2 + x5)) + 1)) < (ln x0) then (if x3 > 0 then (if 0 ≤ (wrap64 ((wrap64 (x2 + x5)) + 1)) then (if (wrap64 ((wrap64 (x2 + x5)) + 1)) < (ln x0) then (if 0 ≤ (IntKind.u64.wrap (64 - x3)) then (if 0 ≤ x5 then (if x5 < (ln x6) then k8181 x0 x1 x2 x3 x4 (wrap64 (x5 + 1)) (x6.set (x5 : Int).toNat (Go.bits .or .u64 (shr .u64 (rd x0 (wrap64 (x2 + x5))) x3) (shl .u64 (rd x0 (wrap64 ((wrap64 (x2 + x5)) + 1))) (IntKind.u64.wrap (64 - x3))))) else none) else none) else none) else none) else none) else (if 0 ≤ x5 then (if x5 < (ln x6) then k8181 x0 x1 x2 x3 x4 (wrap64 (x5 + 1)) (x6.set (x5 : Int).toNat (shr .u64 (rd x0 (wrap64 (x2 + x5))) x3)) else none) else none)) else (if 0 ≤ x5 then (if x5 < (ln x6) then k8181 x0 x1 x2 x3 x4 (wrap64 (x5 + 1)) (x6.set (x5 : Int).toNat (shr .u64 (rd x0 (wrap64 (x2 + x5))) x3)) else none) else none)) else none) else none) else none) else k1023 x1 x6)
noncomputable def nat_Shr.l1023 (n : Nat) (x0 : Bool) (x1 : Λ) : Ω (Λ × Bool × Int) := nat_Shr.b1023 (nat_Trail.f n) (nat_size.f n) (nat_big.f n) (nat_cut.f n) x0 x1
noncomputable def nat_Shr.l8181 (n : Nat) : Nat→Λ→Bool→Int→Int→Int→Int→Λ→Ω (Λ × Bool × Int)
  | 0, _, _, _, _, _, _, _ => none
  | m + 1, x0, x1, x2, x3, x4, x5, x6 => nat_Shr.b8181 (nat_Trail.f n) (nat_size.f n) (nat_big.f n) (nat_cut.f n) (nat_Shr.l1023 n) (nat_Shr.l8181 n m) x0 x1 x2 x3 x4 x5 x6
noncomputable def nat_Shr.l31 (n : Nat) (x0 : Λ) (x1 : Int) (x2 : Bool) : Ω (Λ × Bool × Int) := nat_Shr.b31 (nat_Trail.f n) (nat_size.f n) (nat_big.f n) (nat_cut.f n) (nat_Shr.l8181 n n) x0 x1 x2
noncomputable def nat_Shr.f (n : Nat) (l0 : Λ) (a1 : Int) : Ω (Λ × Bool × Int) := nat_Shr.b0 (nat_Trail.f n) (nat_size.f n) (nat_big.f n) (nat_cut.f n) (nat_Shr.l31 n) l0 a1
noncomputable def nat_Shr.sg : Sig (Λ × Bool × Int) := s2 (sRow .u64) (s2 (sBool) (s1 (sInt .i64)))
noncomputable def nat_Shr.code : Code := (Tryd.f126.body).getD .skip
noncomputable def nat_Shr.cfg (c121 : Λ→Ω (Int)) (c133 : Λ→Ω (Int)) (c166 : Λ→Ω (Bool)) (c168 : Λ→Ω (Λ × Int)) : Cfg (Λ × Bool × Int) := { T := tys, call := orCall 121 (nat_Trail.call c121) (orCall 133 (nat_size.call c133) (orCall 166 (nat_big.call c166) (orCall 168 (nat_cut.call c168) (noCall)))) }
noncomputable def nat_Shr.cuts : List (Nat × List (Nat × Want)) := [(31, [(0, .keep), (1, .keep), (7, .keep)]), (1023, [(7, .keep), (10, .keep)]), (8181, [(0, .keep), (7, .keep), (8, .keep), (9, .keep), (10, .keep), (49, .keep), (50, .keep)])]
noncomputable def nat_Shr.s31 (x0 : Λ) (x1 : Int) (x2 : Bool) : ASt := ⟨[(0, .ro .u64 x0), (1, .int .i64 x1), (7, .bool x2)], []⟩
noncomputable def nat_Shr.s1023 (x0 : Bool) (x1 : Λ) : ASt := ⟨[(7, .bool x0), (10, .own 0)], [.ints 22 .u64 x1]⟩
noncomputable def nat_Shr.s8181 (x0 : Λ) (x1 : Bool) (x2 : Int) (x3 : Int) (x4 : Int) (x5 : Int) (x6 : Λ) : ASt := ⟨[(0, .ro .u64 x0), (7, .bool x1), (8, .int .i64 x2), (9, .int .u64 x3), (10, .own 0), (49, .int .i64 x4), (50, .int .i64 x5)], [.ints 22 .u64 x6]⟩
noncomputable def nat_Shr.A (c121 : Λ→Ω (Int)) (c133 : Λ→Ω (Int)) (c166 : Λ→Ω (Bool)) (c168 : Λ→Ω (Λ × Int)) (n : Nat) (J : Nat→(ASt→Ω (Λ × Bool × Int))→ASt→Ω (Λ × Bool × Int)) (q : Nat) (ms : List Nat) : ASt→Ω (Λ × Bool × Int) := acont (nat_Shr.cfg c121 c133 c166 c168) J nat_Shr.cuts n q nat_Shr.code 1 ms (aend (nat_Shr.cfg c121 c133 c166 c168) Tryd.f126.results.toList [false, false, false] nat_Shr.sg.out)
theorem nat_Shr.e0 (c121 : Λ→Ω (Int)) (c133 : Λ→Ω (Int)) (c166 : Λ→Ω (Bool)) (c168 : Λ→Ω (Λ × Int)) (n : Nat) (J : Nat→(ASt→Ω (Λ × Bool × Int))→ASt→Ω (Λ × Bool × Int)) (l0 : Λ) (a1 : Int) : afun (nat_Shr.cfg c121 c133 c166 c168) J nat_Shr.cuts n nat_Shr.code Tryd.f126.results.toList [false, false, false] [.ro .u64 l0, .int .i64 a1] nat_Shr.sg.out = nat_Shr.b0 c121 c133 c166 c168 (fun y0 y1 y2 => J 31 (nat_Shr.A c121 c133 c166 c168 n J 31 []) (nat_Shr.s31 y0 y1 y2)) l0 a1 := by kernel_rfl
theorem nat_Shr.e31 (c121 : Λ→Ω (Int)) (c133 : Λ→Ω (Int)) (c166 : Λ→Ω (Bool)) (c168 : Λ→Ω (Λ × Int)) (n : Nat) (J : Nat→(ASt→Ω (Λ × Bool × Int))→ASt→Ω (Λ × Bool × Int)) (x0 : Λ) (x1 : Int) (x2 : Bool) : nat_Shr.A c121 c133 c166 c168 n J 31 [] (nat_Shr.s31 x0 x1 x2) = nat_Shr.b31 c121 c133 c166 c168 (fun y0 y1 y2 y3 y4 y5 y6 => J 8181 (nat_Shr.A c121 c133 c166 c168 n J 8181 [n]) (nat_Shr.s8181 y0 y1 y2 y3 y4 y5 y6)) x0 x1 x2 := by kernel_rfl
theorem nat_Shr.e1023 (c121 : Λ→Ω (Int)) (c133 : Λ→Ω (Int)) (c166 : Λ→Ω (Bool)) (c168 : Λ→Ω (Λ × Int)) (n : Nat) (J : Nat→(ASt→Ω (Λ × Bool × Int))→ASt→Ω (Λ × Bool × Int)) (x0 : Bool) (x1 : Λ) : nat_Shr.A c121 c133 c166 c168 n J 1023 [] (nat_Shr.s1023 x0 x1) = nat_Shr.b1023 c121 c133 c166 c168 x0 x1 := by kernel_rfl
theorem nat_Shr.e8181 (c121 : Λ→Ω (Int)) (c133 : Λ→Ω (Int)) (c166 : Λ→Ω (Bool)) (c168 : Λ→Ω (Λ × Int)) (n : Nat) (J : Nat→(ASt→Ω (Λ × Bool × Int))→ASt→Ω (Λ × Bool × Int)) (m : Nat) (x0 : Λ) (x1 : Bool) (x2 : Int) (x3 : Int) (x4 : Int) (x5 : Int) (x6 : Λ) : nat_Shr.A c121 c133 c166 c168 n J 8181 [m + 1] (nat_Shr.s8181 x0 x1 x2 x3 x4 x5 x6) = nat_Shr.b8181 c121 c133 c166 c168 (fun y0 y1 => J 1023 (nat_Shr.A c121 c133 c166 c168 n J 1023 []) (nat_Shr.s1023 y0 y1)) (fun y0 y1 y2 y3 y4 y5 y6 => J 8181 (nat_Shr.A c121 c133 c166 c168 n J 8181 [m]) (nat_Shr.s8181 y0 y1 y2 y3 y4 y5 y6)) x0 x1 x2 x3 x4 x5 x6 := by kernel_rfl
theorem nat_Shr.q1023 (n : Nat) (x0 : Bool) (x1 : Λ) : nat_Shr.A (nat_Trail.f n) (nat_size.f n) (nat_big.f n) (nat_cut.f n) n idJ 1023 [] (nat_Shr.s1023 x0 x1) = nat_Shr.l1023 n x0 x1 := (nat_Shr.e1023 (nat_Trail.f n) (nat_size.f n) (nat_big.f n) (nat_cut.f n) n idJ x0 x1).trans (rfl)
theorem nat_Shr.q8181 (n : Nat) (m : Nat) : ∀ (x0 : Λ) (x1 : Bool) (x2 : Int) (x3 : Int) (x4 : Int) (x5 : Int) (x6 : Λ), nat_Shr.A (nat_Trail.f n) (nat_size.f n) (nat_big.f n) (nat_cut.f n) n idJ 8181 [m] (nat_Shr.s8181 x0 x1 x2 x3 x4 x5 x6) = nat_Shr.l8181 n m x0 x1 x2 x3 x4 x5 x6 := by
  induction m with
  | zero => intros; rfl
  | succ m ih =>
    intro x0 x1 x2 x3 x4 x5 x6
    refine (nat_Shr.e8181 (nat_Trail.f n) (nat_size.f n) (nat_big.f n) (nat_cut.f n) n idJ m x0 x1 x2 x3 x4 x5 x6).trans ?_
    exact congrFun (congrFun (congrFun (congrFun (congrFun (congrFun (congrFun (congr (congrArg (nat_Shr.b8181 (nat_Trail.f n) (nat_size.f n) (nat_big.f n) (nat_cut.f n)) (funext fun y0 => (funext fun y1 => nat_Shr.q1023 n y0 y1))) (funext fun y0 => (funext fun y1 => (funext fun y2 => (funext fun y3 => (funext fun y4 => (funext fun y5 => (funext fun y6 => ih y0 y1 y2 y3 y4 y5 y6)))))))) x0) x1) x2) x3) x4) x5) x6
theorem nat_Shr.q31 (n : Nat) (x0 : Λ) (x1 : Int) (x2 : Bool) : nat_Shr.A (nat_Trail.f n) (nat_size.f n) (nat_big.f n) (nat_cut.f n) n idJ 31 [] (nat_Shr.s31 x0 x1 x2) = nat_Shr.l31 n x0 x1 x2 := (nat_Shr.e31 (nat_Trail.f n) (nat_size.f n) (nat_big.f n) (nat_cut.f n) n idJ x0 x1 x2).trans (congrFun (congrFun (congrFun (congrArg (nat_Shr.b31 (nat_Trail.f n) (nat_size.f n) (nat_big.f n) (nat_cut.f n)) (funext fun y0 => (funext fun y1 => (funext fun y2 => (funext fun y3 => (funext fun y4 => (funext fun y5 => (funext fun y6 => nat_Shr.q8181 n n y0 y1 y2 y3 y4 y5 y6)))))))) x0) x1) x2)
theorem nat_Shr.eq (n : Nat) (l0 : Λ) (a1 : Int) : afun (nat_Shr.cfg (nat_Trail.f n) (nat_size.f n) (nat_big.f n) (nat_cut.f n)) idJ nat_Shr.cuts n nat_Shr.code Tryd.f126.results.toList [false, false, false] [.ro .u64 l0, .int .i64 a1] nat_Shr.sg.out = nat_Shr.f n l0 a1 := (nat_Shr.e0 (nat_Trail.f n) (nat_size.f n) (nat_big.f n) (nat_cut.f n) n idJ l0 a1).trans (congrFun (congrFun (congrArg (nat_Shr.b0 (nat_Trail.f n) (nat_size.f n) (nat_big.f n) (nat_cut.f n)) (funext fun y0 => (funext fun y1 => (funext fun y2 => nat_Shr.q31 n y0 y1 y2)))) l0) a1)
theorem nat_Shr.ok {n : Nat} {l0 : Λ} {a1 : Int} {r : Λ × Bool × Int} (h : nat_Shr.f n l0 a1 = some r) : CallD Tryd.prog HW 126 [.ro .u64 l0, .int .i64 a1] (nat_Shr.sg.enc r) :=
  fun_some hwS Tryd.func126 (by kernel_rfl) (body := nat_Shr.code) (by kernel_rfl) tys_ok (c := nat_Shr.cfg (nat_Trail.f n) (nat_size.f n) (nat_big.f n) (nat_cut.f n)) (orCall_ok (nat_Trail.call_ok (n := n)) (orCall_ok (nat_size.call_ok (n := n)) (orCall_ok (nat_big.call_ok (n := n)) (orCall_ok (nat_cut.call_ok (n := n)) noCall_ok)))) noW_ok (by kernel_rfl) (by kernel_rfl) (Nat.le_of_ble_eq_true (by kernel_rfl)) ((nat_Shr.eq n l0 a1).trans h)
noncomputable def nat_Shr.call {α : Type} (g : Λ→Int→Ω (Λ × Bool × Int)) (ds : List D) (K : List D→Ω α) : Ω α := match ds with
  | [.ro .u64 l0, .int .i64 a1] => (g l0 a1).bind fun r => K (nat_Shr.sg.enc r)
  | _ => none
theorem nat_Shr.call_ok {α : Type} {n : Nat} (ds : List D) (K : List D→Ω α) (r : α) (h : nat_Shr.call (nat_Shr.f n) ds K = some r) : ∃ rs, K rs = some r ∧ CallD Tryd.prog HW 126 ds rs := by
  unfold nat_Shr.call at h
  split at h
  · obtain ⟨x, hx, hk⟩ := Option.bind_eq_some_iff.1 h
    exact ⟨_, hk, nat_Shr.ok (n := n) hx⟩
  · cases h
/-! ### nat_ToUint: function 119 -/
noncomputable def nat_ToUint.b0 (c133 : Λ→Ω (Int)) (l0 : Λ) : Ω (Int × Bool) := ((c133 l0).bind fun t1 => (if t1 = 0 then some (0, true) else (if t1 = 1 then (if 0 < (ln l0) then some (rd l0 0, true) else none) else some (0, false))))
noncomputable def nat_ToUint.f (n : Nat) (l0 : Λ) : Ω (Int × Bool) := nat_ToUint.b0 (nat_size.f n) l0
noncomputable def nat_ToUint.sg : Sig (Int × Bool) := s2 (sInt .u64) (s1 (sBool))
noncomputable def nat_ToUint.code : Code := (Tryd.f119.body).getD .skip
noncomputable def nat_ToUint.cfg (c133 : Λ→Ω (Int)) : Cfg (Int × Bool) := { T := tys, call := orCall 133 (nat_size.call c133) (noCall) }
noncomputable def nat_ToUint.cuts : List (Nat × List (Nat × Want)) := []
theorem nat_ToUint.e0 (c133 : Λ→Ω (Int)) (n : Nat) (J : Nat→(ASt→Ω (Int × Bool))→ASt→Ω (Int × Bool)) (l0 : Λ) : afun (nat_ToUint.cfg c133) J nat_ToUint.cuts n nat_ToUint.code Tryd.f119.results.toList [false, false] [.ro .u64 l0] nat_ToUint.sg.out = nat_ToUint.b0 c133 l0 := by kernel_rfl
theorem nat_ToUint.eq (n : Nat) (l0 : Λ) : afun (nat_ToUint.cfg (nat_size.f n)) idJ nat_ToUint.cuts n nat_ToUint.code Tryd.f119.results.toList [false, false] [.ro .u64 l0] nat_ToUint.sg.out = nat_ToUint.f n l0 := (nat_ToUint.e0 (nat_size.f n) n idJ l0).trans (rfl)
theorem nat_ToUint.ok {n : Nat} {l0 : Λ} {r : Int × Bool} (h : nat_ToUint.f n l0 = some r) : CallD Tryd.prog HW 119 [.ro .u64 l0] (nat_ToUint.sg.enc r) :=
  fun_some hwS Tryd.func119 (by kernel_rfl) (body := nat_ToUint.code) (by kernel_rfl) tys_ok (c := nat_ToUint.cfg (nat_size.f n)) (orCall_ok (nat_size.call_ok (n := n)) noCall_ok) noW_ok (by kernel_rfl) (by kernel_rfl) (Nat.le_of_ble_eq_true (by kernel_rfl)) ((nat_ToUint.eq n l0).trans h)
noncomputable def nat_ToUint.call {α : Type} (g : Λ→Ω (Int × Bool)) (ds : List D) (K : List D→Ω α) : Ω α := match ds with
  | [.ro .u64 l0] => (g l0).bind fun r => K (nat_ToUint.sg.enc r)
  | _ => none
theorem nat_ToUint.call_ok {α : Type} {n : Nat} (ds : List D) (K : List D→Ω α) (r : α) (h : nat_ToUint.call (nat_ToUint.f n) ds K = some r) : ∃ rs, K rs = some r ∧ CallD Tryd.prog HW 119 ds rs := by
  unfold nat_ToUint.call at h
  split at h
  · obtain ⟨x, hx, hk⟩ := Option.bind_eq_some_iff.1 h
    exact ⟨_, hk, nat_ToUint.ok (n := n) hx⟩
  · cases h
/-! ### nat_Bit: function 120 -/
noncomputable def nat_Bit.b0 (l0 : Λ) (a1 : Int) : Ω (Int) := (if a1 < 0 then some 0 else (if (wrap64 (Int.tdiv a1 64)) ≥ (ln l0) then some 0 else (if 0 ≤ (wrap64 (Int.tdiv a1 64)) then (if (wrap64 (Int.tdiv a1 64)) < (ln l0) then (if 0 ≤ (IntKind.u64.wrap (Int.tmod a1 64)) then some (wrap64 (Go.bits .and .u64 (shr .u64 (rd l0 (wrap64 (Int.tdiv a1 64))) (IntKind.u64.wrap (Int.tmod a1 64))) 1)) else none) else none) else none)))
noncomputable def nat_Bit.f (l0 : Λ) (a1 : Int) : Ω (Int) := nat_Bit.b0 l0 a1
noncomputable def nat_Bit.sg : Sig (Int) := s1 (sInt .i64)
noncomputable def nat_Bit.code : Code := (Tryd.f120.body).getD .skip
noncomputable def nat_Bit.cfg : Cfg (Int) := { T := tys, call := noCall }
noncomputable def nat_Bit.cuts : List (Nat × List (Nat × Want)) := []
theorem nat_Bit.e0 (n : Nat) (J : Nat→(ASt→Ω (Int))→ASt→Ω (Int)) (l0 : Λ) (a1 : Int) : afun (nat_Bit.cfg) J nat_Bit.cuts n nat_Bit.code Tryd.f120.results.toList [false] [.ro .u64 l0, .int .i64 a1] nat_Bit.sg.out = nat_Bit.b0 l0 a1 := by kernel_rfl
theorem nat_Bit.eq (n : Nat) (l0 : Λ) (a1 : Int) : afun (nat_Bit.cfg) idJ nat_Bit.cuts n nat_Bit.code Tryd.f120.results.toList [false] [.ro .u64 l0, .int .i64 a1] nat_Bit.sg.out = nat_Bit.f l0 a1 := (nat_Bit.e0 n idJ l0 a1).trans (rfl)
theorem nat_Bit.ok {n : Nat} {l0 : Λ} {a1 : Int} {r : Int} (h : nat_Bit.f l0 a1 = some r) : CallD Tryd.prog HW 120 [.ro .u64 l0, .int .i64 a1] (nat_Bit.sg.enc r) :=
  fun_some hwS Tryd.func120 (by kernel_rfl) (body := nat_Bit.code) (by kernel_rfl) tys_ok (c := nat_Bit.cfg) noCall_ok noW_ok (by kernel_rfl) (by kernel_rfl) (Nat.le_of_ble_eq_true (by kernel_rfl)) ((nat_Bit.eq n l0 a1).trans h)
noncomputable def nat_Bit.call {α : Type} (g : Λ→Int→Ω (Int)) (ds : List D) (K : List D→Ω α) : Ω α := match ds with
  | [.ro .u64 l0, .int .i64 a1] => (g l0 a1).bind fun r => K (nat_Bit.sg.enc r)
  | _ => none
theorem nat_Bit.call_ok {α : Type} {n : Nat} (ds : List D) (K : List D→Ω α) (r : α) (h : nat_Bit.call nat_Bit.f ds K = some r) : ∃ rs, K rs = some r ∧ CallD Tryd.prog HW 120 ds rs := by
  unfold nat_Bit.call at h
  split at h
  · obtain ⟨x, hx, hk⟩ := Option.bind_eq_some_iff.1 h
    exact ⟨_, hk, nat_Bit.ok (n := n) hx⟩
  · cases h
/-! ### ieee_magnitude: function 135 -/
noncomputable def ieee_magnitude.b0 (c41 : Λ→Ω (Int)) (c119 : Λ→Ω (Int × Bool)) (c120 : Λ→Int→Ω (Int)) (c121 : Λ→Ω (Int)) (c126 : Λ→Int→Ω (Λ × Bool × Int)) (k255 : Int→Int→Ω (Int)) (l0 : Λ) (a1 : Int) (a2 : Bool) : Ω (Int) := ((c41 l0).bind fun t1 => (if (ln l0) = 0 then some 0 else (if (wrap64 (t1 + a1)) < (-1074) then some 0 else (if (wrap64 (t1 + a1)) > 1024 then some 9218868437227405312 else (if (wrap64 ((mx (wrap64 ((wrap64 (t1 + a1)) - 53)) (-1074)) - a1)) ≤ 0 then (if 0 < (ln l0) then (if 0 ≤ (IntKind.u64.wrap (wrap64 (-(wrap64 ((mx (wrap64 ((wrap64 (t1 + a1)) - 53)) (-1074)) - a1))))) then k255 (mx (wrap64 ((wrap64 (t1 + a1)) - 53)) (-1074)) (shl .u64 (rd l0 0) (IntKind.u64.wrap (wrap64 (-(wrap64 ((mx (wrap64 ((wrap64 (t1 + a1)) - 53)) (-1074)) - a1)))))) else none) else none) else ((c126 l0 (wrap64 ((mx (wrap64 ((wrap64 (t1 + a1)) - 53)) (-1074)) - a1))).bind fun t2 => ((c119 t2.1).bind fun t3 => ((c120 l0 (wrap64 ((wrap64 ((mx (wrap64 ((wrap64 (t1 + a1)) - 53)) (-1074)) - a1)) - 1))).bind fun t4 => (if t4 = 1 then (if a2 = true then k255 (mx (wrap64 ((wrap64 (t1 + a1)) - 53)) (-1074)) (IntKind.u64.wrap (t3.1 + 1)) else (if (Go.bits .and .u64 t3.1 1) = 1 then k255 (mx (wrap64 ((wrap64 (t1 + a1)) - 53)) (-1074)) (IntKind.u64.wrap (t3.1 + 1)) else ((c121 l0).bind fun t5 => (if t5 < (wrap64 ((wrap64 ((mx (wrap64 ((wrap64 (t1 + a1)) - 53)) (-1074)) - a1)) - 1)) then k255 (mx (wrap64 ((wrap64 (t1 + a1)) - 53)) (-1074)) (IntKind.u64.wrap (t3.1 + 1)) else k255 (mx (wrap64 ((wrap64 (t1 + a1)) - 53)) (-1074)) t3.1)))) else k255 (mx (wrap64 ((wrap64 (t1 + a1)) - 53)) (-1074)) t3.1)))))))))
noncomputable def ieee_magnitude.b255 (c41 : Λ→Ω (Int)) (c119 : Λ→Ω (Int × Bool)) (c120 : Λ→Int→Ω (Int)) (c121 : Λ→Ω (Int)) (c126 : Λ→Int→Ω (Λ × Bool × Int)) (x0 : Int) (x1 : Int) : Ω (Int) := some (IntKind.u64.wrap ((IntKind.u64.wrap ((IntKind.u64.wrap (wrap64 (x0 - (-1074)))) * 4503599627370496)) + x1))
noncomputable def ieee_magnitude.l255 (n : Nat) (x0 : Int) (x1 : Int) : Ω (Int) := ieee_magnitude.b255 (nat_BitLen.f n) (nat_ToUint.f n) nat_Bit.f (nat_Trail.f n) (nat_Shr.f n) x0 x1
noncomputable def ieee_magnitude.f (n : Nat) (l0 : Λ) (a1 : Int) (a2 : Bool) : Ω (Int) := ieee_magnitude.b0 (nat_BitLen.f n) (nat_ToUint.f n) nat_Bit.f (nat_Trail.f n) (nat_Shr.f n) (ieee_magnitude.l255 n) l0 a1 a2
noncomputable def ieee_magnitude.sg : Sig (Int) := s1 (sInt .u64)
noncomputable def ieee_magnitude.code : Code := (Tryd.f135.body).getD .skip
noncomputable def ieee_magnitude.cfg (c41 : Λ→Ω (Int)) (c119 : Λ→Ω (Int × Bool)) (c120 : Λ→Int→Ω (Int)) (c121 : Λ→Ω (Int)) (c126 : Λ→Int→Ω (Λ × Bool × Int)) : Cfg (Int) := { T := tys, call := orCall 41 (nat_BitLen.call c41) (orCall 119 (nat_ToUint.call c119) (orCall 120 (nat_Bit.call c120) (orCall 121 (nat_Trail.call c121) (orCall 126 (nat_Shr.call c126) (noCall))))) }
noncomputable def ieee_magnitude.cuts : List (Nat × List (Nat × Want)) := [(255, [(8, .keep), (10, .keep)])]
noncomputable def ieee_magnitude.s255 (x0 : Int) (x1 : Int) : ASt := ⟨[(8, .int .i64 x0), (10, .int .u64 x1)], []⟩
noncomputable def ieee_magnitude.A (c41 : Λ→Ω (Int)) (c119 : Λ→Ω (Int × Bool)) (c120 : Λ→Int→Ω (Int)) (c121 : Λ→Ω (Int)) (c126 : Λ→Int→Ω (Λ × Bool × Int)) (n : Nat) (J : Nat→(ASt→Ω (Int))→ASt→Ω (Int)) (q : Nat) (ms : List Nat) : ASt→Ω (Int) := acont (ieee_magnitude.cfg c41 c119 c120 c121 c126) J ieee_magnitude.cuts n q ieee_magnitude.code 1 ms (aend (ieee_magnitude.cfg c41 c119 c120 c121 c126) Tryd.f135.results.toList [false] ieee_magnitude.sg.out)
theorem ieee_magnitude.e0 (c41 : Λ→Ω (Int)) (c119 : Λ→Ω (Int × Bool)) (c120 : Λ→Int→Ω (Int)) (c121 : Λ→Ω (Int)) (c126 : Λ→Int→Ω (Λ × Bool × Int)) (n : Nat) (J : Nat→(ASt→Ω (Int))→ASt→Ω (Int)) (l0 : Λ) (a1 : Int) (a2 : Bool) : afun (ieee_magnitude.cfg c41 c119 c120 c121 c126) J ieee_magnitude.cuts n ieee_magnitude.code Tryd.f135.results.toList [false] [.ro .u64 l0, .int .i64 a1, .bool a2] ieee_magnitude.sg.out = ieee_magnitude.b0 c41 c119 c120 c121 c126 (fun y0 y1 => J 255 (ieee_magnitude.A c41 c119 c120 c121 c126 n J 255 []) (ieee_magnitude.s255 y0 y1)) l0 a1 a2 := by kernel_rfl
theorem ieee_magnitude.e255 (c41 : Λ→Ω (Int)) (c119 : Λ→Ω (Int × Bool)) (c120 : Λ→Int→Ω (Int)) (c121 : Λ→Ω (Int)) (c126 : Λ→Int→Ω (Λ × Bool × Int)) (n : Nat) (J : Nat→(ASt→Ω (Int))→ASt→Ω (Int)) (x0 : Int) (x1 : Int) : ieee_magnitude.A c41 c119 c120 c121 c126 n J 255 [] (ieee_magnitude.s255 x0 x1) = ieee_magnitude.b255 c41 c119 c120 c121 c126 x0 x1 := by kernel_rfl
theorem ieee_magnitude.q255 (n : Nat) (x0 : Int) (x1 : Int) : ieee_magnitude.A (nat_BitLen.f n) (nat_ToUint.f n) nat_Bit.f (nat_Trail.f n) (nat_Shr.f n) n idJ 255 [] (ieee_magnitude.s255 x0 x1) = ieee_magnitude.l255 n x0 x1 := (ieee_magnitude.e255 (nat_BitLen.f n) (nat_ToUint.f n) nat_Bit.f (nat_Trail.f n) (nat_Shr.f n) n idJ x0 x1).trans (rfl)
theorem ieee_magnitude.eq (n : Nat) (l0 : Λ) (a1 : Int) (a2 : Bool) : afun (ieee_magnitude.cfg (nat_BitLen.f n) (nat_ToUint.f n) nat_Bit.f (nat_Trail.f n) (nat_Shr.f n)) idJ ieee_magnitude.cuts n ieee_magnitude.code Tryd.f135.results.toList [false] [.ro .u64 l0, .int .i64 a1, .bool a2] ieee_magnitude.sg.out = ieee_magnitude.f n l0 a1 a2 := (ieee_magnitude.e0 (nat_BitLen.f n) (nat_ToUint.f n) nat_Bit.f (nat_Trail.f n) (nat_Shr.f n) n idJ l0 a1 a2).trans (congrFun (congrFun (congrFun (congrArg (ieee_magnitude.b0 (nat_BitLen.f n) (nat_ToUint.f n) nat_Bit.f (nat_Trail.f n) (nat_Shr.f n)) (funext fun y0 => (funext fun y1 => ieee_magnitude.q255 n y0 y1))) l0) a1) a2)
theorem ieee_magnitude.ok {n : Nat} {l0 : Λ} {a1 : Int} {a2 : Bool} {r : Int} (h : ieee_magnitude.f n l0 a1 a2 = some r) : CallD Tryd.prog HW 135 [.ro .u64 l0, .int .i64 a1, .bool a2] (ieee_magnitude.sg.enc r) :=
  fun_some hwS Tryd.func135 (by kernel_rfl) (body := ieee_magnitude.code) (by kernel_rfl) tys_ok (c := ieee_magnitude.cfg (nat_BitLen.f n) (nat_ToUint.f n) nat_Bit.f (nat_Trail.f n) (nat_Shr.f n)) (orCall_ok (nat_BitLen.call_ok (n := n)) (orCall_ok (nat_ToUint.call_ok (n := n)) (orCall_ok (nat_Bit.call_ok (n := n)) (orCall_ok (nat_Trail.call_ok (n := n)) (orCall_ok (nat_Shr.call_ok (n := n)) noCall_ok))))) noW_ok (by kernel_rfl) (by kernel_rfl) (Nat.le_of_ble_eq_true (by kernel_rfl)) ((ieee_magnitude.eq n l0 a1 a2).trans h)
noncomputable def ieee_magnitude.call {α : Type} (g : Λ→Int→Bool→Ω (Int)) (ds : List D) (K : List D→Ω α) : Ω α := match ds with
  | [.ro .u64 l0, .int .i64 a1, .bool a2] => (g l0 a1 a2).bind fun r => K (ieee_magnitude.sg.enc r)
  | _ => none
theorem ieee_magnitude.call_ok {α : Type} {n : Nat} (ds : List D) (K : List D→Ω α) (r : α) (h : ieee_magnitude.call (ieee_magnitude.f n) ds K = some r) : ∃ rs, K rs = some r ∧ CallD Tryd.prog HW 135 ds rs := by
  unfold ieee_magnitude.call at h
  split at h
  · obtain ⟨x, hx, hk⟩ := Option.bind_eq_some_iff.1 h
    exact ⟨_, hk, ieee_magnitude.ok (n := n) hx⟩
  · cases h
/-! ### ieee_Neg: function 47 -/
noncomputable def ieee_Neg.b0 (a0 : Int) : Ω (Int) := some (Go.bits .xor .u64 a0 9223372036854775808)
noncomputable def ieee_Neg.f (a0 : Int) : Ω (Int) := ieee_Neg.b0 a0
noncomputable def ieee_Neg.sg : Sig (Int) := s1 (sInt .u64)
noncomputable def ieee_Neg.code : Code := (Tryd.f47.body).getD .skip
noncomputable def ieee_Neg.cfg : Cfg (Int) := { T := tys, call := noCall }
noncomputable def ieee_Neg.cuts : List (Nat × List (Nat × Want)) := []
theorem ieee_Neg.e0 (n : Nat) (J : Nat→(ASt→Ω (Int))→ASt→Ω (Int)) (a0 : Int) : afun (ieee_Neg.cfg) J ieee_Neg.cuts n ieee_Neg.code Tryd.f47.results.toList [false] [.int .u64 a0] ieee_Neg.sg.out = ieee_Neg.b0 a0 := by kernel_rfl
theorem ieee_Neg.eq (n : Nat) (a0 : Int) : afun (ieee_Neg.cfg) idJ ieee_Neg.cuts n ieee_Neg.code Tryd.f47.results.toList [false] [.int .u64 a0] ieee_Neg.sg.out = ieee_Neg.f a0 := (ieee_Neg.e0 n idJ a0).trans (rfl)
theorem ieee_Neg.ok {n : Nat} {a0 : Int} {r : Int} (h : ieee_Neg.f a0 = some r) : CallD Tryd.prog HW 47 [.int .u64 a0] (ieee_Neg.sg.enc r) :=
  fun_some hwS Tryd.func47 (by kernel_rfl) (body := ieee_Neg.code) (by kernel_rfl) tys_ok (c := ieee_Neg.cfg) noCall_ok noW_ok (by kernel_rfl) (by kernel_rfl) (Nat.le_of_ble_eq_true (by kernel_rfl)) ((ieee_Neg.eq n a0).trans h)
noncomputable def ieee_Neg.call {α : Type} (g : Int→Ω (Int)) (ds : List D) (K : List D→Ω α) : Ω α := match ds with
  | [.int .u64 a0] => (g a0).bind fun r => K (ieee_Neg.sg.enc r)
  | _ => none
theorem ieee_Neg.call_ok {α : Type} {n : Nat} (ds : List D) (K : List D→Ω α) (r : α) (h : ieee_Neg.call ieee_Neg.f ds K = some r) : ∃ rs, K rs = some r ∧ CallD Tryd.prog HW 47 ds rs := by
  unfold ieee_Neg.call at h
  split at h
  · obtain ⟨x, hx, hk⟩ := Option.bind_eq_some_iff.1 h
    exact ⟨_, hk, ieee_Neg.ok (n := n) hx⟩
  · cases h
/-! ### ieee_Round: function 43 -/
noncomputable def ieee_Round.b0 (c47 : Int→Ω (Int)) (c125 : Λ→Int→Ω (Λ × Int)) (c135 : Λ→Int→Bool→Ω (Int)) (c136 : Int→Ω (Int)) (a0 : Bool) (l1 : Λ) (a2 : Int) (a3 : Bool) : Ω (Int × Int) := ((c125 l1 0).bind fun t1 => (if ¬ t1.2 = 0 then some (0, t1.2) else ((c136 a2).bind fun t2 => ((c135 t1.1 t2 a3).bind fun t3 => (if a0 = true then ((c47 t3).bind fun t4 => some (t4, 0)) else some (t3, 0))))))
noncomputable def ieee_Round.f (n : Nat) (a0 : Bool) (l1 : Λ) (a2 : Int) (a3 : Bool) : Ω (Int × Int) := ieee_Round.b0 ieee_Neg.f (nat_Shl.f n) (ieee_magnitude.f n) ieee_near.f a0 l1 a2 a3
noncomputable def ieee_Round.sg : Sig (Int × Int) := s2 (sInt .u64) (s1 (sInt .i64))
noncomputable def ieee_Round.code : Code := (Tryd.f43.body).getD .skip
noncomputable def ieee_Round.cfg (c47 : Int→Ω (Int)) (c125 : Λ→Int→Ω (Λ × Int)) (c135 : Λ→Int→Bool→Ω (Int)) (c136 : Int→Ω (Int)) : Cfg (Int × Int) := { T := tys, call := orCall 47 (ieee_Neg.call c47) (orCall 125 (nat_Shl.call c125) (orCall 135 (ieee_magnitude.call c135) (orCall 136 (ieee_near.call c136) (noCall)))) }
noncomputable def ieee_Round.cuts : List (Nat × List (Nat × Want)) := []
theorem ieee_Round.e0 (c47 : Int→Ω (Int)) (c125 : Λ→Int→Ω (Λ × Int)) (c135 : Λ→Int→Bool→Ω (Int)) (c136 : Int→Ω (Int)) (n : Nat) (J : Nat→(ASt→Ω (Int × Int))→ASt→Ω (Int × Int)) (a0 : Bool) (l1 : Λ) (a2 : Int) (a3 : Bool) : afun (ieee_Round.cfg c47 c125 c135 c136) J ieee_Round.cuts n ieee_Round.code Tryd.f43.results.toList [false, false] [.bool a0, .ro .u64 l1, .int .i64 a2, .bool a3] ieee_Round.sg.out = ieee_Round.b0 c47 c125 c135 c136 a0 l1 a2 a3 := by kernel_rfl
theorem ieee_Round.eq (n : Nat) (a0 : Bool) (l1 : Λ) (a2 : Int) (a3 : Bool) : afun (ieee_Round.cfg ieee_Neg.f (nat_Shl.f n) (ieee_magnitude.f n) ieee_near.f) idJ ieee_Round.cuts n ieee_Round.code Tryd.f43.results.toList [false, false] [.bool a0, .ro .u64 l1, .int .i64 a2, .bool a3] ieee_Round.sg.out = ieee_Round.f n a0 l1 a2 a3 := (ieee_Round.e0 ieee_Neg.f (nat_Shl.f n) (ieee_magnitude.f n) ieee_near.f n idJ a0 l1 a2 a3).trans (rfl)
theorem ieee_Round.ok {n : Nat} {a0 : Bool} {l1 : Λ} {a2 : Int} {a3 : Bool} {r : Int × Int} (h : ieee_Round.f n a0 l1 a2 a3 = some r) : CallD Tryd.prog HW 43 [.bool a0, .ro .u64 l1, .int .i64 a2, .bool a3] (ieee_Round.sg.enc r) :=
  fun_some hwS Tryd.func43 (by kernel_rfl) (body := ieee_Round.code) (by kernel_rfl) tys_ok (c := ieee_Round.cfg ieee_Neg.f (nat_Shl.f n) (ieee_magnitude.f n) ieee_near.f) (orCall_ok (ieee_Neg.call_ok (n := n)) (orCall_ok (nat_Shl.call_ok (n := n)) (orCall_ok (ieee_magnitude.call_ok (n := n)) (orCall_ok (ieee_near.call_ok (n := n)) noCall_ok)))) noW_ok (by kernel_rfl) (by kernel_rfl) (Nat.le_of_ble_eq_true (by kernel_rfl)) ((ieee_Round.eq n a0 l1 a2 a3).trans h)
noncomputable def ieee_Round.call {α : Type} (g : Bool→Λ→Int→Bool→Ω (Int × Int)) (ds : List D) (K : List D→Ω α) : Ω α := match ds with
  | [.bool a0, .ro .u64 l1, .int .i64 a2, .bool a3] => (g a0 l1 a2 a3).bind fun r => K (ieee_Round.sg.enc r)
  | _ => none
theorem ieee_Round.call_ok {α : Type} {n : Nat} (ds : List D) (K : List D→Ω α) (r : α) (h : ieee_Round.call (ieee_Round.f n) ds K = some r) : ∃ rs, K rs = some r ∧ CallD Tryd.prog HW 43 ds rs := by
  unfold ieee_Round.call at h
  split at h
  · obtain ⟨x, hx, hk⟩ := Option.bind_eq_some_iff.1 h
    exact ⟨_, hk, ieee_Round.ok (n := n) hx⟩
  · cases h
/-! ### soft_fraction_flags: function 139 -/
noncomputable def soft_fraction_flags.b0 (c42 : Λ→Λ→Ω (Int)) (c73 : Int→Ω (Bool × Int × Int × Int)) (c100 : Λ→Λ→Ω (Λ × Int)) (c118 : Int→Ω (Λ)) (c175 : Λ→Int→Λ→Int→Ω (Λ × Λ × Int)) (a0 : Bool) (l1 : Λ) (l2 : Λ) (a3 : Int) (a4 : Int) : Ω (Int) := ((c73 a4).bind fun t1 => (if t1.2.1 = 3 then some 20 else ((c118 t1.2.2.1).bind fun t2 => ((c100 l2 t2).bind fun t3 => ((c175 l1 a3 t3.1 t1.2.2.2).bind fun t4 => ((c42 t4.1 t4.2.1).bind fun t5 => (if t5 = 0 then some 0 else ((c175 l1 a3 l2 (-1022)).bind fun t6 => ((c42 t6.1 t6.2.1).bind fun t7 => (if t7 < 0 then some 24 else some 16))))))))))
noncomputable def soft_fraction_flags.f (n : Nat) (a0 : Bool) (l1 : Λ) (l2 : Λ) (a3 : Int) (a4 : Int) : Ω (Int) := soft_fraction_flags.b0 (nat_Cmp.f n) ieee_Decode.f (nat_Mul.f n) nat_FromUint.f (soft_aligned.f n) a0 l1 l2 a3 a4
noncomputable def soft_fraction_flags.sg : Sig (Int) := s1 (sInt .i64)
noncomputable def soft_fraction_flags.code : Code := (Tryd.f139.body).getD .skip
noncomputable def soft_fraction_flags.cfg (c42 : Λ→Λ→Ω (Int)) (c73 : Int→Ω (Bool × Int × Int × Int)) (c100 : Λ→Λ→Ω (Λ × Int)) (c118 : Int→Ω (Λ)) (c175 : Λ→Int→Λ→Int→Ω (Λ × Λ × Int)) : Cfg (Int) := { T := tys, call := orCall 42 (nat_Cmp.call c42) (orCall 73 (ieee_Decode.call c73) (orCall 100 (nat_Mul.call c100) (orCall 118 (nat_FromUint.call c118) (orCall 175 (soft_aligned.call c175) (noCall))))) }
noncomputable def soft_fraction_flags.cuts : List (Nat × List (Nat × Want)) := []
theorem soft_fraction_flags.e0 (c42 : Λ→Λ→Ω (Int)) (c73 : Int→Ω (Bool × Int × Int × Int)) (c100 : Λ→Λ→Ω (Λ × Int)) (c118 : Int→Ω (Λ)) (c175 : Λ→Int→Λ→Int→Ω (Λ × Λ × Int)) (n : Nat) (J : Nat→(ASt→Ω (Int))→ASt→Ω (Int)) (a0 : Bool) (l1 : Λ) (l2 : Λ) (a3 : Int) (a4 : Int) : afun (soft_fraction_flags.cfg c42 c73 c100 c118 c175) J soft_fraction_flags.cuts n soft_fraction_flags.code Tryd.f139.results.toList [false] [.agg [.bool a0, .ro .u64 l1, .ro .u64 l2, .int .i64 a3], .int .u64 a4] soft_fraction_flags.sg.out = soft_fraction_flags.b0 c42 c73 c100 c118 c175 a0 l1 l2 a3 a4 := by kernel_rfl
theorem soft_fraction_flags.eq (n : Nat) (a0 : Bool) (l1 : Λ) (l2 : Λ) (a3 : Int) (a4 : Int) : afun (soft_fraction_flags.cfg (nat_Cmp.f n) ieee_Decode.f (nat_Mul.f n) nat_FromUint.f (soft_aligned.f n)) idJ soft_fraction_flags.cuts n soft_fraction_flags.code Tryd.f139.results.toList [false] [.agg [.bool a0, .ro .u64 l1, .ro .u64 l2, .int .i64 a3], .int .u64 a4] soft_fraction_flags.sg.out = soft_fraction_flags.f n a0 l1 l2 a3 a4 := (soft_fraction_flags.e0 (nat_Cmp.f n) ieee_Decode.f (nat_Mul.f n) nat_FromUint.f (soft_aligned.f n) n idJ a0 l1 l2 a3 a4).trans (rfl)
theorem soft_fraction_flags.ok {n : Nat} {a0 : Bool} {l1 : Λ} {l2 : Λ} {a3 : Int} {a4 : Int} {r : Int} (h : soft_fraction_flags.f n a0 l1 l2 a3 a4 = some r) : CallD Tryd.prog HW 139 [.agg [.bool a0, .ro .u64 l1, .ro .u64 l2, .int .i64 a3], .int .u64 a4] (soft_fraction_flags.sg.enc r) :=
  fun_some hwS Tryd.func139 (by kernel_rfl) (body := soft_fraction_flags.code) (by kernel_rfl) tys_ok (c := soft_fraction_flags.cfg (nat_Cmp.f n) ieee_Decode.f (nat_Mul.f n) nat_FromUint.f (soft_aligned.f n)) (orCall_ok (nat_Cmp.call_ok (n := n)) (orCall_ok (ieee_Decode.call_ok (n := n)) (orCall_ok (nat_Mul.call_ok (n := n)) (orCall_ok (nat_FromUint.call_ok (n := n)) (orCall_ok (soft_aligned.call_ok (n := n)) noCall_ok))))) noW_ok (by kernel_rfl) (by kernel_rfl) (Nat.le_of_ble_eq_true (by kernel_rfl)) ((soft_fraction_flags.eq n a0 l1 l2 a3 a4).trans h)
noncomputable def soft_fraction_flags.call {α : Type} (g : Bool→Λ→Λ→Int→Int→Ω (Int)) (ds : List D) (K : List D→Ω α) : Ω α := match ds with
  | [.agg [.bool a0, .ro .u64 l1, .ro .u64 l2, .int .i64 a3], .int .u64 a4] => (g a0 l1 l2 a3 a4).bind fun r => K (soft_fraction_flags.sg.enc r)
  | _ => none
theorem soft_fraction_flags.call_ok {α : Type} {n : Nat} (ds : List D) (K : List D→Ω α) (r : α) (h : soft_fraction_flags.call (soft_fraction_flags.f n) ds K = some r) : ∃ rs, K rs = some r ∧ CallD Tryd.prog HW 139 ds rs := by
  unfold soft_fraction_flags.call at h
  split at h
  · obtain ⟨x, hx, hk⟩ := Option.bind_eq_some_iff.1 h
    exact ⟨_, hk, soft_fraction_flags.ok (n := n) hx⟩
  · cases h
/-! ### soft_term_rounded: function 142 -/
noncomputable def soft_term_rounded.b0 (c43 : Bool→Λ→Int→Bool→Ω (Int × Int)) (c138 : Bool→Int→Ω (Int)) (c139 : Bool→Λ→Λ→Int→Int→Ω (Int)) (a0 : Bool) (l1 : Λ) (a2 : Int) : Ω (Int × Int) := (if (ln l1) = 0 then ((c138 a0 0).bind fun t1 => some (t1, 0)) else ((c43 a0 l1 a2 false).bind fun t2 => ((c139 a0 l1 [1] a2 t2.1).bind fun t3 => some (t2.1, t3))))
noncomputable def soft_term_rounded.f (n : Nat) (a0 : Bool) (l1 : Λ) (a2 : Int) : Ω (Int × Int) := soft_term_rounded.b0 (ieee_Round.f n) soft_withSign.f (soft_fraction_flags.f n) a0 l1 a2
noncomputable def soft_term_rounded.sg : Sig (Int × Int) := s2 (sInt .u64) (s1 (sInt .i64))
noncomputable def soft_term_rounded.code : Code := (Tryd.f142.body).getD .skip
noncomputable def soft_term_rounded.cfg (c43 : Bool→Λ→Int→Bool→Ω (Int × Int)) (c138 : Bool→Int→Ω (Int)) (c139 : Bool→Λ→Λ→Int→Int→Ω (Int)) : Cfg (Int × Int) := { T := tys, call := orCall 43 (ieee_Round.call c43) (orCall 138 (soft_withSign.call c138) (orCall 139 (soft_fraction_flags.call c139) (noCall))) }
noncomputable def soft_term_rounded.cuts : List (Nat × List (Nat × Want)) := []
theorem soft_term_rounded.e0 (c43 : Bool→Λ→Int→Bool→Ω (Int × Int)) (c138 : Bool→Int→Ω (Int)) (c139 : Bool→Λ→Λ→Int→Int→Ω (Int)) (n : Nat) (J : Nat→(ASt→Ω (Int × Int))→ASt→Ω (Int × Int)) (a0 : Bool) (l1 : Λ) (a2 : Int) : afun (soft_term_rounded.cfg c43 c138 c139) J soft_term_rounded.cuts n soft_term_rounded.code Tryd.f142.results.toList [false, false] [.agg [.bool a0, .ro .u64 l1, .int .i64 a2]] soft_term_rounded.sg.out = soft_term_rounded.b0 c43 c138 c139 a0 l1 a2 := by kernel_rfl
theorem soft_term_rounded.eq (n : Nat) (a0 : Bool) (l1 : Λ) (a2 : Int) : afun (soft_term_rounded.cfg (ieee_Round.f n) soft_withSign.f (soft_fraction_flags.f n)) idJ soft_term_rounded.cuts n soft_term_rounded.code Tryd.f142.results.toList [false, false] [.agg [.bool a0, .ro .u64 l1, .int .i64 a2]] soft_term_rounded.sg.out = soft_term_rounded.f n a0 l1 a2 := (soft_term_rounded.e0 (ieee_Round.f n) soft_withSign.f (soft_fraction_flags.f n) n idJ a0 l1 a2).trans (rfl)
theorem soft_term_rounded.ok {n : Nat} {a0 : Bool} {l1 : Λ} {a2 : Int} {r : Int × Int} (h : soft_term_rounded.f n a0 l1 a2 = some r) : CallD Tryd.prog HW 142 [.agg [.bool a0, .ro .u64 l1, .int .i64 a2]] (soft_term_rounded.sg.enc r) :=
  fun_some hwS Tryd.func142 (by kernel_rfl) (body := soft_term_rounded.code) (by kernel_rfl) tys_ok (c := soft_term_rounded.cfg (ieee_Round.f n) soft_withSign.f (soft_fraction_flags.f n)) (orCall_ok (ieee_Round.call_ok (n := n)) (orCall_ok (soft_withSign.call_ok (n := n)) (orCall_ok (soft_fraction_flags.call_ok (n := n)) noCall_ok))) noW_ok (by kernel_rfl) (by kernel_rfl) (Nat.le_of_ble_eq_true (by kernel_rfl)) ((soft_term_rounded.eq n a0 l1 a2).trans h)
noncomputable def soft_term_rounded.call {α : Type} (g : Bool→Λ→Int→Ω (Int × Int)) (ds : List D) (K : List D→Ω α) : Ω α := match ds with
  | [.agg [.bool a0, .ro .u64 l1, .int .i64 a2]] => (g a0 l1 a2).bind fun r => K (soft_term_rounded.sg.enc r)
  | _ => none
theorem soft_term_rounded.call_ok {α : Type} {n : Nat} (ds : List D) (K : List D→Ω α) (r : α) (h : soft_term_rounded.call (soft_term_rounded.f n) ds K = some r) : ∃ rs, K rs = some r ∧ CallD Tryd.prog HW 142 ds rs := by
  unfold soft_term_rounded.call at h
  split at h
  · obtain ⟨x, hx, hk⟩ := Option.bind_eq_some_iff.1 h
    exact ⟨_, hk, soft_term_rounded.ok (n := n) hx⟩
  · cases h
/-! ### soft_fma: function 65 -/
noncomputable def soft_fma.b0 (c73 : Int→Ω (Bool × Int × Int × Int)) (c137 : Ω (Int × Int)) (c138 : Bool→Int→Ω (Int)) (c140 : Bool→Int→Int→Int→Ω (Bool × Λ × Int)) (c141 : Bool→Λ→Int→Bool→Λ→Int→Ω (Bool × Λ × Int)) (c142 : Bool→Λ→Int→Ω (Int × Int)) (c143 : Bool→Int→Int→Int→Bool→Int→Int→Int→Ω (Bool × Λ × Int)) (k15 : Int→Bool→Bool→Int→Int→Int→Bool→Int→Int→Int→Bool→Int→Int→Int→Ω (Int × Int)) (a0 : Int) (a1 : Int) (a2 : Int) : Ω (Int × Int) := ((c73 a0).bind fun t1 => ((c73 a1).bind fun t2 => ((c73 a2).bind fun t3 => (if t1.2.1 = 3 then k15 a2 true t1.1 t1.2.1 t1.2.2.1 t1.2.2.2 t2.1 t2.2.1 t2.2.2.1 t2.2.2.2 t3.1 t3.2.1 t3.2.2.1 t3.2.2.2 else k15 a2 (decide (t2.2.1 = 3)) t1.1 t1.2.1 t1.2.2.1 t1.2.2.2 t2.1 t2.2.1 t2.2.2.1 t2.2.2.2 t3.1 t3.2.1 t3.2.2.1 t3.2.2.2))))
noncomputable def soft_fma.b15 (c73 : Int→Ω (Bool × Int × Int × Int)) (c137 : Ω (Int × Int)) (c138 : Bool→Int→Ω (Int)) (c140 : Bool→Int→Int→Int→Ω (Bool × Λ × Int)) (c141 : Bool→Λ→Int→Bool→Λ→Int→Ω (Bool × Λ × Int)) (c142 : Bool→Λ→Int→Ω (Int × Int)) (c143 : Bool→Int→Int→Int→Bool→Int→Int→Int→Ω (Bool × Λ × Int)) (k3999 : Int→Bool→Bool→Bool→Bool→Int→Int→Int→Bool→Int→Int→Int→Bool→Int→Int→Int→Ω (Int × Int)) (x0 : Int) (x1 : Bool) (x2 : Bool) (x3 : Int) (x4 : Int) (x5 : Int) (x6 : Bool) (x7 : Int) (x8 : Int) (x9 : Int) (x10 : Bool) (x11 : Int) (x12 : Int) (x13 : Int) : Ω (Int × Int) := (if x3 = 4 then some (9221120237041090560, 0) else (if x7 = 4 then some (9221120237041090560, 0) else (if x11 = 4 then some (9221120237041090560, 0) else (if x1 = true then (if x3 = 0 then ((c137).bind fun t1 => some (t1.1, t1.2)) else (if x7 = 0 then ((c137).bind fun t2 => some (t2.1, t2.2)) else (if x1 = true then (if x11 = 3 then k3999 x0 x1 (x2 != x6) (x10 != (x2 != x6)) x2 x3 x4 x5 x6 x7 x8 x9 x10 x11 x12 x13 else k3999 x0 x1 (x2 != x6) false x2 x3 x4 x5 x6 x7 x8 x9 x10 x11 x12 x13) else k3999 x0 x1 (x2 != x6) false x2 x3 x4 x5 x6 x7 x8 x9 x10 x11 x12 x13))) else (if x1 = true then (if x11 = 3 then k3999 x0 x1 (x2 != x6) (x10 != (x2 != x6)) x2 x3 x4 x5 x6 x7 x8 x9 x10 x11 x12 x13 else k3999 x0 x1 (x2 != x6) false x2 x3 x4 x5 x6 x7 x8 x9 x10 x11 x12 x13) else k3999 x0 x1 (x2 != x6) false x2 x3 x4 x5 x6 x7 x8 x9 x10 x11 x12 x13)))))
noncomputable def soft_fma.b3999 (c73 : Int→Ω (Bool × Int × Int × Int)) (c137 : Ω (Int × Int)) (c138 : Bool→Int→Ω (Int)) (c140 : Bool→Int→Int→Int→Ω (Bool × Λ × Int)) (c141 : Bool→Λ→Int→Bool→Λ→Int→Ω (Bool × Λ × Int)) (c142 : Bool→Λ→Int→Ω (Int × Int)) (c143 : Bool→Int→Int→Int→Bool→Int→Int→Int→Ω (Bool × Λ × Int)) (x0 : Int) (x1 : Bool) (x2 : Bool) (x3 : Bool) (x4 : Bool) (x5 : Int) (x6 : Int) (x7 : Int) (x8 : Bool) (x9 : Int) (x10 : Int) (x11 : Int) (x12 : Bool) (x13 : Int) (x14 : Int) (x15 : Int) : Ω (Int × Int) := (if x3 = true then ((c137).bind fun t1 => some (t1.1, t1.2)) else (if x1 = true then ((c138 x2 9218868437227405312).bind fun t2 => some (t2, 0)) else (if x13 = 3 then some (x0, 0) else ((c143 x4 x5 x6 x7 x8 x9 x10 x11).bind fun t3 => ((c140 x12 x13 x14 x15).bind fun t4 => ((c141 t3.1 t3.2.1 t3.2.2 t4.1 t4.2.1 t4.2.2).bind fun t5 => ((c142 t5.1 t5.2.1 t5.2.2).bind fun t6 => some (t6.1, t6.2))))))))
noncomputable def soft_fma.l3999 (n : Nat) (x0 : Int) (x1 : Bool) (x2 : Bool) (x3 : Bool) (x4 : Bool) (x5 : Int) (x6 : Int) (x7 : Int) (x8 : Bool) (x9 : Int) (x10 : Int) (x11 : Int) (x12 : Bool) (x13 : Int) (x14 : Int) (x15 : Int) : Ω (Int × Int) := soft_fma.b3999 ieee_Decode.f soft_invalid.f soft_withSign.f soft_termOf.f (soft_term_plus.f n) (soft_term_rounded.f n) (soft_product.f n) x0 x1 x2 x3 x4 x5 x6 x7 x8 x9 x10 x11 x12 x13 x14 x15
noncomputable def soft_fma.l15 (n : Nat) (x0 : Int) (x1 : Bool) (x2 : Bool) (x3 : Int) (x4 : Int) (x5 : Int) (x6 : Bool) (x7 : Int) (x8 : Int) (x9 : Int) (x10 : Bool) (x11 : Int) (x12 : Int) (x13 : Int) : Ω (Int × Int) := soft_fma.b15 ieee_Decode.f soft_invalid.f soft_withSign.f soft_termOf.f (soft_term_plus.f n) (soft_term_rounded.f n) (soft_product.f n) (soft_fma.l3999 n) x0 x1 x2 x3 x4 x5 x6 x7 x8 x9 x10 x11 x12 x13
noncomputable def soft_fma.f (n : Nat) (a0 : Int) (a1 : Int) (a2 : Int) : Ω (Int × Int) := soft_fma.b0 ieee_Decode.f soft_invalid.f soft_withSign.f soft_termOf.f (soft_term_plus.f n) (soft_term_rounded.f n) (soft_product.f n) (soft_fma.l15 n) a0 a1 a2
noncomputable def soft_fma.sg : Sig (Int × Int) := s2 (sInt .u64) (s1 (sInt .i64))
noncomputable def soft_fma.code : Code := (Tryd.f65.body).getD .skip
noncomputable def soft_fma.cfg (c73 : Int→Ω (Bool × Int × Int × Int)) (c137 : Ω (Int × Int)) (c138 : Bool→Int→Ω (Int)) (c140 : Bool→Int→Int→Int→Ω (Bool × Λ × Int)) (c141 : Bool→Λ→Int→Bool→Λ→Int→Ω (Bool × Λ × Int)) (c142 : Bool→Λ→Int→Ω (Int × Int)) (c143 : Bool→Int→Int→Int→Bool→Int→Int→Int→Ω (Bool × Λ × Int)) : Cfg (Int × Int) := { T := tys, call := orCall 73 (ieee_Decode.call c73) (orCall 137 (soft_invalid.call c137) (orCall 138 (soft_withSign.call c138) (orCall 140 (soft_termOf.call c140) (orCall 141 (soft_term_plus.call c141) (orCall 142 (soft_term_rounded.call c142) (orCall 143 (soft_product.call c143) (noCall))))))) }
noncomputable def soft_fma.cuts : List (Nat × List (Nat × Want)) := [(15, [(2, .keep), (8, .keep), (9, .keep), (10, .keep), (11, .keep)]), (3999, [(2, .keep), (8, .keep), (9, .keep), (10, .keep), (11, .keep), (12, .keep), (61, .keep)])]
noncomputable def soft_fma.s15 (x0 : Int) (x1 : Bool) (x2 : Bool) (x3 : Int) (x4 : Int) (x5 : Int) (x6 : Bool) (x7 : Int) (x8 : Int) (x9 : Int) (x10 : Bool) (x11 : Int) (x12 : Int) (x13 : Int) : ASt := ⟨[(2, .int .u64 x0), (8, .ptr 0 0), (9, .ptr 1 0), (10, .ptr 2 0), (11, .bool x1)], [.cells 42 [.bool x2, .int .i64 x3, .int .u64 x4, .int .i64 x5], .cells 42 [.bool x6, .int .i64 x7, .int .u64 x8, .int .i64 x9], .cells 42 [.bool x10, .int .i64 x11, .int .u64 x12, .int .i64 x13]]⟩
noncomputable def soft_fma.s3999 (x0 : Int) (x1 : Bool) (x2 : Bool) (x3 : Bool) (x4 : Bool) (x5 : Int) (x6 : Int) (x7 : Int) (x8 : Bool) (x9 : Int) (x10 : Int) (x11 : Int) (x12 : Bool) (x13 : Int) (x14 : Int) (x15 : Int) : ASt := ⟨[(2, .int .u64 x0), (8, .ptr 0 0), (9, .ptr 1 0), (10, .ptr 2 0), (11, .bool x1), (12, .bool x2), (61, .bool x3)], [.cells 42 [.bool x4, .int .i64 x5, .int .u64 x6, .int .i64 x7], .cells 42 [.bool x8, .int .i64 x9, .int .u64 x10, .int .i64 x11], .cells 42 [.bool x12, .int .i64 x13, .int .u64 x14, .int .i64 x15]]⟩
noncomputable def soft_fma.A (c73 : Int→Ω (Bool × Int × Int × Int)) (c137 : Ω (Int × Int)) (c138 : Bool→Int→Ω (Int)) (c140 : Bool→Int→Int→Int→Ω (Bool × Λ × Int)) (c141 : Bool→Λ→Int→Bool→Λ→Int→Ω (Bool × Λ × Int)) (c142 : Bool→Λ→Int→Ω (Int × Int)) (c143 : Bool→Int→Int→Int→Bool→Int→Int→Int→Ω (Bool × Λ × Int)) (n : Nat) (J : Nat→(ASt→Ω (Int × Int))→ASt→Ω (Int × Int)) (q : Nat) (ms : List Nat) : ASt→Ω (Int × Int) := acont (soft_fma.cfg c73 c137 c138 c140 c141 c142 c143) J soft_fma.cuts n q soft_fma.code 1 ms (aend (soft_fma.cfg c73 c137 c138 c140 c141 c142 c143) Tryd.f65.results.toList [false, false] soft_fma.sg.out)
theorem soft_fma.e0 (c73 : Int→Ω (Bool × Int × Int × Int)) (c137 : Ω (Int × Int)) (c138 : Bool→Int→Ω (Int)) (c140 : Bool→Int→Int→Int→Ω (Bool × Λ × Int)) (c141 : Bool→Λ→Int→Bool→Λ→Int→Ω (Bool × Λ × Int)) (c142 : Bool→Λ→Int→Ω (Int × Int)) (c143 : Bool→Int→Int→Int→Bool→Int→Int→Int→Ω (Bool × Λ × Int)) (n : Nat) (J : Nat→(ASt→Ω (Int × Int))→ASt→Ω (Int × Int)) (a0 : Int) (a1 : Int) (a2 : Int) : afun (soft_fma.cfg c73 c137 c138 c140 c141 c142 c143) J soft_fma.cuts n soft_fma.code Tryd.f65.results.toList [false, false] [.int .u64 a0, .int .u64 a1, .int .u64 a2] soft_fma.sg.out = soft_fma.b0 c73 c137 c138 c140 c141 c142 c143 (fun y0 y1 y2 y3 y4 y5 y6 y7 y8 y9 y10 y11 y12 y13 => J 15 (soft_fma.A c73 c137 c138 c140 c141 c142 c143 n J 15 []) (soft_fma.s15 y0 y1 y2 y3 y4 y5 y6 y7 y8 y9 y10 y11 y12 y13)) a0 a1 a2 := by kernel_rfl
theorem soft_fma.e15 (c73 : Int→Ω (Bool × Int × Int × Int)) (c137 : Ω (Int × Int)) (c138 : Bool→Int→Ω (Int)) (c140 : Bool→Int→Int→Int→Ω (Bool × Λ × Int)) (c141 : Bool→Λ→Int→Bool→Λ→Int→Ω (Bool × Λ × Int)) (c142 : Bool→Λ→Int→Ω (Int × Int)) (c143 : Bool→Int→Int→Int→Bool→Int→Int→Int→Ω (Bool × Λ × Int)) (n : Nat) (J : Nat→(ASt→Ω (Int × Int))→ASt→Ω (Int × Int)) (x0 : Int) (x1 : Bool) (x2 : Bool) (x3 : Int) (x4 : Int) (x5 : Int) (x6 : Bool) (x7 : Int) (x8 : Int) (x9 : Int) (x10 : Bool) (x11 : Int) (x12 : Int) (x13 : Int) : soft_fma.A c73 c137 c138 c140 c141 c142 c143 n J 15 [] (soft_fma.s15 x0 x1 x2 x3 x4 x5 x6 x7 x8 x9 x10 x11 x12 x13) = soft_fma.b15 c73 c137 c138 c140 c141 c142 c143 (fun y0 y1 y2 y3 y4 y5 y6 y7 y8 y9 y10 y11 y12 y13 y14 y15 => J 3999 (soft_fma.A c73 c137 c138 c140 c141 c142 c143 n J 3999 []) (soft_fma.s3999 y0 y1 y2 y3 y4 y5 y6 y7 y8 y9 y10 y11 y12 y13 y14 y15)) x0 x1 x2 x3 x4 x5 x6 x7 x8 x9 x10 x11 x12 x13 := by kernel_rfl
theorem soft_fma.e3999 (c73 : Int→Ω (Bool × Int × Int × Int)) (c137 : Ω (Int × Int)) (c138 : Bool→Int→Ω (Int)) (c140 : Bool→Int→Int→Int→Ω (Bool × Λ × Int)) (c141 : Bool→Λ→Int→Bool→Λ→Int→Ω (Bool × Λ × Int)) (c142 : Bool→Λ→Int→Ω (Int × Int)) (c143 : Bool→Int→Int→Int→Bool→Int→Int→Int→Ω (Bool × Λ × Int)) (n : Nat) (J : Nat→(ASt→Ω (Int × Int))→ASt→Ω (Int × Int)) (x0 : Int) (x1 : Bool) (x2 : Bool) (x3 : Bool) (x4 : Bool) (x5 : Int) (x6 : Int) (x7 : Int) (x8 : Bool) (x9 : Int) (x10 : Int) (x11 : Int) (x12 : Bool) (x13 : Int) (x14 : Int) (x15 : Int) : soft_fma.A c73 c137 c138 c140 c141 c142 c143 n J 3999 [] (soft_fma.s3999 x0 x1 x2 x3 x4 x5 x6 x7 x8 x9 x10 x11 x12 x13 x14 x15) = soft_fma.b3999 c73 c137 c138 c140 c141 c142 c143 x0 x1 x2 x3 x4 x5 x6 x7 x8 x9 x10 x11 x12 x13 x14 x15 := by kernel_rfl
theorem soft_fma.q3999 (n : Nat) (x0 : Int) (x1 : Bool) (x2 : Bool) (x3 : Bool) (x4 : Bool) (x5 : Int) (x6 : Int) (x7 : Int) (x8 : Bool) (x9 : Int) (x10 : Int) (x11 : Int) (x12 : Bool) (x13 : Int) (x14 : Int) (x15 : Int) : soft_fma.A ieee_Decode.f soft_invalid.f soft_withSign.f soft_termOf.f (soft_term_plus.f n) (soft_term_rounded.f n) (soft_product.f n) n idJ 3999 [] (soft_fma.s3999 x0 x1 x2 x3 x4 x5 x6 x7 x8 x9 x10 x11 x12 x13 x14 x15) = soft_fma.l3999 n x0 x1 x2 x3 x4 x5 x6 x7 x8 x9 x10 x11 x12 x13 x14 x15 := (soft_fma.e3999 ieee_Decode.f soft_invalid.f soft_withSign.f soft_termOf.f (soft_term_plus.f n) (soft_term_rounded.f n) (soft_product.f n) n idJ x0 x1 x2 x3 x4 x5 x6 x7 x8 x9 x10 x11 x12 x13 x14 x15).trans (rfl)
theorem soft_fma.q15 (n : Nat) (x0 : Int) (x1 : Bool) (x2 : Bool) (x3 : Int) (x4 : Int) (x5 : Int) (x6 : Bool) (x7 : Int) (x8 : Int) (x9 : Int) (x10 : Bool) (x11 : Int) (x12 : Int) (x13 : Int) : soft_fma.A ieee_Decode.f soft_invalid.f soft_withSign.f soft_termOf.f (soft_term_plus.f n) (soft_term_rounded.f n) (soft_product.f n) n idJ 15 [] (soft_fma.s15 x0 x1 x2 x3 x4 x5 x6 x7 x8 x9 x10 x11 x12 x13) = soft_fma.l15 n x0 x1 x2 x3 x4 x5 x6 x7 x8 x9 x10 x11 x12 x13 := (soft_fma.e15 ieee_Decode.f soft_invalid.f soft_withSign.f soft_termOf.f (soft_term_plus.f n) (soft_term_rounded.f n) (soft_product.f n) n idJ x0 x1 x2 x3 x4 x5 x6 x7 x8 x9 x10 x11 x12 x13).trans (congrFun (congrFun (congrFun (congrFun (congrFun (congrFun (congrFun (congrFun (congrFun (congrFun (congrFun (congrFun (congrFun (congrFun (congrArg (soft_fma.b15 ieee_Decode.f soft_invalid.f soft_withSign.f soft_termOf.f (soft_term_plus.f n) (soft_term_rounded.f n) (soft_product.f n)) (funext fun y0 => (funext fun y1 => (funext fun y2 => (funext fun y3 => (funext fun y4 => (funext fun y5 => (funext fun y6 => (funext fun y7 => (funext fun y8 => (funext fun y9 => (funext fun y10 => (funext fun y11 => (funext fun y12 => (funext fun y13 => (funext fun y14 => (funext fun y15 => soft_fma.q3999 n y0 y1 y2 y3 y4 y5 y6 y7 y8 y9 y10 y11 y12 y13 y14 y15))))))))))))))))) x0) x1) x2) x3) x4) x5) x6) x7) x8) x9) x10) x11) x12) x13)
theorem soft_fma.eq (n : Nat) (a0 : Int) (a1 : Int) (a2 : Int) : afun (soft_fma.cfg ieee_Decode.f soft_invalid.f soft_withSign.f soft_termOf.f (soft_term_plus.f n) (soft_term_rounded.f n) (soft_product.f n)) idJ soft_fma.cuts n soft_fma.code Tryd.f65.results.toList [false, false] [.int .u64 a0, .int .u64 a1, .int .u64 a2] soft_fma.sg.out = soft_fma.f n a0 a1 a2 := (soft_fma.e0 ieee_Decode.f soft_invalid.f soft_withSign.f soft_termOf.f (soft_term_plus.f n) (soft_term_rounded.f n) (soft_product.f n) n idJ a0 a1 a2).trans (congrFun (congrFun (congrFun (congrArg (soft_fma.b0 ieee_Decode.f soft_invalid.f soft_withSign.f soft_termOf.f (soft_term_plus.f n) (soft_term_rounded.f n) (soft_product.f n)) (funext fun y0 => (funext fun y1 => (funext fun y2 => (funext fun y3 => (funext fun y4 => (funext fun y5 => (funext fun y6 => (funext fun y7 => (funext fun y8 => (funext fun y9 => (funext fun y10 => (funext fun y11 => (funext fun y12 => (funext fun y13 => soft_fma.q15 n y0 y1 y2 y3 y4 y5 y6 y7 y8 y9 y10 y11 y12 y13))))))))))))))) a0) a1) a2)
theorem soft_fma.ok {n : Nat} {a0 : Int} {a1 : Int} {a2 : Int} {r : Int × Int} (h : soft_fma.f n a0 a1 a2 = some r) : CallD Tryd.prog HW 65 [.int .u64 a0, .int .u64 a1, .int .u64 a2] (soft_fma.sg.enc r) :=
  fun_some hwS Tryd.func65 (by kernel_rfl) (body := soft_fma.code) (by kernel_rfl) tys_ok (c := soft_fma.cfg ieee_Decode.f soft_invalid.f soft_withSign.f soft_termOf.f (soft_term_plus.f n) (soft_term_rounded.f n) (soft_product.f n)) (orCall_ok (ieee_Decode.call_ok (n := n)) (orCall_ok (soft_invalid.call_ok (n := n)) (orCall_ok (soft_withSign.call_ok (n := n)) (orCall_ok (soft_termOf.call_ok (n := n)) (orCall_ok (soft_term_plus.call_ok (n := n)) (orCall_ok (soft_term_rounded.call_ok (n := n)) (orCall_ok (soft_product.call_ok (n := n)) noCall_ok))))))) noW_ok (by kernel_rfl) (by kernel_rfl) (Nat.le_of_ble_eq_true (by kernel_rfl)) ((soft_fma.eq n a0 a1 a2).trans h)
noncomputable def soft_fma.call {α : Type} (g : Int→Int→Int→Ω (Int × Int)) (ds : List D) (K : List D→Ω α) : Ω α := match ds with
  | [.int .u64 a0, .int .u64 a1, .int .u64 a2] => (g a0 a1 a2).bind fun r => K (soft_fma.sg.enc r)
  | _ => none
theorem soft_fma.call_ok {α : Type} {n : Nat} (ds : List D) (K : List D→Ω α) (r : α) (h : soft_fma.call (soft_fma.f n) ds K = some r) : ∃ rs, K rs = some r ∧ CallD Tryd.prog HW 65 ds rs := by
  unfold soft_fma.call at h
  split at h
  · obtain ⟨x, hx, hk⟩ := Option.bind_eq_some_iff.1 h
    exact ⟨_, hk, soft_fma.ok (n := n) hx⟩
  · cases h
/-! ### soft_Fma: function 23 -/
noncomputable def soft_Fma.b0 (c65 : Int→Int→Int→Ω (Int × Int)) (a0 : Int) (a1 : Int) (a2 : Int) : Ω (Int) := ((c65 a0 a1 a2).bind fun t1 => some t1.1)
noncomputable def soft_Fma.f (n : Nat) (a0 : Int) (a1 : Int) (a2 : Int) : Ω (Int) := soft_Fma.b0 (soft_fma.f n) a0 a1 a2
noncomputable def soft_Fma.sg : Sig (Int) := s1 (sInt .u64)
noncomputable def soft_Fma.code : Code := (Tryd.f23.body).getD .skip
noncomputable def soft_Fma.cfg (c65 : Int→Int→Int→Ω (Int × Int)) : Cfg (Int) := { T := tys, call := orCall 65 (soft_fma.call c65) (noCall) }
noncomputable def soft_Fma.cuts : List (Nat × List (Nat × Want)) := []
theorem soft_Fma.e0 (c65 : Int→Int→Int→Ω (Int × Int)) (n : Nat) (J : Nat→(ASt→Ω (Int))→ASt→Ω (Int)) (a0 : Int) (a1 : Int) (a2 : Int) : afun (soft_Fma.cfg c65) J soft_Fma.cuts n soft_Fma.code Tryd.f23.results.toList [false] [.int .u64 a0, .int .u64 a1, .int .u64 a2] soft_Fma.sg.out = soft_Fma.b0 c65 a0 a1 a2 := by kernel_rfl
theorem soft_Fma.eq (n : Nat) (a0 : Int) (a1 : Int) (a2 : Int) : afun (soft_Fma.cfg (soft_fma.f n)) idJ soft_Fma.cuts n soft_Fma.code Tryd.f23.results.toList [false] [.int .u64 a0, .int .u64 a1, .int .u64 a2] soft_Fma.sg.out = soft_Fma.f n a0 a1 a2 := (soft_Fma.e0 (soft_fma.f n) n idJ a0 a1 a2).trans (rfl)
theorem soft_Fma.ok {n : Nat} {a0 : Int} {a1 : Int} {a2 : Int} {r : Int} (h : soft_Fma.f n a0 a1 a2 = some r) : CallD Tryd.prog HW 23 [.int .u64 a0, .int .u64 a1, .int .u64 a2] (soft_Fma.sg.enc r) :=
  fun_some hwS Tryd.func23 (by kernel_rfl) (body := soft_Fma.code) (by kernel_rfl) tys_ok (c := soft_Fma.cfg (soft_fma.f n)) (orCall_ok (soft_fma.call_ok (n := n)) noCall_ok) noW_ok (by kernel_rfl) (by kernel_rfl) (Nat.le_of_ble_eq_true (by kernel_rfl)) ((soft_Fma.eq n a0 a1 a2).trans h)
noncomputable def soft_Fma.call {α : Type} (g : Int→Int→Int→Ω (Int)) (ds : List D) (K : List D→Ω α) : Ω α := match ds with
  | [.int .u64 a0, .int .u64 a1, .int .u64 a2] => (g a0 a1 a2).bind fun r => K (soft_Fma.sg.enc r)
  | _ => none
theorem soft_Fma.call_ok {α : Type} {n : Nat} (ds : List D) (K : List D→Ω α) (r : α) (h : soft_Fma.call (soft_Fma.f n) ds K = some r) : ∃ rs, K rs = some r ∧ CallD Tryd.prog HW 23 ds rs := by
  unfold soft_Fma.call at h
  split at h
  · obtain ⟨x, hx, hk⟩ := Option.bind_eq_some_iff.1 h
    exact ⟨_, hk, soft_Fma.ok (n := n) hx⟩
  · cases h
/-! ### nat_Trim: function 117 -/
noncomputable def nat_Trim.b0 (c133 : Λ→Ω (Int)) (l0 : Λ) : Ω (Λ) := ((c133 l0).bind fun t1 => (if 0 ≤ t1 then (if t1.toNat ≤ 35184372088832 then (if 0 ≤ t1 then (if t1 ≤ (ln l0) then ((some (l0.take t1.toNat) : Ω (Λ)).bind fun y2 => (if y2.length = (List.replicate t1.toNat (0 : Int)).length then some y2 else none)) else none) else none) else none) else none))
noncomputable def nat_Trim.f (n : Nat) (l0 : Λ) : Ω (Λ) := nat_Trim.b0 (nat_size.f n) l0
noncomputable def nat_Trim.sg : Sig (Λ) := s1 (sRow .u64)
noncomputable def nat_Trim.code : Code := (Tryd.f117.body).getD .skip
noncomputable def nat_Trim.cfg (c133 : Λ→Ω (Int)) : Cfg (Λ) := { T := tys, call := orCall 133 (nat_size.call c133) (noCall) }
noncomputable def nat_Trim.cuts : List (Nat × List (Nat × Want)) := []
theorem nat_Trim.e0 (c133 : Λ→Ω (Int)) (n : Nat) (J : Nat→(ASt→Ω (Λ))→ASt→Ω (Λ)) (l0 : Λ) : afun (nat_Trim.cfg c133) J nat_Trim.cuts n nat_Trim.code Tryd.f117.results.toList [false] [.ro .u64 l0] nat_Trim.sg.out = nat_Trim.b0 c133 l0 := by kernel_rfl
theorem nat_Trim.eq (n : Nat) (l0 : Λ) : afun (nat_Trim.cfg (nat_size.f n)) idJ nat_Trim.cuts n nat_Trim.code Tryd.f117.results.toList [false] [.ro .u64 l0] nat_Trim.sg.out = nat_Trim.f n l0 := (nat_Trim.e0 (nat_size.f n) n idJ l0).trans (rfl)
theorem nat_Trim.ok {n : Nat} {l0 : Λ} {r : Λ} (h : nat_Trim.f n l0 = some r) : CallD Tryd.prog HW 117 [.ro .u64 l0] (nat_Trim.sg.enc r) :=
  fun_some hwS Tryd.func117 (by kernel_rfl) (body := nat_Trim.code) (by kernel_rfl) tys_ok (c := nat_Trim.cfg (nat_size.f n)) (orCall_ok (nat_size.call_ok (n := n)) noCall_ok) noW_ok (by kernel_rfl) (by kernel_rfl) (Nat.le_of_ble_eq_true (by kernel_rfl)) ((nat_Trim.eq n l0).trans h)
noncomputable def nat_Trim.call {α : Type} (g : Λ→Ω (Λ)) (ds : List D) (K : List D→Ω α) : Ω α := match ds with
  | [.ro .u64 l0] => (g l0).bind fun r => K (nat_Trim.sg.enc r)
  | _ => none
theorem nat_Trim.call_ok {α : Type} {n : Nat} (ds : List D) (K : List D→Ω α) (r : α) (h : nat_Trim.call (nat_Trim.f n) ds K = some r) : ∃ rs, K rs = some r ∧ CallD Tryd.prog HW 117 ds rs := by
  unfold nat_Trim.call at h
  split at h
  · obtain ⟨x, hx, hk⟩ := Option.bind_eq_some_iff.1 h
    exact ⟨_, hk, nat_Trim.ok (n := n) hx⟩
  · cases h
/-! ### quot_small: function 157 -/
noncomputable def quot_small.b0 (c117 : Λ→Ω (Λ)) (l0 : Λ) (a1 : Int) : Ω (Λ × Bool) := ((c117 l0).bind fun t1 => some (t1, decide ((ln t1) ≤ a1)))
noncomputable def quot_small.f (n : Nat) (l0 : Λ) (a1 : Int) : Ω (Λ × Bool) := quot_small.b0 (nat_Trim.f n) l0 a1
noncomputable def quot_small.sg : Sig (Λ × Bool) := s2 (sRow .u64) (s1 (sBool))
noncomputable def quot_small.code : Code := (Tryd.f157.body).getD .skip
noncomputable def quot_small.cfg (c117 : Λ→Ω (Λ)) : Cfg (Λ × Bool) := { T := tys, call := orCall 117 (nat_Trim.call c117) (noCall) }
noncomputable def quot_small.cuts : List (Nat × List (Nat × Want)) := []
theorem quot_small.e0 (c117 : Λ→Ω (Λ)) (n : Nat) (J : Nat→(ASt→Ω (Λ × Bool))→ASt→Ω (Λ × Bool)) (l0 : Λ) (a1 : Int) : afun (quot_small.cfg c117) J quot_small.cuts n quot_small.code Tryd.f157.results.toList [false, false] [.ro .u64 l0, .int .i64 a1] quot_small.sg.out = quot_small.b0 c117 l0 a1 := by kernel_rfl
theorem quot_small.eq (n : Nat) (l0 : Λ) (a1 : Int) : afun (quot_small.cfg (nat_Trim.f n)) idJ quot_small.cuts n quot_small.code Tryd.f157.results.toList [false, false] [.ro .u64 l0, .int .i64 a1] quot_small.sg.out = quot_small.f n l0 a1 := (quot_small.e0 (nat_Trim.f n) n idJ l0 a1).trans (rfl)
theorem quot_small.ok {n : Nat} {l0 : Λ} {a1 : Int} {r : Λ × Bool} (h : quot_small.f n l0 a1 = some r) : CallD Tryd.prog HW 157 [.ro .u64 l0, .int .i64 a1] (quot_small.sg.enc r) :=
  fun_some hwS Tryd.func157 (by kernel_rfl) (body := quot_small.code) (by kernel_rfl) tys_ok (c := quot_small.cfg (nat_Trim.f n)) (orCall_ok (nat_Trim.call_ok (n := n)) noCall_ok) noW_ok (by kernel_rfl) (by kernel_rfl) (Nat.le_of_ble_eq_true (by kernel_rfl)) ((quot_small.eq n l0 a1).trans h)
noncomputable def quot_small.call {α : Type} (g : Λ→Int→Ω (Λ × Bool)) (ds : List D) (K : List D→Ω α) : Ω α := match ds with
  | [.ro .u64 l0, .int .i64 a1] => (g l0 a1).bind fun r => K (quot_small.sg.enc r)
  | _ => none
theorem quot_small.call_ok {α : Type} {n : Nat} (ds : List D) (K : List D→Ω α) (r : α) (h : quot_small.call (quot_small.f n) ds K = some r) : ∃ rs, K rs = some r ∧ CallD Tryd.prog HW 157 ds rs := by
  unfold quot_small.call at h
  split at h
  · obtain ⟨x, hx, hk⟩ := Option.bind_eq_some_iff.1 h
    exact ⟨_, hk, quot_small.ok (n := n) hx⟩
  · cases h
/-! ### bits_LeadingZeros64: function 176 -/
noncomputable def bits_LeadingZeros64.b0 (c134 : Int→Ω (Int)) (a0 : Int) : Ω (Int) := ((c134 a0).bind fun t1 => some (wrap64 (64 - t1)))
noncomputable def bits_LeadingZeros64.f (a0 : Int) : Ω (Int) := bits_LeadingZeros64.b0 bits_Len64.f a0
noncomputable def bits_LeadingZeros64.sg : Sig (Int) := s1 (sInt .i64)
noncomputable def bits_LeadingZeros64.code : Code := (Tryd.f176.body).getD .skip
noncomputable def bits_LeadingZeros64.cfg (c134 : Int→Ω (Int)) : Cfg (Int) := { T := tys, call := orCall 134 (bits_Len64.call c134) (noCall) }
noncomputable def bits_LeadingZeros64.cuts : List (Nat × List (Nat × Want)) := []
theorem bits_LeadingZeros64.e0 (c134 : Int→Ω (Int)) (n : Nat) (J : Nat→(ASt→Ω (Int))→ASt→Ω (Int)) (a0 : Int) : afun (bits_LeadingZeros64.cfg c134) J bits_LeadingZeros64.cuts n bits_LeadingZeros64.code Tryd.f176.results.toList [false] [.int .u64 a0] bits_LeadingZeros64.sg.out = bits_LeadingZeros64.b0 c134 a0 := by kernel_rfl
theorem bits_LeadingZeros64.eq (n : Nat) (a0 : Int) : afun (bits_LeadingZeros64.cfg bits_Len64.f) idJ bits_LeadingZeros64.cuts n bits_LeadingZeros64.code Tryd.f176.results.toList [false] [.int .u64 a0] bits_LeadingZeros64.sg.out = bits_LeadingZeros64.f a0 := (bits_LeadingZeros64.e0 bits_Len64.f n idJ a0).trans (rfl)
theorem bits_LeadingZeros64.ok {n : Nat} {a0 : Int} {r : Int} (h : bits_LeadingZeros64.f a0 = some r) : CallD Tryd.prog HW 176 [.int .u64 a0] (bits_LeadingZeros64.sg.enc r) :=
  fun_some hwS Tryd.func176 (by kernel_rfl) (body := bits_LeadingZeros64.code) (by kernel_rfl) tys_ok (c := bits_LeadingZeros64.cfg bits_Len64.f) (orCall_ok (bits_Len64.call_ok (n := n)) noCall_ok) noW_ok (by kernel_rfl) (by kernel_rfl) (Nat.le_of_ble_eq_true (by kernel_rfl)) ((bits_LeadingZeros64.eq n a0).trans h)
noncomputable def bits_LeadingZeros64.call {α : Type} (g : Int→Ω (Int)) (ds : List D) (K : List D→Ω α) : Ω α := match ds with
  | [.int .u64 a0] => (g a0).bind fun r => K (bits_LeadingZeros64.sg.enc r)
  | _ => none
theorem bits_LeadingZeros64.call_ok {α : Type} {n : Nat} (ds : List D) (K : List D→Ω α) (r : α) (h : bits_LeadingZeros64.call bits_LeadingZeros64.f ds K = some r) : ∃ rs, K rs = some r ∧ CallD Tryd.prog HW 176 ds rs := by
  unfold bits_LeadingZeros64.call at h
  split at h
  · obtain ⟨x, hx, hk⟩ := Option.bind_eq_some_iff.1 h
    exact ⟨_, hk, bits_LeadingZeros64.ok (n := n) hx⟩
  · cases h
/-! ### bits_Div64: function 171 -/
noncomputable def bits_Div64.b0 (c176 : Int→Ω (Int)) (k262137 : Int→Int→Int→Int→Int→Int→Int→Int→Int→Ω (Int × Int)) (a0 : Int) (a1 : Int) (a2 : Int) : Ω (Int × Int) := (if a2 = 0 then none else (if a2 ≤ a0 then none else (if a0 = 0 then (if a2 = 0 then none else (if a2 = 0 then none else some (IntKind.u64.wrap (Int.tdiv a1 a2), Int.tmod a1 a2))) else ((c176 a2).bind fun t1 => (if 0 ≤ (IntKind.u64.wrap t1) then (if 0 ≤ (IntKind.u64.wrap t1) then (if 0 ≤ (IntKind.u64.wrap (64 - (IntKind.u64.wrap t1))) then (if 0 ≤ (IntKind.u64.wrap t1) then (if ((shl .u64 a2 (IntKind.u64.wrap t1)) / 4294967296) = 0 then none else k262137 (shl .u64 a2 (IntKind.u64.wrap t1)) (IntKind.u64.wrap t1) ((shl .u64 a2 (IntKind.u64.wrap t1)) / 4294967296) (Go.bits .and .u64 (shl .u64 a2 (IntKind.u64.wrap t1)) 4294967295) (Go.bits .or .u64 (shl .u64 a0 (IntKind.u64.wrap t1)) (shr .u64 a1 (IntKind.u64.wrap (64 - (IntKind.u64.wrap t1))))) ((shl .u64 a1 (IntKind.u64.wrap t1)) / 4294967296) (Go.bits .and .u64 (shl .u64 a1 (IntKind.u64.wrap t1)) 4294967295) (IntKind.u64.wrap (Int.tdiv (Go.bits .or .u64 (shl .u64 a0 (IntKind.u64.wrap t1)) (shr .u64 a1 (IntKind.u64.wrap (64 - (IntKind.u64.wrap t1))))) ((shl .u64 a2 (IntKind.u64.wrap t1)) / 4294967296))) (IntKind.u64.wrap ((Go.bits .or .u64 (shl .u64 a0 (IntKind.u64.wrap t1)) (shr .u64 a1 (IntKind.u64.wrap (64 - (IntKind.u64.wrap t1))))) - (IntKind.u64.wrap ((IntKind.u64.wrap (Int.tdiv (Go.bits .or .u64 (shl .u64 a0 (IntKind.u64.wrap t1)) (shr .u64 a1 (IntKind.u64.wrap (64 - (IntKind.u64.wrap t1))))) ((shl .u64 a2 (IntKind.u64.wrap t1)) / 4294967296))) * ((shl .u64 a2 (IntKind.u64.wrap t1)) / 4294967296)))))) else none) else none) else none) else none)))))
noncomputable def bits_Div64.b65535 (c176 : Int→Ω (Int)) (k4194297 : Int→Int→Int→Int→Int→Int→Int→Int→Int→Ω (Int × Int)) (x0 : Int) (x1 : Int) (x2 : Int) (x3 : Int) (x4 : Int) (x5 : Int) (x6 : Int) (x7 : Int) : Ω (Int × Int) := (if x2 = 0 then none else k4194297 x0 x1 x2 x3 x6 x7 (IntKind.u64.wrap ((IntKind.u64.wrap ((IntKind.u64.wrap ((IntKind.u64.wrap (x4 * 4294967296)) + x5)) - (IntKind.u64.wrap (x7 * x0)))) - (IntKind.u64.wrap ((IntKind.u64.wrap (Int.tdiv (IntKind.u64.wrap ((IntKind.u64.wrap ((IntKind.u64.wrap (x4 * 4294967296)) + x5)) - (IntKind.u64.wrap (x7 * x0)))) x2)) * x2)))) (IntKind.u64.wrap ((IntKind.u64.wrap ((IntKind.u64.wrap (x4 * 4294967296)) + x5)) - (IntKind.u64.wrap (x7 * x0)))) (IntKind.u64.wrap (Int.tdiv (IntKind.u64.wrap ((IntKind.u64.wrap ((IntKind.u64.wrap (x4 * 4294967296)) + x5)) - (IntKind.u64.wrap (x7 * x0)))) x2)))
noncomputable def bits_Div64.b262137 (c176 : Int→Ω (Int)) (k65535 : Int→Int→Int→Int→Int→Int→Int→Int→Ω (Int × Int)) (k524273 : Int→Int→Int→Int→Int→Int→Int→Int→Int→Ω (Int × Int)) (x0 : Int) (x1 : Int) (x2 : Int) (x3 : Int) (x4 : Int) (x5 : Int) (x6 : Int) (x7 : Int) (x8 : Int) : Ω (Int × Int) := (if x7 ≥ 4294967296 then k524273 x0 x1 x2 x3 x4 x5 x6 x7 x8 else (if (IntKind.u64.wrap (x7 * x3)) > (IntKind.u64.wrap ((IntKind.u64.wrap (4294967296 * x8)) + x5)) then k524273 x0 x1 x2 x3 x4 x5 x6 x7 x8 else k65535 x0 x1 x2 x3 x4 x5 x6 x7))
noncomputable def bits_Div64.b524273 (c176 : Int→Ω (Int)) (k65535 : Int→Int→Int→Int→Int→Int→Int→Int→Ω (Int × Int)) (k262137 : Int→Int→Int→Int→Int→Int→Int→Int→Int→Ω (Int × Int)) (x0 : Int) (x1 : Int) (x2 : Int) (x3 : Int) (x4 : Int) (x5 : Int) (x6 : Int) (x7 : Int) (x8 : Int) : Ω (Int × Int) := (if (IntKind.u64.wrap (x8 + x2)) ≥ 4294967296 then k65535 x0 x1 x2 x3 x4 x5 x6 (IntKind.u64.wrap (x7 - 1)) else k262137 x0 x1 x2 x3 x4 x5 x6 (IntKind.u64.wrap (x7 - 1)) (IntKind.u64.wrap (x8 + x2)))
noncomputable def bits_Div64.b1048575 (c176 : Int→Ω (Int)) (x0 : Int) (x1 : Int) (x2 : Int) (x3 : Int) (x4 : Int) (x5 : Int) : Ω (Int × Int) := (if 0 ≤ x1 then some (IntKind.u64.wrap ((IntKind.u64.wrap (x3 * 4294967296)) + x5), shr .u64 (IntKind.u64.wrap ((IntKind.u64.wrap ((IntKind.u64.wrap (x4 * 4294967296)) + x2)) - (IntKind.u64.wrap (x5 * x0)))) x1) else none)
noncomputable def bits_Div64.b4194297 (c176 : Int→Ω (Int)) (k1048575 : Int→Int→Int→Int→Int→Int→Ω (Int × Int)) (k8388593 : Int→Int→Int→Int→Int→Int→Int→Int→Int→Ω (Int × Int)) (x0 : Int) (x1 : Int) (x2 : Int) (x3 : Int) (x4 : Int) (x5 : Int) (x6 : Int) (x7 : Int) (x8 : Int) : Ω (Int × Int) := (if x8 ≥ 4294967296 then k8388593 x0 x1 x2 x3 x4 x5 x6 x7 x8 else (if (IntKind.u64.wrap (x8 * x3)) > (IntKind.u64.wrap ((IntKind.u64.wrap (4294967296 * x6)) + x4)) then k8388593 x0 x1 x2 x3 x4 x5 x6 x7 x8 else k1048575 x0 x1 x4 x5 x7 x8))
noncomputable def bits_Div64.b8388593 (c176 : Int→Ω (Int)) (k1048575 : Int→Int→Int→Int→Int→Int→Ω (Int × Int)) (k4194297 : Int→Int→Int→Int→Int→Int→Int→Int→Int→Ω (Int × Int)) (x0 : Int) (x1 : Int) (x2 : Int) (x3 : Int) (x4 : Int) (x5 : Int) (x6 : Int) (x7 : Int) (x8 : Int) : Ω (Int × Int) := (if (IntKind.u64.wrap (x6 + x2)) ≥ 4294967296 then k1048575 x0 x1 x4 x5 x7 (IntKind.u64.wrap (x8 - 1)) else k4194297 x0 x1 x2 x3 x4 x5 (IntKind.u64.wrap (x6 + x2)) x7 (IntKind.u64.wrap (x8 - 1)))
noncomputable def bits_Div64.l1048575 (n : Nat) (x0 : Int) (x1 : Int) (x2 : Int) (x3 : Int) (x4 : Int) (x5 : Int) : Ω (Int × Int) := bits_Div64.b1048575 bits_LeadingZeros64.f x0 x1 x2 x3 x4 x5
noncomputable def bits_Div64.l8388593 (n : Nat) (k4194297 : Int→Int→Int→Int→Int→Int→Int→Int→Int→Ω (Int × Int)) (x0 : Int) (x1 : Int) (x2 : Int) (x3 : Int) (x4 : Int) (x5 : Int) (x6 : Int) (x7 : Int) (x8 : Int) : Ω (Int × Int) := bits_Div64.b8388593 bits_LeadingZeros64.f (bits_Div64.l1048575 n) k4194297 x0 x1 x2 x3 x4 x5 x6 x7 x8
noncomputable def bits_Div64.l4194297 (n : Nat) : Nat→Int→Int→Int→Int→Int→Int→Int→Int→Int→Ω (Int × Int)
  | 0, _, _, _, _, _, _, _, _, _ => none
  | m + 1, x0, x1, x2, x3, x4, x5, x6, x7, x8 => bits_Div64.b4194297 bits_LeadingZeros64.f (bits_Div64.l1048575 n) (bits_Div64.l8388593 n (bits_Div64.l4194297 n m)) x0 x1 x2 x3 x4 x5 x6 x7 x8
noncomputable def bits_Div64.l65535 (n : Nat) (x0 : Int) (x1 : Int) (x2 : Int) (x3 : Int) (x4 : Int) (x5 : Int) (x6 : Int) (x7 : Int) : Ω (Int × Int) := bits_Div64.b65535 bits_LeadingZeros64.f (bits_Div64.l4194297 n n) x0 x1 x2 x3 x4 x5 x6 x7
noncomputable def bits_Div64.l524273 (n : Nat) (k262137 : Int→Int→Int→Int→Int→Int→Int→Int→Int→Ω (Int × Int)) (x0 : Int) (x1 : Int) (x2 : Int) (x3 : Int) (x4 : Int) (x5 : Int) (x6 : Int) (x7 : Int) (x8 : Int) : Ω (Int × Int) := bits_Div64.b524273 bits_LeadingZeros64.f (bits_Div64.l65535 n) k262137 x0 x1 x2 x3 x4 x5 x6 x7 x8
noncomputable def bits_Div64.l262137 (n : Nat) : Nat→Int→Int→Int→Int→Int→Int→Int→Int→Int→Ω (Int × Int)
  | 0, _, _, _, _, _, _, _, _, _ => none
  | m + 1, x0, x1, x2, x3, x4, x5, x6, x7, x8 => bits_Div64.b262137 bits_LeadingZeros64.f (bits_Div64.l65535 n) (bits_Div64.l524273 n (bits_Div64.l262137 n m)) x0 x1 x2 x3 x4 x5 x6 x7 x8
noncomputable def bits_Div64.f (n : Nat) (a0 : Int) (a1 : Int) (a2 : Int) : Ω (Int × Int) := bits_Div64.b0 bits_LeadingZeros64.f (bits_Div64.l262137 n n) a0 a1 a2
noncomputable def bits_Div64.sg : Sig (Int × Int) := s2 (sInt .u64) (s1 (sInt .u64))
noncomputable def bits_Div64.code : Code := (Tryd.f171.body).getD .skip
noncomputable def bits_Div64.cfg (c176 : Int→Ω (Int)) : Cfg (Int × Int) := { T := tys, call := orCall 176 (bits_LeadingZeros64.call c176) (noCall) }
noncomputable def bits_Div64.cuts : List (Nat × List (Nat × Want)) := [(65535, [(2, .keep), (8, .keep), (9, .keep), (10, .keep), (11, .keep), (13, .keep), (14, .keep), (15, .keep)]), (262137, [(2, .keep), (8, .keep), (9, .keep), (10, .keep), (11, .keep), (13, .keep), (14, .keep), (15, .keep), (16, .keep)]), (524273, [(2, .keep), (8, .keep), (9, .keep), (10, .keep), (11, .keep), (13, .keep), (14, .keep), (15, .keep), (16, .keep)]), (1048575, [(2, .keep), (8, .keep), (14, .keep), (15, .keep), (17, .keep), (18, .keep)]), (4194297, [(2, .keep), (8, .keep), (9, .keep), (10, .keep), (14, .keep), (15, .keep), (16, .keep), (17, .keep), (18, .keep)]), (8388593, [(2, .keep), (8, .keep), (9, .keep), (10, .keep), (14, .keep), (15, .keep), (16, .keep), (17, .keep), (18, .keep)])]
noncomputable def bits_Div64.s65535 (x0 : Int) (x1 : Int) (x2 : Int) (x3 : Int) (x4 : Int) (x5 : Int) (x6 : Int) (x7 : Int) : ASt := ⟨[(2, .int .u64 x0), (8, .int .u64 x1), (9, .int .u64 x2), (10, .int .u64 x3), (11, .int .u64 x4), (13, .int .u64 x5), (14, .int .u64 x6), (15, .int .u64 x7)], []⟩
noncomputable def bits_Div64.s262137 (x0 : Int) (x1 : Int) (x2 : Int) (x3 : Int) (x4 : Int) (x5 : Int) (x6 : Int) (x7 : Int) (x8 : Int) : ASt := ⟨[(2, .int .u64 x0), (8, .int .u64 x1), (9, .int .u64 x2), (10, .int .u64 x3), (11, .int .u64 x4), (13, .int .u64 x5), (14, .int .u64 x6), (15, .int .u64 x7), (16, .int .u64 x8)], []⟩
noncomputable def bits_Div64.s524273 (x0 : Int) (x1 : Int) (x2 : Int) (x3 : Int) (x4 : Int) (x5 : Int) (x6 : Int) (x7 : Int) (x8 : Int) : ASt := ⟨[(2, .int .u64 x0), (8, .int .u64 x1), (9, .int .u64 x2), (10, .int .u64 x3), (11, .int .u64 x4), (13, .int .u64 x5), (14, .int .u64 x6), (15, .int .u64 x7), (16, .int .u64 x8)], []⟩
noncomputable def bits_Div64.s1048575 (x0 : Int) (x1 : Int) (x2 : Int) (x3 : Int) (x4 : Int) (x5 : Int) : ASt := ⟨[(2, .int .u64 x0), (8, .int .u64 x1), (14, .int .u64 x2), (15, .int .u64 x3), (17, .int .u64 x4), (18, .int .u64 x5)], []⟩
noncomputable def bits_Div64.s4194297 (x0 : Int) (x1 : Int) (x2 : Int) (x3 : Int) (x4 : Int) (x5 : Int) (x6 : Int) (x7 : Int) (x8 : Int) : ASt := ⟨[(2, .int .u64 x0), (8, .int .u64 x1), (9, .int .u64 x2), (10, .int .u64 x3), (14, .int .u64 x4), (15, .int .u64 x5), (16, .int .u64 x6), (17, .int .u64 x7), (18, .int .u64 x8)], []⟩
noncomputable def bits_Div64.s8388593 (x0 : Int) (x1 : Int) (x2 : Int) (x3 : Int) (x4 : Int) (x5 : Int) (x6 : Int) (x7 : Int) (x8 : Int) : ASt := ⟨[(2, .int .u64 x0), (8, .int .u64 x1), (9, .int .u64 x2), (10, .int .u64 x3), (14, .int .u64 x4), (15, .int .u64 x5), (16, .int .u64 x6), (17, .int .u64 x7), (18, .int .u64 x8)], []⟩
noncomputable def bits_Div64.A (c176 : Int→Ω (Int)) (n : Nat) (J : Nat→(ASt→Ω (Int × Int))→ASt→Ω (Int × Int)) (q : Nat) (ms : List Nat) : ASt→Ω (Int × Int) := acont (bits_Div64.cfg c176) J bits_Div64.cuts n q bits_Div64.code 1 ms (aend (bits_Div64.cfg c176) Tryd.f171.results.toList [false, false] bits_Div64.sg.out)
theorem bits_Div64.e0 (c176 : Int→Ω (Int)) (n : Nat) (J : Nat→(ASt→Ω (Int × Int))→ASt→Ω (Int × Int)) (a0 : Int) (a1 : Int) (a2 : Int) : afun (bits_Div64.cfg c176) J bits_Div64.cuts n bits_Div64.code Tryd.f171.results.toList [false, false] [.int .u64 a0, .int .u64 a1, .int .u64 a2] bits_Div64.sg.out = bits_Div64.b0 c176 (fun y0 y1 y2 y3 y4 y5 y6 y7 y8 => J 262137 (bits_Div64.A c176 n J 262137 [n]) (bits_Div64.s262137 y0 y1 y2 y3 y4 y5 y6 y7 y8)) a0 a1 a2 := by kernel_rfl
theorem bits_Div64.e65535 (c176 : Int→Ω (Int)) (n : Nat) (J : Nat→(ASt→Ω (Int × Int))→ASt→Ω (Int × Int)) (x0 : Int) (x1 : Int) (x2 : Int) (x3 : Int) (x4 : Int) (x5 : Int) (x6 : Int) (x7 : Int) : bits_Div64.A c176 n J 65535 [] (bits_Div64.s65535 x0 x1 x2 x3 x4 x5 x6 x7) = bits_Div64.b65535 c176 (fun y0 y1 y2 y3 y4 y5 y6 y7 y8 => J 4194297 (bits_Div64.A c176 n J 4194297 [n]) (bits_Div64.s4194297 y0 y1 y2 y3 y4 y5 y6 y7 y8)) x0 x1 x2 x3 x4 x5 x6 x7 := by kernel_rfl
theorem bits_Div64.e262137 (c176 : Int→Ω (Int)) (n : Nat) (J : Nat→(ASt→Ω (Int × Int))→ASt→Ω (Int × Int)) (m : Nat) (x0 : Int) (x1 : Int) (x2 : Int) (x3 : Int) (x4 : Int) (x5 : Int) (x6 : Int) (x7 : Int) (x8 : Int) : bits_Div64.A c176 n J 262137 [m + 1] (bits_Div64.s262137 x0 x1 x2 x3 x4 x5 x6 x7 x8) = bits_Div64.b262137 c176 (fun y0 y1 y2 y3 y4 y5 y6 y7 => J 65535 (bits_Div64.A c176 n J 65535 []) (bits_Div64.s65535 y0 y1 y2 y3 y4 y5 y6 y7)) (fun y0 y1 y2 y3 y4 y5 y6 y7 y8 => J 524273 (bits_Div64.A c176 n J 524273 [m]) (bits_Div64.s524273 y0 y1 y2 y3 y4 y5 y6 y7 y8)) x0 x1 x2 x3 x4 x5 x6 x7 x8 := by kernel_rfl
theorem bits_Div64.e524273 (c176 : Int→Ω (Int)) (n : Nat) (J : Nat→(ASt→Ω (Int × Int))→ASt→Ω (Int × Int)) (m262137 : Nat) (x0 : Int) (x1 : Int) (x2 : Int) (x3 : Int) (x4 : Int) (x5 : Int) (x6 : Int) (x7 : Int) (x8 : Int) : bits_Div64.A c176 n J 524273 [m262137] (bits_Div64.s524273 x0 x1 x2 x3 x4 x5 x6 x7 x8) = bits_Div64.b524273 c176 (fun y0 y1 y2 y3 y4 y5 y6 y7 => J 65535 (bits_Div64.A c176 n J 65535 []) (bits_Div64.s65535 y0 y1 y2 y3 y4 y5 y6 y7)) (fun y0 y1 y2 y3 y4 y5 y6 y7 y8 => J 262137 (bits_Div64.A c176 n J 262137 [m262137]) (bits_Div64.s262137 y0 y1 y2 y3 y4 y5 y6 y7 y8)) x0 x1 x2 x3 x4 x5 x6 x7 x8 := by kernel_rfl
theorem bits_Div64.e1048575 (c176 : Int→Ω (Int)) (n : Nat) (J : Nat→(ASt→Ω (Int × Int))→ASt→Ω (Int × Int)) (x0 : Int) (x1 : Int) (x2 : Int) (x3 : Int) (x4 : Int) (x5 : Int) : bits_Div64.A c176 n J 1048575 [] (bits_Div64.s1048575 x0 x1 x2 x3 x4 x5) = bits_Div64.b1048575 c176 x0 x1 x2 x3 x4 x5 := by kernel_rfl
theorem bits_Div64.e4194297 (c176 : Int→Ω (Int)) (n : Nat) (J : Nat→(ASt→Ω (Int × Int))→ASt→Ω (Int × Int)) (m : Nat) (x0 : Int) (x1 : Int) (x2 : Int) (x3 : Int) (x4 : Int) (x5 : Int) (x6 : Int) (x7 : Int) (x8 : Int) : bits_Div64.A c176 n J 4194297 [m + 1] (bits_Div64.s4194297 x0 x1 x2 x3 x4 x5 x6 x7 x8) = bits_Div64.b4194297 c176 (fun y0 y1 y2 y3 y4 y5 => J 1048575 (bits_Div64.A c176 n J 1048575 []) (bits_Div64.s1048575 y0 y1 y2 y3 y4 y5)) (fun y0 y1 y2 y3 y4 y5 y6 y7 y8 => J 8388593 (bits_Div64.A c176 n J 8388593 [m]) (bits_Div64.s8388593 y0 y1 y2 y3 y4 y5 y6 y7 y8)) x0 x1 x2 x3 x4 x5 x6 x7 x8 := by kernel_rfl
theorem bits_Div64.e8388593 (c176 : Int→Ω (Int)) (n : Nat) (J : Nat→(ASt→Ω (Int × Int))→ASt→Ω (Int × Int)) (m4194297 : Nat) (x0 : Int) (x1 : Int) (x2 : Int) (x3 : Int) (x4 : Int) (x5 : Int) (x6 : Int) (x7 : Int) (x8 : Int) : bits_Div64.A c176 n J 8388593 [m4194297] (bits_Div64.s8388593 x0 x1 x2 x3 x4 x5 x6 x7 x8) = bits_Div64.b8388593 c176 (fun y0 y1 y2 y3 y4 y5 => J 1048575 (bits_Div64.A c176 n J 1048575 []) (bits_Div64.s1048575 y0 y1 y2 y3 y4 y5)) (fun y0 y1 y2 y3 y4 y5 y6 y7 y8 => J 4194297 (bits_Div64.A c176 n J 4194297 [m4194297]) (bits_Div64.s4194297 y0 y1 y2 y3 y4 y5 y6 y7 y8)) x0 x1 x2 x3 x4 x5 x6 x7 x8 := by kernel_rfl
theorem bits_Div64.q1048575 (n : Nat) (x0 : Int) (x1 : Int) (x2 : Int) (x3 : Int) (x4 : Int) (x5 : Int) : bits_Div64.A bits_LeadingZeros64.f n idJ 1048575 [] (bits_Div64.s1048575 x0 x1 x2 x3 x4 x5) = bits_Div64.l1048575 n x0 x1 x2 x3 x4 x5 := (bits_Div64.e1048575 bits_LeadingZeros64.f n idJ x0 x1 x2 x3 x4 x5).trans (rfl)
theorem bits_Div64.q8388593 (n : Nat) (m4194297 : Nat) (x0 : Int) (x1 : Int) (x2 : Int) (x3 : Int) (x4 : Int) (x5 : Int) (x6 : Int) (x7 : Int) (x8 : Int) : bits_Div64.A bits_LeadingZeros64.f n idJ 8388593 [m4194297] (bits_Div64.s8388593 x0 x1 x2 x3 x4 x5 x6 x7 x8) = bits_Div64.l8388593 n (fun y0 y1 y2 y3 y4 y5 y6 y7 y8 => bits_Div64.A bits_LeadingZeros64.f n idJ 4194297 [m4194297] (bits_Div64.s4194297 y0 y1 y2 y3 y4 y5 y6 y7 y8)) x0 x1 x2 x3 x4 x5 x6 x7 x8 := (bits_Div64.e8388593 bits_LeadingZeros64.f n idJ m4194297 x0 x1 x2 x3 x4 x5 x6 x7 x8).trans (congrFun (congrFun (congrFun (congrFun (congrFun (congrFun (congrFun (congrFun (congrFun (congr (congrArg (bits_Div64.b8388593 bits_LeadingZeros64.f) (funext fun y0 => (funext fun y1 => (funext fun y2 => (funext fun y3 => (funext fun y4 => (funext fun y5 => bits_Div64.q1048575 n y0 y1 y2 y3 y4 y5))))))) rfl) x0) x1) x2) x3) x4) x5) x6) x7) x8)
theorem bits_Div64.q4194297 (n : Nat) (m : Nat) : ∀ (x0 : Int) (x1 : Int) (x2 : Int) (x3 : Int) (x4 : Int) (x5 : Int) (x6 : Int) (x7 : Int) (x8 : Int), bits_Div64.A bits_LeadingZeros64.f n idJ 4194297 [m] (bits_Div64.s4194297 x0 x1 x2 x3 x4 x5 x6 x7 x8) = bits_Div64.l4194297 n m x0 x1 x2 x3 x4 x5 x6 x7 x8 := by
  induction m with
  | zero => intros; rfl
  | succ m ih =>
    intro x0 x1 x2 x3 x4 x5 x6 x7 x8
    refine (bits_Div64.e4194297 bits_LeadingZeros64.f n idJ m x0 x1 x2 x3 x4 x5 x6 x7 x8).trans ?_
    exact congrFun (congrFun (congrFun (congrFun (congrFun (congrFun (congrFun (congrFun (congrFun (congr (congrArg (bits_Div64.b4194297 bits_LeadingZeros64.f) (funext fun y0 => (funext fun y1 => (funext fun y2 => (funext fun y3 => (funext fun y4 => (funext fun y5 => bits_Div64.q1048575 n y0 y1 y2 y3 y4 y5))))))) ((funext fun y0 => (funext fun y1 => (funext fun y2 => (funext fun y3 => (funext fun y4 => (funext fun y5 => (funext fun y6 => (funext fun y7 => (funext fun y8 => bits_Div64.q8388593 n m y0 y1 y2 y3 y4 y5 y6 y7 y8))))))))).trans (by rw [show (fun y0 y1 y2 y3 y4 y5 y6 y7 y8 => bits_Div64.A bits_LeadingZeros64.f n idJ 4194297 [m] (bits_Div64.s4194297 y0 y1 y2 y3 y4 y5 y6 y7 y8)) = _ from (funext fun y0 => (funext fun y1 => (funext fun y2 => (funext fun y3 => (funext fun y4 => (funext fun y5 => (funext fun y6 => (funext fun y7 => (funext fun y8 => ih y0 y1 y2 y3 y4 y5 y6 y7 y8)))))))))]))) x0) x1) x2) x3) x4) x5) x6) x7) x8
theorem bits_Div64.q65535 (n : Nat) (x0 : Int) (x1 : Int) (x2 : Int) (x3 : Int) (x4 : Int) (x5 : Int) (x6 : Int) (x7 : Int) : bits_Div64.A bits_LeadingZeros64.f n idJ 65535 [] (bits_Div64.s65535 x0 x1 x2 x3 x4 x5 x6 x7) = bits_Div64.l65535 n x0 x1 x2 x3 x4 x5 x6 x7 := (bits_Div64.e65535 bits_LeadingZeros64.f n idJ x0 x1 x2 x3 x4 x5 x6 x7).trans (congrFun (congrFun (congrFun (congrFun (congrFun (congrFun (congrFun (congrFun (congrArg (bits_Div64.b65535 bits_LeadingZeros64.f) (funext fun y0 => (funext fun y1 => (funext fun y2 => (funext fun y3 => (funext fun y4 => (funext fun y5 => (funext fun y6 => (funext fun y7 => (funext fun y8 => bits_Div64.q4194297 n n y0 y1 y2 y3 y4 y5 y6 y7 y8)))))))))) x0) x1) x2) x3) x4) x5) x6) x7)
theorem bits_Div64.q524273 (n : Nat) (m262137 : Nat) (x0 : Int) (x1 : Int) (x2 : Int) (x3 : Int) (x4 : Int) (x5 : Int) (x6 : Int) (x7 : Int) (x8 : Int) : bits_Div64.A bits_LeadingZeros64.f n idJ 524273 [m262137] (bits_Div64.s524273 x0 x1 x2 x3 x4 x5 x6 x7 x8) = bits_Div64.l524273 n (fun y0 y1 y2 y3 y4 y5 y6 y7 y8 => bits_Div64.A bits_LeadingZeros64.f n idJ 262137 [m262137] (bits_Div64.s262137 y0 y1 y2 y3 y4 y5 y6 y7 y8)) x0 x1 x2 x3 x4 x5 x6 x7 x8 := (bits_Div64.e524273 bits_LeadingZeros64.f n idJ m262137 x0 x1 x2 x3 x4 x5 x6 x7 x8).trans (congrFun (congrFun (congrFun (congrFun (congrFun (congrFun (congrFun (congrFun (congrFun (congr (congrArg (bits_Div64.b524273 bits_LeadingZeros64.f) (funext fun y0 => (funext fun y1 => (funext fun y2 => (funext fun y3 => (funext fun y4 => (funext fun y5 => (funext fun y6 => (funext fun y7 => bits_Div64.q65535 n y0 y1 y2 y3 y4 y5 y6 y7))))))))) rfl) x0) x1) x2) x3) x4) x5) x6) x7) x8)
theorem bits_Div64.q262137 (n : Nat) (m : Nat) : ∀ (x0 : Int) (x1 : Int) (x2 : Int) (x3 : Int) (x4 : Int) (x5 : Int) (x6 : Int) (x7 : Int) (x8 : Int), bits_Div64.A bits_LeadingZeros64.f n idJ 262137 [m] (bits_Div64.s262137 x0 x1 x2 x3 x4 x5 x6 x7 x8) = bits_Div64.l262137 n m x0 x1 x2 x3 x4 x5 x6 x7 x8 := by
  induction m with
  | zero => intros; rfl
  | succ m ih =>
    intro x0 x1 x2 x3 x4 x5 x6 x7 x8
    refine (bits_Div64.e262137 bits_LeadingZeros64.f n idJ m x0 x1 x2 x3 x4 x5 x6 x7 x8).trans ?_
    exact congrFun (congrFun (congrFun (congrFun (congrFun (congrFun (congrFun (congrFun (congrFun (congr (congrArg (bits_Div64.b262137 bits_LeadingZeros64.f) (funext fun y0 => (funext fun y1 => (funext fun y2 => (funext fun y3 => (funext fun y4 => (funext fun y5 => (funext fun y6 => (funext fun y7 => bits_Div64.q65535 n y0 y1 y2 y3 y4 y5 y6 y7))))))))) ((funext fun y0 => (funext fun y1 => (funext fun y2 => (funext fun y3 => (funext fun y4 => (funext fun y5 => (funext fun y6 => (funext fun y7 => (funext fun y8 => bits_Div64.q524273 n m y0 y1 y2 y3 y4 y5 y6 y7 y8))))))))).trans (by rw [show (fun y0 y1 y2 y3 y4 y5 y6 y7 y8 => bits_Div64.A bits_LeadingZeros64.f n idJ 262137 [m] (bits_Div64.s262137 y0 y1 y2 y3 y4 y5 y6 y7 y8)) = _ from (funext fun y0 => (funext fun y1 => (funext fun y2 => (funext fun y3 => (funext fun y4 => (funext fun y5 => (funext fun y6 => (funext fun y7 => (funext fun y8 => ih y0 y1 y2 y3 y4 y5 y6 y7 y8)))))))))]))) x0) x1) x2) x3) x4) x5) x6) x7) x8
theorem bits_Div64.eq (n : Nat) (a0 : Int) (a1 : Int) (a2 : Int) : afun (bits_Div64.cfg bits_LeadingZeros64.f) idJ bits_Div64.cuts n bits_Div64.code Tryd.f171.results.toList [false, false] [.int .u64 a0, .int .u64 a1, .int .u64 a2] bits_Div64.sg.out = bits_Div64.f n a0 a1 a2 := (bits_Div64.e0 bits_LeadingZeros64.f n idJ a0 a1 a2).trans (congrFun (congrFun (congrFun (congrArg (bits_Div64.b0 bits_LeadingZeros64.f) (funext fun y0 => (funext fun y1 => (funext fun y2 => (funext fun y3 => (funext fun y4 => (funext fun y5 => (funext fun y6 => (funext fun y7 => (funext fun y8 => bits_Div64.q262137 n n y0 y1 y2 y3 y4 y5 y6 y7 y8)))))))))) a0) a1) a2)
theorem bits_Div64.ok {n : Nat} {a0 : Int} {a1 : Int} {a2 : Int} {r : Int × Int} (h : bits_Div64.f n a0 a1 a2 = some r) : CallD Tryd.prog HW 171 [.int .u64 a0, .int .u64 a1, .int .u64 a2] (bits_Div64.sg.enc r) :=
  fun_some hwS Tryd.func171 (by kernel_rfl) (body := bits_Div64.code) (by kernel_rfl) tys_ok (c := bits_Div64.cfg bits_LeadingZeros64.f) (orCall_ok (bits_LeadingZeros64.call_ok (n := n)) noCall_ok) noW_ok (by kernel_rfl) (by kernel_rfl) (Nat.le_of_ble_eq_true (by kernel_rfl)) ((bits_Div64.eq n a0 a1 a2).trans h)
noncomputable def bits_Div64.call {α : Type} (g : Int→Int→Int→Ω (Int × Int)) (ds : List D) (K : List D→Ω α) : Ω α := match ds with
  | [.int .u64 a0, .int .u64 a1, .int .u64 a2] => (g a0 a1 a2).bind fun r => K (bits_Div64.sg.enc r)
  | _ => none
theorem bits_Div64.call_ok {α : Type} {n : Nat} (ds : List D) (K : List D→Ω α) (r : α) (h : bits_Div64.call (bits_Div64.f n) ds K = some r) : ∃ rs, K rs = some r ∧ CallD Tryd.prog HW 171 ds rs := by
  unfold bits_Div64.call at h
  split at h
  · obtain ⟨x, hx, hk⟩ := Option.bind_eq_some_iff.1 h
    exact ⟨_, hk, bits_Div64.ok (n := n) hx⟩
  · cases h
/-! ### nat_DivSmall: function 124 -/
noncomputable def nat_DivSmall.b0 (c133 : Λ→Ω (Int)) (c166 : Λ→Ω (Bool)) (c168 : Λ→Ω (Λ × Int)) (c171 : Int→Int→Int→Ω (Int × Int)) (k2037 : Λ→Int→Int→Int→Λ→Ω (Λ × Int × Int)) (l0 : Λ) (a1 : Int) : Ω (Λ × Int × Int) := ((c166 l0).bind fun t1 => (if t1 = true then some (([] : Λ), 0, 2) else (if a1 = 0 then some (([] : Λ), 0, 4) else ((c133 l0).bind fun t2 => (if 0 ≤ t2 then (if t2 ≤ (ln l0) then ((some (l0.take t2.toNat) : Ω (Λ)).bind fun y3 => (if 0 ≤ (ln y3) then (if (ln y3).toNat ≤ 35184372088832 then k2037 y3 a1 0 (wrap64 ((ln y3) - 1)) (List.replicate (ln y3).toNat (0 : Int)) else none) else none)) else none) else none)))))
noncomputable def nat_DivSmall.b255 (c133 : Λ→Ω (Int)) (c166 : Λ→Ω (Bool)) (c168 : Λ→Ω (Λ × Int)) (c171 : Int→Int→Int→Ω (Int × Int)) (x0 : Int) (x1 : Λ) : Ω (Λ × Int × Int) := ((c168 x1).bind fun t1 => some (t1.1, x0, t1.2))
noncomputable def nat_DivSmall.b2037 (c133 : Λ→Ω (Int)) (c166 : Λ→Ω (Bool)) (c168 : Λ→Ω (Λ × Int)) (c171 : Int→Int→Int→Ω (Int × Int)) (k255 : Int→Λ→Ω (Λ × Int × Int)) (k2037 : Λ→Int→Int→Int→Λ→Ω (Λ × Int × Int)) (x0 : Λ) (x1 : Int) (x2 : Int) (x3 : Int) (x4 : Λ) : Ω (Λ × Int × Int) := (if x3 ≥ 0 then (if 0 ≤ x3 then (if x3 < (ln x0) then ((c171 x2 (rd x0 x3) x1).bind fun t1 => (if 0 ≤ x3 then (if x3 < (ln x4) then k2037 x0 x1 t1.2 (wrap64 (x3 - 1)) (x4.set (x3 : Int).toNat t1.1) else none) else none)) else none) else none) else k255 x2 x4)
noncomputable def nat_DivSmall.l255 (n : Nat) (x0 : Int) (x1 : Λ) : Ω (Λ × Int × Int) := nat_DivSmall.b255 (nat_size.f n) (nat_big.f n) (nat_cut.f n) (bits_Div64.f n) x0 x1
noncomputable def nat_DivSmall.l2037 (n : Nat) : Nat→Λ→Int→Int→Int→Λ→Ω (Λ × Int × Int)
  | 0, _, _, _, _, _ => none
  | m + 1, x0, x1, x2, x3, x4 => nat_DivSmall.b2037 (nat_size.f n) (nat_big.f n) (nat_cut.f n) (bits_Div64.f n) (nat_DivSmall.l255 n) (nat_DivSmall.l2037 n m) x0 x1 x2 x3 x4
noncomputable def nat_DivSmall.f (n : Nat) (l0 : Λ) (a1 : Int) : Ω (Λ × Int × Int) := nat_DivSmall.b0 (nat_size.f n) (nat_big.f n) (nat_cut.f n) (bits_Div64.f n) (nat_DivSmall.l2037 n n) l0 a1
noncomputable def nat_DivSmall.sg : Sig (Λ × Int × Int) := s2 (sRow .u64) (s2 (sInt .u64) (s1 (sInt .i64)))
noncomputable def nat_DivSmall.code : Code := (Tryd.f124.body).getD .skip
noncomputable def nat_DivSmall.cfg (c133 : Λ→Ω (Int)) (c166 : Λ→Ω (Bool)) (c168 : Λ→Ω (Λ × Int)) (c171 : Int→Int→Int→Ω (Int × Int)) : Cfg (Λ × Int × Int) := { T := tys, call := orCall 133 (nat_size.call c133) (orCall 166 (nat_big.call c166) (orCall 168 (nat_cut.call c168) (orCall 171 (bits_Div64.call c171) (noCall)))) }
noncomputable def nat_DivSmall.cuts : List (Nat × List (Nat × Want)) := [(255, [(7, .keep), (8, .keep)]), (2037, [(0, .keep), (1, .keep), (7, .keep), (8, .keep), (9, .keep)])]
noncomputable def nat_DivSmall.s255 (x0 : Int) (x1 : Λ) : ASt := ⟨[(7, .own 0), (8, .int .u64 x0)], [.ints 22 .u64 x1]⟩
noncomputable def nat_DivSmall.s2037 (x0 : Λ) (x1 : Int) (x2 : Int) (x3 : Int) (x4 : Λ) : ASt := ⟨[(0, .ro .u64 x0), (1, .int .u64 x1), (7, .own 0), (8, .int .u64 x2), (9, .int .i64 x3)], [.ints 22 .u64 x4]⟩
noncomputable def nat_DivSmall.A (c133 : Λ→Ω (Int)) (c166 : Λ→Ω (Bool)) (c168 : Λ→Ω (Λ × Int)) (c171 : Int→Int→Int→Ω (Int × Int)) (n : Nat) (J : Nat→(ASt→Ω (Λ × Int × Int))→ASt→Ω (Λ × Int × Int)) (q : Nat) (ms : List Nat) : ASt→Ω (Λ × Int × Int) := acont (nat_DivSmall.cfg c133 c166 c168 c171) J nat_DivSmall.cuts n q nat_DivSmall.code 1 ms (aend (nat_DivSmall.cfg c133 c166 c168 c171) Tryd.f124.results.toList [false, false, false] nat_DivSmall.sg.out)
theorem nat_DivSmall.e0 (c133 : Λ→Ω (Int)) (c166 : Λ→Ω (Bool)) (c168 : Λ→Ω (Λ × Int)) (c171 : Int→Int→Int→Ω (Int × Int)) (n : Nat) (J : Nat→(ASt→Ω (Λ × Int × Int))→ASt→Ω (Λ × Int × Int)) (l0 : Λ) (a1 : Int) : afun (nat_DivSmall.cfg c133 c166 c168 c171) J nat_DivSmall.cuts n nat_DivSmall.code Tryd.f124.results.toList [false, false, false] [.ro .u64 l0, .int .u64 a1] nat_DivSmall.sg.out = nat_DivSmall.b0 c133 c166 c168 c171 (fun y0 y1 y2 y3 y4 => J 2037 (nat_DivSmall.A c133 c166 c168 c171 n J 2037 [n]) (nat_DivSmall.s2037 y0 y1 y2 y3 y4)) l0 a1 := by kernel_rfl
theorem nat_DivSmall.e255 (c133 : Λ→Ω (Int)) (c166 : Λ→Ω (Bool)) (c168 : Λ→Ω (Λ × Int)) (c171 : Int→Int→Int→Ω (Int × Int)) (n : Nat) (J : Nat→(ASt→Ω (Λ × Int × Int))→ASt→Ω (Λ × Int × Int)) (x0 : Int) (x1 : Λ) : nat_DivSmall.A c133 c166 c168 c171 n J 255 [] (nat_DivSmall.s255 x0 x1) = nat_DivSmall.b255 c133 c166 c168 c171 x0 x1 := by kernel_rfl
theorem nat_DivSmall.e2037 (c133 : Λ→Ω (Int)) (c166 : Λ→Ω (Bool)) (c168 : Λ→Ω (Λ × Int)) (c171 : Int→Int→Int→Ω (Int × Int)) (n : Nat) (J : Nat→(ASt→Ω (Λ × Int × Int))→ASt→Ω (Λ × Int × Int)) (m : Nat) (x0 : Λ) (x1 : Int) (x2 : Int) (x3 : Int) (x4 : Λ) : nat_DivSmall.A c133 c166 c168 c171 n J 2037 [m + 1] (nat_DivSmall.s2037 x0 x1 x2 x3 x4) = nat_DivSmall.b2037 c133 c166 c168 c171 (fun y0 y1 => J 255 (nat_DivSmall.A c133 c166 c168 c171 n J 255 []) (nat_DivSmall.s255 y0 y1)) (fun y0 y1 y2 y3 y4 => J 2037 (nat_DivSmall.A c133 c166 c168 c171 n J 2037 [m]) (nat_DivSmall.s2037 y0 y1 y2 y3 y4)) x0 x1 x2 x3 x4 := by kernel_rfl
theorem nat_DivSmall.q255 (n : Nat) (x0 : Int) (x1 : Λ) : nat_DivSmall.A (nat_size.f n) (nat_big.f n) (nat_cut.f n) (bits_Div64.f n) n idJ 255 [] (nat_DivSmall.s255 x0 x1) = nat_DivSmall.l255 n x0 x1 := (nat_DivSmall.e255 (nat_size.f n) (nat_big.f n) (nat_cut.f n) (bits_Div64.f n) n idJ x0 x1).trans (rfl)
theorem nat_DivSmall.q2037 (n : Nat) (m : Nat) : ∀ (x0 : Λ) (x1 : Int) (x2 : Int) (x3 : Int) (x4 : Λ), nat_DivSmall.A (nat_size.f n) (nat_big.f n) (nat_cut.f n) (bits_Div64.f n) n idJ 2037 [m] (nat_DivSmall.s2037 x0 x1 x2 x3 x4) = nat_DivSmall.l2037 n m x0 x1 x2 x3 x4 := by
  induction m with
  | zero => intros; rfl
  | succ m ih =>
    intro x0 x1 x2 x3 x4
    refine (nat_DivSmall.e2037 (nat_size.f n) (nat_big.f n) (nat_cut.f n) (bits_Div64.f n) n idJ m x0 x1 x2 x3 x4).trans ?_
    exact congrFun (congrFun (congrFun (congrFun (congrFun (congr (congrArg (nat_DivSmall.b2037 (nat_size.f n) (nat_big.f n) (nat_cut.f n) (bits_Div64.f n)) (funext fun y0 => (funext fun y1 => nat_DivSmall.q255 n y0 y1))) (funext fun y0 => (funext fun y1 => (funext fun y2 => (funext fun y3 => (funext fun y4 => ih y0 y1 y2 y3 y4)))))) x0) x1) x2) x3) x4
theorem nat_DivSmall.eq (n : Nat) (l0 : Λ) (a1 : Int) : afun (nat_DivSmall.cfg (nat_size.f n) (nat_big.f n) (nat_cut.f n) (bits_Div64.f n)) idJ nat_DivSmall.cuts n nat_DivSmall.code Tryd.f124.results.toList [false, false, false] [.ro .u64 l0, .int .u64 a1] nat_DivSmall.sg.out = nat_DivSmall.f n l0 a1 := (nat_DivSmall.e0 (nat_size.f n) (nat_big.f n) (nat_cut.f n) (bits_Div64.f n) n idJ l0 a1).trans (congrFun (congrFun (congrArg (nat_DivSmall.b0 (nat_size.f n) (nat_big.f n) (nat_cut.f n) (bits_Div64.f n)) (funext fun y0 => (funext fun y1 => (funext fun y2 => (funext fun y3 => (funext fun y4 => nat_DivSmall.q2037 n n y0 y1 y2 y3 y4)))))) l0) a1)
theorem nat_DivSmall.ok {n : Nat} {l0 : Λ} {a1 : Int} {r : Λ × Int × Int} (h : nat_DivSmall.f n l0 a1 = some r) : CallD Tryd.prog HW 124 [.ro .u64 l0, .int .u64 a1] (nat_DivSmall.sg.enc r) :=
  fun_some hwS Tryd.func124 (by kernel_rfl) (body := nat_DivSmall.code) (by kernel_rfl) tys_ok (c := nat_DivSmall.cfg (nat_size.f n) (nat_big.f n) (nat_cut.f n) (bits_Div64.f n)) (orCall_ok (nat_size.call_ok (n := n)) (orCall_ok (nat_big.call_ok (n := n)) (orCall_ok (nat_cut.call_ok (n := n)) (orCall_ok (bits_Div64.call_ok (n := n)) noCall_ok)))) noW_ok (by kernel_rfl) (by kernel_rfl) (Nat.le_of_ble_eq_true (by kernel_rfl)) ((nat_DivSmall.eq n l0 a1).trans h)
noncomputable def nat_DivSmall.call {α : Type} (g : Λ→Int→Ω (Λ × Int × Int)) (ds : List D) (K : List D→Ω α) : Ω α := match ds with
  | [.ro .u64 l0, .int .u64 a1] => (g l0 a1).bind fun r => K (nat_DivSmall.sg.enc r)
  | _ => none
theorem nat_DivSmall.call_ok {α : Type} {n : Nat} (ds : List D) (K : List D→Ω α) (r : α) (h : nat_DivSmall.call (nat_DivSmall.f n) ds K = some r) : ∃ rs, K rs = some r ∧ CallD Tryd.prog HW 124 ds rs := by
  unfold nat_DivSmall.call at h
  split at h
  · obtain ⟨x, hx, hk⟩ := Option.bind_eq_some_iff.1 h
    exact ⟨_, hk, nat_DivSmall.ok (n := n) hx⟩
  · cases h
/-! ### quot_raised: function 178 -/
noncomputable def quot_raised.b0 (k117 : Int→Int→Λ→Int→Int→Λ→Ω (Λ)) (l0 : Λ) (a1 : Int) (a2 : Int) : Ω (Λ) := (if 0 ≤ a2 then (if a2.toNat ≤ 35184372088832 then k117 a1 a2 l0 (ln l0) 0 (List.replicate a2.toNat (0 : Int)) else none) else none)
noncomputable def quot_raised.b117 (k117 : Int→Int→Λ→Int→Int→Λ→Ω (Λ)) (x0 : Int) (x1 : Int) (x2 : Λ) (x3 : Int) (x4 : Int) (x5 : Λ) : Ω (Λ) := (if x4 < x3 then (if 0 ≤ x4 then (if x4 < (ln x2) then (if 0 ≤ x4 then (if x4 < (ln x5) then (if 0 ≤ (IntKind.u64.wrap x0) then (if 0 ≤ x4 then (if x4 < (ln x5) then (if (wrap64 (x4 + 1)) < x1 then (if x0 > 0 then (if 0 ≤ (IntKind.u64.wrap (wrap64 (64 - x0))) then (if 0 ≤ (wrap64 (x4 + 1)) then (if (wrap64 (x4 + 1)) < (ln (x5.set (x4 : Int).toNat (Go.bits .or .u64 (rd x5 x4) (shl .u64 (rd x2 x4) (IntKind.u64.wrap x0))))) then k117 x0 x1 x2 x3 (wrap64 (x4 + 1)) ((x5.set (x4 : Int).toNat (Go.bits .or .u64 (rd x5 x4) (shl .u64 (rd x2 x4) (IntKind.u64.wrap x0)))).set (wrap64 (x4 + 1) : Int).toNat (shr .u64 (rd x2 x4) (IntKind.u64.wrap (wrap64 (64 - x0))))) else none) else none) else none) else k117 x0 x1 x2 x3 (wrap64 (x4 + 1)) (x5.set (x4 : Int).toNat (Go.bits .or .u64 (rd x5 x4) (shl .u64 (rd x2 x4) (IntKind.u64.wrap x0))))) else k117 x0 x1 x2 x3 (wrap64 (x4 + 1)) (x5.set (x4 : Int).toNat (Go.bits .or .u64 (rd x5 x4) (shl .u64 (rd x2 x4) (IntKind.u64.wrap x0))))) else none) else none) else none) else none) else none) else none) else none) else some x5)
noncomputable def quot_raised.l117 (n : Nat) : Nat→Int→Int→Λ→Int→Int→Λ→Ω (Λ)
  | 0, _, _, _, _, _, _ => none
  | m + 1, x0, x1, x2, x3, x4, x5 => quot_raised.b117 (quot_raised.l117 n m) x0 x1 x2 x3 x4 x5
noncomputable def quot_raised.f (n : Nat) (l0 : Λ) (a1 : Int) (a2 : Int) : Ω (Λ) := quot_raised.b0 (quot_raised.l117 n n) l0 a1 a2
noncomputable def quot_raised.sg : Sig (Λ) := s1 (sOwn 22 .u64)
noncomputable def quot_raised.code : Code := (Tryd.f178.body).getD .skip
noncomputable def quot_raised.cfg : Cfg (Λ) := { T := tys, call := noCall }
noncomputable def quot_raised.cuts : List (Nat × List (Nat × Want)) := [(117, [(1, .keep), (2, .keep), (7, .keep), (12, .keep), (13, .keep), (14, .keep)])]
noncomputable def quot_raised.s117 (x0 : Int) (x1 : Int) (x2 : Λ) (x3 : Int) (x4 : Int) (x5 : Λ) : ASt := ⟨[(1, .int .i64 x0), (2, .int .i64 x1), (7, .own 0), (12, .ro .u64 x2), (13, .int .i64 x3), (14, .int .i64 x4)], [.ints 22 .u64 x5]⟩
noncomputable def quot_raised.A (n : Nat) (J : Nat→(ASt→Ω (Λ))→ASt→Ω (Λ)) (q : Nat) (ms : List Nat) : ASt→Ω (Λ) := acont (quot_raised.cfg) J quot_raised.cuts n q quot_raised.code 1 ms (aend (quot_raised.cfg) Tryd.f178.results.toList [true] quot_raised.sg.out)
theorem quot_raised.e0 (n : Nat) (J : Nat→(ASt→Ω (Λ))→ASt→Ω (Λ)) (l0 : Λ) (a1 : Int) (a2 : Int) : afun (quot_raised.cfg) J quot_raised.cuts n quot_raised.code Tryd.f178.results.toList [true] [.ro .u64 l0, .int .i64 a1, .int .i64 a2] quot_raised.sg.out = quot_raised.b0 (fun y0 y1 y2 y3 y4 y5 => J 117 (quot_raised.A n J 117 [n]) (quot_raised.s117 y0 y1 y2 y3 y4 y5)) l0 a1 a2 := by kernel_rfl
theorem quot_raised.e117 (n : Nat) (J : Nat→(ASt→Ω (Λ))→ASt→Ω (Λ)) (m : Nat) (x0 : Int) (x1 : Int) (x2 : Λ) (x3 : Int) (x4 : Int) (x5 : Λ) : quot_raised.A n J 117 [m + 1] (quot_raised.s117 x0 x1 x2 x3 x4 x5) = quot_raised.b117 (fun y0 y1 y2 y3 y4 y5 => J 117 (quot_raised.A n J 117 [m]) (quot_raised.s117 y0 y1 y2 y3 y4 y5)) x0 x1 x2 x3 x4 x5 := by kernel_rfl
theorem quot_raised.q117 (n : Nat) (m : Nat) : ∀ (x0 : Int) (x1 : Int) (x2 : Λ) (x3 : Int) (x4 : Int) (x5 : Λ), quot_raised.A n idJ 117 [m] (quot_raised.s117 x0 x1 x2 x3 x4 x5) = quot_raised.l117 n m x0 x1 x2 x3 x4 x5 := by
  induction m with
  | zero => intros; rfl
  | succ m ih =>
    intro x0 x1 x2 x3 x4 x5
    refine (quot_raised.e117 n idJ m x0 x1 x2 x3 x4 x5).trans ?_
    exact congrFun (congrFun (congrFun (congrFun (congrFun (congrFun (congrArg quot_raised.b117 (funext fun y0 => (funext fun y1 => (funext fun y2 => (funext fun y3 => (funext fun y4 => (funext fun y5 => ih y0 y1 y2 y3 y4 y5))))))) x0) x1) x2) x3) x4) x5
theorem quot_raised.eq (n : Nat) (l0 : Λ) (a1 : Int) (a2 : Int) : afun (quot_raised.cfg) idJ quot_raised.cuts n quot_raised.code Tryd.f178.results.toList [true] [.ro .u64 l0, .int .i64 a1, .int .i64 a2] quot_raised.sg.out = quot_raised.f n l0 a1 a2 := (quot_raised.e0 n idJ l0 a1 a2).trans (congrFun (congrFun (congrFun (congrArg quot_raised.b0 (funext fun y0 => (funext fun y1 => (funext fun y2 => (funext fun y3 => (funext fun y4 => (funext fun y5 => quot_raised.q117 n n y0 y1 y2 y3 y4 y5))))))) l0) a1) a2)
theorem quot_raised.ok {n : Nat} {l0 : Λ} {a1 : Int} {a2 : Int} {r : Λ} (h : quot_raised.f n l0 a1 a2 = some r) : CallD Tryd.prog HW 178 [.ro .u64 l0, .int .i64 a1, .int .i64 a2] (quot_raised.sg.enc r) :=
  fun_some hwS Tryd.func178 (by kernel_rfl) (body := quot_raised.code) (by kernel_rfl) tys_ok (c := quot_raised.cfg) noCall_ok noW_ok (by kernel_rfl) (by kernel_rfl) (Nat.le_of_ble_eq_true (by kernel_rfl)) ((quot_raised.eq n l0 a1 a2).trans h)
noncomputable def quot_raised.call {α : Type} (g : Λ→Int→Int→Ω (Λ)) (ds : List D) (K : List D→Ω α) : Ω α := match ds with
  | [.ro .u64 l0, .int .i64 a1, .int .i64 a2] => (g l0 a1 a2).bind fun r => K (quot_raised.sg.enc r)
  | _ => none
theorem quot_raised.call_ok {α : Type} {n : Nat} (ds : List D) (K : List D→Ω α) (r : α) (h : quot_raised.call (quot_raised.f n) ds K = some r) : ∃ rs, K rs = some r ∧ CallD Tryd.prog HW 178 ds rs := by
  unfold quot_raised.call at h
  split at h
  · obtain ⟨x, hx, hk⟩ := Option.bind_eq_some_iff.1 h
    exact ⟨_, hk, quot_raised.ok (n := n) hx⟩
  · cases h
/-! ### quot_guess: function 179 -/
noncomputable def quot_guess.b0 (c171 : Int→Int→Int→Ω (Int × Int)) (l0 : Λ) (l1 : Λ) : Ω (Int) := (if 0 ≤ (ln l1) then (if (ln l1) < (ln l0) then (if 0 ≤ (wrap64 ((ln l1) - 1)) then (if (wrap64 ((ln l1) - 1)) < (ln l1) then (if (rd l0 (ln l1)) ≥ (rd l1 (wrap64 ((ln l1) - 1))) then some 18446744073709551615 else (if 0 ≤ (ln l1) then (if (ln l1) < (ln l0) then (if 0 ≤ (wrap64 ((ln l1) - 1)) then (if (wrap64 ((ln l1) - 1)) < (ln l0) then (if 0 ≤ (wrap64 ((ln l1) - 1)) then (if (wrap64 ((ln l1) - 1)) < (ln l1) then ((c171 (rd l0 (ln l1)) (rd l0 (wrap64 ((ln l1) - 1))) (rd l1 (wrap64 ((ln l1) - 1)))).bind fun t1 => some t1.1) else none) else none) else none) else none) else none) else none)) else none) else none) else none) else none)
noncomputable def quot_guess.f (n : Nat) (l0 : Λ) (l1 : Λ) : Ω (Int) := quot_guess.b0 (bits_Div64.f n) l0 l1
noncomputable def quot_guess.sg : Sig (Int) := s1 (sInt .u64)
noncomputable def quot_guess.code : Code := (Tryd.f179.body).getD .skip
noncomputable def quot_guess.cfg (c171 : Int→Int→Int→Ω (Int × Int)) : Cfg (Int) := { T := tys, call := orCall 171 (bits_Div64.call c171) (noCall) }
noncomputable def quot_guess.cuts : List (Nat × List (Nat × Want)) := []
theorem quot_guess.e0 (c171 : Int→Int→Int→Ω (Int × Int)) (n : Nat) (J : Nat→(ASt→Ω (Int))→ASt→Ω (Int)) (l0 : Λ) (l1 : Λ) : afun (quot_guess.cfg c171) J quot_guess.cuts n quot_guess.code Tryd.f179.results.toList [false] [.ro .u64 l0, .ro .u64 l1] quot_guess.sg.out = quot_guess.b0 c171 l0 l1 := by kernel_rfl
theorem quot_guess.eq (n : Nat) (l0 : Λ) (l1 : Λ) : afun (quot_guess.cfg (bits_Div64.f n)) idJ quot_guess.cuts n quot_guess.code Tryd.f179.results.toList [false] [.ro .u64 l0, .ro .u64 l1] quot_guess.sg.out = quot_guess.f n l0 l1 := (quot_guess.e0 (bits_Div64.f n) n idJ l0 l1).trans (rfl)
theorem quot_guess.ok {n : Nat} {l0 : Λ} {l1 : Λ} {r : Int} (h : quot_guess.f n l0 l1 = some r) : CallD Tryd.prog HW 179 [.ro .u64 l0, .ro .u64 l1] (quot_guess.sg.enc r) :=
  fun_some hwS Tryd.func179 (by kernel_rfl) (body := quot_guess.code) (by kernel_rfl) tys_ok (c := quot_guess.cfg (bits_Div64.f n)) (orCall_ok (bits_Div64.call_ok (n := n)) noCall_ok) noW_ok (by kernel_rfl) (by kernel_rfl) (Nat.le_of_ble_eq_true (by kernel_rfl)) ((quot_guess.eq n l0 l1).trans h)
noncomputable def quot_guess.call {α : Type} (g : Λ→Λ→Ω (Int)) (ds : List D) (K : List D→Ω α) : Ω α := match ds with
  | [.ro .u64 l0, .ro .u64 l1] => (g l0 l1).bind fun r => K (quot_guess.sg.enc r)
  | _ => none
theorem quot_guess.call_ok {α : Type} {n : Nat} (ds : List D) (K : List D→Ω α) (r : α) (h : quot_guess.call (quot_guess.f n) ds K = some r) : ∃ rs, K rs = some r ∧ CallD Tryd.prog HW 179 ds rs := by
  unfold quot_guess.call at h
  split at h
  · obtain ⟨x, hx, hk⟩ := Option.bind_eq_some_iff.1 h
    exact ⟨_, hk, quot_guess.ok (n := n) hx⟩
  · cases h
/-! ### quot_takeOff: function 180 -/
noncomputable def quot_takeOff.b0 (c167 : Int→Int→Int→Ω (Int × Int)) (c169 : Int→Int→Ω (Int × Int)) (c170 : Int→Int→Int→Ω (Int × Int)) (k117 : Λ→Int→Int→Int→Int→Int→Λ→Ω (Λ × Bool)) (l0 : Λ) (l1 : Λ) (a2 : Int) : Ω (Λ × Bool) := k117 l1 a2 0 0 0 (ln l1) l0
noncomputable def quot_takeOff.b15 (c167 : Int→Int→Int→Ω (Int × Int)) (c169 : Int→Int→Ω (Int × Int)) (c170 : Int→Int→Int→Ω (Int × Int)) (x0 : Λ) (x1 : Int) (x2 : Int) (x3 : Λ) : Ω (Λ × Bool) := (if 0 ≤ (ln x0) then (if (ln x0) < (ln x3) then ((c170 (rd x3 (ln x0)) x1 x2).bind fun t1 => (if 0 ≤ (ln x0) then (if (ln x0) < (ln x3) then some (x3.set ((ln x0) : Int).toNat t1.1, decide (¬ t1.2 = 0)) else none) else none)) else none) else none)
noncomputable def quot_takeOff.b117 (c167 : Int→Int→Int→Ω (Int × Int)) (c169 : Int→Int→Ω (Int × Int)) (c170 : Int→Int→Int→Ω (Int × Int)) (k15 : Λ→Int→Int→Λ→Ω (Λ × Bool)) (k117 : Λ→Int→Int→Int→Int→Int→Λ→Ω (Λ × Bool)) (x0 : Λ) (x1 : Int) (x2 : Int) (x3 : Int) (x4 : Int) (x5 : Int) (x6 : Λ) : Ω (Λ × Bool) := (if x4 < x5 then (if 0 ≤ x4 then (if x4 < (ln x0) then ((c169 x1 (rd x0 x4)).bind fun t1 => ((c167 t1.2 x2 0).bind fun t2 => (if 0 ≤ x4 then (if x4 < (ln x6) then ((c170 (rd x6 x4) t2.1 x3).bind fun t3 => (if 0 ≤ x4 then (if x4 < (ln x6) then k117 x0 x1 (IntKind.u64.wrap (t1.1 + t2.2)) t3.2 (wrap64 (x4 + 1)) x5 (x6.set (x4 : Int).toNat t3.1) else none) else none)) else none) else none))) else none) else none) else k15 x0 x2 x3 x6)
noncomputable def quot_takeOff.l15 (n : Nat) (x0 : Λ) (x1 : Int) (x2 : Int) (x3 : Λ) : Ω (Λ × Bool) := quot_takeOff.b15 bits_Add64.f bits_Mul64.f bits_Sub64.f x0 x1 x2 x3
noncomputable def quot_takeOff.l117 (n : Nat) : Nat→Λ→Int→Int→Int→Int→Int→Λ→Ω (Λ × Bool)
  | 0, _, _, _, _, _, _, _ => none
  | m + 1, x0, x1, x2, x3, x4, x5, x6 => quot_takeOff.b117 bits_Add64.f bits_Mul64.f bits_Sub64.f (quot_takeOff.l15 n) (quot_takeOff.l117 n m) x0 x1 x2 x3 x4 x5 x6
noncomputable def quot_takeOff.f (n : Nat) (l0 : Λ) (l1 : Λ) (a2 : Int) : Ω (Λ × Bool) := quot_takeOff.b0 bits_Add64.f bits_Mul64.f bits_Sub64.f (quot_takeOff.l117 n n) l0 l1 a2
noncomputable def quot_takeOff.sg : Sig (Bool) := s1 (sBool)
noncomputable def quot_takeOff.code : Code := (Tryd.f180.body).getD .skip
noncomputable def quot_takeOff.cfg (c167 : Int→Int→Int→Ω (Int × Int)) (c169 : Int→Int→Ω (Int × Int)) (c170 : Int→Int→Int→Ω (Int × Int)) : Cfg (Λ × Bool) := { T := tys, call := orCall 167 (bits_Add64.call c167) (orCall 169 (bits_Mul64.call c169) (orCall 170 (bits_Sub64.call c170) (noCall))) }
noncomputable def quot_takeOff.cuts : List (Nat × List (Nat × Want)) := [(15, [(0, .keep), (1, .keep), (7, .keep), (8, .keep)]), (117, [(0, .keep), (1, .keep), (2, .keep), (7, .keep), (8, .keep), (14, .keep), (15, .keep), (16, .keep)])]
noncomputable def quot_takeOff.s15 (x0 : Λ) (x1 : Int) (x2 : Int) (x3 : Λ) : ASt := ⟨[(0, .own 0), (1, .ro .u64 x0), (7, .int .u64 x1), (8, .int .u64 x2)], [.bor .u64 x3]⟩
noncomputable def quot_takeOff.s117 (x0 : Λ) (x1 : Int) (x2 : Int) (x3 : Int) (x4 : Int) (x5 : Int) (x6 : Λ) : ASt := ⟨[(0, .own 0), (1, .ro .u64 x0), (2, .int .u64 x1), (7, .int .u64 x2), (8, .int .u64 x3), (14, .ro .u64 x0), (15, .int .i64 x5), (16, .int .i64 x4)], [.bor .u64 x6]⟩
noncomputable def quot_takeOff.A (c167 : Int→Int→Int→Ω (Int × Int)) (c169 : Int→Int→Ω (Int × Int)) (c170 : Int→Int→Int→Ω (Int × Int)) (n : Nat) (J : Nat→(ASt→Ω (Λ × Bool))→ASt→Ω (Λ × Bool)) (q : Nat) (ms : List Nat) : ASt→Ω (Λ × Bool) := acont (quot_takeOff.cfg c167 c169 c170) J quot_takeOff.cuts n q quot_takeOff.code 1 ms (aendw (quot_takeOff.cfg c167 c169 c170) Tryd.f180.results.toList (sgw quot_takeOff.sg))
theorem quot_takeOff.e0 (c167 : Int→Int→Int→Ω (Int × Int)) (c169 : Int→Int→Ω (Int × Int)) (c170 : Int→Int→Int→Ω (Int × Int)) (n : Nat) (J : Nat→(ASt→Ω (Λ × Bool))→ASt→Ω (Λ × Bool)) (l0 : Λ) (l1 : Λ) (a2 : Int) : afunw (quot_takeOff.cfg c167 c169 c170) J quot_takeOff.cuts n quot_takeOff.code Tryd.f180.results.toList l0 [.ro .u64 l1, .int .u64 a2] (sgw quot_takeOff.sg) = quot_takeOff.b0 c167 c169 c170 (fun y0 y1 y2 y3 y4 y5 y6 => J 117 (quot_takeOff.A c167 c169 c170 n J 117 [n]) (quot_takeOff.s117 y0 y1 y2 y3 y4 y5 y6)) l0 l1 a2 := by kernel_rfl
theorem quot_takeOff.e15 (c167 : Int→Int→Int→Ω (Int × Int)) (c169 : Int→Int→Ω (Int × Int)) (c170 : Int→Int→Int→Ω (Int × Int)) (n : Nat) (J : Nat→(ASt→Ω (Λ × Bool))→ASt→Ω (Λ × Bool)) (x0 : Λ) (x1 : Int) (x2 : Int) (x3 : Λ) : quot_takeOff.A c167 c169 c170 n J 15 [] (quot_takeOff.s15 x0 x1 x2 x3) = quot_takeOff.b15 c167 c169 c170 x0 x1 x2 x3 := by kernel_rfl
theorem quot_takeOff.e117 (c167 : Int→Int→Int→Ω (Int × Int)) (c169 : Int→Int→Ω (Int × Int)) (c170 : Int→Int→Int→Ω (Int × Int)) (n : Nat) (J : Nat→(ASt→Ω (Λ × Bool))→ASt→Ω (Λ × Bool)) (m : Nat) (x0 : Λ) (x1 : Int) (x2 : Int) (x3 : Int) (x4 : Int) (x5 : Int) (x6 : Λ) : quot_takeOff.A c167 c169 c170 n J 117 [m + 1] (quot_takeOff.s117 x0 x1 x2 x3 x4 x5 x6) = quot_takeOff.b117 c167 c169 c170 (fun y0 y1 y2 y3 => J 15 (quot_takeOff.A c167 c169 c170 n J 15 []) (quot_takeOff.s15 y0 y1 y2 y3)) (fun y0 y1 y2 y3 y4 y5 y6 => J 117 (quot_takeOff.A c167 c169 c170 n J 117 [m]) (quot_takeOff.s117 y0 y1 y2 y3 y4 y5 y6)) x0 x1 x2 x3 x4 x5 x6 := by kernel_rfl
theorem quot_takeOff.q15 (n : Nat) (x0 : Λ) (x1 : Int) (x2 : Int) (x3 : Λ) : quot_takeOff.A bits_Add64.f bits_Mul64.f bits_Sub64.f n idJ 15 [] (quot_takeOff.s15 x0 x1 x2 x3) = quot_takeOff.l15 n x0 x1 x2 x3 := (quot_takeOff.e15 bits_Add64.f bits_Mul64.f bits_Sub64.f n idJ x0 x1 x2 x3).trans (rfl)
theorem quot_takeOff.q117 (n : Nat) (m : Nat) : ∀ (x0 : Λ) (x1 : Int) (x2 : Int) (x3 : Int) (x4 : Int) (x5 : Int) (x6 : Λ), quot_takeOff.A bits_Add64.f bits_Mul64.f bits_Sub64.f n idJ 117 [m] (quot_takeOff.s117 x0 x1 x2 x3 x4 x5 x6) = quot_takeOff.l117 n m x0 x1 x2 x3 x4 x5 x6 := by
  induction m with
  | zero => intros; rfl
  | succ m ih =>
    intro x0 x1 x2 x3 x4 x5 x6
    refine (quot_takeOff.e117 bits_Add64.f bits_Mul64.f bits_Sub64.f n idJ m x0 x1 x2 x3 x4 x5 x6).trans ?_
    exact congrFun (congrFun (congrFun (congrFun (congrFun (congrFun (congrFun (congr (congrArg (quot_takeOff.b117 bits_Add64.f bits_Mul64.f bits_Sub64.f) (funext fun y0 => (funext fun y1 => (funext fun y2 => (funext fun y3 => quot_takeOff.q15 n y0 y1 y2 y3))))) (funext fun y0 => (funext fun y1 => (funext fun y2 => (funext fun y3 => (funext fun y4 => (funext fun y5 => (funext fun y6 => ih y0 y1 y2 y3 y4 y5 y6)))))))) x0) x1) x2) x3) x4) x5) x6
theorem quot_takeOff.eq (n : Nat) (l0 : Λ) (l1 : Λ) (a2 : Int) : afunw (quot_takeOff.cfg bits_Add64.f bits_Mul64.f bits_Sub64.f) idJ quot_takeOff.cuts n quot_takeOff.code Tryd.f180.results.toList l0 [.ro .u64 l1, .int .u64 a2] (sgw quot_takeOff.sg) = quot_takeOff.f n l0 l1 a2 := (quot_takeOff.e0 bits_Add64.f bits_Mul64.f bits_Sub64.f n idJ l0 l1 a2).trans (congrFun (congrFun (congrFun (congrArg (quot_takeOff.b0 bits_Add64.f bits_Mul64.f bits_Sub64.f) (funext fun y0 => (funext fun y1 => (funext fun y2 => (funext fun y3 => (funext fun y4 => (funext fun y5 => (funext fun y6 => quot_takeOff.q117 n n y0 y1 y2 y3 y4 y5 y6)))))))) l0) l1) a2)
theorem quot_takeOff.ok {n : Nat} {l0 : Λ} {l1 : Λ} {a2 : Int} {r : Λ × Bool} (h : quot_takeOff.f n l0 l1 a2 = some r) : CallW Tryd.prog HW 180 l0 [.ro .u64 l1, .int .u64 a2] r.1 (quot_takeOff.sg.enc r.2) :=
  funw_some Tryd.func180 (by kernel_rfl) (body := quot_takeOff.code) (by kernel_rfl) tys_ok (c := quot_takeOff.cfg bits_Add64.f bits_Mul64.f bits_Sub64.f) (orCall_ok (bits_Add64.call_ok (n := n)) (orCall_ok (bits_Mul64.call_ok (n := n)) (orCall_ok (bits_Sub64.call_ok (n := n)) noCall_ok))) noW_ok (by kernel_rfl) (by kernel_rfl) (Nat.le_of_ble_eq_true (by kernel_rfl)) ((quot_takeOff.eq n l0 l1 a2).trans h)
noncomputable def quot_takeOff.call {α : Type} (g : Λ→Λ→Int→Ω (Λ × Bool)) (l0 : Λ) (ds : List D) (K : Λ→List D→Ω α) : Ω α := match ds with
  | [.ro .u64 l1, .int .u64 a2] => (g l0 l1 a2).bind fun r => K r.1 (quot_takeOff.sg.enc r.2)
  | _ => none
theorem quot_takeOff.call_ok {α : Type} {n : Nat} (l : Λ) (ds : List D) (K : Λ→List D→Ω α) (r : α) (h : quot_takeOff.call (quot_takeOff.f n) l ds K = some r) : ∃ l' rs, K l' rs = some r ∧ CallW Tryd.prog HW 180 l ds l' rs := by
  unfold quot_takeOff.call at h
  split at h
  · obtain ⟨x, hx, hk⟩ := Option.bind_eq_some_iff.1 h
    exact ⟨_, _, hk, quot_takeOff.ok (n := n) hx⟩
  · cases h
/-! ### quot_putBack: function 181 -/
noncomputable def quot_putBack.b0 (c167 : Int→Int→Int→Ω (Int × Int)) (k117 : Λ→Int→Int→Int→Λ→Ω (Λ × Bool)) (l0 : Λ) (l1 : Λ) : Ω (Λ × Bool) := k117 l1 0 0 (ln l1) l0
noncomputable def quot_putBack.b15 (c167 : Int→Int→Int→Ω (Int × Int)) (x0 : Λ) (x1 : Int) (x2 : Λ) : Ω (Λ × Bool) := (if 0 ≤ (ln x0) then (if (ln x0) < (ln x2) then ((c167 (rd x2 (ln x0)) 0 x1).bind fun t1 => (if 0 ≤ (ln x0) then (if (ln x0) < (ln x2) then some (x2.set ((ln x0) : Int).toNat t1.1, decide (¬ t1.2 = 0)) else none) else none)) else none) else none)
noncomputable def quot_putBack.b117 (c167 : Int→Int→Int→Ω (Int × Int)) (k15 : Λ→Int→Λ→Ω (Λ × Bool)) (k117 : Λ→Int→Int→Int→Λ→Ω (Λ × Bool)) (x0 : Λ) (x1 : Int) (x2 : Int) (x3 : Int) (x4 : Λ) : Ω (Λ × Bool) := (if x2 < x3 then (if 0 ≤ x2 then (if x2 < (ln x0) then (if 0 ≤ x2 then (if x2 < (ln x4) then ((c167 (rd x4 x2) (rd x0 x2) x1).bind fun t1 => (if 0 ≤ x2 then (if x2 < (ln x4) then k117 x0 t1.2 (wrap64 (x2 + 1)) x3 (x4.set (x2 : Int).toNat t1.1) else none) else none)) else none) else none) else none) else none) else k15 x0 x1 x4)
noncomputable def quot_putBack.l15 (n : Nat) (x0 : Λ) (x1 : Int) (x2 : Λ) : Ω (Λ × Bool) := quot_putBack.b15 bits_Add64.f x0 x1 x2
noncomputable def quot_putBack.l117 (n : Nat) : Nat→Λ→Int→Int→Int→Λ→Ω (Λ × Bool)
  | 0, _, _, _, _, _ => none
  | m + 1, x0, x1, x2, x3, x4 => quot_putBack.b117 bits_Add64.f (quot_putBack.l15 n) (quot_putBack.l117 n m) x0 x1 x2 x3 x4
noncomputable def quot_putBack.f (n : Nat) (l0 : Λ) (l1 : Λ) : Ω (Λ × Bool) := quot_putBack.b0 bits_Add64.f (quot_putBack.l117 n n) l0 l1
noncomputable def quot_putBack.sg : Sig (Bool) := s1 (sBool)
noncomputable def quot_putBack.code : Code := (Tryd.f181.body).getD .skip
noncomputable def quot_putBack.cfg (c167 : Int→Int→Int→Ω (Int × Int)) : Cfg (Λ × Bool) := { T := tys, call := orCall 167 (bits_Add64.call c167) (noCall) }
noncomputable def quot_putBack.cuts : List (Nat × List (Nat × Want)) := [(15, [(0, .keep), (1, .keep), (5, .keep)]), (117, [(0, .keep), (1, .keep), (5, .keep), (8, .keep), (9, .keep), (10, .keep)])]
noncomputable def quot_putBack.s15 (x0 : Λ) (x1 : Int) (x2 : Λ) : ASt := ⟨[(0, .own 0), (1, .ro .u64 x0), (5, .int .u64 x1)], [.bor .u64 x2]⟩
noncomputable def quot_putBack.s117 (x0 : Λ) (x1 : Int) (x2 : Int) (x3 : Int) (x4 : Λ) : ASt := ⟨[(0, .own 0), (1, .ro .u64 x0), (5, .int .u64 x1), (8, .ro .u64 x0), (9, .int .i64 x3), (10, .int .i64 x2)], [.bor .u64 x4]⟩
noncomputable def quot_putBack.A (c167 : Int→Int→Int→Ω (Int × Int)) (n : Nat) (J : Nat→(ASt→Ω (Λ × Bool))→ASt→Ω (Λ × Bool)) (q : Nat) (ms : List Nat) : ASt→Ω (Λ × Bool) := acont (quot_putBack.cfg c167) J quot_putBack.cuts n q quot_putBack.code 1 ms (aendw (quot_putBack.cfg c167) Tryd.f181.results.toList (sgw quot_putBack.sg))
theorem quot_putBack.e0 (c167 : Int→Int→Int→Ω (Int × Int)) (n : Nat) (J : Nat→(ASt→Ω (Λ × Bool))→ASt→Ω (Λ × Bool)) (l0 : Λ) (l1 : Λ) : afunw (quot_putBack.cfg c167) J quot_putBack.cuts n quot_putBack.code Tryd.f181.results.toList l0 [.ro .u64 l1] (sgw quot_putBack.sg) = quot_putBack.b0 c167 (fun y0 y1 y2 y3 y4 => J 117 (quot_putBack.A c167 n J 117 [n]) (quot_putBack.s117 y0 y1 y2 y3 y4)) l0 l1 := by kernel_rfl
theorem quot_putBack.e15 (c167 : Int→Int→Int→Ω (Int × Int)) (n : Nat) (J : Nat→(ASt→Ω (Λ × Bool))→ASt→Ω (Λ × Bool)) (x0 : Λ) (x1 : Int) (x2 : Λ) : quot_putBack.A c167 n J 15 [] (quot_putBack.s15 x0 x1 x2) = quot_putBack.b15 c167 x0 x1 x2 := by kernel_rfl
theorem quot_putBack.e117 (c167 : Int→Int→Int→Ω (Int × Int)) (n : Nat) (J : Nat→(ASt→Ω (Λ × Bool))→ASt→Ω (Λ × Bool)) (m : Nat) (x0 : Λ) (x1 : Int) (x2 : Int) (x3 : Int) (x4 : Λ) : quot_putBack.A c167 n J 117 [m + 1] (quot_putBack.s117 x0 x1 x2 x3 x4) = quot_putBack.b117 c167 (fun y0 y1 y2 => J 15 (quot_putBack.A c167 n J 15 []) (quot_putBack.s15 y0 y1 y2)) (fun y0 y1 y2 y3 y4 => J 117 (quot_putBack.A c167 n J 117 [m]) (quot_putBack.s117 y0 y1 y2 y3 y4)) x0 x1 x2 x3 x4 := by kernel_rfl
theorem quot_putBack.q15 (n : Nat) (x0 : Λ) (x1 : Int) (x2 : Λ) : quot_putBack.A bits_Add64.f n idJ 15 [] (quot_putBack.s15 x0 x1 x2) = quot_putBack.l15 n x0 x1 x2 := (quot_putBack.e15 bits_Add64.f n idJ x0 x1 x2).trans (rfl)
theorem quot_putBack.q117 (n : Nat) (m : Nat) : ∀ (x0 : Λ) (x1 : Int) (x2 : Int) (x3 : Int) (x4 : Λ), quot_putBack.A bits_Add64.f n idJ 117 [m] (quot_putBack.s117 x0 x1 x2 x3 x4) = quot_putBack.l117 n m x0 x1 x2 x3 x4 := by
  induction m with
  | zero => intros; rfl
  | succ m ih =>
    intro x0 x1 x2 x3 x4
    refine (quot_putBack.e117 bits_Add64.f n idJ m x0 x1 x2 x3 x4).trans ?_
    exact congrFun (congrFun (congrFun (congrFun (congrFun (congr (congrArg (quot_putBack.b117 bits_Add64.f) (funext fun y0 => (funext fun y1 => (funext fun y2 => quot_putBack.q15 n y0 y1 y2)))) (funext fun y0 => (funext fun y1 => (funext fun y2 => (funext fun y3 => (funext fun y4 => ih y0 y1 y2 y3 y4)))))) x0) x1) x2) x3) x4
theorem quot_putBack.eq (n : Nat) (l0 : Λ) (l1 : Λ) : afunw (quot_putBack.cfg bits_Add64.f) idJ quot_putBack.cuts n quot_putBack.code Tryd.f181.results.toList l0 [.ro .u64 l1] (sgw quot_putBack.sg) = quot_putBack.f n l0 l1 := (quot_putBack.e0 bits_Add64.f n idJ l0 l1).trans (congrFun (congrFun (congrArg (quot_putBack.b0 bits_Add64.f) (funext fun y0 => (funext fun y1 => (funext fun y2 => (funext fun y3 => (funext fun y4 => quot_putBack.q117 n n y0 y1 y2 y3 y4)))))) l0) l1)
theorem quot_putBack.ok {n : Nat} {l0 : Λ} {l1 : Λ} {r : Λ × Bool} (h : quot_putBack.f n l0 l1 = some r) : CallW Tryd.prog HW 181 l0 [.ro .u64 l1] r.1 (quot_putBack.sg.enc r.2) :=
  funw_some Tryd.func181 (by kernel_rfl) (body := quot_putBack.code) (by kernel_rfl) tys_ok (c := quot_putBack.cfg bits_Add64.f) (orCall_ok (bits_Add64.call_ok (n := n)) noCall_ok) noW_ok (by kernel_rfl) (by kernel_rfl) (Nat.le_of_ble_eq_true (by kernel_rfl)) ((quot_putBack.eq n l0 l1).trans h)
noncomputable def quot_putBack.call {α : Type} (g : Λ→Λ→Ω (Λ × Bool)) (l0 : Λ) (ds : List D) (K : Λ→List D→Ω α) : Ω α := match ds with
  | [.ro .u64 l1] => (g l0 l1).bind fun r => K r.1 (quot_putBack.sg.enc r.2)
  | _ => none
theorem quot_putBack.call_ok {α : Type} {n : Nat} (l : Λ) (ds : List D) (K : Λ→List D→Ω α) (r : α) (h : quot_putBack.call (quot_putBack.f n) l ds K = some r) : ∃ l' rs, K l' rs = some r ∧ CallW Tryd.prog HW 181 l ds l' rs := by
  unfold quot_putBack.call at h
  split at h
  · obtain ⟨x, hx, hk⟩ := Option.bind_eq_some_iff.1 h
    exact ⟨_, _, hk, quot_putBack.ok (n := n) hx⟩
  · cases h
/-! ### quot_long: function 173 -/
noncomputable def quot_long.b0 (c117 : Λ→Ω (Λ)) (c126 : Λ→Int→Ω (Λ × Bool × Int)) (c176 : Int→Ω (Int)) (c178 : Λ→Int→Int→Ω (Λ)) (c179 : Λ→Λ→Ω (Int)) (c180 : Λ→Λ→Int→Ω (Λ × Bool)) (c181 : Λ→Λ→Ω (Λ × Bool)) (k7157 : Int→Int→Int→Λ→Λ→Λ→Ω (Λ × Λ)) (l0 : Λ) (l1 : Λ) : Ω (Λ × Λ) := (if 0 ≤ (wrap64 ((ln l1) - 1)) then (if (wrap64 ((ln l1) - 1)) < (ln l1) then ((c176 (rd l1 (wrap64 ((ln l1) - 1)))).bind fun t1 => ((c178 l1 t1 (ln l1)).bind fun t2 => ((c178 l0 t1 (wrap64 ((ln l0) + 1))).bind fun t3 => (if 0 ≤ (wrap64 ((wrap64 ((ln l0) - (ln l1))) + 1)) then (if (wrap64 ((wrap64 ((ln l0) - (ln l1))) + 1)).toNat ≤ 35184372088832 then k7157 (ln l1) t1 (wrap64 ((ln (List.replicate (wrap64 ((wrap64 ((ln l0) - (ln l1))) + 1)).toNat (0 : Int))) - 1)) t2 t3 (List.replicate (wrap64 ((wrap64 ((ln l0) - (ln l1))) + 1)).toNat (0 : Int)) else none) else none)))) else none) else none)
noncomputable def quot_long.b895 (c117 : Λ→Ω (Λ)) (c126 : Λ→Int→Ω (Λ × Bool × Int)) (c176 : Int→Ω (Int)) (c178 : Λ→Int→Int→Ω (Λ)) (c179 : Λ→Λ→Ω (Int)) (c180 : Λ→Λ→Int→Ω (Λ × Bool)) (c181 : Λ→Λ→Ω (Λ × Bool)) (x0 : Int) (x1 : Int) (x2 : Λ) (x3 : Λ) : Ω (Λ × Λ) := (if 0 ≤ x0 then (if x0 ≤ (ln x2) then ((c126 ((x2.take (x0 : Int).toNat).drop 0) x1).bind fun t1 => ((c117 x3).bind fun t2 => some (t2, t1.1))) else none) else none)
noncomputable def quot_long.b7157 (c117 : Λ→Ω (Λ)) (c126 : Λ→Int→Ω (Λ × Bool × Int)) (c176 : Int→Ω (Int)) (c178 : Λ→Int→Int→Ω (Λ)) (c179 : Λ→Λ→Ω (Int)) (c180 : Λ→Λ→Int→Ω (Λ × Bool)) (c181 : Λ→Λ→Ω (Λ × Bool)) (k895 : Int→Int→Λ→Λ→Ω (Λ × Λ)) (k1832093 : Int→Int→Int→Int→Int→Bool→Λ→Λ→Λ→Ω (Λ × Λ)) (x0 : Int) (x1 : Int) (x2 : Int) (x3 : Λ) (x4 : Λ) (x5 : Λ) : Ω (Λ × Λ) := (if x2 ≥ 0 then (if 0 ≤ (wrap64 ((wrap64 (x2 + x0)) + 1)) then (if (wrap64 ((wrap64 (x2 + x0)) + 1)) ≤ (ln x4) then (if 0 ≤ x2 then (if x2 ≤ (wrap64 ((wrap64 (x2 + x0)) + 1)) then ((c179 ((x4.take (wrap64 ((wrap64 (x2 + x0)) + 1) : Int).toNat).drop (x2 : Int).toNat) x3).bind fun t1 => (if x2 < (wrap64 ((wrap64 (x2 + x0)) + 1)) then ((c180 ((x4.take (wrap64 ((wrap64 (x2 + x0)) + 1) : Int).toNat).drop (x2 : Int).toNat) x3 t1).bind fun t2 => k1832093 x0 x1 x2 (wrap64 ((wrap64 (x2 + x0)) + 1)) t1 t2.2 x3 (x4.take (x2 : Int).toNat ++ t2.1 ++ x4.drop (wrap64 ((wrap64 (x2 + x0)) + 1) : Int).toNat) x5) else none)) else none) else none) else none) else none) else k895 x0 x1 x4 x5)
noncomputable def quot_long.b1832093 (c117 : Λ→Ω (Λ)) (c126 : Λ→Int→Ω (Λ × Bool × Int)) (c176 : Int→Ω (Int)) (c178 : Λ→Int→Int→Ω (Λ)) (c179 : Λ→Λ→Ω (Int)) (c180 : Λ→Λ→Int→Ω (Λ × Bool)) (c181 : Λ→Λ→Ω (Λ × Bool)) (k7157 : Int→Int→Int→Λ→Λ→Λ→Ω (Λ × Λ)) (k1832093 : Int→Int→Int→Int→Int→Bool→Λ→Λ→Λ→Ω (Λ × Λ)) (x0 : Int) (x1 : Int) (x2 : Int) (x3 : Int) (x4 : Int) (x5 : Bool) (x6 : Λ) (x7 : Λ) (x8 : Λ) : Ω (Λ × Λ) := (if (!x5) = true then (if 0 ≤ x2 then (if x2 < (ln x8) then k7157 x0 x1 (wrap64 (x2 - 1)) x6 x7 (x8.set (x2 : Int).toNat x4) else none) else none) else (if x2 < x3 then ((c181 ((x7.take (x3 : Int).toNat).drop (x2 : Int).toNat) x6).bind fun t1 => k1832093 x0 x1 x2 x3 (IntKind.u64.wrap (x4 - 1)) (!t1.2) x6 (x7.take (x2 : Int).toNat ++ t1.1 ++ x7.drop (x3 : Int).toNat) x8) else none))
noncomputable def quot_long.l895 (n : Nat) (x0 : Int) (x1 : Int) (x2 : Λ) (x3 : Λ) : Ω (Λ × Λ) := quot_long.b895 (nat_Trim.f n) (nat_Shr.f n) bits_LeadingZeros64.f (quot_raised.f n) (quot_guess.f n) (quot_takeOff.f n) (quot_putBack.f n) x0 x1 x2 x3
noncomputable def quot_long.l1832093 (n : Nat) (k7157 : Int→Int→Int→Λ→Λ→Λ→Ω (Λ × Λ)) : Nat→Int→Int→Int→Int→Int→Bool→Λ→Λ→Λ→Ω (Λ × Λ)
  | 0, _, _, _, _, _, _, _, _, _ => none
  | m + 1, x0, x1, x2, x3, x4, x5, x6, x7, x8 => quot_long.b1832093 (nat_Trim.f n) (nat_Shr.f n) bits_LeadingZeros64.f (quot_raised.f n) (quot_guess.f n) (quot_takeOff.f n) (quot_putBack.f n) k7157 (quot_long.l1832093 n k7157 m) x0 x1 x2 x3 x4 x5 x6 x7 x8
noncomputable def quot_long.l7157 (n : Nat) : Nat→Int→Int→Int→Λ→Λ→Λ→Ω (Λ × Λ)
  | 0, _, _, _, _, _, _ => none
  | m + 1, x0, x1, x2, x3, x4, x5 => quot_long.b7157 (nat_Trim.f n) (nat_Shr.f n) bits_LeadingZeros64.f (quot_raised.f n) (quot_guess.f n) (quot_takeOff.f n) (quot_putBack.f n) (quot_long.l895 n) (quot_long.l1832093 n (quot_long.l7157 n m) n) x0 x1 x2 x3 x4 x5
noncomputable def quot_long.f (n : Nat) (l0 : Λ) (l1 : Λ) : Ω (Λ × Λ) := quot_long.b0 (nat_Trim.f n) (nat_Shr.f n) bits_LeadingZeros64.f (quot_raised.f n) (quot_guess.f n) (quot_takeOff.f n) (quot_putBack.f n) (quot_long.l7157 n n) l0 l1
noncomputable def quot_long.sg : Sig (Λ × Λ) := s2 (sRow .u64) (s1 (sRow .u64))
noncomputable def quot_long.code : Code := (Tryd.f173.body).getD .skip
noncomputable def quot_long.cfg (c117 : Λ→Ω (Λ)) (c126 : Λ→Int→Ω (Λ × Bool × Int)) (c176 : Int→Ω (Int)) (c178 : Λ→Int→Int→Ω (Λ)) (c179 : Λ→Λ→Ω (Int)) (c180 : Λ→Λ→Int→Ω (Λ × Bool)) (c181 : Λ→Λ→Ω (Λ × Bool)) : Cfg (Λ × Λ) := { T := tys, call := orCall 117 (nat_Trim.call c117) (orCall 126 (nat_Shr.call c126) (orCall 176 (bits_LeadingZeros64.call c176) (orCall 178 (quot_raised.call c178) (orCall 179 (quot_guess.call c179) (noCall))))), win := true, wr := [180, 181], callw := orW 180 (quot_takeOff.call c180) (orW 181 (quot_putBack.call c181) (noW)) }
noncomputable def quot_long.cuts : List (Nat × List (Nat × Want)) := [(895, [(6, .keep), (7, .keep), (9, .keep), (10, .keep)]), (7157, [(6, .keep), (7, .keep), (8, .keep), (9, .keep), (10, .keep), (11, .keep)]), (1832093, [(6, .keep), (7, .keep), (8, .keep), (9, .keep), (10, .keep), (11, .keep), (12, .keep), (13, .keep), (14, .keep)])]
noncomputable def quot_long.s895 (x0 : Int) (x1 : Int) (x2 : Λ) (x3 : Λ) : ASt := ⟨[(6, .int .i64 x0), (7, .int .i64 x1), (9, .own 0), (10, .own 1)], [.ints 22 .u64 x2, .ints 22 .u64 x3]⟩
noncomputable def quot_long.s7157 (x0 : Int) (x1 : Int) (x2 : Int) (x3 : Λ) (x4 : Λ) (x5 : Λ) : ASt := ⟨[(6, .int .i64 x0), (7, .int .i64 x1), (8, .own 0), (9, .own 1), (10, .own 2), (11, .int .i64 x2)], [.ints 22 .u64 x3, .ints 22 .u64 x4, .ints 22 .u64 x5]⟩
noncomputable def quot_long.s1832093 (x0 : Int) (x1 : Int) (x2 : Int) (x3 : Int) (x4 : Int) (x5 : Bool) (x6 : Λ) (x7 : Λ) (x8 : Λ) : ASt := ⟨[(6, .int .i64 x0), (7, .int .i64 x1), (8, .own 0), (9, .own 1), (10, .own 2), (11, .int .i64 x2), (12, .win 1 x2 x3), (13, .int .u64 x4), (14, .bool x5)], [.ints 22 .u64 x6, .ints 22 .u64 x7, .ints 22 .u64 x8]⟩
noncomputable def quot_long.A (c117 : Λ→Ω (Λ)) (c126 : Λ→Int→Ω (Λ × Bool × Int)) (c176 : Int→Ω (Int)) (c178 : Λ→Int→Int→Ω (Λ)) (c179 : Λ→Λ→Ω (Int)) (c180 : Λ→Λ→Int→Ω (Λ × Bool)) (c181 : Λ→Λ→Ω (Λ × Bool)) (n : Nat) (J : Nat→(ASt→Ω (Λ × Λ))→ASt→Ω (Λ × Λ)) (q : Nat) (ms : List Nat) : ASt→Ω (Λ × Λ) := acont (quot_long.cfg c117 c126 c176 c178 c179 c180 c181) J quot_long.cuts n q quot_long.code 1 ms (aend (quot_long.cfg c117 c126 c176 c178 c179 c180 c181) Tryd.f173.results.toList [false, false] quot_long.sg.out)
theorem quot_long.e0 (c117 : Λ→Ω (Λ)) (c126 : Λ→Int→Ω (Λ × Bool × Int)) (c176 : Int→Ω (Int)) (c178 : Λ→Int→Int→Ω (Λ)) (c179 : Λ→Λ→Ω (Int)) (c180 : Λ→Λ→Int→Ω (Λ × Bool)) (c181 : Λ→Λ→Ω (Λ × Bool)) (n : Nat) (J : Nat→(ASt→Ω (Λ × Λ))→ASt→Ω (Λ × Λ)) (l0 : Λ) (l1 : Λ) : afun (quot_long.cfg c117 c126 c176 c178 c179 c180 c181) J quot_long.cuts n quot_long.code Tryd.f173.results.toList [false, false] [.ro .u64 l0, .ro .u64 l1] quot_long.sg.out = quot_long.b0 c117 c126 c176 c178 c179 c180 c181 (fun y0 y1 y2 y3 y4 y5 => J 7157 (quot_long.A c117 c126 c176 c178 c179 c180 c181 n J 7157 [n]) (quot_long.s7157 y0 y1 y2 y3 y4 y5)) l0 l1 := by kernel_rfl
theorem quot_long.e895 (c117 : Λ→Ω (Λ)) (c126 : Λ→Int→Ω (Λ × Bool × Int)) (c176 : Int→Ω (Int)) (c178 : Λ→Int→Int→Ω (Λ)) (c179 : Λ→Λ→Ω (Int)) (c180 : Λ→Λ→Int→Ω (Λ × Bool)) (c181 : Λ→Λ→Ω (Λ × Bool)) (n : Nat) (J : Nat→(ASt→Ω (Λ × Λ))→ASt→Ω (Λ × Λ)) (x0 : Int) (x1 : Int) (x2 : Λ) (x3 : Λ) : quot_long.A c117 c126 c176 c178 c179 c180 c181 n J 895 [] (quot_long.s895 x0 x1 x2 x3) = quot_long.b895 c117 c126 c176 c178 c179 c180 c181 x0 x1 x2 x3 := by kernel_rfl
theorem quot_long.e7157 (c117 : Λ→Ω (Λ)) (c126 : Λ→Int→Ω (Λ × Bool × Int)) (c176 : Int→Ω (Int)) (c178 : Λ→Int→Int→Ω (Λ)) (c179 : Λ→Λ→Ω (Int)) (c180 : Λ→Λ→Int→Ω (Λ × Bool)) (c181 : Λ→Λ→Ω (Λ × Bool)) (n : Nat) (J : Nat→(ASt→Ω (Λ × Λ))→ASt→Ω (Λ × Λ)) (m : Nat) (x0 : Int) (x1 : Int) (x2 : Int) (x3 : Λ) (x4 : Λ) (x5 : Λ) : quot_long.A c117 c126 c176 c178 c179 c180 c181 n J 7157 [m + 1] (quot_long.s7157 x0 x1 x2 x3 x4 x5) = quot_long.b7157 c117 c126 c176 c178 c179 c180 c181 (fun y0 y1 y2 y3 => J 895 (quot_long.A c117 c126 c176 c178 c179 c180 c181 n J 895 []) (quot_long.s895 y0 y1 y2 y3)) (fun y0 y1 y2 y3 y4 y5 y6 y7 y8 => J 1832093 (quot_long.A c117 c126 c176 c178 c179 c180 c181 n J 1832093 [m, n]) (quot_long.s1832093 y0 y1 y2 y3 y4 y5 y6 y7 y8)) x0 x1 x2 x3 x4 x5 := by kernel_rfl
theorem quot_long.e1832093 (c117 : Λ→Ω (Λ)) (c126 : Λ→Int→Ω (Λ × Bool × Int)) (c176 : Int→Ω (Int)) (c178 : Λ→Int→Int→Ω (Λ)) (c179 : Λ→Λ→Ω (Int)) (c180 : Λ→Λ→Int→Ω (Λ × Bool)) (c181 : Λ→Λ→Ω (Λ × Bool)) (n : Nat) (J : Nat→(ASt→Ω (Λ × Λ))→ASt→Ω (Λ × Λ)) (m7157 : Nat) (m : Nat) (x0 : Int) (x1 : Int) (x2 : Int) (x3 : Int) (x4 : Int) (x5 : Bool) (x6 : Λ) (x7 : Λ) (x8 : Λ) : quot_long.A c117 c126 c176 c178 c179 c180 c181 n J 1832093 [m7157, m + 1] (quot_long.s1832093 x0 x1 x2 x3 x4 x5 x6 x7 x8) = quot_long.b1832093 c117 c126 c176 c178 c179 c180 c181 (fun y0 y1 y2 y3 y4 y5 => J 7157 (quot_long.A c117 c126 c176 c178 c179 c180 c181 n J 7157 [m7157]) (quot_long.s7157 y0 y1 y2 y3 y4 y5)) (fun y0 y1 y2 y3 y4 y5 y6 y7 y8 => J 1832093 (quot_long.A c117 c126 c176 c178 c179 c180 c181 n J 1832093 [m7157, m]) (quot_long.s1832093 y0 y1 y2 y3 y4 y5 y6 y7 y8)) x0 x1 x2 x3 x4 x5 x6 x7 x8 := by kernel_rfl
theorem quot_long.q895 (n : Nat) (x0 : Int) (x1 : Int) (x2 : Λ) (x3 : Λ) : quot_long.A (nat_Trim.f n) (nat_Shr.f n) bits_LeadingZeros64.f (quot_raised.f n) (quot_guess.f n) (quot_takeOff.f n) (quot_putBack.f n) n idJ 895 [] (quot_long.s895 x0 x1 x2 x3) = quot_long.l895 n x0 x1 x2 x3 := (quot_long.e895 (nat_Trim.f n) (nat_Shr.f n) bits_LeadingZeros64.f (quot_raised.f n) (quot_guess.f n) (quot_takeOff.f n) (quot_putBack.f n) n idJ x0 x1 x2 x3).trans (rfl)
theorem quot_long.q1832093 (n : Nat) (m7157 : Nat) (m : Nat) : ∀ (x0 : Int) (x1 : Int) (x2 : Int) (x3 : Int) (x4 : Int) (x5 : Bool) (x6 : Λ) (x7 : Λ) (x8 : Λ), quot_long.A (nat_Trim.f n) (nat_Shr.f n) bits_LeadingZeros64.f (quot_raised.f n) (quot_guess.f n) (quot_takeOff.f n) (quot_putBack.f n) n idJ 1832093 [m7157, m] (quot_long.s1832093 x0 x1 x2 x3 x4 x5 x6 x7 x8) = quot_long.l1832093 n (fun y0 y1 y2 y3 y4 y5 => quot_long.A (nat_Trim.f n) (nat_Shr.f n) bits_LeadingZeros64.f (quot_raised.f n) (quot_guess.f n) (quot_takeOff.f n) (quot_putBack.f n) n idJ 7157 [m7157] (quot_long.s7157 y0 y1 y2 y3 y4 y5)) m x0 x1 x2 x3 x4 x5 x6 x7 x8 := by
  induction m with
  | zero => intros; rfl
  | succ m ih =>
    intro x0 x1 x2 x3 x4 x5 x6 x7 x8
    refine (quot_long.e1832093 (nat_Trim.f n) (nat_Shr.f n) bits_LeadingZeros64.f (quot_raised.f n) (quot_guess.f n) (quot_takeOff.f n) (quot_putBack.f n) n idJ m7157 m x0 x1 x2 x3 x4 x5 x6 x7 x8).trans ?_
    exact congrFun (congrFun (congrFun (congrFun (congrFun (congrFun (congrFun (congrFun (congrFun (congr (congrArg (quot_long.b1832093 (nat_Trim.f n) (nat_Shr.f n) bits_LeadingZeros64.f (quot_raised.f n) (quot_guess.f n) (quot_takeOff.f n) (quot_putBack.f n)) rfl) (funext fun y0 => (funext fun y1 => (funext fun y2 => (funext fun y3 => (funext fun y4 => (funext fun y5 => (funext fun y6 => (funext fun y7 => (funext fun y8 => ih y0 y1 y2 y3 y4 y5 y6 y7 y8)))))))))) x0) x1) x2) x3) x4) x5) x6) x7) x8
theorem quot_long.q7157 (n : Nat) (m : Nat) : ∀ (x0 : Int) (x1 : Int) (x2 : Int) (x3 : Λ) (x4 : Λ) (x5 : Λ), quot_long.A (nat_Trim.f n) (nat_Shr.f n) bits_LeadingZeros64.f (quot_raised.f n) (quot_guess.f n) (quot_takeOff.f n) (quot_putBack.f n) n idJ 7157 [m] (quot_long.s7157 x0 x1 x2 x3 x4 x5) = quot_long.l7157 n m x0 x1 x2 x3 x4 x5 := by
  induction m with
  | zero => intros; rfl
  | succ m ih =>
    intro x0 x1 x2 x3 x4 x5
    refine (quot_long.e7157 (nat_Trim.f n) (nat_Shr.f n) bits_LeadingZeros64.f (quot_raised.f n) (quot_guess.f n) (quot_takeOff.f n) (quot_putBack.f n) n idJ m x0 x1 x2 x3 x4 x5).trans ?_
    exact congrFun (congrFun (congrFun (congrFun (congrFun (congrFun (congr (congrArg (quot_long.b7157 (nat_Trim.f n) (nat_Shr.f n) bits_LeadingZeros64.f (quot_raised.f n) (quot_guess.f n) (quot_takeOff.f n) (quot_putBack.f n)) (funext fun y0 => (funext fun y1 => (funext fun y2 => (funext fun y3 => quot_long.q895 n y0 y1 y2 y3))))) ((funext fun y0 => (funext fun y1 => (funext fun y2 => (funext fun y3 => (funext fun y4 => (funext fun y5 => (funext fun y6 => (funext fun y7 => (funext fun y8 => quot_long.q1832093 n m n y0 y1 y2 y3 y4 y5 y6 y7 y8))))))))).trans (by rw [show (fun y0 y1 y2 y3 y4 y5 => quot_long.A (nat_Trim.f n) (nat_Shr.f n) bits_LeadingZeros64.f (quot_raised.f n) (quot_guess.f n) (quot_takeOff.f n) (quot_putBack.f n) n idJ 7157 [m] (quot_long.s7157 y0 y1 y2 y3 y4 y5)) = _ from (funext fun y0 => (funext fun y1 => (funext fun y2 => (funext fun y3 => (funext fun y4 => (funext fun y5 => ih y0 y1 y2 y3 y4 y5))))))]))) x0) x1) x2) x3) x4) x5
theorem quot_long.eq (n : Nat) (l0 : Λ) (l1 : Λ) : afun (quot_long.cfg (nat_Trim.f n) (nat_Shr.f n) bits_LeadingZeros64.f (quot_raised.f n) (quot_guess.f n) (quot_takeOff.f n) (quot_putBack.f n)) idJ quot_long.cuts n quot_long.code Tryd.f173.results.toList [false, false] [.ro .u64 l0, .ro .u64 l1] quot_long.sg.out = quot_long.f n l0 l1 := (quot_long.e0 (nat_Trim.f n) (nat_Shr.f n) bits_LeadingZeros64.f (quot_raised.f n) (quot_guess.f n) (quot_takeOff.f n) (quot_putBack.f n) n idJ l0 l1).trans (congrFun (congrFun (congrArg (quot_long.b0 (nat_Trim.f n) (nat_Shr.f n) bits_LeadingZeros64.f (quot_raised.f n) (quot_guess.f n) (quot_takeOff.f n) (quot_putBack.f n)) (funext fun y0 => (funext fun y1 => (funext fun y2 => (funext fun y3 => (funext fun y4 => (funext fun y5 => quot_long.q7157 n n y0 y1 y2 y3 y4 y5))))))) l0) l1)
theorem quot_long.ok {n : Nat} {l0 : Λ} {l1 : Λ} {r : Λ × Λ} (h : quot_long.f n l0 l1 = some r) : CallD Tryd.prog HW 173 [.ro .u64 l0, .ro .u64 l1] (quot_long.sg.enc r) :=
  fun_some hwS Tryd.func173 (by kernel_rfl) (body := quot_long.code) (by kernel_rfl) tys_ok (c := quot_long.cfg (nat_Trim.f n) (nat_Shr.f n) bits_LeadingZeros64.f (quot_raised.f n) (quot_guess.f n) (quot_takeOff.f n) (quot_putBack.f n)) (orCall_ok (nat_Trim.call_ok (n := n)) (orCall_ok (nat_Shr.call_ok (n := n)) (orCall_ok (bits_LeadingZeros64.call_ok (n := n)) (orCall_ok (quot_raised.call_ok (n := n)) (orCall_ok (quot_guess.call_ok (n := n)) noCall_ok))))) (orW_ok (quot_takeOff.call_ok (n := n)) (orW_ok (quot_putBack.call_ok (n := n)) noW_ok)) (by kernel_rfl) (by kernel_rfl) (Nat.le_of_ble_eq_true (by kernel_rfl)) ((quot_long.eq n l0 l1).trans h)
noncomputable def quot_long.call {α : Type} (g : Λ→Λ→Ω (Λ × Λ)) (ds : List D) (K : List D→Ω α) : Ω α := match ds with
  | [.ro .u64 l0, .ro .u64 l1] => (g l0 l1).bind fun r => K (quot_long.sg.enc r)
  | _ => none
theorem quot_long.call_ok {α : Type} {n : Nat} (ds : List D) (K : List D→Ω α) (r : α) (h : quot_long.call (quot_long.f n) ds K = some r) : ∃ rs, K rs = some r ∧ CallD Tryd.prog HW 173 ds rs := by
  unfold quot_long.call at h
  split at h
  · obtain ⟨x, hx, hk⟩ := Option.bind_eq_some_iff.1 h
    exact ⟨_, hk, quot_long.ok (n := n) hx⟩
  · cases h
/-! ### quot_DivMod: function 130 -/
noncomputable def quot_DivMod.b0 (c42 : Λ→Λ→Ω (Int)) (c118 : Int→Ω (Λ)) (c124 : Λ→Int→Ω (Λ × Int × Int)) (c157 : Λ→Int→Ω (Λ × Bool)) (c173 : Λ→Λ→Ω (Λ × Λ)) (l0 : Λ) (l1 : Λ) : Ω (Λ × Λ × Int) := ((c157 l0 4096).bind fun t1 => ((c157 l1 4096).bind fun t2 => (if (!t1.2) = true then some (([] : Λ), ([] : Λ), 2) else (if (!t2.2) = true then some (([] : Λ), ([] : Λ), 2) else (if (ln t2.1) = 0 then some (([] : Λ), ([] : Λ), 4) else ((c42 t1.1 t2.1).bind fun t3 => (if t3 < 0 then some (([] : Λ), t1.1, 0) else (if (ln t2.1) = 1 then (if 0 < (ln t2.1) then ((c124 t1.1 (rd t2.1 0)).bind fun t4 => ((c118 t4.2.1).bind fun t5 => some (t4.1, t5, t4.2.2))) else none) else ((c173 t1.1 t2.1).bind fun t6 => some (t6.1, t6.2, 0))))))))))
noncomputable def quot_DivMod.f (n : Nat) (l0 : Λ) (l1 : Λ) : Ω (Λ × Λ × Int) := quot_DivMod.b0 (nat_Cmp.f n) nat_FromUint.f (nat_DivSmall.f n) (quot_small.f n) (quot_long.f n) l0 l1
noncomputable def quot_DivMod.sg : Sig (Λ × Λ × Int) := s2 (sRow .u64) (s2 (sRow .u64) (s1 (sInt .i64)))
noncomputable def quot_DivMod.code : Code := (Tryd.f130.body).getD .skip
noncomputable def quot_DivMod.cfg (c42 : Λ→Λ→Ω (Int)) (c118 : Int→Ω (Λ)) (c124 : Λ→Int→Ω (Λ × Int × Int)) (c157 : Λ→Int→Ω (Λ × Bool)) (c173 : Λ→Λ→Ω (Λ × Λ)) : Cfg (Λ × Λ × Int) := { T := tys, call := orCall 42 (nat_Cmp.call c42) (orCall 118 (nat_FromUint.call c118) (orCall 124 (nat_DivSmall.call c124) (orCall 157 (quot_small.call c157) (orCall 173 (quot_long.call c173) (noCall))))) }
noncomputable def quot_DivMod.cuts : List (Nat × List (Nat × Want)) := []
theorem quot_DivMod.e0 (c42 : Λ→Λ→Ω (Int)) (c118 : Int→Ω (Λ)) (c124 : Λ→Int→Ω (Λ × Int × Int)) (c157 : Λ→Int→Ω (Λ × Bool)) (c173 : Λ→Λ→Ω (Λ × Λ)) (n : Nat) (J : Nat→(ASt→Ω (Λ × Λ × Int))→ASt→Ω (Λ × Λ × Int)) (l0 : Λ) (l1 : Λ) : afun (quot_DivMod.cfg c42 c118 c124 c157 c173) J quot_DivMod.cuts n quot_DivMod.code Tryd.f130.results.toList [false, false, false] [.ro .u64 l0, .ro .u64 l1] quot_DivMod.sg.out = quot_DivMod.b0 c42 c118 c124 c157 c173 l0 l1 := by kernel_rfl
theorem quot_DivMod.eq (n : Nat) (l0 : Λ) (l1 : Λ) : afun (quot_DivMod.cfg (nat_Cmp.f n) nat_FromUint.f (nat_DivSmall.f n) (quot_small.f n) (quot_long.f n)) idJ quot_DivMod.cuts n quot_DivMod.code Tryd.f130.results.toList [false, false, false] [.ro .u64 l0, .ro .u64 l1] quot_DivMod.sg.out = quot_DivMod.f n l0 l1 := (quot_DivMod.e0 (nat_Cmp.f n) nat_FromUint.f (nat_DivSmall.f n) (quot_small.f n) (quot_long.f n) n idJ l0 l1).trans (rfl)
theorem quot_DivMod.ok {n : Nat} {l0 : Λ} {l1 : Λ} {r : Λ × Λ × Int} (h : quot_DivMod.f n l0 l1 = some r) : CallD Tryd.prog HW 130 [.ro .u64 l0, .ro .u64 l1] (quot_DivMod.sg.enc r) :=
  fun_some hwS Tryd.func130 (by kernel_rfl) (body := quot_DivMod.code) (by kernel_rfl) tys_ok (c := quot_DivMod.cfg (nat_Cmp.f n) nat_FromUint.f (nat_DivSmall.f n) (quot_small.f n) (quot_long.f n)) (orCall_ok (nat_Cmp.call_ok (n := n)) (orCall_ok (nat_FromUint.call_ok (n := n)) (orCall_ok (nat_DivSmall.call_ok (n := n)) (orCall_ok (quot_small.call_ok (n := n)) (orCall_ok (quot_long.call_ok (n := n)) noCall_ok))))) noW_ok (by kernel_rfl) (by kernel_rfl) (Nat.le_of_ble_eq_true (by kernel_rfl)) ((quot_DivMod.eq n l0 l1).trans h)
noncomputable def quot_DivMod.call {α : Type} (g : Λ→Λ→Ω (Λ × Λ × Int)) (ds : List D) (K : List D→Ω α) : Ω α := match ds with
  | [.ro .u64 l0, .ro .u64 l1] => (g l0 l1).bind fun r => K (quot_DivMod.sg.enc r)
  | _ => none
theorem quot_DivMod.call_ok {α : Type} {n : Nat} (ds : List D) (K : List D→Ω α) (r : α) (h : quot_DivMod.call (quot_DivMod.f n) ds K = some r) : ∃ rs, K rs = some r ∧ CallD Tryd.prog HW 130 ds rs := by
  unfold quot_DivMod.call at h
  split at h
  · obtain ⟨x, hx, hk⟩ := Option.bind_eq_some_iff.1 h
    exact ⟨_, hk, quot_DivMod.ok (n := n) hx⟩
  · cases h
end Go.Proofs.YtceihajjpeoloaaDoor.F
