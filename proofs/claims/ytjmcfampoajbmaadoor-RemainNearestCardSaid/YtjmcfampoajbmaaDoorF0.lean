/- What the functions compute, and that calls of them answer so (printed by gen.py). Conditions: HW, a table as it was laid. -/
import Derived.Test.YtjmcfampoajbmaaDoorA17
import Derived.Test.YtjmcfampoajbmaaDoorProg
namespace Go.Proofs.YtjmcfampoajbmaaDoor.F
open Go.RowKit Go.Proofs.YtjmcfampoajbmaaDoorA
set_option linter.unusedVariables false
set_option maxRecDepth 100000
/-- The table of math/bits.TrailingZeros64 stands as it was laid. -/
def HW : World → Prop := fun w => ∀ j, j < 64 → w.cell? ⟨0, j, none⟩ = some (.int .u8 ((Lib.deBruijn64tab.getD j 0 : Nat) : Int))
theorem hwS : ∀ w w' : World, Below w.heap.size w w' → HW w → HW w' := fun w w' hb h j hj => by
  have h1 := h j hj
  rw [← h1]
  exact hb.cell (Nat.lt_of_not_le fun hn => by simp [World.cell?, Array.getElem?_eq_none hn] at h1)
def tys : List (Nat × TI) := [(2, ⟨.int .i64, 1, 8, [.int .i64 0], false⟩),
  (3, ⟨.int .i64, 1, 8, [.int .i64 0], false⟩),
  (4, ⟨.bool, 1, 1, [.bool false], false⟩),
  (22, ⟨.int .u64, 1, 8, [.int .u64 0], false⟩),
  (32, ⟨.struct [(0, 1, false), (1, 1, false), (2, 1, false), (3, 1, false)], 4, 32, [.bool false, .int .i64 0, .int .u64 0, .int .i64 0], true⟩),
  (35, ⟨.slice 22, 1, 24, [.nil], false⟩),
  (63, ⟨.int .u64, 1, 8, [.int .u64 0], false⟩)]
theorem tys_ok : TOK Tryd.prog tys := tok_of (by kernel_rfl)
/-! ### ieee_Abs: function 13 -/
noncomputable def ieee_Abs.b0 (a0 : Int) : Option (Int) := some (Go.bits .andNot .u64 a0 9223372036854775808)
noncomputable def ieee_Abs.f (a0 : Int) : Option (Int) := ieee_Abs.b0 a0
noncomputable def ieee_Abs.sg : Sig (Int) := s1 (sInt .u64)
noncomputable def ieee_Abs.code : Code := (Tryd.f13.body).getD .skip
noncomputable def ieee_Abs.cfg : Cfg (Int) := { T := tys, call := noCall }
noncomputable def ieee_Abs.cuts : List (Nat × List (Nat × Want)) := []
theorem ieee_Abs.e0 (n : Nat) (J : Nat → (ASt → Option (Int)) → ASt → Option (Int)) (a0 : Int) : afun (ieee_Abs.cfg) J ieee_Abs.cuts n ieee_Abs.code Tryd.f13.results.toList [false] [.int .u64 a0] ieee_Abs.sg.out = ieee_Abs.b0 a0 := by kernel_rfl
theorem ieee_Abs.eq (n : Nat) (a0 : Int) : afun (ieee_Abs.cfg) idJ ieee_Abs.cuts n ieee_Abs.code Tryd.f13.results.toList [false] [.int .u64 a0] ieee_Abs.sg.out = ieee_Abs.f a0 := (ieee_Abs.e0 n idJ a0).trans (rfl)
theorem ieee_Abs.ok {n : Nat} {a0 : Int} {r : Int} (h : ieee_Abs.f a0 = some r) : CallD Tryd.prog HW 13 [.int .u64 a0] (ieee_Abs.sg.enc r) :=
  fun_some hwS Tryd.func13 (by kernel_rfl) (body := ieee_Abs.code) (by kernel_rfl) tys_ok (c := ieee_Abs.cfg) noCall_ok noW_ok (by kernel_rfl) (by kernel_rfl) (Nat.le_of_ble_eq_true (by kernel_rfl)) ((ieee_Abs.eq n a0).trans h)
noncomputable def ieee_Abs.call {α : Type} (g : Int → Option (Int)) (ds : List D) (K : List D → Option α) : Option α := match ds with
  | [.int .u64 a0] => (g a0).bind fun r => K (ieee_Abs.sg.enc r)
  | _ => none
theorem ieee_Abs.call_ok {α : Type} {n : Nat} (ds : List D) (K : List D → Option α) (r : α) (h : ieee_Abs.call ieee_Abs.f ds K = some r) : ∃ rs, K rs = some r ∧ CallD Tryd.prog HW 13 ds rs := by
  unfold ieee_Abs.call at h
  split at h
  · obtain ⟨x, hx, hk⟩ := Option.bind_eq_some_iff.1 h
    exact ⟨_, hk, ieee_Abs.ok (n := n) hx⟩
  · cases h
/-! ### ieee_Class: function 12 -/
noncomputable def ieee_Class.b0 (c13 : Int → Option (Int)) (a0 : Int) : Option (Int) := ((c13 a0).bind fun t1 => (if t1 = 0 then some 0 else (if t1 < 4503599627370496 then some 1 else (if t1 < 9218868437227405312 then some 2 else (if t1 = 9218868437227405312 then some 3 else some 4)))))
noncomputable def ieee_Class.f (a0 : Int) : Option (Int) := ieee_Class.b0 ieee_Abs.f a0
noncomputable def ieee_Class.sg : Sig (Int) := s1 (sInt .i64)
noncomputable def ieee_Class.code : Code := (Tryd.f12.body).getD .skip
noncomputable def ieee_Class.cfg (c13 : Int → Option (Int)) : Cfg (Int) := { T := tys, call := orCall 13 (ieee_Abs.call c13) (noCall) }
noncomputable def ieee_Class.cuts : List (Nat × List (Nat × Want)) := []
theorem ieee_Class.e0 (c13 : Int → Option (Int)) (n : Nat) (J : Nat → (ASt → Option (Int)) → ASt → Option (Int)) (a0 : Int) : afun (ieee_Class.cfg c13) J ieee_Class.cuts n ieee_Class.code Tryd.f12.results.toList [false] [.int .u64 a0] ieee_Class.sg.out = ieee_Class.b0 c13 a0 := by kernel_rfl
theorem ieee_Class.eq (n : Nat) (a0 : Int) : afun (ieee_Class.cfg ieee_Abs.f) idJ ieee_Class.cuts n ieee_Class.code Tryd.f12.results.toList [false] [.int .u64 a0] ieee_Class.sg.out = ieee_Class.f a0 := (ieee_Class.e0 ieee_Abs.f n idJ a0).trans (rfl)
theorem ieee_Class.ok {n : Nat} {a0 : Int} {r : Int} (h : ieee_Class.f a0 = some r) : CallD Tryd.prog HW 12 [.int .u64 a0] (ieee_Class.sg.enc r) :=
  fun_some hwS Tryd.func12 (by kernel_rfl) (body := ieee_Class.code) (by kernel_rfl) tys_ok (c := ieee_Class.cfg ieee_Abs.f) (orCall_ok (ieee_Abs.call_ok (n := n)) noCall_ok) noW_ok (by kernel_rfl) (by kernel_rfl) (Nat.le_of_ble_eq_true (by kernel_rfl)) ((ieee_Class.eq n a0).trans h)
noncomputable def ieee_Class.call {α : Type} (g : Int → Option (Int)) (ds : List D) (K : List D → Option α) : Option α := match ds with
  | [.int .u64 a0] => (g a0).bind fun r => K (ieee_Class.sg.enc r)
  | _ => none
theorem ieee_Class.call_ok {α : Type} {n : Nat} (ds : List D) (K : List D → Option α) (r : α) (h : ieee_Class.call ieee_Class.f ds K = some r) : ∃ rs, K rs = some r ∧ CallD Tryd.prog HW 12 ds rs := by
  unfold ieee_Class.call at h
  split at h
  · obtain ⟨x, hx, hk⟩ := Option.bind_eq_some_iff.1 h
    exact ⟨_, hk, ieee_Class.ok (n := n) hx⟩
  · cases h
/-! ### ieee_Decode: function 15 -/
noncomputable def ieee_Decode.b0 (c12 : Int → Option (Int)) (a0 : Int) : Option (Bool × Int × Int × Int) := ((c12 a0).bind fun t1 => (if t1 = 1 then some (decide (¬ (Go.bits .and .u64 a0 9223372036854775808) = 0), t1, Go.bits .and .u64 a0 4503599627370495, (-1074)) else (if t1 = 2 then some (decide (¬ (Go.bits .and .u64 a0 9223372036854775808) = 0), t1, Go.bits .or .u64 4503599627370496 (Go.bits .and .u64 a0 4503599627370495), wrap64 ((wrap64 (Go.bits .and .u64 (a0 / 4503599627370496) 2047)) - 1075)) else (if t1 = 4 then some (decide (¬ (Go.bits .and .u64 a0 9223372036854775808) = 0), t1, Go.bits .and .u64 a0 4503599627370495, 0) else some (decide (¬ (Go.bits .and .u64 a0 9223372036854775808) = 0), t1, 0, 0)))))
noncomputable def ieee_Decode.f (a0 : Int) : Option (Bool × Int × Int × Int) := ieee_Decode.b0 ieee_Class.f a0
noncomputable def ieee_Decode.sg : Sig (Bool × Int × Int × Int) := s1 (sAgg (s2 (sBool) (s2 (sInt .i64) (s2 (sInt .u64) (s1 (sInt .i64))))))
noncomputable def ieee_Decode.code : Code := (Tryd.f15.body).getD .skip
noncomputable def ieee_Decode.cfg (c12 : Int → Option (Int)) : Cfg (Bool × Int × Int × Int) := { T := tys, call := orCall 12 (ieee_Class.call c12) (noCall) }
noncomputable def ieee_Decode.cuts : List (Nat × List (Nat × Want)) := []
theorem ieee_Decode.e0 (c12 : Int → Option (Int)) (n : Nat) (J : Nat → (ASt → Option (Bool × Int × Int × Int)) → ASt → Option (Bool × Int × Int × Int)) (a0 : Int) : afun (ieee_Decode.cfg c12) J ieee_Decode.cuts n ieee_Decode.code Tryd.f15.results.toList [false] [.int .u64 a0] ieee_Decode.sg.out = ieee_Decode.b0 c12 a0 := by kernel_rfl
theorem ieee_Decode.eq (n : Nat) (a0 : Int) : afun (ieee_Decode.cfg ieee_Class.f) idJ ieee_Decode.cuts n ieee_Decode.code Tryd.f15.results.toList [false] [.int .u64 a0] ieee_Decode.sg.out = ieee_Decode.f a0 := (ieee_Decode.e0 ieee_Class.f n idJ a0).trans (rfl)
theorem ieee_Decode.ok {n : Nat} {a0 : Int} {r : Bool × Int × Int × Int} (h : ieee_Decode.f a0 = some r) : CallD Tryd.prog HW 15 [.int .u64 a0] (ieee_Decode.sg.enc r) :=
  fun_some hwS Tryd.func15 (by kernel_rfl) (body := ieee_Decode.code) (by kernel_rfl) tys_ok (c := ieee_Decode.cfg ieee_Class.f) (orCall_ok (ieee_Class.call_ok (n := n)) noCall_ok) noW_ok (by kernel_rfl) (by kernel_rfl) (Nat.le_of_ble_eq_true (by kernel_rfl)) ((ieee_Decode.eq n a0).trans h)
noncomputable def ieee_Decode.call {α : Type} (g : Int → Option (Bool × Int × Int × Int)) (ds : List D) (K : List D → Option α) : Option α := match ds with
  | [.int .u64 a0] => (g a0).bind fun r => K (ieee_Decode.sg.enc r)
  | _ => none
theorem ieee_Decode.call_ok {α : Type} {n : Nat} (ds : List D) (K : List D → Option α) (r : α) (h : ieee_Decode.call ieee_Decode.f ds K = some r) : ∃ rs, K rs = some r ∧ CallD Tryd.prog HW 15 ds rs := by
  unfold ieee_Decode.call at h
  split at h
  · obtain ⟨x, hx, hk⟩ := Option.bind_eq_some_iff.1 h
    exact ⟨_, hk, ieee_Decode.ok (n := n) hx⟩
  · cases h
/-! ### remain_Trunc_1: function 77 -/
noncomputable def remain_Trunc_1.b0 (a0 : Bool) (a1 : Int) (a2 : Int) : Option (Bool) := some false
noncomputable def remain_Trunc_1.f (a0 : Bool) (a1 : Int) (a2 : Int) : Option (Bool) := remain_Trunc_1.b0 a0 a1 a2
noncomputable def remain_Trunc_1.sg : Sig (Bool) := s1 (sBool)
noncomputable def remain_Trunc_1.code : Code := (Tryd.f77.body).getD .skip
noncomputable def remain_Trunc_1.cfg : Cfg (Bool) := { T := tys, call := noCall }
noncomputable def remain_Trunc_1.cuts : List (Nat × List (Nat × Want)) := []
theorem remain_Trunc_1.e0 (n : Nat) (J : Nat → (ASt → Option (Bool)) → ASt → Option (Bool)) (a0 : Bool) (a1 : Int) (a2 : Int) : afun (remain_Trunc_1.cfg) J remain_Trunc_1.cuts n remain_Trunc_1.code Tryd.f77.results.toList [false] [.bool a0, .int .u64 a1, .int .i64 a2] remain_Trunc_1.sg.out = remain_Trunc_1.b0 a0 a1 a2 := by kernel_rfl
theorem remain_Trunc_1.eq (n : Nat) (a0 : Bool) (a1 : Int) (a2 : Int) : afun (remain_Trunc_1.cfg) idJ remain_Trunc_1.cuts n remain_Trunc_1.code Tryd.f77.results.toList [false] [.bool a0, .int .u64 a1, .int .i64 a2] remain_Trunc_1.sg.out = remain_Trunc_1.f a0 a1 a2 := (remain_Trunc_1.e0 n idJ a0 a1 a2).trans (rfl)
theorem remain_Trunc_1.ok {n : Nat} {a0 : Bool} {a1 : Int} {a2 : Int} {r : Bool} (h : remain_Trunc_1.f a0 a1 a2 = some r) : CallD Tryd.prog HW 77 [.bool a0, .int .u64 a1, .int .i64 a2] (remain_Trunc_1.sg.enc r) :=
  fun_some hwS Tryd.func77 (by kernel_rfl) (body := remain_Trunc_1.code) (by kernel_rfl) tys_ok (c := remain_Trunc_1.cfg) noCall_ok noW_ok (by kernel_rfl) (by kernel_rfl) (Nat.le_of_ble_eq_true (by kernel_rfl)) ((remain_Trunc_1.eq n a0 a1 a2).trans h)
noncomputable def remain_Trunc_1.call {α : Type} (g : Bool → Int → Int → Option (Bool)) (ds : List D) (K : List D → Option α) : Option α := match ds with
  | [.bool a0, .int .u64 a1, .int .i64 a2] => (g a0 a1 a2).bind fun r => K (remain_Trunc_1.sg.enc r)
  | _ => none
theorem remain_Trunc_1.call_ok {α : Type} {n : Nat} (ds : List D) (K : List D → Option α) (r : α) (h : remain_Trunc_1.call remain_Trunc_1.f ds K = some r) : ∃ rs, K rs = some r ∧ CallD Tryd.prog HW 77 ds rs := by
  unfold remain_Trunc_1.call at h
  split at h
  · obtain ⟨x, hx, hk⟩ := Option.bind_eq_some_iff.1 h
    exact ⟨_, hk, remain_Trunc_1.ok (n := n) hx⟩
  · cases h
/-! ### nat_FromUint: function 67 -/
noncomputable def nat_FromUint.b0 (a0 : Int) : Option (List Int) := (if a0 = 0 then some ([] : List Int) else some [a0])
noncomputable def nat_FromUint.f (a0 : Int) : Option (List Int) := nat_FromUint.b0 a0
noncomputable def nat_FromUint.sg : Sig (List Int) := s1 (sRow .u64)
noncomputable def nat_FromUint.code : Code := (Tryd.f67.body).getD .skip
noncomputable def nat_FromUint.cfg : Cfg (List Int) := { T := tys, call := noCall }
noncomputable def nat_FromUint.cuts : List (Nat × List (Nat × Want)) := []
theorem nat_FromUint.e0 (n : Nat) (J : Nat → (ASt → Option (List Int)) → ASt → Option (List Int)) (a0 : Int) : afun (nat_FromUint.cfg) J nat_FromUint.cuts n nat_FromUint.code Tryd.f67.results.toList [false] [.int .u64 a0] nat_FromUint.sg.out = nat_FromUint.b0 a0 := by kernel_rfl
theorem nat_FromUint.eq (n : Nat) (a0 : Int) : afun (nat_FromUint.cfg) idJ nat_FromUint.cuts n nat_FromUint.code Tryd.f67.results.toList [false] [.int .u64 a0] nat_FromUint.sg.out = nat_FromUint.f a0 := (nat_FromUint.e0 n idJ a0).trans (rfl)
theorem nat_FromUint.ok {n : Nat} {a0 : Int} {r : List Int} (h : nat_FromUint.f a0 = some r) : CallD Tryd.prog HW 67 [.int .u64 a0] (nat_FromUint.sg.enc r) :=
  fun_some hwS Tryd.func67 (by kernel_rfl) (body := nat_FromUint.code) (by kernel_rfl) tys_ok (c := nat_FromUint.cfg) noCall_ok noW_ok (by kernel_rfl) (by kernel_rfl) (Nat.le_of_ble_eq_true (by kernel_rfl)) ((nat_FromUint.eq n a0).trans h)
noncomputable def nat_FromUint.call {α : Type} (g : Int → Option (List Int)) (ds : List D) (K : List D → Option α) : Option α := match ds with
  | [.int .u64 a0] => (g a0).bind fun r => K (nat_FromUint.sg.enc r)
  | _ => none
theorem nat_FromUint.call_ok {α : Type} {n : Nat} (ds : List D) (K : List D → Option α) (r : α) (h : nat_FromUint.call nat_FromUint.f ds K = some r) : ∃ rs, K rs = some r ∧ CallD Tryd.prog HW 67 ds rs := by
  unfold nat_FromUint.call at h
  split at h
  · obtain ⟨x, hx, hk⟩ := Option.bind_eq_some_iff.1 h
    exact ⟨_, hk, nat_FromUint.ok (n := n) hx⟩
  · cases h
/-! ### nat_size: function 53 -/
noncomputable def nat_size.b0 (k57 : List Int → Int → Option (Int)) (l0 : List Int) : Option (Int) := k57 l0 (ln l0)
noncomputable def nat_size.b57 (k57 : List Int → Int → Option (Int)) (x0 : List Int) (x1 : Int) : Option (Int) := (if x1 > 0 then (if 0 ≤ (wrap64 (x1 - 1)) then (if (wrap64 (x1 - 1)) < (ln x0) then (if (rd x0 (wrap64 (x1 - 1))) = 0 then k57 x0 (wrap64 (x1 - 1)) else some x1) else none) else none) else some x1)
noncomputable def nat_size.l57 (n : Nat) : Nat → List Int → Int → Option (Int)
  | 0, _, _ => none
  | m + 1, x0, x1 => nat_size.b57 (nat_size.l57 n m) x0 x1
noncomputable def nat_size.f (n : Nat) (l0 : List Int) : Option (Int) := nat_size.b0 (nat_size.l57 n n) l0
noncomputable def nat_size.sg : Sig (Int) := s1 (sInt .i64)
noncomputable def nat_size.code : Code := (Tryd.f53.body).getD .skip
noncomputable def nat_size.cfg : Cfg (Int) := { T := tys, call := noCall }
noncomputable def nat_size.cuts : List (Nat × List (Nat × Want)) := [(57, [(0, .keep), (3, .keep)])]
noncomputable def nat_size.s57 (x0 : List Int) (x1 : Int) : ASt := ⟨[(0, .ro .u64 x0), (3, .int .i64 x1)], []⟩
noncomputable def nat_size.A (n : Nat) (J : Nat → (ASt → Option (Int)) → ASt → Option (Int)) (q : Nat) (ms : List Nat) : ASt → Option (Int) := acont (nat_size.cfg) J nat_size.cuts n q nat_size.code 1 ms (aend (nat_size.cfg) Tryd.f53.results.toList [false] nat_size.sg.out)
theorem nat_size.e0 (n : Nat) (J : Nat → (ASt → Option (Int)) → ASt → Option (Int)) (l0 : List Int) : afun (nat_size.cfg) J nat_size.cuts n nat_size.code Tryd.f53.results.toList [false] [.ro .u64 l0] nat_size.sg.out = nat_size.b0 (fun y0 y1 => J 57 (nat_size.A n J 57 [n]) (nat_size.s57 y0 y1)) l0 := by kernel_rfl
theorem nat_size.e57 (n : Nat) (J : Nat → (ASt → Option (Int)) → ASt → Option (Int)) (m : Nat) (x0 : List Int) (x1 : Int) : nat_size.A n J 57 [m + 1] (nat_size.s57 x0 x1) = nat_size.b57 (fun y0 y1 => J 57 (nat_size.A n J 57 [m]) (nat_size.s57 y0 y1)) x0 x1 := by kernel_rfl
theorem nat_size.q57 (n : Nat) (m : Nat) : ∀ (x0 : List Int) (x1 : Int), nat_size.A n idJ 57 [m] (nat_size.s57 x0 x1) = nat_size.l57 n m x0 x1 := by
  induction m with
  | zero => intros; rfl
  | succ m ih =>
    intro x0 x1
    refine (nat_size.e57 n idJ m x0 x1).trans ?_
    exact congrFun (congrFun (congrArg nat_size.b57 (funext fun y0 => (funext fun y1 => ih y0 y1))) x0) x1
theorem nat_size.eq (n : Nat) (l0 : List Int) : afun (nat_size.cfg) idJ nat_size.cuts n nat_size.code Tryd.f53.results.toList [false] [.ro .u64 l0] nat_size.sg.out = nat_size.f n l0 := (nat_size.e0 n idJ l0).trans (congrFun (congrArg nat_size.b0 (funext fun y0 => (funext fun y1 => nat_size.q57 n n y0 y1))) l0)
theorem nat_size.ok {n : Nat} {l0 : List Int} {r : Int} (h : nat_size.f n l0 = some r) : CallD Tryd.prog HW 53 [.ro .u64 l0] (nat_size.sg.enc r) :=
  fun_some hwS Tryd.func53 (by kernel_rfl) (body := nat_size.code) (by kernel_rfl) tys_ok (c := nat_size.cfg) noCall_ok noW_ok (by kernel_rfl) (by kernel_rfl) (Nat.le_of_ble_eq_true (by kernel_rfl)) ((nat_size.eq n l0).trans h)
noncomputable def nat_size.call {α : Type} (g : List Int → Option (Int)) (ds : List D) (K : List D → Option α) : Option α := match ds with
  | [.ro .u64 l0] => (g l0).bind fun r => K (nat_size.sg.enc r)
  | _ => none
theorem nat_size.call_ok {α : Type} {n : Nat} (ds : List D) (K : List D → Option α) (r : α) (h : nat_size.call (nat_size.f n) ds K = some r) : ∃ rs, K rs = some r ∧ CallD Tryd.prog HW 53 ds rs := by
  unfold nat_size.call at h
  split at h
  · obtain ⟨x, hx, hk⟩ := Option.bind_eq_some_iff.1 h
    exact ⟨_, hk, nat_size.ok (n := n) hx⟩
  · cases h
/-! ### nat_big: function 52 -/
noncomputable def nat_big.b0 (c53 : List Int → Option (Int)) (l0 : List Int) : Option (Bool) := ((c53 l0).bind fun t1 => some (decide (t1 > 4096)))
noncomputable def nat_big.f (n : Nat) (l0 : List Int) : Option (Bool) := nat_big.b0 (nat_size.f n) l0
noncomputable def nat_big.sg : Sig (Bool) := s1 (sBool)
noncomputable def nat_big.code : Code := (Tryd.f52.body).getD .skip
noncomputable def nat_big.cfg (c53 : List Int → Option (Int)) : Cfg (Bool) := { T := tys, call := orCall 53 (nat_size.call c53) (noCall) }
noncomputable def nat_big.cuts : List (Nat × List (Nat × Want)) := []
theorem nat_big.e0 (c53 : List Int → Option (Int)) (n : Nat) (J : Nat → (ASt → Option (Bool)) → ASt → Option (Bool)) (l0 : List Int) : afun (nat_big.cfg c53) J nat_big.cuts n nat_big.code Tryd.f52.results.toList [false] [.ro .u64 l0] nat_big.sg.out = nat_big.b0 c53 l0 := by kernel_rfl
theorem nat_big.eq (n : Nat) (l0 : List Int) : afun (nat_big.cfg (nat_size.f n)) idJ nat_big.cuts n nat_big.code Tryd.f52.results.toList [false] [.ro .u64 l0] nat_big.sg.out = nat_big.f n l0 := (nat_big.e0 (nat_size.f n) n idJ l0).trans (rfl)
theorem nat_big.ok {n : Nat} {l0 : List Int} {r : Bool} (h : nat_big.f n l0 = some r) : CallD Tryd.prog HW 52 [.ro .u64 l0] (nat_big.sg.enc r) :=
  fun_some hwS Tryd.func52 (by kernel_rfl) (body := nat_big.code) (by kernel_rfl) tys_ok (c := nat_big.cfg (nat_size.f n)) (orCall_ok (nat_size.call_ok (n := n)) noCall_ok) noW_ok (by kernel_rfl) (by kernel_rfl) (Nat.le_of_ble_eq_true (by kernel_rfl)) ((nat_big.eq n l0).trans h)
noncomputable def nat_big.call {α : Type} (g : List Int → Option (Bool)) (ds : List D) (K : List D → Option α) : Option α := match ds with
  | [.ro .u64 l0] => (g l0).bind fun r => K (nat_big.sg.enc r)
  | _ => none
theorem nat_big.call_ok {α : Type} {n : Nat} (ds : List D) (K : List D → Option α) (r : α) (h : nat_big.call (nat_big.f n) ds K = some r) : ∃ rs, K rs = some r ∧ CallD Tryd.prog HW 52 ds rs := by
  unfold nat_big.call at h
  split at h
  · obtain ⟨x, hx, hk⟩ := Option.bind_eq_some_iff.1 h
    exact ⟨_, hk, nat_big.ok (n := n) hx⟩
  · cases h
/-! ### bits_Mul64: function 59 -/
noncomputable def bits_Mul64.b0 (a0 : Int) (a1 : Int) : Option (Int × Int) := some (IntKind.u64.wrap ((IntKind.u64.wrap ((IntKind.u64.wrap ((a0 / 4294967296) * (a1 / 4294967296))) + ((IntKind.u64.wrap ((IntKind.u64.wrap ((a0 / 4294967296) * (Go.bits .and .u64 a1 4294967295))) + ((IntKind.u64.wrap ((Go.bits .and .u64 a0 4294967295) * (Go.bits .and .u64 a1 4294967295))) / 4294967296))) / 4294967296))) + ((IntKind.u64.wrap ((Go.bits .and .u64 (IntKind.u64.wrap ((IntKind.u64.wrap ((a0 / 4294967296) * (Go.bits .and .u64 a1 4294967295))) + ((IntKind.u64.wrap ((Go.bits .and .u64 a0 4294967295) * (Go.bits .and .u64 a1 4294967295))) / 4294967296))) 4294967295) + (IntKind.u64.wrap ((Go.bits .and .u64 a0 4294967295) * (a1 / 4294967296))))) / 4294967296)), IntKind.u64.wrap (a0 * a1))
noncomputable def bits_Mul64.f (a0 : Int) (a1 : Int) : Option (Int × Int) := bits_Mul64.b0 a0 a1
noncomputable def bits_Mul64.sg : Sig (Int × Int) := s2 (sInt .u64) (s1 (sInt .u64))
noncomputable def bits_Mul64.code : Code := (Tryd.f59.body).getD .skip
noncomputable def bits_Mul64.cfg : Cfg (Int × Int) := { T := tys, call := noCall }
noncomputable def bits_Mul64.cuts : List (Nat × List (Nat × Want)) := []
theorem bits_Mul64.e0 (n : Nat) (J : Nat → (ASt → Option (Int × Int)) → ASt → Option (Int × Int)) (a0 : Int) (a1 : Int) : afun (bits_Mul64.cfg) J bits_Mul64.cuts n bits_Mul64.code Tryd.f59.results.toList [false, false] [.int .u64 a0, .int .u64 a1] bits_Mul64.sg.out = bits_Mul64.b0 a0 a1 := by kernel_rfl
theorem bits_Mul64.eq (n : Nat) (a0 : Int) (a1 : Int) : afun (bits_Mul64.cfg) idJ bits_Mul64.cuts n bits_Mul64.code Tryd.f59.results.toList [false, false] [.int .u64 a0, .int .u64 a1] bits_Mul64.sg.out = bits_Mul64.f a0 a1 := (bits_Mul64.e0 n idJ a0 a1).trans (rfl)
theorem bits_Mul64.ok {n : Nat} {a0 : Int} {a1 : Int} {r : Int × Int} (h : bits_Mul64.f a0 a1 = some r) : CallD Tryd.prog HW 59 [.int .u64 a0, .int .u64 a1] (bits_Mul64.sg.enc r) :=
  fun_some hwS Tryd.func59 (by kernel_rfl) (body := bits_Mul64.code) (by kernel_rfl) tys_ok (c := bits_Mul64.cfg) noCall_ok noW_ok (by kernel_rfl) (by kernel_rfl) (Nat.le_of_ble_eq_true (by kernel_rfl)) ((bits_Mul64.eq n a0 a1).trans h)
noncomputable def bits_Mul64.call {α : Type} (g : Int → Int → Option (Int × Int)) (ds : List D) (K : List D → Option α) : Option α := match ds with
  | [.int .u64 a0, .int .u64 a1] => (g a0 a1).bind fun r => K (bits_Mul64.sg.enc r)
  | _ => none
theorem bits_Mul64.call_ok {α : Type} {n : Nat} (ds : List D) (K : List D → Option α) (r : α) (h : bits_Mul64.call bits_Mul64.f ds K = some r) : ∃ rs, K rs = some r ∧ CallD Tryd.prog HW 59 ds rs := by
  unfold bits_Mul64.call at h
  split at h
  · obtain ⟨x, hx, hk⟩ := Option.bind_eq_some_iff.1 h
    exact ⟨_, hk, bits_Mul64.ok (n := n) hx⟩
  · cases h
/-! ### nat_cut: function 54 -/
noncomputable def nat_cut.b0 (c53 : List Int → Option (Int)) (l0 : List Int) : Option (List Int × Int) := ((c53 l0).bind fun t1 => (if t1 > 4096 then some (([] : List Int), 2) else (if 0 ≤ t1 then (if t1 ≤ t1 then (if t1 ≤ (ln l0) then ((some (l0.take t1.toNat) : Option (List Int)).bind fun y2 => some (y2, 0)) else none) else none) else none)))
noncomputable def nat_cut.f (n : Nat) (l0 : List Int) : Option (List Int × Int) := nat_cut.b0 (nat_size.f n) l0
noncomputable def nat_cut.sg : Sig (List Int × Int) := s2 (sRow .u64) (s1 (sInt .i64))
noncomputable def nat_cut.code : Code := (Tryd.f54.body).getD .skip
noncomputable def nat_cut.cfg (c53 : List Int → Option (Int)) : Cfg (List Int × Int) := { T := tys, call := orCall 53 (nat_size.call c53) (noCall) }
noncomputable def nat_cut.cuts : List (Nat × List (Nat × Want)) := []
theorem nat_cut.e0 (c53 : List Int → Option (Int)) (n : Nat) (J : Nat → (ASt → Option (List Int × Int)) → ASt → Option (List Int × Int)) (l0 : List Int) : afun (nat_cut.cfg c53) J nat_cut.cuts n nat_cut.code Tryd.f54.results.toList [false, false] [.ro .u64 l0] nat_cut.sg.out = nat_cut.b0 c53 l0 := by kernel_rfl
theorem nat_cut.eq (n : Nat) (l0 : List Int) : afun (nat_cut.cfg (nat_size.f n)) idJ nat_cut.cuts n nat_cut.code Tryd.f54.results.toList [false, false] [.ro .u64 l0] nat_cut.sg.out = nat_cut.f n l0 := (nat_cut.e0 (nat_size.f n) n idJ l0).trans (rfl)
theorem nat_cut.ok {n : Nat} {l0 : List Int} {r : List Int × Int} (h : nat_cut.f n l0 = some r) : CallD Tryd.prog HW 54 [.ro .u64 l0] (nat_cut.sg.enc r) :=
  fun_some hwS Tryd.func54 (by kernel_rfl) (body := nat_cut.code) (by kernel_rfl) tys_ok (c := nat_cut.cfg (nat_size.f n)) (orCall_ok (nat_size.call_ok (n := n)) noCall_ok) noW_ok (by kernel_rfl) (by kernel_rfl) (Nat.le_of_ble_eq_true (by kernel_rfl)) ((nat_cut.eq n l0).trans h)
noncomputable def nat_cut.call {α : Type} (g : List Int → Option (List Int × Int)) (ds : List D) (K : List D → Option α) : Option α := match ds with
  | [.ro .u64 l0] => (g l0).bind fun r => K (nat_cut.sg.enc r)
  | _ => none
theorem nat_cut.call_ok {α : Type} {n : Nat} (ds : List D) (K : List D → Option α) (r : α) (h : nat_cut.call (nat_cut.f n) ds K = some r) : ∃ rs, K rs = some r ∧ CallD Tryd.prog HW 54 ds rs := by
  unfold nat_cut.call at h
  split at h
  · obtain ⟨x, hx, hk⟩ := Option.bind_eq_some_iff.1 h
    exact ⟨_, hk, nat_cut.ok (n := n) hx⟩
  · cases h
/-! ### nat_Shl: function 19 -/
noncomputable def nat_Shl.b0 (c52 : List Int → Option (Bool)) (c53 : List Int → Option (Int)) (c54 : List Int → Option (List Int × Int)) (c59 : Int → Int → Option (Int × Int)) (k8181 : Int → Int → List Int → Int → Int → List Int → Option (List Int × Int)) (l0 : List Int) (a1 : Int) : Option (List Int × Int) := ((c52 l0).bind fun t1 => (if t1 = true then some (([] : List Int), 2) else (if a1 < 0 then some (([] : List Int), 1) else ((c53 l0).bind fun t2 => (if 0 ≤ t2 then (if t2 ≤ (ln l0) then ((some (l0.take t2.toNat) : Option (List Int)).bind fun y3 => (if (ln y3) = 0 then some (([] : List Int), 0) else (if a1 > 262144 then some (([] : List Int), 2) else (if 0 ≤ (wrap64 ((wrap64 ((wrap64 (Int.tdiv a1 64)) + (ln y3))) + 1)) then (if (wrap64 ((wrap64 ((wrap64 (Int.tdiv a1 64)) + (ln y3))) + 1)).toNat ≤ 35184372088832 then k8181 (wrap64 (Int.tdiv a1 64)) (IntKind.u64.wrap (Int.tmod a1 64)) y3 (ln y3) 0 (List.replicate (wrap64 ((wrap64 ((wrap64 (Int.tdiv a1 64)) + (ln y3))) + 1)).toNat (0 : Int)) else none) else none)))) else none) else none)))))
noncomputable def nat_Shl.b1023 (c52 : List Int → Option (Bool)) (c53 : List Int → Option (Int)) (c54 : List Int → Option (List Int × Int)) (c59 : Int → Int → Option (Int × Int)) (x0 : List Int) : Option (List Int × Int) := ((c54 x0).bind fun t1 => some (t1.1, t1.2))
noncomputable def nat_Shl.b8181 (c52 : List Int → Option (Bool)) (c53 : List Int → Option (Int)) (c54 : List Int → Option (List Int × Int)) (c59 : Int → Int → Option (Int × Int)) (k1023 : List Int → Option (List Int × Int)) (k8181 : Int → Int → List Int → Int → Int → List Int → Option (List Int × Int)) (x0 : Int) (x1 : Int) (x2 : List Int) (x3 : Int) (x4 : Int) (x5 : List Int) : Option (List Int × Int) := (if x4 < x3 then (if 0 ≤ x4 then (if x4 < (ln x2) then (if 0 ≤ x1 then ((c59 (rd x2 x4) (shl .u64 1 x1)).bind fun t1 => (if 0 ≤ (wrap64 (x0 + x4)) then (if (wrap64 (x0 + x4)) < (ln x5) then (if 0 ≤ (wrap64 (x0 + x4)) then (if (wrap64 (x0 + x4)) < (ln x5) then (if 0 ≤ (wrap64 ((wrap64 (x0 + x4)) + 1)) then (if (wrap64 ((wrap64 (x0 + x4)) + 1)) < (ln (x5.set (wrap64 (x0 + x4) : Int).toNat (Go.bits .or .u64 (rd x5 (wrap64 (x0 + x4))) t1.2))) then k8181 x0 x1 x2 x3 (wrap64 (x4 + 1)) ((x5.set (wrap64 (x0 + x4) : Int).toNat (Go.bits .or .u64 (rd x5 (wrap64 (x0 + x4))) t1.2)).set (wrap64 ((wrap64 (x0 + x4)) + 1) : Int).toNat t1.1) else none) else none) else none) else none) else none) else none)) else none) else none) else none) else k1023 x5)
noncomputable def nat_Shl.l1023 (n : Nat) (x0 : List Int) : Option (List Int × Int) := nat_Shl.b1023 (nat_big.f n) (nat_size.f n) (nat_cut.f n) bits_Mul64.f x0
noncomputable def nat_Shl.l8181 (n : Nat) : Nat → Int → Int → List Int → Int → Int → List Int → Option (List Int × Int)
  | 0, _, _, _, _, _, _ => none
  | m + 1, x0, x1, x2, x3, x4, x5 => nat_Shl.b8181 (nat_big.f n) (nat_size.f n) (nat_cut.f n) bits_Mul64.f (nat_Shl.l1023 n) (nat_Shl.l8181 n m) x0 x1 x2 x3 x4 x5
noncomputable def nat_Shl.f (n : Nat) (l0 : List Int) (a1 : Int) : Option (List Int × Int) := nat_Shl.b0 (nat_big.f n) (nat_size.f n) (nat_cut.f n) bits_Mul64.f (nat_Shl.l8181 n n) l0 a1
noncomputable def nat_Shl.sg : Sig (List Int × Int) := s2 (sRow .u64) (s1 (sInt .i64))
noncomputable def nat_Shl.code : Code := (Tryd.f19.body).getD .skip
noncomputable def nat_Shl.cfg (c52 : List Int → Option (Bool)) (c53 : List Int → Option (Int)) (c54 : List Int → Option (List Int × Int)) (c59 : Int → Int → Option (Int × Int)) : Cfg (List Int × Int) := { T := tys, call := orCall 52 (nat_big.call c52) (orCall 53 (nat_size.call c53) (orCall 54 (nat_cut.call c54) (orCall 59 (bits_Mul64.call c59) (noCall)))) }
noncomputable def nat_Shl.cuts : List (Nat × List (Nat × Want)) := [(1023, [(8, .keep)]), (8181, [(6, .keep), (7, .keep), (8, .keep), (37, .keep), (38, .keep), (39, .keep)])]
noncomputable def nat_Shl.s1023 (x0 : List Int) : ASt := ⟨[(8, .own 0)], [.ints 22 .u64 x0]⟩
noncomputable def nat_Shl.s8181 (x0 : Int) (x1 : Int) (x2 : List Int) (x3 : Int) (x4 : Int) (x5 : List Int) : ASt := ⟨[(6, .int .i64 x0), (7, .int .u64 x1), (8, .own 0), (37, .ro .u64 x2), (38, .int .i64 x3), (39, .int .i64 x4)], [.ints 22 .u64 x5]⟩
noncomputable def nat_Shl.A (c52 : List Int → Option (Bool)) (c53 : List Int → Option (Int)) (c54 : List Int → Option (List Int × Int)) (c59 : Int → Int → Option (Int × Int)) (n : Nat) (J : Nat → (ASt → Option (List Int × Int)) → ASt → Option (List Int × Int)) (q : Nat) (ms : List Nat) : ASt → Option (List Int × Int) := acont (nat_Shl.cfg c52 c53 c54 c59) J nat_Shl.cuts n q nat_Shl.code 1 ms (aend (nat_Shl.cfg c52 c53 c54 c59) Tryd.f19.results.toList [false, false] nat_Shl.sg.out)
theorem nat_Shl.e0 (c52 : List Int → Option (Bool)) (c53 : List Int → Option (Int)) (c54 : List Int → Option (List Int × Int)) (c59 : Int → Int → Option (Int × Int)) (n : Nat) (J : Nat → (ASt → Option (List Int × Int)) → ASt → Option (List Int × Int)) (l0 : List Int) (a1 : Int) : afun (nat_Shl.cfg c52 c53 c54 c59) J nat_Shl.cuts n nat_Shl.code Tryd.f19.results.toList [false, false] [.ro .u64 l0, .int .i64 a1] nat_Shl.sg.out = nat_Shl.b0 c52 c53 c54 c59 (fun y0 y1 y2 y3 y4 y5 => J 8181 (nat_Shl.A c52 c53 c54 c59 n J 8181 [n]) (nat_Shl.s8181 y0 y1 y2 y3 y4 y5)) l0 a1 := by kernel_rfl
theorem nat_Shl.e1023 (c52 : List Int → Option (Bool)) (c53 : List Int → Option (Int)) (c54 : List Int → Option (List Int × Int)) (c59 : Int → Int → Option (Int × Int)) (n : Nat) (J : Nat → (ASt → Option (List Int × Int)) → ASt → Option (List Int × Int)) (x0 : List Int) : nat_Shl.A c52 c53 c54 c59 n J 1023 [] (nat_Shl.s1023 x0) = nat_Shl.b1023 c52 c53 c54 c59 x0 := by kernel_rfl
theorem nat_Shl.e8181 (c52 : List Int → Option (Bool)) (c53 : List Int → Option (Int)) (c54 : List Int → Option (List Int × Int)) (c59 : Int → Int → Option (Int × Int)) (n : Nat) (J : Nat → (ASt → Option (List Int × Int)) → ASt → Option (List Int × Int)) (m : Nat) (x0 : Int) (x1 : Int) (x2 : List Int) (x3 : Int) (x4 : Int) (x5 : List Int) : nat_Shl.A c52 c53 c54 c59 n J 8181 [m + 1] (nat_Shl.s8181 x0 x1 x2 x3 x4 x5) = nat_Shl.b8181 c52 c53 c54 c59 (fun y0 => J 1023 (nat_Shl.A c52 c53 c54 c59 n J 1023 []) (nat_Shl.s1023 y0)) (fun y0 y1 y2 y3 y4 y5 => J 8181 (nat_Shl.A c52 c53 c54 c59 n J 8181 [m]) (nat_Shl.s8181 y0 y1 y2 y3 y4 y5)) x0 x1 x2 x3 x4 x5 := by kernel_rfl
theorem nat_Shl.q1023 (n : Nat) (x0 : List Int) : nat_Shl.A (nat_big.f n) (nat_size.f n) (nat_cut.f n) bits_Mul64.f n idJ 1023 [] (nat_Shl.s1023 x0) = nat_Shl.l1023 n x0 := (nat_Shl.e1023 (nat_big.f n) (nat_size.f n) (nat_cut.f n) bits_Mul64.f n idJ x0).trans (rfl)
theorem nat_Shl.q8181 (n : Nat) (m : Nat) : ∀ (x0 : Int) (x1 : Int) (x2 : List Int) (x3 : Int) (x4 : Int) (x5 : List Int), nat_Shl.A (nat_big.f n) (nat_size.f n) (nat_cut.f n) bits_Mul64.f n idJ 8181 [m] (nat_Shl.s8181 x0 x1 x2 x3 x4 x5) = nat_Shl.l8181 n m x0 x1 x2 x3 x4 x5 := by
  induction m with
  | zero => intros; rfl
  | succ m ih =>
    intro x0 x1 x2 x3 x4 x5
    refine (nat_Shl.e8181 (nat_big.f n) (nat_size.f n) (nat_cut.f n) bits_Mul64.f n idJ m x0 x1 x2 x3 x4 x5).trans ?_
    exact congrFun (congrFun (congrFun (congrFun (congrFun (congrFun (congr (congrArg (nat_Shl.b8181 (nat_big.f n) (nat_size.f n) (nat_cut.f n) bits_Mul64.f) (funext fun y0 => nat_Shl.q1023 n y0)) (funext fun y0 => (funext fun y1 => (funext fun y2 => (funext fun y3 => (funext fun y4 => (funext fun y5 => ih y0 y1 y2 y3 y4 y5))))))) x0) x1) x2) x3) x4) x5
theorem nat_Shl.eq (n : Nat) (l0 : List Int) (a1 : Int) : afun (nat_Shl.cfg (nat_big.f n) (nat_size.f n) (nat_cut.f n) bits_Mul64.f) idJ nat_Shl.cuts n nat_Shl.code Tryd.f19.results.toList [false, false] [.ro .u64 l0, .int .i64 a1] nat_Shl.sg.out = nat_Shl.f n l0 a1 := (nat_Shl.e0 (nat_big.f n) (nat_size.f n) (nat_cut.f n) bits_Mul64.f n idJ l0 a1).trans (congrFun (congrFun (congrArg (nat_Shl.b0 (nat_big.f n) (nat_size.f n) (nat_cut.f n) bits_Mul64.f) (funext fun y0 => (funext fun y1 => (funext fun y2 => (funext fun y3 => (funext fun y4 => (funext fun y5 => nat_Shl.q8181 n n y0 y1 y2 y3 y4 y5))))))) l0) a1)
theorem nat_Shl.ok {n : Nat} {l0 : List Int} {a1 : Int} {r : List Int × Int} (h : nat_Shl.f n l0 a1 = some r) : CallD Tryd.prog HW 19 [.ro .u64 l0, .int .i64 a1] (nat_Shl.sg.enc r) :=
  fun_some hwS Tryd.func19 (by kernel_rfl) (body := nat_Shl.code) (by kernel_rfl) tys_ok (c := nat_Shl.cfg (nat_big.f n) (nat_size.f n) (nat_cut.f n) bits_Mul64.f) (orCall_ok (nat_big.call_ok (n := n)) (orCall_ok (nat_size.call_ok (n := n)) (orCall_ok (nat_cut.call_ok (n := n)) (orCall_ok (bits_Mul64.call_ok (n := n)) noCall_ok)))) noW_ok (by kernel_rfl) (by kernel_rfl) (Nat.le_of_ble_eq_true (by kernel_rfl)) ((nat_Shl.eq n l0 a1).trans h)
noncomputable def nat_Shl.call {α : Type} (g : List Int → Int → Option (List Int × Int)) (ds : List D) (K : List D → Option α) : Option α := match ds with
  | [.ro .u64 l0, .int .i64 a1] => (g l0 a1).bind fun r => K (nat_Shl.sg.enc r)
  | _ => none
theorem nat_Shl.call_ok {α : Type} {n : Nat} (ds : List D) (K : List D → Option α) (r : α) (h : nat_Shl.call (nat_Shl.f n) ds K = some r) : ∃ rs, K rs = some r ∧ CallD Tryd.prog HW 19 ds rs := by
  unfold nat_Shl.call at h
  split at h
  · obtain ⟨x, hx, hk⟩ := Option.bind_eq_some_iff.1 h
    exact ⟨_, hk, nat_Shl.ok (n := n) hx⟩
  · cases h
/-! ### ieee_near: function 85 -/
noncomputable def ieee_near.b0 (a0 : Int) : Option (Int) := some (mx (-1099511627776) (mn 1099511627776 a0))
noncomputable def ieee_near.f (a0 : Int) : Option (Int) := ieee_near.b0 a0
noncomputable def ieee_near.sg : Sig (Int) := s1 (sInt .i64)
noncomputable def ieee_near.code : Code := (Tryd.f85.body).getD .skip
noncomputable def ieee_near.cfg : Cfg (Int) := { T := tys, call := noCall }
noncomputable def ieee_near.cuts : List (Nat × List (Nat × Want)) := []
theorem ieee_near.e0 (n : Nat) (J : Nat → (ASt → Option (Int)) → ASt → Option (Int)) (a0 : Int) : afun (ieee_near.cfg) J ieee_near.cuts n ieee_near.code Tryd.f85.results.toList [false] [.int .i64 a0] ieee_near.sg.out = ieee_near.b0 a0 := by kernel_rfl
theorem ieee_near.eq (n : Nat) (a0 : Int) : afun (ieee_near.cfg) idJ ieee_near.cuts n ieee_near.code Tryd.f85.results.toList [false] [.int .i64 a0] ieee_near.sg.out = ieee_near.f a0 := (ieee_near.e0 n idJ a0).trans (rfl)
theorem ieee_near.ok {n : Nat} {a0 : Int} {r : Int} (h : ieee_near.f a0 = some r) : CallD Tryd.prog HW 85 [.int .i64 a0] (ieee_near.sg.enc r) :=
  fun_some hwS Tryd.func85 (by kernel_rfl) (body := ieee_near.code) (by kernel_rfl) tys_ok (c := ieee_near.cfg) noCall_ok noW_ok (by kernel_rfl) (by kernel_rfl) (Nat.le_of_ble_eq_true (by kernel_rfl)) ((ieee_near.eq n a0).trans h)
noncomputable def ieee_near.call {α : Type} (g : Int → Option (Int)) (ds : List D) (K : List D → Option α) : Option α := match ds with
  | [.int .i64 a0] => (g a0).bind fun r => K (ieee_near.sg.enc r)
  | _ => none
theorem ieee_near.call_ok {α : Type} {n : Nat} (ds : List D) (K : List D → Option α) (r : α) (h : ieee_near.call ieee_near.f ds K = some r) : ∃ rs, K rs = some r ∧ CallD Tryd.prog HW 85 ds rs := by
  unfold ieee_near.call at h
  split at h
  · obtain ⟨x, hx, hk⟩ := Option.bind_eq_some_iff.1 h
    exact ⟨_, hk, ieee_near.ok (n := n) hx⟩
  · cases h
/-! ### bits_Len64: function 64 -/
def bits_Len64.f (a0 : Int) : Option (Int) := if 0 ≤ a0 ∧ a0 ≤ 18446744073709551615 then some (Lib.bitLen a0.toNat : Nat) else none
def bits_Len64.sg : Sig (Int) := s1 (sInt .i64)
theorem bits_Len64.ok {a0 : Int} {r : Int} (h : bits_Len64.f a0 = some r) : CallD Tryd.prog HW 64 [.int .u64 a0] (bits_Len64.sg.enc r) := by
  unfold bits_Len64.f at h
  split at h
  · rename_i hh
    obtain rfl := Option.some.inj h
    refine calld_scal rfl rfl fun w _ => .inl ⟨_, Tryd.func64, by kernel_rfl, by kernel_rfl, (Go.Proofs.YtjmcfampoajbmaaDoorG.len64 a0 w hh.1 hh.2).mono ?_⟩
    rintro e w' ⟨rfl, rfl⟩
    exact ⟨_, rfl, rfl, rfl⟩
  · cases h
noncomputable def bits_Len64.call {α : Type} (g : Int → Option (Int)) (ds : List D) (K : List D → Option α) : Option α := match ds with
  | [.int .u64 a0] => (g a0).bind fun r => K (bits_Len64.sg.enc r)
  | _ => none
theorem bits_Len64.call_ok {α : Type} {n : Nat} (ds : List D) (K : List D → Option α) (r : α) (h : bits_Len64.call bits_Len64.f ds K = some r) : ∃ rs, K rs = some r ∧ CallD Tryd.prog HW 64 ds rs := by
  unfold bits_Len64.call at h
  split at h
  · obtain ⟨x, hx, hk⟩ := Option.bind_eq_some_iff.1 h
    exact ⟨_, hk, bits_Len64.ok hx⟩
  · cases h
/-! ### nat_BitLen: function 56 -/
noncomputable def nat_BitLen.b0 (c53 : List Int → Option (Int)) (c64 : Int → Option (Int)) (l0 : List Int) : Option (Int) := ((c53 l0).bind fun t1 => (if t1 = 0 then some 0 else (if 0 ≤ (wrap64 (t1 - 1)) then (if (wrap64 (t1 - 1)) < (ln l0) then ((c64 (rd l0 (wrap64 (t1 - 1)))).bind fun t2 => some (wrap64 ((wrap64 (64 * (wrap64 (t1 - 1)))) + t2))) else none) else none)))
noncomputable def nat_BitLen.f (n : Nat) (l0 : List Int) : Option (Int) := nat_BitLen.b0 (nat_size.f n) bits_Len64.f l0
noncomputable def nat_BitLen.sg : Sig (Int) := s1 (sInt .i64)
noncomputable def nat_BitLen.code : Code := (Tryd.f56.body).getD .skip
noncomputable def nat_BitLen.cfg (c53 : List Int → Option (Int)) (c64 : Int → Option (Int)) : Cfg (Int) := { T := tys, call := orCall 53 (nat_size.call c53) (orCall 64 (bits_Len64.call c64) (noCall)) }
noncomputable def nat_BitLen.cuts : List (Nat × List (Nat × Want)) := []
theorem nat_BitLen.e0 (c53 : List Int → Option (Int)) (c64 : Int → Option (Int)) (n : Nat) (J : Nat → (ASt → Option (Int)) → ASt → Option (Int)) (l0 : List Int) : afun (nat_BitLen.cfg c53 c64) J nat_BitLen.cuts n nat_BitLen.code Tryd.f56.results.toList [false] [.ro .u64 l0] nat_BitLen.sg.out = nat_BitLen.b0 c53 c64 l0 := by kernel_rfl
theorem nat_BitLen.eq (n : Nat) (l0 : List Int) : afun (nat_BitLen.cfg (nat_size.f n) bits_Len64.f) idJ nat_BitLen.cuts n nat_BitLen.code Tryd.f56.results.toList [false] [.ro .u64 l0] nat_BitLen.sg.out = nat_BitLen.f n l0 := (nat_BitLen.e0 (nat_size.f n) bits_Len64.f n idJ l0).trans (rfl)
theorem nat_BitLen.ok {n : Nat} {l0 : List Int} {r : Int} (h : nat_BitLen.f n l0 = some r) : CallD Tryd.prog HW 56 [.ro .u64 l0] (nat_BitLen.sg.enc r) :=
  fun_some hwS Tryd.func56 (by kernel_rfl) (body := nat_BitLen.code) (by kernel_rfl) tys_ok (c := nat_BitLen.cfg (nat_size.f n) bits_Len64.f) (orCall_ok (nat_size.call_ok (n := n)) (orCall_ok (bits_Len64.call_ok (n := n)) noCall_ok)) noW_ok (by kernel_rfl) (by kernel_rfl) (Nat.le_of_ble_eq_true (by kernel_rfl)) ((nat_BitLen.eq n l0).trans h)
noncomputable def nat_BitLen.call {α : Type} (g : List Int → Option (Int)) (ds : List D) (K : List D → Option α) : Option α := match ds with
  | [.ro .u64 l0] => (g l0).bind fun r => K (nat_BitLen.sg.enc r)
  | _ => none
theorem nat_BitLen.call_ok {α : Type} {n : Nat} (ds : List D) (K : List D → Option α) (r : α) (h : nat_BitLen.call (nat_BitLen.f n) ds K = some r) : ∃ rs, K rs = some r ∧ CallD Tryd.prog HW 56 ds rs := by
  unfold nat_BitLen.call at h
  split at h
  · obtain ⟨x, hx, hk⟩ := Option.bind_eq_some_iff.1 h
    exact ⟨_, hk, nat_BitLen.ok (n := n) hx⟩
  · cases h
/-! ### bits_TrailingZeros64: function 50 -/
def bits_TrailingZeros64.f (a0 : Int) : Option (Int) := if 0 ≤ a0 ∧ a0 < 18446744073709551616 then some (Lib.ctz 64 a0.toNat : Nat) else none
def bits_TrailingZeros64.sg : Sig (Int) := s1 (sInt .i64)
set_option maxHeartbeats 1000000 in
theorem bits_TrailingZeros64.core (x k idx : Nat) (w : World) (hx0 : ((x : Int) == 0) = false)
    (key : IntKind.u64.wrap (bits BinOp.and IntKind.u64 (x : Int) (IntKind.u64.wrap (-(x : Int))) * 285870213051353865) / 288230376151711744 = (idx : Int))
    (hi : idx < 64) (hk : k < 64) (hcell : w.cell? ⟨0, idx, none⟩ = some (.int .u8 k)) :
    Calls Tryd.prog 50 #[.int .u64 x] w fun e w' => e = .returned (.int .i64 k) ∧ w' = w := by
  go_enter Tryd.func50, Tryd.ntmps50
  go_wp2_with (simp only [key])
  go_ret
  exact ⟨rfl, rfl⟩
theorem bits_TrailingZeros64.zero (w : World) : Calls Tryd.prog 50 #[.int .u64 0] w fun e w' => e = .returned (.int .i64 64) ∧ w' = w := by
  go_enter Tryd.func50, Tryd.ntmps50
  go_wp2
  go_ret
  exact ⟨rfl, rfl⟩
theorem bits_TrailingZeros64.ok {a0 : Int} {r : Int} (h : bits_TrailingZeros64.f a0 = some r) : CallD Tryd.prog HW 50 [.int .u64 a0] (bits_TrailingZeros64.sg.enc r) := by
  unfold bits_TrailingZeros64.f at h
  split at h
  · rename_i hh
    obtain rfl := Option.some.inj h
    refine calld_scal rfl rfl fun w hw => .inl ⟨_, Tryd.func50, by kernel_rfl, by kernel_rfl, ?_⟩
    obtain ⟨x, rfl⟩ := Int.eq_ofNat_of_zero_le hh.1
    have hx : x < 18446744073709551616 := by omega
    show Calls Tryd.prog 50 #[.int .u64 x] w _
    rw [Int.toNat_natCast]
    by_cases hx0 : x = 0
    · subst hx0
      refine (bits_TrailingZeros64.zero w).mono ?_
      rintro e w' ⟨rfl, rfl⟩
      exact ⟨_, rfl, rfl, rfl⟩
    · obtain ⟨hlow, hk⟩ := Lib.lowest_bit 64 x hx0 hx
      obtain ⟨hi, htab⟩ := Lib.deBruijn64_at _ hk
      have hcell := hw _ hi
      rw [htab] at hcell
      refine (bits_TrailingZeros64.core x _ _ w (by simp; omega) (tz64_key x _ hx hx0 hlow) hi hk hcell).mono ?_
      rintro e w' ⟨rfl, rfl⟩
      exact ⟨_, rfl, rfl, rfl⟩
  · cases h
noncomputable def bits_TrailingZeros64.call {α : Type} (g : Int → Option (Int)) (ds : List D) (K : List D → Option α) : Option α := match ds with
  | [.int .u64 a0] => (g a0).bind fun r => K (bits_TrailingZeros64.sg.enc r)
  | _ => none
theorem bits_TrailingZeros64.call_ok {α : Type} {n : Nat} (ds : List D) (K : List D → Option α) (r : α) (h : bits_TrailingZeros64.call bits_TrailingZeros64.f ds K = some r) : ∃ rs, K rs = some r ∧ CallD Tryd.prog HW 50 ds rs := by
  unfold bits_TrailingZeros64.call at h
  split at h
  · obtain ⟨x, hx, hk⟩ := Option.bind_eq_some_iff.1 h
    exact ⟨_, hk, bits_TrailingZeros64.ok hx⟩
  · cases h
/-! ### nat_Trail: function 16 -/
noncomputable def nat_Trail.b0 (c50 : Int → Option (Int)) (k53 : List Int → Int → Int → Option (Int)) (l0 : List Int) : Option (Int) := k53 l0 (ln l0) 0
noncomputable def nat_Trail.b53 (c50 : Int → Option (Int)) (k53 : List Int → Int → Int → Option (Int)) (x0 : List Int) (x1 : Int) (x2 : Int) : Option (Int) := (if x2 < x1 then (if 0 ≤ x2 then (if x2 < (ln x0) then (if ¬ (rd x0 x2) = 0 then ((c50 (rd x0 x2)).bind fun t1 => some (wrap64 ((wrap64 (64 * x2)) + t1))) else k53 x0 x1 (wrap64 (x2 + 1))) else none) else none) else some 0)
noncomputable def nat_Trail.l53 (n : Nat) : Nat → List Int → Int → Int → Option (Int)
  | 0, _, _, _ => none
  | m + 1, x0, x1, x2 => nat_Trail.b53 bits_TrailingZeros64.f (nat_Trail.l53 n m) x0 x1 x2
noncomputable def nat_Trail.f (n : Nat) (l0 : List Int) : Option (Int) := nat_Trail.b0 bits_TrailingZeros64.f (nat_Trail.l53 n n) l0
noncomputable def nat_Trail.sg : Sig (Int) := s1 (sInt .i64)
noncomputable def nat_Trail.code : Code := (Tryd.f16.body).getD .skip
noncomputable def nat_Trail.cfg (c50 : Int → Option (Int)) : Cfg (Int) := { T := tys, call := orCall 50 (bits_TrailingZeros64.call c50) (noCall) }
noncomputable def nat_Trail.cuts : List (Nat × List (Nat × Want)) := [(53, [(5, .keep), (6, .keep), (7, .keep)])]
noncomputable def nat_Trail.s53 (x0 : List Int) (x1 : Int) (x2 : Int) : ASt := ⟨[(5, .ro .u64 x0), (6, .int .i64 x1), (7, .int .i64 x2)], []⟩
noncomputable def nat_Trail.A (c50 : Int → Option (Int)) (n : Nat) (J : Nat → (ASt → Option (Int)) → ASt → Option (Int)) (q : Nat) (ms : List Nat) : ASt → Option (Int) := acont (nat_Trail.cfg c50) J nat_Trail.cuts n q nat_Trail.code 1 ms (aend (nat_Trail.cfg c50) Tryd.f16.results.toList [false] nat_Trail.sg.out)
theorem nat_Trail.e0 (c50 : Int → Option (Int)) (n : Nat) (J : Nat → (ASt → Option (Int)) → ASt → Option (Int)) (l0 : List Int) : afun (nat_Trail.cfg c50) J nat_Trail.cuts n nat_Trail.code Tryd.f16.results.toList [false] [.ro .u64 l0] nat_Trail.sg.out = nat_Trail.b0 c50 (fun y0 y1 y2 => J 53 (nat_Trail.A c50 n J 53 [n]) (nat_Trail.s53 y0 y1 y2)) l0 := by kernel_rfl
theorem nat_Trail.e53 (c50 : Int → Option (Int)) (n : Nat) (J : Nat → (ASt → Option (Int)) → ASt → Option (Int)) (m : Nat) (x0 : List Int) (x1 : Int) (x2 : Int) : nat_Trail.A c50 n J 53 [m + 1] (nat_Trail.s53 x0 x1 x2) = nat_Trail.b53 c50 (fun y0 y1 y2 => J 53 (nat_Trail.A c50 n J 53 [m]) (nat_Trail.s53 y0 y1 y2)) x0 x1 x2 := by kernel_rfl
theorem nat_Trail.q53 (n : Nat) (m : Nat) : ∀ (x0 : List Int) (x1 : Int) (x2 : Int), nat_Trail.A bits_TrailingZeros64.f n idJ 53 [m] (nat_Trail.s53 x0 x1 x2) = nat_Trail.l53 n m x0 x1 x2 := by
  induction m with
  | zero => intros; rfl
  | succ m ih =>
    intro x0 x1 x2
    refine (nat_Trail.e53 bits_TrailingZeros64.f n idJ m x0 x1 x2).trans ?_
    exact congrFun (congrFun (congrFun (congrArg (nat_Trail.b53 bits_TrailingZeros64.f) (funext fun y0 => (funext fun y1 => (funext fun y2 => ih y0 y1 y2)))) x0) x1) x2
theorem nat_Trail.eq (n : Nat) (l0 : List Int) : afun (nat_Trail.cfg bits_TrailingZeros64.f) idJ nat_Trail.cuts n nat_Trail.code Tryd.f16.results.toList [false] [.ro .u64 l0] nat_Trail.sg.out = nat_Trail.f n l0 := (nat_Trail.e0 bits_TrailingZeros64.f n idJ l0).trans (congrFun (congrArg (nat_Trail.b0 bits_TrailingZeros64.f) (funext fun y0 => (funext fun y1 => (funext fun y2 => nat_Trail.q53 n n y0 y1 y2)))) l0)
theorem nat_Trail.ok {n : Nat} {l0 : List Int} {r : Int} (h : nat_Trail.f n l0 = some r) : CallD Tryd.prog HW 16 [.ro .u64 l0] (nat_Trail.sg.enc r) :=
  fun_some hwS Tryd.func16 (by kernel_rfl) (body := nat_Trail.code) (by kernel_rfl) tys_ok (c := nat_Trail.cfg bits_TrailingZeros64.f) (orCall_ok (bits_TrailingZeros64.call_ok (n := n)) noCall_ok) noW_ok (by kernel_rfl) (by kernel_rfl) (Nat.le_of_ble_eq_true (by kernel_rfl)) ((nat_Trail.eq n l0).trans h)
noncomputable def nat_Trail.call {α : Type} (g : List Int → Option (Int)) (ds : List D) (K : List D → Option α) : Option α := match ds with
  | [.ro .u64 l0] => (g l0).bind fun r => K (nat_Trail.sg.enc r)
  | _ => none
theorem nat_Trail.call_ok {α : Type} {n : Nat} (ds : List D) (K : List D → Option α) (r : α) (h : nat_Trail.call (nat_Trail.f n) ds K = some r) : ∃ rs, K rs = some r ∧ CallD Tryd.prog HW 16 ds rs := by
  unfold nat_Trail.call at h
  split at h
  · obtain ⟨x, hx, hk⟩ := Option.bind_eq_some_iff.1 h
    exact ⟨_, hk, nat_Trail.ok (n := n) hx⟩
  · cases h
/-! ### nat_Shr: function 17 -/
noncomputable def nat_Shr.b0 (c16 : List Int → Option (Int)) (c52 : List Int → Option (Bool)) (c53 : List Int → Option (Int)) (c54 : List Int → Option (List Int × Int)) (k31 : List Int → Int → Bool → Option (List Int × Bool × Int)) (l0 : List Int) (a1 : Int) : Option (List Int × Bool × Int) := ((c52 l0).bind fun t1 => (if t1 = true then some (([] : List Int), false, 2) else (if a1 < 0 then some (([] : List Int), false, 1) else ((c53 l0).bind fun t2 => (if t2 > 0 then ((c16 l0).bind fun t3 => k31 l0 a1 (decide (t3 < a1))) else k31 l0 a1 false)))))
noncomputable def nat_Shr.b31 (c16 : List Int → Option (Int)) (c52 : List Int → Option (Bool)) (c53 : List Int → Option (Int)) (c54 : List Int → Option (List Int × Int)) (k8181 : List Int → Bool → Int → Int → Int → Int → List Int → Option (List Int × Bool × Int)) (x0 : List Int) (x1 : Int) (x2 : Bool) : Option (List Int × Bool × Int) := ((c53 x0).bind fun t1 => (if 0 ≤ t1 then (if t1 ≤ (ln x0) then ((some (x0.take t1.toNat) : Option (List Int)).bind fun y2 => (if x1 ≥ (wrap64 (64 * (ln y2))) then some (([] : List Int), x2, 0) else (if 0 ≤ (wrap64 ((ln y2) - (wrap64 (Int.tdiv x1 64)))) then (if (wrap64 ((ln y2) - (wrap64 (Int.tdiv x1 64)))).toNat ≤ 35184372088832 then k8181 y2 x2 (wrap64 (Int.tdiv x1 64)) (IntKind.u64.wrap (Int.tmod x1 64)) (ln (List.replicate (wrap64 ((ln y2) - (wrap64 (Int.tdiv x1 64)))).toNat (0 : Int))) 0 (List.replicate (wrap64 ((ln y2) - (wrap64 (Int.tdiv x1 64)))).toNat (0 : Int)) else none) else none))) else none) else none))
noncomputable def nat_Shr.b1023 (c16 : List Int → Option (Int)) (c52 : List Int → Option (Bool)) (c53 : List Int → Option (Int)) (c54 : List Int → Option (List Int × Int)) (x0 : Bool) (x1 : List Int) : Option (List Int × Bool × Int) := ((c54 x1).bind fun t1 => some (t1.1, x0, t1.2))
noncomputable def nat_Shr.b8181 (c16 : List Int → Option (Int)) (c52 : List Int → Option (Bool)) (c53 : List Int → Option (Int)) (c54 : List Int → Option (List Int × Int)) (k1023 : Bool → List Int → Option (List Int × Bool × Int)) (k8181 : List Int → Bool → Int → Int → Int → Int → List Int → Option (List Int × Bool × Int)) (x0 : List Int) (x1 : Bool) (x2 : Int) (x3 : Int) (x4 : Int) (x5 : Int) (x6 : List Int) : Option (List Int × Bool × Int) := (if x5 < x4 then (if 0 ≤ (wrap64 (x2 + x5)) then (if (wrap64 (x2 + x5)) < (ln x0) then (if 0 ≤ x3 then (if (wrap64 ((wrap64 (x2 + x5)) + 1)) < (ln x0) then (if x3 > 0 then (if 0 ≤ (wrap64 ((wrap64 (x2 + x5)) + 1)) then (if (wrap64 ((wrap64 (x2 + x5)) + 1)) < (ln x0) then (if 0 ≤ (IntKind.u64.wrap (64 - x3)) then (if 0 ≤ x5 then (if x5 < (ln x6) then k8181 x0 x1 x2 x3 x4 (wrap64 (x5 + 1)) (x6.set (x5 : Int).toNat (Go.bits .or .u64 (shr .u64 (rd x0 (wrap64 (x2 + x5))) x3) (shl .u64 (rd x0 (wrap64 ((wrap64 (x2 + x5)) + 1))) (IntKind.u64.wrap (64 - x3))))) else none) else none) else none) else none) else none) else (if 0 ≤ x5 then (if x5 < (ln x6) then k8181 x0 x1 x2 x3 x4 (wrap64 (x5 + 1)) (x6.set (x5 : Int).toNat (shr .u64 (rd x0 (wrap64 (x2 + x5))) x3)) else none) else none)) else (if 0 ≤ x5 then (if x5 < (ln x6) then k8181 x0 x1 x2 x3 x4 (wrap64 (x5 + 1)) (x6.set (x5 : Int).toNat (shr .u64 (rd x0 (wrap64 (x2 + x5))) x3)) else none) else none)) else none) else none) else none) else k1023 x1 x6)
noncomputable def nat_Shr.l1023 (n : Nat) (x0 : Bool) (x1 : List Int) : Option (List Int × Bool × Int) := nat_Shr.b1023 (nat_Trail.f n) (nat_big.f n) (nat_size.f n) (nat_cut.f n) x0 x1
noncomputable def nat_Shr.l8181 (n : Nat) : Nat → List Int → Bool → Int → Int → Int → Int → List Int → Option (List Int × Bool × Int)
  | 0, _, _, _, _, _, _, _ => none
  | m + 1, x0, x1, x2, x3, x4, x5, x6 => nat_Shr.b8181 (nat_Trail.f n) (nat_big.f n) (nat_size.f n) (nat_cut.f n) (nat_Shr.l1023 n) (nat_Shr.l8181 n m) x0 x1 x2 x3 x4 x5 x6
noncomputable def nat_Shr.l31 (n : Nat) (x0 : List Int) (x1 : Int) (x2 : Bool) : Option (List Int × Bool × Int) := nat_Shr.b31 (nat_Trail.f n) (nat_big.f n) (nat_size.f n) (nat_cut.f n) (nat_Shr.l8181 n n) x0 x1 x2
noncomputable def nat_Shr.f (n : Nat) (l0 : List Int) (a1 : Int) : Option (List Int × Bool × Int) := nat_Shr.b0 (nat_Trail.f n) (nat_big.f n) (nat_size.f n) (nat_cut.f n) (nat_Shr.l31 n) l0 a1
noncomputable def nat_Shr.sg : Sig (List Int × Bool × Int) := s2 (sRow .u64) (s2 (sBool) (s1 (sInt .i64)))
noncomputable def nat_Shr.code : Code := (Tryd.f17.body).getD .skip
noncomputable def nat_Shr.cfg (c16 : List Int → Option (Int)) (c52 : List Int → Option (Bool)) (c53 : List Int → Option (Int)) (c54 : List Int → Option (List Int × Int)) : Cfg (List Int × Bool × Int) := { T := tys, call := orCall 16 (nat_Trail.call c16) (orCall 52 (nat_big.call c52) (orCall 53 (nat_size.call c53) (orCall 54 (nat_cut.call c54) (noCall)))) }
noncomputable def nat_Shr.cuts : List (Nat × List (Nat × Want)) := [(31, [(0, .keep), (1, .keep), (7, .keep)]), (1023, [(7, .keep), (10, .keep)]), (8181, [(0, .keep), (7, .keep), (8, .keep), (9, .keep), (10, .keep), (49, .keep), (50, .keep)])]
noncomputable def nat_Shr.s31 (x0 : List Int) (x1 : Int) (x2 : Bool) : ASt := ⟨[(0, .ro .u64 x0), (1, .int .i64 x1), (7, .bool x2)], []⟩
noncomputable def nat_Shr.s1023 (x0 : Bool) (x1 : List Int) : ASt := ⟨[(7, .bool x0), (10, .own 0)], [.ints 22 .u64 x1]⟩
noncomputable def nat_Shr.s8181 (x0 : List Int) (x1 : Bool) (x2 : Int) (x3 : Int) (x4 : Int) (x5 : Int) (x6 : List Int) : ASt := ⟨[(0, .ro .u64 x0), (7, .bool x1), (8, .int .i64 x2), (9, .int .u64 x3), (10, .own 0), (49, .int .i64 x4), (50, .int .i64 x5)], [.ints 22 .u64 x6]⟩
noncomputable def nat_Shr.A (c16 : List Int → Option (Int)) (c52 : List Int → Option (Bool)) (c53 : List Int → Option (Int)) (c54 : List Int → Option (List Int × Int)) (n : Nat) (J : Nat → (ASt → Option (List Int × Bool × Int)) → ASt → Option (List Int × Bool × Int)) (q : Nat) (ms : List Nat) : ASt → Option (List Int × Bool × Int) := acont (nat_Shr.cfg c16 c52 c53 c54) J nat_Shr.cuts n q nat_Shr.code 1 ms (aend (nat_Shr.cfg c16 c52 c53 c54) Tryd.f17.results.toList [false, false, false] nat_Shr.sg.out)
theorem nat_Shr.e0 (c16 : List Int → Option (Int)) (c52 : List Int → Option (Bool)) (c53 : List Int → Option (Int)) (c54 : List Int → Option (List Int × Int)) (n : Nat) (J : Nat → (ASt → Option (List Int × Bool × Int)) → ASt → Option (List Int × Bool × Int)) (l0 : List Int) (a1 : Int) : afun (nat_Shr.cfg c16 c52 c53 c54) J nat_Shr.cuts n nat_Shr.code Tryd.f17.results.toList [false, false, false] [.ro .u64 l0, .int .i64 a1] nat_Shr.sg.out = nat_Shr.b0 c16 c52 c53 c54 (fun y0 y1 y2 => J 31 (nat_Shr.A c16 c52 c53 c54 n J 31 []) (nat_Shr.s31 y0 y1 y2)) l0 a1 := by kernel_rfl
theorem nat_Shr.e31 (c16 : List Int → Option (Int)) (c52 : List Int → Option (Bool)) (c53 : List Int → Option (Int)) (c54 : List Int → Option (List Int × Int)) (n : Nat) (J : Nat → (ASt → Option (List Int × Bool × Int)) → ASt → Option (List Int × Bool × Int)) (x0 : List Int) (x1 : Int) (x2 : Bool) : nat_Shr.A c16 c52 c53 c54 n J 31 [] (nat_Shr.s31 x0 x1 x2) = nat_Shr.b31 c16 c52 c53 c54 (fun y0 y1 y2 y3 y4 y5 y6 => J 8181 (nat_Shr.A c16 c52 c53 c54 n J 8181 [n]) (nat_Shr.s8181 y0 y1 y2 y3 y4 y5 y6)) x0 x1 x2 := by kernel_rfl
theorem nat_Shr.e1023 (c16 : List Int → Option (Int)) (c52 : List Int → Option (Bool)) (c53 : List Int → Option (Int)) (c54 : List Int → Option (List Int × Int)) (n : Nat) (J : Nat → (ASt → Option (List Int × Bool × Int)) → ASt → Option (List Int × Bool × Int)) (x0 : Bool) (x1 : List Int) : nat_Shr.A c16 c52 c53 c54 n J 1023 [] (nat_Shr.s1023 x0 x1) = nat_Shr.b1023 c16 c52 c53 c54 x0 x1 := by kernel_rfl
theorem nat_Shr.e8181 (c16 : List Int → Option (Int)) (c52 : List Int → Option (Bool)) (c53 : List Int → Option (Int)) (c54 : List Int → Option (List Int × Int)) (n : Nat) (J : Nat → (ASt → Option (List Int × Bool × Int)) → ASt → Option (List Int × Bool × Int)) (m : Nat) (x0 : List Int) (x1 : Bool) (x2 : Int) (x3 : Int) (x4 : Int) (x5 : Int) (x6 : List Int) : nat_Shr.A c16 c52 c53 c54 n J 8181 [m + 1] (nat_Shr.s8181 x0 x1 x2 x3 x4 x5 x6) = nat_Shr.b8181 c16 c52 c53 c54 (fun y0 y1 => J 1023 (nat_Shr.A c16 c52 c53 c54 n J 1023 []) (nat_Shr.s1023 y0 y1)) (fun y0 y1 y2 y3 y4 y5 y6 => J 8181 (nat_Shr.A c16 c52 c53 c54 n J 8181 [m]) (nat_Shr.s8181 y0 y1 y2 y3 y4 y5 y6)) x0 x1 x2 x3 x4 x5 x6 := by kernel_rfl
theorem nat_Shr.q1023 (n : Nat) (x0 : Bool) (x1 : List Int) : nat_Shr.A (nat_Trail.f n) (nat_big.f n) (nat_size.f n) (nat_cut.f n) n idJ 1023 [] (nat_Shr.s1023 x0 x1) = nat_Shr.l1023 n x0 x1 := (nat_Shr.e1023 (nat_Trail.f n) (nat_big.f n) (nat_size.f n) (nat_cut.f n) n idJ x0 x1).trans (rfl)
theorem nat_Shr.q8181 (n : Nat) (m : Nat) : ∀ (x0 : List Int) (x1 : Bool) (x2 : Int) (x3 : Int) (x4 : Int) (x5 : Int) (x6 : List Int), nat_Shr.A (nat_Trail.f n) (nat_big.f n) (nat_size.f n) (nat_cut.f n) n idJ 8181 [m] (nat_Shr.s8181 x0 x1 x2 x3 x4 x5 x6) = nat_Shr.l8181 n m x0 x1 x2 x3 x4 x5 x6 := by
  induction m with
  | zero => intros; rfl
  | succ m ih =>
    intro x0 x1 x2 x3 x4 x5 x6
    refine (nat_Shr.e8181 (nat_Trail.f n) (nat_big.f n) (nat_size.f n) (nat_cut.f n) n idJ m x0 x1 x2 x3 x4 x5 x6).trans ?_
    exact congrFun (congrFun (congrFun (congrFun (congrFun (congrFun (congrFun (congr (congrArg (nat_Shr.b8181 (nat_Trail.f n) (nat_big.f n) (nat_size.f n) (nat_cut.f n)) (funext fun y0 => (funext fun y1 => nat_Shr.q1023 n y0 y1))) (funext fun y0 => (funext fun y1 => (funext fun y2 => (funext fun y3 => (funext fun y4 => (funext fun y5 => (funext fun y6 => ih y0 y1 y2 y3 y4 y5 y6)))))))) x0) x1) x2) x3) x4) x5) x6
theorem nat_Shr.q31 (n : Nat) (x0 : List Int) (x1 : Int) (x2 : Bool) : nat_Shr.A (nat_Trail.f n) (nat_big.f n) (nat_size.f n) (nat_cut.f n) n idJ 31 [] (nat_Shr.s31 x0 x1 x2) = nat_Shr.l31 n x0 x1 x2 := (nat_Shr.e31 (nat_Trail.f n) (nat_big.f n) (nat_size.f n) (nat_cut.f n) n idJ x0 x1 x2).trans (congrFun (congrFun (congrFun (congrArg (nat_Shr.b31 (nat_Trail.f n) (nat_big.f n) (nat_size.f n) (nat_cut.f n)) (funext fun y0 => (funext fun y1 => (funext fun y2 => (funext fun y3 => (funext fun y4 => (funext fun y5 => (funext fun y6 => nat_Shr.q8181 n n y0 y1 y2 y3 y4 y5 y6)))))))) x0) x1) x2)
theorem nat_Shr.eq (n : Nat) (l0 : List Int) (a1 : Int) : afun (nat_Shr.cfg (nat_Trail.f n) (nat_big.f n) (nat_size.f n) (nat_cut.f n)) idJ nat_Shr.cuts n nat_Shr.code Tryd.f17.results.toList [false, false, false] [.ro .u64 l0, .int .i64 a1] nat_Shr.sg.out = nat_Shr.f n l0 a1 := (nat_Shr.e0 (nat_Trail.f n) (nat_big.f n) (nat_size.f n) (nat_cut.f n) n idJ l0 a1).trans (congrFun (congrFun (congrArg (nat_Shr.b0 (nat_Trail.f n) (nat_big.f n) (nat_size.f n) (nat_cut.f n)) (funext fun y0 => (funext fun y1 => (funext fun y2 => nat_Shr.q31 n y0 y1 y2)))) l0) a1)
theorem nat_Shr.ok {n : Nat} {l0 : List Int} {a1 : Int} {r : List Int × Bool × Int} (h : nat_Shr.f n l0 a1 = some r) : CallD Tryd.prog HW 17 [.ro .u64 l0, .int .i64 a1] (nat_Shr.sg.enc r) :=
  fun_some hwS Tryd.func17 (by kernel_rfl) (body := nat_Shr.code) (by kernel_rfl) tys_ok (c := nat_Shr.cfg (nat_Trail.f n) (nat_big.f n) (nat_size.f n) (nat_cut.f n)) (orCall_ok (nat_Trail.call_ok (n := n)) (orCall_ok (nat_big.call_ok (n := n)) (orCall_ok (nat_size.call_ok (n := n)) (orCall_ok (nat_cut.call_ok (n := n)) noCall_ok)))) noW_ok (by kernel_rfl) (by kernel_rfl) (Nat.le_of_ble_eq_true (by kernel_rfl)) ((nat_Shr.eq n l0 a1).trans h)
noncomputable def nat_Shr.call {α : Type} (g : List Int → Int → Option (List Int × Bool × Int)) (ds : List D) (K : List D → Option α) : Option α := match ds with
  | [.ro .u64 l0, .int .i64 a1] => (g l0 a1).bind fun r => K (nat_Shr.sg.enc r)
  | _ => none
theorem nat_Shr.call_ok {α : Type} {n : Nat} (ds : List D) (K : List D → Option α) (r : α) (h : nat_Shr.call (nat_Shr.f n) ds K = some r) : ∃ rs, K rs = some r ∧ CallD Tryd.prog HW 17 ds rs := by
  unfold nat_Shr.call at h
  split at h
  · obtain ⟨x, hx, hk⟩ := Option.bind_eq_some_iff.1 h
    exact ⟨_, hk, nat_Shr.ok (n := n) hx⟩
  · cases h
/-! ### nat_ToUint: function 102 -/
noncomputable def nat_ToUint.b0 (c53 : List Int → Option (Int)) (l0 : List Int) : Option (Int × Bool) := ((c53 l0).bind fun t1 => (if t1 = 0 then some (0, true) else (if t1 = 1 then (if 0 < (ln l0) then some (rd l0 0, true) else none) else some (0, false))))
noncomputable def nat_ToUint.f (n : Nat) (l0 : List Int) : Option (Int × Bool) := nat_ToUint.b0 (nat_size.f n) l0
noncomputable def nat_ToUint.sg : Sig (Int × Bool) := s2 (sInt .u64) (s1 (sBool))
noncomputable def nat_ToUint.code : Code := (Tryd.f102.body).getD .skip
noncomputable def nat_ToUint.cfg (c53 : List Int → Option (Int)) : Cfg (Int × Bool) := { T := tys, call := orCall 53 (nat_size.call c53) (noCall) }
noncomputable def nat_ToUint.cuts : List (Nat × List (Nat × Want)) := []
theorem nat_ToUint.e0 (c53 : List Int → Option (Int)) (n : Nat) (J : Nat → (ASt → Option (Int × Bool)) → ASt → Option (Int × Bool)) (l0 : List Int) : afun (nat_ToUint.cfg c53) J nat_ToUint.cuts n nat_ToUint.code Tryd.f102.results.toList [false, false] [.ro .u64 l0] nat_ToUint.sg.out = nat_ToUint.b0 c53 l0 := by kernel_rfl
theorem nat_ToUint.eq (n : Nat) (l0 : List Int) : afun (nat_ToUint.cfg (nat_size.f n)) idJ nat_ToUint.cuts n nat_ToUint.code Tryd.f102.results.toList [false, false] [.ro .u64 l0] nat_ToUint.sg.out = nat_ToUint.f n l0 := (nat_ToUint.e0 (nat_size.f n) n idJ l0).trans (rfl)
theorem nat_ToUint.ok {n : Nat} {l0 : List Int} {r : Int × Bool} (h : nat_ToUint.f n l0 = some r) : CallD Tryd.prog HW 102 [.ro .u64 l0] (nat_ToUint.sg.enc r) :=
  fun_some hwS Tryd.func102 (by kernel_rfl) (body := nat_ToUint.code) (by kernel_rfl) tys_ok (c := nat_ToUint.cfg (nat_size.f n)) (orCall_ok (nat_size.call_ok (n := n)) noCall_ok) noW_ok (by kernel_rfl) (by kernel_rfl) (Nat.le_of_ble_eq_true (by kernel_rfl)) ((nat_ToUint.eq n l0).trans h)
noncomputable def nat_ToUint.call {α : Type} (g : List Int → Option (Int × Bool)) (ds : List D) (K : List D → Option α) : Option α := match ds with
  | [.ro .u64 l0] => (g l0).bind fun r => K (nat_ToUint.sg.enc r)
  | _ => none
theorem nat_ToUint.call_ok {α : Type} {n : Nat} (ds : List D) (K : List D → Option α) (r : α) (h : nat_ToUint.call (nat_ToUint.f n) ds K = some r) : ∃ rs, K rs = some r ∧ CallD Tryd.prog HW 102 ds rs := by
  unfold nat_ToUint.call at h
  split at h
  · obtain ⟨x, hx, hk⟩ := Option.bind_eq_some_iff.1 h
    exact ⟨_, hk, nat_ToUint.ok (n := n) hx⟩
  · cases h
/-! ### nat_Bit: function 31 -/
noncomputable def nat_Bit.b0 (l0 : List Int) (a1 : Int) : Option (Int) := (if a1 < 0 then some 0 else (if (wrap64 (Int.tdiv a1 64)) ≥ (ln l0) then some 0 else (if 0 ≤ (wrap64 (Int.tdiv a1 64)) then (if (wrap64 (Int.tdiv a1 64)) < (ln l0) then (if 0 ≤ (IntKind.u64.wrap (Int.tmod a1 64)) then some (wrap64 (Go.bits .and .u64 (shr .u64 (rd l0 (wrap64 (Int.tdiv a1 64))) (IntKind.u64.wrap (Int.tmod a1 64))) 1)) else none) else none) else none)))
noncomputable def nat_Bit.f (l0 : List Int) (a1 : Int) : Option (Int) := nat_Bit.b0 l0 a1
noncomputable def nat_Bit.sg : Sig (Int) := s1 (sInt .i64)
noncomputable def nat_Bit.code : Code := (Tryd.f31.body).getD .skip
noncomputable def nat_Bit.cfg : Cfg (Int) := { T := tys, call := noCall }
noncomputable def nat_Bit.cuts : List (Nat × List (Nat × Want)) := []
theorem nat_Bit.e0 (n : Nat) (J : Nat → (ASt → Option (Int)) → ASt → Option (Int)) (l0 : List Int) (a1 : Int) : afun (nat_Bit.cfg) J nat_Bit.cuts n nat_Bit.code Tryd.f31.results.toList [false] [.ro .u64 l0, .int .i64 a1] nat_Bit.sg.out = nat_Bit.b0 l0 a1 := by kernel_rfl
theorem nat_Bit.eq (n : Nat) (l0 : List Int) (a1 : Int) : afun (nat_Bit.cfg) idJ nat_Bit.cuts n nat_Bit.code Tryd.f31.results.toList [false] [.ro .u64 l0, .int .i64 a1] nat_Bit.sg.out = nat_Bit.f l0 a1 := (nat_Bit.e0 n idJ l0 a1).trans (rfl)
theorem nat_Bit.ok {n : Nat} {l0 : List Int} {a1 : Int} {r : Int} (h : nat_Bit.f l0 a1 = some r) : CallD Tryd.prog HW 31 [.ro .u64 l0, .int .i64 a1] (nat_Bit.sg.enc r) :=
  fun_some hwS Tryd.func31 (by kernel_rfl) (body := nat_Bit.code) (by kernel_rfl) tys_ok (c := nat_Bit.cfg) noCall_ok noW_ok (by kernel_rfl) (by kernel_rfl) (Nat.le_of_ble_eq_true (by kernel_rfl)) ((nat_Bit.eq n l0 a1).trans h)
noncomputable def nat_Bit.call {α : Type} (g : List Int → Int → Option (Int)) (ds : List D) (K : List D → Option α) : Option α := match ds with
  | [.ro .u64 l0, .int .i64 a1] => (g l0 a1).bind fun r => K (nat_Bit.sg.enc r)
  | _ => none
theorem nat_Bit.call_ok {α : Type} {n : Nat} (ds : List D) (K : List D → Option α) (r : α) (h : nat_Bit.call nat_Bit.f ds K = some r) : ∃ rs, K rs = some r ∧ CallD Tryd.prog HW 31 ds rs := by
  unfold nat_Bit.call at h
  split at h
  · obtain ⟨x, hx, hk⟩ := Option.bind_eq_some_iff.1 h
    exact ⟨_, hk, nat_Bit.ok (n := n) hx⟩
  · cases h
/-! ### ieee_magnitude: function 84 -/
noncomputable def ieee_magnitude.b0 (c16 : List Int → Option (Int)) (c17 : List Int → Int → Option (List Int × Bool × Int)) (c31 : List Int → Int → Option (Int)) (c56 : List Int → Option (Int)) (c102 : List Int → Option (Int × Bool)) (k255 : Int → Int → Option (Int)) (l0 : List Int) (a1 : Int) (a2 : Bool) : Option (Int) := ((c56 l0).bind fun t1 => (if (ln l0) = 0 then some 0 else (if (wrap64 (t1 + a1)) < (-1074) then some 0 else (if (wrap64 (t1 + a1)) > 1024 then some 9218868437227405312 else (if (wrap64 ((mx (wrap64 ((wrap64 (t1 + a1)) - 53)) (-1074)) - a1)) ≤ 0 then (if 0 < (ln l0) then (if 0 ≤ (IntKind.u64.wrap (wrap64 (-(wrap64 ((mx (wrap64 ((wrap64 (t1 + a1)) - 53)) (-1074)) - a1))))) then k255 (mx (wrap64 ((wrap64 (t1 + a1)) - 53)) (-1074)) (shl .u64 (rd l0 0) (IntKind.u64.wrap (wrap64 (-(wrap64 ((mx (wrap64 ((wrap64 (t1 + a1)) - 53)) (-1074)) - a1)))))) else none) else none) else ((c17 l0 (wrap64 ((mx (wrap64 ((wrap64 (t1 + a1)) - 53)) (-1074)) - a1))).bind fun t2 => ((c102 t2.1).bind fun t3 => ((c31 l0 (wrap64 ((wrap64 ((mx (wrap64 ((wrap64 (t1 + a1)) - 53)) (-1074)) - a1)) - 1))).bind fun t4 => (if t4 = 1 then (if a2 = true then k255 (mx (wrap64 ((wrap64 (t1 + a1)) - 53)) (-1074)) (IntKind.u64.wrap (t3.1 + 1)) else (if (Go.bits .and .u64 t3.1 1) = 1 then k255 (mx (wrap64 ((wrap64 (t1 + a1)) - 53)) (-1074)) (IntKind.u64.wrap (t3.1 + 1)) else ((c16 l0).bind fun t5 => (if t5 < (wrap64 ((wrap64 ((mx (wrap64 ((wrap64 (t1 + a1)) - 53)) (-1074)) - a1)) - 1)) then k255 (mx (wrap64 ((wrap64 (t1 + a1)) - 53)) (-1074)) (IntKind.u64.wrap (t3.1 + 1)) else k255 (mx (wrap64 ((wrap64 (t1 + a1)) - 53)) (-1074)) t3.1)))) else k255 (mx (wrap64 ((wrap64 (t1 + a1)) - 53)) (-1074)) t3.1)))))))))
noncomputable def ieee_magnitude.b255 (c16 : List Int → Option (Int)) (c17 : List Int → Int → Option (List Int × Bool × Int)) (c31 : List Int → Int → Option (Int)) (c56 : List Int → Option (Int)) (c102 : List Int → Option (Int × Bool)) (x0 : Int) (x1 : Int) : Option (Int) := some (IntKind.u64.wrap ((IntKind.u64.wrap ((IntKind.u64.wrap (wrap64 (x0 - (-1074)))) * 4503599627370496)) + x1))
noncomputable def ieee_magnitude.l255 (n : Nat) (x0 : Int) (x1 : Int) : Option (Int) := ieee_magnitude.b255 (nat_Trail.f n) (nat_Shr.f n) nat_Bit.f (nat_BitLen.f n) (nat_ToUint.f n) x0 x1
noncomputable def ieee_magnitude.f (n : Nat) (l0 : List Int) (a1 : Int) (a2 : Bool) : Option (Int) := ieee_magnitude.b0 (nat_Trail.f n) (nat_Shr.f n) nat_Bit.f (nat_BitLen.f n) (nat_ToUint.f n) (ieee_magnitude.l255 n) l0 a1 a2
noncomputable def ieee_magnitude.sg : Sig (Int) := s1 (sInt .u64)
noncomputable def ieee_magnitude.code : Code := (Tryd.f84.body).getD .skip
noncomputable def ieee_magnitude.cfg (c16 : List Int → Option (Int)) (c17 : List Int → Int → Option (List Int × Bool × Int)) (c31 : List Int → Int → Option (Int)) (c56 : List Int → Option (Int)) (c102 : List Int → Option (Int × Bool)) : Cfg (Int) := { T := tys, call := orCall 16 (nat_Trail.call c16) (orCall 17 (nat_Shr.call c17) (orCall 31 (nat_Bit.call c31) (orCall 56 (nat_BitLen.call c56) (orCall 102 (nat_ToUint.call c102) (noCall))))) }
noncomputable def ieee_magnitude.cuts : List (Nat × List (Nat × Want)) := [(255, [(8, .keep), (10, .keep)])]
noncomputable def ieee_magnitude.s255 (x0 : Int) (x1 : Int) : ASt := ⟨[(8, .int .i64 x0), (10, .int .u64 x1)], []⟩
noncomputable def ieee_magnitude.A (c16 : List Int → Option (Int)) (c17 : List Int → Int → Option (List Int × Bool × Int)) (c31 : List Int → Int → Option (Int)) (c56 : List Int → Option (Int)) (c102 : List Int → Option (Int × Bool)) (n : Nat) (J : Nat → (ASt → Option (Int)) → ASt → Option (Int)) (q : Nat) (ms : List Nat) : ASt → Option (Int) := acont (ieee_magnitude.cfg c16 c17 c31 c56 c102) J ieee_magnitude.cuts n q ieee_magnitude.code 1 ms (aend (ieee_magnitude.cfg c16 c17 c31 c56 c102) Tryd.f84.results.toList [false] ieee_magnitude.sg.out)
theorem ieee_magnitude.e0 (c16 : List Int → Option (Int)) (c17 : List Int → Int → Option (List Int × Bool × Int)) (c31 : List Int → Int → Option (Int)) (c56 : List Int → Option (Int)) (c102 : List Int → Option (Int × Bool)) (n : Nat) (J : Nat → (ASt → Option (Int)) → ASt → Option (Int)) (l0 : List Int) (a1 : Int) (a2 : Bool) : afun (ieee_magnitude.cfg c16 c17 c31 c56 c102) J ieee_magnitude.cuts n ieee_magnitude.code Tryd.f84.results.toList [false] [.ro .u64 l0, .int .i64 a1, .bool a2] ieee_magnitude.sg.out = ieee_magnitude.b0 c16 c17 c31 c56 c102 (fun y0 y1 => J 255 (ieee_magnitude.A c16 c17 c31 c56 c102 n J 255 []) (ieee_magnitude.s255 y0 y1)) l0 a1 a2 := by kernel_rfl
theorem ieee_magnitude.e255 (c16 : List Int → Option (Int)) (c17 : List Int → Int → Option (List Int × Bool × Int)) (c31 : List Int → Int → Option (Int)) (c56 : List Int → Option (Int)) (c102 : List Int → Option (Int × Bool)) (n : Nat) (J : Nat → (ASt → Option (Int)) → ASt → Option (Int)) (x0 : Int) (x1 : Int) : ieee_magnitude.A c16 c17 c31 c56 c102 n J 255 [] (ieee_magnitude.s255 x0 x1) = ieee_magnitude.b255 c16 c17 c31 c56 c102 x0 x1 := by kernel_rfl
theorem ieee_magnitude.q255 (n : Nat) (x0 : Int) (x1 : Int) : ieee_magnitude.A (nat_Trail.f n) (nat_Shr.f n) nat_Bit.f (nat_BitLen.f n) (nat_ToUint.f n) n idJ 255 [] (ieee_magnitude.s255 x0 x1) = ieee_magnitude.l255 n x0 x1 := (ieee_magnitude.e255 (nat_Trail.f n) (nat_Shr.f n) nat_Bit.f (nat_BitLen.f n) (nat_ToUint.f n) n idJ x0 x1).trans (rfl)
theorem ieee_magnitude.eq (n : Nat) (l0 : List Int) (a1 : Int) (a2 : Bool) : afun (ieee_magnitude.cfg (nat_Trail.f n) (nat_Shr.f n) nat_Bit.f (nat_BitLen.f n) (nat_ToUint.f n)) idJ ieee_magnitude.cuts n ieee_magnitude.code Tryd.f84.results.toList [false] [.ro .u64 l0, .int .i64 a1, .bool a2] ieee_magnitude.sg.out = ieee_magnitude.f n l0 a1 a2 := (ieee_magnitude.e0 (nat_Trail.f n) (nat_Shr.f n) nat_Bit.f (nat_BitLen.f n) (nat_ToUint.f n) n idJ l0 a1 a2).trans (congrFun (congrFun (congrFun (congrArg (ieee_magnitude.b0 (nat_Trail.f n) (nat_Shr.f n) nat_Bit.f (nat_BitLen.f n) (nat_ToUint.f n)) (funext fun y0 => (funext fun y1 => ieee_magnitude.q255 n y0 y1))) l0) a1) a2)
theorem ieee_magnitude.ok {n : Nat} {l0 : List Int} {a1 : Int} {a2 : Bool} {r : Int} (h : ieee_magnitude.f n l0 a1 a2 = some r) : CallD Tryd.prog HW 84 [.ro .u64 l0, .int .i64 a1, .bool a2] (ieee_magnitude.sg.enc r) :=
  fun_some hwS Tryd.func84 (by kernel_rfl) (body := ieee_magnitude.code) (by kernel_rfl) tys_ok (c := ieee_magnitude.cfg (nat_Trail.f n) (nat_Shr.f n) nat_Bit.f (nat_BitLen.f n) (nat_ToUint.f n)) (orCall_ok (nat_Trail.call_ok (n := n)) (orCall_ok (nat_Shr.call_ok (n := n)) (orCall_ok (nat_Bit.call_ok (n := n)) (orCall_ok (nat_BitLen.call_ok (n := n)) (orCall_ok (nat_ToUint.call_ok (n := n)) noCall_ok))))) noW_ok (by kernel_rfl) (by kernel_rfl) (Nat.le_of_ble_eq_true (by kernel_rfl)) ((ieee_magnitude.eq n l0 a1 a2).trans h)
noncomputable def ieee_magnitude.call {α : Type} (g : List Int → Int → Bool → Option (Int)) (ds : List D) (K : List D → Option α) : Option α := match ds with
  | [.ro .u64 l0, .int .i64 a1, .bool a2] => (g l0 a1 a2).bind fun r => K (ieee_magnitude.sg.enc r)
  | _ => none
theorem ieee_magnitude.call_ok {α : Type} {n : Nat} (ds : List D) (K : List D → Option α) (r : α) (h : ieee_magnitude.call (ieee_magnitude.f n) ds K = some r) : ∃ rs, K rs = some r ∧ CallD Tryd.prog HW 84 ds rs := by
  unfold ieee_magnitude.call at h
  split at h
  · obtain ⟨x, hx, hk⟩ := Option.bind_eq_some_iff.1 h
    exact ⟨_, hk, ieee_magnitude.ok (n := n) hx⟩
  · cases h
/-! ### ieee_Neg: function 36 -/
noncomputable def ieee_Neg.b0 (a0 : Int) : Option (Int) := some (Go.bits .xor .u64 a0 9223372036854775808)
noncomputable def ieee_Neg.f (a0 : Int) : Option (Int) := ieee_Neg.b0 a0
noncomputable def ieee_Neg.sg : Sig (Int) := s1 (sInt .u64)
noncomputable def ieee_Neg.code : Code := (Tryd.f36.body).getD .skip
noncomputable def ieee_Neg.cfg : Cfg (Int) := { T := tys, call := noCall }
noncomputable def ieee_Neg.cuts : List (Nat × List (Nat × Want)) := []
theorem ieee_Neg.e0 (n : Nat) (J : Nat → (ASt → Option (Int)) → ASt → Option (Int)) (a0 : Int) : afun (ieee_Neg.cfg) J ieee_Neg.cuts n ieee_Neg.code Tryd.f36.results.toList [false] [.int .u64 a0] ieee_Neg.sg.out = ieee_Neg.b0 a0 := by kernel_rfl
theorem ieee_Neg.eq (n : Nat) (a0 : Int) : afun (ieee_Neg.cfg) idJ ieee_Neg.cuts n ieee_Neg.code Tryd.f36.results.toList [false] [.int .u64 a0] ieee_Neg.sg.out = ieee_Neg.f a0 := (ieee_Neg.e0 n idJ a0).trans (rfl)
theorem ieee_Neg.ok {n : Nat} {a0 : Int} {r : Int} (h : ieee_Neg.f a0 = some r) : CallD Tryd.prog HW 36 [.int .u64 a0] (ieee_Neg.sg.enc r) :=
  fun_some hwS Tryd.func36 (by kernel_rfl) (body := ieee_Neg.code) (by kernel_rfl) tys_ok (c := ieee_Neg.cfg) noCall_ok noW_ok (by kernel_rfl) (by kernel_rfl) (Nat.le_of_ble_eq_true (by kernel_rfl)) ((ieee_Neg.eq n a0).trans h)
noncomputable def ieee_Neg.call {α : Type} (g : Int → Option (Int)) (ds : List D) (K : List D → Option α) : Option α := match ds with
  | [.int .u64 a0] => (g a0).bind fun r => K (ieee_Neg.sg.enc r)
  | _ => none
theorem ieee_Neg.call_ok {α : Type} {n : Nat} (ds : List D) (K : List D → Option α) (r : α) (h : ieee_Neg.call ieee_Neg.f ds K = some r) : ∃ rs, K rs = some r ∧ CallD Tryd.prog HW 36 ds rs := by
  unfold ieee_Neg.call at h
  split at h
  · obtain ⟨x, hx, hk⟩ := Option.bind_eq_some_iff.1 h
    exact ⟨_, hk, ieee_Neg.ok (n := n) hx⟩
  · cases h
/-! ### ieee_Round: function 48 -/
noncomputable def ieee_Round.b0 (c19 : List Int → Int → Option (List Int × Int)) (c36 : Int → Option (Int)) (c84 : List Int → Int → Bool → Option (Int)) (c85 : Int → Option (Int)) (a0 : Bool) (l1 : List Int) (a2 : Int) (a3 : Bool) : Option (Int × Int) := ((c19 l1 0).bind fun t1 => (if ¬ t1.2 = 0 then some (0, t1.2) else ((c85 a2).bind fun t2 => ((c84 t1.1 t2 a3).bind fun t3 => (if a0 = true then ((c36 t3).bind fun t4 => some (t4, 0)) else some (t3, 0))))))
noncomputable def ieee_Round.f (n : Nat) (a0 : Bool) (l1 : List Int) (a2 : Int) (a3 : Bool) : Option (Int × Int) := ieee_Round.b0 (nat_Shl.f n) ieee_Neg.f (ieee_magnitude.f n) ieee_near.f a0 l1 a2 a3
noncomputable def ieee_Round.sg : Sig (Int × Int) := s2 (sInt .u64) (s1 (sInt .i64))
noncomputable def ieee_Round.code : Code := (Tryd.f48.body).getD .skip
noncomputable def ieee_Round.cfg (c19 : List Int → Int → Option (List Int × Int)) (c36 : Int → Option (Int)) (c84 : List Int → Int → Bool → Option (Int)) (c85 : Int → Option (Int)) : Cfg (Int × Int) := { T := tys, call := orCall 19 (nat_Shl.call c19) (orCall 36 (ieee_Neg.call c36) (orCall 84 (ieee_magnitude.call c84) (orCall 85 (ieee_near.call c85) (noCall)))) }
noncomputable def ieee_Round.cuts : List (Nat × List (Nat × Want)) := []
theorem ieee_Round.e0 (c19 : List Int → Int → Option (List Int × Int)) (c36 : Int → Option (Int)) (c84 : List Int → Int → Bool → Option (Int)) (c85 : Int → Option (Int)) (n : Nat) (J : Nat → (ASt → Option (Int × Int)) → ASt → Option (Int × Int)) (a0 : Bool) (l1 : List Int) (a2 : Int) (a3 : Bool) : afun (ieee_Round.cfg c19 c36 c84 c85) J ieee_Round.cuts n ieee_Round.code Tryd.f48.results.toList [false, false] [.bool a0, .ro .u64 l1, .int .i64 a2, .bool a3] ieee_Round.sg.out = ieee_Round.b0 c19 c36 c84 c85 a0 l1 a2 a3 := by kernel_rfl
theorem ieee_Round.eq (n : Nat) (a0 : Bool) (l1 : List Int) (a2 : Int) (a3 : Bool) : afun (ieee_Round.cfg (nat_Shl.f n) ieee_Neg.f (ieee_magnitude.f n) ieee_near.f) idJ ieee_Round.cuts n ieee_Round.code Tryd.f48.results.toList [false, false] [.bool a0, .ro .u64 l1, .int .i64 a2, .bool a3] ieee_Round.sg.out = ieee_Round.f n a0 l1 a2 a3 := (ieee_Round.e0 (nat_Shl.f n) ieee_Neg.f (ieee_magnitude.f n) ieee_near.f n idJ a0 l1 a2 a3).trans (rfl)
theorem ieee_Round.ok {n : Nat} {a0 : Bool} {l1 : List Int} {a2 : Int} {a3 : Bool} {r : Int × Int} (h : ieee_Round.f n a0 l1 a2 a3 = some r) : CallD Tryd.prog HW 48 [.bool a0, .ro .u64 l1, .int .i64 a2, .bool a3] (ieee_Round.sg.enc r) :=
  fun_some hwS Tryd.func48 (by kernel_rfl) (body := ieee_Round.code) (by kernel_rfl) tys_ok (c := ieee_Round.cfg (nat_Shl.f n) ieee_Neg.f (ieee_magnitude.f n) ieee_near.f) (orCall_ok (nat_Shl.call_ok (n := n)) (orCall_ok (ieee_Neg.call_ok (n := n)) (orCall_ok (ieee_magnitude.call_ok (n := n)) (orCall_ok (ieee_near.call_ok (n := n)) noCall_ok)))) noW_ok (by kernel_rfl) (by kernel_rfl) (Nat.le_of_ble_eq_true (by kernel_rfl)) ((ieee_Round.eq n a0 l1 a2 a3).trans h)
noncomputable def ieee_Round.call {α : Type} (g : Bool → List Int → Int → Bool → Option (Int × Int)) (ds : List D) (K : List D → Option α) : Option α := match ds with
  | [.bool a0, .ro .u64 l1, .int .i64 a2, .bool a3] => (g a0 l1 a2 a3).bind fun r => K (ieee_Round.sg.enc r)
  | _ => none
theorem ieee_Round.call_ok {α : Type} {n : Nat} (ds : List D) (K : List D → Option α) (r : α) (h : ieee_Round.call (ieee_Round.f n) ds K = some r) : ∃ rs, K rs = some r ∧ CallD Tryd.prog HW 48 ds rs := by
  unfold ieee_Round.call at h
  split at h
  · obtain ⟨x, hx, hk⟩ := Option.bind_eq_some_iff.1 h
    exact ⟨_, hk, ieee_Round.ok (n := n) hx⟩
  · cases h
/-! ### ieee_FromUint: function 73 -/
noncomputable def ieee_FromUint.b0 (c48 : Bool → List Int → Int → Bool → Option (Int × Int)) (c67 : Int → Option (List Int)) (a0 : Int) : Option (Int) := ((c67 a0).bind fun t1 => ((c48 false t1 0 false).bind fun t2 => some t2.1))
noncomputable def ieee_FromUint.f (n : Nat) (a0 : Int) : Option (Int) := ieee_FromUint.b0 (ieee_Round.f n) nat_FromUint.f a0
noncomputable def ieee_FromUint.sg : Sig (Int) := s1 (sInt .u64)
noncomputable def ieee_FromUint.code : Code := (Tryd.f73.body).getD .skip
noncomputable def ieee_FromUint.cfg (c48 : Bool → List Int → Int → Bool → Option (Int × Int)) (c67 : Int → Option (List Int)) : Cfg (Int) := { T := tys, call := orCall 48 (ieee_Round.call c48) (orCall 67 (nat_FromUint.call c67) (noCall)) }
noncomputable def ieee_FromUint.cuts : List (Nat × List (Nat × Want)) := []
theorem ieee_FromUint.e0 (c48 : Bool → List Int → Int → Bool → Option (Int × Int)) (c67 : Int → Option (List Int)) (n : Nat) (J : Nat → (ASt → Option (Int)) → ASt → Option (Int)) (a0 : Int) : afun (ieee_FromUint.cfg c48 c67) J ieee_FromUint.cuts n ieee_FromUint.code Tryd.f73.results.toList [false] [.int .u64 a0] ieee_FromUint.sg.out = ieee_FromUint.b0 c48 c67 a0 := by kernel_rfl
theorem ieee_FromUint.eq (n : Nat) (a0 : Int) : afun (ieee_FromUint.cfg (ieee_Round.f n) nat_FromUint.f) idJ ieee_FromUint.cuts n ieee_FromUint.code Tryd.f73.results.toList [false] [.int .u64 a0] ieee_FromUint.sg.out = ieee_FromUint.f n a0 := (ieee_FromUint.e0 (ieee_Round.f n) nat_FromUint.f n idJ a0).trans (rfl)
theorem ieee_FromUint.ok {n : Nat} {a0 : Int} {r : Int} (h : ieee_FromUint.f n a0 = some r) : CallD Tryd.prog HW 73 [.int .u64 a0] (ieee_FromUint.sg.enc r) :=
  fun_some hwS Tryd.func73 (by kernel_rfl) (body := ieee_FromUint.code) (by kernel_rfl) tys_ok (c := ieee_FromUint.cfg (ieee_Round.f n) nat_FromUint.f) (orCall_ok (ieee_Round.call_ok (n := n)) (orCall_ok (nat_FromUint.call_ok (n := n)) noCall_ok)) noW_ok (by kernel_rfl) (by kernel_rfl) (Nat.le_of_ble_eq_true (by kernel_rfl)) ((ieee_FromUint.eq n a0).trans h)
noncomputable def ieee_FromUint.call {α : Type} (g : Int → Option (Int)) (ds : List D) (K : List D → Option α) : Option α := match ds with
  | [.int .u64 a0] => (g a0).bind fun r => K (ieee_FromUint.sg.enc r)
  | _ => none
theorem ieee_FromUint.call_ok {α : Type} {n : Nat} (ds : List D) (K : List D → Option α) (r : α) (h : ieee_FromUint.call (ieee_FromUint.f n) ds K = some r) : ∃ rs, K rs = some r ∧ CallD Tryd.prog HW 73 ds rs := by
  unfold ieee_FromUint.call at h
  split at h
  · obtain ⟨x, hx, hk⟩ := Option.bind_eq_some_iff.1 h
    exact ⟨_, hk, ieee_FromUint.ok (n := n) hx⟩
  · cases h
/-! ### remain_signed: function 49 -/
noncomputable def remain_signed.b0 (a0 : Bool) (a1 : Int) : Option (Int) := (if a0 = true then some (Go.bits .or .u64 a1 9223372036854775808) else some (Go.bits .andNot .u64 a1 9223372036854775808))
noncomputable def remain_signed.f (a0 : Bool) (a1 : Int) : Option (Int) := remain_signed.b0 a0 a1
noncomputable def remain_signed.sg : Sig (Int) := s1 (sInt .u64)
noncomputable def remain_signed.code : Code := (Tryd.f49.body).getD .skip
noncomputable def remain_signed.cfg : Cfg (Int) := { T := tys, call := noCall }
noncomputable def remain_signed.cuts : List (Nat × List (Nat × Want)) := []
theorem remain_signed.e0 (n : Nat) (J : Nat → (ASt → Option (Int)) → ASt → Option (Int)) (a0 : Bool) (a1 : Int) : afun (remain_signed.cfg) J remain_signed.cuts n remain_signed.code Tryd.f49.results.toList [false] [.bool a0, .int .u64 a1] remain_signed.sg.out = remain_signed.b0 a0 a1 := by kernel_rfl
theorem remain_signed.eq (n : Nat) (a0 : Bool) (a1 : Int) : afun (remain_signed.cfg) idJ remain_signed.cuts n remain_signed.code Tryd.f49.results.toList [false] [.bool a0, .int .u64 a1] remain_signed.sg.out = remain_signed.f a0 a1 := (remain_signed.e0 n idJ a0 a1).trans (rfl)
theorem remain_signed.ok {n : Nat} {a0 : Bool} {a1 : Int} {r : Int} (h : remain_signed.f a0 a1 = some r) : CallD Tryd.prog HW 49 [.bool a0, .int .u64 a1] (remain_signed.sg.enc r) :=
  fun_some hwS Tryd.func49 (by kernel_rfl) (body := remain_signed.code) (by kernel_rfl) tys_ok (c := remain_signed.cfg) noCall_ok noW_ok (by kernel_rfl) (by kernel_rfl) (Nat.le_of_ble_eq_true (by kernel_rfl)) ((remain_signed.eq n a0 a1).trans h)
noncomputable def remain_signed.call {α : Type} (g : Bool → Int → Option (Int)) (ds : List D) (K : List D → Option α) : Option α := match ds with
  | [.bool a0, .int .u64 a1] => (g a0 a1).bind fun r => K (remain_signed.sg.enc r)
  | _ => none
theorem remain_signed.call_ok {α : Type} {n : Nat} (ds : List D) (K : List D → Option α) (r : α) (h : remain_signed.call remain_signed.f ds K = some r) : ∃ rs, K rs = some r ∧ CallD Tryd.prog HW 49 ds rs := by
  unfold remain_signed.call at h
  split at h
  · obtain ⟨x, hx, hk⟩ := Option.bind_eq_some_iff.1 h
    exact ⟨_, hk, remain_signed.ok (n := n) hx⟩
  · cases h
/-! ### remain_round_77: function 74 -/
noncomputable def remain_round_77.b0 (c15 : Int → Option (Bool × Int × Int × Int)) (c49 : Bool → Int → Option (Int)) (c73 : Int → Option (Int)) (c77 : Bool → Int → Int → Option (Bool)) (k255 : Int → Int → Bool → Int → Int → Int → Option (Int)) (a0 : Int) : Option (Int) := ((c15 a0).bind fun t1 => (if t1.2.1 = 4 then some 9221120237041090560 else (if t1.2.1 = 3 then some a0 else (if t1.2.1 = 0 then some a0 else (if t1.2.2.2 ≥ 0 then some a0 else (if (wrap64 (-t1.2.2.2)) ≤ 63 then (if 0 ≤ (wrap64 (-t1.2.2.2)) then (if 0 ≤ (wrap64 (-t1.2.2.2)) then (if 0 ≤ (wrap64 ((wrap64 (-t1.2.2.2)) - 1)) then (if (Go.bits .and .u64 t1.2.2.1 (IntKind.u64.wrap ((shl .u64 1 (wrap64 (-t1.2.2.2))) - 1))) = 0 then k255 (shr .u64 t1.2.2.1 (wrap64 (-t1.2.2.2))) 0 t1.1 t1.2.1 t1.2.2.1 t1.2.2.2 else (if (Go.bits .and .u64 t1.2.2.1 (IntKind.u64.wrap ((shl .u64 1 (wrap64 (-t1.2.2.2))) - 1))) = (shl .u64 1 (wrap64 ((wrap64 (-t1.2.2.2)) - 1))) then k255 (shr .u64 t1.2.2.1 (wrap64 (-t1.2.2.2))) 2 t1.1 t1.2.1 t1.2.2.1 t1.2.2.2 else (if (Go.bits .and .u64 t1.2.2.1 (IntKind.u64.wrap ((shl .u64 1 (wrap64 (-t1.2.2.2))) - 1))) > (shl .u64 1 (wrap64 ((wrap64 (-t1.2.2.2)) - 1))) then k255 (shr .u64 t1.2.2.1 (wrap64 (-t1.2.2.2))) 3 t1.1 t1.2.1 t1.2.2.1 t1.2.2.2 else k255 (shr .u64 t1.2.2.1 (wrap64 (-t1.2.2.2))) 1 t1.1 t1.2.1 t1.2.2.1 t1.2.2.2))) else none) else none) else none) else k255 0 1 t1.1 t1.2.1 t1.2.2.1 t1.2.2.2))))))
noncomputable def remain_round_77.b255 (c15 : Int → Option (Bool × Int × Int × Int)) (c49 : Bool → Int → Option (Int)) (c73 : Int → Option (Int)) (c77 : Bool → Int → Int → Option (Bool)) (k511 : Int → Bool → Int → Int → Int → Option (Int)) (x0 : Int) (x1 : Int) (x2 : Bool) (x3 : Int) (x4 : Int) (x5 : Int) : Option (Int) := (if ¬ x1 = 0 then ((c77 x2 x0 x1).bind fun t1 => (if t1 = true then k511 (IntKind.u64.wrap (x0 + 1)) x2 x3 x4 x5 else k511 x0 x2 x3 x4 x5)) else k511 x0 x2 x3 x4 x5)
noncomputable def remain_round_77.b511 (c15 : Int → Option (Bool × Int × Int × Int)) (c49 : Bool → Int → Option (Int)) (c73 : Int → Option (Int)) (c77 : Bool → Int → Int → Option (Bool)) (x0 : Int) (x1 : Bool) (x2 : Int) (x3 : Int) (x4 : Int) : Option (Int) := ((c73 x0).bind fun t1 => ((c49 x1 t1).bind fun t2 => some t2))
noncomputable def remain_round_77.l511 (n : Nat) (x0 : Int) (x1 : Bool) (x2 : Int) (x3 : Int) (x4 : Int) : Option (Int) := remain_round_77.b511 ieee_Decode.f remain_signed.f (ieee_FromUint.f n) remain_Trunc_1.f x0 x1 x2 x3 x4
noncomputable def remain_round_77.l255 (n : Nat) (x0 : Int) (x1 : Int) (x2 : Bool) (x3 : Int) (x4 : Int) (x5 : Int) : Option (Int) := remain_round_77.b255 ieee_Decode.f remain_signed.f (ieee_FromUint.f n) remain_Trunc_1.f (remain_round_77.l511 n) x0 x1 x2 x3 x4 x5
noncomputable def remain_round_77.f (n : Nat) (a0 : Int) : Option (Int) := remain_round_77.b0 ieee_Decode.f remain_signed.f (ieee_FromUint.f n) remain_Trunc_1.f (remain_round_77.l255 n) a0
noncomputable def remain_round_77.sg : Sig (Int) := s1 (sInt .u64)
noncomputable def remain_round_77.code : Code := (Tryd.f74.body).getD .skip
noncomputable def remain_round_77.cfg (c15 : Int → Option (Bool × Int × Int × Int)) (c49 : Bool → Int → Option (Int)) (c73 : Int → Option (Int)) (c77 : Bool → Int → Int → Option (Bool)) : Cfg (Int) := { T := tys, call := orCall 15 (ieee_Decode.call c15) (orCall 49 (remain_signed.call c49) (orCall 73 (ieee_FromUint.call c73) (orCall 77 (remain_Trunc_1.call c77) (noCall)))) }
noncomputable def remain_round_77.cuts : List (Nat × List (Nat × Want)) := [(255, [(1, .keep), (5, .keep), (7, .keep), (8, .keep)]), (511, [(5, .keep), (7, .keep)])]
noncomputable def remain_round_77.s255 (x0 : Int) (x1 : Int) (x2 : Bool) (x3 : Int) (x4 : Int) (x5 : Int) : ASt := ⟨[(1, .fn 77), (5, .ptr 0 0), (7, .int .u64 x0), (8, .int .i64 x1)], [.cells 32 [.bool x2, .int .i64 x3, .int .u64 x4, .int .i64 x5]]⟩
noncomputable def remain_round_77.s511 (x0 : Int) (x1 : Bool) (x2 : Int) (x3 : Int) (x4 : Int) : ASt := ⟨[(5, .ptr 0 0), (7, .int .u64 x0)], [.cells 32 [.bool x1, .int .i64 x2, .int .u64 x3, .int .i64 x4]]⟩
noncomputable def remain_round_77.A (c15 : Int → Option (Bool × Int × Int × Int)) (c49 : Bool → Int → Option (Int)) (c73 : Int → Option (Int)) (c77 : Bool → Int → Int → Option (Bool)) (n : Nat) (J : Nat → (ASt → Option (Int)) → ASt → Option (Int)) (q : Nat) (ms : List Nat) : ASt → Option (Int) := acont (remain_round_77.cfg c15 c49 c73 c77) J remain_round_77.cuts n q remain_round_77.code 1 ms (aend (remain_round_77.cfg c15 c49 c73 c77) Tryd.f74.results.toList [false] remain_round_77.sg.out)
theorem remain_round_77.e0 (c15 : Int → Option (Bool × Int × Int × Int)) (c49 : Bool → Int → Option (Int)) (c73 : Int → Option (Int)) (c77 : Bool → Int → Int → Option (Bool)) (n : Nat) (J : Nat → (ASt → Option (Int)) → ASt → Option (Int)) (a0 : Int) : afun (remain_round_77.cfg c15 c49 c73 c77) J remain_round_77.cuts n remain_round_77.code Tryd.f74.results.toList [false] [.int .u64 a0, .fn 77] remain_round_77.sg.out = remain_round_77.b0 c15 c49 c73 c77 (fun y0 y1 y2 y3 y4 y5 => J 255 (remain_round_77.A c15 c49 c73 c77 n J 255 []) (remain_round_77.s255 y0 y1 y2 y3 y4 y5)) a0 := by kernel_rfl
theorem remain_round_77.e255 (c15 : Int → Option (Bool × Int × Int × Int)) (c49 : Bool → Int → Option (Int)) (c73 : Int → Option (Int)) (c77 : Bool → Int → Int → Option (Bool)) (n : Nat) (J : Nat → (ASt → Option (Int)) → ASt → Option (Int)) (x0 : Int) (x1 : Int) (x2 : Bool) (x3 : Int) (x4 : Int) (x5 : Int) : remain_round_77.A c15 c49 c73 c77 n J 255 [] (remain_round_77.s255 x0 x1 x2 x3 x4 x5) = remain_round_77.b255 c15 c49 c73 c77 (fun y0 y1 y2 y3 y4 => J 511 (remain_round_77.A c15 c49 c73 c77 n J 511 []) (remain_round_77.s511 y0 y1 y2 y3 y4)) x0 x1 x2 x3 x4 x5 := by kernel_rfl
theorem remain_round_77.e511 (c15 : Int → Option (Bool × Int × Int × Int)) (c49 : Bool → Int → Option (Int)) (c73 : Int → Option (Int)) (c77 : Bool → Int → Int → Option (Bool)) (n : Nat) (J : Nat → (ASt → Option (Int)) → ASt → Option (Int)) (x0 : Int) (x1 : Bool) (x2 : Int) (x3 : Int) (x4 : Int) : remain_round_77.A c15 c49 c73 c77 n J 511 [] (remain_round_77.s511 x0 x1 x2 x3 x4) = remain_round_77.b511 c15 c49 c73 c77 x0 x1 x2 x3 x4 := by kernel_rfl
theorem remain_round_77.q511 (n : Nat) (x0 : Int) (x1 : Bool) (x2 : Int) (x3 : Int) (x4 : Int) : remain_round_77.A ieee_Decode.f remain_signed.f (ieee_FromUint.f n) remain_Trunc_1.f n idJ 511 [] (remain_round_77.s511 x0 x1 x2 x3 x4) = remain_round_77.l511 n x0 x1 x2 x3 x4 := (remain_round_77.e511 ieee_Decode.f remain_signed.f (ieee_FromUint.f n) remain_Trunc_1.f n idJ x0 x1 x2 x3 x4).trans (rfl)
theorem remain_round_77.q255 (n : Nat) (x0 : Int) (x1 : Int) (x2 : Bool) (x3 : Int) (x4 : Int) (x5 : Int) : remain_round_77.A ieee_Decode.f remain_signed.f (ieee_FromUint.f n) remain_Trunc_1.f n idJ 255 [] (remain_round_77.s255 x0 x1 x2 x3 x4 x5) = remain_round_77.l255 n x0 x1 x2 x3 x4 x5 := (remain_round_77.e255 ieee_Decode.f remain_signed.f (ieee_FromUint.f n) remain_Trunc_1.f n idJ x0 x1 x2 x3 x4 x5).trans (congrFun (congrFun (congrFun (congrFun (congrFun (congrFun (congrArg (remain_round_77.b255 ieee_Decode.f remain_signed.f (ieee_FromUint.f n) remain_Trunc_1.f) (funext fun y0 => (funext fun y1 => (funext fun y2 => (funext fun y3 => (funext fun y4 => remain_round_77.q511 n y0 y1 y2 y3 y4)))))) x0) x1) x2) x3) x4) x5)
theorem remain_round_77.eq (n : Nat) (a0 : Int) : afun (remain_round_77.cfg ieee_Decode.f remain_signed.f (ieee_FromUint.f n) remain_Trunc_1.f) idJ remain_round_77.cuts n remain_round_77.code Tryd.f74.results.toList [false] [.int .u64 a0, .fn 77] remain_round_77.sg.out = remain_round_77.f n a0 := (remain_round_77.e0 ieee_Decode.f remain_signed.f (ieee_FromUint.f n) remain_Trunc_1.f n idJ a0).trans (congrFun (congrArg (remain_round_77.b0 ieee_Decode.f remain_signed.f (ieee_FromUint.f n) remain_Trunc_1.f) (funext fun y0 => (funext fun y1 => (funext fun y2 => (funext fun y3 => (funext fun y4 => (funext fun y5 => remain_round_77.q255 n y0 y1 y2 y3 y4 y5))))))) a0)
theorem remain_round_77.ok {n : Nat} {a0 : Int} {r : Int} (h : remain_round_77.f n a0 = some r) : CallD Tryd.prog HW 74 [.int .u64 a0, .fn 77] (remain_round_77.sg.enc r) :=
  fun_some hwS Tryd.func74 (by kernel_rfl) (body := remain_round_77.code) (by kernel_rfl) tys_ok (c := remain_round_77.cfg ieee_Decode.f remain_signed.f (ieee_FromUint.f n) remain_Trunc_1.f) (orCall_ok (ieee_Decode.call_ok (n := n)) (orCall_ok (remain_signed.call_ok (n := n)) (orCall_ok (ieee_FromUint.call_ok (n := n)) (orCall_ok (remain_Trunc_1.call_ok (n := n)) noCall_ok)))) noW_ok (by kernel_rfl) (by kernel_rfl) (Nat.le_of_ble_eq_true (by kernel_rfl)) ((remain_round_77.eq n a0).trans h)
noncomputable def remain_round_77.call {α : Type} (g : Int → Option (Int)) (ds : List D) (K : List D → Option α) : Option α := match ds with
  | [.int .u64 a0, .fn f0] => (match Nat.beq f0 77 with
    | true => (g a0).bind fun r => K (remain_round_77.sg.enc r)
    | false => none)
  | _ => none
theorem remain_round_77.call_ok {α : Type} {n : Nat} (ds : List D) (K : List D → Option α) (r : α) (h : remain_round_77.call (remain_round_77.f n) ds K = some r) : ∃ rs, K rs = some r ∧ CallD Tryd.prog HW 74 ds rs := by
  unfold remain_round_77.call at h
  split at h
  · split at h
    · rename_i hq
      rw [Nat.eq_of_beq_eq_true hq]
      obtain ⟨x, hx, hk⟩ := Option.bind_eq_some_iff.1 h
      exact ⟨_, hk, remain_round_77.ok (n := n) hx⟩
    · cases h
  · cases h
/-! ### remain_Trunc: function 41 -/
noncomputable def remain_Trunc.b0 (c740077 : Int → Option (Int)) (a0 : Int) : Option (Int) := ((c740077 a0).bind fun t1 => some t1)
noncomputable def remain_Trunc.f (n : Nat) (a0 : Int) : Option (Int) := remain_Trunc.b0 (remain_round_77.f n) a0
noncomputable def remain_Trunc.sg : Sig (Int) := s1 (sInt .u64)
noncomputable def remain_Trunc.code : Code := (Tryd.f41.body).getD .skip
noncomputable def remain_Trunc.cfg (c740077 : Int → Option (Int)) : Cfg (Int) := { T := tys, call := orCall 74 (remain_round_77.call c740077) (noCall) }
noncomputable def remain_Trunc.cuts : List (Nat × List (Nat × Want)) := []
theorem remain_Trunc.e0 (c740077 : Int → Option (Int)) (n : Nat) (J : Nat → (ASt → Option (Int)) → ASt → Option (Int)) (a0 : Int) : afun (remain_Trunc.cfg c740077) J remain_Trunc.cuts n remain_Trunc.code Tryd.f41.results.toList [false] [.int .u64 a0] remain_Trunc.sg.out = remain_Trunc.b0 c740077 a0 := by kernel_rfl
theorem remain_Trunc.eq (n : Nat) (a0 : Int) : afun (remain_Trunc.cfg (remain_round_77.f n)) idJ remain_Trunc.cuts n remain_Trunc.code Tryd.f41.results.toList [false] [.int .u64 a0] remain_Trunc.sg.out = remain_Trunc.f n a0 := (remain_Trunc.e0 (remain_round_77.f n) n idJ a0).trans (rfl)
theorem remain_Trunc.ok {n : Nat} {a0 : Int} {r : Int} (h : remain_Trunc.f n a0 = some r) : CallD Tryd.prog HW 41 [.int .u64 a0] (remain_Trunc.sg.enc r) :=
  fun_some hwS Tryd.func41 (by kernel_rfl) (body := remain_Trunc.code) (by kernel_rfl) tys_ok (c := remain_Trunc.cfg (remain_round_77.f n)) (orCall_ok (remain_round_77.call_ok (n := n)) noCall_ok) noW_ok (by kernel_rfl) (by kernel_rfl) (Nat.le_of_ble_eq_true (by kernel_rfl)) ((remain_Trunc.eq n a0).trans h)
noncomputable def remain_Trunc.call {α : Type} (g : Int → Option (Int)) (ds : List D) (K : List D → Option α) : Option α := match ds with
  | [.int .u64 a0] => (g a0).bind fun r => K (remain_Trunc.sg.enc r)
  | _ => none
theorem remain_Trunc.call_ok {α : Type} {n : Nat} (ds : List D) (K : List D → Option α) (r : α) (h : remain_Trunc.call (remain_Trunc.f n) ds K = some r) : ∃ rs, K rs = some r ∧ CallD Tryd.prog HW 41 ds rs := by
  unfold remain_Trunc.call at h
  split at h
  · obtain ⟨x, hx, hk⟩ := Option.bind_eq_some_iff.1 h
    exact ⟨_, hk, remain_Trunc.ok (n := n) hx⟩
  · cases h
/-! ### remain_special: function 62 -/
noncomputable def remain_special.b0 (a0 : Bool) (a1 : Int) (a2 : Int) (a3 : Int) (a4 : Bool) (a5 : Int) (a6 : Int) (a7 : Int) (a8 : Int) : Option (Int × Bool) := (if a1 = 4 then some (9221120237041090560, true) else (if a5 = 4 then some (9221120237041090560, true) else (if a1 = 3 then some (9221120237041090560, true) else (if a5 = 0 then some (9221120237041090560, true) else (if a5 = 3 then some (a8, true) else (if a1 = 0 then some (a8, true) else some (0, false)))))))
noncomputable def remain_special.f (a0 : Bool) (a1 : Int) (a2 : Int) (a3 : Int) (a4 : Bool) (a5 : Int) (a6 : Int) (a7 : Int) (a8 : Int) : Option (Int × Bool) := remain_special.b0 a0 a1 a2 a3 a4 a5 a6 a7 a8
noncomputable def remain_special.sg : Sig (Int × Bool) := s2 (sInt .u64) (s1 (sBool))
noncomputable def remain_special.code : Code := (Tryd.f62.body).getD .skip
noncomputable def remain_special.cfg : Cfg (Int × Bool) := { T := tys, call := noCall }
noncomputable def remain_special.cuts : List (Nat × List (Nat × Want)) := []
theorem remain_special.e0 (n : Nat) (J : Nat → (ASt → Option (Int × Bool)) → ASt → Option (Int × Bool)) (a0 : Bool) (a1 : Int) (a2 : Int) (a3 : Int) (a4 : Bool) (a5 : Int) (a6 : Int) (a7 : Int) (a8 : Int) : afun (remain_special.cfg) J remain_special.cuts n remain_special.code Tryd.f62.results.toList [false, false] [.agg [.bool a0, .int .i64 a1, .int .u64 a2, .int .i64 a3], .agg [.bool a4, .int .i64 a5, .int .u64 a6, .int .i64 a7], .int .u64 a8] remain_special.sg.out = remain_special.b0 a0 a1 a2 a3 a4 a5 a6 a7 a8 := by kernel_rfl
theorem remain_special.eq (n : Nat) (a0 : Bool) (a1 : Int) (a2 : Int) (a3 : Int) (a4 : Bool) (a5 : Int) (a6 : Int) (a7 : Int) (a8 : Int) : afun (remain_special.cfg) idJ remain_special.cuts n remain_special.code Tryd.f62.results.toList [false, false] [.agg [.bool a0, .int .i64 a1, .int .u64 a2, .int .i64 a3], .agg [.bool a4, .int .i64 a5, .int .u64 a6, .int .i64 a7], .int .u64 a8] remain_special.sg.out = remain_special.f a0 a1 a2 a3 a4 a5 a6 a7 a8 := (remain_special.e0 n idJ a0 a1 a2 a3 a4 a5 a6 a7 a8).trans (rfl)
theorem remain_special.ok {n : Nat} {a0 : Bool} {a1 : Int} {a2 : Int} {a3 : Int} {a4 : Bool} {a5 : Int} {a6 : Int} {a7 : Int} {a8 : Int} {r : Int × Bool} (h : remain_special.f a0 a1 a2 a3 a4 a5 a6 a7 a8 = some r) : CallD Tryd.prog HW 62 [.agg [.bool a0, .int .i64 a1, .int .u64 a2, .int .i64 a3], .agg [.bool a4, .int .i64 a5, .int .u64 a6, .int .i64 a7], .int .u64 a8] (remain_special.sg.enc r) :=
  fun_some hwS Tryd.func62 (by kernel_rfl) (body := remain_special.code) (by kernel_rfl) tys_ok (c := remain_special.cfg) noCall_ok noW_ok (by kernel_rfl) (by kernel_rfl) (Nat.le_of_ble_eq_true (by kernel_rfl)) ((remain_special.eq n a0 a1 a2 a3 a4 a5 a6 a7 a8).trans h)
noncomputable def remain_special.call {α : Type} (g : Bool → Int → Int → Int → Bool → Int → Int → Int → Int → Option (Int × Bool)) (ds : List D) (K : List D → Option α) : Option α := match ds with
  | [.agg [.bool a0, .int .i64 a1, .int .u64 a2, .int .i64 a3], .agg [.bool a4, .int .i64 a5, .int .u64 a6, .int .i64 a7], .int .u64 a8] => (g a0 a1 a2 a3 a4 a5 a6 a7 a8).bind fun r => K (remain_special.sg.enc r)
  | _ => none
theorem remain_special.call_ok {α : Type} {n : Nat} (ds : List D) (K : List D → Option α) (r : α) (h : remain_special.call remain_special.f ds K = some r) : ∃ rs, K rs = some r ∧ CallD Tryd.prog HW 62 ds rs := by
  unfold remain_special.call at h
  split at h
  · obtain ⟨x, hx, hk⟩ := Option.bind_eq_some_iff.1 h
    exact ⟨_, hk, remain_special.ok (n := n) hx⟩
  · cases h
/-! ### bits_LeadingZeros64: function 91 -/
noncomputable def bits_LeadingZeros64.b0 (c64 : Int → Option (Int)) (a0 : Int) : Option (Int) := ((c64 a0).bind fun t1 => some (wrap64 (64 - t1)))
noncomputable def bits_LeadingZeros64.f (a0 : Int) : Option (Int) := bits_LeadingZeros64.b0 bits_Len64.f a0
noncomputable def bits_LeadingZeros64.sg : Sig (Int) := s1 (sInt .i64)
noncomputable def bits_LeadingZeros64.code : Code := (Tryd.f91.body).getD .skip
noncomputable def bits_LeadingZeros64.cfg (c64 : Int → Option (Int)) : Cfg (Int) := { T := tys, call := orCall 64 (bits_Len64.call c64) (noCall) }
noncomputable def bits_LeadingZeros64.cuts : List (Nat × List (Nat × Want)) := []
theorem bits_LeadingZeros64.e0 (c64 : Int → Option (Int)) (n : Nat) (J : Nat → (ASt → Option (Int)) → ASt → Option (Int)) (a0 : Int) : afun (bits_LeadingZeros64.cfg c64) J bits_LeadingZeros64.cuts n bits_LeadingZeros64.code Tryd.f91.results.toList [false] [.int .u64 a0] bits_LeadingZeros64.sg.out = bits_LeadingZeros64.b0 c64 a0 := by kernel_rfl
theorem bits_LeadingZeros64.eq (n : Nat) (a0 : Int) : afun (bits_LeadingZeros64.cfg bits_Len64.f) idJ bits_LeadingZeros64.cuts n bits_LeadingZeros64.code Tryd.f91.results.toList [false] [.int .u64 a0] bits_LeadingZeros64.sg.out = bits_LeadingZeros64.f a0 := (bits_LeadingZeros64.e0 bits_Len64.f n idJ a0).trans (rfl)
theorem bits_LeadingZeros64.ok {n : Nat} {a0 : Int} {r : Int} (h : bits_LeadingZeros64.f a0 = some r) : CallD Tryd.prog HW 91 [.int .u64 a0] (bits_LeadingZeros64.sg.enc r) :=
  fun_some hwS Tryd.func91 (by kernel_rfl) (body := bits_LeadingZeros64.code) (by kernel_rfl) tys_ok (c := bits_LeadingZeros64.cfg bits_Len64.f) (orCall_ok (bits_Len64.call_ok (n := n)) noCall_ok) noW_ok (by kernel_rfl) (by kernel_rfl) (Nat.le_of_ble_eq_true (by kernel_rfl)) ((bits_LeadingZeros64.eq n a0).trans h)
noncomputable def bits_LeadingZeros64.call {α : Type} (g : Int → Option (Int)) (ds : List D) (K : List D → Option α) : Option α := match ds with
  | [.int .u64 a0] => (g a0).bind fun r => K (bits_LeadingZeros64.sg.enc r)
  | _ => none
theorem bits_LeadingZeros64.call_ok {α : Type} {n : Nat} (ds : List D) (K : List D → Option α) (r : α) (h : bits_LeadingZeros64.call bits_LeadingZeros64.f ds K = some r) : ∃ rs, K rs = some r ∧ CallD Tryd.prog HW 91 ds rs := by
  unfold bits_LeadingZeros64.call at h
  split at h
  · obtain ⟨x, hx, hk⟩ := Option.bind_eq_some_iff.1 h
    exact ⟨_, hk, bits_LeadingZeros64.ok (n := n) hx⟩
  · cases h
/-! ### bits_Div64: function 90 -/
noncomputable def bits_Div64.b0 (c91 : Int → Option (Int)) (k262137 : Int → Int → Int → Int → Int → Int → Int → Int → Int → Option (Int × Int)) (a0 : Int) (a1 : Int) (a2 : Int) : Option (Int × Int) := (if a2 = 0 then none else (if a2 ≤ a0 then none else (if a0 = 0 then (if a2 = 0 then none else (if a2 = 0 then none else some (IntKind.u64.wrap (Int.tdiv a1 a2), Int.tmod a1 a2))) else ((c91 a2).bind fun t1 => (if 0 ≤ (IntKind.u64.wrap t1) then (if 0 ≤ (IntKind.u64.wrap t1) then (if 0 ≤ (IntKind.u64.wrap (64 - (IntKind.u64.wrap t1))) then (if 0 ≤ (IntKind.u64.wrap t1) then (if ((shl .u64 a2 (IntKind.u64.wrap t1)) / 4294967296) = 0 then none else k262137 (shl .u64 a2 (IntKind.u64.wrap t1)) (IntKind.u64.wrap t1) ((shl .u64 a2 (IntKind.u64.wrap t1)) / 4294967296) (Go.bits .and .u64 (shl .u64 a2 (IntKind.u64.wrap t1)) 4294967295) (Go.bits .or .u64 (shl .u64 a0 (IntKind.u64.wrap t1)) (shr .u64 a1 (IntKind.u64.wrap (64 - (IntKind.u64.wrap t1))))) ((shl .u64 a1 (IntKind.u64.wrap t1)) / 4294967296) (Go.bits .and .u64 (shl .u64 a1 (IntKind.u64.wrap t1)) 4294967295) (IntKind.u64.wrap (Int.tdiv (Go.bits .or .u64 (shl .u64 a0 (IntKind.u64.wrap t1)) (shr .u64 a1 (IntKind.u64.wrap (64 - (IntKind.u64.wrap t1))))) ((shl .u64 a2 (IntKind.u64.wrap t1)) / 4294967296))) (IntKind.u64.wrap ((Go.bits .or .u64 (shl .u64 a0 (IntKind.u64.wrap t1)) (shr .u64 a1 (IntKind.u64.wrap (64 - (IntKind.u64.wrap t1))))) - (IntKind.u64.wrap ((IntKind.u64.wrap (Int.tdiv (Go.bits .or .u64 (shl .u64 a0 (IntKind.u64.wrap t1)) (shr .u64 a1 (IntKind.u64.wrap (64 - (IntKind.u64.wrap t1))))) ((shl .u64 a2 (IntKind.u64.wrap t1)) / 4294967296))) * ((shl .u64 a2 (IntKind.u64.wrap t1)) / 4294967296)))))) else none) else none) else none) else none)))))
noncomputable def bits_Div64.b65535 (c91 : Int → Option (Int)) (k4194297 : Int → Int → Int → Int → Int → Int → Int → Int → Int → Option (Int × Int)) (x0 : Int) (x1 : Int) (x2 : Int) (x3 : Int) (x4 : Int) (x5 : Int) (x6 : Int) (x7 : Int) : Option (Int × Int) := (if x2 = 0 then none else k4194297 x0 x1 x2 x3 x6 x7 (IntKind.u64.wrap ((IntKind.u64.wrap ((IntKind.u64.wrap ((IntKind.u64.wrap (x4 * 4294967296)) + x5)) - (IntKind.u64.wrap (x7 * x0)))) - (IntKind.u64.wrap ((IntKind.u64.wrap (Int.tdiv (IntKind.u64.wrap ((IntKind.u64.wrap ((IntKind.u64.wrap (x4 * 4294967296)) + x5)) - (IntKind.u64.wrap (x7 * x0)))) x2)) * x2)))) (IntKind.u64.wrap ((IntKind.u64.wrap ((IntKind.u64.wrap (x4 * 4294967296)) + x5)) - (IntKind.u64.wrap (x7 * x0)))) (IntKind.u64.wrap (Int.tdiv (IntKind.u64.wrap ((IntKind.u64.wrap ((IntKind.u64.wrap (x4 * 4294967296)) + x5)) - (IntKind.u64.wrap (x7 * x0)))) x2)))
noncomputable def bits_Div64.b262137 (c91 : Int → Option (Int)) (k65535 : Int → Int → Int → Int → Int → Int → Int → Int → Option (Int × Int)) (k524273 : Int → Int → Int → Int → Int → Int → Int → Int → Int → Option (Int × Int)) (x0 : Int) (x1 : Int) (x2 : Int) (x3 : Int) (x4 : Int) (x5 : Int) (x6 : Int) (x7 : Int) (x8 : Int) : Option (Int × Int) := (if x7 ≥ 4294967296 then k524273 x0 x1 x2 x3 x4 x5 x6 x7 x8 else (if (IntKind.u64.wrap (x7 * x3)) > (IntKind.u64.wrap ((IntKind.u64.wrap (4294967296 * x8)) + x5)) then k524273 x0 x1 x2 x3 x4 x5 x6 x7 x8 else k65535 x0 x1 x2 x3 x4 x5 x6 x7))
noncomputable def bits_Div64.b524273 (c91 : Int → Option (Int)) (k65535 : Int → Int → Int → Int → Int → Int → Int → Int → Option (Int × Int)) (k262137 : Int → Int → Int → Int → Int → Int → Int → Int → Int → Option (Int × Int)) (x0 : Int) (x1 : Int) (x2 : Int) (x3 : Int) (x4 : Int) (x5 : Int) (x6 : Int) (x7 : Int) (x8 : Int) : Option (Int × Int) := (if (IntKind.u64.wrap (x8 + x2)) ≥ 4294967296 then k65535 x0 x1 x2 x3 x4 x5 x6 (IntKind.u64.wrap (x7 - 1)) else k262137 x0 x1 x2 x3 x4 x5 x6 (IntKind.u64.wrap (x7 - 1)) (IntKind.u64.wrap (x8 + x2)))
noncomputable def bits_Div64.b1048575 (c91 : Int → Option (Int)) (x0 : Int) (x1 : Int) (x2 : Int) (x3 : Int) (x4 : Int) (x5 : Int) : Option (Int × Int) := (if 0 ≤ x1 then some (IntKind.u64.wrap ((IntKind.u64.wrap (x3 * 4294967296)) + x5), shr .u64 (IntKind.u64.wrap ((IntKind.u64.wrap ((IntKind.u64.wrap (x4 * 4294967296)) + x2)) - (IntKind.u64.wrap (x5 * x0)))) x1) else none)
noncomputable def bits_Div64.b4194297 (c91 : Int → Option (Int)) (k1048575 : Int → Int → Int → Int → Int → Int → Option (Int × Int)) (k8388593 : Int → Int → Int → Int → Int → Int → Int → Int → Int → Option (Int × Int)) (x0 : Int) (x1 : Int) (x2 : Int) (x3 : Int) (x4 : Int) (x5 : Int) (x6 : Int) (x7 : Int) (x8 : Int) : Option (Int × Int) := (if x8 ≥ 4294967296 then k8388593 x0 x1 x2 x3 x4 x5 x6 x7 x8 else (if (IntKind.u64.wrap (x8 * x3)) > (IntKind.u64.wrap ((IntKind.u64.wrap (4294967296 * x6)) + x4)) then k8388593 x0 x1 x2 x3 x4 x5 x6 x7 x8 else k1048575 x0 x1 x4 x5 x7 x8))
noncomputable def bits_Div64.b8388593 (c91 : Int → Option (Int)) (k1048575 : Int → Int → Int → Int → Int → Int → Option (Int × Int)) (k4194297 : Int → Int → Int → Int → Int → Int → Int → Int → Int → Option (Int × Int)) (x0 : Int) (x1 : Int) (x2 : Int) (x3 : Int) (x4 : Int) (x5 : Int) (x6 : Int) (x7 : Int) (x8 : Int) : Option (Int × Int) := (if (IntKind.u64.wrap (x6 + x2)) ≥ 4294967296 then k1048575 x0 x1 x4 x5 x7 (IntKind.u64.wrap (x8 - 1)) else k4194297 x0 x1 x2 x3 x4 x5 (IntKind.u64.wrap (x6 + x2)) x7 (IntKind.u64.wrap (x8 - 1)))
noncomputable def bits_Div64.l1048575 (n : Nat) (x0 : Int) (x1 : Int) (x2 : Int) (x3 : Int) (x4 : Int) (x5 : Int) : Option (Int × Int) := bits_Div64.b1048575 bits_LeadingZeros64.f x0 x1 x2 x3 x4 x5
noncomputable def bits_Div64.l8388593 (n : Nat) (k4194297 : Int → Int → Int → Int → Int → Int → Int → Int → Int → Option (Int × Int)) (x0 : Int) (x1 : Int) (x2 : Int) (x3 : Int) (x4 : Int) (x5 : Int) (x6 : Int) (x7 : Int) (x8 : Int) : Option (Int × Int) := bits_Div64.b8388593 bits_LeadingZeros64.f (bits_Div64.l1048575 n) k4194297 x0 x1 x2 x3 x4 x5 x6 x7 x8
noncomputable def bits_Div64.l4194297 (n : Nat) : Nat → Int → Int → Int → Int → Int → Int → Int → Int → Int → Option (Int × Int)
  | 0, _, _, _, _, _, _, _, _, _ => none
  | m + 1, x0, x1, x2, x3, x4, x5, x6, x7, x8 => bits_Div64.b4194297 bits_LeadingZeros64.f (bits_Div64.l1048575 n) (bits_Div64.l8388593 n (bits_Div64.l4194297 n m)) x0 x1 x2 x3 x4 x5 x6 x7 x8
noncomputable def bits_Div64.l65535 (n : Nat) (x0 : Int) (x1 : Int) (x2 : Int) (x3 : Int) (x4 : Int) (x5 : Int) (x6 : Int) (x7 : Int) : Option (Int × Int) := bits_Div64.b65535 bits_LeadingZeros64.f (bits_Div64.l4194297 n n) x0 x1 x2 x3 x4 x5 x6 x7
noncomputable def bits_Div64.l524273 (n : Nat) (k262137 : Int → Int → Int → Int → Int → Int → Int → Int → Int → Option (Int × Int)) (x0 : Int) (x1 : Int) (x2 : Int) (x3 : Int) (x4 : Int) (x5 : Int) (x6 : Int) (x7 : Int) (x8 : Int) : Option (Int × Int) := bits_Div64.b524273 bits_LeadingZeros64.f (bits_Div64.l65535 n) k262137 x0 x1 x2 x3 x4 x5 x6 x7 x8
noncomputable def bits_Div64.l262137 (n : Nat) : Nat → Int → Int → Int → Int → Int → Int → Int → Int → Int → Option (Int × Int)
  | 0, _, _, _, _, _, _, _, _, _ => none
  | m + 1, x0, x1, x2, x3, x4, x5, x6, x7, x8 => bits_Div64.b262137 bits_LeadingZeros64.f (bits_Div64.l65535 n) (bits_Div64.l524273 n (bits_Div64.l262137 n m)) x0 x1 x2 x3 x4 x5 x6 x7 x8
noncomputable def bits_Div64.f (n : Nat) (a0 : Int) (a1 : Int) (a2 : Int) : Option (Int × Int) := bits_Div64.b0 bits_LeadingZeros64.f (bits_Div64.l262137 n n) a0 a1 a2
noncomputable def bits_Div64.sg : Sig (Int × Int) := s2 (sInt .u64) (s1 (sInt .u64))
noncomputable def bits_Div64.code : Code := (Tryd.f90.body).getD .skip
noncomputable def bits_Div64.cfg (c91 : Int → Option (Int)) : Cfg (Int × Int) := { T := tys, call := orCall 91 (bits_LeadingZeros64.call c91) (noCall) }
noncomputable def bits_Div64.cuts : List (Nat × List (Nat × Want)) := [(65535, [(2, .keep), (8, .keep), (9, .keep), (10, .keep), (11, .keep), (13, .keep), (14, .keep), (15, .keep)]), (262137, [(2, .keep), (8, .keep), (9, .keep), (10, .keep), (11, .keep), (13, .keep), (14, .keep), (15, .keep), (16, .keep)]), (524273, [(2, .keep), (8, .keep), (9, .keep), (10, .keep), (11, .keep), (13, .keep), (14, .keep), (15, .keep), (16, .keep)]), (1048575, [(2, .keep), (8, .keep), (14, .keep), (15, .keep), (17, .keep), (18, .keep)]), (4194297, [(2, .keep), (8, .keep), (9, .keep), (10, .keep), (14, .keep), (15, .keep), (16, .keep), (17, .keep), (18, .keep)]), (8388593, [(2, .keep), (8, .keep), (9, .keep), (10, .keep), (14, .keep), (15, .keep), (16, .keep), (17, .keep), (18, .keep)])]
noncomputable def bits_Div64.s65535 (x0 : Int) (x1 : Int) (x2 : Int) (x3 : Int) (x4 : Int) (x5 : Int) (x6 : Int) (x7 : Int) : ASt := ⟨[(2, .int .u64 x0), (8, .int .u64 x1), (9, .int .u64 x2), (10, .int .u64 x3), (11, .int .u64 x4), (13, .int .u64 x5), (14, .int .u64 x6), (15, .int .u64 x7)], []⟩
noncomputable def bits_Div64.s262137 (x0 : Int) (x1 : Int) (x2 : Int) (x3 : Int) (x4 : Int) (x5 : Int) (x6 : Int) (x7 : Int) (x8 : Int) : ASt := ⟨[(2, .int .u64 x0), (8, .int .u64 x1), (9, .int .u64 x2), (10, .int .u64 x3), (11, .int .u64 x4), (13, .int .u64 x5), (14, .int .u64 x6), (15, .int .u64 x7), (16, .int .u64 x8)], []⟩
noncomputable def bits_Div64.s524273 (x0 : Int) (x1 : Int) (x2 : Int) (x3 : Int) (x4 : Int) (x5 : Int) (x6 : Int) (x7 : Int) (x8 : Int) : ASt := ⟨[(2, .int .u64 x0), (8, .int .u64 x1), (9, .int .u64 x2), (10, .int .u64 x3), (11, .int .u64 x4), (13, .int .u64 x5), (14, .int .u64 x6), (15, .int .u64 x7), (16, .int .u64 x8)], []⟩
noncomputable def bits_Div64.s1048575 (x0 : Int) (x1 : Int) (x2 : Int) (x3 : Int) (x4 : Int) (x5 : Int) : ASt := ⟨[(2, .int .u64 x0), (8, .int .u64 x1), (14, .int .u64 x2), (15, .int .u64 x3), (17, .int .u64 x4), (18, .int .u64 x5)], []⟩
noncomputable def bits_Div64.s4194297 (x0 : Int) (x1 : Int) (x2 : Int) (x3 : Int) (x4 : Int) (x5 : Int) (x6 : Int) (x7 : Int) (x8 : Int) : ASt := ⟨[(2, .int .u64 x0), (8, .int .u64 x1), (9, .int .u64 x2), (10, .int .u64 x3), (14, .int .u64 x4), (15, .int .u64 x5), (16, .int .u64 x6), (17, .int .u64 x7), (18, .int .u64 x8)], []⟩
noncomputable def bits_Div64.s8388593 (x0 : Int) (x1 : Int) (x2 : Int) (x3 : Int) (x4 : Int) (x5 : Int) (x6 : Int) (x7 : Int) (x8 : Int) : ASt := ⟨[(2, .int .u64 x0), (8, .int .u64 x1), (9, .int .u64 x2), (10, .int .u64 x3), (14, .int .u64 x4), (15, .int .u64 x5), (16, .int .u64 x6), (17, .int .u64 x7), (18, .int .u64 x8)], []⟩
noncomputable def bits_Div64.A (c91 : Int → Option (Int)) (n : Nat) (J : Nat → (ASt → Option (Int × Int)) → ASt → Option (Int × Int)) (q : Nat) (ms : List Nat) : ASt → Option (Int × Int) := acont (bits_Div64.cfg c91) J bits_Div64.cuts n q bits_Div64.code 1 ms (aend (bits_Div64.cfg c91) Tryd.f90.results.toList [false, false] bits_Div64.sg.out)
theorem bits_Div64.e0 (c91 : Int → Option (Int)) (n : Nat) (J : Nat → (ASt → Option (Int × Int)) → ASt → Option (Int × Int)) (a0 : Int) (a1 : Int) (a2 : Int) : afun (bits_Div64.cfg c91) J bits_Div64.cuts n bits_Div64.code Tryd.f90.results.toList [false, false] [.int .u64 a0, .int .u64 a1, .int .u64 a2] bits_Div64.sg.out = bits_Div64.b0 c91 (fun y0 y1 y2 y3 y4 y5 y6 y7 y8 => J 262137 (bits_Div64.A c91 n J 262137 [n]) (bits_Div64.s262137 y0 y1 y2 y3 y4 y5 y6 y7 y8)) a0 a1 a2 := by kernel_rfl
theorem bits_Div64.e65535 (c91 : Int → Option (Int)) (n : Nat) (J : Nat → (ASt → Option (Int × Int)) → ASt → Option (Int × Int)) (x0 : Int) (x1 : Int) (x2 : Int) (x3 : Int) (x4 : Int) (x5 : Int) (x6 : Int) (x7 : Int) : bits_Div64.A c91 n J 65535 [] (bits_Div64.s65535 x0 x1 x2 x3 x4 x5 x6 x7) = bits_Div64.b65535 c91 (fun y0 y1 y2 y3 y4 y5 y6 y7 y8 => J 4194297 (bits_Div64.A c91 n J 4194297 [n]) (bits_Div64.s4194297 y0 y1 y2 y3 y4 y5 y6 y7 y8)) x0 x1 x2 x3 x4 x5 x6 x7 := by kernel_rfl
theorem bits_Div64.e262137 (c91 : Int → Option (Int)) (n : Nat) (J : Nat → (ASt → Option (Int × Int)) → ASt → Option (Int × Int)) (m : Nat) (x0 : Int) (x1 : Int) (x2 : Int) (x3 : Int) (x4 : Int) (x5 : Int) (x6 : Int) (x7 : Int) (x8 : Int) : bits_Div64.A c91 n J 262137 [m + 1] (bits_Div64.s262137 x0 x1 x2 x3 x4 x5 x6 x7 x8) = bits_Div64.b262137 c91 (fun y0 y1 y2 y3 y4 y5 y6 y7 => J 65535 (bits_Div64.A c91 n J 65535 []) (bits_Div64.s65535 y0 y1 y2 y3 y4 y5 y6 y7)) (fun y0 y1 y2 y3 y4 y5 y6 y7 y8 => J 524273 (bits_Div64.A c91 n J 524273 [m]) (bits_Div64.s524273 y0 y1 y2 y3 y4 y5 y6 y7 y8)) x0 x1 x2 x3 x4 x5 x6 x7 x8 := by kernel_rfl
theorem bits_Div64.e524273 (c91 : Int → Option (Int)) (n : Nat) (J : Nat → (ASt → Option (Int × Int)) → ASt → Option (Int × Int)) (m262137 : Nat) (x0 : Int) (x1 : Int) (x2 : Int) (x3 : Int) (x4 : Int) (x5 : Int) (x6 : Int) (x7 : Int) (x8 : Int) : bits_Div64.A c91 n J 524273 [m262137] (bits_Div64.s524273 x0 x1 x2 x3 x4 x5 x6 x7 x8) = bits_Div64.b524273 c91 (fun y0 y1 y2 y3 y4 y5 y6 y7 => J 65535 (bits_Div64.A c91 n J 65535 []) (bits_Div64.s65535 y0 y1 y2 y3 y4 y5 y6 y7)) (fun y0 y1 y2 y3 y4 y5 y6 y7 y8 => J 262137 (bits_Div64.A c91 n J 262137 [m262137]) (bits_Div64.s262137 y0 y1 y2 y3 y4 y5 y6 y7 y8)) x0 x1 x2 x3 x4 x5 x6 x7 x8 := by kernel_rfl
theorem bits_Div64.e1048575 (c91 : Int → Option (Int)) (n : Nat) (J : Nat → (ASt → Option (Int × Int)) → ASt → Option (Int × Int)) (x0 : Int) (x1 : Int) (x2 : Int) (x3 : Int) (x4 : Int) (x5 : Int) : bits_Div64.A c91 n J 1048575 [] (bits_Div64.s1048575 x0 x1 x2 x3 x4 x5) = bits_Div64.b1048575 c91 x0 x1 x2 x3 x4 x5 := by kernel_rfl
theorem bits_Div64.e4194297 (c91 : Int → Option (Int)) (n : Nat) (J : Nat → (ASt → Option (Int × Int)) → ASt → Option (Int × Int)) (m : Nat) (x0 : Int) (x1 : Int) (x2 : Int) (x3 : Int) (x4 : Int) (x5 : Int) (x6 : Int) (x7 : Int) (x8 : Int) : bits_Div64.A c91 n J 4194297 [m + 1] (bits_Div64.s4194297 x0 x1 x2 x3 x4 x5 x6 x7 x8) = bits_Div64.b4194297 c91 (fun y0 y1 y2 y3 y4 y5 => J 1048575 (bits_Div64.A c91 n J 1048575 []) (bits_Div64.s1048575 y0 y1 y2 y3 y4 y5)) (fun y0 y1 y2 y3 y4 y5 y6 y7 y8 => J 8388593 (bits_Div64.A c91 n J 8388593 [m]) (bits_Div64.s8388593 y0 y1 y2 y3 y4 y5 y6 y7 y8)) x0 x1 x2 x3 x4 x5 x6 x7 x8 := by kernel_rfl
theorem bits_Div64.e8388593 (c91 : Int → Option (Int)) (n : Nat) (J : Nat → (ASt → Option (Int × Int)) → ASt → Option (Int × Int)) (m4194297 : Nat) (x0 : Int) (x1 : Int) (x2 : Int) (x3 : Int) (x4 : Int) (x5 : Int) (x6 : Int) (x7 : Int) (x8 : Int) : bits_Div64.A c91 n J 8388593 [m4194297] (bits_Div64.s8388593 x0 x1 x2 x3 x4 x5 x6 x7 x8) = bits_Div64.b8388593 c91 (fun y0 y1 y2 y3 y4 y5 => J 1048575 (bits_Div64.A c91 n J 1048575 []) (bits_Div64.s1048575 y0 y1 y2 y3 y4 y5)) (fun y0 y1 y2 y3 y4 y5 y6 y7 y8 => J 4194297 (bits_Div64.A c91 n J 4194297 [m4194297]) (bits_Div64.s4194297 y0 y1 y2 y3 y4 y5 y6 y7 y8)) x0 x1 x2 x3 x4 x5 x6 x7 x8 := by kernel_rfl
theorem bits_Div64.q1048575 (n : Nat) (x0 : Int) (x1 : Int) (x2 : Int) (x3 : Int) (x4 : Int) (x5 : Int) : bits_Div64.A bits_LeadingZeros64.f n idJ 1048575 [] (bits_Div64.s1048575 x0 x1 x2 x3 x4 x5) = bits_Div64.l1048575 n x0 x1 x2 x3 x4 x5 := (bits_Div64.e1048575 bits_LeadingZeros64.f n idJ x0 x1 x2 x3 x4 x5).trans (rfl)
theorem bits_Div64.q8388593 (n : Nat) (m4194297 : Nat) (x0 : Int) (x1 : Int) (x2 : Int) (x3 : Int) (x4 : Int) (x5 : Int) (x6 : Int) (x7 : Int) (x8 : Int) : bits_Div64.A bits_LeadingZeros64.f n idJ 8388593 [m4194297] (bits_Div64.s8388593 x0 x1 x2 x3 x4 x5 x6 x7 x8) = bits_Div64.l8388593 n (fun y0 y1 y2 y3 y4 y5 y6 y7 y8 => bits_Div64.A bits_LeadingZeros64.f n idJ 4194297 [m4194297] (bits_Div64.s4194297 y0 y1 y2 y3 y4 y5 y6 y7 y8)) x0 x1 x2 x3 x4 x5 x6 x7 x8 := (bits_Div64.e8388593 bits_LeadingZeros64.f n idJ m4194297 x0 x1 x2 x3 x4 x5 x6 x7 x8).trans (congrFun (congrFun (congrFun (congrFun (congrFun (congrFun (congrFun (congrFun (congrFun (congr (congrArg (bits_Div64.b8388593 bits_LeadingZeros64.f) (funext fun y0 => (funext fun y1 => (funext fun y2 => (funext fun y3 => (funext fun y4 => (funext fun y5 => bits_Div64.q1048575 n y0 y1 y2 y3 y4 y5))))))) rfl) x0) x1) x2) x3) x4) x5) x6) x7) x8)
theorem bits_Div64.q4194297 (n : Nat) (m : Nat) : ∀ (x0 : Int) (x1 : Int) (x2 : Int) (x3 : Int) (x4 : Int) (x5 : Int) (x6 : Int) (x7 : Int) (x8 : Int), bits_Div64.A bits_LeadingZeros64.f n idJ 4194297 [m] (bits_Div64.s4194297 x0 x1 x2 x3 x4 x5 x6 x7 x8) = bits_Div64.l4194297 n m x0 x1 x2 x3 x4 x5 x6 x7 x8 := by
  induction m with
  | zero => intros; rfl
  | succ m ih =>
    intro x0 x1 x2 x3 x4 x5 x6 x7 x8
    refine (bits_Div64.e4194297 bits_LeadingZeros64.f n idJ m x0 x1 x2 x3 x4 x5 x6 x7 x8).trans ?_
    exact congrFun (congrFun (congrFun (congrFun (congrFun (congrFun (congrFun (congrFun (congrFun (congr (congrArg (bits_Div64.b4194297 bits_LeadingZeros64.f) (funext fun y0 => (funext fun y1 => (funext fun y2 => (funext fun y3 => (funext fun y4 => (funext fun y5 => bits_Div64.q1048575 n y0 y1 y2 y3 y4 y5))))))) ((funext fun y0 => (funext fun y1 => (funext fun y2 => (funext fun y3 => (funext fun y4 => (funext fun y5 => (funext fun y6 => (funext fun y7 => (funext fun y8 => bits_Div64.q8388593 n m y0 y1 y2 y3 y4 y5 y6 y7 y8))))))))).trans (by rw [show (fun y0 y1 y2 y3 y4 y5 y6 y7 y8 => bits_Div64.A bits_LeadingZeros64.f n idJ 4194297 [m] (bits_Div64.s4194297 y0 y1 y2 y3 y4 y5 y6 y7 y8)) = _ from (funext fun y0 => (funext fun y1 => (funext fun y2 => (funext fun y3 => (funext fun y4 => (funext fun y5 => (funext fun y6 => (funext fun y7 => (funext fun y8 => ih y0 y1 y2 y3 y4 y5 y6 y7 y8)))))))))]))) x0) x1) x2) x3) x4) x5) x6) x7) x8
theorem bits_Div64.q65535 (n : Nat) (x0 : Int) (x1 : Int) (x2 : Int) (x3 : Int) (x4 : Int) (x5 : Int) (x6 : Int) (x7 : Int) : bits_Div64.A bits_LeadingZeros64.f n idJ 65535 [] (bits_Div64.s65535 x0 x1 x2 x3 x4 x5 x6 x7) = bits_Div64.l65535 n x0 x1 x2 x3 x4 x5 x6 x7 := (bits_Div64.e65535 bits_LeadingZeros64.f n idJ x0 x1 x2 x3 x4 x5 x6 x7).trans (congrFun (congrFun (congrFun (congrFun (congrFun (congrFun (congrFun (congrFun (congrArg (bits_Div64.b65535 bits_LeadingZeros64.f) (funext fun y0 => (funext fun y1 => (funext fun y2 => (funext fun y3 => (funext fun y4 => (funext fun y5 => (funext fun y6 => (funext fun y7 => (funext fun y8 => bits_Div64.q4194297 n n y0 y1 y2 y3 y4 y5 y6 y7 y8)))))))))) x0) x1) x2) x3) x4) x5) x6) x7)
theorem bits_Div64.q524273 (n : Nat) (m262137 : Nat) (x0 : Int) (x1 : Int) (x2 : Int) (x3 : Int) (x4 : Int) (x5 : Int) (x6 : Int) (x7 : Int) (x8 : Int) : bits_Div64.A bits_LeadingZeros64.f n idJ 524273 [m262137] (bits_Div64.s524273 x0 x1 x2 x3 x4 x5 x6 x7 x8) = bits_Div64.l524273 n (fun y0 y1 y2 y3 y4 y5 y6 y7 y8 => bits_Div64.A bits_LeadingZeros64.f n idJ 262137 [m262137] (bits_Div64.s262137 y0 y1 y2 y3 y4 y5 y6 y7 y8)) x0 x1 x2 x3 x4 x5 x6 x7 x8 := (bits_Div64.e524273 bits_LeadingZeros64.f n idJ m262137 x0 x1 x2 x3 x4 x5 x6 x7 x8).trans (congrFun (congrFun (congrFun (congrFun (congrFun (congrFun (congrFun (congrFun (congrFun (congr (congrArg (bits_Div64.b524273 bits_LeadingZeros64.f) (funext fun y0 => (funext fun y1 => (funext fun y2 => (funext fun y3 => (funext fun y4 => (funext fun y5 => (funext fun y6 => (funext fun y7 => bits_Div64.q65535 n y0 y1 y2 y3 y4 y5 y6 y7))))))))) rfl) x0) x1) x2) x3) x4) x5) x6) x7) x8)
theorem bits_Div64.q262137 (n : Nat) (m : Nat) : ∀ (x0 : Int) (x1 : Int) (x2 : Int) (x3 : Int) (x4 : Int) (x5 : Int) (x6 : Int) (x7 : Int) (x8 : Int), bits_Div64.A bits_LeadingZeros64.f n idJ 262137 [m] (bits_Div64.s262137 x0 x1 x2 x3 x4 x5 x6 x7 x8) = bits_Div64.l262137 n m x0 x1 x2 x3 x4 x5 x6 x7 x8 := by
  induction m with
  | zero => intros; rfl
  | succ m ih =>
    intro x0 x1 x2 x3 x4 x5 x6 x7 x8
    refine (bits_Div64.e262137 bits_LeadingZeros64.f n idJ m x0 x1 x2 x3 x4 x5 x6 x7 x8).trans ?_
    exact congrFun (congrFun (congrFun (congrFun (congrFun (congrFun (congrFun (congrFun (congrFun (congr (congrArg (bits_Div64.b262137 bits_LeadingZeros64.f) (funext fun y0 => (funext fun y1 => (funext fun y2 => (funext fun y3 => (funext fun y4 => (funext fun y5 => (funext fun y6 => (funext fun y7 => bits_Div64.q65535 n y0 y1 y2 y3 y4 y5 y6 y7))))))))) ((funext fun y0 => (funext fun y1 => (funext fun y2 => (funext fun y3 => (funext fun y4 => (funext fun y5 => (funext fun y6 => (funext fun y7 => (funext fun y8 => bits_Div64.q524273 n m y0 y1 y2 y3 y4 y5 y6 y7 y8))))))))).trans (by rw [show (fun y0 y1 y2 y3 y4 y5 y6 y7 y8 => bits_Div64.A bits_LeadingZeros64.f n idJ 262137 [m] (bits_Div64.s262137 y0 y1 y2 y3 y4 y5 y6 y7 y8)) = _ from (funext fun y0 => (funext fun y1 => (funext fun y2 => (funext fun y3 => (funext fun y4 => (funext fun y5 => (funext fun y6 => (funext fun y7 => (funext fun y8 => ih y0 y1 y2 y3 y4 y5 y6 y7 y8)))))))))]))) x0) x1) x2) x3) x4) x5) x6) x7) x8
theorem bits_Div64.eq (n : Nat) (a0 : Int) (a1 : Int) (a2 : Int) : afun (bits_Div64.cfg bits_LeadingZeros64.f) idJ bits_Div64.cuts n bits_Div64.code Tryd.f90.results.toList [false, false] [.int .u64 a0, .int .u64 a1, .int .u64 a2] bits_Div64.sg.out = bits_Div64.f n a0 a1 a2 := (bits_Div64.e0 bits_LeadingZeros64.f n idJ a0 a1 a2).trans (congrFun (congrFun (congrFun (congrArg (bits_Div64.b0 bits_LeadingZeros64.f) (funext fun y0 => (funext fun y1 => (funext fun y2 => (funext fun y3 => (funext fun y4 => (funext fun y5 => (funext fun y6 => (funext fun y7 => (funext fun y8 => bits_Div64.q262137 n n y0 y1 y2 y3 y4 y5 y6 y7 y8)))))))))) a0) a1) a2)
theorem bits_Div64.ok {n : Nat} {a0 : Int} {a1 : Int} {a2 : Int} {r : Int × Int} (h : bits_Div64.f n a0 a1 a2 = some r) : CallD Tryd.prog HW 90 [.int .u64 a0, .int .u64 a1, .int .u64 a2] (bits_Div64.sg.enc r) :=
  fun_some hwS Tryd.func90 (by kernel_rfl) (body := bits_Div64.code) (by kernel_rfl) tys_ok (c := bits_Div64.cfg bits_LeadingZeros64.f) (orCall_ok (bits_LeadingZeros64.call_ok (n := n)) noCall_ok) noW_ok (by kernel_rfl) (by kernel_rfl) (Nat.le_of_ble_eq_true (by kernel_rfl)) ((bits_Div64.eq n a0 a1 a2).trans h)
noncomputable def bits_Div64.call {α : Type} (g : Int → Int → Int → Option (Int × Int)) (ds : List D) (K : List D → Option α) : Option α := match ds with
  | [.int .u64 a0, .int .u64 a1, .int .u64 a2] => (g a0 a1 a2).bind fun r => K (bits_Div64.sg.enc r)
  | _ => none
theorem bits_Div64.call_ok {α : Type} {n : Nat} (ds : List D) (K : List D → Option α) (r : α) (h : bits_Div64.call (bits_Div64.f n) ds K = some r) : ∃ rs, K rs = some r ∧ CallD Tryd.prog HW 90 ds rs := by
  unfold bits_Div64.call at h
  split at h
  · obtain ⟨x, hx, hk⟩ := Option.bind_eq_some_iff.1 h
    exact ⟨_, hk, bits_Div64.ok (n := n) hx⟩
  · cases h
/-! ### bits_Rem64: function 89 -/
noncomputable def bits_Rem64.b0 (c90 : Int → Int → Int → Option (Int × Int)) (a0 : Int) (a1 : Int) (a2 : Int) : Option (Int) := (if a2 = 0 then none else ((c90 (Int.tmod a0 a2) a1 a2).bind fun t1 => some t1.2))
noncomputable def bits_Rem64.f (n : Nat) (a0 : Int) (a1 : Int) (a2 : Int) : Option (Int) := bits_Rem64.b0 (bits_Div64.f n) a0 a1 a2
noncomputable def bits_Rem64.sg : Sig (Int) := s1 (sInt .u64)
noncomputable def bits_Rem64.code : Code := (Tryd.f89.body).getD .skip
noncomputable def bits_Rem64.cfg (c90 : Int → Int → Int → Option (Int × Int)) : Cfg (Int) := { T := tys, call := orCall 90 (bits_Div64.call c90) (noCall) }
noncomputable def bits_Rem64.cuts : List (Nat × List (Nat × Want)) := []
theorem bits_Rem64.e0 (c90 : Int → Int → Int → Option (Int × Int)) (n : Nat) (J : Nat → (ASt → Option (Int)) → ASt → Option (Int)) (a0 : Int) (a1 : Int) (a2 : Int) : afun (bits_Rem64.cfg c90) J bits_Rem64.cuts n bits_Rem64.code Tryd.f89.results.toList [false] [.int .u64 a0, .int .u64 a1, .int .u64 a2] bits_Rem64.sg.out = bits_Rem64.b0 c90 a0 a1 a2 := by kernel_rfl
theorem bits_Rem64.eq (n : Nat) (a0 : Int) (a1 : Int) (a2 : Int) : afun (bits_Rem64.cfg (bits_Div64.f n)) idJ bits_Rem64.cuts n bits_Rem64.code Tryd.f89.results.toList [false] [.int .u64 a0, .int .u64 a1, .int .u64 a2] bits_Rem64.sg.out = bits_Rem64.f n a0 a1 a2 := (bits_Rem64.e0 (bits_Div64.f n) n idJ a0 a1 a2).trans (rfl)
theorem bits_Rem64.ok {n : Nat} {a0 : Int} {a1 : Int} {a2 : Int} {r : Int} (h : bits_Rem64.f n a0 a1 a2 = some r) : CallD Tryd.prog HW 89 [.int .u64 a0, .int .u64 a1, .int .u64 a2] (bits_Rem64.sg.enc r) :=
  fun_some hwS Tryd.func89 (by kernel_rfl) (body := bits_Rem64.code) (by kernel_rfl) tys_ok (c := bits_Rem64.cfg (bits_Div64.f n)) (orCall_ok (bits_Div64.call_ok (n := n)) noCall_ok) noW_ok (by kernel_rfl) (by kernel_rfl) (Nat.le_of_ble_eq_true (by kernel_rfl)) ((bits_Rem64.eq n a0 a1 a2).trans h)
noncomputable def bits_Rem64.call {α : Type} (g : Int → Int → Int → Option (Int)) (ds : List D) (K : List D → Option α) : Option α := match ds with
  | [.int .u64 a0, .int .u64 a1, .int .u64 a2] => (g a0 a1 a2).bind fun r => K (bits_Rem64.sg.enc r)
  | _ => none
theorem bits_Rem64.call_ok {α : Type} {n : Nat} (ds : List D) (K : List D → Option α) (r : α) (h : bits_Rem64.call (bits_Rem64.f n) ds K = some r) : ∃ rs, K rs = some r ∧ CallD Tryd.prog HW 89 ds rs := by
  unfold bits_Rem64.call at h
  split at h
  · obtain ⟨x, hx, hk⟩ := Option.bind_eq_some_iff.1 h
    exact ⟨_, hk, bits_Rem64.ok (n := n) hx⟩
  · cases h
/-! ### remain_residue: function 63 -/
noncomputable def remain_residue.b0 (c59 : Int → Int → Option (Int × Int)) (c89 : Int → Int → Int → Option (Int)) (k57 : Int → Int → Int → Option (Int)) (a0 : Int) (a1 : Int) (a2 : Int) : Option (Int) := (if a2 = 0 then none else k57 a1 a2 (Int.tmod a0 a2))
noncomputable def remain_residue.b57 (c59 : Int → Int → Option (Int × Int)) (c89 : Int → Int → Int → Option (Int)) (k57 : Int → Int → Int → Option (Int)) (x0 : Int) (x1 : Int) (x2 : Int) : Option (Int) := (if x0 > 0 then (if 0 ≤ (mn x0 32) then ((c59 x2 (shl .u64 1 (mn x0 32))).bind fun t1 => ((c89 t1.1 t1.2 x1).bind fun t2 => k57 (wrap64 (x0 - (mn x0 32))) x1 t2)) else none) else some x2)
noncomputable def remain_residue.l57 (n : Nat) : Nat → Int → Int → Int → Option (Int)
  | 0, _, _, _ => none
  | m + 1, x0, x1, x2 => remain_residue.b57 bits_Mul64.f (bits_Rem64.f n) (remain_residue.l57 n m) x0 x1 x2
noncomputable def remain_residue.f (n : Nat) (a0 : Int) (a1 : Int) (a2 : Int) : Option (Int) := remain_residue.b0 bits_Mul64.f (bits_Rem64.f n) (remain_residue.l57 n n) a0 a1 a2
noncomputable def remain_residue.sg : Sig (Int) := s1 (sInt .u64)
noncomputable def remain_residue.code : Code := (Tryd.f63.body).getD .skip
noncomputable def remain_residue.cfg (c59 : Int → Int → Option (Int × Int)) (c89 : Int → Int → Int → Option (Int)) : Cfg (Int) := { T := tys, call := orCall 59 (bits_Mul64.call c59) (orCall 89 (bits_Rem64.call c89) (noCall)) }
noncomputable def remain_residue.cuts : List (Nat × List (Nat × Want)) := [(57, [(1, .keep), (2, .keep), (7, .keep)])]
noncomputable def remain_residue.s57 (x0 : Int) (x1 : Int) (x2 : Int) : ASt := ⟨[(1, .int .i64 x0), (2, .int .u64 x1), (7, .int .u64 x2)], []⟩
noncomputable def remain_residue.A (c59 : Int → Int → Option (Int × Int)) (c89 : Int → Int → Int → Option (Int)) (n : Nat) (J : Nat → (ASt → Option (Int)) → ASt → Option (Int)) (q : Nat) (ms : List Nat) : ASt → Option (Int) := acont (remain_residue.cfg c59 c89) J remain_residue.cuts n q remain_residue.code 1 ms (aend (remain_residue.cfg c59 c89) Tryd.f63.results.toList [false] remain_residue.sg.out)
theorem remain_residue.e0 (c59 : Int → Int → Option (Int × Int)) (c89 : Int → Int → Int → Option (Int)) (n : Nat) (J : Nat → (ASt → Option (Int)) → ASt → Option (Int)) (a0 : Int) (a1 : Int) (a2 : Int) : afun (remain_residue.cfg c59 c89) J remain_residue.cuts n remain_residue.code Tryd.f63.results.toList [false] [.int .u64 a0, .int .i64 a1, .int .u64 a2] remain_residue.sg.out = remain_residue.b0 c59 c89 (fun y0 y1 y2 => J 57 (remain_residue.A c59 c89 n J 57 [n]) (remain_residue.s57 y0 y1 y2)) a0 a1 a2 := by kernel_rfl
theorem remain_residue.e57 (c59 : Int → Int → Option (Int × Int)) (c89 : Int → Int → Int → Option (Int)) (n : Nat) (J : Nat → (ASt → Option (Int)) → ASt → Option (Int)) (m : Nat) (x0 : Int) (x1 : Int) (x2 : Int) : remain_residue.A c59 c89 n J 57 [m + 1] (remain_residue.s57 x0 x1 x2) = remain_residue.b57 c59 c89 (fun y0 y1 y2 => J 57 (remain_residue.A c59 c89 n J 57 [m]) (remain_residue.s57 y0 y1 y2)) x0 x1 x2 := by kernel_rfl
theorem remain_residue.q57 (n : Nat) (m : Nat) : ∀ (x0 : Int) (x1 : Int) (x2 : Int), remain_residue.A bits_Mul64.f (bits_Rem64.f n) n idJ 57 [m] (remain_residue.s57 x0 x1 x2) = remain_residue.l57 n m x0 x1 x2 := by
  induction m with
  | zero => intros; rfl
  | succ m ih =>
    intro x0 x1 x2
    refine (remain_residue.e57 bits_Mul64.f (bits_Rem64.f n) n idJ m x0 x1 x2).trans ?_
    exact congrFun (congrFun (congrFun (congrArg (remain_residue.b57 bits_Mul64.f (bits_Rem64.f n)) (funext fun y0 => (funext fun y1 => (funext fun y2 => ih y0 y1 y2)))) x0) x1) x2
theorem remain_residue.eq (n : Nat) (a0 : Int) (a1 : Int) (a2 : Int) : afun (remain_residue.cfg bits_Mul64.f (bits_Rem64.f n)) idJ remain_residue.cuts n remain_residue.code Tryd.f63.results.toList [false] [.int .u64 a0, .int .i64 a1, .int .u64 a2] remain_residue.sg.out = remain_residue.f n a0 a1 a2 := (remain_residue.e0 bits_Mul64.f (bits_Rem64.f n) n idJ a0 a1 a2).trans (congrFun (congrFun (congrFun (congrArg (remain_residue.b0 bits_Mul64.f (bits_Rem64.f n)) (funext fun y0 => (funext fun y1 => (funext fun y2 => remain_residue.q57 n n y0 y1 y2)))) a0) a1) a2)
theorem remain_residue.ok {n : Nat} {a0 : Int} {a1 : Int} {a2 : Int} {r : Int} (h : remain_residue.f n a0 a1 a2 = some r) : CallD Tryd.prog HW 63 [.int .u64 a0, .int .i64 a1, .int .u64 a2] (remain_residue.sg.enc r) :=
  fun_some hwS Tryd.func63 (by kernel_rfl) (body := remain_residue.code) (by kernel_rfl) tys_ok (c := remain_residue.cfg bits_Mul64.f (bits_Rem64.f n)) (orCall_ok (bits_Mul64.call_ok (n := n)) (orCall_ok (bits_Rem64.call_ok (n := n)) noCall_ok)) noW_ok (by kernel_rfl) (by kernel_rfl) (Nat.le_of_ble_eq_true (by kernel_rfl)) ((remain_residue.eq n a0 a1 a2).trans h)
noncomputable def remain_residue.call {α : Type} (g : Int → Int → Int → Option (Int)) (ds : List D) (K : List D → Option α) : Option α := match ds with
  | [.int .u64 a0, .int .i64 a1, .int .u64 a2] => (g a0 a1 a2).bind fun r => K (remain_residue.sg.enc r)
  | _ => none
theorem remain_residue.call_ok {α : Type} {n : Nat} (ds : List D) (K : List D → Option α) (r : α) (h : remain_residue.call (remain_residue.f n) ds K = some r) : ∃ rs, K rs = some r ∧ CallD Tryd.prog HW 63 ds rs := by
  unfold remain_residue.call at h
  split at h
  · obtain ⟨x, hx, hk⟩ := Option.bind_eq_some_iff.1 h
    exact ⟨_, hk, remain_residue.ok (n := n) hx⟩
  · cases h
/-! ### remain_Fmod: function 21 -/
noncomputable def remain_Fmod.b0 (c15 : Int → Option (Bool × Int × Int × Int)) (c48 : Bool → List Int → Int → Bool → Option (Int × Int)) (c62 : Bool → Int → Int → Int → Bool → Int → Int → Int → Int → Option (Int × Bool)) (c63 : Int → Int → Int → Option (Int)) (c64 : Int → Option (Int)) (k63 : Int → Int → Bool → Int → Int → Int → Option (Int)) (a0 : Int) (a1 : Int) : Option (Int) := ((c15 a0).bind fun t1 => ((c15 a1).bind fun t2 => ((c62 t1.1 t1.2.1 t1.2.2.1 t1.2.2.2 t2.1 t2.2.1 t2.2.2.1 t2.2.2.2 a0).bind fun t3 => (if t3.2 = true then some t3.1 else (if (wrap64 (t1.2.2.2 - t2.2.2.2)) ≥ 0 then ((c63 t1.2.2.1 (wrap64 (t1.2.2.2 - t2.2.2.2)) t2.2.2.1).bind fun t4 => k63 t4 t2.2.2.2 t1.1 t1.2.1 t1.2.2.1 t1.2.2.2) else ((c64 t2.2.2.1).bind fun t5 => (if (wrap64 (t5 - (wrap64 (t1.2.2.2 - t2.2.2.2)))) > 64 then some a0 else (if 0 ≤ (wrap64 (-(wrap64 (t1.2.2.2 - t2.2.2.2)))) then (if (shl .u64 t2.2.2.1 (wrap64 (-(wrap64 (t1.2.2.2 - t2.2.2.2))))) = 0 then none else k63 (Int.tmod t1.2.2.1 (shl .u64 t2.2.2.1 (wrap64 (-(wrap64 (t1.2.2.2 - t2.2.2.2)))))) t1.2.2.2 t1.1 t1.2.1 t1.2.2.1 t1.2.2.2) else none))))))))
noncomputable def remain_Fmod.b63 (c15 : Int → Option (Bool × Int × Int × Int)) (c48 : Bool → List Int → Int → Bool → Option (Int × Int)) (c62 : Bool → Int → Int → Int → Bool → Int → Int → Int → Int → Option (Int × Bool)) (c63 : Int → Int → Int → Option (Int)) (c64 : Int → Option (Int)) (x0 : Int) (x1 : Int) (x2 : Bool) (x3 : Int) (x4 : Int) (x5 : Int) : Option (Int) := ((c48 x2 [x0] x1 false).bind fun t1 => some t1.1)
noncomputable def remain_Fmod.l63 (n : Nat) (x0 : Int) (x1 : Int) (x2 : Bool) (x3 : Int) (x4 : Int) (x5 : Int) : Option (Int) := remain_Fmod.b63 ieee_Decode.f (ieee_Round.f n) remain_special.f (remain_residue.f n) bits_Len64.f x0 x1 x2 x3 x4 x5
noncomputable def remain_Fmod.f (n : Nat) (a0 : Int) (a1 : Int) : Option (Int) := remain_Fmod.b0 ieee_Decode.f (ieee_Round.f n) remain_special.f (remain_residue.f n) bits_Len64.f (remain_Fmod.l63 n) a0 a1
noncomputable def remain_Fmod.sg : Sig (Int) := s1 (sInt .u64)
noncomputable def remain_Fmod.code : Code := (Tryd.f21.body).getD .skip
noncomputable def remain_Fmod.cfg (c15 : Int → Option (Bool × Int × Int × Int)) (c48 : Bool → List Int → Int → Bool → Option (Int × Int)) (c62 : Bool → Int → Int → Int → Bool → Int → Int → Int → Int → Option (Int × Bool)) (c63 : Int → Int → Int → Option (Int)) (c64 : Int → Option (Int)) : Cfg (Int) := { T := tys, call := orCall 15 (ieee_Decode.call c15) (orCall 48 (ieee_Round.call c48) (orCall 62 (remain_special.call c62) (orCall 63 (remain_residue.call c63) (orCall 64 (bits_Len64.call c64) (noCall))))) }
noncomputable def remain_Fmod.cuts : List (Nat × List (Nat × Want)) := [(63, [(5, .keep), (9, .keep), (10, .keep)])]
noncomputable def remain_Fmod.s63 (x0 : Int) (x1 : Int) (x2 : Bool) (x3 : Int) (x4 : Int) (x5 : Int) : ASt := ⟨[(5, .ptr 0 0), (9, .int .u64 x0), (10, .int .i64 x1)], [.cells 32 [.bool x2, .int .i64 x3, .int .u64 x4, .int .i64 x5]]⟩
noncomputable def remain_Fmod.A (c15 : Int → Option (Bool × Int × Int × Int)) (c48 : Bool → List Int → Int → Bool → Option (Int × Int)) (c62 : Bool → Int → Int → Int → Bool → Int → Int → Int → Int → Option (Int × Bool)) (c63 : Int → Int → Int → Option (Int)) (c64 : Int → Option (Int)) (n : Nat) (J : Nat → (ASt → Option (Int)) → ASt → Option (Int)) (q : Nat) (ms : List Nat) : ASt → Option (Int) := acont (remain_Fmod.cfg c15 c48 c62 c63 c64) J remain_Fmod.cuts n q remain_Fmod.code 1 ms (aend (remain_Fmod.cfg c15 c48 c62 c63 c64) Tryd.f21.results.toList [false] remain_Fmod.sg.out)
theorem remain_Fmod.e0 (c15 : Int → Option (Bool × Int × Int × Int)) (c48 : Bool → List Int → Int → Bool → Option (Int × Int)) (c62 : Bool → Int → Int → Int → Bool → Int → Int → Int → Int → Option (Int × Bool)) (c63 : Int → Int → Int → Option (Int)) (c64 : Int → Option (Int)) (n : Nat) (J : Nat → (ASt → Option (Int)) → ASt → Option (Int)) (a0 : Int) (a1 : Int) : afun (remain_Fmod.cfg c15 c48 c62 c63 c64) J remain_Fmod.cuts n remain_Fmod.code Tryd.f21.results.toList [false] [.int .u64 a0, .int .u64 a1] remain_Fmod.sg.out = remain_Fmod.b0 c15 c48 c62 c63 c64 (fun y0 y1 y2 y3 y4 y5 => J 63 (remain_Fmod.A c15 c48 c62 c63 c64 n J 63 []) (remain_Fmod.s63 y0 y1 y2 y3 y4 y5)) a0 a1 := by kernel_rfl
theorem remain_Fmod.e63 (c15 : Int → Option (Bool × Int × Int × Int)) (c48 : Bool → List Int → Int → Bool → Option (Int × Int)) (c62 : Bool → Int → Int → Int → Bool → Int → Int → Int → Int → Option (Int × Bool)) (c63 : Int → Int → Int → Option (Int)) (c64 : Int → Option (Int)) (n : Nat) (J : Nat → (ASt → Option (Int)) → ASt → Option (Int)) (x0 : Int) (x1 : Int) (x2 : Bool) (x3 : Int) (x4 : Int) (x5 : Int) : remain_Fmod.A c15 c48 c62 c63 c64 n J 63 [] (remain_Fmod.s63 x0 x1 x2 x3 x4 x5) = remain_Fmod.b63 c15 c48 c62 c63 c64 x0 x1 x2 x3 x4 x5 := by kernel_rfl
theorem remain_Fmod.q63 (n : Nat) (x0 : Int) (x1 : Int) (x2 : Bool) (x3 : Int) (x4 : Int) (x5 : Int) : remain_Fmod.A ieee_Decode.f (ieee_Round.f n) remain_special.f (remain_residue.f n) bits_Len64.f n idJ 63 [] (remain_Fmod.s63 x0 x1 x2 x3 x4 x5) = remain_Fmod.l63 n x0 x1 x2 x3 x4 x5 := (remain_Fmod.e63 ieee_Decode.f (ieee_Round.f n) remain_special.f (remain_residue.f n) bits_Len64.f n idJ x0 x1 x2 x3 x4 x5).trans (rfl)
theorem remain_Fmod.eq (n : Nat) (a0 : Int) (a1 : Int) : afun (remain_Fmod.cfg ieee_Decode.f (ieee_Round.f n) remain_special.f (remain_residue.f n) bits_Len64.f) idJ remain_Fmod.cuts n remain_Fmod.code Tryd.f21.results.toList [false] [.int .u64 a0, .int .u64 a1] remain_Fmod.sg.out = remain_Fmod.f n a0 a1 := (remain_Fmod.e0 ieee_Decode.f (ieee_Round.f n) remain_special.f (remain_residue.f n) bits_Len64.f n idJ a0 a1).trans (congrFun (congrFun (congrArg (remain_Fmod.b0 ieee_Decode.f (ieee_Round.f n) remain_special.f (remain_residue.f n) bits_Len64.f) (funext fun y0 => (funext fun y1 => (funext fun y2 => (funext fun y3 => (funext fun y4 => (funext fun y5 => remain_Fmod.q63 n y0 y1 y2 y3 y4 y5))))))) a0) a1)
theorem remain_Fmod.ok {n : Nat} {a0 : Int} {a1 : Int} {r : Int} (h : remain_Fmod.f n a0 a1 = some r) : CallD Tryd.prog HW 21 [.int .u64 a0, .int .u64 a1] (remain_Fmod.sg.enc r) :=
  fun_some hwS Tryd.func21 (by kernel_rfl) (body := remain_Fmod.code) (by kernel_rfl) tys_ok (c := remain_Fmod.cfg ieee_Decode.f (ieee_Round.f n) remain_special.f (remain_residue.f n) bits_Len64.f) (orCall_ok (ieee_Decode.call_ok (n := n)) (orCall_ok (ieee_Round.call_ok (n := n)) (orCall_ok (remain_special.call_ok (n := n)) (orCall_ok (remain_residue.call_ok (n := n)) (orCall_ok (bits_Len64.call_ok (n := n)) noCall_ok))))) noW_ok (by kernel_rfl) (by kernel_rfl) (Nat.le_of_ble_eq_true (by kernel_rfl)) ((remain_Fmod.eq n a0 a1).trans h)
noncomputable def remain_Fmod.call {α : Type} (g : Int → Int → Option (Int)) (ds : List D) (K : List D → Option α) : Option α := match ds with
  | [.int .u64 a0, .int .u64 a1] => (g a0 a1).bind fun r => K (remain_Fmod.sg.enc r)
  | _ => none
theorem remain_Fmod.call_ok {α : Type} {n : Nat} (ds : List D) (K : List D → Option α) (r : α) (h : remain_Fmod.call (remain_Fmod.f n) ds K = some r) : ∃ rs, K rs = some r ∧ CallD Tryd.prog HW 21 ds rs := by
  unfold remain_Fmod.call at h
  split at h
  · obtain ⟨x, hx, hk⟩ := Option.bind_eq_some_iff.1 h
    exact ⟨_, hk, remain_Fmod.ok (n := n) hx⟩
  · cases h
/-! ### remain_Scale: function 11 -/
noncomputable def remain_Scale.b0 (c15 : Int → Option (Bool × Int × Int × Int)) (c48 : Bool → List Int → Int → Bool → Option (Int × Int)) (a0 : Int) (a1 : Int) : Option (Int) := ((c15 a0).bind fun t1 => (if t1.2.1 = 4 then some 9221120237041090560 else (if t1.2.1 = 3 then some a0 else (if t1.2.1 = 0 then some a0 else ((c48 t1.1 [t1.2.2.1] (wrap64 (t1.2.2.2 + (mx (-5000) (mn a1 5000)))) false).bind fun t2 => some t2.1)))))
noncomputable def remain_Scale.f (n : Nat) (a0 : Int) (a1 : Int) : Option (Int) := remain_Scale.b0 ieee_Decode.f (ieee_Round.f n) a0 a1
noncomputable def remain_Scale.sg : Sig (Int) := s1 (sInt .u64)
noncomputable def remain_Scale.code : Code := (Tryd.f11.body).getD .skip
noncomputable def remain_Scale.cfg (c15 : Int → Option (Bool × Int × Int × Int)) (c48 : Bool → List Int → Int → Bool → Option (Int × Int)) : Cfg (Int) := { T := tys, call := orCall 15 (ieee_Decode.call c15) (orCall 48 (ieee_Round.call c48) (noCall)) }
noncomputable def remain_Scale.cuts : List (Nat × List (Nat × Want)) := []
theorem remain_Scale.e0 (c15 : Int → Option (Bool × Int × Int × Int)) (c48 : Bool → List Int → Int → Bool → Option (Int × Int)) (n : Nat) (J : Nat → (ASt → Option (Int)) → ASt → Option (Int)) (a0 : Int) (a1 : Int) : afun (remain_Scale.cfg c15 c48) J remain_Scale.cuts n remain_Scale.code Tryd.f11.results.toList [false] [.int .u64 a0, .int .i64 a1] remain_Scale.sg.out = remain_Scale.b0 c15 c48 a0 a1 := by kernel_rfl
theorem remain_Scale.eq (n : Nat) (a0 : Int) (a1 : Int) : afun (remain_Scale.cfg ieee_Decode.f (ieee_Round.f n)) idJ remain_Scale.cuts n remain_Scale.code Tryd.f11.results.toList [false] [.int .u64 a0, .int .i64 a1] remain_Scale.sg.out = remain_Scale.f n a0 a1 := (remain_Scale.e0 ieee_Decode.f (ieee_Round.f n) n idJ a0 a1).trans (rfl)
theorem remain_Scale.ok {n : Nat} {a0 : Int} {a1 : Int} {r : Int} (h : remain_Scale.f n a0 a1 = some r) : CallD Tryd.prog HW 11 [.int .u64 a0, .int .i64 a1] (remain_Scale.sg.enc r) :=
  fun_some hwS Tryd.func11 (by kernel_rfl) (body := remain_Scale.code) (by kernel_rfl) tys_ok (c := remain_Scale.cfg ieee_Decode.f (ieee_Round.f n)) (orCall_ok (ieee_Decode.call_ok (n := n)) (orCall_ok (ieee_Round.call_ok (n := n)) noCall_ok)) noW_ok (by kernel_rfl) (by kernel_rfl) (Nat.le_of_ble_eq_true (by kernel_rfl)) ((remain_Scale.eq n a0 a1).trans h)
noncomputable def remain_Scale.call {α : Type} (g : Int → Int → Option (Int)) (ds : List D) (K : List D → Option α) : Option α := match ds with
  | [.int .u64 a0, .int .i64 a1] => (g a0 a1).bind fun r => K (remain_Scale.sg.enc r)
  | _ => none
theorem remain_Scale.call_ok {α : Type} {n : Nat} (ds : List D) (K : List D → Option α) (r : α) (h : remain_Scale.call (remain_Scale.f n) ds K = some r) : ∃ rs, K rs = some r ∧ CallD Tryd.prog HW 11 ds rs := by
  unfold remain_Scale.call at h
  split at h
  · obtain ⟨x, hx, hk⟩ := Option.bind_eq_some_iff.1 h
    exact ⟨_, hk, remain_Scale.ok (n := n) hx⟩
  · cases h
/-! ### nat_Trim: function 87 -/
noncomputable def nat_Trim.b0 (c53 : List Int → Option (Int)) (l0 : List Int) : Option (List Int) := ((c53 l0).bind fun t1 => (if 0 ≤ t1 then (if t1.toNat ≤ 35184372088832 then (if 0 ≤ t1 then (if t1 ≤ (ln l0) then ((some (l0.take t1.toNat) : Option (List Int)).bind fun y2 => (if y2.length = (List.replicate t1.toNat (0 : Int)).length then some y2 else none)) else none) else none) else none) else none))
noncomputable def nat_Trim.f (n : Nat) (l0 : List Int) : Option (List Int) := nat_Trim.b0 (nat_size.f n) l0
noncomputable def nat_Trim.sg : Sig (List Int) := s1 (sRow .u64)
noncomputable def nat_Trim.code : Code := (Tryd.f87.body).getD .skip
noncomputable def nat_Trim.cfg (c53 : List Int → Option (Int)) : Cfg (List Int) := { T := tys, call := orCall 53 (nat_size.call c53) (noCall) }
noncomputable def nat_Trim.cuts : List (Nat × List (Nat × Want)) := []
theorem nat_Trim.e0 (c53 : List Int → Option (Int)) (n : Nat) (J : Nat → (ASt → Option (List Int)) → ASt → Option (List Int)) (l0 : List Int) : afun (nat_Trim.cfg c53) J nat_Trim.cuts n nat_Trim.code Tryd.f87.results.toList [false] [.ro .u64 l0] nat_Trim.sg.out = nat_Trim.b0 c53 l0 := by kernel_rfl
theorem nat_Trim.eq (n : Nat) (l0 : List Int) : afun (nat_Trim.cfg (nat_size.f n)) idJ nat_Trim.cuts n nat_Trim.code Tryd.f87.results.toList [false] [.ro .u64 l0] nat_Trim.sg.out = nat_Trim.f n l0 := (nat_Trim.e0 (nat_size.f n) n idJ l0).trans (rfl)
theorem nat_Trim.ok {n : Nat} {l0 : List Int} {r : List Int} (h : nat_Trim.f n l0 = some r) : CallD Tryd.prog HW 87 [.ro .u64 l0] (nat_Trim.sg.enc r) :=
  fun_some hwS Tryd.func87 (by kernel_rfl) (body := nat_Trim.code) (by kernel_rfl) tys_ok (c := nat_Trim.cfg (nat_size.f n)) (orCall_ok (nat_size.call_ok (n := n)) noCall_ok) noW_ok (by kernel_rfl) (by kernel_rfl) (Nat.le_of_ble_eq_true (by kernel_rfl)) ((nat_Trim.eq n l0).trans h)
noncomputable def nat_Trim.call {α : Type} (g : List Int → Option (List Int)) (ds : List D) (K : List D → Option α) : Option α := match ds with
  | [.ro .u64 l0] => (g l0).bind fun r => K (nat_Trim.sg.enc r)
  | _ => none
theorem nat_Trim.call_ok {α : Type} {n : Nat} (ds : List D) (K : List D → Option α) (r : α) (h : nat_Trim.call (nat_Trim.f n) ds K = some r) : ∃ rs, K rs = some r ∧ CallD Tryd.prog HW 87 ds rs := by
  unfold nat_Trim.call at h
  split at h
  · obtain ⟨x, hx, hk⟩ := Option.bind_eq_some_iff.1 h
    exact ⟨_, hk, nat_Trim.ok (n := n) hx⟩
  · cases h
/-! ### quot_small: function 55 -/
noncomputable def quot_small.b0 (c87 : List Int → Option (List Int)) (l0 : List Int) (a1 : Int) : Option (List Int × Bool) := ((c87 l0).bind fun t1 => some (t1, decide ((ln t1) ≤ a1)))
noncomputable def quot_small.f (n : Nat) (l0 : List Int) (a1 : Int) : Option (List Int × Bool) := quot_small.b0 (nat_Trim.f n) l0 a1
noncomputable def quot_small.sg : Sig (List Int × Bool) := s2 (sRow .u64) (s1 (sBool))
noncomputable def quot_small.code : Code := (Tryd.f55.body).getD .skip
noncomputable def quot_small.cfg (c87 : List Int → Option (List Int)) : Cfg (List Int × Bool) := { T := tys, call := orCall 87 (nat_Trim.call c87) (noCall) }
noncomputable def quot_small.cuts : List (Nat × List (Nat × Want)) := []
theorem quot_small.e0 (c87 : List Int → Option (List Int)) (n : Nat) (J : Nat → (ASt → Option (List Int × Bool)) → ASt → Option (List Int × Bool)) (l0 : List Int) (a1 : Int) : afun (quot_small.cfg c87) J quot_small.cuts n quot_small.code Tryd.f55.results.toList [false, false] [.ro .u64 l0, .int .i64 a1] quot_small.sg.out = quot_small.b0 c87 l0 a1 := by kernel_rfl
theorem quot_small.eq (n : Nat) (l0 : List Int) (a1 : Int) : afun (quot_small.cfg (nat_Trim.f n)) idJ quot_small.cuts n quot_small.code Tryd.f55.results.toList [false, false] [.ro .u64 l0, .int .i64 a1] quot_small.sg.out = quot_small.f n l0 a1 := (quot_small.e0 (nat_Trim.f n) n idJ l0 a1).trans (rfl)
theorem quot_small.ok {n : Nat} {l0 : List Int} {a1 : Int} {r : List Int × Bool} (h : quot_small.f n l0 a1 = some r) : CallD Tryd.prog HW 55 [.ro .u64 l0, .int .i64 a1] (quot_small.sg.enc r) :=
  fun_some hwS Tryd.func55 (by kernel_rfl) (body := quot_small.code) (by kernel_rfl) tys_ok (c := quot_small.cfg (nat_Trim.f n)) (orCall_ok (nat_Trim.call_ok (n := n)) noCall_ok) noW_ok (by kernel_rfl) (by kernel_rfl) (Nat.le_of_ble_eq_true (by kernel_rfl)) ((quot_small.eq n l0 a1).trans h)
noncomputable def quot_small.call {α : Type} (g : List Int → Int → Option (List Int × Bool)) (ds : List D) (K : List D → Option α) : Option α := match ds with
  | [.ro .u64 l0, .int .i64 a1] => (g l0 a1).bind fun r => K (quot_small.sg.enc r)
  | _ => none
theorem quot_small.call_ok {α : Type} {n : Nat} (ds : List D) (K : List D → Option α) (r : α) (h : quot_small.call (quot_small.f n) ds K = some r) : ∃ rs, K rs = some r ∧ CallD Tryd.prog HW 55 ds rs := by
  unfold quot_small.call at h
  split at h
  · obtain ⟨x, hx, hk⟩ := Option.bind_eq_some_iff.1 h
    exact ⟨_, hk, quot_small.ok (n := n) hx⟩
  · cases h
/-! ### bits_Len: function 57 -/
noncomputable def bits_Len.b0 (c64 : Int → Option (Int)) (a0 : Int) : Option (Int) := ((c64 a0).bind fun t1 => some t1)
noncomputable def bits_Len.f (a0 : Int) : Option (Int) := bits_Len.b0 bits_Len64.f a0
noncomputable def bits_Len.sg : Sig (Int) := s1 (sInt .i64)
noncomputable def bits_Len.code : Code := (Tryd.f57.body).getD .skip
noncomputable def bits_Len.cfg (c64 : Int → Option (Int)) : Cfg (Int) := { T := tys, call := orCall 64 (bits_Len64.call c64) (noCall) }
noncomputable def bits_Len.cuts : List (Nat × List (Nat × Want)) := []
theorem bits_Len.e0 (c64 : Int → Option (Int)) (n : Nat) (J : Nat → (ASt → Option (Int)) → ASt → Option (Int)) (a0 : Int) : afun (bits_Len.cfg c64) J bits_Len.cuts n bits_Len.code Tryd.f57.results.toList [false] [.int .u64 a0] bits_Len.sg.out = bits_Len.b0 c64 a0 := by kernel_rfl
theorem bits_Len.eq (n : Nat) (a0 : Int) : afun (bits_Len.cfg bits_Len64.f) idJ bits_Len.cuts n bits_Len.code Tryd.f57.results.toList [false] [.int .u64 a0] bits_Len.sg.out = bits_Len.f a0 := (bits_Len.e0 bits_Len64.f n idJ a0).trans (rfl)
theorem bits_Len.ok {n : Nat} {a0 : Int} {r : Int} (h : bits_Len.f a0 = some r) : CallD Tryd.prog HW 57 [.int .u64 a0] (bits_Len.sg.enc r) :=
  fun_some hwS Tryd.func57 (by kernel_rfl) (body := bits_Len.code) (by kernel_rfl) tys_ok (c := bits_Len.cfg bits_Len64.f) (orCall_ok (bits_Len64.call_ok (n := n)) noCall_ok) noW_ok (by kernel_rfl) (by kernel_rfl) (Nat.le_of_ble_eq_true (by kernel_rfl)) ((bits_Len.eq n a0).trans h)
noncomputable def bits_Len.call {α : Type} (g : Int → Option (Int)) (ds : List D) (K : List D → Option α) : Option α := match ds with
  | [.int .u64 a0] => (g a0).bind fun r => K (bits_Len.sg.enc r)
  | _ => none
theorem bits_Len.call_ok {α : Type} {n : Nat} (ds : List D) (K : List D → Option α) (r : α) (h : bits_Len.call bits_Len.f ds K = some r) : ∃ rs, K rs = some r ∧ CallD Tryd.prog HW 57 ds rs := by
  unfold bits_Len.call at h
  split at h
  · obtain ⟨x, hx, hk⟩ := Option.bind_eq_some_iff.1 h
    exact ⟨_, hk, bits_Len.ok (n := n) hx⟩
  · cases h
/-! ### bits_Add64: function 69 -/
def bits_Add64.f (a0 : Int) (a1 : Int) (a2 : Int) : Option (Int × Int) := if 0 ≤ a0 ∧ 0 ≤ a1 ∧ 0 ≤ a2 ∧ a2 ≤ 1 then some ((a0 + a1 + a2) % 18446744073709551616, (a0 + a1 + a2) / 18446744073709551616) else none
def bits_Add64.sg : Sig (Int × Int) := s2 (sInt .u64) (s1 (sInt .u64))
theorem bits_Add64.ok {a0 a1 a2 : Int} {r : Int × Int} (h : bits_Add64.f a0 a1 a2 = some r) : CallD Tryd.prog HW 69 [.int .u64 a0, .int .u64 a1, .int .u64 a2] (bits_Add64.sg.enc r) := by
  unfold bits_Add64.f at h
  split at h
  · rename_i hh
    obtain rfl := Option.some.inj h
    exact calld_scal rfl rfl fun w _ => .inr ⟨_, _, run_add64' Tryd.func69 (by kernel_rfl) (by kernel_rfl) (by kernel_rfl) (by kernel_rfl) a0 a1 a2 hh.1 hh.2.1 hh.2.2.1 hh.2.2.2 w, rfl, rfl⟩
  · cases h
noncomputable def bits_Add64.call {α : Type} (g : Int → Int → Int → Option (Int × Int)) (ds : List D) (K : List D → Option α) : Option α := match ds with
  | [.int .u64 a0, .int .u64 a1, .int .u64 a2] => (g a0 a1 a2).bind fun r => K (bits_Add64.sg.enc r)
  | _ => none
theorem bits_Add64.call_ok {α : Type} {n : Nat} (ds : List D) (K : List D → Option α) (r : α) (h : bits_Add64.call bits_Add64.f ds K = some r) : ∃ rs, K rs = some r ∧ CallD Tryd.prog HW 69 ds rs := by
  unfold bits_Add64.call at h
  split at h
  · obtain ⟨x, hx, hk⟩ := Option.bind_eq_some_iff.1 h
    exact ⟨_, hk, bits_Add64.ok hx⟩
  · cases h
/-! ### nat_Mul: function 58 -/
noncomputable def nat_Mul.b0 (c52 : List Int → Option (Bool)) (c53 : List Int → Option (Int)) (c54 : List Int → Option (List Int × Int)) (c59 : Int → Int → Option (Int × Int)) (c69 : Int → Int → Int → Option (Int × Int)) (k2037 : List Int → List Int → Int → Int → List Int → Option (List Int × Int)) (l0 : List Int) (l1 : List Int) : Option (List Int × Int) := ((c52 l0).bind fun t1 => (if t1 = true then some (([] : List Int), 2) else ((c52 l1).bind fun t2 => (if t2 = true then some (([] : List Int), 2) else ((c53 l0).bind fun t3 => (if 0 ≤ t3 then (if t3 ≤ (ln l0) then ((some (l0.take t3.toNat) : Option (List Int)).bind fun y4 => ((c53 l1).bind fun t5 => (if 0 ≤ t5 then (if t5 ≤ (ln l1) then ((some (l1.take t5.toNat) : Option (List Int)).bind fun y6 => (if (ln y4) = 0 then some (([] : List Int), 0) else (if (ln y6) = 0 then some (([] : List Int), 0) else (if (wrap64 ((wrap64 ((ln y4) + (ln y6))) - 1)) > 4096 then some (([] : List Int), 2) else (if 0 ≤ (wrap64 ((ln y4) + (ln y6))) then (if (wrap64 ((ln y4) + (ln y6))).toNat ≤ 35184372088832 then k2037 y6 y4 (ln y4) 0 (List.replicate (wrap64 ((ln y4) + (ln y6))).toNat (0 : Int)) else none) else none))))) else none) else none))) else none) else none))))))
noncomputable def nat_Mul.b255 (c52 : List Int → Option (Bool)) (c53 : List Int → Option (Int)) (c54 : List Int → Option (List Int × Int)) (c59 : Int → Int → Option (Int × Int)) (c69 : Int → Int → Int → Option (Int × Int)) (x0 : List Int) : Option (List Int × Int) := ((c54 x0).bind fun t1 => some (t1.1, t1.2))
noncomputable def nat_Mul.b2037 (c52 : List Int → Option (Bool)) (c53 : List Int → Option (Int)) (c54 : List Int → Option (List Int × Int)) (c59 : Int → Int → Option (Int × Int)) (c69 : Int → Int → Int → Option (Int × Int)) (k255 : List Int → Option (List Int × Int)) (k2085685 : List Int → Int → Int → Int → Int → List Int → Int → Int → List Int → Option (List Int × Int)) (x0 : List Int) (x1 : List Int) (x2 : Int) (x3 : Int) (x4 : List Int) : Option (List Int × Int) := (if x3 < x2 then (if 0 ≤ x3 then (if x3 < (ln x1) then k2085685 x0 x3 0 0 (rd x1 x3) x1 x2 (ln x0) x4 else none) else none) else k255 x4)
noncomputable def nat_Mul.b260711 (c52 : List Int → Option (Bool)) (c53 : List Int → Option (Int)) (c54 : List Int → Option (List Int × Int)) (c59 : Int → Int → Option (Int × Int)) (c69 : Int → Int → Int → Option (Int × Int)) (k2037 : List Int → List Int → Int → Int → List Int → Option (List Int × Int)) (x0 : List Int) (x1 : Int) (x2 : Int) (x3 : List Int) (x4 : Int) (x5 : List Int) : Option (List Int × Int) := (if 0 ≤ (wrap64 (x1 + (ln x0))) then (if (wrap64 (x1 + (ln x0))) < (ln x5) then k2037 x0 x3 x4 (wrap64 (x1 + 1)) (x5.set (wrap64 (x1 + (ln x0)) : Int).toNat x2) else none) else none)
noncomputable def nat_Mul.b2085685 (c52 : List Int → Option (Bool)) (c53 : List Int → Option (Int)) (c54 : List Int → Option (List Int × Int)) (c59 : Int → Int → Option (Int × Int)) (c69 : Int → Int → Int → Option (Int × Int)) (k260711 : List Int → Int → Int → List Int → Int → List Int → Option (List Int × Int)) (k2085685 : List Int → Int → Int → Int → Int → List Int → Int → Int → List Int → Option (List Int × Int)) (x0 : List Int) (x1 : Int) (x2 : Int) (x3 : Int) (x4 : Int) (x5 : List Int) (x6 : Int) (x7 : Int) (x8 : List Int) : Option (List Int × Int) := (if x3 < x7 then (if 0 ≤ x3 then (if x3 < (ln x0) then ((c59 x4 (rd x0 x3)).bind fun t1 => (if 0 ≤ (wrap64 (x1 + x3)) then (if (wrap64 (x1 + x3)) < (ln x8) then ((c69 t1.2 (rd x8 (wrap64 (x1 + x3))) 0).bind fun t2 => ((c69 t2.1 x2 0).bind fun t3 => (if 0 ≤ (wrap64 (x1 + x3)) then (if (wrap64 (x1 + x3)) < (ln x8) then k2085685 x0 x1 (IntKind.u64.wrap ((IntKind.u64.wrap (t1.1 + t2.2)) + t3.2)) (wrap64 (x3 + 1)) x4 x5 x6 x7 (x8.set (wrap64 (x1 + x3) : Int).toNat t3.1) else none) else none))) else none) else none)) else none) else none) else k260711 x0 x1 x2 x5 x6 x8)
noncomputable def nat_Mul.l255 (n : Nat) (x0 : List Int) : Option (List Int × Int) := nat_Mul.b255 (nat_big.f n) (nat_size.f n) (nat_cut.f n) bits_Mul64.f bits_Add64.f x0
noncomputable def nat_Mul.l260711 (n : Nat) (k2037 : List Int → List Int → Int → Int → List Int → Option (List Int × Int)) (x0 : List Int) (x1 : Int) (x2 : Int) (x3 : List Int) (x4 : Int) (x5 : List Int) : Option (List Int × Int) := nat_Mul.b260711 (nat_big.f n) (nat_size.f n) (nat_cut.f n) bits_Mul64.f bits_Add64.f k2037 x0 x1 x2 x3 x4 x5
noncomputable def nat_Mul.l2085685 (n : Nat) (k2037 : List Int → List Int → Int → Int → List Int → Option (List Int × Int)) : Nat → List Int → Int → Int → Int → Int → List Int → Int → Int → List Int → Option (List Int × Int)
  | 0, _, _, _, _, _, _, _, _, _ => none
  | m + 1, x0, x1, x2, x3, x4, x5, x6, x7, x8 => nat_Mul.b2085685 (nat_big.f n) (nat_size.f n) (nat_cut.f n) bits_Mul64.f bits_Add64.f (nat_Mul.l260711 n k2037) (nat_Mul.l2085685 n k2037 m) x0 x1 x2 x3 x4 x5 x6 x7 x8
noncomputable def nat_Mul.l2037 (n : Nat) : Nat → List Int → List Int → Int → Int → List Int → Option (List Int × Int)
  | 0, _, _, _, _, _ => none
  | m + 1, x0, x1, x2, x3, x4 => nat_Mul.b2037 (nat_big.f n) (nat_size.f n) (nat_cut.f n) bits_Mul64.f bits_Add64.f (nat_Mul.l255 n) (nat_Mul.l2085685 n (nat_Mul.l2037 n m) n) x0 x1 x2 x3 x4
noncomputable def nat_Mul.f (n : Nat) (l0 : List Int) (l1 : List Int) : Option (List Int × Int) := nat_Mul.b0 (nat_big.f n) (nat_size.f n) (nat_cut.f n) bits_Mul64.f bits_Add64.f (nat_Mul.l2037 n n) l0 l1
noncomputable def nat_Mul.sg : Sig (List Int × Int) := s2 (sRow .u64) (s1 (sInt .i64))
noncomputable def nat_Mul.code : Code := (Tryd.f58.body).getD .skip
noncomputable def nat_Mul.cfg (c52 : List Int → Option (Bool)) (c53 : List Int → Option (Int)) (c54 : List Int → Option (List Int × Int)) (c59 : Int → Int → Option (Int × Int)) (c69 : Int → Int → Int → Option (Int × Int)) : Cfg (List Int × Int) := { T := tys, call := orCall 52 (nat_big.call c52) (orCall 53 (nat_size.call c53) (orCall 54 (nat_cut.call c54) (orCall 59 (bits_Mul64.call c59) (orCall 69 (bits_Add64.call c69) (noCall))))) }
noncomputable def nat_Mul.cuts : List (Nat × List (Nat × Want)) := [(255, [(6, .keep)]), (2037, [(1, .keep), (6, .keep), (50, .keep), (51, .keep), (52, .keep)]), (260711, [(1, .keep), (6, .keep), (7, .keep), (9, .keep), (50, .keep), (51, .keep), (52, .keep)]), (2085685, [(1, .keep), (6, .keep), (7, .keep), (8, .keep), (9, .keep), (50, .keep), (51, .keep), (52, .keep), (57, .keep), (58, .keep), (59, .keep)])]
noncomputable def nat_Mul.s255 (x0 : List Int) : ASt := ⟨[(6, .own 0)], [.ints 22 .u64 x0]⟩
noncomputable def nat_Mul.s2037 (x0 : List Int) (x1 : List Int) (x2 : Int) (x3 : Int) (x4 : List Int) : ASt := ⟨[(1, .ro .u64 x0), (6, .own 0), (50, .ro .u64 x1), (51, .int .i64 x2), (52, .int .i64 x3)], [.ints 22 .u64 x4]⟩
noncomputable def nat_Mul.s260711 (x0 : List Int) (x1 : Int) (x2 : Int) (x3 : List Int) (x4 : Int) (x5 : List Int) : ASt := ⟨[(1, .ro .u64 x0), (6, .own 0), (7, .int .i64 x1), (9, .int .u64 x2), (50, .ro .u64 x3), (51, .int .i64 x4), (52, .int .i64 x1)], [.ints 22 .u64 x5]⟩
noncomputable def nat_Mul.s2085685 (x0 : List Int) (x1 : Int) (x2 : Int) (x3 : Int) (x4 : Int) (x5 : List Int) (x6 : Int) (x7 : Int) (x8 : List Int) : ASt := ⟨[(1, .ro .u64 x0), (6, .own 0), (7, .int .i64 x1), (8, .int .u64 x4), (9, .int .u64 x2), (50, .ro .u64 x5), (51, .int .i64 x6), (52, .int .i64 x1), (57, .ro .u64 x0), (58, .int .i64 x7), (59, .int .i64 x3)], [.ints 22 .u64 x8]⟩
noncomputable def nat_Mul.A (c52 : List Int → Option (Bool)) (c53 : List Int → Option (Int)) (c54 : List Int → Option (List Int × Int)) (c59 : Int → Int → Option (Int × Int)) (c69 : Int → Int → Int → Option (Int × Int)) (n : Nat) (J : Nat → (ASt → Option (List Int × Int)) → ASt → Option (List Int × Int)) (q : Nat) (ms : List Nat) : ASt → Option (List Int × Int) := acont (nat_Mul.cfg c52 c53 c54 c59 c69) J nat_Mul.cuts n q nat_Mul.code 1 ms (aend (nat_Mul.cfg c52 c53 c54 c59 c69) Tryd.f58.results.toList [false, false] nat_Mul.sg.out)
theorem nat_Mul.e0 (c52 : List Int → Option (Bool)) (c53 : List Int → Option (Int)) (c54 : List Int → Option (List Int × Int)) (c59 : Int → Int → Option (Int × Int)) (c69 : Int → Int → Int → Option (Int × Int)) (n : Nat) (J : Nat → (ASt → Option (List Int × Int)) → ASt → Option (List Int × Int)) (l0 : List Int) (l1 : List Int) : afun (nat_Mul.cfg c52 c53 c54 c59 c69) J nat_Mul.cuts n nat_Mul.code Tryd.f58.results.toList [false, false] [.ro .u64 l0, .ro .u64 l1] nat_Mul.sg.out = nat_Mul.b0 c52 c53 c54 c59 c69 (fun y0 y1 y2 y3 y4 => J 2037 (nat_Mul.A c52 c53 c54 c59 c69 n J 2037 [n]) (nat_Mul.s2037 y0 y1 y2 y3 y4)) l0 l1 := by kernel_rfl
theorem nat_Mul.e255 (c52 : List Int → Option (Bool)) (c53 : List Int → Option (Int)) (c54 : List Int → Option (List Int × Int)) (c59 : Int → Int → Option (Int × Int)) (c69 : Int → Int → Int → Option (Int × Int)) (n : Nat) (J : Nat → (ASt → Option (List Int × Int)) → ASt → Option (List Int × Int)) (x0 : List Int) : nat_Mul.A c52 c53 c54 c59 c69 n J 255 [] (nat_Mul.s255 x0) = nat_Mul.b255 c52 c53 c54 c59 c69 x0 := by kernel_rfl
theorem nat_Mul.e2037 (c52 : List Int → Option (Bool)) (c53 : List Int → Option (Int)) (c54 : List Int → Option (List Int × Int)) (c59 : Int → Int → Option (Int × Int)) (c69 : Int → Int → Int → Option (Int × Int)) (n : Nat) (J : Nat → (ASt → Option (List Int × Int)) → ASt → Option (List Int × Int)) (m : Nat) (x0 : List Int) (x1 : List Int) (x2 : Int) (x3 : Int) (x4 : List Int) : nat_Mul.A c52 c53 c54 c59 c69 n J 2037 [m + 1] (nat_Mul.s2037 x0 x1 x2 x3 x4) = nat_Mul.b2037 c52 c53 c54 c59 c69 (fun y0 => J 255 (nat_Mul.A c52 c53 c54 c59 c69 n J 255 []) (nat_Mul.s255 y0)) (fun y0 y1 y2 y3 y4 y5 y6 y7 y8 => J 2085685 (nat_Mul.A c52 c53 c54 c59 c69 n J 2085685 [m, n]) (nat_Mul.s2085685 y0 y1 y2 y3 y4 y5 y6 y7 y8)) x0 x1 x2 x3 x4 := by kernel_rfl
theorem nat_Mul.e260711 (c52 : List Int → Option (Bool)) (c53 : List Int → Option (Int)) (c54 : List Int → Option (List Int × Int)) (c59 : Int → Int → Option (Int × Int)) (c69 : Int → Int → Int → Option (Int × Int)) (n : Nat) (J : Nat → (ASt → Option (List Int × Int)) → ASt → Option (List Int × Int)) (m2037 : Nat) (x0 : List Int) (x1 : Int) (x2 : Int) (x3 : List Int) (x4 : Int) (x5 : List Int) : nat_Mul.A c52 c53 c54 c59 c69 n J 260711 [m2037] (nat_Mul.s260711 x0 x1 x2 x3 x4 x5) = nat_Mul.b260711 c52 c53 c54 c59 c69 (fun y0 y1 y2 y3 y4 => J 2037 (nat_Mul.A c52 c53 c54 c59 c69 n J 2037 [m2037]) (nat_Mul.s2037 y0 y1 y2 y3 y4)) x0 x1 x2 x3 x4 x5 := by kernel_rfl
theorem nat_Mul.e2085685 (c52 : List Int → Option (Bool)) (c53 : List Int → Option (Int)) (c54 : List Int → Option (List Int × Int)) (c59 : Int → Int → Option (Int × Int)) (c69 : Int → Int → Int → Option (Int × Int)) (n : Nat) (J : Nat → (ASt → Option (List Int × Int)) → ASt → Option (List Int × Int)) (m2037 : Nat) (m : Nat) (x0 : List Int) (x1 : Int) (x2 : Int) (x3 : Int) (x4 : Int) (x5 : List Int) (x6 : Int) (x7 : Int) (x8 : List Int) : nat_Mul.A c52 c53 c54 c59 c69 n J 2085685 [m2037, m + 1] (nat_Mul.s2085685 x0 x1 x2 x3 x4 x5 x6 x7 x8) = nat_Mul.b2085685 c52 c53 c54 c59 c69 (fun y0 y1 y2 y3 y4 y5 => J 260711 (nat_Mul.A c52 c53 c54 c59 c69 n J 260711 [m2037]) (nat_Mul.s260711 y0 y1 y2 y3 y4 y5)) (fun y0 y1 y2 y3 y4 y5 y6 y7 y8 => J 2085685 (nat_Mul.A c52 c53 c54 c59 c69 n J 2085685 [m2037, m]) (nat_Mul.s2085685 y0 y1 y2 y3 y4 y5 y6 y7 y8)) x0 x1 x2 x3 x4 x5 x6 x7 x8 := by kernel_rfl
theorem nat_Mul.q255 (n : Nat) (x0 : List Int) : nat_Mul.A (nat_big.f n) (nat_size.f n) (nat_cut.f n) bits_Mul64.f bits_Add64.f n idJ 255 [] (nat_Mul.s255 x0) = nat_Mul.l255 n x0 := (nat_Mul.e255 (nat_big.f n) (nat_size.f n) (nat_cut.f n) bits_Mul64.f bits_Add64.f n idJ x0).trans (rfl)
theorem nat_Mul.q260711 (n : Nat) (m2037 : Nat) (x0 : List Int) (x1 : Int) (x2 : Int) (x3 : List Int) (x4 : Int) (x5 : List Int) : nat_Mul.A (nat_big.f n) (nat_size.f n) (nat_cut.f n) bits_Mul64.f bits_Add64.f n idJ 260711 [m2037] (nat_Mul.s260711 x0 x1 x2 x3 x4 x5) = nat_Mul.l260711 n (fun y0 y1 y2 y3 y4 => nat_Mul.A (nat_big.f n) (nat_size.f n) (nat_cut.f n) bits_Mul64.f bits_Add64.f n idJ 2037 [m2037] (nat_Mul.s2037 y0 y1 y2 y3 y4)) x0 x1 x2 x3 x4 x5 := (nat_Mul.e260711 (nat_big.f n) (nat_size.f n) (nat_cut.f n) bits_Mul64.f bits_Add64.f n idJ m2037 x0 x1 x2 x3 x4 x5).trans (rfl)
theorem nat_Mul.q2085685 (n : Nat) (m2037 : Nat) (m : Nat) : ∀ (x0 : List Int) (x1 : Int) (x2 : Int) (x3 : Int) (x4 : Int) (x5 : List Int) (x6 : Int) (x7 : Int) (x8 : List Int), nat_Mul.A (nat_big.f n) (nat_size.f n) (nat_cut.f n) bits_Mul64.f bits_Add64.f n idJ 2085685 [m2037, m] (nat_Mul.s2085685 x0 x1 x2 x3 x4 x5 x6 x7 x8) = nat_Mul.l2085685 n (fun y0 y1 y2 y3 y4 => nat_Mul.A (nat_big.f n) (nat_size.f n) (nat_cut.f n) bits_Mul64.f bits_Add64.f n idJ 2037 [m2037] (nat_Mul.s2037 y0 y1 y2 y3 y4)) m x0 x1 x2 x3 x4 x5 x6 x7 x8 := by
  induction m with
  | zero => intros; rfl
  | succ m ih =>
    intro x0 x1 x2 x3 x4 x5 x6 x7 x8
    refine (nat_Mul.e2085685 (nat_big.f n) (nat_size.f n) (nat_cut.f n) bits_Mul64.f bits_Add64.f n idJ m2037 m x0 x1 x2 x3 x4 x5 x6 x7 x8).trans ?_
    exact congrFun (congrFun (congrFun (congrFun (congrFun (congrFun (congrFun (congrFun (congrFun (congr (congrArg (nat_Mul.b2085685 (nat_big.f n) (nat_size.f n) (nat_cut.f n) bits_Mul64.f bits_Add64.f) (funext fun y0 => (funext fun y1 => (funext fun y2 => (funext fun y3 => (funext fun y4 => (funext fun y5 => nat_Mul.q260711 n m2037 y0 y1 y2 y3 y4 y5))))))) (funext fun y0 => (funext fun y1 => (funext fun y2 => (funext fun y3 => (funext fun y4 => (funext fun y5 => (funext fun y6 => (funext fun y7 => (funext fun y8 => ih y0 y1 y2 y3 y4 y5 y6 y7 y8)))))))))) x0) x1) x2) x3) x4) x5) x6) x7) x8
theorem nat_Mul.q2037 (n : Nat) (m : Nat) : ∀ (x0 : List Int) (x1 : List Int) (x2 : Int) (x3 : Int) (x4 : List Int), nat_Mul.A (nat_big.f n) (nat_size.f n) (nat_cut.f n) bits_Mul64.f bits_Add64.f n idJ 2037 [m] (nat_Mul.s2037 x0 x1 x2 x3 x4) = nat_Mul.l2037 n m x0 x1 x2 x3 x4 := by
  induction m with
  | zero => intros; rfl
  | succ m ih =>
    intro x0 x1 x2 x3 x4
    refine (nat_Mul.e2037 (nat_big.f n) (nat_size.f n) (nat_cut.f n) bits_Mul64.f bits_Add64.f n idJ m x0 x1 x2 x3 x4).trans ?_
    exact congrFun (congrFun (congrFun (congrFun (congrFun (congr (congrArg (nat_Mul.b2037 (nat_big.f n) (nat_size.f n) (nat_cut.f n) bits_Mul64.f bits_Add64.f) (funext fun y0 => nat_Mul.q255 n y0)) ((funext fun y0 => (funext fun y1 => (funext fun y2 => (funext fun y3 => (funext fun y4 => (funext fun y5 => (funext fun y6 => (funext fun y7 => (funext fun y8 => nat_Mul.q2085685 n m n y0 y1 y2 y3 y4 y5 y6 y7 y8))))))))).trans (by rw [show (fun y0 y1 y2 y3 y4 => nat_Mul.A (nat_big.f n) (nat_size.f n) (nat_cut.f n) bits_Mul64.f bits_Add64.f n idJ 2037 [m] (nat_Mul.s2037 y0 y1 y2 y3 y4)) = _ from (funext fun y0 => (funext fun y1 => (funext fun y2 => (funext fun y3 => (funext fun y4 => ih y0 y1 y2 y3 y4)))))]))) x0) x1) x2) x3) x4
theorem nat_Mul.eq (n : Nat) (l0 : List Int) (l1 : List Int) : afun (nat_Mul.cfg (nat_big.f n) (nat_size.f n) (nat_cut.f n) bits_Mul64.f bits_Add64.f) idJ nat_Mul.cuts n nat_Mul.code Tryd.f58.results.toList [false, false] [.ro .u64 l0, .ro .u64 l1] nat_Mul.sg.out = nat_Mul.f n l0 l1 := (nat_Mul.e0 (nat_big.f n) (nat_size.f n) (nat_cut.f n) bits_Mul64.f bits_Add64.f n idJ l0 l1).trans (congrFun (congrFun (congrArg (nat_Mul.b0 (nat_big.f n) (nat_size.f n) (nat_cut.f n) bits_Mul64.f bits_Add64.f) (funext fun y0 => (funext fun y1 => (funext fun y2 => (funext fun y3 => (funext fun y4 => nat_Mul.q2037 n n y0 y1 y2 y3 y4)))))) l0) l1)
theorem nat_Mul.ok {n : Nat} {l0 : List Int} {l1 : List Int} {r : List Int × Int} (h : nat_Mul.f n l0 l1 = some r) : CallD Tryd.prog HW 58 [.ro .u64 l0, .ro .u64 l1] (nat_Mul.sg.enc r) :=
  fun_some hwS Tryd.func58 (by kernel_rfl) (body := nat_Mul.code) (by kernel_rfl) tys_ok (c := nat_Mul.cfg (nat_big.f n) (nat_size.f n) (nat_cut.f n) bits_Mul64.f bits_Add64.f) (orCall_ok (nat_big.call_ok (n := n)) (orCall_ok (nat_size.call_ok (n := n)) (orCall_ok (nat_cut.call_ok (n := n)) (orCall_ok (bits_Mul64.call_ok (n := n)) (orCall_ok (bits_Add64.call_ok (n := n)) noCall_ok))))) noW_ok (by kernel_rfl) (by kernel_rfl) (Nat.le_of_ble_eq_true (by kernel_rfl)) ((nat_Mul.eq n l0 l1).trans h)
noncomputable def nat_Mul.call {α : Type} (g : List Int → List Int → Option (List Int × Int)) (ds : List D) (K : List D → Option α) : Option α := match ds with
  | [.ro .u64 l0, .ro .u64 l1] => (g l0 l1).bind fun r => K (nat_Mul.sg.enc r)
  | _ => none
theorem nat_Mul.call_ok {α : Type} {n : Nat} (ds : List D) (K : List D → Option α) (r : α) (h : nat_Mul.call (nat_Mul.f n) ds K = some r) : ∃ rs, K rs = some r ∧ CallD Tryd.prog HW 58 ds rs := by
  unfold nat_Mul.call at h
  split at h
  · obtain ⟨x, hx, hk⟩ := Option.bind_eq_some_iff.1 h
    exact ⟨_, hk, nat_Mul.ok (n := n) hx⟩
  · cases h
/-! ### quot_Pow: function 18 -/
noncomputable def quot_Pow.b0 (c55 : List Int → Int → Option (List Int × Bool)) (c56 : List Int → Option (Int)) (c57 : Int → Option (Int)) (c58 : List Int → List Int → Option (List Int × Int)) (k1013 : Int → List Int → List Int → Int → Option (List Int × Int)) (l0 : List Int) (a1 : Int) : Option (List Int × Int) := ((c55 l0 4096).bind fun t1 => ((c56 t1.1).bind fun t2 => (if (!t1.2) = true then some (([] : List Int), 2) else (if a1 < 0 then some (([] : List Int), 1) else (if a1 = 0 then some ([1], 0) else (if t2 ≤ 1 then some (t1.1, 0) else (if a1 ≥ 262144 then some (([] : List Int), 2) else (if (wrap64 ((wrap64 (t2 - 1)) * a1)) ≥ 262144 then some (([] : List Int), 2) else ((c57 (IntKind.u64.wrap a1)).bind fun t3 => k1013 a1 t1.1 [1] (wrap64 (t3 - 1)))))))))))
noncomputable def quot_Pow.b1013 (c55 : List Int → Int → Option (List Int × Bool)) (c56 : List Int → Option (Int)) (c57 : Int → Option (Int)) (c58 : List Int → List Int → Option (List Int × Int)) (k64807 : Int → List Int → List Int → Int → Int → Option (List Int × Int)) (x0 : Int) (x1 : List Int) (x2 : List Int) (x3 : Int) : Option (List Int × Int) := (if x3 ≥ 0 then ((c58 x2 x2).bind fun t1 => (if t1.2 = 0 then (if 0 ≤ (IntKind.u64.wrap x3) then (if (Go.bits .and .i64 (shr .i64 x0 (IntKind.u64.wrap x3)) 1) = 1 then ((c58 t1.1 x1).bind fun t2 => k64807 x0 x1 t2.1 x3 t2.2) else k64807 x0 x1 t1.1 x3 t1.2) else none) else k64807 x0 x1 t1.1 x3 t1.2)) else some (x2, 0))
noncomputable def quot_Pow.b64807 (c55 : List Int → Int → Option (List Int × Bool)) (c56 : List Int → Option (Int)) (c57 : Int → Option (Int)) (c58 : List Int → List Int → Option (List Int × Int)) (k1013 : Int → List Int → List Int → Int → Option (List Int × Int)) (x0 : Int) (x1 : List Int) (x2 : List Int) (x3 : Int) (x4 : Int) : Option (List Int × Int) := (if ¬ x4 = 0 then some (([] : List Int), x4) else k1013 x0 x1 x2 (wrap64 (x3 - 1)))
noncomputable def quot_Pow.l64807 (n : Nat) (k1013 : Int → List Int → List Int → Int → Option (List Int × Int)) (x0 : Int) (x1 : List Int) (x2 : List Int) (x3 : Int) (x4 : Int) : Option (List Int × Int) := quot_Pow.b64807 (quot_small.f n) (nat_BitLen.f n) bits_Len.f (nat_Mul.f n) k1013 x0 x1 x2 x3 x4
noncomputable def quot_Pow.l1013 (n : Nat) : Nat → Int → List Int → List Int → Int → Option (List Int × Int)
  | 0, _, _, _, _ => none
  | m + 1, x0, x1, x2, x3 => quot_Pow.b1013 (quot_small.f n) (nat_BitLen.f n) bits_Len.f (nat_Mul.f n) (quot_Pow.l64807 n (quot_Pow.l1013 n m)) x0 x1 x2 x3
noncomputable def quot_Pow.f (n : Nat) (l0 : List Int) (a1 : Int) : Option (List Int × Int) := quot_Pow.b0 (quot_small.f n) (nat_BitLen.f n) bits_Len.f (nat_Mul.f n) (quot_Pow.l1013 n n) l0 a1
noncomputable def quot_Pow.sg : Sig (List Int × Int) := s2 (sRow .u64) (s1 (sInt .i64))
noncomputable def quot_Pow.code : Code := (Tryd.f18.body).getD .skip
noncomputable def quot_Pow.cfg (c55 : List Int → Int → Option (List Int × Bool)) (c56 : List Int → Option (Int)) (c57 : Int → Option (Int)) (c58 : List Int → List Int → Option (List Int × Int)) : Cfg (List Int × Int) := { T := tys, call := orCall 55 (quot_small.call c55) (orCall 56 (nat_BitLen.call c56) (orCall 57 (bits_Len.call c57) (orCall 58 (nat_Mul.call c58) (noCall)))) }
noncomputable def quot_Pow.cuts : List (Nat × List (Nat × Want)) := [(1013, [(1, .keep), (6, .keep), (9, .cast), (10, .keep)]), (64807, [(1, .keep), (6, .keep), (9, .keep), (10, .keep), (11, .keep)])]
noncomputable def quot_Pow.s1013 (x0 : Int) (x1 : List Int) (x2 : List Int) (x3 : Int) : ASt := ⟨[(1, .int .i64 x0), (6, .ro .u64 x1), (9, .ro .u64 x2), (10, .int .i64 x3)], []⟩
noncomputable def quot_Pow.s64807 (x0 : Int) (x1 : List Int) (x2 : List Int) (x3 : Int) (x4 : Int) : ASt := ⟨[(1, .int .i64 x0), (6, .ro .u64 x1), (9, .ro .u64 x2), (10, .int .i64 x3), (11, .int .i64 x4)], []⟩
noncomputable def quot_Pow.A (c55 : List Int → Int → Option (List Int × Bool)) (c56 : List Int → Option (Int)) (c57 : Int → Option (Int)) (c58 : List Int → List Int → Option (List Int × Int)) (n : Nat) (J : Nat → (ASt → Option (List Int × Int)) → ASt → Option (List Int × Int)) (q : Nat) (ms : List Nat) : ASt → Option (List Int × Int) := acont (quot_Pow.cfg c55 c56 c57 c58) J quot_Pow.cuts n q quot_Pow.code 1 ms (aend (quot_Pow.cfg c55 c56 c57 c58) Tryd.f18.results.toList [false, false] quot_Pow.sg.out)
theorem quot_Pow.e0 (c55 : List Int → Int → Option (List Int × Bool)) (c56 : List Int → Option (Int)) (c57 : Int → Option (Int)) (c58 : List Int → List Int → Option (List Int × Int)) (n : Nat) (J : Nat → (ASt → Option (List Int × Int)) → ASt → Option (List Int × Int)) (l0 : List Int) (a1 : Int) : afun (quot_Pow.cfg c55 c56 c57 c58) J quot_Pow.cuts n quot_Pow.code Tryd.f18.results.toList [false, false] [.ro .u64 l0, .int .i64 a1] quot_Pow.sg.out = quot_Pow.b0 c55 c56 c57 c58 (fun y0 y1 y2 y3 => J 1013 (quot_Pow.A c55 c56 c57 c58 n J 1013 [n]) (quot_Pow.s1013 y0 y1 y2 y3)) l0 a1 := by kernel_rfl
theorem quot_Pow.e1013 (c55 : List Int → Int → Option (List Int × Bool)) (c56 : List Int → Option (Int)) (c57 : Int → Option (Int)) (c58 : List Int → List Int → Option (List Int × Int)) (n : Nat) (J : Nat → (ASt → Option (List Int × Int)) → ASt → Option (List Int × Int)) (m : Nat) (x0 : Int) (x1 : List Int) (x2 : List Int) (x3 : Int) : quot_Pow.A c55 c56 c57 c58 n J 1013 [m + 1] (quot_Pow.s1013 x0 x1 x2 x3) = quot_Pow.b1013 c55 c56 c57 c58 (fun y0 y1 y2 y3 y4 => J 64807 (quot_Pow.A c55 c56 c57 c58 n J 64807 [m]) (quot_Pow.s64807 y0 y1 y2 y3 y4)) x0 x1 x2 x3 := by kernel_rfl
theorem quot_Pow.e64807 (c55 : List Int → Int → Option (List Int × Bool)) (c56 : List Int → Option (Int)) (c57 : Int → Option (Int)) (c58 : List Int → List Int → Option (List Int × Int)) (n : Nat) (J : Nat → (ASt → Option (List Int × Int)) → ASt → Option (List Int × Int)) (m1013 : Nat) (x0 : Int) (x1 : List Int) (x2 : List Int) (x3 : Int) (x4 : Int) : quot_Pow.A c55 c56 c57 c58 n J 64807 [m1013] (quot_Pow.s64807 x0 x1 x2 x3 x4) = quot_Pow.b64807 c55 c56 c57 c58 (fun y0 y1 y2 y3 => J 1013 (quot_Pow.A c55 c56 c57 c58 n J 1013 [m1013]) (quot_Pow.s1013 y0 y1 y2 y3)) x0 x1 x2 x3 x4 := by kernel_rfl
theorem quot_Pow.q64807 (n : Nat) (m1013 : Nat) (x0 : Int) (x1 : List Int) (x2 : List Int) (x3 : Int) (x4 : Int) : quot_Pow.A (quot_small.f n) (nat_BitLen.f n) bits_Len.f (nat_Mul.f n) n idJ 64807 [m1013] (quot_Pow.s64807 x0 x1 x2 x3 x4) = quot_Pow.l64807 n (fun y0 y1 y2 y3 => quot_Pow.A (quot_small.f n) (nat_BitLen.f n) bits_Len.f (nat_Mul.f n) n idJ 1013 [m1013] (quot_Pow.s1013 y0 y1 y2 y3)) x0 x1 x2 x3 x4 := (quot_Pow.e64807 (quot_small.f n) (nat_BitLen.f n) bits_Len.f (nat_Mul.f n) n idJ m1013 x0 x1 x2 x3 x4).trans (rfl)
theorem quot_Pow.q1013 (n : Nat) (m : Nat) : ∀ (x0 : Int) (x1 : List Int) (x2 : List Int) (x3 : Int), quot_Pow.A (quot_small.f n) (nat_BitLen.f n) bits_Len.f (nat_Mul.f n) n idJ 1013 [m] (quot_Pow.s1013 x0 x1 x2 x3) = quot_Pow.l1013 n m x0 x1 x2 x3 := by
  induction m with
  | zero => intros; rfl
  | succ m ih =>
    intro x0 x1 x2 x3
    refine (quot_Pow.e1013 (quot_small.f n) (nat_BitLen.f n) bits_Len.f (nat_Mul.f n) n idJ m x0 x1 x2 x3).trans ?_
    exact congrFun (congrFun (congrFun (congrFun (congrArg (quot_Pow.b1013 (quot_small.f n) (nat_BitLen.f n) bits_Len.f (nat_Mul.f n)) ((funext fun y0 => (funext fun y1 => (funext fun y2 => (funext fun y3 => (funext fun y4 => quot_Pow.q64807 n m y0 y1 y2 y3 y4))))).trans (by rw [show (fun y0 y1 y2 y3 => quot_Pow.A (quot_small.f n) (nat_BitLen.f n) bits_Len.f (nat_Mul.f n) n idJ 1013 [m] (quot_Pow.s1013 y0 y1 y2 y3)) = _ from (funext fun y0 => (funext fun y1 => (funext fun y2 => (funext fun y3 => ih y0 y1 y2 y3))))]))) x0) x1) x2) x3
theorem quot_Pow.eq (n : Nat) (l0 : List Int) (a1 : Int) : afun (quot_Pow.cfg (quot_small.f n) (nat_BitLen.f n) bits_Len.f (nat_Mul.f n)) idJ quot_Pow.cuts n quot_Pow.code Tryd.f18.results.toList [false, false] [.ro .u64 l0, .int .i64 a1] quot_Pow.sg.out = quot_Pow.f n l0 a1 := (quot_Pow.e0 (quot_small.f n) (nat_BitLen.f n) bits_Len.f (nat_Mul.f n) n idJ l0 a1).trans (congrFun (congrFun (congrArg (quot_Pow.b0 (quot_small.f n) (nat_BitLen.f n) bits_Len.f (nat_Mul.f n)) (funext fun y0 => (funext fun y1 => (funext fun y2 => (funext fun y3 => quot_Pow.q1013 n n y0 y1 y2 y3))))) l0) a1)
theorem quot_Pow.ok {n : Nat} {l0 : List Int} {a1 : Int} {r : List Int × Int} (h : quot_Pow.f n l0 a1 = some r) : CallD Tryd.prog HW 18 [.ro .u64 l0, .int .i64 a1] (quot_Pow.sg.enc r) :=
  fun_some hwS Tryd.func18 (by kernel_rfl) (body := quot_Pow.code) (by kernel_rfl) tys_ok (c := quot_Pow.cfg (quot_small.f n) (nat_BitLen.f n) bits_Len.f (nat_Mul.f n)) (orCall_ok (quot_small.call_ok (n := n)) (orCall_ok (nat_BitLen.call_ok (n := n)) (orCall_ok (bits_Len.call_ok (n := n)) (orCall_ok (nat_Mul.call_ok (n := n)) noCall_ok)))) noW_ok (by kernel_rfl) (by kernel_rfl) (Nat.le_of_ble_eq_true (by kernel_rfl)) ((quot_Pow.eq n l0 a1).trans h)
noncomputable def quot_Pow.call {α : Type} (g : List Int → Int → Option (List Int × Int)) (ds : List D) (K : List D → Option α) : Option α := match ds with
  | [.ro .u64 l0, .int .i64 a1] => (g l0 a1).bind fun r => K (quot_Pow.sg.enc r)
  | _ => none
theorem quot_Pow.call_ok {α : Type} {n : Nat} (ds : List D) (K : List D → Option α) (r : α) (h : quot_Pow.call (quot_Pow.f n) ds K = some r) : ∃ rs, K rs = some r ∧ CallD Tryd.prog HW 18 ds rs := by
  unfold quot_Pow.call at h
  split at h
  · obtain ⟨x, hx, hk⟩ := Option.bind_eq_some_iff.1 h
    exact ⟨_, hk, quot_Pow.ok (n := n) hx⟩
  · cases h
/-! ### nat_Cmp: function 30 -/
noncomputable def nat_Cmp.b0 (c53 : List Int → Option (Int)) (k245 : List Int → List Int → Int → Option (Int)) (l0 : List Int) (l1 : List Int) : Option (Int) := ((c53 l0).bind fun t1 => ((c53 l1).bind fun t2 => (if ¬ t1 = t2 then (if t1 < t2 then some (-1) else some 1) else k245 l0 l1 (wrap64 (t1 - 1)))))
noncomputable def nat_Cmp.b245 (c53 : List Int → Option (Int)) (k245 : List Int → List Int → Int → Option (Int)) (x0 : List Int) (x1 : List Int) (x2 : Int) : Option (Int) := (if x2 ≥ 0 then (if 0 ≤ x2 then (if x2 < (ln x0) then (if 0 ≤ x2 then (if x2 < (ln x1) then (if ¬ (rd x0 x2) = (rd x1 x2) then (if 0 ≤ x2 then (if x2 < (ln x0) then (if 0 ≤ x2 then (if x2 < (ln x1) then (if (rd x0 x2) < (rd x1 x2) then some (-1) else some 1) else none) else none) else none) else none) else k245 x0 x1 (wrap64 (x2 - 1))) else none) else none) else none) else none) else some 0)
noncomputable def nat_Cmp.l245 (n : Nat) : Nat → List Int → List Int → Int → Option (Int)
  | 0, _, _, _ => none
  | m + 1, x0, x1, x2 => nat_Cmp.b245 (nat_size.f n) (nat_Cmp.l245 n m) x0 x1 x2
noncomputable def nat_Cmp.f (n : Nat) (l0 : List Int) (l1 : List Int) : Option (Int) := nat_Cmp.b0 (nat_size.f n) (nat_Cmp.l245 n n) l0 l1
noncomputable def nat_Cmp.sg : Sig (Int) := s1 (sInt .i64)
noncomputable def nat_Cmp.code : Code := (Tryd.f30.body).getD .skip
noncomputable def nat_Cmp.cfg (c53 : List Int → Option (Int)) : Cfg (Int) := { T := tys, call := orCall 53 (nat_size.call c53) (noCall) }
noncomputable def nat_Cmp.cuts : List (Nat × List (Nat × Want)) := [(245, [(0, .keep), (1, .keep), (7, .keep)])]
noncomputable def nat_Cmp.s245 (x0 : List Int) (x1 : List Int) (x2 : Int) : ASt := ⟨[(0, .ro .u64 x0), (1, .ro .u64 x1), (7, .int .i64 x2)], []⟩
noncomputable def nat_Cmp.A (c53 : List Int → Option (Int)) (n : Nat) (J : Nat → (ASt → Option (Int)) → ASt → Option (Int)) (q : Nat) (ms : List Nat) : ASt → Option (Int) := acont (nat_Cmp.cfg c53) J nat_Cmp.cuts n q nat_Cmp.code 1 ms (aend (nat_Cmp.cfg c53) Tryd.f30.results.toList [false] nat_Cmp.sg.out)
theorem nat_Cmp.e0 (c53 : List Int → Option (Int)) (n : Nat) (J : Nat → (ASt → Option (Int)) → ASt → Option (Int)) (l0 : List Int) (l1 : List Int) : afun (nat_Cmp.cfg c53) J nat_Cmp.cuts n nat_Cmp.code Tryd.f30.results.toList [false] [.ro .u64 l0, .ro .u64 l1] nat_Cmp.sg.out = nat_Cmp.b0 c53 (fun y0 y1 y2 => J 245 (nat_Cmp.A c53 n J 245 [n]) (nat_Cmp.s245 y0 y1 y2)) l0 l1 := by kernel_rfl
theorem nat_Cmp.e245 (c53 : List Int → Option (Int)) (n : Nat) (J : Nat → (ASt → Option (Int)) → ASt → Option (Int)) (m : Nat) (x0 : List Int) (x1 : List Int) (x2 : Int) : nat_Cmp.A c53 n J 245 [m + 1] (nat_Cmp.s245 x0 x1 x2) = nat_Cmp.b245 c53 (fun y0 y1 y2 => J 245 (nat_Cmp.A c53 n J 245 [m]) (nat_Cmp.s245 y0 y1 y2)) x0 x1 x2 := by kernel_rfl
theorem nat_Cmp.q245 (n : Nat) (m : Nat) : ∀ (x0 : List Int) (x1 : List Int) (x2 : Int), nat_Cmp.A (nat_size.f n) n idJ 245 [m] (nat_Cmp.s245 x0 x1 x2) = nat_Cmp.l245 n m x0 x1 x2 := by
  induction m with
  | zero => intros; rfl
  | succ m ih =>
    intro x0 x1 x2
    refine (nat_Cmp.e245 (nat_size.f n) n idJ m x0 x1 x2).trans ?_
    exact congrFun (congrFun (congrFun (congrArg (nat_Cmp.b245 (nat_size.f n)) (funext fun y0 => (funext fun y1 => (funext fun y2 => ih y0 y1 y2)))) x0) x1) x2
theorem nat_Cmp.eq (n : Nat) (l0 : List Int) (l1 : List Int) : afun (nat_Cmp.cfg (nat_size.f n)) idJ nat_Cmp.cuts n nat_Cmp.code Tryd.f30.results.toList [false] [.ro .u64 l0, .ro .u64 l1] nat_Cmp.sg.out = nat_Cmp.f n l0 l1 := (nat_Cmp.e0 (nat_size.f n) n idJ l0 l1).trans (congrFun (congrFun (congrArg (nat_Cmp.b0 (nat_size.f n)) (funext fun y0 => (funext fun y1 => (funext fun y2 => nat_Cmp.q245 n n y0 y1 y2)))) l0) l1)
theorem nat_Cmp.ok {n : Nat} {l0 : List Int} {l1 : List Int} {r : Int} (h : nat_Cmp.f n l0 l1 = some r) : CallD Tryd.prog HW 30 [.ro .u64 l0, .ro .u64 l1] (nat_Cmp.sg.enc r) :=
  fun_some hwS Tryd.func30 (by kernel_rfl) (body := nat_Cmp.code) (by kernel_rfl) tys_ok (c := nat_Cmp.cfg (nat_size.f n)) (orCall_ok (nat_size.call_ok (n := n)) noCall_ok) noW_ok (by kernel_rfl) (by kernel_rfl) (Nat.le_of_ble_eq_true (by kernel_rfl)) ((nat_Cmp.eq n l0 l1).trans h)
noncomputable def nat_Cmp.call {α : Type} (g : List Int → List Int → Option (Int)) (ds : List D) (K : List D → Option α) : Option α := match ds with
  | [.ro .u64 l0, .ro .u64 l1] => (g l0 l1).bind fun r => K (nat_Cmp.sg.enc r)
  | _ => none
theorem nat_Cmp.call_ok {α : Type} {n : Nat} (ds : List D) (K : List D → Option α) (r : α) (h : nat_Cmp.call (nat_Cmp.f n) ds K = some r) : ∃ rs, K rs = some r ∧ CallD Tryd.prog HW 30 ds rs := by
  unfold nat_Cmp.call at h
  split at h
  · obtain ⟨x, hx, hk⟩ := Option.bind_eq_some_iff.1 h
    exact ⟨_, hk, nat_Cmp.ok (n := n) hx⟩
  · cases h
/-! ### nat_DivSmall: function 66 -/
noncomputable def nat_DivSmall.b0 (c52 : List Int → Option (Bool)) (c53 : List Int → Option (Int)) (c54 : List Int → Option (List Int × Int)) (c90 : Int → Int → Int → Option (Int × Int)) (k2037 : List Int → Int → Int → Int → List Int → Option (List Int × Int × Int)) (l0 : List Int) (a1 : Int) : Option (List Int × Int × Int) := ((c52 l0).bind fun t1 => (if t1 = true then some (([] : List Int), 0, 2) else (if a1 = 0 then some (([] : List Int), 0, 4) else ((c53 l0).bind fun t2 => (if 0 ≤ t2 then (if t2 ≤ (ln l0) then ((some (l0.take t2.toNat) : Option (List Int)).bind fun y3 => (if 0 ≤ (ln y3) then (if (ln y3).toNat ≤ 35184372088832 then k2037 y3 a1 0 (wrap64 ((ln y3) - 1)) (List.replicate (ln y3).toNat (0 : Int)) else none) else none)) else none) else none)))))
noncomputable def nat_DivSmall.b255 (c52 : List Int → Option (Bool)) (c53 : List Int → Option (Int)) (c54 : List Int → Option (List Int × Int)) (c90 : Int → Int → Int → Option (Int × Int)) (x0 : Int) (x1 : List Int) : Option (List Int × Int × Int) := ((c54 x1).bind fun t1 => some (t1.1, x0, t1.2))
noncomputable def nat_DivSmall.b2037 (c52 : List Int → Option (Bool)) (c53 : List Int → Option (Int)) (c54 : List Int → Option (List Int × Int)) (c90 : Int → Int → Int → Option (Int × Int)) (k255 : Int → List Int → Option (List Int × Int × Int)) (k2037 : List Int → Int → Int → Int → List Int → Option (List Int × Int × Int)) (x0 : List Int) (x1 : Int) (x2 : Int) (x3 : Int) (x4 : List Int) : Option (List Int × Int × Int) := (if x3 ≥ 0 then (if 0 ≤ x3 then (if x3 < (ln x0) then ((c90 x2 (rd x0 x3) x1).bind fun t1 => (if 0 ≤ x3 then (if x3 < (ln x4) then k2037 x0 x1 t1.2 (wrap64 (x3 - 1)) (x4.set (x3 : Int).toNat t1.1) else none) else none)) else none) else none) else k255 x2 x4)
noncomputable def nat_DivSmall.l255 (n : Nat) (x0 : Int) (x1 : List Int) : Option (List Int × Int × Int) := nat_DivSmall.b255 (nat_big.f n) (nat_size.f n) (nat_cut.f n) (bits_Div64.f n) x0 x1
noncomputable def nat_DivSmall.l2037 (n : Nat) : Nat → List Int → Int → Int → Int → List Int → Option (List Int × Int × Int)
  | 0, _, _, _, _, _ => none
  | m + 1, x0, x1, x2, x3, x4 => nat_DivSmall.b2037 (nat_big.f n) (nat_size.f n) (nat_cut.f n) (bits_Div64.f n) (nat_DivSmall.l255 n) (nat_DivSmall.l2037 n m) x0 x1 x2 x3 x4
noncomputable def nat_DivSmall.f (n : Nat) (l0 : List Int) (a1 : Int) : Option (List Int × Int × Int) := nat_DivSmall.b0 (nat_big.f n) (nat_size.f n) (nat_cut.f n) (bits_Div64.f n) (nat_DivSmall.l2037 n n) l0 a1
noncomputable def nat_DivSmall.sg : Sig (List Int × Int × Int) := s2 (sRow .u64) (s2 (sInt .u64) (s1 (sInt .i64)))
noncomputable def nat_DivSmall.code : Code := (Tryd.f66.body).getD .skip
noncomputable def nat_DivSmall.cfg (c52 : List Int → Option (Bool)) (c53 : List Int → Option (Int)) (c54 : List Int → Option (List Int × Int)) (c90 : Int → Int → Int → Option (Int × Int)) : Cfg (List Int × Int × Int) := { T := tys, call := orCall 52 (nat_big.call c52) (orCall 53 (nat_size.call c53) (orCall 54 (nat_cut.call c54) (orCall 90 (bits_Div64.call c90) (noCall)))) }
noncomputable def nat_DivSmall.cuts : List (Nat × List (Nat × Want)) := [(255, [(7, .keep), (8, .keep)]), (2037, [(0, .keep), (1, .keep), (7, .keep), (8, .keep), (9, .keep)])]
noncomputable def nat_DivSmall.s255 (x0 : Int) (x1 : List Int) : ASt := ⟨[(7, .own 0), (8, .int .u64 x0)], [.ints 22 .u64 x1]⟩
noncomputable def nat_DivSmall.s2037 (x0 : List Int) (x1 : Int) (x2 : Int) (x3 : Int) (x4 : List Int) : ASt := ⟨[(0, .ro .u64 x0), (1, .int .u64 x1), (7, .own 0), (8, .int .u64 x2), (9, .int .i64 x3)], [.ints 22 .u64 x4]⟩
noncomputable def nat_DivSmall.A (c52 : List Int → Option (Bool)) (c53 : List Int → Option (Int)) (c54 : List Int → Option (List Int × Int)) (c90 : Int → Int → Int → Option (Int × Int)) (n : Nat) (J : Nat → (ASt → Option (List Int × Int × Int)) → ASt → Option (List Int × Int × Int)) (q : Nat) (ms : List Nat) : ASt → Option (List Int × Int × Int) := acont (nat_DivSmall.cfg c52 c53 c54 c90) J nat_DivSmall.cuts n q nat_DivSmall.code 1 ms (aend (nat_DivSmall.cfg c52 c53 c54 c90) Tryd.f66.results.toList [false, false, false] nat_DivSmall.sg.out)
theorem nat_DivSmall.e0 (c52 : List Int → Option (Bool)) (c53 : List Int → Option (Int)) (c54 : List Int → Option (List Int × Int)) (c90 : Int → Int → Int → Option (Int × Int)) (n : Nat) (J : Nat → (ASt → Option (List Int × Int × Int)) → ASt → Option (List Int × Int × Int)) (l0 : List Int) (a1 : Int) : afun (nat_DivSmall.cfg c52 c53 c54 c90) J nat_DivSmall.cuts n nat_DivSmall.code Tryd.f66.results.toList [false, false, false] [.ro .u64 l0, .int .u64 a1] nat_DivSmall.sg.out = nat_DivSmall.b0 c52 c53 c54 c90 (fun y0 y1 y2 y3 y4 => J 2037 (nat_DivSmall.A c52 c53 c54 c90 n J 2037 [n]) (nat_DivSmall.s2037 y0 y1 y2 y3 y4)) l0 a1 := by kernel_rfl
theorem nat_DivSmall.e255 (c52 : List Int → Option (Bool)) (c53 : List Int → Option (Int)) (c54 : List Int → Option (List Int × Int)) (c90 : Int → Int → Int → Option (Int × Int)) (n : Nat) (J : Nat → (ASt → Option (List Int × Int × Int)) → ASt → Option (List Int × Int × Int)) (x0 : Int) (x1 : List Int) : nat_DivSmall.A c52 c53 c54 c90 n J 255 [] (nat_DivSmall.s255 x0 x1) = nat_DivSmall.b255 c52 c53 c54 c90 x0 x1 := by kernel_rfl
theorem nat_DivSmall.e2037 (c52 : List Int → Option (Bool)) (c53 : List Int → Option (Int)) (c54 : List Int → Option (List Int × Int)) (c90 : Int → Int → Int → Option (Int × Int)) (n : Nat) (J : Nat → (ASt → Option (List Int × Int × Int)) → ASt → Option (List Int × Int × Int)) (m : Nat) (x0 : List Int) (x1 : Int) (x2 : Int) (x3 : Int) (x4 : List Int) : nat_DivSmall.A c52 c53 c54 c90 n J 2037 [m + 1] (nat_DivSmall.s2037 x0 x1 x2 x3 x4) = nat_DivSmall.b2037 c52 c53 c54 c90 (fun y0 y1 => J 255 (nat_DivSmall.A c52 c53 c54 c90 n J 255 []) (nat_DivSmall.s255 y0 y1)) (fun y0 y1 y2 y3 y4 => J 2037 (nat_DivSmall.A c52 c53 c54 c90 n J 2037 [m]) (nat_DivSmall.s2037 y0 y1 y2 y3 y4)) x0 x1 x2 x3 x4 := by kernel_rfl
theorem nat_DivSmall.q255 (n : Nat) (x0 : Int) (x1 : List Int) : nat_DivSmall.A (nat_big.f n) (nat_size.f n) (nat_cut.f n) (bits_Div64.f n) n idJ 255 [] (nat_DivSmall.s255 x0 x1) = nat_DivSmall.l255 n x0 x1 := (nat_DivSmall.e255 (nat_big.f n) (nat_size.f n) (nat_cut.f n) (bits_Div64.f n) n idJ x0 x1).trans (rfl)
theorem nat_DivSmall.q2037 (n : Nat) (m : Nat) : ∀ (x0 : List Int) (x1 : Int) (x2 : Int) (x3 : Int) (x4 : List Int), nat_DivSmall.A (nat_big.f n) (nat_size.f n) (nat_cut.f n) (bits_Div64.f n) n idJ 2037 [m] (nat_DivSmall.s2037 x0 x1 x2 x3 x4) = nat_DivSmall.l2037 n m x0 x1 x2 x3 x4 := by
  induction m with
  | zero => intros; rfl
  | succ m ih =>
    intro x0 x1 x2 x3 x4
    refine (nat_DivSmall.e2037 (nat_big.f n) (nat_size.f n) (nat_cut.f n) (bits_Div64.f n) n idJ m x0 x1 x2 x3 x4).trans ?_
    exact congrFun (congrFun (congrFun (congrFun (congrFun (congr (congrArg (nat_DivSmall.b2037 (nat_big.f n) (nat_size.f n) (nat_cut.f n) (bits_Div64.f n)) (funext fun y0 => (funext fun y1 => nat_DivSmall.q255 n y0 y1))) (funext fun y0 => (funext fun y1 => (funext fun y2 => (funext fun y3 => (funext fun y4 => ih y0 y1 y2 y3 y4)))))) x0) x1) x2) x3) x4
theorem nat_DivSmall.eq (n : Nat) (l0 : List Int) (a1 : Int) : afun (nat_DivSmall.cfg (nat_big.f n) (nat_size.f n) (nat_cut.f n) (bits_Div64.f n)) idJ nat_DivSmall.cuts n nat_DivSmall.code Tryd.f66.results.toList [false, false, false] [.ro .u64 l0, .int .u64 a1] nat_DivSmall.sg.out = nat_DivSmall.f n l0 a1 := (nat_DivSmall.e0 (nat_big.f n) (nat_size.f n) (nat_cut.f n) (bits_Div64.f n) n idJ l0 a1).trans (congrFun (congrFun (congrArg (nat_DivSmall.b0 (nat_big.f n) (nat_size.f n) (nat_cut.f n) (bits_Div64.f n)) (funext fun y0 => (funext fun y1 => (funext fun y2 => (funext fun y3 => (funext fun y4 => nat_DivSmall.q2037 n n y0 y1 y2 y3 y4)))))) l0) a1)
theorem nat_DivSmall.ok {n : Nat} {l0 : List Int} {a1 : Int} {r : List Int × Int × Int} (h : nat_DivSmall.f n l0 a1 = some r) : CallD Tryd.prog HW 66 [.ro .u64 l0, .int .u64 a1] (nat_DivSmall.sg.enc r) :=
  fun_some hwS Tryd.func66 (by kernel_rfl) (body := nat_DivSmall.code) (by kernel_rfl) tys_ok (c := nat_DivSmall.cfg (nat_big.f n) (nat_size.f n) (nat_cut.f n) (bits_Div64.f n)) (orCall_ok (nat_big.call_ok (n := n)) (orCall_ok (nat_size.call_ok (n := n)) (orCall_ok (nat_cut.call_ok (n := n)) (orCall_ok (bits_Div64.call_ok (n := n)) noCall_ok)))) noW_ok (by kernel_rfl) (by kernel_rfl) (Nat.le_of_ble_eq_true (by kernel_rfl)) ((nat_DivSmall.eq n l0 a1).trans h)
noncomputable def nat_DivSmall.call {α : Type} (g : List Int → Int → Option (List Int × Int × Int)) (ds : List D) (K : List D → Option α) : Option α := match ds with
  | [.ro .u64 l0, .int .u64 a1] => (g l0 a1).bind fun r => K (nat_DivSmall.sg.enc r)
  | _ => none
theorem nat_DivSmall.call_ok {α : Type} {n : Nat} (ds : List D) (K : List D → Option α) (r : α) (h : nat_DivSmall.call (nat_DivSmall.f n) ds K = some r) : ∃ rs, K rs = some r ∧ CallD Tryd.prog HW 66 ds rs := by
  unfold nat_DivSmall.call at h
  split at h
  · obtain ⟨x, hx, hk⟩ := Option.bind_eq_some_iff.1 h
    exact ⟨_, hk, nat_DivSmall.ok (n := n) hx⟩
  · cases h
/-! ### quot_raised: function 92 -/
noncomputable def quot_raised.b0 (k117 : Int → Int → List Int → Int → Int → List Int → Option (List Int)) (l0 : List Int) (a1 : Int) (a2 : Int) : Option (List Int) := (if 0 ≤ a2 then (if a2.toNat ≤ 35184372088832 then k117 a1 a2 l0 (ln l0) 0 (List.replicate a2.toNat (0 : Int)) else none) else none)
noncomputable def quot_raised.b117 (k117 : Int → Int → List Int → Int → Int → List Int → Option (List Int)) (x0 : Int) (x1 : Int) (x2 : List Int) (x3 : Int) (x4 : Int) (x5 : List Int) : Option (List Int) := (if x4 < x3 then (if 0 ≤ x4 then (if x4 < (ln x2) then (if 0 ≤ x4 then (if x4 < (ln x5) then (if 0 ≤ (IntKind.u64.wrap x0) then (if 0 ≤ x4 then (if x4 < (ln x5) then (if (wrap64 (x4 + 1)) < x1 then (if x0 > 0 then (if 0 ≤ (IntKind.u64.wrap (wrap64 (64 - x0))) then (if 0 ≤ (wrap64 (x4 + 1)) then (if (wrap64 (x4 + 1)) < (ln (x5.set (x4 : Int).toNat (Go.bits .or .u64 (rd x5 x4) (shl .u64 (rd x2 x4) (IntKind.u64.wrap x0))))) then k117 x0 x1 x2 x3 (wrap64 (x4 + 1)) ((x5.set (x4 : Int).toNat (Go.bits .or .u64 (rd x5 x4) (shl .u64 (rd x2 x4) (IntKind.u64.wrap x0)))).set (wrap64 (x4 + 1) : Int).toNat (shr .u64 (rd x2 x4) (IntKind.u64.wrap (wrap64 (64 - x0))))) else none) else none) else none) else k117 x0 x1 x2 x3 (wrap64 (x4 + 1)) (x5.set (x4 : Int).toNat (Go.bits .or .u64 (rd x5 x4) (shl .u64 (rd x2 x4) (IntKind.u64.wrap x0))))) else k117 x0 x1 x2 x3 (wrap64 (x4 + 1)) (x5.set (x4 : Int).toNat (Go.bits .or .u64 (rd x5 x4) (shl .u64 (rd x2 x4) (IntKind.u64.wrap x0))))) else none) else none) else none) else none) else none) else none) else none) else some x5)
noncomputable def quot_raised.l117 (n : Nat) : Nat → Int → Int → List Int → Int → Int → List Int → Option (List Int)
  | 0, _, _, _, _, _, _ => none
  | m + 1, x0, x1, x2, x3, x4, x5 => quot_raised.b117 (quot_raised.l117 n m) x0 x1 x2 x3 x4 x5
noncomputable def quot_raised.f (n : Nat) (l0 : List Int) (a1 : Int) (a2 : Int) : Option (List Int) := quot_raised.b0 (quot_raised.l117 n n) l0 a1 a2
noncomputable def quot_raised.sg : Sig (List Int) := s1 (sOwn 22 .u64)
noncomputable def quot_raised.code : Code := (Tryd.f92.body).getD .skip
noncomputable def quot_raised.cfg : Cfg (List Int) := { T := tys, call := noCall }
noncomputable def quot_raised.cuts : List (Nat × List (Nat × Want)) := [(117, [(1, .keep), (2, .keep), (7, .keep), (12, .keep), (13, .keep), (14, .keep)])]
noncomputable def quot_raised.s117 (x0 : Int) (x1 : Int) (x2 : List Int) (x3 : Int) (x4 : Int) (x5 : List Int) : ASt := ⟨[(1, .int .i64 x0), (2, .int .i64 x1), (7, .own 0), (12, .ro .u64 x2), (13, .int .i64 x3), (14, .int .i64 x4)], [.ints 22 .u64 x5]⟩
noncomputable def quot_raised.A (n : Nat) (J : Nat → (ASt → Option (List Int)) → ASt → Option (List Int)) (q : Nat) (ms : List Nat) : ASt → Option (List Int) := acont (quot_raised.cfg) J quot_raised.cuts n q quot_raised.code 1 ms (aend (quot_raised.cfg) Tryd.f92.results.toList [true] quot_raised.sg.out)
theorem quot_raised.e0 (n : Nat) (J : Nat → (ASt → Option (List Int)) → ASt → Option (List Int)) (l0 : List Int) (a1 : Int) (a2 : Int) : afun (quot_raised.cfg) J quot_raised.cuts n quot_raised.code Tryd.f92.results.toList [true] [.ro .u64 l0, .int .i64 a1, .int .i64 a2] quot_raised.sg.out = quot_raised.b0 (fun y0 y1 y2 y3 y4 y5 => J 117 (quot_raised.A n J 117 [n]) (quot_raised.s117 y0 y1 y2 y3 y4 y5)) l0 a1 a2 := by kernel_rfl
theorem quot_raised.e117 (n : Nat) (J : Nat → (ASt → Option (List Int)) → ASt → Option (List Int)) (m : Nat) (x0 : Int) (x1 : Int) (x2 : List Int) (x3 : Int) (x4 : Int) (x5 : List Int) : quot_raised.A n J 117 [m + 1] (quot_raised.s117 x0 x1 x2 x3 x4 x5) = quot_raised.b117 (fun y0 y1 y2 y3 y4 y5 => J 117 (quot_raised.A n J 117 [m]) (quot_raised.s117 y0 y1 y2 y3 y4 y5)) x0 x1 x2 x3 x4 x5 := by kernel_rfl
theorem quot_raised.q117 (n : Nat) (m : Nat) : ∀ (x0 : Int) (x1 : Int) (x2 : List Int) (x3 : Int) (x4 : Int) (x5 : List Int), quot_raised.A n idJ 117 [m] (quot_raised.s117 x0 x1 x2 x3 x4 x5) = quot_raised.l117 n m x0 x1 x2 x3 x4 x5 := by
  induction m with
  | zero => intros; rfl
  | succ m ih =>
    intro x0 x1 x2 x3 x4 x5
    refine (quot_raised.e117 n idJ m x0 x1 x2 x3 x4 x5).trans ?_
    exact congrFun (congrFun (congrFun (congrFun (congrFun (congrFun (congrArg quot_raised.b117 (funext fun y0 => (funext fun y1 => (funext fun y2 => (funext fun y3 => (funext fun y4 => (funext fun y5 => ih y0 y1 y2 y3 y4 y5))))))) x0) x1) x2) x3) x4) x5
theorem quot_raised.eq (n : Nat) (l0 : List Int) (a1 : Int) (a2 : Int) : afun (quot_raised.cfg) idJ quot_raised.cuts n quot_raised.code Tryd.f92.results.toList [true] [.ro .u64 l0, .int .i64 a1, .int .i64 a2] quot_raised.sg.out = quot_raised.f n l0 a1 a2 := (quot_raised.e0 n idJ l0 a1 a2).trans (congrFun (congrFun (congrFun (congrArg quot_raised.b0 (funext fun y0 => (funext fun y1 => (funext fun y2 => (funext fun y3 => (funext fun y4 => (funext fun y5 => quot_raised.q117 n n y0 y1 y2 y3 y4 y5))))))) l0) a1) a2)
theorem quot_raised.ok {n : Nat} {l0 : List Int} {a1 : Int} {a2 : Int} {r : List Int} (h : quot_raised.f n l0 a1 a2 = some r) : CallD Tryd.prog HW 92 [.ro .u64 l0, .int .i64 a1, .int .i64 a2] (quot_raised.sg.enc r) :=
  fun_some hwS Tryd.func92 (by kernel_rfl) (body := quot_raised.code) (by kernel_rfl) tys_ok (c := quot_raised.cfg) noCall_ok noW_ok (by kernel_rfl) (by kernel_rfl) (Nat.le_of_ble_eq_true (by kernel_rfl)) ((quot_raised.eq n l0 a1 a2).trans h)
noncomputable def quot_raised.call {α : Type} (g : List Int → Int → Int → Option (List Int)) (ds : List D) (K : List D → Option α) : Option α := match ds with
  | [.ro .u64 l0, .int .i64 a1, .int .i64 a2] => (g l0 a1 a2).bind fun r => K (quot_raised.sg.enc r)
  | _ => none
theorem quot_raised.call_ok {α : Type} {n : Nat} (ds : List D) (K : List D → Option α) (r : α) (h : quot_raised.call (quot_raised.f n) ds K = some r) : ∃ rs, K rs = some r ∧ CallD Tryd.prog HW 92 ds rs := by
  unfold quot_raised.call at h
  split at h
  · obtain ⟨x, hx, hk⟩ := Option.bind_eq_some_iff.1 h
    exact ⟨_, hk, quot_raised.ok (n := n) hx⟩
  · cases h
/-! ### quot_guess: function 93 -/
noncomputable def quot_guess.b0 (c90 : Int → Int → Int → Option (Int × Int)) (l0 : List Int) (l1 : List Int) : Option (Int) := (if 0 ≤ (ln l1) then (if (ln l1) < (ln l0) then (if 0 ≤ (wrap64 ((ln l1) - 1)) then (if (wrap64 ((ln l1) - 1)) < (ln l1) then (if (rd l0 (ln l1)) ≥ (rd l1 (wrap64 ((ln l1) - 1))) then some 18446744073709551615 else (if 0 ≤ (ln l1) then (if (ln l1) < (ln l0) then (if 0 ≤ (wrap64 ((ln l1) - 1)) then (if (wrap64 ((ln l1) - 1)) < (ln l0) then (if 0 ≤ (wrap64 ((ln l1) - 1)) then (if (wrap64 ((ln l1) - 1)) < (ln l1) then ((c90 (rd l0 (ln l1)) (rd l0 (wrap64 ((ln l1) - 1))) (rd l1 (wrap64 ((ln l1) - 1)))).bind fun t1 => some t1.1) else none) else none) else none) else none) else none) else none)) else none) else none) else none) else none)
noncomputable def quot_guess.f (n : Nat) (l0 : List Int) (l1 : List Int) : Option (Int) := quot_guess.b0 (bits_Div64.f n) l0 l1
noncomputable def quot_guess.sg : Sig (Int) := s1 (sInt .u64)
noncomputable def quot_guess.code : Code := (Tryd.f93.body).getD .skip
noncomputable def quot_guess.cfg (c90 : Int → Int → Int → Option (Int × Int)) : Cfg (Int) := { T := tys, call := orCall 90 (bits_Div64.call c90) (noCall) }
noncomputable def quot_guess.cuts : List (Nat × List (Nat × Want)) := []
theorem quot_guess.e0 (c90 : Int → Int → Int → Option (Int × Int)) (n : Nat) (J : Nat → (ASt → Option (Int)) → ASt → Option (Int)) (l0 : List Int) (l1 : List Int) : afun (quot_guess.cfg c90) J quot_guess.cuts n quot_guess.code Tryd.f93.results.toList [false] [.ro .u64 l0, .ro .u64 l1] quot_guess.sg.out = quot_guess.b0 c90 l0 l1 := by kernel_rfl
theorem quot_guess.eq (n : Nat) (l0 : List Int) (l1 : List Int) : afun (quot_guess.cfg (bits_Div64.f n)) idJ quot_guess.cuts n quot_guess.code Tryd.f93.results.toList [false] [.ro .u64 l0, .ro .u64 l1] quot_guess.sg.out = quot_guess.f n l0 l1 := (quot_guess.e0 (bits_Div64.f n) n idJ l0 l1).trans (rfl)
theorem quot_guess.ok {n : Nat} {l0 : List Int} {l1 : List Int} {r : Int} (h : quot_guess.f n l0 l1 = some r) : CallD Tryd.prog HW 93 [.ro .u64 l0, .ro .u64 l1] (quot_guess.sg.enc r) :=
  fun_some hwS Tryd.func93 (by kernel_rfl) (body := quot_guess.code) (by kernel_rfl) tys_ok (c := quot_guess.cfg (bits_Div64.f n)) (orCall_ok (bits_Div64.call_ok (n := n)) noCall_ok) noW_ok (by kernel_rfl) (by kernel_rfl) (Nat.le_of_ble_eq_true (by kernel_rfl)) ((quot_guess.eq n l0 l1).trans h)
noncomputable def quot_guess.call {α : Type} (g : List Int → List Int → Option (Int)) (ds : List D) (K : List D → Option α) : Option α := match ds with
  | [.ro .u64 l0, .ro .u64 l1] => (g l0 l1).bind fun r => K (quot_guess.sg.enc r)
  | _ => none
theorem quot_guess.call_ok {α : Type} {n : Nat} (ds : List D) (K : List D → Option α) (r : α) (h : quot_guess.call (quot_guess.f n) ds K = some r) : ∃ rs, K rs = some r ∧ CallD Tryd.prog HW 93 ds rs := by
  unfold quot_guess.call at h
  split at h
  · obtain ⟨x, hx, hk⟩ := Option.bind_eq_some_iff.1 h
    exact ⟨_, hk, quot_guess.ok (n := n) hx⟩
  · cases h
/-! ### bits_Sub64: function 65 -/
def bits_Sub64.f (a0 : Int) (a1 : Int) (a2 : Int) : Option (Int × Int) := if 0 ≤ a0 ∧ 0 ≤ a1 ∧ a1 < 18446744073709551616 ∧ 0 ≤ a2 ∧ a2 ≤ 1 then some ((a0 - a1 - a2) % 18446744073709551616, if a0 < a1 + a2 then 1 else 0) else none
def bits_Sub64.sg : Sig (Int × Int) := s2 (sInt .u64) (s1 (sInt .u64))
theorem bits_Sub64.ok {a0 a1 a2 : Int} {r : Int × Int} (h : bits_Sub64.f a0 a1 a2 = some r) : CallD Tryd.prog HW 65 [.int .u64 a0, .int .u64 a1, .int .u64 a2] (bits_Sub64.sg.enc r) := by
  unfold bits_Sub64.f at h
  split at h
  · rename_i hh
    obtain rfl := Option.some.inj h
    exact calld_scal rfl rfl fun w _ => .inr ⟨_, _, run_sub64' Tryd.func65 (by kernel_rfl) (by kernel_rfl) (by kernel_rfl) (by kernel_rfl) a0 a1 a2 hh.1 hh.2.1 hh.2.2.1 hh.2.2.2.1 hh.2.2.2.2 w, rfl, rfl⟩
  · cases h
noncomputable def bits_Sub64.call {α : Type} (g : Int → Int → Int → Option (Int × Int)) (ds : List D) (K : List D → Option α) : Option α := match ds with
  | [.int .u64 a0, .int .u64 a1, .int .u64 a2] => (g a0 a1 a2).bind fun r => K (bits_Sub64.sg.enc r)
  | _ => none
theorem bits_Sub64.call_ok {α : Type} {n : Nat} (ds : List D) (K : List D → Option α) (r : α) (h : bits_Sub64.call bits_Sub64.f ds K = some r) : ∃ rs, K rs = some r ∧ CallD Tryd.prog HW 65 ds rs := by
  unfold bits_Sub64.call at h
  split at h
  · obtain ⟨x, hx, hk⟩ := Option.bind_eq_some_iff.1 h
    exact ⟨_, hk, bits_Sub64.ok hx⟩
  · cases h
/-! ### quot_takeOff: function 94 -/
noncomputable def quot_takeOff.b0 (c59 : Int → Int → Option (Int × Int)) (c65 : Int → Int → Int → Option (Int × Int)) (c69 : Int → Int → Int → Option (Int × Int)) (k117 : List Int → Int → Int → Int → Int → Int → List Int → Option (List Int × Bool)) (l0 : List Int) (l1 : List Int) (a2 : Int) : Option (List Int × Bool) := k117 l1 a2 0 0 0 (ln l1) l0
noncomputable def quot_takeOff.b15 (c59 : Int → Int → Option (Int × Int)) (c65 : Int → Int → Int → Option (Int × Int)) (c69 : Int → Int → Int → Option (Int × Int)) (x0 : List Int) (x1 : Int) (x2 : Int) (x3 : List Int) : Option (List Int × Bool) := (if 0 ≤ (ln x0) then (if (ln x0) < (ln x3) then ((c65 (rd x3 (ln x0)) x1 x2).bind fun t1 => (if 0 ≤ (ln x0) then (if (ln x0) < (ln x3) then some (x3.set ((ln x0) : Int).toNat t1.1, decide (¬ t1.2 = 0)) else none) else none)) else none) else none)
noncomputable def quot_takeOff.b117 (c59 : Int → Int → Option (Int × Int)) (c65 : Int → Int → Int → Option (Int × Int)) (c69 : Int → Int → Int → Option (Int × Int)) (k15 : List Int → Int → Int → List Int → Option (List Int × Bool)) (k117 : List Int → Int → Int → Int → Int → Int → List Int → Option (List Int × Bool)) (x0 : List Int) (x1 : Int) (x2 : Int) (x3 : Int) (x4 : Int) (x5 : Int) (x6 : List Int) : Option (List Int × Bool) := (if x4 < x5 then (if 0 ≤ x4 then (if x4 < (ln x0) then ((c59 x1 (rd x0 x4)).bind fun t1 => ((c69 t1.2 x2 0).bind fun t2 => (if 0 ≤ x4 then (if x4 < (ln x6) then ((c65 (rd x6 x4) t2.1 x3).bind fun t3 => (if 0 ≤ x4 then (if x4 < (ln x6) then k117 x0 x1 (IntKind.u64.wrap (t1.1 + t2.2)) t3.2 (wrap64 (x4 + 1)) x5 (x6.set (x4 : Int).toNat t3.1) else none) else none)) else none) else none))) else none) else none) else k15 x0 x2 x3 x6)
noncomputable def quot_takeOff.l15 (n : Nat) (x0 : List Int) (x1 : Int) (x2 : Int) (x3 : List Int) : Option (List Int × Bool) := quot_takeOff.b15 bits_Mul64.f bits_Sub64.f bits_Add64.f x0 x1 x2 x3
noncomputable def quot_takeOff.l117 (n : Nat) : Nat → List Int → Int → Int → Int → Int → Int → List Int → Option (List Int × Bool)
  | 0, _, _, _, _, _, _, _ => none
  | m + 1, x0, x1, x2, x3, x4, x5, x6 => quot_takeOff.b117 bits_Mul64.f bits_Sub64.f bits_Add64.f (quot_takeOff.l15 n) (quot_takeOff.l117 n m) x0 x1 x2 x3 x4 x5 x6
noncomputable def quot_takeOff.f (n : Nat) (l0 : List Int) (l1 : List Int) (a2 : Int) : Option (List Int × Bool) := quot_takeOff.b0 bits_Mul64.f bits_Sub64.f bits_Add64.f (quot_takeOff.l117 n n) l0 l1 a2
noncomputable def quot_takeOff.sg : Sig (Bool) := s1 (sBool)
noncomputable def quot_takeOff.code : Code := (Tryd.f94.body).getD .skip
noncomputable def quot_takeOff.cfg (c59 : Int → Int → Option (Int × Int)) (c65 : Int → Int → Int → Option (Int × Int)) (c69 : Int → Int → Int → Option (Int × Int)) : Cfg (List Int × Bool) := { T := tys, call := orCall 59 (bits_Mul64.call c59) (orCall 65 (bits_Sub64.call c65) (orCall 69 (bits_Add64.call c69) (noCall))) }
noncomputable def quot_takeOff.cuts : List (Nat × List (Nat × Want)) := [(15, [(0, .keep), (1, .keep), (7, .keep), (8, .keep)]), (117, [(0, .keep), (1, .keep), (2, .keep), (7, .keep), (8, .keep), (14, .keep), (15, .keep), (16, .keep)])]
noncomputable def quot_takeOff.s15 (x0 : List Int) (x1 : Int) (x2 : Int) (x3 : List Int) : ASt := ⟨[(0, .own 0), (1, .ro .u64 x0), (7, .int .u64 x1), (8, .int .u64 x2)], [.bor .u64 x3]⟩
noncomputable def quot_takeOff.s117 (x0 : List Int) (x1 : Int) (x2 : Int) (x3 : Int) (x4 : Int) (x5 : Int) (x6 : List Int) : ASt := ⟨[(0, .own 0), (1, .ro .u64 x0), (2, .int .u64 x1), (7, .int .u64 x2), (8, .int .u64 x3), (14, .ro .u64 x0), (15, .int .i64 x5), (16, .int .i64 x4)], [.bor .u64 x6]⟩
noncomputable def quot_takeOff.A (c59 : Int → Int → Option (Int × Int)) (c65 : Int → Int → Int → Option (Int × Int)) (c69 : Int → Int → Int → Option (Int × Int)) (n : Nat) (J : Nat → (ASt → Option (List Int × Bool)) → ASt → Option (List Int × Bool)) (q : Nat) (ms : List Nat) : ASt → Option (List Int × Bool) := acont (quot_takeOff.cfg c59 c65 c69) J quot_takeOff.cuts n q quot_takeOff.code 1 ms (aendw (quot_takeOff.cfg c59 c65 c69) Tryd.f94.results.toList (sgw quot_takeOff.sg))
theorem quot_takeOff.e0 (c59 : Int → Int → Option (Int × Int)) (c65 : Int → Int → Int → Option (Int × Int)) (c69 : Int → Int → Int → Option (Int × Int)) (n : Nat) (J : Nat → (ASt → Option (List Int × Bool)) → ASt → Option (List Int × Bool)) (l0 : List Int) (l1 : List Int) (a2 : Int) : afunw (quot_takeOff.cfg c59 c65 c69) J quot_takeOff.cuts n quot_takeOff.code Tryd.f94.results.toList l0 [.ro .u64 l1, .int .u64 a2] (sgw quot_takeOff.sg) = quot_takeOff.b0 c59 c65 c69 (fun y0 y1 y2 y3 y4 y5 y6 => J 117 (quot_takeOff.A c59 c65 c69 n J 117 [n]) (quot_takeOff.s117 y0 y1 y2 y3 y4 y5 y6)) l0 l1 a2 := by kernel_rfl
theorem quot_takeOff.e15 (c59 : Int → Int → Option (Int × Int)) (c65 : Int → Int → Int → Option (Int × Int)) (c69 : Int → Int → Int → Option (Int × Int)) (n : Nat) (J : Nat → (ASt → Option (List Int × Bool)) → ASt → Option (List Int × Bool)) (x0 : List Int) (x1 : Int) (x2 : Int) (x3 : List Int) : quot_takeOff.A c59 c65 c69 n J 15 [] (quot_takeOff.s15 x0 x1 x2 x3) = quot_takeOff.b15 c59 c65 c69 x0 x1 x2 x3 := by kernel_rfl
theorem quot_takeOff.e117 (c59 : Int → Int → Option (Int × Int)) (c65 : Int → Int → Int → Option (Int × Int)) (c69 : Int → Int → Int → Option (Int × Int)) (n : Nat) (J : Nat → (ASt → Option (List Int × Bool)) → ASt → Option (List Int × Bool)) (m : Nat) (x0 : List Int) (x1 : Int) (x2 : Int) (x3 : Int) (x4 : Int) (x5 : Int) (x6 : List Int) : quot_takeOff.A c59 c65 c69 n J 117 [m + 1] (quot_takeOff.s117 x0 x1 x2 x3 x4 x5 x6) = quot_takeOff.b117 c59 c65 c69 (fun y0 y1 y2 y3 => J 15 (quot_takeOff.A c59 c65 c69 n J 15 []) (quot_takeOff.s15 y0 y1 y2 y3)) (fun y0 y1 y2 y3 y4 y5 y6 => J 117 (quot_takeOff.A c59 c65 c69 n J 117 [m]) (quot_takeOff.s117 y0 y1 y2 y3 y4 y5 y6)) x0 x1 x2 x3 x4 x5 x6 := by kernel_rfl
theorem quot_takeOff.q15 (n : Nat) (x0 : List Int) (x1 : Int) (x2 : Int) (x3 : List Int) : quot_takeOff.A bits_Mul64.f bits_Sub64.f bits_Add64.f n idJ 15 [] (quot_takeOff.s15 x0 x1 x2 x3) = quot_takeOff.l15 n x0 x1 x2 x3 := (quot_takeOff.e15 bits_Mul64.f bits_Sub64.f bits_Add64.f n idJ x0 x1 x2 x3).trans (rfl)
theorem quot_takeOff.q117 (n : Nat) (m : Nat) : ∀ (x0 : List Int) (x1 : Int) (x2 : Int) (x3 : Int) (x4 : Int) (x5 : Int) (x6 : List Int), quot_takeOff.A bits_Mul64.f bits_Sub64.f bits_Add64.f n idJ 117 [m] (quot_takeOff.s117 x0 x1 x2 x3 x4 x5 x6) = quot_takeOff.l117 n m x0 x1 x2 x3 x4 x5 x6 := by
  induction m with
  | zero => intros; rfl
  | succ m ih =>
    intro x0 x1 x2 x3 x4 x5 x6
    refine (quot_takeOff.e117 bits_Mul64.f bits_Sub64.f bits_Add64.f n idJ m x0 x1 x2 x3 x4 x5 x6).trans ?_
    exact congrFun (congrFun (congrFun (congrFun (congrFun (congrFun (congrFun (congr (congrArg (quot_takeOff.b117 bits_Mul64.f bits_Sub64.f bits_Add64.f) (funext fun y0 => (funext fun y1 => (funext fun y2 => (funext fun y3 => quot_takeOff.q15 n y0 y1 y2 y3))))) (funext fun y0 => (funext fun y1 => (funext fun y2 => (funext fun y3 => (funext fun y4 => (funext fun y5 => (funext fun y6 => ih y0 y1 y2 y3 y4 y5 y6)))))))) x0) x1) x2) x3) x4) x5) x6
theorem quot_takeOff.eq (n : Nat) (l0 : List Int) (l1 : List Int) (a2 : Int) : afunw (quot_takeOff.cfg bits_Mul64.f bits_Sub64.f bits_Add64.f) idJ quot_takeOff.cuts n quot_takeOff.code Tryd.f94.results.toList l0 [.ro .u64 l1, .int .u64 a2] (sgw quot_takeOff.sg) = quot_takeOff.f n l0 l1 a2 := (quot_takeOff.e0 bits_Mul64.f bits_Sub64.f bits_Add64.f n idJ l0 l1 a2).trans (congrFun (congrFun (congrFun (congrArg (quot_takeOff.b0 bits_Mul64.f bits_Sub64.f bits_Add64.f) (funext fun y0 => (funext fun y1 => (funext fun y2 => (funext fun y3 => (funext fun y4 => (funext fun y5 => (funext fun y6 => quot_takeOff.q117 n n y0 y1 y2 y3 y4 y5 y6)))))))) l0) l1) a2)
theorem quot_takeOff.ok {n : Nat} {l0 : List Int} {l1 : List Int} {a2 : Int} {r : List Int × Bool} (h : quot_takeOff.f n l0 l1 a2 = some r) : CallW Tryd.prog HW 94 l0 [.ro .u64 l1, .int .u64 a2] r.1 (quot_takeOff.sg.enc r.2) :=
  funw_some Tryd.func94 (by kernel_rfl) (body := quot_takeOff.code) (by kernel_rfl) tys_ok (c := quot_takeOff.cfg bits_Mul64.f bits_Sub64.f bits_Add64.f) (orCall_ok (bits_Mul64.call_ok (n := n)) (orCall_ok (bits_Sub64.call_ok (n := n)) (orCall_ok (bits_Add64.call_ok (n := n)) noCall_ok))) noW_ok (by kernel_rfl) (by kernel_rfl) (Nat.le_of_ble_eq_true (by kernel_rfl)) ((quot_takeOff.eq n l0 l1 a2).trans h)
noncomputable def quot_takeOff.call {α : Type} (g : List Int → List Int → Int → Option (List Int × Bool)) (l0 : List Int) (ds : List D) (K : List Int → List D → Option α) : Option α := match ds with
  | [.ro .u64 l1, .int .u64 a2] => (g l0 l1 a2).bind fun r => K r.1 (quot_takeOff.sg.enc r.2)
  | _ => none
theorem quot_takeOff.call_ok {α : Type} {n : Nat} (l : List Int) (ds : List D) (K : List Int → List D → Option α) (r : α) (h : quot_takeOff.call (quot_takeOff.f n) l ds K = some r) : ∃ l' rs, K l' rs = some r ∧ CallW Tryd.prog HW 94 l ds l' rs := by
  unfold quot_takeOff.call at h
  split at h
  · obtain ⟨x, hx, hk⟩ := Option.bind_eq_some_iff.1 h
    exact ⟨_, _, hk, quot_takeOff.ok (n := n) hx⟩
  · cases h
/-! ### quot_putBack: function 95 -/
noncomputable def quot_putBack.b0 (c69 : Int → Int → Int → Option (Int × Int)) (k117 : List Int → Int → Int → Int → List Int → Option (List Int × Bool)) (l0 : List Int) (l1 : List Int) : Option (List Int × Bool) := k117 l1 0 0 (ln l1) l0
noncomputable def quot_putBack.b15 (c69 : Int → Int → Int → Option (Int × Int)) (x0 : List Int) (x1 : Int) (x2 : List Int) : Option (List Int × Bool) := (if 0 ≤ (ln x0) then (if (ln x0) < (ln x2) then ((c69 (rd x2 (ln x0)) 0 x1).bind fun t1 => (if 0 ≤ (ln x0) then (if (ln x0) < (ln x2) then some (x2.set ((ln x0) : Int).toNat t1.1, decide (¬ t1.2 = 0)) else none) else none)) else none) else none)
noncomputable def quot_putBack.b117 (c69 : Int → Int → Int → Option (Int × Int)) (k15 : List Int → Int → List Int → Option (List Int × Bool)) (k117 : List Int → Int → Int → Int → List Int → Option (List Int × Bool)) (x0 : List Int) (x1 : Int) (x2 : Int) (x3 : Int) (x4 : List Int) : Option (List Int × Bool) := (if x2 < x3 then (if 0 ≤ x2 then (if x2 < (ln x0) then (if 0 ≤ x2 then (if x2 < (ln x4) then ((c69 (rd x4 x2) (rd x0 x2) x1).bind fun t1 => (if 0 ≤ x2 then (if x2 < (ln x4) then k117 x0 t1.2 (wrap64 (x2 + 1)) x3 (x4.set (x2 : Int).toNat t1.1) else none) else none)) else none) else none) else none) else none) else k15 x0 x1 x4)
noncomputable def quot_putBack.l15 (n : Nat) (x0 : List Int) (x1 : Int) (x2 : List Int) : Option (List Int × Bool) := quot_putBack.b15 bits_Add64.f x0 x1 x2
noncomputable def quot_putBack.l117 (n : Nat) : Nat → List Int → Int → Int → Int → List Int → Option (List Int × Bool)
  | 0, _, _, _, _, _ => none
  | m + 1, x0, x1, x2, x3, x4 => quot_putBack.b117 bits_Add64.f (quot_putBack.l15 n) (quot_putBack.l117 n m) x0 x1 x2 x3 x4
noncomputable def quot_putBack.f (n : Nat) (l0 : List Int) (l1 : List Int) : Option (List Int × Bool) := quot_putBack.b0 bits_Add64.f (quot_putBack.l117 n n) l0 l1
noncomputable def quot_putBack.sg : Sig (Bool) := s1 (sBool)
noncomputable def quot_putBack.code : Code := (Tryd.f95.body).getD .skip
noncomputable def quot_putBack.cfg (c69 : Int → Int → Int → Option (Int × Int)) : Cfg (List Int × Bool) := { T := tys, call := orCall 69 (bits_Add64.call c69) (noCall) }
noncomputable def quot_putBack.cuts : List (Nat × List (Nat × Want)) := [(15, [(0, .keep), (1, .keep), (5, .keep)]), (117, [(0, .keep), (1, .keep), (5, .keep), (8, .keep), (9, .keep), (10, .keep)])]
noncomputable def quot_putBack.s15 (x0 : List Int) (x1 : Int) (x2 : List Int) : ASt := ⟨[(0, .own 0), (1, .ro .u64 x0), (5, .int .u64 x1)], [.bor .u64 x2]⟩
noncomputable def quot_putBack.s117 (x0 : List Int) (x1 : Int) (x2 : Int) (x3 : Int) (x4 : List Int) : ASt := ⟨[(0, .own 0), (1, .ro .u64 x0), (5, .int .u64 x1), (8, .ro .u64 x0), (9, .int .i64 x3), (10, .int .i64 x2)], [.bor .u64 x4]⟩
noncomputable def quot_putBack.A (c69 : Int → Int → Int → Option (Int × Int)) (n : Nat) (J : Nat → (ASt → Option (List Int × Bool)) → ASt → Option (List Int × Bool)) (q : Nat) (ms : List Nat) : ASt → Option (List Int × Bool) := acont (quot_putBack.cfg c69) J quot_putBack.cuts n q quot_putBack.code 1 ms (aendw (quot_putBack.cfg c69) Tryd.f95.results.toList (sgw quot_putBack.sg))
theorem quot_putBack.e0 (c69 : Int → Int → Int → Option (Int × Int)) (n : Nat) (J : Nat → (ASt → Option (List Int × Bool)) → ASt → Option (List Int × Bool)) (l0 : List Int) (l1 : List Int) : afunw (quot_putBack.cfg c69) J quot_putBack.cuts n quot_putBack.code Tryd.f95.results.toList l0 [.ro .u64 l1] (sgw quot_putBack.sg) = quot_putBack.b0 c69 (fun y0 y1 y2 y3 y4 => J 117 (quot_putBack.A c69 n J 117 [n]) (quot_putBack.s117 y0 y1 y2 y3 y4)) l0 l1 := by kernel_rfl
theorem quot_putBack.e15 (c69 : Int → Int → Int → Option (Int × Int)) (n : Nat) (J : Nat → (ASt → Option (List Int × Bool)) → ASt → Option (List Int × Bool)) (x0 : List Int) (x1 : Int) (x2 : List Int) : quot_putBack.A c69 n J 15 [] (quot_putBack.s15 x0 x1 x2) = quot_putBack.b15 c69 x0 x1 x2 := by kernel_rfl
theorem quot_putBack.e117 (c69 : Int → Int → Int → Option (Int × Int)) (n : Nat) (J : Nat → (ASt → Option (List Int × Bool)) → ASt → Option (List Int × Bool)) (m : Nat) (x0 : List Int) (x1 : Int) (x2 : Int) (x3 : Int) (x4 : List Int) : quot_putBack.A c69 n J 117 [m + 1] (quot_putBack.s117 x0 x1 x2 x3 x4) = quot_putBack.b117 c69 (fun y0 y1 y2 => J 15 (quot_putBack.A c69 n J 15 []) (quot_putBack.s15 y0 y1 y2)) (fun y0 y1 y2 y3 y4 => J 117 (quot_putBack.A c69 n J 117 [m]) (quot_putBack.s117 y0 y1 y2 y3 y4)) x0 x1 x2 x3 x4 := by kernel_rfl
theorem quot_putBack.q15 (n : Nat) (x0 : List Int) (x1 : Int) (x2 : List Int) : quot_putBack.A bits_Add64.f n idJ 15 [] (quot_putBack.s15 x0 x1 x2) = quot_putBack.l15 n x0 x1 x2 := (quot_putBack.e15 bits_Add64.f n idJ x0 x1 x2).trans (rfl)
theorem quot_putBack.q117 (n : Nat) (m : Nat) : ∀ (x0 : List Int) (x1 : Int) (x2 : Int) (x3 : Int) (x4 : List Int), quot_putBack.A bits_Add64.f n idJ 117 [m] (quot_putBack.s117 x0 x1 x2 x3 x4) = quot_putBack.l117 n m x0 x1 x2 x3 x4 := by
  induction m with
  | zero => intros; rfl
  | succ m ih =>
    intro x0 x1 x2 x3 x4
    refine (quot_putBack.e117 bits_Add64.f n idJ m x0 x1 x2 x3 x4).trans ?_
    exact congrFun (congrFun (congrFun (congrFun (congrFun (congr (congrArg (quot_putBack.b117 bits_Add64.f) (funext fun y0 => (funext fun y1 => (funext fun y2 => quot_putBack.q15 n y0 y1 y2)))) (funext fun y0 => (funext fun y1 => (funext fun y2 => (funext fun y3 => (funext fun y4 => ih y0 y1 y2 y3 y4)))))) x0) x1) x2) x3) x4
theorem quot_putBack.eq (n : Nat) (l0 : List Int) (l1 : List Int) : afunw (quot_putBack.cfg bits_Add64.f) idJ quot_putBack.cuts n quot_putBack.code Tryd.f95.results.toList l0 [.ro .u64 l1] (sgw quot_putBack.sg) = quot_putBack.f n l0 l1 := (quot_putBack.e0 bits_Add64.f n idJ l0 l1).trans (congrFun (congrFun (congrArg (quot_putBack.b0 bits_Add64.f) (funext fun y0 => (funext fun y1 => (funext fun y2 => (funext fun y3 => (funext fun y4 => quot_putBack.q117 n n y0 y1 y2 y3 y4)))))) l0) l1)
theorem quot_putBack.ok {n : Nat} {l0 : List Int} {l1 : List Int} {r : List Int × Bool} (h : quot_putBack.f n l0 l1 = some r) : CallW Tryd.prog HW 95 l0 [.ro .u64 l1] r.1 (quot_putBack.sg.enc r.2) :=
  funw_some Tryd.func95 (by kernel_rfl) (body := quot_putBack.code) (by kernel_rfl) tys_ok (c := quot_putBack.cfg bits_Add64.f) (orCall_ok (bits_Add64.call_ok (n := n)) noCall_ok) noW_ok (by kernel_rfl) (by kernel_rfl) (Nat.le_of_ble_eq_true (by kernel_rfl)) ((quot_putBack.eq n l0 l1).trans h)
noncomputable def quot_putBack.call {α : Type} (g : List Int → List Int → Option (List Int × Bool)) (l0 : List Int) (ds : List D) (K : List Int → List D → Option α) : Option α := match ds with
  | [.ro .u64 l1] => (g l0 l1).bind fun r => K r.1 (quot_putBack.sg.enc r.2)
  | _ => none
theorem quot_putBack.call_ok {α : Type} {n : Nat} (l : List Int) (ds : List D) (K : List Int → List D → Option α) (r : α) (h : quot_putBack.call (quot_putBack.f n) l ds K = some r) : ∃ l' rs, K l' rs = some r ∧ CallW Tryd.prog HW 95 l ds l' rs := by
  unfold quot_putBack.call at h
  split at h
  · obtain ⟨x, hx, hk⟩ := Option.bind_eq_some_iff.1 h
    exact ⟨_, _, hk, quot_putBack.ok (n := n) hx⟩
  · cases h
/-! ### quot_long: function 68 -/
noncomputable def quot_long.b0 (c17 : List Int → Int → Option (List Int × Bool × Int)) (c87 : List Int → Option (List Int)) (c91 : Int → Option (Int)) (c92 : List Int → Int → Int → Option (List Int)) (c93 : List Int → List Int → Option (Int)) (c94 : List Int → List Int → Int → Option (List Int × Bool)) (c95 : List Int → List Int → Option (List Int × Bool)) (k7157 : Int → Int → Int → List Int → List Int → List Int → Option (List Int × List Int)) (l0 : List Int) (l1 : List Int) : Option (List Int × List Int) := (if 0 ≤ (wrap64 ((ln l1) - 1)) then (if (wrap64 ((ln l1) - 1)) < (ln l1) then ((c91 (rd l1 (wrap64 ((ln l1) - 1)))).bind fun t1 => ((c92 l1 t1 (ln l1)).bind fun t2 => ((c92 l0 t1 (wrap64 ((ln l0) + 1))).bind fun t3 => (if 0 ≤ (wrap64 ((wrap64 ((ln l0) - (ln l1))) + 1)) then (if (wrap64 ((wrap64 ((ln l0) - (ln l1))) + 1)).toNat ≤ 35184372088832 then k7157 (ln l1) t1 (wrap64 ((ln (List.replicate (wrap64 ((wrap64 ((ln l0) - (ln l1))) + 1)).toNat (0 : Int))) - 1)) t2 t3 (List.replicate (wrap64 ((wrap64 ((ln l0) - (ln l1))) + 1)).toNat (0 : Int)) else none) else none)))) else none) else none)
noncomputable def quot_long.b895 (c17 : List Int → Int → Option (List Int × Bool × Int)) (c87 : List Int → Option (List Int)) (c91 : Int → Option (Int)) (c92 : List Int → Int → Int → Option (List Int)) (c93 : List Int → List Int → Option (Int)) (c94 : List Int → List Int → Int → Option (List Int × Bool)) (c95 : List Int → List Int → Option (List Int × Bool)) (x0 : Int) (x1 : Int) (x2 : List Int) (x3 : List Int) : Option (List Int × List Int) := (if 0 ≤ x0 then (if x0 ≤ (ln x2) then ((c17 ((x2.take (x0 : Int).toNat).drop 0) x1).bind fun t1 => ((c87 x3).bind fun t2 => some (t2, t1.1))) else none) else none)
noncomputable def quot_long.b7157 (c17 : List Int → Int → Option (List Int × Bool × Int)) (c87 : List Int → Option (List Int)) (c91 : Int → Option (Int)) (c92 : List Int → Int → Int → Option (List Int)) (c93 : List Int → List Int → Option (Int)) (c94 : List Int → List Int → Int → Option (List Int × Bool)) (c95 : List Int → List Int → Option (List Int × Bool)) (k895 : Int → Int → List Int → List Int → Option (List Int × List Int)) (k1832093 : Int → Int → Int → Int → Int → Bool → List Int → List Int → List Int → Option (List Int × List Int)) (x0 : Int) (x1 : Int) (x2 : Int) (x3 : List Int) (x4 : List Int) (x5 : List Int) : Option (List Int × List Int) := (if x2 ≥ 0 then (if 0 ≤ (wrap64 ((wrap64 (x2 + x0)) + 1)) then (if (wrap64 ((wrap64 (x2 + x0)) + 1)) ≤ (ln x4) then (if 0 ≤ x2 then (if x2 ≤ (wrap64 ((wrap64 (x2 + x0)) + 1)) then ((c93 ((x4.take (wrap64 ((wrap64 (x2 + x0)) + 1) : Int).toNat).drop (x2 : Int).toNat) x3).bind fun t1 => (if x2 < (wrap64 ((wrap64 (x2 + x0)) + 1)) then ((c94 ((x4.take (wrap64 ((wrap64 (x2 + x0)) + 1) : Int).toNat).drop (x2 : Int).toNat) x3 t1).bind fun t2 => k1832093 x0 x1 x2 (wrap64 ((wrap64 (x2 + x0)) + 1)) t1 t2.2 x3 (x4.take (x2 : Int).toNat ++ t2.1 ++ x4.drop (wrap64 ((wrap64 (x2 + x0)) + 1) : Int).toNat) x5) else none)) else none) else none) else none) else none) else k895 x0 x1 x4 x5)
noncomputable def quot_long.b1832093 (c17 : List Int → Int → Option (List Int × Bool × Int)) (c87 : List Int → Option (List Int)) (c91 : Int → Option (Int)) (c92 : List Int → Int → Int → Option (List Int)) (c93 : List Int → List Int → Option (Int)) (c94 : List Int → List Int → Int → Option (List Int × Bool)) (c95 : List Int → List Int → Option (List Int × Bool)) (k7157 : Int → Int → Int → List Int → List Int → List Int → Option (List Int × List Int)) (k1832093 : Int → Int → Int → Int → Int → Bool → List Int → List Int → List Int → Option (List Int × List Int)) (x0 : Int) (x1 : Int) (x2 : Int) (x3 : Int) (x4 : Int) (x5 : Bool) (x6 : List Int) (x7 : List Int) (x8 : List Int) : Option (List Int × List Int) := (if (!x5) = true then (if 0 ≤ x2 then (if x2 < (ln x8) then k7157 x0 x1 (wrap64 (x2 - 1)) x6 x7 (x8.set (x2 : Int).toNat x4) else none) else none) else (if x2 < x3 then ((c95 ((x7.take (x3 : Int).toNat).drop (x2 : Int).toNat) x6).bind fun t1 => k1832093 x0 x1 x2 x3 (IntKind.u64.wrap (x4 - 1)) (!t1.2) x6 (x7.take (x2 : Int).toNat ++ t1.1 ++ x7.drop (x3 : Int).toNat) x8) else none))
noncomputable def quot_long.l895 (n : Nat) (x0 : Int) (x1 : Int) (x2 : List Int) (x3 : List Int) : Option (List Int × List Int) := quot_long.b895 (nat_Shr.f n) (nat_Trim.f n) bits_LeadingZeros64.f (quot_raised.f n) (quot_guess.f n) (quot_takeOff.f n) (quot_putBack.f n) x0 x1 x2 x3
noncomputable def quot_long.l1832093 (n : Nat) (k7157 : Int → Int → Int → List Int → List Int → List Int → Option (List Int × List Int)) : Nat → Int → Int → Int → Int → Int → Bool → List Int → List Int → List Int → Option (List Int × List Int)
  | 0, _, _, _, _, _, _, _, _, _ => none
  | m + 1, x0, x1, x2, x3, x4, x5, x6, x7, x8 => quot_long.b1832093 (nat_Shr.f n) (nat_Trim.f n) bits_LeadingZeros64.f (quot_raised.f n) (quot_guess.f n) (quot_takeOff.f n) (quot_putBack.f n) k7157 (quot_long.l1832093 n k7157 m) x0 x1 x2 x3 x4 x5 x6 x7 x8
noncomputable def quot_long.l7157 (n : Nat) : Nat → Int → Int → Int → List Int → List Int → List Int → Option (List Int × List Int)
  | 0, _, _, _, _, _, _ => none
  | m + 1, x0, x1, x2, x3, x4, x5 => quot_long.b7157 (nat_Shr.f n) (nat_Trim.f n) bits_LeadingZeros64.f (quot_raised.f n) (quot_guess.f n) (quot_takeOff.f n) (quot_putBack.f n) (quot_long.l895 n) (quot_long.l1832093 n (quot_long.l7157 n m) n) x0 x1 x2 x3 x4 x5
noncomputable def quot_long.f (n : Nat) (l0 : List Int) (l1 : List Int) : Option (List Int × List Int) := quot_long.b0 (nat_Shr.f n) (nat_Trim.f n) bits_LeadingZeros64.f (quot_raised.f n) (quot_guess.f n) (quot_takeOff.f n) (quot_putBack.f n) (quot_long.l7157 n n) l0 l1
noncomputable def quot_long.sg : Sig (List Int × List Int) := s2 (sRow .u64) (s1 (sRow .u64))
noncomputable def quot_long.code : Code := (Tryd.f68.body).getD .skip
noncomputable def quot_long.cfg (c17 : List Int → Int → Option (List Int × Bool × Int)) (c87 : List Int → Option (List Int)) (c91 : Int → Option (Int)) (c92 : List Int → Int → Int → Option (List Int)) (c93 : List Int → List Int → Option (Int)) (c94 : List Int → List Int → Int → Option (List Int × Bool)) (c95 : List Int → List Int → Option (List Int × Bool)) : Cfg (List Int × List Int) := { T := tys, call := orCall 17 (nat_Shr.call c17) (orCall 87 (nat_Trim.call c87) (orCall 91 (bits_LeadingZeros64.call c91) (orCall 92 (quot_raised.call c92) (orCall 93 (quot_guess.call c93) (noCall))))), win := true, wr := [94, 95], callw := orW 94 (quot_takeOff.call c94) (orW 95 (quot_putBack.call c95) (noW)) }
noncomputable def quot_long.cuts : List (Nat × List (Nat × Want)) := [(895, [(6, .keep), (7, .keep), (9, .keep), (10, .keep)]), (7157, [(6, .keep), (7, .keep), (8, .keep), (9, .keep), (10, .keep), (11, .keep)]), (1832093, [(6, .keep), (7, .keep), (8, .keep), (9, .keep), (10, .keep), (11, .keep), (12, .keep), (13, .keep), (14, .keep)])]
noncomputable def quot_long.s895 (x0 : Int) (x1 : Int) (x2 : List Int) (x3 : List Int) : ASt := ⟨[(6, .int .i64 x0), (7, .int .i64 x1), (9, .own 0), (10, .own 1)], [.ints 22 .u64 x2, .ints 22 .u64 x3]⟩
noncomputable def quot_long.s7157 (x0 : Int) (x1 : Int) (x2 : Int) (x3 : List Int) (x4 : List Int) (x5 : List Int) : ASt := ⟨[(6, .int .i64 x0), (7, .int .i64 x1), (8, .own 0), (9, .own 1), (10, .own 2), (11, .int .i64 x2)], [.ints 22 .u64 x3, .ints 22 .u64 x4, .ints 22 .u64 x5]⟩
noncomputable def quot_long.s1832093 (x0 : Int) (x1 : Int) (x2 : Int) (x3 : Int) (x4 : Int) (x5 : Bool) (x6 : List Int) (x7 : List Int) (x8 : List Int) : ASt := ⟨[(6, .int .i64 x0), (7, .int .i64 x1), (8, .own 0), (9, .own 1), (10, .own 2), (11, .int .i64 x2), (12, .win 1 x2 x3), (13, .int .u64 x4), (14, .bool x5)], [.ints 22 .u64 x6, .ints 22 .u64 x7, .ints 22 .u64 x8]⟩
noncomputable def quot_long.A (c17 : List Int → Int → Option (List Int × Bool × Int)) (c87 : List Int → Option (List Int)) (c91 : Int → Option (Int)) (c92 : List Int → Int → Int → Option (List Int)) (c93 : List Int → List Int → Option (Int)) (c94 : List Int → List Int → Int → Option (List Int × Bool)) (c95 : List Int → List Int → Option (List Int × Bool)) (n : Nat) (J : Nat → (ASt → Option (List Int × List Int)) → ASt → Option (List Int × List Int)) (q : Nat) (ms : List Nat) : ASt → Option (List Int × List Int) := acont (quot_long.cfg c17 c87 c91 c92 c93 c94 c95) J quot_long.cuts n q quot_long.code 1 ms (aend (quot_long.cfg c17 c87 c91 c92 c93 c94 c95) Tryd.f68.results.toList [false, false] quot_long.sg.out)
theorem quot_long.e0 (c17 : List Int → Int → Option (List Int × Bool × Int)) (c87 : List Int → Option (List Int)) (c91 : Int → Option (Int)) (c92 : List Int → Int → Int → Option (List Int)) (c93 : List Int → List Int → Option (Int)) (c94 : List Int → List Int → Int → Option (List Int × Bool)) (c95 : List Int → List Int → Option (List Int × Bool)) (n : Nat) (J : Nat → (ASt → Option (List Int × List Int)) → ASt → Option (List Int × List Int)) (l0 : List Int) (l1 : List Int) : afun (quot_long.cfg c17 c87 c91 c92 c93 c94 c95) J quot_long.cuts n quot_long.code Tryd.f68.results.toList [false, false] [.ro .u64 l0, .ro .u64 l1] quot_long.sg.out = quot_long.b0 c17 c87 c91 c92 c93 c94 c95 (fun y0 y1 y2 y3 y4 y5 => J 7157 (quot_long.A c17 c87 c91 c92 c93 c94 c95 n J 7157 [n]) (quot_long.s7157 y0 y1 y2 y3 y4 y5)) l0 l1 := by kernel_rfl
theorem quot_long.e895 (c17 : List Int → Int → Option (List Int × Bool × Int)) (c87 : List Int → Option (List Int)) (c91 : Int → Option (Int)) (c92 : List Int → Int → Int → Option (List Int)) (c93 : List Int → List Int → Option (Int)) (c94 : List Int → List Int → Int → Option (List Int × Bool)) (c95 : List Int → List Int → Option (List Int × Bool)) (n : Nat) (J : Nat → (ASt → Option (List Int × List Int)) → ASt → Option (List Int × List Int)) (x0 : Int) (x1 : Int) (x2 : List Int) (x3 : List Int) : quot_long.A c17 c87 c91 c92 c93 c94 c95 n J 895 [] (quot_long.s895 x0 x1 x2 x3) = quot_long.b895 c17 c87 c91 c92 c93 c94 c95 x0 x1 x2 x3 := by kernel_rfl
theorem quot_long.e7157 (c17 : List Int → Int → Option (List Int × Bool × Int)) (c87 : List Int → Option (List Int)) (c91 : Int → Option (Int)) (c92 : List Int → Int → Int → Option (List Int)) (c93 : List Int → List Int → Option (Int)) (c94 : List Int → List Int → Int → Option (List Int × Bool)) (c95 : List Int → List Int → Option (List Int × Bool)) (n : Nat) (J : Nat → (ASt → Option (List Int × List Int)) → ASt → Option (List Int × List Int)) (m : Nat) (x0 : Int) (x1 : Int) (x2 : Int) (x3 : List Int) (x4 : List Int) (x5 : List Int) : quot_long.A c17 c87 c91 c92 c93 c94 c95 n J 7157 [m + 1] (quot_long.s7157 x0 x1 x2 x3 x4 x5) = quot_long.b7157 c17 c87 c91 c92 c93 c94 c95 (fun y0 y1 y2 y3 => J 895 (quot_long.A c17 c87 c91 c92 c93 c94 c95 n J 895 []) (quot_long.s895 y0 y1 y2 y3)) (fun y0 y1 y2 y3 y4 y5 y6 y7 y8 => J 1832093 (quot_long.A c17 c87 c91 c92 c93 c94 c95 n J 1832093 [m, n]) (quot_long.s1832093 y0 y1 y2 y3 y4 y5 y6 y7 y8)) x0 x1 x2 x3 x4 x5 := by kernel_rfl
theorem quot_long.e1832093 (c17 : List Int → Int → Option (List Int × Bool × Int)) (c87 : List Int → Option (List Int)) (c91 : Int → Option (Int)) (c92 : List Int → Int → Int → Option (List Int)) (c93 : List Int → List Int → Option (Int)) (c94 : List Int → List Int → Int → Option (List Int × Bool)) (c95 : List Int → List Int → Option (List Int × Bool)) (n : Nat) (J : Nat → (ASt → Option (List Int × List Int)) → ASt → Option (List Int × List Int)) (m7157 : Nat) (m : Nat) (x0 : Int) (x1 : Int) (x2 : Int) (x3 : Int) (x4 : Int) (x5 : Bool) (x6 : List Int) (x7 : List Int) (x8 : List Int) : quot_long.A c17 c87 c91 c92 c93 c94 c95 n J 1832093 [m7157, m + 1] (quot_long.s1832093 x0 x1 x2 x3 x4 x5 x6 x7 x8) = quot_long.b1832093 c17 c87 c91 c92 c93 c94 c95 (fun y0 y1 y2 y3 y4 y5 => J 7157 (quot_long.A c17 c87 c91 c92 c93 c94 c95 n J 7157 [m7157]) (quot_long.s7157 y0 y1 y2 y3 y4 y5)) (fun y0 y1 y2 y3 y4 y5 y6 y7 y8 => J 1832093 (quot_long.A c17 c87 c91 c92 c93 c94 c95 n J 1832093 [m7157, m]) (quot_long.s1832093 y0 y1 y2 y3 y4 y5 y6 y7 y8)) x0 x1 x2 x3 x4 x5 x6 x7 x8 := by kernel_rfl
theorem quot_long.q895 (n : Nat) (x0 : Int) (x1 : Int) (x2 : List Int) (x3 : List Int) : quot_long.A (nat_Shr.f n) (nat_Trim.f n) bits_LeadingZeros64.f (quot_raised.f n) (quot_guess.f n) (quot_takeOff.f n) (quot_putBack.f n) n idJ 895 [] (quot_long.s895 x0 x1 x2 x3) = quot_long.l895 n x0 x1 x2 x3 := (quot_long.e895 (nat_Shr.f n) (nat_Trim.f n) bits_LeadingZeros64.f (quot_raised.f n) (quot_guess.f n) (quot_takeOff.f n) (quot_putBack.f n) n idJ x0 x1 x2 x3).trans (rfl)
theorem quot_long.q1832093 (n : Nat) (m7157 : Nat) (m : Nat) : ∀ (x0 : Int) (x1 : Int) (x2 : Int) (x3 : Int) (x4 : Int) (x5 : Bool) (x6 : List Int) (x7 : List Int) (x8 : List Int), quot_long.A (nat_Shr.f n) (nat_Trim.f n) bits_LeadingZeros64.f (quot_raised.f n) (quot_guess.f n) (quot_takeOff.f n) (quot_putBack.f n) n idJ 1832093 [m7157, m] (quot_long.s1832093 x0 x1 x2 x3 x4 x5 x6 x7 x8) = quot_long.l1832093 n (fun y0 y1 y2 y3 y4 y5 => quot_long.A (nat_Shr.f n) (nat_Trim.f n) bits_LeadingZeros64.f (quot_raised.f n) (quot_guess.f n) (quot_takeOff.f n) (quot_putBack.f n) n idJ 7157 [m7157] (quot_long.s7157 y0 y1 y2 y3 y4 y5)) m x0 x1 x2 x3 x4 x5 x6 x7 x8 := by
  induction m with
  | zero => intros; rfl
  | succ m ih =>
    intro x0 x1 x2 x3 x4 x5 x6 x7 x8
    refine (quot_long.e1832093 (nat_Shr.f n) (nat_Trim.f n) bits_LeadingZeros64.f (quot_raised.f n) (quot_guess.f n) (quot_takeOff.f n) (quot_putBack.f n) n idJ m7157 m x0 x1 x2 x3 x4 x5 x6 x7 x8).trans ?_
    exact congrFun (congrFun (congrFun (congrFun (congrFun (congrFun (congrFun (congrFun (congrFun (congr (congrArg (quot_long.b1832093 (nat_Shr.f n) (nat_Trim.f n) bits_LeadingZeros64.f (quot_raised.f n) (quot_guess.f n) (quot_takeOff.f n) (quot_putBack.f n)) rfl) (funext fun y0 => (funext fun y1 => (funext fun y2 => (funext fun y3 => (funext fun y4 => (funext fun y5 => (funext fun y6 => (funext fun y7 => (funext fun y8 => ih y0 y1 y2 y3 y4 y5 y6 y7 y8)))))))))) x0) x1) x2) x3) x4) x5) x6) x7) x8
theorem quot_long.q7157 (n : Nat) (m : Nat) : ∀ (x0 : Int) (x1 : Int) (x2 : Int) (x3 : List Int) (x4 : List Int) (x5 : List Int), quot_long.A (nat_Shr.f n) (nat_Trim.f n) bits_LeadingZeros64.f (quot_raised.f n) (quot_guess.f n) (quot_takeOff.f n) (quot_putBack.f n) n idJ 7157 [m] (quot_long.s7157 x0 x1 x2 x3 x4 x5) = quot_long.l7157 n m x0 x1 x2 x3 x4 x5 := by
  induction m with
  | zero => intros; rfl
  | succ m ih =>
    intro x0 x1 x2 x3 x4 x5
    refine (quot_long.e7157 (nat_Shr.f n) (nat_Trim.f n) bits_LeadingZeros64.f (quot_raised.f n) (quot_guess.f n) (quot_takeOff.f n) (quot_putBack.f n) n idJ m x0 x1 x2 x3 x4 x5).trans ?_
    exact congrFun (congrFun (congrFun (congrFun (congrFun (congrFun (congr (congrArg (quot_long.b7157 (nat_Shr.f n) (nat_Trim.f n) bits_LeadingZeros64.f (quot_raised.f n) (quot_guess.f n) (quot_takeOff.f n) (quot_putBack.f n)) (funext fun y0 => (funext fun y1 => (funext fun y2 => (funext fun y3 => quot_long.q895 n y0 y1 y2 y3))))) ((funext fun y0 => (funext fun y1 => (funext fun y2 => (funext fun y3 => (funext fun y4 => (funext fun y5 => (funext fun y6 => (funext fun y7 => (funext fun y8 => quot_long.q1832093 n m n y0 y1 y2 y3 y4 y5 y6 y7 y8))))))))).trans (by rw [show (fun y0 y1 y2 y3 y4 y5 => quot_long.A (nat_Shr.f n) (nat_Trim.f n) bits_LeadingZeros64.f (quot_raised.f n) (quot_guess.f n) (quot_takeOff.f n) (quot_putBack.f n) n idJ 7157 [m] (quot_long.s7157 y0 y1 y2 y3 y4 y5)) = _ from (funext fun y0 => (funext fun y1 => (funext fun y2 => (funext fun y3 => (funext fun y4 => (funext fun y5 => ih y0 y1 y2 y3 y4 y5))))))]))) x0) x1) x2) x3) x4) x5
theorem quot_long.eq (n : Nat) (l0 : List Int) (l1 : List Int) : afun (quot_long.cfg (nat_Shr.f n) (nat_Trim.f n) bits_LeadingZeros64.f (quot_raised.f n) (quot_guess.f n) (quot_takeOff.f n) (quot_putBack.f n)) idJ quot_long.cuts n quot_long.code Tryd.f68.results.toList [false, false] [.ro .u64 l0, .ro .u64 l1] quot_long.sg.out = quot_long.f n l0 l1 := (quot_long.e0 (nat_Shr.f n) (nat_Trim.f n) bits_LeadingZeros64.f (quot_raised.f n) (quot_guess.f n) (quot_takeOff.f n) (quot_putBack.f n) n idJ l0 l1).trans (congrFun (congrFun (congrArg (quot_long.b0 (nat_Shr.f n) (nat_Trim.f n) bits_LeadingZeros64.f (quot_raised.f n) (quot_guess.f n) (quot_takeOff.f n) (quot_putBack.f n)) (funext fun y0 => (funext fun y1 => (funext fun y2 => (funext fun y3 => (funext fun y4 => (funext fun y5 => quot_long.q7157 n n y0 y1 y2 y3 y4 y5))))))) l0) l1)
theorem quot_long.ok {n : Nat} {l0 : List Int} {l1 : List Int} {r : List Int × List Int} (h : quot_long.f n l0 l1 = some r) : CallD Tryd.prog HW 68 [.ro .u64 l0, .ro .u64 l1] (quot_long.sg.enc r) :=
  fun_some hwS Tryd.func68 (by kernel_rfl) (body := quot_long.code) (by kernel_rfl) tys_ok (c := quot_long.cfg (nat_Shr.f n) (nat_Trim.f n) bits_LeadingZeros64.f (quot_raised.f n) (quot_guess.f n) (quot_takeOff.f n) (quot_putBack.f n)) (orCall_ok (nat_Shr.call_ok (n := n)) (orCall_ok (nat_Trim.call_ok (n := n)) (orCall_ok (bits_LeadingZeros64.call_ok (n := n)) (orCall_ok (quot_raised.call_ok (n := n)) (orCall_ok (quot_guess.call_ok (n := n)) noCall_ok))))) (orW_ok (quot_takeOff.call_ok (n := n)) (orW_ok (quot_putBack.call_ok (n := n)) noW_ok)) (by kernel_rfl) (by kernel_rfl) (Nat.le_of_ble_eq_true (by kernel_rfl)) ((quot_long.eq n l0 l1).trans h)
noncomputable def quot_long.call {α : Type} (g : List Int → List Int → Option (List Int × List Int)) (ds : List D) (K : List D → Option α) : Option α := match ds with
  | [.ro .u64 l0, .ro .u64 l1] => (g l0 l1).bind fun r => K (quot_long.sg.enc r)
  | _ => none
theorem quot_long.call_ok {α : Type} {n : Nat} (ds : List D) (K : List D → Option α) (r : α) (h : quot_long.call (quot_long.f n) ds K = some r) : ∃ rs, K rs = some r ∧ CallD Tryd.prog HW 68 ds rs := by
  unfold quot_long.call at h
  split at h
  · obtain ⟨x, hx, hk⟩ := Option.bind_eq_some_iff.1 h
    exact ⟨_, hk, quot_long.ok (n := n) hx⟩
  · cases h
/-! ### quot_DivMod: function 27 -/
noncomputable def quot_DivMod.b0 (c30 : List Int → List Int → Option (Int)) (c55 : List Int → Int → Option (List Int × Bool)) (c66 : List Int → Int → Option (List Int × Int × Int)) (c67 : Int → Option (List Int)) (c68 : List Int → List Int → Option (List Int × List Int)) (l0 : List Int) (l1 : List Int) : Option (List Int × List Int × Int) := ((c55 l0 4096).bind fun t1 => ((c55 l1 4096).bind fun t2 => (if (!t1.2) = true then some (([] : List Int), ([] : List Int), 2) else (if (!t2.2) = true then some (([] : List Int), ([] : List Int), 2) else (if (ln t2.1) = 0 then some (([] : List Int), ([] : List Int), 4) else ((c30 t1.1 t2.1).bind fun t3 => (if t3 < 0 then some (([] : List Int), t1.1, 0) else (if (ln t2.1) = 1 then (if 0 < (ln t2.1) then ((c66 t1.1 (rd t2.1 0)).bind fun t4 => ((c67 t4.2.1).bind fun t5 => some (t4.1, t5, t4.2.2))) else none) else ((c68 t1.1 t2.1).bind fun t6 => some (t6.1, t6.2, 0))))))))))
noncomputable def quot_DivMod.f (n : Nat) (l0 : List Int) (l1 : List Int) : Option (List Int × List Int × Int) := quot_DivMod.b0 (nat_Cmp.f n) (quot_small.f n) (nat_DivSmall.f n) nat_FromUint.f (quot_long.f n) l0 l1
noncomputable def quot_DivMod.sg : Sig (List Int × List Int × Int) := s2 (sRow .u64) (s2 (sRow .u64) (s1 (sInt .i64)))
noncomputable def quot_DivMod.code : Code := (Tryd.f27.body).getD .skip
noncomputable def quot_DivMod.cfg (c30 : List Int → List Int → Option (Int)) (c55 : List Int → Int → Option (List Int × Bool)) (c66 : List Int → Int → Option (List Int × Int × Int)) (c67 : Int → Option (List Int)) (c68 : List Int → List Int → Option (List Int × List Int)) : Cfg (List Int × List Int × Int) := { T := tys, call := orCall 30 (nat_Cmp.call c30) (orCall 55 (quot_small.call c55) (orCall 66 (nat_DivSmall.call c66) (orCall 67 (nat_FromUint.call c67) (orCall 68 (quot_long.call c68) (noCall))))) }
noncomputable def quot_DivMod.cuts : List (Nat × List (Nat × Want)) := []
theorem quot_DivMod.e0 (c30 : List Int → List Int → Option (Int)) (c55 : List Int → Int → Option (List Int × Bool)) (c66 : List Int → Int → Option (List Int × Int × Int)) (c67 : Int → Option (List Int)) (c68 : List Int → List Int → Option (List Int × List Int)) (n : Nat) (J : Nat → (ASt → Option (List Int × List Int × Int)) → ASt → Option (List Int × List Int × Int)) (l0 : List Int) (l1 : List Int) : afun (quot_DivMod.cfg c30 c55 c66 c67 c68) J quot_DivMod.cuts n quot_DivMod.code Tryd.f27.results.toList [false, false, false] [.ro .u64 l0, .ro .u64 l1] quot_DivMod.sg.out = quot_DivMod.b0 c30 c55 c66 c67 c68 l0 l1 := by kernel_rfl
theorem quot_DivMod.eq (n : Nat) (l0 : List Int) (l1 : List Int) : afun (quot_DivMod.cfg (nat_Cmp.f n) (quot_small.f n) (nat_DivSmall.f n) nat_FromUint.f (quot_long.f n)) idJ quot_DivMod.cuts n quot_DivMod.code Tryd.f27.results.toList [false, false, false] [.ro .u64 l0, .ro .u64 l1] quot_DivMod.sg.out = quot_DivMod.f n l0 l1 := (quot_DivMod.e0 (nat_Cmp.f n) (quot_small.f n) (nat_DivSmall.f n) nat_FromUint.f (quot_long.f n) n idJ l0 l1).trans (rfl)
theorem quot_DivMod.ok {n : Nat} {l0 : List Int} {l1 : List Int} {r : List Int × List Int × Int} (h : quot_DivMod.f n l0 l1 = some r) : CallD Tryd.prog HW 27 [.ro .u64 l0, .ro .u64 l1] (quot_DivMod.sg.enc r) :=
  fun_some hwS Tryd.func27 (by kernel_rfl) (body := quot_DivMod.code) (by kernel_rfl) tys_ok (c := quot_DivMod.cfg (nat_Cmp.f n) (quot_small.f n) (nat_DivSmall.f n) nat_FromUint.f (quot_long.f n)) (orCall_ok (nat_Cmp.call_ok (n := n)) (orCall_ok (quot_small.call_ok (n := n)) (orCall_ok (nat_DivSmall.call_ok (n := n)) (orCall_ok (nat_FromUint.call_ok (n := n)) (orCall_ok (quot_long.call_ok (n := n)) noCall_ok))))) noW_ok (by kernel_rfl) (by kernel_rfl) (Nat.le_of_ble_eq_true (by kernel_rfl)) ((quot_DivMod.eq n l0 l1).trans h)
noncomputable def quot_DivMod.call {α : Type} (g : List Int → List Int → Option (List Int × List Int × Int)) (ds : List D) (K : List D → Option α) : Option α := match ds with
  | [.ro .u64 l0, .ro .u64 l1] => (g l0 l1).bind fun r => K (quot_DivMod.sg.enc r)
  | _ => none
theorem quot_DivMod.call_ok {α : Type} {n : Nat} (ds : List D) (K : List D → Option α) (r : α) (h : quot_DivMod.call (quot_DivMod.f n) ds K = some r) : ∃ rs, K rs = some r ∧ CallD Tryd.prog HW 27 ds rs := by
  unfold quot_DivMod.call at h
  split at h
  · obtain ⟨x, hx, hk⟩ := Option.bind_eq_some_iff.1 h
    exact ⟨_, hk, quot_DivMod.ok (n := n) hx⟩
  · cases h
/-! ### nat_Sub: function 26 -/
noncomputable def nat_Sub.b0 (c30 : List Int → List Int → Option (Int)) (c52 : List Int → Option (Bool)) (c53 : List Int → Option (Int)) (c54 : List Int → Option (List Int × Int)) (c65 : Int → Int → Int → Option (Int × Int)) (k2037 : List Int → Int → Int → List Int → Int → List Int → Option (List Int × Int)) (l0 : List Int) (l1 : List Int) : Option (List Int × Int) := ((c52 l0).bind fun t1 => (if t1 = true then some (([] : List Int), 2) else ((c52 l1).bind fun t2 => (if t2 = true then some (([] : List Int), 2) else ((c30 l0 l1).bind fun t3 => (if t3 < 0 then some (([] : List Int), 10) else ((c53 l0).bind fun t4 => (if 0 ≤ t4 then (if t4 ≤ (ln l0) then ((some (l0.take t4.toNat) : Option (List Int)).bind fun y5 => ((c53 l1).bind fun t6 => (if 0 ≤ t6 then (if t6 ≤ (ln l1) then ((some (l1.take t6.toNat) : Option (List Int)).bind fun y7 => (if 0 ≤ (ln y5) then (if (ln y5).toNat ≤ 35184372088832 then k2037 y7 0 0 y5 (ln y5) (List.replicate (ln y5).toNat (0 : Int)) else none) else none)) else none) else none))) else none) else none))))))))
noncomputable def nat_Sub.b255 (c30 : List Int → List Int → Option (Int)) (c52 : List Int → Option (Bool)) (c53 : List Int → Option (Int)) (c54 : List Int → Option (List Int × Int)) (c65 : Int → Int → Int → Option (Int × Int)) (x0 : List Int) : Option (List Int × Int) := ((c54 x0).bind fun t1 => some (t1.1, t1.2))
noncomputable def nat_Sub.b2037 (c30 : List Int → List Int → Option (Int)) (c52 : List Int → Option (Bool)) (c53 : List Int → Option (Int)) (c54 : List Int → Option (List Int × Int)) (c65 : Int → Int → Int → Option (Int × Int)) (k255 : List Int → Option (List Int × Int)) (k260711 : List Int → Int → Int → Int → Int → List Int → Int → List Int → Option (List Int × Int)) (x0 : List Int) (x1 : Int) (x2 : Int) (x3 : List Int) (x4 : Int) (x5 : List Int) : Option (List Int × Int) := (if x2 < x4 then (if 0 ≤ x2 then (if x2 < (ln x3) then (if x2 < (ln x0) then (if 0 ≤ x2 then (if x2 < (ln x0) then k260711 x0 x1 x2 (rd x3 x2) (rd x0 x2) x3 x4 x5 else none) else none) else k260711 x0 x1 x2 (rd x3 x2) 0 x3 x4 x5) else none) else none) else k255 x5)
noncomputable def nat_Sub.b260711 (c30 : List Int → List Int → Option (Int)) (c52 : List Int → Option (Bool)) (c53 : List Int → Option (Int)) (c54 : List Int → Option (List Int × Int)) (c65 : Int → Int → Int → Option (Int × Int)) (k2037 : List Int → Int → Int → List Int → Int → List Int → Option (List Int × Int)) (x0 : List Int) (x1 : Int) (x2 : Int) (x3 : Int) (x4 : Int) (x5 : List Int) (x6 : Int) (x7 : List Int) : Option (List Int × Int) := ((c65 x3 x4 x1).bind fun t1 => (if 0 ≤ x2 then (if x2 < (ln x7) then k2037 x0 t1.2 (wrap64 (x2 + 1)) x5 x6 (x7.set (x2 : Int).toNat t1.1) else none) else none))
noncomputable def nat_Sub.l255 (n : Nat) (x0 : List Int) : Option (List Int × Int) := nat_Sub.b255 (nat_Cmp.f n) (nat_big.f n) (nat_size.f n) (nat_cut.f n) bits_Sub64.f x0
noncomputable def nat_Sub.l260711 (n : Nat) (k2037 : List Int → Int → Int → List Int → Int → List Int → Option (List Int × Int)) (x0 : List Int) (x1 : Int) (x2 : Int) (x3 : Int) (x4 : Int) (x5 : List Int) (x6 : Int) (x7 : List Int) : Option (List Int × Int) := nat_Sub.b260711 (nat_Cmp.f n) (nat_big.f n) (nat_size.f n) (nat_cut.f n) bits_Sub64.f k2037 x0 x1 x2 x3 x4 x5 x6 x7
noncomputable def nat_Sub.l2037 (n : Nat) : Nat → List Int → Int → Int → List Int → Int → List Int → Option (List Int × Int)
  | 0, _, _, _, _, _, _ => none
  | m + 1, x0, x1, x2, x3, x4, x5 => nat_Sub.b2037 (nat_Cmp.f n) (nat_big.f n) (nat_size.f n) (nat_cut.f n) bits_Sub64.f (nat_Sub.l255 n) (nat_Sub.l260711 n (nat_Sub.l2037 n m)) x0 x1 x2 x3 x4 x5
noncomputable def nat_Sub.f (n : Nat) (l0 : List Int) (l1 : List Int) : Option (List Int × Int) := nat_Sub.b0 (nat_Cmp.f n) (nat_big.f n) (nat_size.f n) (nat_cut.f n) bits_Sub64.f (nat_Sub.l2037 n n) l0 l1
noncomputable def nat_Sub.sg : Sig (List Int × Int) := s2 (sRow .u64) (s1 (sInt .i64))
noncomputable def nat_Sub.code : Code := (Tryd.f26.body).getD .skip
noncomputable def nat_Sub.cfg (c30 : List Int → List Int → Option (Int)) (c52 : List Int → Option (Bool)) (c53 : List Int → Option (Int)) (c54 : List Int → Option (List Int × Int)) (c65 : Int → Int → Int → Option (Int × Int)) : Cfg (List Int × Int) := { T := tys, call := orCall 30 (nat_Cmp.call c30) (orCall 52 (nat_big.call c52) (orCall 53 (nat_size.call c53) (orCall 54 (nat_cut.call c54) (orCall 65 (bits_Sub64.call c65) (noCall))))) }
noncomputable def nat_Sub.cuts : List (Nat × List (Nat × Want)) := [(255, [(6, .keep)]), (2037, [(1, .keep), (6, .keep), (7, .keep), (32, .keep), (33, .keep), (34, .keep)]), (260711, [(1, .keep), (6, .keep), (7, .keep), (8, .keep), (9, .keep), (10, .keep), (32, .keep), (33, .keep), (34, .keep)])]
noncomputable def nat_Sub.s255 (x0 : List Int) : ASt := ⟨[(6, .own 0)], [.ints 22 .u64 x0]⟩
noncomputable def nat_Sub.s2037 (x0 : List Int) (x1 : Int) (x2 : Int) (x3 : List Int) (x4 : Int) (x5 : List Int) : ASt := ⟨[(1, .ro .u64 x0), (6, .own 0), (7, .int .u64 x1), (32, .ro .u64 x3), (33, .int .i64 x4), (34, .int .i64 x2)], [.ints 22 .u64 x5]⟩
noncomputable def nat_Sub.s260711 (x0 : List Int) (x1 : Int) (x2 : Int) (x3 : Int) (x4 : Int) (x5 : List Int) (x6 : Int) (x7 : List Int) : ASt := ⟨[(1, .ro .u64 x0), (6, .own 0), (7, .int .u64 x1), (8, .int .i64 x2), (9, .int .u64 x3), (10, .int .u64 x4), (32, .ro .u64 x5), (33, .int .i64 x6), (34, .int .i64 x2)], [.ints 22 .u64 x7]⟩
noncomputable def nat_Sub.A (c30 : List Int → List Int → Option (Int)) (c52 : List Int → Option (Bool)) (c53 : List Int → Option (Int)) (c54 : List Int → Option (List Int × Int)) (c65 : Int → Int → Int → Option (Int × Int)) (n : Nat) (J : Nat → (ASt → Option (List Int × Int)) → ASt → Option (List Int × Int)) (q : Nat) (ms : List Nat) : ASt → Option (List Int × Int) := acont (nat_Sub.cfg c30 c52 c53 c54 c65) J nat_Sub.cuts n q nat_Sub.code 1 ms (aend (nat_Sub.cfg c30 c52 c53 c54 c65) Tryd.f26.results.toList [false, false] nat_Sub.sg.out)
theorem nat_Sub.e0 (c30 : List Int → List Int → Option (Int)) (c52 : List Int → Option (Bool)) (c53 : List Int → Option (Int)) (c54 : List Int → Option (List Int × Int)) (c65 : Int → Int → Int → Option (Int × Int)) (n : Nat) (J : Nat → (ASt → Option (List Int × Int)) → ASt → Option (List Int × Int)) (l0 : List Int) (l1 : List Int) : afun (nat_Sub.cfg c30 c52 c53 c54 c65) J nat_Sub.cuts n nat_Sub.code Tryd.f26.results.toList [false, false] [.ro .u64 l0, .ro .u64 l1] nat_Sub.sg.out = nat_Sub.b0 c30 c52 c53 c54 c65 (fun y0 y1 y2 y3 y4 y5 => J 2037 (nat_Sub.A c30 c52 c53 c54 c65 n J 2037 [n]) (nat_Sub.s2037 y0 y1 y2 y3 y4 y5)) l0 l1 := by kernel_rfl
theorem nat_Sub.e255 (c30 : List Int → List Int → Option (Int)) (c52 : List Int → Option (Bool)) (c53 : List Int → Option (Int)) (c54 : List Int → Option (List Int × Int)) (c65 : Int → Int → Int → Option (Int × Int)) (n : Nat) (J : Nat → (ASt → Option (List Int × Int)) → ASt → Option (List Int × Int)) (x0 : List Int) : nat_Sub.A c30 c52 c53 c54 c65 n J 255 [] (nat_Sub.s255 x0) = nat_Sub.b255 c30 c52 c53 c54 c65 x0 := by kernel_rfl
theorem nat_Sub.e2037 (c30 : List Int → List Int → Option (Int)) (c52 : List Int → Option (Bool)) (c53 : List Int → Option (Int)) (c54 : List Int → Option (List Int × Int)) (c65 : Int → Int → Int → Option (Int × Int)) (n : Nat) (J : Nat → (ASt → Option (List Int × Int)) → ASt → Option (List Int × Int)) (m : Nat) (x0 : List Int) (x1 : Int) (x2 : Int) (x3 : List Int) (x4 : Int) (x5 : List Int) : nat_Sub.A c30 c52 c53 c54 c65 n J 2037 [m + 1] (nat_Sub.s2037 x0 x1 x2 x3 x4 x5) = nat_Sub.b2037 c30 c52 c53 c54 c65 (fun y0 => J 255 (nat_Sub.A c30 c52 c53 c54 c65 n J 255 []) (nat_Sub.s255 y0)) (fun y0 y1 y2 y3 y4 y5 y6 y7 => J 260711 (nat_Sub.A c30 c52 c53 c54 c65 n J 260711 [m]) (nat_Sub.s260711 y0 y1 y2 y3 y4 y5 y6 y7)) x0 x1 x2 x3 x4 x5 := by kernel_rfl
theorem nat_Sub.e260711 (c30 : List Int → List Int → Option (Int)) (c52 : List Int → Option (Bool)) (c53 : List Int → Option (Int)) (c54 : List Int → Option (List Int × Int)) (c65 : Int → Int → Int → Option (Int × Int)) (n : Nat) (J : Nat → (ASt → Option (List Int × Int)) → ASt → Option (List Int × Int)) (m2037 : Nat) (x0 : List Int) (x1 : Int) (x2 : Int) (x3 : Int) (x4 : Int) (x5 : List Int) (x6 : Int) (x7 : List Int) : nat_Sub.A c30 c52 c53 c54 c65 n J 260711 [m2037] (nat_Sub.s260711 x0 x1 x2 x3 x4 x5 x6 x7) = nat_Sub.b260711 c30 c52 c53 c54 c65 (fun y0 y1 y2 y3 y4 y5 => J 2037 (nat_Sub.A c30 c52 c53 c54 c65 n J 2037 [m2037]) (nat_Sub.s2037 y0 y1 y2 y3 y4 y5)) x0 x1 x2 x3 x4 x5 x6 x7 := by kernel_rfl
theorem nat_Sub.q255 (n : Nat) (x0 : List Int) : nat_Sub.A (nat_Cmp.f n) (nat_big.f n) (nat_size.f n) (nat_cut.f n) bits_Sub64.f n idJ 255 [] (nat_Sub.s255 x0) = nat_Sub.l255 n x0 := (nat_Sub.e255 (nat_Cmp.f n) (nat_big.f n) (nat_size.f n) (nat_cut.f n) bits_Sub64.f n idJ x0).trans (rfl)
theorem nat_Sub.q260711 (n : Nat) (m2037 : Nat) (x0 : List Int) (x1 : Int) (x2 : Int) (x3 : Int) (x4 : Int) (x5 : List Int) (x6 : Int) (x7 : List Int) : nat_Sub.A (nat_Cmp.f n) (nat_big.f n) (nat_size.f n) (nat_cut.f n) bits_Sub64.f n idJ 260711 [m2037] (nat_Sub.s260711 x0 x1 x2 x3 x4 x5 x6 x7) = nat_Sub.l260711 n (fun y0 y1 y2 y3 y4 y5 => nat_Sub.A (nat_Cmp.f n) (nat_big.f n) (nat_size.f n) (nat_cut.f n) bits_Sub64.f n idJ 2037 [m2037] (nat_Sub.s2037 y0 y1 y2 y3 y4 y5)) x0 x1 x2 x3 x4 x5 x6 x7 := (nat_Sub.e260711 (nat_Cmp.f n) (nat_big.f n) (nat_size.f n) (nat_cut.f n) bits_Sub64.f n idJ m2037 x0 x1 x2 x3 x4 x5 x6 x7).trans (rfl)
theorem nat_Sub.q2037 (n : Nat) (m : Nat) : ∀ (x0 : List Int) (x1 : Int) (x2 : Int) (x3 : List Int) (x4 : Int) (x5 : List Int), nat_Sub.A (nat_Cmp.f n) (nat_big.f n) (nat_size.f n) (nat_cut.f n) bits_Sub64.f n idJ 2037 [m] (nat_Sub.s2037 x0 x1 x2 x3 x4 x5) = nat_Sub.l2037 n m x0 x1 x2 x3 x4 x5 := by
  induction m with
  | zero => intros; rfl
  | succ m ih =>
    intro x0 x1 x2 x3 x4 x5
    refine (nat_Sub.e2037 (nat_Cmp.f n) (nat_big.f n) (nat_size.f n) (nat_cut.f n) bits_Sub64.f n idJ m x0 x1 x2 x3 x4 x5).trans ?_
    exact congrFun (congrFun (congrFun (congrFun (congrFun (congrFun (congr (congrArg (nat_Sub.b2037 (nat_Cmp.f n) (nat_big.f n) (nat_size.f n) (nat_cut.f n) bits_Sub64.f) (funext fun y0 => nat_Sub.q255 n y0)) ((funext fun y0 => (funext fun y1 => (funext fun y2 => (funext fun y3 => (funext fun y4 => (funext fun y5 => (funext fun y6 => (funext fun y7 => nat_Sub.q260711 n m y0 y1 y2 y3 y4 y5 y6 y7)))))))).trans (by rw [show (fun y0 y1 y2 y3 y4 y5 => nat_Sub.A (nat_Cmp.f n) (nat_big.f n) (nat_size.f n) (nat_cut.f n) bits_Sub64.f n idJ 2037 [m] (nat_Sub.s2037 y0 y1 y2 y3 y4 y5)) = _ from (funext fun y0 => (funext fun y1 => (funext fun y2 => (funext fun y3 => (funext fun y4 => (funext fun y5 => ih y0 y1 y2 y3 y4 y5))))))]))) x0) x1) x2) x3) x4) x5
theorem nat_Sub.eq (n : Nat) (l0 : List Int) (l1 : List Int) : afun (nat_Sub.cfg (nat_Cmp.f n) (nat_big.f n) (nat_size.f n) (nat_cut.f n) bits_Sub64.f) idJ nat_Sub.cuts n nat_Sub.code Tryd.f26.results.toList [false, false] [.ro .u64 l0, .ro .u64 l1] nat_Sub.sg.out = nat_Sub.f n l0 l1 := (nat_Sub.e0 (nat_Cmp.f n) (nat_big.f n) (nat_size.f n) (nat_cut.f n) bits_Sub64.f n idJ l0 l1).trans (congrFun (congrFun (congrArg (nat_Sub.b0 (nat_Cmp.f n) (nat_big.f n) (nat_size.f n) (nat_cut.f n) bits_Sub64.f) (funext fun y0 => (funext fun y1 => (funext fun y2 => (funext fun y3 => (funext fun y4 => (funext fun y5 => nat_Sub.q2037 n n y0 y1 y2 y3 y4 y5))))))) l0) l1)
theorem nat_Sub.ok {n : Nat} {l0 : List Int} {l1 : List Int} {r : List Int × Int} (h : nat_Sub.f n l0 l1 = some r) : CallD Tryd.prog HW 26 [.ro .u64 l0, .ro .u64 l1] (nat_Sub.sg.enc r) :=
  fun_some hwS Tryd.func26 (by kernel_rfl) (body := nat_Sub.code) (by kernel_rfl) tys_ok (c := nat_Sub.cfg (nat_Cmp.f n) (nat_big.f n) (nat_size.f n) (nat_cut.f n) bits_Sub64.f) (orCall_ok (nat_Cmp.call_ok (n := n)) (orCall_ok (nat_big.call_ok (n := n)) (orCall_ok (nat_size.call_ok (n := n)) (orCall_ok (nat_cut.call_ok (n := n)) (orCall_ok (bits_Sub64.call_ok (n := n)) noCall_ok))))) noW_ok (by kernel_rfl) (by kernel_rfl) (Nat.le_of_ble_eq_true (by kernel_rfl)) ((nat_Sub.eq n l0 l1).trans h)
noncomputable def nat_Sub.call {α : Type} (g : List Int → List Int → Option (List Int × Int)) (ds : List D) (K : List D → Option α) : Option α := match ds with
  | [.ro .u64 l0, .ro .u64 l1] => (g l0 l1).bind fun r => K (nat_Sub.sg.enc r)
  | _ => none
theorem nat_Sub.call_ok {α : Type} {n : Nat} (ds : List D) (K : List D → Option α) (r : α) (h : nat_Sub.call (nat_Sub.f n) ds K = some r) : ∃ rs, K rs = some r ∧ CallD Tryd.prog HW 26 ds rs := by
  unfold nat_Sub.call at h
  split at h
  · obtain ⟨x, hx, hk⟩ := Option.bind_eq_some_iff.1 h
    exact ⟨_, hk, nat_Sub.ok (n := n) hx⟩
  · cases h
/-! ### nat_Add: function 29 -/
noncomputable def nat_Add.b0 (c52 : List Int → Option (Bool)) (c53 : List Int → Option (Int)) (c54 : List Int → Option (List Int × Int)) (c69 : Int → Int → Int → Option (Int × Int)) (k31 : List Int → List Int → Option (List Int × Int)) (l0 : List Int) (l1 : List Int) : Option (List Int × Int) := ((c52 l0).bind fun t1 => (if t1 = true then some (([] : List Int), 2) else ((c52 l1).bind fun t2 => (if t2 = true then some (([] : List Int), 2) else ((c53 l0).bind fun t3 => (if 0 ≤ t3 then (if t3 ≤ (ln l0) then ((some (l0.take t3.toNat) : Option (List Int)).bind fun y4 => ((c53 l1).bind fun t5 => (if 0 ≤ t5 then (if t5 ≤ (ln l1) then ((some (l1.take t5.toNat) : Option (List Int)).bind fun y6 => (if (ln y4) < (ln y6) then k31 y6 y4 else k31 y4 y6)) else none) else none))) else none) else none))))))
noncomputable def nat_Add.b31 (c52 : List Int → Option (Bool)) (c53 : List Int → Option (Int)) (c54 : List Int → Option (List Int × Int)) (c69 : Int → Int → Int → Option (Int × Int)) (k2037 : List Int → List Int → Int → Int → Int → List Int → Option (List Int × Int)) (x0 : List Int) (x1 : List Int) : Option (List Int × Int) := (if 0 ≤ (wrap64 ((ln x0) + 1)) then (if (wrap64 ((ln x0) + 1)).toNat ≤ 35184372088832 then k2037 x0 x1 0 0 (ln x0) (List.replicate (wrap64 ((ln x0) + 1)).toNat (0 : Int)) else none) else none)
noncomputable def nat_Add.b255 (c52 : List Int → Option (Bool)) (c53 : List Int → Option (Int)) (c54 : List Int → Option (List Int × Int)) (c69 : Int → Int → Int → Option (Int × Int)) (x0 : List Int) (x1 : Int) (x2 : List Int) : Option (List Int × Int) := (if 0 ≤ (ln x0) then (if (ln x0) < (ln x2) then ((c54 (x2.set ((ln x0) : Int).toNat x1)).bind fun t1 => some (t1.1, t1.2)) else none) else none)
noncomputable def nat_Add.b2037 (c52 : List Int → Option (Bool)) (c53 : List Int → Option (Int)) (c54 : List Int → Option (List Int × Int)) (c69 : Int → Int → Int → Option (Int × Int)) (k255 : List Int → Int → List Int → Option (List Int × Int)) (k260711 : List Int → List Int → Int → Int → Int → Int → Int → List Int → Option (List Int × Int)) (x0 : List Int) (x1 : List Int) (x2 : Int) (x3 : Int) (x4 : Int) (x5 : List Int) : Option (List Int × Int) := (if x3 < x4 then (if 0 ≤ x3 then (if x3 < (ln x0) then (if x3 < (ln x1) then (if 0 ≤ x3 then (if x3 < (ln x1) then k260711 x0 x1 x2 x3 (rd x0 x3) (rd x1 x3) x4 x5 else none) else none) else k260711 x0 x1 x2 x3 (rd x0 x3) 0 x4 x5) else none) else none) else k255 x0 x2 x5)
noncomputable def nat_Add.b260711 (c52 : List Int → Option (Bool)) (c53 : List Int → Option (Int)) (c54 : List Int → Option (List Int × Int)) (c69 : Int → Int → Int → Option (Int × Int)) (k2037 : List Int → List Int → Int → Int → Int → List Int → Option (List Int × Int)) (x0 : List Int) (x1 : List Int) (x2 : Int) (x3 : Int) (x4 : Int) (x5 : Int) (x6 : Int) (x7 : List Int) : Option (List Int × Int) := ((c69 x4 x5 x2).bind fun t1 => (if 0 ≤ x3 then (if x3 < (ln x7) then k2037 x0 x1 t1.2 (wrap64 (x3 + 1)) x6 (x7.set (x3 : Int).toNat t1.1) else none) else none))
noncomputable def nat_Add.l255 (n : Nat) (x0 : List Int) (x1 : Int) (x2 : List Int) : Option (List Int × Int) := nat_Add.b255 (nat_big.f n) (nat_size.f n) (nat_cut.f n) bits_Add64.f x0 x1 x2
noncomputable def nat_Add.l260711 (n : Nat) (k2037 : List Int → List Int → Int → Int → Int → List Int → Option (List Int × Int)) (x0 : List Int) (x1 : List Int) (x2 : Int) (x3 : Int) (x4 : Int) (x5 : Int) (x6 : Int) (x7 : List Int) : Option (List Int × Int) := nat_Add.b260711 (nat_big.f n) (nat_size.f n) (nat_cut.f n) bits_Add64.f k2037 x0 x1 x2 x3 x4 x5 x6 x7
noncomputable def nat_Add.l2037 (n : Nat) : Nat → List Int → List Int → Int → Int → Int → List Int → Option (List Int × Int)
  | 0, _, _, _, _, _, _ => none
  | m + 1, x0, x1, x2, x3, x4, x5 => nat_Add.b2037 (nat_big.f n) (nat_size.f n) (nat_cut.f n) bits_Add64.f (nat_Add.l255 n) (nat_Add.l260711 n (nat_Add.l2037 n m)) x0 x1 x2 x3 x4 x5
noncomputable def nat_Add.l31 (n : Nat) (x0 : List Int) (x1 : List Int) : Option (List Int × Int) := nat_Add.b31 (nat_big.f n) (nat_size.f n) (nat_cut.f n) bits_Add64.f (nat_Add.l2037 n n) x0 x1
noncomputable def nat_Add.f (n : Nat) (l0 : List Int) (l1 : List Int) : Option (List Int × Int) := nat_Add.b0 (nat_big.f n) (nat_size.f n) (nat_cut.f n) bits_Add64.f (nat_Add.l31 n) l0 l1
noncomputable def nat_Add.sg : Sig (List Int × Int) := s2 (sRow .u64) (s1 (sInt .i64))
noncomputable def nat_Add.code : Code := (Tryd.f29.body).getD .skip
noncomputable def nat_Add.cfg (c52 : List Int → Option (Bool)) (c53 : List Int → Option (Int)) (c54 : List Int → Option (List Int × Int)) (c69 : Int → Int → Int → Option (Int × Int)) : Cfg (List Int × Int) := { T := tys, call := orCall 52 (nat_big.call c52) (orCall 53 (nat_size.call c53) (orCall 54 (nat_cut.call c54) (orCall 69 (bits_Add64.call c69) (noCall)))) }
noncomputable def nat_Add.cuts : List (Nat × List (Nat × Want)) := [(31, [(0, .keep), (1, .keep)]), (255, [(0, .keep), (6, .keep), (7, .keep)]), (2037, [(0, .keep), (1, .keep), (6, .keep), (7, .keep), (36, .keep), (37, .keep), (38, .keep)]), (260711, [(0, .keep), (1, .keep), (6, .keep), (7, .keep), (8, .keep), (9, .keep), (10, .keep), (36, .keep), (37, .keep), (38, .keep)])]
noncomputable def nat_Add.s31 (x0 : List Int) (x1 : List Int) : ASt := ⟨[(0, .ro .u64 x0), (1, .ro .u64 x1)], []⟩
noncomputable def nat_Add.s255 (x0 : List Int) (x1 : Int) (x2 : List Int) : ASt := ⟨[(0, .ro .u64 x0), (6, .own 0), (7, .int .u64 x1)], [.ints 22 .u64 x2]⟩
noncomputable def nat_Add.s2037 (x0 : List Int) (x1 : List Int) (x2 : Int) (x3 : Int) (x4 : Int) (x5 : List Int) : ASt := ⟨[(0, .ro .u64 x0), (1, .ro .u64 x1), (6, .own 0), (7, .int .u64 x2), (36, .ro .u64 x0), (37, .int .i64 x4), (38, .int .i64 x3)], [.ints 22 .u64 x5]⟩
noncomputable def nat_Add.s260711 (x0 : List Int) (x1 : List Int) (x2 : Int) (x3 : Int) (x4 : Int) (x5 : Int) (x6 : Int) (x7 : List Int) : ASt := ⟨[(0, .ro .u64 x0), (1, .ro .u64 x1), (6, .own 0), (7, .int .u64 x2), (8, .int .i64 x3), (9, .int .u64 x4), (10, .int .u64 x5), (36, .ro .u64 x0), (37, .int .i64 x6), (38, .int .i64 x3)], [.ints 22 .u64 x7]⟩
noncomputable def nat_Add.A (c52 : List Int → Option (Bool)) (c53 : List Int → Option (Int)) (c54 : List Int → Option (List Int × Int)) (c69 : Int → Int → Int → Option (Int × Int)) (n : Nat) (J : Nat → (ASt → Option (List Int × Int)) → ASt → Option (List Int × Int)) (q : Nat) (ms : List Nat) : ASt → Option (List Int × Int) := acont (nat_Add.cfg c52 c53 c54 c69) J nat_Add.cuts n q nat_Add.code 1 ms (aend (nat_Add.cfg c52 c53 c54 c69) Tryd.f29.results.toList [false, false] nat_Add.sg.out)
theorem nat_Add.e0 (c52 : List Int → Option (Bool)) (c53 : List Int → Option (Int)) (c54 : List Int → Option (List Int × Int)) (c69 : Int → Int → Int → Option (Int × Int)) (n : Nat) (J : Nat → (ASt → Option (List Int × Int)) → ASt → Option (List Int × Int)) (l0 : List Int) (l1 : List Int) : afun (nat_Add.cfg c52 c53 c54 c69) J nat_Add.cuts n nat_Add.code Tryd.f29.results.toList [false, false] [.ro .u64 l0, .ro .u64 l1] nat_Add.sg.out = nat_Add.b0 c52 c53 c54 c69 (fun y0 y1 => J 31 (nat_Add.A c52 c53 c54 c69 n J 31 []) (nat_Add.s31 y0 y1)) l0 l1 := by kernel_rfl
theorem nat_Add.e31 (c52 : List Int → Option (Bool)) (c53 : List Int → Option (Int)) (c54 : List Int → Option (List Int × Int)) (c69 : Int → Int → Int → Option (Int × Int)) (n : Nat) (J : Nat → (ASt → Option (List Int × Int)) → ASt → Option (List Int × Int)) (x0 : List Int) (x1 : List Int) : nat_Add.A c52 c53 c54 c69 n J 31 [] (nat_Add.s31 x0 x1) = nat_Add.b31 c52 c53 c54 c69 (fun y0 y1 y2 y3 y4 y5 => J 2037 (nat_Add.A c52 c53 c54 c69 n J 2037 [n]) (nat_Add.s2037 y0 y1 y2 y3 y4 y5)) x0 x1 := by kernel_rfl
theorem nat_Add.e255 (c52 : List Int → Option (Bool)) (c53 : List Int → Option (Int)) (c54 : List Int → Option (List Int × Int)) (c69 : Int → Int → Int → Option (Int × Int)) (n : Nat) (J : Nat → (ASt → Option (List Int × Int)) → ASt → Option (List Int × Int)) (x0 : List Int) (x1 : Int) (x2 : List Int) : nat_Add.A c52 c53 c54 c69 n J 255 [] (nat_Add.s255 x0 x1 x2) = nat_Add.b255 c52 c53 c54 c69 x0 x1 x2 := by kernel_rfl
theorem nat_Add.e2037 (c52 : List Int → Option (Bool)) (c53 : List Int → Option (Int)) (c54 : List Int → Option (List Int × Int)) (c69 : Int → Int → Int → Option (Int × Int)) (n : Nat) (J : Nat → (ASt → Option (List Int × Int)) → ASt → Option (List Int × Int)) (m : Nat) (x0 : List Int) (x1 : List Int) (x2 : Int) (x3 : Int) (x4 : Int) (x5 : List Int) : nat_Add.A c52 c53 c54 c69 n J 2037 [m + 1] (nat_Add.s2037 x0 x1 x2 x3 x4 x5) = nat_Add.b2037 c52 c53 c54 c69 (fun y0 y1 y2 => J 255 (nat_Add.A c52 c53 c54 c69 n J 255 []) (nat_Add.s255 y0 y1 y2)) (fun y0 y1 y2 y3 y4 y5 y6 y7 => J 260711 (nat_Add.A c52 c53 c54 c69 n J 260711 [m]) (nat_Add.s260711 y0 y1 y2 y3 y4 y5 y6 y7)) x0 x1 x2 x3 x4 x5 := by kernel_rfl
theorem nat_Add.e260711 (c52 : List Int → Option (Bool)) (c53 : List Int → Option (Int)) (c54 : List Int → Option (List Int × Int)) (c69 : Int → Int → Int → Option (Int × Int)) (n : Nat) (J : Nat → (ASt → Option (List Int × Int)) → ASt → Option (List Int × Int)) (m2037 : Nat) (x0 : List Int) (x1 : List Int) (x2 : Int) (x3 : Int) (x4 : Int) (x5 : Int) (x6 : Int) (x7 : List Int) : nat_Add.A c52 c53 c54 c69 n J 260711 [m2037] (nat_Add.s260711 x0 x1 x2 x3 x4 x5 x6 x7) = nat_Add.b260711 c52 c53 c54 c69 (fun y0 y1 y2 y3 y4 y5 => J 2037 (nat_Add.A c52 c53 c54 c69 n J 2037 [m2037]) (nat_Add.s2037 y0 y1 y2 y3 y4 y5)) x0 x1 x2 x3 x4 x5 x6 x7 := by kernel_rfl
theorem nat_Add.q255 (n : Nat) (x0 : List Int) (x1 : Int) (x2 : List Int) : nat_Add.A (nat_big.f n) (nat_size.f n) (nat_cut.f n) bits_Add64.f n idJ 255 [] (nat_Add.s255 x0 x1 x2) = nat_Add.l255 n x0 x1 x2 := (nat_Add.e255 (nat_big.f n) (nat_size.f n) (nat_cut.f n) bits_Add64.f n idJ x0 x1 x2).trans (rfl)
theorem nat_Add.q260711 (n : Nat) (m2037 : Nat) (x0 : List Int) (x1 : List Int) (x2 : Int) (x3 : Int) (x4 : Int) (x5 : Int) (x6 : Int) (x7 : List Int) : nat_Add.A (nat_big.f n) (nat_size.f n) (nat_cut.f n) bits_Add64.f n idJ 260711 [m2037] (nat_Add.s260711 x0 x1 x2 x3 x4 x5 x6 x7) = nat_Add.l260711 n (fun y0 y1 y2 y3 y4 y5 => nat_Add.A (nat_big.f n) (nat_size.f n) (nat_cut.f n) bits_Add64.f n idJ 2037 [m2037] (nat_Add.s2037 y0 y1 y2 y3 y4 y5)) x0 x1 x2 x3 x4 x5 x6 x7 := (nat_Add.e260711 (nat_big.f n) (nat_size.f n) (nat_cut.f n) bits_Add64.f n idJ m2037 x0 x1 x2 x3 x4 x5 x6 x7).trans (rfl)
theorem nat_Add.q2037 (n : Nat) (m : Nat) : ∀ (x0 : List Int) (x1 : List Int) (x2 : Int) (x3 : Int) (x4 : Int) (x5 : List Int), nat_Add.A (nat_big.f n) (nat_size.f n) (nat_cut.f n) bits_Add64.f n idJ 2037 [m] (nat_Add.s2037 x0 x1 x2 x3 x4 x5) = nat_Add.l2037 n m x0 x1 x2 x3 x4 x5 := by
  induction m with
  | zero => intros; rfl
  | succ m ih =>
    intro x0 x1 x2 x3 x4 x5
    refine (nat_Add.e2037 (nat_big.f n) (nat_size.f n) (nat_cut.f n) bits_Add64.f n idJ m x0 x1 x2 x3 x4 x5).trans ?_
    exact congrFun (congrFun (congrFun (congrFun (congrFun (congrFun (congr (congrArg (nat_Add.b2037 (nat_big.f n) (nat_size.f n) (nat_cut.f n) bits_Add64.f) (funext fun y0 => (funext fun y1 => (funext fun y2 => nat_Add.q255 n y0 y1 y2)))) ((funext fun y0 => (funext fun y1 => (funext fun y2 => (funext fun y3 => (funext fun y4 => (funext fun y5 => (funext fun y6 => (funext fun y7 => nat_Add.q260711 n m y0 y1 y2 y3 y4 y5 y6 y7)))))))).trans (by rw [show (fun y0 y1 y2 y3 y4 y5 => nat_Add.A (nat_big.f n) (nat_size.f n) (nat_cut.f n) bits_Add64.f n idJ 2037 [m] (nat_Add.s2037 y0 y1 y2 y3 y4 y5)) = _ from (funext fun y0 => (funext fun y1 => (funext fun y2 => (funext fun y3 => (funext fun y4 => (funext fun y5 => ih y0 y1 y2 y3 y4 y5))))))]))) x0) x1) x2) x3) x4) x5
theorem nat_Add.q31 (n : Nat) (x0 : List Int) (x1 : List Int) : nat_Add.A (nat_big.f n) (nat_size.f n) (nat_cut.f n) bits_Add64.f n idJ 31 [] (nat_Add.s31 x0 x1) = nat_Add.l31 n x0 x1 := (nat_Add.e31 (nat_big.f n) (nat_size.f n) (nat_cut.f n) bits_Add64.f n idJ x0 x1).trans (congrFun (congrFun (congrArg (nat_Add.b31 (nat_big.f n) (nat_size.f n) (nat_cut.f n) bits_Add64.f) (funext fun y0 => (funext fun y1 => (funext fun y2 => (funext fun y3 => (funext fun y4 => (funext fun y5 => nat_Add.q2037 n n y0 y1 y2 y3 y4 y5))))))) x0) x1)
theorem nat_Add.eq (n : Nat) (l0 : List Int) (l1 : List Int) : afun (nat_Add.cfg (nat_big.f n) (nat_size.f n) (nat_cut.f n) bits_Add64.f) idJ nat_Add.cuts n nat_Add.code Tryd.f29.results.toList [false, false] [.ro .u64 l0, .ro .u64 l1] nat_Add.sg.out = nat_Add.f n l0 l1 := (nat_Add.e0 (nat_big.f n) (nat_size.f n) (nat_cut.f n) bits_Add64.f n idJ l0 l1).trans (congrFun (congrFun (congrArg (nat_Add.b0 (nat_big.f n) (nat_size.f n) (nat_cut.f n) bits_Add64.f) (funext fun y0 => (funext fun y1 => nat_Add.q31 n y0 y1))) l0) l1)
theorem nat_Add.ok {n : Nat} {l0 : List Int} {l1 : List Int} {r : List Int × Int} (h : nat_Add.f n l0 l1 = some r) : CallD Tryd.prog HW 29 [.ro .u64 l0, .ro .u64 l1] (nat_Add.sg.enc r) :=
  fun_some hwS Tryd.func29 (by kernel_rfl) (body := nat_Add.code) (by kernel_rfl) tys_ok (c := nat_Add.cfg (nat_big.f n) (nat_size.f n) (nat_cut.f n) bits_Add64.f) (orCall_ok (nat_big.call_ok (n := n)) (orCall_ok (nat_size.call_ok (n := n)) (orCall_ok (nat_cut.call_ok (n := n)) (orCall_ok (bits_Add64.call_ok (n := n)) noCall_ok)))) noW_ok (by kernel_rfl) (by kernel_rfl) (Nat.le_of_ble_eq_true (by kernel_rfl)) ((nat_Add.eq n l0 l1).trans h)
noncomputable def nat_Add.call {α : Type} (g : List Int → List Int → Option (List Int × Int)) (ds : List D) (K : List D → Option α) : Option α := match ds with
  | [.ro .u64 l0, .ro .u64 l1] => (g l0 l1).bind fun r => K (nat_Add.sg.enc r)
  | _ => none
theorem nat_Add.call_ok {α : Type} {n : Nat} (ds : List D) (K : List D → Option α) (r : α) (h : nat_Add.call (nat_Add.f n) ds K = some r) : ∃ rs, K rs = some r ∧ CallD Tryd.prog HW 29 ds rs := by
  unfold nat_Add.call at h
  split at h
  · obtain ⟨x, hx, hk⟩ := Option.bind_eq_some_iff.1 h
    exact ⟨_, hk, nat_Add.ok (n := n) hx⟩
  · cases h
end Go.Proofs.YtjmcfampoajbmaaDoor.F
