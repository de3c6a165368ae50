/- What the functions compute, and that calls of them answer so (printed by gen.py). Conditions: HW, a table as it was laid. -/
import Derived.Test.YtalkmbmhmbnadaaDoorA17
import Derived.Test.YtalkmbmhmbnadaaDoorProg
namespace Go.Proofs.YtalkmbmhmbnadaaDoor.F
open Go.RowKit Go.Proofs.YtalkmbmhmbnadaaDoorA
set_option linter.unusedVariables false
set_option maxRecDepth 100000
/-- The table of math/bits.TrailingZeros64 stands as it was laid. -/
def HW : World → Prop := fun w => ∀ j, j < 64 → w.cell? ⟨0, j, none⟩ = some (.int .u8 ((Lib.deBruijn64tab.getD j 0 : Nat) : Int))
theorem hwS : ∀ w w' : World, Below w.heap.size w w' → HW w → HW w' := fun w w' hb h j hj => by
  have h1 := h j hj
  rw [← h1]
  exact hb.cell (Nat.lt_of_not_le fun hn => by simp [World.cell?, Array.getElem?_eq_none hn] at h1)
def tys : List (Nat × TI) := [(3, ⟨.int .i64, 1, 8, [.int .i64 0], false⟩),
  (24, ⟨.slice 25, 1, 24, [.nil], false⟩),
  (25, ⟨.int .u64, 1, 8, [.int .u64 0], false⟩),
  (34, ⟨.slice 38, 1, 24, [.nil], false⟩),
  (38, ⟨.struct [(0, 1, false), (1, 1, false), (2, 1, false)], 3, 56, [.nil, .nil, .int .i64 0], false⟩),
  (41, ⟨.slice 24, 1, 24, [.nil], false⟩),
  (70, ⟨.int .u64, 1, 8, [.int .u64 0], false⟩)]
theorem tys_ok : TOK Tryd.prog tys := tok_of (by kernel_rfl)
/-! ### abacuslaw02_one: function 18 -/
noncomputable def abacuslaw02_one.b0 (a0 : Int) : Option (List Int) := some [a0]
noncomputable def abacuslaw02_one.f (a0 : Int) : Option (List Int) := abacuslaw02_one.b0 a0
noncomputable def abacuslaw02_one.sg : Sig (List Int) := s1 (sRow .u64)
noncomputable def abacuslaw02_one.code : Code := (Tryd.f18.body).getD .skip
noncomputable def abacuslaw02_one.cfg : Cfg (List Int) := { T := tys, call := noCall }
noncomputable def abacuslaw02_one.cuts : List (Nat × List (Nat × Want)) := []
theorem abacuslaw02_one.e0 (n : Nat) (J : Nat → (ASt → Option (List Int)) → ASt → Option (List Int)) (a0 : Int) : afun (abacuslaw02_one.cfg) J abacuslaw02_one.cuts n abacuslaw02_one.code Tryd.f18.results.toList [false] [.int .u64 a0] abacuslaw02_one.sg.out = abacuslaw02_one.b0 a0 := by kernel_rfl
theorem abacuslaw02_one.eq (n : Nat) (a0 : Int) : afun (abacuslaw02_one.cfg) idJ abacuslaw02_one.cuts n abacuslaw02_one.code Tryd.f18.results.toList [false] [.int .u64 a0] abacuslaw02_one.sg.out = abacuslaw02_one.f a0 := (abacuslaw02_one.e0 n idJ a0).trans (rfl)
theorem abacuslaw02_one.ok {n : Nat} {a0 : Int} {r : List Int} (h : abacuslaw02_one.f a0 = some r) : CallD Tryd.prog HW 18 [.int .u64 a0] (abacuslaw02_one.sg.enc r) :=
  fun_some hwS Tryd.func18 (by kernel_rfl) (body := abacuslaw02_one.code) (by kernel_rfl) tys_ok (c := abacuslaw02_one.cfg) noCall_ok noW_ok (by kernel_rfl) (by kernel_rfl) (Nat.le_of_ble_eq_true (by kernel_rfl)) ((abacuslaw02_one.eq n a0).trans h)
noncomputable def abacuslaw02_one.call {α : Type} (g : Int → Option (List Int)) (ds : List D) (K : List D → Option α) : Option α := match ds with
  | [.int .u64 a0] => (g a0).bind fun r => K (abacuslaw02_one.sg.enc r)
  | _ => none
theorem abacuslaw02_one.call_ok {α : Type} {n : Nat} (ds : List D) (K : List D → Option α) (r : α) (h : abacuslaw02_one.call abacuslaw02_one.f ds K = some r) : ∃ rs, K rs = some r ∧ CallD Tryd.prog HW 18 ds rs := by
  unfold abacuslaw02_one.call at h
  split at h
  · obtain ⟨x, hx, hk⟩ := Option.bind_eq_some_iff.1 h
    exact ⟨_, hk, abacuslaw02_one.ok (n := n) hx⟩
  · cases h
/-! ### abacusref02_Top: function 106 -/
noncomputable def abacusref02_Top.b0 (k57 : List Int → Int → Option (Int)) (l0 : List Int) : Option (Int) := k57 l0 (ln l0)
noncomputable def abacusref02_Top.b57 (k57 : List Int → Int → Option (Int)) (x0 : List Int) (x1 : Int) : Option (Int) := (if x1 > 0 then (if 0 ≤ (wrap64 (x1 - 1)) then (if (wrap64 (x1 - 1)) < (ln x0) then (if (rd x0 (wrap64 (x1 - 1))) = 0 then k57 x0 (wrap64 (x1 - 1)) else some x1) else none) else none) else some x1)
noncomputable def abacusref02_Top.l57 (n : Nat) : Nat → List Int → Int → Option (Int)
  | 0, _, _ => none
  | m + 1, x0, x1 => abacusref02_Top.b57 (abacusref02_Top.l57 n m) x0 x1
noncomputable def abacusref02_Top.f (n : Nat) (l0 : List Int) : Option (Int) := abacusref02_Top.b0 (abacusref02_Top.l57 n n) l0
noncomputable def abacusref02_Top.sg : Sig (Int) := s1 (sInt .i64)
noncomputable def abacusref02_Top.code : Code := (Tryd.f106.body).getD .skip
noncomputable def abacusref02_Top.cfg : Cfg (Int) := { T := tys, call := noCall }
noncomputable def abacusref02_Top.cuts : List (Nat × List (Nat × Want)) := [(57, [(0, .keep), (3, .keep)])]
noncomputable def abacusref02_Top.s57 (x0 : List Int) (x1 : Int) : ASt := ⟨[(0, .ro .u64 x0), (3, .int .i64 x1)], []⟩
noncomputable def abacusref02_Top.A (n : Nat) (J : Nat → (ASt → Option (Int)) → ASt → Option (Int)) (q : Nat) (ms : List Nat) : ASt → Option (Int) := acont (abacusref02_Top.cfg) J abacusref02_Top.cuts n q abacusref02_Top.code 1 ms (aend (abacusref02_Top.cfg) Tryd.f106.results.toList [false] abacusref02_Top.sg.out)
theorem abacusref02_Top.e0 (n : Nat) (J : Nat → (ASt → Option (Int)) → ASt → Option (Int)) (l0 : List Int) : afun (abacusref02_Top.cfg) J abacusref02_Top.cuts n abacusref02_Top.code Tryd.f106.results.toList [false] [.ro .u64 l0] abacusref02_Top.sg.out = abacusref02_Top.b0 (fun y0 y1 => J 57 (abacusref02_Top.A n J 57 [n]) (abacusref02_Top.s57 y0 y1)) l0 := by kernel_rfl
theorem abacusref02_Top.e57 (n : Nat) (J : Nat → (ASt → Option (Int)) → ASt → Option (Int)) (m : Nat) (x0 : List Int) (x1 : Int) : abacusref02_Top.A n J 57 [m + 1] (abacusref02_Top.s57 x0 x1) = abacusref02_Top.b57 (fun y0 y1 => J 57 (abacusref02_Top.A n J 57 [m]) (abacusref02_Top.s57 y0 y1)) x0 x1 := by kernel_rfl
theorem abacusref02_Top.q57 (n : Nat) (m : Nat) : ∀ (x0 : List Int) (x1 : Int), abacusref02_Top.A n idJ 57 [m] (abacusref02_Top.s57 x0 x1) = abacusref02_Top.l57 n m x0 x1 := by
  induction m with
  | zero => intros; rfl
  | succ m ih =>
    intro x0 x1
    refine (abacusref02_Top.e57 n idJ m x0 x1).trans ?_
    exact congrFun (congrFun (congrArg abacusref02_Top.b57 (funext fun y0 => (funext fun y1 => ih y0 y1))) x0) x1
theorem abacusref02_Top.eq (n : Nat) (l0 : List Int) : afun (abacusref02_Top.cfg) idJ abacusref02_Top.cuts n abacusref02_Top.code Tryd.f106.results.toList [false] [.ro .u64 l0] abacusref02_Top.sg.out = abacusref02_Top.f n l0 := (abacusref02_Top.e0 n idJ l0).trans (congrFun (congrArg abacusref02_Top.b0 (funext fun y0 => (funext fun y1 => abacusref02_Top.q57 n n y0 y1))) l0)
theorem abacusref02_Top.ok {n : Nat} {l0 : List Int} {r : Int} (h : abacusref02_Top.f n l0 = some r) : CallD Tryd.prog HW 106 [.ro .u64 l0] (abacusref02_Top.sg.enc r) :=
  fun_some hwS Tryd.func106 (by kernel_rfl) (body := abacusref02_Top.code) (by kernel_rfl) tys_ok (c := abacusref02_Top.cfg) noCall_ok noW_ok (by kernel_rfl) (by kernel_rfl) (Nat.le_of_ble_eq_true (by kernel_rfl)) ((abacusref02_Top.eq n l0).trans h)
noncomputable def abacusref02_Top.call {α : Type} (g : List Int → Option (Int)) (ds : List D) (K : List D → Option α) : Option α := match ds with
  | [.ro .u64 l0] => (g l0).bind fun r => K (abacusref02_Top.sg.enc r)
  | _ => none
theorem abacusref02_Top.call_ok {α : Type} {n : Nat} (ds : List D) (K : List D → Option α) (r : α) (h : abacusref02_Top.call (abacusref02_Top.f n) ds K = some r) : ∃ rs, K rs = some r ∧ CallD Tryd.prog HW 106 ds rs := by
  unfold abacusref02_Top.call at h
  split at h
  · obtain ⟨x, hx, hk⟩ := Option.bind_eq_some_iff.1 h
    exact ⟨_, hk, abacusref02_Top.ok (n := n) hx⟩
  · cases h
/-! ### abacusref02_Order: function 197 -/
noncomputable def abacusref02_Order.b0 (c106 : List Int → Option (Int)) (k1013 : List Int → List Int → Int → Option (Int)) (l0 : List Int) (l1 : List Int) : Option (Int) := ((c106 l0).bind fun t1 => ((c106 l1).bind fun t2 => (if t1 < t2 then some (-1) else (if t1 > t2 then some 1 else k1013 l0 l1 (wrap64 (t1 - 1))))))
noncomputable def abacusref02_Order.b1013 (c106 : List Int → Option (Int)) (k1013 : List Int → List Int → Int → Option (Int)) (x0 : List Int) (x1 : List Int) (x2 : Int) : Option (Int) := (if x2 ≥ 0 then (if 0 ≤ x2 then (if x2 < (ln x0) then (if 0 ≤ x2 then (if x2 < (ln x1) then (if (rd x0 x2) < (rd x1 x2) then some (-1) else (if 0 ≤ x2 then (if x2 < (ln x0) then (if 0 ≤ x2 then (if x2 < (ln x1) then (if (rd x0 x2) > (rd x1 x2) then some 1 else k1013 x0 x1 (wrap64 (x2 - 1))) else none) else none) else none) else none)) else none) else none) else none) else none) else some 0)
noncomputable def abacusref02_Order.l1013 (n : Nat) : Nat → List Int → List Int → Int → Option (Int)
  | 0, _, _, _ => none
  | m + 1, x0, x1, x2 => abacusref02_Order.b1013 (abacusref02_Top.f n) (abacusref02_Order.l1013 n m) x0 x1 x2
noncomputable def abacusref02_Order.f (n : Nat) (l0 : List Int) (l1 : List Int) : Option (Int) := abacusref02_Order.b0 (abacusref02_Top.f n) (abacusref02_Order.l1013 n n) l0 l1
noncomputable def abacusref02_Order.sg : Sig (Int) := s1 (sInt .i64)
noncomputable def abacusref02_Order.code : Code := (Tryd.f197.body).getD .skip
noncomputable def abacusref02_Order.cfg (c106 : List Int → Option (Int)) : Cfg (Int) := { T := tys, call := orCall 106 (abacusref02_Top.call c106) (noCall) }
noncomputable def abacusref02_Order.cuts : List (Nat × List (Nat × Want)) := [(1013, [(0, .keep), (1, .keep), (7, .keep)])]
noncomputable def abacusref02_Order.s1013 (x0 : List Int) (x1 : List Int) (x2 : Int) : ASt := ⟨[(0, .ro .u64 x0), (1, .ro .u64 x1), (7, .int .i64 x2)], []⟩
noncomputable def abacusref02_Order.A (c106 : List Int → Option (Int)) (n : Nat) (J : Nat → (ASt → Option (Int)) → ASt → Option (Int)) (q : Nat) (ms : List Nat) : ASt → Option (Int) := acont (abacusref02_Order.cfg c106) J abacusref02_Order.cuts n q abacusref02_Order.code 1 ms (aend (abacusref02_Order.cfg c106) Tryd.f197.results.toList [false] abacusref02_Order.sg.out)
theorem abacusref02_Order.e0 (c106 : List Int → Option (Int)) (n : Nat) (J : Nat → (ASt → Option (Int)) → ASt → Option (Int)) (l0 : List Int) (l1 : List Int) : afun (abacusref02_Order.cfg c106) J abacusref02_Order.cuts n abacusref02_Order.code Tryd.f197.results.toList [false] [.ro .u64 l0, .ro .u64 l1] abacusref02_Order.sg.out = abacusref02_Order.b0 c106 (fun y0 y1 y2 => J 1013 (abacusref02_Order.A c106 n J 1013 [n]) (abacusref02_Order.s1013 y0 y1 y2)) l0 l1 := by kernel_rfl
theorem abacusref02_Order.e1013 (c106 : List Int → Option (Int)) (n : Nat) (J : Nat → (ASt → Option (Int)) → ASt → Option (Int)) (m : Nat) (x0 : List Int) (x1 : List Int) (x2 : Int) : abacusref02_Order.A c106 n J 1013 [m + 1] (abacusref02_Order.s1013 x0 x1 x2) = abacusref02_Order.b1013 c106 (fun y0 y1 y2 => J 1013 (abacusref02_Order.A c106 n J 1013 [m]) (abacusref02_Order.s1013 y0 y1 y2)) x0 x1 x2 := by kernel_rfl
theorem abacusref02_Order.q1013 (n : Nat) (m : Nat) : ∀ (x0 : List Int) (x1 : List Int) (x2 : Int), abacusref02_Order.A (abacusref02_Top.f n) n idJ 1013 [m] (abacusref02_Order.s1013 x0 x1 x2) = abacusref02_Order.l1013 n m x0 x1 x2 := by
  induction m with
  | zero => intros; rfl
  | succ m ih =>
    intro x0 x1 x2
    refine (abacusref02_Order.e1013 (abacusref02_Top.f n) n idJ m x0 x1 x2).trans ?_
    exact congrFun (congrFun (congrFun (congrArg (abacusref02_Order.b1013 (abacusref02_Top.f n)) (funext fun y0 => (funext fun y1 => (funext fun y2 => ih y0 y1 y2)))) x0) x1) x2
theorem abacusref02_Order.eq (n : Nat) (l0 : List Int) (l1 : List Int) : afun (abacusref02_Order.cfg (abacusref02_Top.f n)) idJ abacusref02_Order.cuts n abacusref02_Order.code Tryd.f197.results.toList [false] [.ro .u64 l0, .ro .u64 l1] abacusref02_Order.sg.out = abacusref02_Order.f n l0 l1 := (abacusref02_Order.e0 (abacusref02_Top.f n) n idJ l0 l1).trans (congrFun (congrFun (congrArg (abacusref02_Order.b0 (abacusref02_Top.f n)) (funext fun y0 => (funext fun y1 => (funext fun y2 => abacusref02_Order.q1013 n n y0 y1 y2)))) l0) l1)
theorem abacusref02_Order.ok {n : Nat} {l0 : List Int} {l1 : List Int} {r : Int} (h : abacusref02_Order.f n l0 l1 = some r) : CallD Tryd.prog HW 197 [.ro .u64 l0, .ro .u64 l1] (abacusref02_Order.sg.enc r) :=
  fun_some hwS Tryd.func197 (by kernel_rfl) (body := abacusref02_Order.code) (by kernel_rfl) tys_ok (c := abacusref02_Order.cfg (abacusref02_Top.f n)) (orCall_ok (abacusref02_Top.call_ok (n := n)) noCall_ok) noW_ok (by kernel_rfl) (by kernel_rfl) (Nat.le_of_ble_eq_true (by kernel_rfl)) ((abacusref02_Order.eq n l0 l1).trans h)
noncomputable def abacusref02_Order.call {α : Type} (g : List Int → List Int → Option (Int)) (ds : List D) (K : List D → Option α) : Option α := match ds with
  | [.ro .u64 l0, .ro .u64 l1] => (g l0 l1).bind fun r => K (abacusref02_Order.sg.enc r)
  | _ => none
theorem abacusref02_Order.call_ok {α : Type} {n : Nat} (ds : List D) (K : List D → Option α) (r : α) (h : abacusref02_Order.call (abacusref02_Order.f n) ds K = some r) : ∃ rs, K rs = some r ∧ CallD Tryd.prog HW 197 ds rs := by
  unfold abacusref02_Order.call at h
  split at h
  · obtain ⟨x, hx, hk⟩ := Option.bind_eq_some_iff.1 h
    exact ⟨_, hk, abacusref02_Order.ok (n := n) hx⟩
  · cases h
/-! ### abacusref02_Same: function 193 -/
noncomputable def abacusref02_Same.b0 (c197 : List Int → List Int → Option (Int)) (l0 : List Int) (l1 : List Int) : Option (Bool) := ((c197 l0 l1).bind fun t1 => some (decide (t1 = 0)))
noncomputable def abacusref02_Same.f (n : Nat) (l0 : List Int) (l1 : List Int) : Option (Bool) := abacusref02_Same.b0 (abacusref02_Order.f n) l0 l1
noncomputable def abacusref02_Same.sg : Sig (Bool) := s1 (sBool)
noncomputable def abacusref02_Same.code : Code := (Tryd.f193.body).getD .skip
noncomputable def abacusref02_Same.cfg (c197 : List Int → List Int → Option (Int)) : Cfg (Bool) := { T := tys, call := orCall 197 (abacusref02_Order.call c197) (noCall) }
noncomputable def abacusref02_Same.cuts : List (Nat × List (Nat × Want)) := []
theorem abacusref02_Same.e0 (c197 : List Int → List Int → Option (Int)) (n : Nat) (J : Nat → (ASt → Option (Bool)) → ASt → Option (Bool)) (l0 : List Int) (l1 : List Int) : afun (abacusref02_Same.cfg c197) J abacusref02_Same.cuts n abacusref02_Same.code Tryd.f193.results.toList [false] [.ro .u64 l0, .ro .u64 l1] abacusref02_Same.sg.out = abacusref02_Same.b0 c197 l0 l1 := by kernel_rfl
theorem abacusref02_Same.eq (n : Nat) (l0 : List Int) (l1 : List Int) : afun (abacusref02_Same.cfg (abacusref02_Order.f n)) idJ abacusref02_Same.cuts n abacusref02_Same.code Tryd.f193.results.toList [false] [.ro .u64 l0, .ro .u64 l1] abacusref02_Same.sg.out = abacusref02_Same.f n l0 l1 := (abacusref02_Same.e0 (abacusref02_Order.f n) n idJ l0 l1).trans (rfl)
theorem abacusref02_Same.ok {n : Nat} {l0 : List Int} {l1 : List Int} {r : Bool} (h : abacusref02_Same.f n l0 l1 = some r) : CallD Tryd.prog HW 193 [.ro .u64 l0, .ro .u64 l1] (abacusref02_Same.sg.enc r) :=
  fun_some hwS Tryd.func193 (by kernel_rfl) (body := abacusref02_Same.code) (by kernel_rfl) tys_ok (c := abacusref02_Same.cfg (abacusref02_Order.f n)) (orCall_ok (abacusref02_Order.call_ok (n := n)) noCall_ok) noW_ok (by kernel_rfl) (by kernel_rfl) (Nat.le_of_ble_eq_true (by kernel_rfl)) ((abacusref02_Same.eq n l0 l1).trans h)
noncomputable def abacusref02_Same.call {α : Type} (g : List Int → List Int → Option (Bool)) (ds : List D) (K : List D → Option α) : Option α := match ds with
  | [.ro .u64 l0, .ro .u64 l1] => (g l0 l1).bind fun r => K (abacusref02_Same.sg.enc r)
  | _ => none
theorem abacusref02_Same.call_ok {α : Type} {n : Nat} (ds : List D) (K : List D → Option α) (r : α) (h : abacusref02_Same.call (abacusref02_Same.f n) ds K = some r) : ∃ rs, K rs = some r ∧ CallD Tryd.prog HW 193 ds rs := by
  unfold abacusref02_Same.call at h
  split at h
  · obtain ⟨x, hx, hk⟩ := Option.bind_eq_some_iff.1 h
    exact ⟨_, hk, abacusref02_Same.ok (n := n) hx⟩
  · cases h
/-! ### abacusref02_halfWords: function 238 -/
noncomputable def abacusref02_halfWords.b0 (c106 : List Int → Option (Int)) (k245 : List Int → Int → Int → List Int → Option (List Int)) (l0 : List Int) : Option (List Int) := ((c106 l0).bind fun t1 => (if 0 ≤ (wrap64 (2 * t1)) then (if (wrap64 (2 * t1)).toNat ≤ 35184372088832 then k245 l0 t1 0 (List.replicate (wrap64 (2 * t1)).toNat (0 : Int)) else none) else none))
noncomputable def abacusref02_halfWords.b245 (c106 : List Int → Option (Int)) (k245 : List Int → Int → Int → List Int → Option (List Int)) (x0 : List Int) (x1 : Int) (x2 : Int) (x3 : List Int) : Option (List Int) := (if x2 < x1 then (if 0 ≤ x2 then (if x2 < (ln x0) then (if 0 ≤ (wrap64 (2 * x2)) then (if (wrap64 (2 * x2)) < (ln x3) then (if 0 ≤ x2 then (if x2 < (ln x0) then (if 0 ≤ (wrap64 ((wrap64 (2 * x2)) + 1)) then (if (wrap64 ((wrap64 (2 * x2)) + 1)) < (ln (x3.set (wrap64 (2 * x2) : Int).toNat (Go.bits .and .u64 (rd x0 x2) 4294967295))) then k245 x0 x1 (wrap64 (x2 + 1)) ((x3.set (wrap64 (2 * x2) : Int).toNat (Go.bits .and .u64 (rd x0 x2) 4294967295)).set (wrap64 ((wrap64 (2 * x2)) + 1) : Int).toNat ((rd x0 x2) / 4294967296)) else none) else none) else none) else none) else none) else none) else none) else none) else some x3)
noncomputable def abacusref02_halfWords.l245 (n : Nat) : Nat → List Int → Int → Int → List Int → Option (List Int)
  | 0, _, _, _, _ => none
  | m + 1, x0, x1, x2, x3 => abacusref02_halfWords.b245 (abacusref02_Top.f n) (abacusref02_halfWords.l245 n m) x0 x1 x2 x3
noncomputable def abacusref02_halfWords.f (n : Nat) (l0 : List Int) : Option (List Int) := abacusref02_halfWords.b0 (abacusref02_Top.f n) (abacusref02_halfWords.l245 n n) l0
noncomputable def abacusref02_halfWords.sg : Sig (List Int) := s1 (sRow .u64)
noncomputable def abacusref02_halfWords.code : Code := (Tryd.f238.body).getD .skip
noncomputable def abacusref02_halfWords.cfg (c106 : List Int → Option (Int)) : Cfg (List Int) := { T := tys, call := orCall 106 (abacusref02_Top.call c106) (noCall) }
noncomputable def abacusref02_halfWords.cuts : List (Nat × List (Nat × Want)) := [(245, [(0, .keep), (3, .keep), (4, .keep), (5, .keep)])]
noncomputable def abacusref02_halfWords.s245 (x0 : List Int) (x1 : Int) (x2 : Int) (x3 : List Int) : ASt := ⟨[(0, .ro .u64 x0), (3, .int .i64 x1), (4, .own 0), (5, .int .i64 x2)], [.ints 25 .u64 x3]⟩
noncomputable def abacusref02_halfWords.A (c106 : List Int → Option (Int)) (n : Nat) (J : Nat → (ASt → Option (List Int)) → ASt → Option (List Int)) (q : Nat) (ms : List Nat) : ASt → Option (List Int) := acont (abacusref02_halfWords.cfg c106) J abacusref02_halfWords.cuts n q abacusref02_halfWords.code 1 ms (aend (abacusref02_halfWords.cfg c106) Tryd.f238.results.toList [false] abacusref02_halfWords.sg.out)
theorem abacusref02_halfWords.e0 (c106 : List Int → Option (Int)) (n : Nat) (J : Nat → (ASt → Option (List Int)) → ASt → Option (List Int)) (l0 : List Int) : afun (abacusref02_halfWords.cfg c106) J abacusref02_halfWords.cuts n abacusref02_halfWords.code Tryd.f238.results.toList [false] [.ro .u64 l0] abacusref02_halfWords.sg.out = abacusref02_halfWords.b0 c106 (fun y0 y1 y2 y3 => J 245 (abacusref02_halfWords.A c106 n J 245 [n]) (abacusref02_halfWords.s245 y0 y1 y2 y3)) l0 := by kernel_rfl
theorem abacusref02_halfWords.e245 (c106 : List Int → Option (Int)) (n : Nat) (J : Nat → (ASt → Option (List Int)) → ASt → Option (List Int)) (m : Nat) (x0 : List Int) (x1 : Int) (x2 : Int) (x3 : List Int) : abacusref02_halfWords.A c106 n J 245 [m + 1] (abacusref02_halfWords.s245 x0 x1 x2 x3) = abacusref02_halfWords.b245 c106 (fun y0 y1 y2 y3 => J 245 (abacusref02_halfWords.A c106 n J 245 [m]) (abacusref02_halfWords.s245 y0 y1 y2 y3)) x0 x1 x2 x3 := by kernel_rfl
theorem abacusref02_halfWords.q245 (n : Nat) (m : Nat) : ∀ (x0 : List Int) (x1 : Int) (x2 : Int) (x3 : List Int), abacusref02_halfWords.A (abacusref02_Top.f n) n idJ 245 [m] (abacusref02_halfWords.s245 x0 x1 x2 x3) = abacusref02_halfWords.l245 n m x0 x1 x2 x3 := by
  induction m with
  | zero => intros; rfl
  | succ m ih =>
    intro x0 x1 x2 x3
    refine (abacusref02_halfWords.e245 (abacusref02_Top.f n) n idJ m x0 x1 x2 x3).trans ?_
    exact congrFun (congrFun (congrFun (congrFun (congrArg (abacusref02_halfWords.b245 (abacusref02_Top.f n)) (funext fun y0 => (funext fun y1 => (funext fun y2 => (funext fun y3 => ih y0 y1 y2 y3))))) x0) x1) x2) x3
theorem abacusref02_halfWords.eq (n : Nat) (l0 : List Int) : afun (abacusref02_halfWords.cfg (abacusref02_Top.f n)) idJ abacusref02_halfWords.cuts n abacusref02_halfWords.code Tryd.f238.results.toList [false] [.ro .u64 l0] abacusref02_halfWords.sg.out = abacusref02_halfWords.f n l0 := (abacusref02_halfWords.e0 (abacusref02_Top.f n) n idJ l0).trans (congrFun (congrArg (abacusref02_halfWords.b0 (abacusref02_Top.f n)) (funext fun y0 => (funext fun y1 => (funext fun y2 => (funext fun y3 => abacusref02_halfWords.q245 n n y0 y1 y2 y3))))) l0)
theorem abacusref02_halfWords.ok {n : Nat} {l0 : List Int} {r : List Int} (h : abacusref02_halfWords.f n l0 = some r) : CallD Tryd.prog HW 238 [.ro .u64 l0] (abacusref02_halfWords.sg.enc r) :=
  fun_some hwS Tryd.func238 (by kernel_rfl) (body := abacusref02_halfWords.code) (by kernel_rfl) tys_ok (c := abacusref02_halfWords.cfg (abacusref02_Top.f n)) (orCall_ok (abacusref02_Top.call_ok (n := n)) noCall_ok) noW_ok (by kernel_rfl) (by kernel_rfl) (Nat.le_of_ble_eq_true (by kernel_rfl)) ((abacusref02_halfWords.eq n l0).trans h)
noncomputable def abacusref02_halfWords.call {α : Type} (g : List Int → Option (List Int)) (ds : List D) (K : List D → Option α) : Option α := match ds with
  | [.ro .u64 l0] => (g l0).bind fun r => K (abacusref02_halfWords.sg.enc r)
  | _ => none
theorem abacusref02_halfWords.call_ok {α : Type} {n : Nat} (ds : List D) (K : List D → Option α) (r : α) (h : abacusref02_halfWords.call (abacusref02_halfWords.f n) ds K = some r) : ∃ rs, K rs = some r ∧ CallD Tryd.prog HW 238 ds rs := by
  unfold abacusref02_halfWords.call at h
  split at h
  · obtain ⟨x, hx, hk⟩ := Option.bind_eq_some_iff.1 h
    exact ⟨_, hk, abacusref02_halfWords.ok (n := n) hx⟩
  · cases h
/-! ### abacusref02_Short: function 22 -/
noncomputable def abacusref02_Short.b0 (c106 : List Int → Option (Int)) (k245 : List Int → Int → Int → List Int → Option (List Int)) (l0 : List Int) : Option (List Int) := ((c106 l0).bind fun t1 => (if 0 ≤ t1 then (if t1.toNat ≤ 35184372088832 then k245 l0 t1 0 (List.replicate t1.toNat (0 : Int)) else none) else none))
noncomputable def abacusref02_Short.b245 (c106 : List Int → Option (Int)) (k245 : List Int → Int → Int → List Int → Option (List Int)) (x0 : List Int) (x1 : Int) (x2 : Int) (x3 : List Int) : Option (List Int) := (if x2 < x1 then (if 0 ≤ x2 then (if x2 < (ln x0) then (if 0 ≤ x2 then (if x2 < (ln x3) then k245 x0 x1 (wrap64 (x2 + 1)) (x3.set (x2 : Int).toNat (rd x0 x2)) else none) else none) else none) else none) else some x3)
noncomputable def abacusref02_Short.l245 (n : Nat) : Nat → List Int → Int → Int → List Int → Option (List Int)
  | 0, _, _, _, _ => none
  | m + 1, x0, x1, x2, x3 => abacusref02_Short.b245 (abacusref02_Top.f n) (abacusref02_Short.l245 n m) x0 x1 x2 x3
noncomputable def abacusref02_Short.f (n : Nat) (l0 : List Int) : Option (List Int) := abacusref02_Short.b0 (abacusref02_Top.f n) (abacusref02_Short.l245 n n) l0
noncomputable def abacusref02_Short.sg : Sig (List Int) := s1 (sOwn 25 .u64)
noncomputable def abacusref02_Short.code : Code := (Tryd.f22.body).getD .skip
noncomputable def abacusref02_Short.cfg (c106 : List Int → Option (Int)) : Cfg (List Int) := { T := tys, call := orCall 106 (abacusref02_Top.call c106) (noCall) }
noncomputable def abacusref02_Short.cuts : List (Nat × List (Nat × Want)) := [(245, [(0, .keep), (3, .keep), (4, .keep), (5, .keep)])]
noncomputable def abacusref02_Short.s245 (x0 : List Int) (x1 : Int) (x2 : Int) (x3 : List Int) : ASt := ⟨[(0, .ro .u64 x0), (3, .int .i64 x1), (4, .own 0), (5, .int .i64 x2)], [.ints 25 .u64 x3]⟩
noncomputable def abacusref02_Short.A (c106 : List Int → Option (Int)) (n : Nat) (J : Nat → (ASt → Option (List Int)) → ASt → Option (List Int)) (q : Nat) (ms : List Nat) : ASt → Option (List Int) := acont (abacusref02_Short.cfg c106) J abacusref02_Short.cuts n q abacusref02_Short.code 1 ms (aend (abacusref02_Short.cfg c106) Tryd.f22.results.toList [true] abacusref02_Short.sg.out)
theorem abacusref02_Short.e0 (c106 : List Int → Option (Int)) (n : Nat) (J : Nat → (ASt → Option (List Int)) → ASt → Option (List Int)) (l0 : List Int) : afun (abacusref02_Short.cfg c106) J abacusref02_Short.cuts n abacusref02_Short.code Tryd.f22.results.toList [true] [.ro .u64 l0] abacusref02_Short.sg.out = abacusref02_Short.b0 c106 (fun y0 y1 y2 y3 => J 245 (abacusref02_Short.A c106 n J 245 [n]) (abacusref02_Short.s245 y0 y1 y2 y3)) l0 := by kernel_rfl
theorem abacusref02_Short.e245 (c106 : List Int → Option (Int)) (n : Nat) (J : Nat → (ASt → Option (List Int)) → ASt → Option (List Int)) (m : Nat) (x0 : List Int) (x1 : Int) (x2 : Int) (x3 : List Int) : abacusref02_Short.A c106 n J 245 [m + 1] (abacusref02_Short.s245 x0 x1 x2 x3) = abacusref02_Short.b245 c106 (fun y0 y1 y2 y3 => J 245 (abacusref02_Short.A c106 n J 245 [m]) (abacusref02_Short.s245 y0 y1 y2 y3)) x0 x1 x2 x3 := by kernel_rfl
theorem abacusref02_Short.q245 (n : Nat) (m : Nat) : ∀ (x0 : List Int) (x1 : Int) (x2 : Int) (x3 : List Int), abacusref02_Short.A (abacusref02_Top.f n) n idJ 245 [m] (abacusref02_Short.s245 x0 x1 x2 x3) = abacusref02_Short.l245 n m x0 x1 x2 x3 := by
  induction m with
  | zero => intros; rfl
  | succ m ih =>
    intro x0 x1 x2 x3
    refine (abacusref02_Short.e245 (abacusref02_Top.f n) n idJ m x0 x1 x2 x3).trans ?_
    exact congrFun (congrFun (congrFun (congrFun (congrArg (abacusref02_Short.b245 (abacusref02_Top.f n)) (funext fun y0 => (funext fun y1 => (funext fun y2 => (funext fun y3 => ih y0 y1 y2 y3))))) x0) x1) x2) x3
theorem abacusref02_Short.eq (n : Nat) (l0 : List Int) : afun (abacusref02_Short.cfg (abacusref02_Top.f n)) idJ abacusref02_Short.cuts n abacusref02_Short.code Tryd.f22.results.toList [true] [.ro .u64 l0] abacusref02_Short.sg.out = abacusref02_Short.f n l0 := (abacusref02_Short.e0 (abacusref02_Top.f n) n idJ l0).trans (congrFun (congrArg (abacusref02_Short.b0 (abacusref02_Top.f n)) (funext fun y0 => (funext fun y1 => (funext fun y2 => (funext fun y3 => abacusref02_Short.q245 n n y0 y1 y2 y3))))) l0)
theorem abacusref02_Short.ok {n : Nat} {l0 : List Int} {r : List Int} (h : abacusref02_Short.f n l0 = some r) : CallD Tryd.prog HW 22 [.ro .u64 l0] (abacusref02_Short.sg.enc r) :=
  fun_some hwS Tryd.func22 (by kernel_rfl) (body := abacusref02_Short.code) (by kernel_rfl) tys_ok (c := abacusref02_Short.cfg (abacusref02_Top.f n)) (orCall_ok (abacusref02_Top.call_ok (n := n)) noCall_ok) noW_ok (by kernel_rfl) (by kernel_rfl) (Nat.le_of_ble_eq_true (by kernel_rfl)) ((abacusref02_Short.eq n l0).trans h)
noncomputable def abacusref02_Short.call {α : Type} (g : List Int → Option (List Int)) (ds : List D) (K : List D → Option α) : Option α := match ds with
  | [.ro .u64 l0] => (g l0).bind fun r => K (abacusref02_Short.sg.enc r)
  | _ => none
theorem abacusref02_Short.call_ok {α : Type} {n : Nat} (ds : List D) (K : List D → Option α) (r : α) (h : abacusref02_Short.call (abacusref02_Short.f n) ds K = some r) : ∃ rs, K rs = some r ∧ CallD Tryd.prog HW 22 ds rs := by
  unfold abacusref02_Short.call at h
  split at h
  · obtain ⟨x, hx, hk⟩ := Option.bind_eq_some_iff.1 h
    exact ⟨_, hk, abacusref02_Short.ok (n := n) hx⟩
  · cases h
/-! ### abacusref02_Times: function 198 -/
noncomputable def abacusref02_Times.b0 (c22 : List Int → Option (List Int)) (c238 : List Int → Option (List Int)) (k501 : List Int → List Int → Int → List Int → Option (List Int)) (l0 : List Int) (l1 : List Int) : Option (List Int) := ((c238 l0).bind fun t1 => ((c238 l1).bind fun t2 => (if 0 ≤ (wrap64 ((ln t1) + (ln t2))) then (if (wrap64 ((ln t1) + (ln t2))).toNat ≤ 35184372088832 then k501 t1 t2 0 (List.replicate (wrap64 ((ln t1) + (ln t2))).toNat (0 : Int)) else none) else none)))
noncomputable def abacusref02_Times.b63 (c22 : List Int → Option (List Int)) (c238 : List Int → Option (List Int)) (k2037 : Int → List Int → List Int → Option (List Int)) (x0 : List Int) : Option (List Int) := (if 0 ≤ (wrap64 (Int.tdiv (ln x0) 2)) then (if (wrap64 (Int.tdiv (ln x0) 2)).toNat ≤ 35184372088832 then k2037 0 x0 (List.replicate (wrap64 (Int.tdiv (ln x0) 2)).toNat (0 : Int)) else none) else none)
noncomputable def abacusref02_Times.b255 (c22 : List Int → Option (List Int)) (c238 : List Int → Option (List Int)) (x0 : List Int) : Option (List Int) := ((c22 x0).bind fun t1 => some t1)
noncomputable def abacusref02_Times.b501 (c22 : List Int → Option (List Int)) (c238 : List Int → Option (List Int)) (k63 : List Int → Option (List Int)) (k128149 : List Int → List Int → Int → Int → Int → List Int → Option (List Int)) (x0 : List Int) (x1 : List Int) (x2 : Int) (x3 : List Int) : Option (List Int) := (if x2 < (ln x0) then k128149 x0 x1 x2 0 0 x3 else k63 x3)
noncomputable def abacusref02_Times.b2037 (c22 : List Int → Option (List Int)) (c238 : List Int → Option (List Int)) (k255 : List Int → Option (List Int)) (k2037 : Int → List Int → List Int → Option (List Int)) (x0 : Int) (x1 : List Int) (x2 : List Int) : Option (List Int) := (if x0 < (ln x2) then (if 0 ≤ (wrap64 (2 * x0)) then (if (wrap64 (2 * x0)) < (ln x1) then (if 0 ≤ (wrap64 ((wrap64 (2 * x0)) + 1)) then (if (wrap64 ((wrap64 (2 * x0)) + 1)) < (ln x1) then (if 0 ≤ x0 then (if x0 < (ln x2) then k2037 (wrap64 (x0 + 1)) x1 (x2.set (x0 : Int).toNat (Go.bits .or .u64 (rd x1 (wrap64 (2 * x0))) (IntKind.u64.wrap ((rd x1 (wrap64 ((wrap64 (2 * x0)) + 1))) * 4294967296)))) else none) else none) else none) else none) else none) else none) else k255 x2)
noncomputable def abacusref02_Times.b16019 (c22 : List Int → Option (List Int)) (c238 : List Int → Option (List Int)) (k501 : List Int → List Int → Int → List Int → Option (List Int)) (x0 : List Int) (x1 : List Int) (x2 : Int) (x3 : Int) (x4 : List Int) : Option (List Int) := (if 0 ≤ (wrap64 (x2 + (ln x1))) then (if (wrap64 (x2 + (ln x1))) < (ln x4) then k501 x0 x1 (wrap64 (x2 + 1)) (x4.set (wrap64 (x2 + (ln x1)) : Int).toNat x3) else none) else none)
noncomputable def abacusref02_Times.b128149 (c22 : List Int → Option (List Int)) (c238 : List Int → Option (List Int)) (k16019 : List Int → List Int → Int → Int → List Int → Option (List Int)) (k128149 : List Int → List Int → Int → Int → Int → List Int → Option (List Int)) (x0 : List Int) (x1 : List Int) (x2 : Int) (x3 : Int) (x4 : Int) (x5 : List Int) : Option (List Int) := (if x4 < (ln x1) then (if 0 ≤ x2 then (if x2 < (ln x0) then (if 0 ≤ x4 then (if x4 < (ln x1) then (if 0 ≤ (wrap64 (x2 + x4)) then (if (wrap64 (x2 + x4)) < (ln x5) then (if 0 ≤ (wrap64 (x2 + x4)) then (if (wrap64 (x2 + x4)) < (ln x5) then k128149 x0 x1 x2 ((IntKind.u64.wrap ((IntKind.u64.wrap ((IntKind.u64.wrap ((rd x0 x2) * (rd x1 x4))) + (rd x5 (wrap64 (x2 + x4))))) + x3)) / 4294967296) (wrap64 (x4 + 1)) (x5.set (wrap64 (x2 + x4) : Int).toNat (Go.bits .and .u64 (IntKind.u64.wrap ((IntKind.u64.wrap ((IntKind.u64.wrap ((rd x0 x2) * (rd x1 x4))) + (rd x5 (wrap64 (x2 + x4))))) + x3)) 4294967295)) else none) else none) else none) else none) else none) else none) else none) else none) else k16019 x0 x1 x2 x3 x5)
noncomputable def abacusref02_Times.l255 (n : Nat) (x0 : List Int) : Option (List Int) := abacusref02_Times.b255 (abacusref02_Short.f n) (abacusref02_halfWords.f n) x0
noncomputable def abacusref02_Times.l2037 (n : Nat) : Nat → Int → List Int → List Int → Option (List Int)
  | 0, _, _, _ => none
  | m + 1, x0, x1, x2 => abacusref02_Times.b2037 (abacusref02_Short.f n) (abacusref02_halfWords.f n) (abacusref02_Times.l255 n) (abacusref02_Times.l2037 n m) x0 x1 x2
noncomputable def abacusref02_Times.l63 (n : Nat) (x0 : List Int) : Option (List Int) := abacusref02_Times.b63 (abacusref02_Short.f n) (abacusref02_halfWords.f n) (abacusref02_Times.l2037 n n) x0
noncomputable def abacusref02_Times.l16019 (n : Nat) (k501 : List Int → List Int → Int → List Int → Option (List Int)) (x0 : List Int) (x1 : List Int) (x2 : Int) (x3 : Int) (x4 : List Int) : Option (List Int) := abacusref02_Times.b16019 (abacusref02_Short.f n) (abacusref02_halfWords.f n) k501 x0 x1 x2 x3 x4
noncomputable def abacusref02_Times.l128149 (n : Nat) (k501 : List Int → List Int → Int → List Int → Option (List Int)) : Nat → List Int → List Int → Int → Int → Int → List Int → Option (List Int)
  | 0, _, _, _, _, _, _ => none
  | m + 1, x0, x1, x2, x3, x4, x5 => abacusref02_Times.b128149 (abacusref02_Short.f n) (abacusref02_halfWords.f n) (abacusref02_Times.l16019 n k501) (abacusref02_Times.l128149 n k501 m) x0 x1 x2 x3 x4 x5
noncomputable def abacusref02_Times.l501 (n : Nat) : Nat → List Int → List Int → Int → List Int → Option (List Int)
  | 0, _, _, _, _ => none
  | m + 1, x0, x1, x2, x3 => abacusref02_Times.b501 (abacusref02_Short.f n) (abacusref02_halfWords.f n) (abacusref02_Times.l63 n) (abacusref02_Times.l128149 n (abacusref02_Times.l501 n m) n) x0 x1 x2 x3
noncomputable def abacusref02_Times.f (n : Nat) (l0 : List Int) (l1 : List Int) : Option (List Int) := abacusref02_Times.b0 (abacusref02_Short.f n) (abacusref02_halfWords.f n) (abacusref02_Times.l501 n n) l0 l1
noncomputable def abacusref02_Times.sg : Sig (List Int) := s1 (sRow .u64)
noncomputable def abacusref02_Times.code : Code := (Tryd.f198.body).getD .skip
noncomputable def abacusref02_Times.cfg (c22 : List Int → Option (List Int)) (c238 : List Int → Option (List Int)) : Cfg (List Int) := { T := tys, call := orCall 22 (abacusref02_Short.call c22) (orCall 238 (abacusref02_halfWords.call c238) (noCall)) }
noncomputable def abacusref02_Times.cuts : List (Nat × List (Nat × Want)) := [(63, [(7, .keep)]), (255, [(12, .keep)]), (501, [(5, .keep), (6, .keep), (7, .keep), (8, .keep)]), (2037, [(7, .keep), (12, .keep), (13, .keep)]), (16019, [(5, .keep), (6, .keep), (7, .keep), (8, .keep), (9, .keep)]), (128149, [(5, .keep), (6, .keep), (7, .keep), (8, .keep), (9, .keep), (10, .keep)])]
noncomputable def abacusref02_Times.s63 (x0 : List Int) : ASt := ⟨[(7, .own 0)], [.ints 25 .u64 x0]⟩
noncomputable def abacusref02_Times.s255 (x0 : List Int) : ASt := ⟨[(12, .own 0)], [.ints 25 .u64 x0]⟩
noncomputable def abacusref02_Times.s501 (x0 : List Int) (x1 : List Int) (x2 : Int) (x3 : List Int) : ASt := ⟨[(5, .ro .u64 x0), (6, .ro .u64 x1), (7, .own 0), (8, .int .i64 x2)], [.ints 25 .u64 x3]⟩
noncomputable def abacusref02_Times.s2037 (x0 : Int) (x1 : List Int) (x2 : List Int) : ASt := ⟨[(7, .own 0), (12, .own 1), (13, .int .i64 x0)], [.ints 25 .u64 x1, .ints 25 .u64 x2]⟩
noncomputable def abacusref02_Times.s16019 (x0 : List Int) (x1 : List Int) (x2 : Int) (x3 : Int) (x4 : List Int) : ASt := ⟨[(5, .ro .u64 x0), (6, .ro .u64 x1), (7, .own 0), (8, .int .i64 x2), (9, .int .u64 x3)], [.ints 25 .u64 x4]⟩
noncomputable def abacusref02_Times.s128149 (x0 : List Int) (x1 : List Int) (x2 : Int) (x3 : Int) (x4 : Int) (x5 : List Int) : ASt := ⟨[(5, .ro .u64 x0), (6, .ro .u64 x1), (7, .own 0), (8, .int .i64 x2), (9, .int .u64 x3), (10, .int .i64 x4)], [.ints 25 .u64 x5]⟩
noncomputable def abacusref02_Times.A (c22 : List Int → Option (List Int)) (c238 : List Int → Option (List Int)) (n : Nat) (J : Nat → (ASt → Option (List Int)) → ASt → Option (List Int)) (q : Nat) (ms : List Nat) : ASt → Option (List Int) := acont (abacusref02_Times.cfg c22 c238) J abacusref02_Times.cuts n q abacusref02_Times.code 1 ms (aend (abacusref02_Times.cfg c22 c238) Tryd.f198.results.toList [false] abacusref02_Times.sg.out)
theorem abacusref02_Times.e0 (c22 : List Int → Option (List Int)) (c238 : List Int → Option (List Int)) (n : Nat) (J : Nat → (ASt → Option (List Int)) → ASt → Option (List Int)) (l0 : List Int) (l1 : List Int) : afun (abacusref02_Times.cfg c22 c238) J abacusref02_Times.cuts n abacusref02_Times.code Tryd.f198.results.toList [false] [.ro .u64 l0, .ro .u64 l1] abacusref02_Times.sg.out = abacusref02_Times.b0 c22 c238 (fun y0 y1 y2 y3 => J 501 (abacusref02_Times.A c22 c238 n J 501 [n]) (abacusref02_Times.s501 y0 y1 y2 y3)) l0 l1 := by kernel_rfl
theorem abacusref02_Times.e63 (c22 : List Int → Option (List Int)) (c238 : List Int → Option (List Int)) (n : Nat) (J : Nat → (ASt → Option (List Int)) → ASt → Option (List Int)) (x0 : List Int) : abacusref02_Times.A c22 c238 n J 63 [] (abacusref02_Times.s63 x0) = abacusref02_Times.b63 c22 c238 (fun y0 y1 y2 => J 2037 (abacusref02_Times.A c22 c238 n J 2037 [n]) (abacusref02_Times.s2037 y0 y1 y2)) x0 := by kernel_rfl
theorem abacusref02_Times.e255 (c22 : List Int → Option (List Int)) (c238 : List Int → Option (List Int)) (n : Nat) (J : Nat → (ASt → Option (List Int)) → ASt → Option (List Int)) (x0 : List Int) : abacusref02_Times.A c22 c238 n J 255 [] (abacusref02_Times.s255 x0) = abacusref02_Times.b255 c22 c238 x0 := by kernel_rfl
theorem abacusref02_Times.e501 (c22 : List Int → Option (List Int)) (c238 : List Int → Option (List Int)) (n : Nat) (J : Nat → (ASt → Option (List Int)) → ASt → Option (List Int)) (m : Nat) (x0 : List Int) (x1 : List Int) (x2 : Int) (x3 : List Int) : abacusref02_Times.A c22 c238 n J 501 [m + 1] (abacusref02_Times.s501 x0 x1 x2 x3) = abacusref02_Times.b501 c22 c238 (fun y0 => J 63 (abacusref02_Times.A c22 c238 n J 63 []) (abacusref02_Times.s63 y0)) (fun y0 y1 y2 y3 y4 y5 => J 128149 (abacusref02_Times.A c22 c238 n J 128149 [m, n]) (abacusref02_Times.s128149 y0 y1 y2 y3 y4 y5)) x0 x1 x2 x3 := by kernel_rfl
theorem abacusref02_Times.e2037 (c22 : List Int → Option (List Int)) (c238 : List Int → Option (List Int)) (n : Nat) (J : Nat → (ASt → Option (List Int)) → ASt → Option (List Int)) (m : Nat) (x0 : Int) (x1 : List Int) (x2 : List Int) : abacusref02_Times.A c22 c238 n J 2037 [m + 1] (abacusref02_Times.s2037 x0 x1 x2) = abacusref02_Times.b2037 c22 c238 (fun y0 => J 255 (abacusref02_Times.A c22 c238 n J 255 []) (abacusref02_Times.s255 y0)) (fun y0 y1 y2 => J 2037 (abacusref02_Times.A c22 c238 n J 2037 [m]) (abacusref02_Times.s2037 y0 y1 y2)) x0 x1 x2 := by kernel_rfl
theorem abacusref02_Times.e16019 (c22 : List Int → Option (List Int)) (c238 : List Int → Option (List Int)) (n : Nat) (J : Nat → (ASt → Option (List Int)) → ASt → Option (List Int)) (m501 : Nat) (x0 : List Int) (x1 : List Int) (x2 : Int) (x3 : Int) (x4 : List Int) : abacusref02_Times.A c22 c238 n J 16019 [m501] (abacusref02_Times.s16019 x0 x1 x2 x3 x4) = abacusref02_Times.b16019 c22 c238 (fun y0 y1 y2 y3 => J 501 (abacusref02_Times.A c22 c238 n J 501 [m501]) (abacusref02_Times.s501 y0 y1 y2 y3)) x0 x1 x2 x3 x4 := by kernel_rfl
theorem abacusref02_Times.e128149 (c22 : List Int → Option (List Int)) (c238 : List Int → Option (List Int)) (n : Nat) (J : Nat → (ASt → Option (List Int)) → ASt → Option (List Int)) (m501 : Nat) (m : Nat) (x0 : List Int) (x1 : List Int) (x2 : Int) (x3 : Int) (x4 : Int) (x5 : List Int) : abacusref02_Times.A c22 c238 n J 128149 [m501, m + 1] (abacusref02_Times.s128149 x0 x1 x2 x3 x4 x5) = abacusref02_Times.b128149 c22 c238 (fun y0 y1 y2 y3 y4 => J 16019 (abacusref02_Times.A c22 c238 n J 16019 [m501]) (abacusref02_Times.s16019 y0 y1 y2 y3 y4)) (fun y0 y1 y2 y3 y4 y5 => J 128149 (abacusref02_Times.A c22 c238 n J 128149 [m501, m]) (abacusref02_Times.s128149 y0 y1 y2 y3 y4 y5)) x0 x1 x2 x3 x4 x5 := by kernel_rfl
theorem abacusref02_Times.q255 (n : Nat) (x0 : List Int) : abacusref02_Times.A (abacusref02_Short.f n) (abacusref02_halfWords.f n) n idJ 255 [] (abacusref02_Times.s255 x0) = abacusref02_Times.l255 n x0 := (abacusref02_Times.e255 (abacusref02_Short.f n) (abacusref02_halfWords.f n) n idJ x0).trans (rfl)
theorem abacusref02_Times.q2037 (n : Nat) (m : Nat) : ∀ (x0 : Int) (x1 : List Int) (x2 : List Int), abacusref02_Times.A (abacusref02_Short.f n) (abacusref02_halfWords.f n) n idJ 2037 [m] (abacusref02_Times.s2037 x0 x1 x2) = abacusref02_Times.l2037 n m x0 x1 x2 := by
  induction m with
  | zero => intros; rfl
  | succ m ih =>
    intro x0 x1 x2
    refine (abacusref02_Times.e2037 (abacusref02_Short.f n) (abacusref02_halfWords.f n) n idJ m x0 x1 x2).trans ?_
    exact congrFun (congrFun (congrFun (congr (congrArg (abacusref02_Times.b2037 (abacusref02_Short.f n) (abacusref02_halfWords.f n)) (funext fun y0 => abacusref02_Times.q255 n y0)) (funext fun y0 => (funext fun y1 => (funext fun y2 => ih y0 y1 y2)))) x0) x1) x2
theorem abacusref02_Times.q63 (n : Nat) (x0 : List Int) : abacusref02_Times.A (abacusref02_Short.f n) (abacusref02_halfWords.f n) n idJ 63 [] (abacusref02_Times.s63 x0) = abacusref02_Times.l63 n x0 := (abacusref02_Times.e63 (abacusref02_Short.f n) (abacusref02_halfWords.f n) n idJ x0).trans (congrFun (congrArg (abacusref02_Times.b63 (abacusref02_Short.f n) (abacusref02_halfWords.f n)) (funext fun y0 => (funext fun y1 => (funext fun y2 => abacusref02_Times.q2037 n n y0 y1 y2)))) x0)
theorem abacusref02_Times.q16019 (n : Nat) (m501 : Nat) (x0 : List Int) (x1 : List Int) (x2 : Int) (x3 : Int) (x4 : List Int) : abacusref02_Times.A (abacusref02_Short.f n) (abacusref02_halfWords.f n) n idJ 16019 [m501] (abacusref02_Times.s16019 x0 x1 x2 x3 x4) = abacusref02_Times.l16019 n (fun y0 y1 y2 y3 => abacusref02_Times.A (abacusref02_Short.f n) (abacusref02_halfWords.f n) n idJ 501 [m501] (abacusref02_Times.s501 y0 y1 y2 y3)) x0 x1 x2 x3 x4 := (abacusref02_Times.e16019 (abacusref02_Short.f n) (abacusref02_halfWords.f n) n idJ m501 x0 x1 x2 x3 x4).trans (rfl)
theorem abacusref02_Times.q128149 (n : Nat) (m501 : Nat) (m : Nat) : ∀ (x0 : List Int) (x1 : List Int) (x2 : Int) (x3 : Int) (x4 : Int) (x5 : List Int), abacusref02_Times.A (abacusref02_Short.f n) (abacusref02_halfWords.f n) n idJ 128149 [m501, m] (abacusref02_Times.s128149 x0 x1 x2 x3 x4 x5) = abacusref02_Times.l128149 n (fun y0 y1 y2 y3 => abacusref02_Times.A (abacusref02_Short.f n) (abacusref02_halfWords.f n) n idJ 501 [m501] (abacusref02_Times.s501 y0 y1 y2 y3)) m x0 x1 x2 x3 x4 x5 := by
  induction m with
  | zero => intros; rfl
  | succ m ih =>
    intro x0 x1 x2 x3 x4 x5
    refine (abacusref02_Times.e128149 (abacusref02_Short.f n) (abacusref02_halfWords.f n) n idJ m501 m x0 x1 x2 x3 x4 x5).trans ?_
    exact congrFun (congrFun (congrFun (congrFun (congrFun (congrFun (congr (congrArg (abacusref02_Times.b128149 (abacusref02_Short.f n) (abacusref02_halfWords.f n)) (funext fun y0 => (funext fun y1 => (funext fun y2 => (funext fun y3 => (funext fun y4 => abacusref02_Times.q16019 n m501 y0 y1 y2 y3 y4)))))) (funext fun y0 => (funext fun y1 => (funext fun y2 => (funext fun y3 => (funext fun y4 => (funext fun y5 => ih y0 y1 y2 y3 y4 y5))))))) x0) x1) x2) x3) x4) x5
theorem abacusref02_Times.q501 (n : Nat) (m : Nat) : ∀ (x0 : List Int) (x1 : List Int) (x2 : Int) (x3 : List Int), abacusref02_Times.A (abacusref02_Short.f n) (abacusref02_halfWords.f n) n idJ 501 [m] (abacusref02_Times.s501 x0 x1 x2 x3) = abacusref02_Times.l501 n m x0 x1 x2 x3 := by
  induction m with
  | zero => intros; rfl
  | succ m ih =>
    intro x0 x1 x2 x3
    refine (abacusref02_Times.e501 (abacusref02_Short.f n) (abacusref02_halfWords.f n) n idJ m x0 x1 x2 x3).trans ?_
    exact congrFun (congrFun (congrFun (congrFun (congr (congrArg (abacusref02_Times.b501 (abacusref02_Short.f n) (abacusref02_halfWords.f n)) (funext fun y0 => abacusref02_Times.q63 n y0)) ((funext fun y0 => (funext fun y1 => (funext fun y2 => (funext fun y3 => (funext fun y4 => (funext fun y5 => abacusref02_Times.q128149 n m n y0 y1 y2 y3 y4 y5)))))).trans (by rw [show (fun y0 y1 y2 y3 => abacusref02_Times.A (abacusref02_Short.f n) (abacusref02_halfWords.f n) n idJ 501 [m] (abacusref02_Times.s501 y0 y1 y2 y3)) = _ from (funext fun y0 => (funext fun y1 => (funext fun y2 => (funext fun y3 => ih y0 y1 y2 y3))))]))) x0) x1) x2) x3
theorem abacusref02_Times.eq (n : Nat) (l0 : List Int) (l1 : List Int) : afun (abacusref02_Times.cfg (abacusref02_Short.f n) (abacusref02_halfWords.f n)) idJ abacusref02_Times.cuts n abacusref02_Times.code Tryd.f198.results.toList [false] [.ro .u64 l0, .ro .u64 l1] abacusref02_Times.sg.out = abacusref02_Times.f n l0 l1 := (abacusref02_Times.e0 (abacusref02_Short.f n) (abacusref02_halfWords.f n) n idJ l0 l1).trans (congrFun (congrFun (congrArg (abacusref02_Times.b0 (abacusref02_Short.f n) (abacusref02_halfWords.f n)) (funext fun y0 => (funext fun y1 => (funext fun y2 => (funext fun y3 => abacusref02_Times.q501 n n y0 y1 y2 y3))))) l0) l1)
theorem abacusref02_Times.ok {n : Nat} {l0 : List Int} {l1 : List Int} {r : List Int} (h : abacusref02_Times.f n l0 l1 = some r) : CallD Tryd.prog HW 198 [.ro .u64 l0, .ro .u64 l1] (abacusref02_Times.sg.enc r) :=
  fun_some hwS Tryd.func198 (by kernel_rfl) (body := abacusref02_Times.code) (by kernel_rfl) tys_ok (c := abacusref02_Times.cfg (abacusref02_Short.f n) (abacusref02_halfWords.f n)) (orCall_ok (abacusref02_Short.call_ok (n := n)) (orCall_ok (abacusref02_halfWords.call_ok (n := n)) noCall_ok)) noW_ok (by kernel_rfl) (by kernel_rfl) (Nat.le_of_ble_eq_true (by kernel_rfl)) ((abacusref02_Times.eq n l0 l1).trans h)
noncomputable def abacusref02_Times.call {α : Type} (g : List Int → List Int → Option (List Int)) (ds : List D) (K : List D → Option α) : Option α := match ds with
  | [.ro .u64 l0, .ro .u64 l1] => (g l0 l1).bind fun r => K (abacusref02_Times.sg.enc r)
  | _ => none
theorem abacusref02_Times.call_ok {α : Type} {n : Nat} (ds : List D) (K : List D → Option α) (r : α) (h : abacusref02_Times.call (abacusref02_Times.f n) ds K = some r) : ∃ rs, K rs = some r ∧ CallD Tryd.prog HW 198 ds rs := by
  unfold abacusref02_Times.call at h
  split at h
  · obtain ⟨x, hx, hk⟩ := Option.bind_eq_some_iff.1 h
    exact ⟨_, hk, abacusref02_Times.ok (n := n) hx⟩
  · cases h
/-! ### abacusref02_power: function 194 -/
noncomputable def abacusref02_power.b0 (c106 : List Int → Option (Int)) (c194 : List Int → Int → Option (List Int × Bool)) (c198 : List Int → List Int → Option (List Int)) (k127 : List Int → Option (List Int × Bool)) (l0 : List Int) (a1 : Int) : Option (List Int × Bool) := (if a1 = 0 then some ([1], true) else ((c194 l0 (wrap64 (Int.tdiv a1 2))).bind fun t1 => (if (!t1.2) = true then some (([] : List Int), false) else (if (wrap64 ((wrap64 (2 * (ln t1.1))) - 1)) > 4096 then some (([] : List Int), false) else ((c198 t1.1 t1.1).bind fun t2 => (if (Int.tmod a1 2) = 1 then (if (ln t2) > 4096 then some (([] : List Int), false) else ((c106 l0).bind fun t3 => (if (wrap64 ((wrap64 ((ln t2) + t3)) - 1)) > 4096 then some (([] : List Int), false) else ((c198 t2 l0).bind fun t4 => k127 t4)))) else k127 t2))))))
noncomputable def abacusref02_power.b127 (c106 : List Int → Option (Int)) (c194 : List Int → Int → Option (List Int × Bool)) (c198 : List Int → List Int → Option (List Int)) (x0 : List Int) : Option (List Int × Bool) := (if (ln x0) > 4096 then some (([] : List Int), false) else some (x0, true))
noncomputable def abacusref02_power.l127 (n : Nat) (s : List Int → Int → Option (List Int × Bool)) (x0 : List Int) : Option (List Int × Bool) := abacusref02_power.b127 (abacusref02_Top.f n) s (abacusref02_Times.f n) x0
/-- To a depth of d calls of itself. -/
noncomputable def abacusref02_power.g (n : Nat) : Nat → List Int → Int → Option (List Int × Bool)
  | 0 => fun _ _ => none
  | d + 1 => fun l0 a1 => abacusref02_power.b0 (abacusref02_Top.f n) (abacusref02_power.g n d) (abacusref02_Times.f n) (abacusref02_power.l127 n (abacusref02_power.g n d)) l0 a1
noncomputable def abacusref02_power.f (n : Nat) (l0 : List Int) (a1 : Int) : Option (List Int × Bool) := abacusref02_power.g n n l0 a1
noncomputable def abacusref02_power.sg : Sig (List Int × Bool) := s2 (sRow .u64) (s1 (sBool))
noncomputable def abacusref02_power.call {α : Type} (g : List Int → Int → Option (List Int × Bool)) (ds : List D) (K : List D → Option α) : Option α := match ds with
  | [.ro .u64 l0, .int .i64 a1] => (g l0 a1).bind fun r => K (abacusref02_power.sg.enc r)
  | _ => none
theorem abacusref02_power.call_of {α : Type} {g : List Int → Int → Option (List Int × Bool)} (hg : ∀ (l0 : List Int) (a1 : Int) (r : List Int × Bool), g l0 a1 = some r → CallD Tryd.prog HW 194 [.ro .u64 l0, .int .i64 a1] (abacusref02_power.sg.enc r)) (ds : List D) (K : List D → Option α) (r : α) (h : abacusref02_power.call g ds K = some r) : ∃ rs, K rs = some r ∧ CallD Tryd.prog HW 194 ds rs := by
  unfold abacusref02_power.call at h
  split at h
  · obtain ⟨x, hx, hk⟩ := Option.bind_eq_some_iff.1 h
    exact ⟨_, hk, hg _ _ _ hx⟩
  · cases h
noncomputable def abacusref02_power.code : Code := (Tryd.f194.body).getD .skip
noncomputable def abacusref02_power.cfg (c106 : List Int → Option (Int)) (c194 : List Int → Int → Option (List Int × Bool)) (c198 : List Int → List Int → Option (List Int)) : Cfg (List Int × Bool) := { T := tys, call := orCall 106 (abacusref02_Top.call c106) (orCall 194 (abacusref02_power.call c194) (orCall 198 (abacusref02_Times.call c198) (noCall))) }
noncomputable def abacusref02_power.cuts : List (Nat × List (Nat × Want)) := [(127, [(8, .keep)])]
noncomputable def abacusref02_power.s127 (x0 : List Int) : ASt := ⟨[(8, .ro .u64 x0)], []⟩
noncomputable def abacusref02_power.A (c106 : List Int → Option (Int)) (c194 : List Int → Int → Option (List Int × Bool)) (c198 : List Int → List Int → Option (List Int)) (n : Nat) (J : Nat → (ASt → Option (List Int × Bool)) → ASt → Option (List Int × Bool)) (q : Nat) (ms : List Nat) : ASt → Option (List Int × Bool) := acont (abacusref02_power.cfg c106 c194 c198) J abacusref02_power.cuts n q abacusref02_power.code 1 ms (aend (abacusref02_power.cfg c106 c194 c198) Tryd.f194.results.toList [false, false] abacusref02_power.sg.out)
theorem abacusref02_power.e0 (c106 : List Int → Option (Int)) (c194 : List Int → Int → Option (List Int × Bool)) (c198 : List Int → List Int → Option (List Int)) (n : Nat) (J : Nat → (ASt → Option (List Int × Bool)) → ASt → Option (List Int × Bool)) (l0 : List Int) (a1 : Int) : afun (abacusref02_power.cfg c106 c194 c198) J abacusref02_power.cuts n abacusref02_power.code Tryd.f194.results.toList [false, false] [.ro .u64 l0, .int .i64 a1] abacusref02_power.sg.out = abacusref02_power.b0 c106 c194 c198 (fun y0 => J 127 (abacusref02_power.A c106 c194 c198 n J 127 []) (abacusref02_power.s127 y0)) l0 a1 := by kernel_rfl
theorem abacusref02_power.e127 (c106 : List Int → Option (Int)) (c194 : List Int → Int → Option (List Int × Bool)) (c198 : List Int → List Int → Option (List Int)) (n : Nat) (J : Nat → (ASt → Option (List Int × Bool)) → ASt → Option (List Int × Bool)) (x0 : List Int) : abacusref02_power.A c106 c194 c198 n J 127 [] (abacusref02_power.s127 x0) = abacusref02_power.b127 c106 c194 c198 x0 := by kernel_rfl
theorem abacusref02_power.q127 (n : Nat) (s : List Int → Int → Option (List Int × Bool)) (x0 : List Int) : abacusref02_power.A (abacusref02_Top.f n) s (abacusref02_Times.f n) n idJ 127 [] (abacusref02_power.s127 x0) = abacusref02_power.l127 n s x0 := (abacusref02_power.e127 (abacusref02_Top.f n) s (abacusref02_Times.f n) n idJ x0).trans (rfl)
theorem abacusref02_power.eq (n : Nat) (s : List Int → Int → Option (List Int × Bool)) (l0 : List Int) (a1 : Int) : afun (abacusref02_power.cfg (abacusref02_Top.f n) s (abacusref02_Times.f n)) idJ abacusref02_power.cuts n abacusref02_power.code Tryd.f194.results.toList [false, false] [.ro .u64 l0, .int .i64 a1] abacusref02_power.sg.out = abacusref02_power.b0 (abacusref02_Top.f n) s (abacusref02_Times.f n) (abacusref02_power.l127 n s) l0 a1 := (abacusref02_power.e0 (abacusref02_Top.f n) s (abacusref02_Times.f n) n idJ l0 a1).trans (congrFun (congrFun (congrArg (abacusref02_power.b0 (abacusref02_Top.f n) s (abacusref02_Times.f n)) (funext fun y0 => abacusref02_power.q127 n s y0)) l0) a1)
theorem abacusref02_power.gok {n : Nat} : ∀ (d : Nat) (l0 : List Int) (a1 : Int) (r : List Int × Bool), abacusref02_power.g n d l0 a1 = some r → CallD Tryd.prog HW 194 [.ro .u64 l0, .int .i64 a1] (abacusref02_power.sg.enc r)
  | 0, _, _, _, h => by cases h
  | d + 1, l0, a1, r, h => by
    have ih := @abacusref02_power.gok n d
    exact fun_some hwS Tryd.func194 (by kernel_rfl) (body := abacusref02_power.code) (by kernel_rfl) tys_ok (c := abacusref02_power.cfg (abacusref02_Top.f n) (abacusref02_power.g n d) (abacusref02_Times.f n)) (orCall_ok (abacusref02_Top.call_ok (n := n)) (orCall_ok (abacusref02_power.call_of (g := abacusref02_power.g n d) ih) (orCall_ok (abacusref02_Times.call_ok (n := n)) noCall_ok))) noW_ok (by kernel_rfl) (by kernel_rfl) (Nat.le_of_ble_eq_true (by kernel_rfl)) ((abacusref02_power.eq n (abacusref02_power.g n d) l0 a1).trans h)
theorem abacusref02_power.ok {n : Nat} {l0 : List Int} {a1 : Int} {r : List Int × Bool} (h : abacusref02_power.f n l0 a1 = some r) : CallD Tryd.prog HW 194 [.ro .u64 l0, .int .i64 a1] (abacusref02_power.sg.enc r) := abacusref02_power.gok n l0 a1 r h
theorem abacusref02_power.call_ok {α : Type} {n : Nat} (ds : List D) (K : List D → Option α) (r : α) (h : abacusref02_power.call (abacusref02_power.f n) ds K = some r) : ∃ rs, K rs = some r ∧ CallD Tryd.prog HW 194 ds rs := by
  unfold abacusref02_power.call at h
  split at h
  · obtain ⟨x, hx, hk⟩ := Option.bind_eq_some_iff.1 h
    exact ⟨_, hk, abacusref02_power.ok (n := n) hx⟩
  · cases h
/-! ### abacusref02_Pow: function 100 -/
noncomputable def abacusref02_Pow.b0 (c106 : List Int → Option (Int)) (c193 : List Int → List Int → Option (Bool)) (c194 : List Int → Int → Option (List Int × Bool)) (l0 : List Int) (a1 : Int) : Option (List Int × Int) := ((c106 l0).bind fun t1 => (if t1 > 4096 then some (([] : List Int), 2) else (if a1 < 0 then some (([] : List Int), 1) else (if a1 = 0 then some ([1], 0) else ((c193 l0 [1]).bind fun t2 => (if t2 = true then some ([1], 0) else ((c106 l0).bind fun t3 => (if t3 = 0 then some (([] : List Int), 0) else ((c194 l0 a1).bind fun t4 => (if (!t4.2) = true then some (([] : List Int), 2) else some (t4.1, 0)))))))))))
noncomputable def abacusref02_Pow.f (n : Nat) (l0 : List Int) (a1 : Int) : Option (List Int × Int) := abacusref02_Pow.b0 (abacusref02_Top.f n) (abacusref02_Same.f n) (abacusref02_power.f n) l0 a1
noncomputable def abacusref02_Pow.sg : Sig (List Int × Int) := s2 (sRow .u64) (s1 (sInt .i64))
noncomputable def abacusref02_Pow.code : Code := (Tryd.f100.body).getD .skip
noncomputable def abacusref02_Pow.cfg (c106 : List Int → Option (Int)) (c193 : List Int → List Int → Option (Bool)) (c194 : List Int → Int → Option (List Int × Bool)) : Cfg (List Int × Int) := { T := tys, call := orCall 106 (abacusref02_Top.call c106) (orCall 193 (abacusref02_Same.call c193) (orCall 194 (abacusref02_power.call c194) (noCall))) }
noncomputable def abacusref02_Pow.cuts : List (Nat × List (Nat × Want)) := []
theorem abacusref02_Pow.e0 (c106 : List Int → Option (Int)) (c193 : List Int → List Int → Option (Bool)) (c194 : List Int → Int → Option (List Int × Bool)) (n : Nat) (J : Nat → (ASt → Option (List Int × Int)) → ASt → Option (List Int × Int)) (l0 : List Int) (a1 : Int) : afun (abacusref02_Pow.cfg c106 c193 c194) J abacusref02_Pow.cuts n abacusref02_Pow.code Tryd.f100.results.toList [false, false] [.ro .u64 l0, .int .i64 a1] abacusref02_Pow.sg.out = abacusref02_Pow.b0 c106 c193 c194 l0 a1 := by kernel_rfl
theorem abacusref02_Pow.eq (n : Nat) (l0 : List Int) (a1 : Int) : afun (abacusref02_Pow.cfg (abacusref02_Top.f n) (abacusref02_Same.f n) (abacusref02_power.f n)) idJ abacusref02_Pow.cuts n abacusref02_Pow.code Tryd.f100.results.toList [false, false] [.ro .u64 l0, .int .i64 a1] abacusref02_Pow.sg.out = abacusref02_Pow.f n l0 a1 := (abacusref02_Pow.e0 (abacusref02_Top.f n) (abacusref02_Same.f n) (abacusref02_power.f n) n idJ l0 a1).trans (rfl)
theorem abacusref02_Pow.ok {n : Nat} {l0 : List Int} {a1 : Int} {r : List Int × Int} (h : abacusref02_Pow.f n l0 a1 = some r) : CallD Tryd.prog HW 100 [.ro .u64 l0, .int .i64 a1] (abacusref02_Pow.sg.enc r) :=
  fun_some hwS Tryd.func100 (by kernel_rfl) (body := abacusref02_Pow.code) (by kernel_rfl) tys_ok (c := abacusref02_Pow.cfg (abacusref02_Top.f n) (abacusref02_Same.f n) (abacusref02_power.f n)) (orCall_ok (abacusref02_Top.call_ok (n := n)) (orCall_ok (abacusref02_Same.call_ok (n := n)) (orCall_ok (abacusref02_power.call_ok (n := n)) noCall_ok))) noW_ok (by kernel_rfl) (by kernel_rfl) (Nat.le_of_ble_eq_true (by kernel_rfl)) ((abacusref02_Pow.eq n l0 a1).trans h)
noncomputable def abacusref02_Pow.call {α : Type} (g : List Int → Int → Option (List Int × Int)) (ds : List D) (K : List D → Option α) : Option α := match ds with
  | [.ro .u64 l0, .int .i64 a1] => (g l0 a1).bind fun r => K (abacusref02_Pow.sg.enc r)
  | _ => none
theorem abacusref02_Pow.call_ok {α : Type} {n : Nat} (ds : List D) (K : List D → Option α) (r : α) (h : abacusref02_Pow.call (abacusref02_Pow.f n) ds K = some r) : ∃ rs, K rs = some r ∧ CallD Tryd.prog HW 100 ds rs := by
  unfold abacusref02_Pow.call at h
  split at h
  · obtain ⟨x, hx, hk⟩ := Option.bind_eq_some_iff.1 h
    exact ⟨_, hk, abacusref02_Pow.ok (n := n) hx⟩
  · cases h
/-! ### nat_size: function 180 -/
noncomputable def nat_size.b0 (k57 : List Int → Int → Option (Int)) (l0 : List Int) : Option (Int) := k57 l0 (ln l0)
noncomputable def nat_size.b57 (k57 : List Int → Int → Option (Int)) (x0 : List Int) (x1 : Int) : Option (Int) := (if x1 > 0 then (if 0 ≤ (wrap64 (x1 - 1)) then (if (wrap64 (x1 - 1)) < (ln x0) then (if (rd x0 (wrap64 (x1 - 1))) = 0 then k57 x0 (wrap64 (x1 - 1)) else some x1) else none) else none) else some x1)
noncomputable def nat_size.l57 (n : Nat) : Nat → List Int → Int → Option (Int)
  | 0, _, _ => none
  | m + 1, x0, x1 => nat_size.b57 (nat_size.l57 n m) x0 x1
noncomputable def nat_size.f (n : Nat) (l0 : List Int) : Option (Int) := nat_size.b0 (nat_size.l57 n n) l0
noncomputable def nat_size.sg : Sig (Int) := s1 (sInt .i64)
noncomputable def nat_size.code : Code := (Tryd.f180.body).getD .skip
noncomputable def nat_size.cfg : Cfg (Int) := { T := tys, call := noCall }
noncomputable def nat_size.cuts : List (Nat × List (Nat × Want)) := [(57, [(0, .keep), (3, .keep)])]
noncomputable def nat_size.s57 (x0 : List Int) (x1 : Int) : ASt := ⟨[(0, .ro .u64 x0), (3, .int .i64 x1)], []⟩
noncomputable def nat_size.A (n : Nat) (J : Nat → (ASt → Option (Int)) → ASt → Option (Int)) (q : Nat) (ms : List Nat) : ASt → Option (Int) := acont (nat_size.cfg) J nat_size.cuts n q nat_size.code 1 ms (aend (nat_size.cfg) Tryd.f180.results.toList [false] nat_size.sg.out)
theorem nat_size.e0 (n : Nat) (J : Nat → (ASt → Option (Int)) → ASt → Option (Int)) (l0 : List Int) : afun (nat_size.cfg) J nat_size.cuts n nat_size.code Tryd.f180.results.toList [false] [.ro .u64 l0] nat_size.sg.out = nat_size.b0 (fun y0 y1 => J 57 (nat_size.A n J 57 [n]) (nat_size.s57 y0 y1)) l0 := by kernel_rfl
theorem nat_size.e57 (n : Nat) (J : Nat → (ASt → Option (Int)) → ASt → Option (Int)) (m : Nat) (x0 : List Int) (x1 : Int) : nat_size.A n J 57 [m + 1] (nat_size.s57 x0 x1) = nat_size.b57 (fun y0 y1 => J 57 (nat_size.A n J 57 [m]) (nat_size.s57 y0 y1)) x0 x1 := by kernel_rfl
theorem nat_size.q57 (n : Nat) (m : Nat) : ∀ (x0 : List Int) (x1 : Int), nat_size.A n idJ 57 [m] (nat_size.s57 x0 x1) = nat_size.l57 n m x0 x1 := by
  induction m with
  | zero => intros; rfl
  | succ m ih =>
    intro x0 x1
    refine (nat_size.e57 n idJ m x0 x1).trans ?_
    exact congrFun (congrFun (congrArg nat_size.b57 (funext fun y0 => (funext fun y1 => ih y0 y1))) x0) x1
theorem nat_size.eq (n : Nat) (l0 : List Int) : afun (nat_size.cfg) idJ nat_size.cuts n nat_size.code Tryd.f180.results.toList [false] [.ro .u64 l0] nat_size.sg.out = nat_size.f n l0 := (nat_size.e0 n idJ l0).trans (congrFun (congrArg nat_size.b0 (funext fun y0 => (funext fun y1 => nat_size.q57 n n y0 y1))) l0)
theorem nat_size.ok {n : Nat} {l0 : List Int} {r : Int} (h : nat_size.f n l0 = some r) : CallD Tryd.prog HW 180 [.ro .u64 l0] (nat_size.sg.enc r) :=
  fun_some hwS Tryd.func180 (by kernel_rfl) (body := nat_size.code) (by kernel_rfl) tys_ok (c := nat_size.cfg) noCall_ok noW_ok (by kernel_rfl) (by kernel_rfl) (Nat.le_of_ble_eq_true (by kernel_rfl)) ((nat_size.eq n l0).trans h)
noncomputable def nat_size.call {α : Type} (g : List Int → Option (Int)) (ds : List D) (K : List D → Option α) : Option α := match ds with
  | [.ro .u64 l0] => (g l0).bind fun r => K (nat_size.sg.enc r)
  | _ => none
theorem nat_size.call_ok {α : Type} {n : Nat} (ds : List D) (K : List D → Option α) (r : α) (h : nat_size.call (nat_size.f n) ds K = some r) : ∃ rs, K rs = some r ∧ CallD Tryd.prog HW 180 ds rs := by
  unfold nat_size.call at h
  split at h
  · obtain ⟨x, hx, hk⟩ := Option.bind_eq_some_iff.1 h
    exact ⟨_, hk, nat_size.ok (n := n) hx⟩
  · cases h
/-! ### nat_Trim: function 86 -/
noncomputable def nat_Trim.b0 (c180 : List Int → Option (Int)) (l0 : List Int) : Option (List Int) := ((c180 l0).bind fun t1 => (if 0 ≤ t1 then (if t1.toNat ≤ 35184372088832 then (if 0 ≤ t1 then (if t1 ≤ (ln l0) then ((some (l0.take t1.toNat) : Option (List Int)).bind fun y2 => (if y2.length = (List.replicate t1.toNat (0 : Int)).length then some y2 else none)) else none) else none) else none) else none))
noncomputable def nat_Trim.f (n : Nat) (l0 : List Int) : Option (List Int) := nat_Trim.b0 (nat_size.f n) l0
noncomputable def nat_Trim.sg : Sig (List Int) := s1 (sRow .u64)
noncomputable def nat_Trim.code : Code := (Tryd.f86.body).getD .skip
noncomputable def nat_Trim.cfg (c180 : List Int → Option (Int)) : Cfg (List Int) := { T := tys, call := orCall 180 (nat_size.call c180) (noCall) }
noncomputable def nat_Trim.cuts : List (Nat × List (Nat × Want)) := []
theorem nat_Trim.e0 (c180 : List Int → Option (Int)) (n : Nat) (J : Nat → (ASt → Option (List Int)) → ASt → Option (List Int)) (l0 : List Int) : afun (nat_Trim.cfg c180) J nat_Trim.cuts n nat_Trim.code Tryd.f86.results.toList [false] [.ro .u64 l0] nat_Trim.sg.out = nat_Trim.b0 c180 l0 := by kernel_rfl
theorem nat_Trim.eq (n : Nat) (l0 : List Int) : afun (nat_Trim.cfg (nat_size.f n)) idJ nat_Trim.cuts n nat_Trim.code Tryd.f86.results.toList [false] [.ro .u64 l0] nat_Trim.sg.out = nat_Trim.f n l0 := (nat_Trim.e0 (nat_size.f n) n idJ l0).trans (rfl)
theorem nat_Trim.ok {n : Nat} {l0 : List Int} {r : List Int} (h : nat_Trim.f n l0 = some r) : CallD Tryd.prog HW 86 [.ro .u64 l0] (nat_Trim.sg.enc r) :=
  fun_some hwS Tryd.func86 (by kernel_rfl) (body := nat_Trim.code) (by kernel_rfl) tys_ok (c := nat_Trim.cfg (nat_size.f n)) (orCall_ok (nat_size.call_ok (n := n)) noCall_ok) noW_ok (by kernel_rfl) (by kernel_rfl) (Nat.le_of_ble_eq_true (by kernel_rfl)) ((nat_Trim.eq n l0).trans h)
noncomputable def nat_Trim.call {α : Type} (g : List Int → Option (List Int)) (ds : List D) (K : List D → Option α) : Option α := match ds with
  | [.ro .u64 l0] => (g l0).bind fun r => K (nat_Trim.sg.enc r)
  | _ => none
theorem nat_Trim.call_ok {α : Type} {n : Nat} (ds : List D) (K : List D → Option α) (r : α) (h : nat_Trim.call (nat_Trim.f n) ds K = some r) : ∃ rs, K rs = some r ∧ CallD Tryd.prog HW 86 ds rs := by
  unfold nat_Trim.call at h
  split at h
  · obtain ⟨x, hx, hk⟩ := Option.bind_eq_some_iff.1 h
    exact ⟨_, hk, nat_Trim.ok (n := n) hx⟩
  · cases h
/-! ### quot_small: function 195 -/
noncomputable def quot_small.b0 (c86 : List Int → Option (List Int)) (l0 : List Int) (a1 : Int) : Option (List Int × Bool) := ((c86 l0).bind fun t1 => some (t1, decide ((ln t1) ≤ a1)))
noncomputable def quot_small.f (n : Nat) (l0 : List Int) (a1 : Int) : Option (List Int × Bool) := quot_small.b0 (nat_Trim.f n) l0 a1
noncomputable def quot_small.sg : Sig (List Int × Bool) := s2 (sRow .u64) (s1 (sBool))
noncomputable def quot_small.code : Code := (Tryd.f195.body).getD .skip
noncomputable def quot_small.cfg (c86 : List Int → Option (List Int)) : Cfg (List Int × Bool) := { T := tys, call := orCall 86 (nat_Trim.call c86) (noCall) }
noncomputable def quot_small.cuts : List (Nat × List (Nat × Want)) := []
theorem quot_small.e0 (c86 : List Int → Option (List Int)) (n : Nat) (J : Nat → (ASt → Option (List Int × Bool)) → ASt → Option (List Int × Bool)) (l0 : List Int) (a1 : Int) : afun (quot_small.cfg c86) J quot_small.cuts n quot_small.code Tryd.f195.results.toList [false, false] [.ro .u64 l0, .int .i64 a1] quot_small.sg.out = quot_small.b0 c86 l0 a1 := by kernel_rfl
theorem quot_small.eq (n : Nat) (l0 : List Int) (a1 : Int) : afun (quot_small.cfg (nat_Trim.f n)) idJ quot_small.cuts n quot_small.code Tryd.f195.results.toList [false, false] [.ro .u64 l0, .int .i64 a1] quot_small.sg.out = quot_small.f n l0 a1 := (quot_small.e0 (nat_Trim.f n) n idJ l0 a1).trans (rfl)
theorem quot_small.ok {n : Nat} {l0 : List Int} {a1 : Int} {r : List Int × Bool} (h : quot_small.f n l0 a1 = some r) : CallD Tryd.prog HW 195 [.ro .u64 l0, .int .i64 a1] (quot_small.sg.enc r) :=
  fun_some hwS Tryd.func195 (by kernel_rfl) (body := quot_small.code) (by kernel_rfl) tys_ok (c := quot_small.cfg (nat_Trim.f n)) (orCall_ok (nat_Trim.call_ok (n := n)) noCall_ok) noW_ok (by kernel_rfl) (by kernel_rfl) (Nat.le_of_ble_eq_true (by kernel_rfl)) ((quot_small.eq n l0 a1).trans h)
noncomputable def quot_small.call {α : Type} (g : List Int → Int → Option (List Int × Bool)) (ds : List D) (K : List D → Option α) : Option α := match ds with
  | [.ro .u64 l0, .int .i64 a1] => (g l0 a1).bind fun r => K (quot_small.sg.enc r)
  | _ => none
theorem quot_small.call_ok {α : Type} {n : Nat} (ds : List D) (K : List D → Option α) (r : α) (h : quot_small.call (quot_small.f n) ds K = some r) : ∃ rs, K rs = some r ∧ CallD Tryd.prog HW 195 ds rs := by
  unfold quot_small.call at h
  split at h
  · obtain ⟨x, hx, hk⟩ := Option.bind_eq_some_iff.1 h
    exact ⟨_, hk, quot_small.ok (n := n) hx⟩
  · cases h
/-! ### bits_Len64: function 176 -/
def bits_Len64.f (a0 : Int) : Option (Int) := if 0 ≤ a0 ∧ a0 ≤ 18446744073709551615 then some (Lib.bitLen a0.toNat : Nat) else none
def bits_Len64.sg : Sig (Int) := s1 (sInt .i64)
theorem bits_Len64.ok {a0 : Int} {r : Int} (h : bits_Len64.f a0 = some r) : CallD Tryd.prog HW 176 [.int .u64 a0] (bits_Len64.sg.enc r) := by
  unfold bits_Len64.f at h
  split at h
  · rename_i hh
    obtain rfl := Option.some.inj h
    refine calld_scal rfl rfl fun w _ => .inl ⟨_, Tryd.func176, by kernel_rfl, by kernel_rfl, (Go.Proofs.YtalkmbmhmbnadaaDoorG.len64 a0 w hh.1 hh.2).mono ?_⟩
    rintro e w' ⟨rfl, rfl⟩
    exact ⟨_, rfl, rfl, rfl⟩
  · cases h
noncomputable def bits_Len64.call {α : Type} (g : Int → Option (Int)) (ds : List D) (K : List D → Option α) : Option α := match ds with
  | [.int .u64 a0] => (g a0).bind fun r => K (bits_Len64.sg.enc r)
  | _ => none
theorem bits_Len64.call_ok {α : Type} {n : Nat} (ds : List D) (K : List D → Option α) (r : α) (h : bits_Len64.call bits_Len64.f ds K = some r) : ∃ rs, K rs = some r ∧ CallD Tryd.prog HW 176 ds rs := by
  unfold bits_Len64.call at h
  split at h
  · obtain ⟨x, hx, hk⟩ := Option.bind_eq_some_iff.1 h
    exact ⟨_, hk, bits_Len64.ok hx⟩
  · cases h
/-! ### nat_BitLen: function 89 -/
noncomputable def nat_BitLen.b0 (c176 : Int → Option (Int)) (c180 : List Int → Option (Int)) (l0 : List Int) : Option (Int) := ((c180 l0).bind fun t1 => (if t1 = 0 then some 0 else (if 0 ≤ (wrap64 (t1 - 1)) then (if (wrap64 (t1 - 1)) < (ln l0) then ((c176 (rd l0 (wrap64 (t1 - 1)))).bind fun t2 => some (wrap64 ((wrap64 (64 * (wrap64 (t1 - 1)))) + t2))) else none) else none)))
noncomputable def nat_BitLen.f (n : Nat) (l0 : List Int) : Option (Int) := nat_BitLen.b0 bits_Len64.f (nat_size.f n) l0
noncomputable def nat_BitLen.sg : Sig (Int) := s1 (sInt .i64)
noncomputable def nat_BitLen.code : Code := (Tryd.f89.body).getD .skip
noncomputable def nat_BitLen.cfg (c176 : Int → Option (Int)) (c180 : List Int → Option (Int)) : Cfg (Int) := { T := tys, call := orCall 176 (bits_Len64.call c176) (orCall 180 (nat_size.call c180) (noCall)) }
noncomputable def nat_BitLen.cuts : List (Nat × List (Nat × Want)) := []
theorem nat_BitLen.e0 (c176 : Int → Option (Int)) (c180 : List Int → Option (Int)) (n : Nat) (J : Nat → (ASt → Option (Int)) → ASt → Option (Int)) (l0 : List Int) : afun (nat_BitLen.cfg c176 c180) J nat_BitLen.cuts n nat_BitLen.code Tryd.f89.results.toList [false] [.ro .u64 l0] nat_BitLen.sg.out = nat_BitLen.b0 c176 c180 l0 := by kernel_rfl
theorem nat_BitLen.eq (n : Nat) (l0 : List Int) : afun (nat_BitLen.cfg bits_Len64.f (nat_size.f n)) idJ nat_BitLen.cuts n nat_BitLen.code Tryd.f89.results.toList [false] [.ro .u64 l0] nat_BitLen.sg.out = nat_BitLen.f n l0 := (nat_BitLen.e0 bits_Len64.f (nat_size.f n) n idJ l0).trans (rfl)
theorem nat_BitLen.ok {n : Nat} {l0 : List Int} {r : Int} (h : nat_BitLen.f n l0 = some r) : CallD Tryd.prog HW 89 [.ro .u64 l0] (nat_BitLen.sg.enc r) :=
  fun_some hwS Tryd.func89 (by kernel_rfl) (body := nat_BitLen.code) (by kernel_rfl) tys_ok (c := nat_BitLen.cfg bits_Len64.f (nat_size.f n)) (orCall_ok (bits_Len64.call_ok (n := n)) (orCall_ok (nat_size.call_ok (n := n)) noCall_ok)) noW_ok (by kernel_rfl) (by kernel_rfl) (Nat.le_of_ble_eq_true (by kernel_rfl)) ((nat_BitLen.eq n l0).trans h)
noncomputable def nat_BitLen.call {α : Type} (g : List Int → Option (Int)) (ds : List D) (K : List D → Option α) : Option α := match ds with
  | [.ro .u64 l0] => (g l0).bind fun r => K (nat_BitLen.sg.enc r)
  | _ => none
theorem nat_BitLen.call_ok {α : Type} {n : Nat} (ds : List D) (K : List D → Option α) (r : α) (h : nat_BitLen.call (nat_BitLen.f n) ds K = some r) : ∃ rs, K rs = some r ∧ CallD Tryd.prog HW 89 ds rs := by
  unfold nat_BitLen.call at h
  split at h
  · obtain ⟨x, hx, hk⟩ := Option.bind_eq_some_iff.1 h
    exact ⟨_, hk, nat_BitLen.ok (n := n) hx⟩
  · cases h
/-! ### bits_Len: function 196 -/
noncomputable def bits_Len.b0 (c176 : Int → Option (Int)) (a0 : Int) : Option (Int) := ((c176 a0).bind fun t1 => some t1)
noncomputable def bits_Len.f (a0 : Int) : Option (Int) := bits_Len.b0 bits_Len64.f a0
noncomputable def bits_Len.sg : Sig (Int) := s1 (sInt .i64)
noncomputable def bits_Len.code : Code := (Tryd.f196.body).getD .skip
noncomputable def bits_Len.cfg (c176 : Int → Option (Int)) : Cfg (Int) := { T := tys, call := orCall 176 (bits_Len64.call c176) (noCall) }
noncomputable def bits_Len.cuts : List (Nat × List (Nat × Want)) := []
theorem bits_Len.e0 (c176 : Int → Option (Int)) (n : Nat) (J : Nat → (ASt → Option (Int)) → ASt → Option (Int)) (a0 : Int) : afun (bits_Len.cfg c176) J bits_Len.cuts n bits_Len.code Tryd.f196.results.toList [false] [.int .u64 a0] bits_Len.sg.out = bits_Len.b0 c176 a0 := by kernel_rfl
theorem bits_Len.eq (n : Nat) (a0 : Int) : afun (bits_Len.cfg bits_Len64.f) idJ bits_Len.cuts n bits_Len.code Tryd.f196.results.toList [false] [.int .u64 a0] bits_Len.sg.out = bits_Len.f a0 := (bits_Len.e0 bits_Len64.f n idJ a0).trans (rfl)
theorem bits_Len.ok {n : Nat} {a0 : Int} {r : Int} (h : bits_Len.f a0 = some r) : CallD Tryd.prog HW 196 [.int .u64 a0] (bits_Len.sg.enc r) :=
  fun_some hwS Tryd.func196 (by kernel_rfl) (body := bits_Len.code) (by kernel_rfl) tys_ok (c := bits_Len.cfg bits_Len64.f) (orCall_ok (bits_Len64.call_ok (n := n)) noCall_ok) noW_ok (by kernel_rfl) (by kernel_rfl) (Nat.le_of_ble_eq_true (by kernel_rfl)) ((bits_Len.eq n a0).trans h)
noncomputable def bits_Len.call {α : Type} (g : Int → Option (Int)) (ds : List D) (K : List D → Option α) : Option α := match ds with
  | [.int .u64 a0] => (g a0).bind fun r => K (bits_Len.sg.enc r)
  | _ => none
theorem bits_Len.call_ok {α : Type} {n : Nat} (ds : List D) (K : List D → Option α) (r : α) (h : bits_Len.call bits_Len.f ds K = some r) : ∃ rs, K rs = some r ∧ CallD Tryd.prog HW 196 ds rs := by
  unfold bits_Len.call at h
  split at h
  · obtain ⟨x, hx, hk⟩ := Option.bind_eq_some_iff.1 h
    exact ⟨_, hk, bits_Len.ok (n := n) hx⟩
  · cases h
/-! ### nat_big: function 179 -/
noncomputable def nat_big.b0 (c180 : List Int → Option (Int)) (l0 : List Int) : Option (Bool) := ((c180 l0).bind fun t1 => some (decide (t1 > 4096)))
noncomputable def nat_big.f (n : Nat) (l0 : List Int) : Option (Bool) := nat_big.b0 (nat_size.f n) l0
noncomputable def nat_big.sg : Sig (Bool) := s1 (sBool)
noncomputable def nat_big.code : Code := (Tryd.f179.body).getD .skip
noncomputable def nat_big.cfg (c180 : List Int → Option (Int)) : Cfg (Bool) := { T := tys, call := orCall 180 (nat_size.call c180) (noCall) }
noncomputable def nat_big.cuts : List (Nat × List (Nat × Want)) := []
theorem nat_big.e0 (c180 : List Int → Option (Int)) (n : Nat) (J : Nat → (ASt → Option (Bool)) → ASt → Option (Bool)) (l0 : List Int) : afun (nat_big.cfg c180) J nat_big.cuts n nat_big.code Tryd.f179.results.toList [false] [.ro .u64 l0] nat_big.sg.out = nat_big.b0 c180 l0 := by kernel_rfl
theorem nat_big.eq (n : Nat) (l0 : List Int) : afun (nat_big.cfg (nat_size.f n)) idJ nat_big.cuts n nat_big.code Tryd.f179.results.toList [false] [.ro .u64 l0] nat_big.sg.out = nat_big.f n l0 := (nat_big.e0 (nat_size.f n) n idJ l0).trans (rfl)
theorem nat_big.ok {n : Nat} {l0 : List Int} {r : Bool} (h : nat_big.f n l0 = some r) : CallD Tryd.prog HW 179 [.ro .u64 l0] (nat_big.sg.enc r) :=
  fun_some hwS Tryd.func179 (by kernel_rfl) (body := nat_big.code) (by kernel_rfl) tys_ok (c := nat_big.cfg (nat_size.f n)) (orCall_ok (nat_size.call_ok (n := n)) noCall_ok) noW_ok (by kernel_rfl) (by kernel_rfl) (Nat.le_of_ble_eq_true (by kernel_rfl)) ((nat_big.eq n l0).trans h)
noncomputable def nat_big.call {α : Type} (g : List Int → Option (Bool)) (ds : List D) (K : List D → Option α) : Option α := match ds with
  | [.ro .u64 l0] => (g l0).bind fun r => K (nat_big.sg.enc r)
  | _ => none
theorem nat_big.call_ok {α : Type} {n : Nat} (ds : List D) (K : List D → Option α) (r : α) (h : nat_big.call (nat_big.f n) ds K = some r) : ∃ rs, K rs = some r ∧ CallD Tryd.prog HW 179 ds rs := by
  unfold nat_big.call at h
  split at h
  · obtain ⟨x, hx, hk⟩ := Option.bind_eq_some_iff.1 h
    exact ⟨_, hk, nat_big.ok (n := n) hx⟩
  · cases h
/-! ### bits_Mul64: function 183 -/
noncomputable def bits_Mul64.b0 (a0 : Int) (a1 : Int) : Option (Int × Int) := some (IntKind.u64.wrap ((IntKind.u64.wrap ((IntKind.u64.wrap ((a0 / 4294967296) * (a1 / 4294967296))) + ((IntKind.u64.wrap ((IntKind.u64.wrap ((a0 / 4294967296) * (Go.bits .and .u64 a1 4294967295))) + ((IntKind.u64.wrap ((Go.bits .and .u64 a0 4294967295) * (Go.bits .and .u64 a1 4294967295))) / 4294967296))) / 4294967296))) + ((IntKind.u64.wrap ((Go.bits .and .u64 (IntKind.u64.wrap ((IntKind.u64.wrap ((a0 / 4294967296) * (Go.bits .and .u64 a1 4294967295))) + ((IntKind.u64.wrap ((Go.bits .and .u64 a0 4294967295) * (Go.bits .and .u64 a1 4294967295))) / 4294967296))) 4294967295) + (IntKind.u64.wrap ((Go.bits .and .u64 a0 4294967295) * (a1 / 4294967296))))) / 4294967296)), IntKind.u64.wrap (a0 * a1))
noncomputable def bits_Mul64.f (a0 : Int) (a1 : Int) : Option (Int × Int) := bits_Mul64.b0 a0 a1
noncomputable def bits_Mul64.sg : Sig (Int × Int) := s2 (sInt .u64) (s1 (sInt .u64))
noncomputable def bits_Mul64.code : Code := (Tryd.f183.body).getD .skip
noncomputable def bits_Mul64.cfg : Cfg (Int × Int) := { T := tys, call := noCall }
noncomputable def bits_Mul64.cuts : List (Nat × List (Nat × Want)) := []
theorem bits_Mul64.e0 (n : Nat) (J : Nat → (ASt → Option (Int × Int)) → ASt → Option (Int × Int)) (a0 : Int) (a1 : Int) : afun (bits_Mul64.cfg) J bits_Mul64.cuts n bits_Mul64.code Tryd.f183.results.toList [false, false] [.int .u64 a0, .int .u64 a1] bits_Mul64.sg.out = bits_Mul64.b0 a0 a1 := by kernel_rfl
theorem bits_Mul64.eq (n : Nat) (a0 : Int) (a1 : Int) : afun (bits_Mul64.cfg) idJ bits_Mul64.cuts n bits_Mul64.code Tryd.f183.results.toList [false, false] [.int .u64 a0, .int .u64 a1] bits_Mul64.sg.out = bits_Mul64.f a0 a1 := (bits_Mul64.e0 n idJ a0 a1).trans (rfl)
theorem bits_Mul64.ok {n : Nat} {a0 : Int} {a1 : Int} {r : Int × Int} (h : bits_Mul64.f a0 a1 = some r) : CallD Tryd.prog HW 183 [.int .u64 a0, .int .u64 a1] (bits_Mul64.sg.enc r) :=
  fun_some hwS Tryd.func183 (by kernel_rfl) (body := bits_Mul64.code) (by kernel_rfl) tys_ok (c := bits_Mul64.cfg) noCall_ok noW_ok (by kernel_rfl) (by kernel_rfl) (Nat.le_of_ble_eq_true (by kernel_rfl)) ((bits_Mul64.eq n a0 a1).trans h)
noncomputable def bits_Mul64.call {α : Type} (g : Int → Int → Option (Int × Int)) (ds : List D) (K : List D → Option α) : Option α := match ds with
  | [.int .u64 a0, .int .u64 a1] => (g a0 a1).bind fun r => K (bits_Mul64.sg.enc r)
  | _ => none
theorem bits_Mul64.call_ok {α : Type} {n : Nat} (ds : List D) (K : List D → Option α) (r : α) (h : bits_Mul64.call bits_Mul64.f ds K = some r) : ∃ rs, K rs = some r ∧ CallD Tryd.prog HW 183 ds rs := by
  unfold bits_Mul64.call at h
  split at h
  · obtain ⟨x, hx, hk⟩ := Option.bind_eq_some_iff.1 h
    exact ⟨_, hk, bits_Mul64.ok (n := n) hx⟩
  · cases h
/-! ### bits_Add64: function 181 -/
def bits_Add64.f (a0 : Int) (a1 : Int) (a2 : Int) : Option (Int × Int) := if 0 ≤ a0 ∧ 0 ≤ a1 ∧ 0 ≤ a2 ∧ a2 ≤ 1 then some ((a0 + a1 + a2) % 18446744073709551616, (a0 + a1 + a2) / 18446744073709551616) else none
def bits_Add64.sg : Sig (Int × Int) := s2 (sInt .u64) (s1 (sInt .u64))
theorem bits_Add64.ok {a0 a1 a2 : Int} {r : Int × Int} (h : bits_Add64.f a0 a1 a2 = some r) : CallD Tryd.prog HW 181 [.int .u64 a0, .int .u64 a1, .int .u64 a2] (bits_Add64.sg.enc r) := by
  unfold bits_Add64.f at h
  split at h
  · rename_i hh
    obtain rfl := Option.some.inj h
    exact calld_scal rfl rfl fun w _ => .inr ⟨_, _, run_add64' Tryd.func181 (by kernel_rfl) (by kernel_rfl) (by kernel_rfl) (by kernel_rfl) a0 a1 a2 hh.1 hh.2.1 hh.2.2.1 hh.2.2.2 w, rfl, rfl⟩
  · cases h
noncomputable def bits_Add64.call {α : Type} (g : Int → Int → Int → Option (Int × Int)) (ds : List D) (K : List D → Option α) : Option α := match ds with
  | [.int .u64 a0, .int .u64 a1, .int .u64 a2] => (g a0 a1 a2).bind fun r => K (bits_Add64.sg.enc r)
  | _ => none
theorem bits_Add64.call_ok {α : Type} {n : Nat} (ds : List D) (K : List D → Option α) (r : α) (h : bits_Add64.call bits_Add64.f ds K = some r) : ∃ rs, K rs = some r ∧ CallD Tryd.prog HW 181 ds rs := by
  unfold bits_Add64.call at h
  split at h
  · obtain ⟨x, hx, hk⟩ := Option.bind_eq_some_iff.1 h
    exact ⟨_, hk, bits_Add64.ok hx⟩
  · cases h
/-! ### nat_cut: function 182 -/
noncomputable def nat_cut.b0 (c180 : List Int → Option (Int)) (l0 : List Int) : Option (List Int × Int) := ((c180 l0).bind fun t1 => (if t1 > 4096 then some (([] : List Int), 2) else (if 0 ≤ t1 then (if t1 ≤ t1 then (if t1 ≤ (ln l0) then ((some (l0.take t1.toNat) : Option (List Int)).bind fun y2 => some (y2, 0)) else none) else none) else none)))
noncomputable def nat_cut.f (n : Nat) (l0 : List Int) : Option (List Int × Int) := nat_cut.b0 (nat_size.f n) l0
noncomputable def nat_cut.sg : Sig (List Int × Int) := s2 (sRow .u64) (s1 (sInt .i64))
noncomputable def nat_cut.code : Code := (Tryd.f182.body).getD .skip
noncomputable def nat_cut.cfg (c180 : List Int → Option (Int)) : Cfg (List Int × Int) := { T := tys, call := orCall 180 (nat_size.call c180) (noCall) }
noncomputable def nat_cut.cuts : List (Nat × List (Nat × Want)) := []
theorem nat_cut.e0 (c180 : List Int → Option (Int)) (n : Nat) (J : Nat → (ASt → Option (List Int × Int)) → ASt → Option (List Int × Int)) (l0 : List Int) : afun (nat_cut.cfg c180) J nat_cut.cuts n nat_cut.code Tryd.f182.results.toList [false, false] [.ro .u64 l0] nat_cut.sg.out = nat_cut.b0 c180 l0 := by kernel_rfl
theorem nat_cut.eq (n : Nat) (l0 : List Int) : afun (nat_cut.cfg (nat_size.f n)) idJ nat_cut.cuts n nat_cut.code Tryd.f182.results.toList [false, false] [.ro .u64 l0] nat_cut.sg.out = nat_cut.f n l0 := (nat_cut.e0 (nat_size.f n) n idJ l0).trans (rfl)
theorem nat_cut.ok {n : Nat} {l0 : List Int} {r : List Int × Int} (h : nat_cut.f n l0 = some r) : CallD Tryd.prog HW 182 [.ro .u64 l0] (nat_cut.sg.enc r) :=
  fun_some hwS Tryd.func182 (by kernel_rfl) (body := nat_cut.code) (by kernel_rfl) tys_ok (c := nat_cut.cfg (nat_size.f n)) (orCall_ok (nat_size.call_ok (n := n)) noCall_ok) noW_ok (by kernel_rfl) (by kernel_rfl) (Nat.le_of_ble_eq_true (by kernel_rfl)) ((nat_cut.eq n l0).trans h)
noncomputable def nat_cut.call {α : Type} (g : List Int → Option (List Int × Int)) (ds : List D) (K : List D → Option α) : Option α := match ds with
  | [.ro .u64 l0] => (g l0).bind fun r => K (nat_cut.sg.enc r)
  | _ => none
theorem nat_cut.call_ok {α : Type} {n : Nat} (ds : List D) (K : List D → Option α) (r : α) (h : nat_cut.call (nat_cut.f n) ds K = some r) : ∃ rs, K rs = some r ∧ CallD Tryd.prog HW 182 ds rs := by
  unfold nat_cut.call at h
  split at h
  · obtain ⟨x, hx, hk⟩ := Option.bind_eq_some_iff.1 h
    exact ⟨_, hk, nat_cut.ok (n := n) hx⟩
  · cases h
/-! ### nat_Mul: function 68 -/
noncomputable def nat_Mul.b0 (c179 : List Int → Option (Bool)) (c180 : List Int → Option (Int)) (c181 : Int → Int → Int → Option (Int × Int)) (c182 : List Int → Option (List Int × Int)) (c183 : Int → Int → Option (Int × Int)) (k2037 : List Int → List Int → Int → Int → List Int → Option (List Int × Int)) (l0 : List Int) (l1 : List Int) : Option (List Int × Int) := ((c179 l0).bind fun t1 => (if t1 = true then some (([] : List Int), 2) else ((c179 l1).bind fun t2 => (if t2 = true then some (([] : List Int), 2) else ((c180 l0).bind fun t3 => (if 0 ≤ t3 then (if t3 ≤ (ln l0) then ((some (l0.take t3.toNat) : Option (List Int)).bind fun y4 => ((c180 l1).bind fun t5 => (if 0 ≤ t5 then (if t5 ≤ (ln l1) then ((some (l1.take t5.toNat) : Option (List Int)).bind fun y6 => (if (ln y4) = 0 then some (([] : List Int), 0) else (if (ln y6) = 0 then some (([] : List Int), 0) else (if (wrap64 ((wrap64 ((ln y4) + (ln y6))) - 1)) > 4096 then some (([] : List Int), 2) else (if 0 ≤ (wrap64 ((ln y4) + (ln y6))) then (if (wrap64 ((ln y4) + (ln y6))).toNat ≤ 35184372088832 then k2037 y6 y4 (ln y4) 0 (List.replicate (wrap64 ((ln y4) + (ln y6))).toNat (0 : Int)) else none) else none))))) else none) else none))) else none) else none))))))
noncomputable def nat_Mul.b255 (c179 : List Int → Option (Bool)) (c180 : List Int → Option (Int)) (c181 : Int → Int → Int → Option (Int × Int)) (c182 : List Int → Option (List Int × Int)) (c183 : Int → Int → Option (Int × Int)) (x0 : List Int) : Option (List Int × Int) := ((c182 x0).bind fun t1 => some (t1.1, t1.2))
noncomputable def nat_Mul.b2037 (c179 : List Int → Option (Bool)) (c180 : List Int → Option (Int)) (c181 : Int → Int → Int → Option (Int × Int)) (c182 : List Int → Option (List Int × Int)) (c183 : Int → Int → Option (Int × Int)) (k255 : List Int → Option (List Int × Int)) (k2085685 : List Int → Int → Int → Int → Int → List Int → Int → Int → List Int → Option (List Int × Int)) (x0 : List Int) (x1 : List Int) (x2 : Int) (x3 : Int) (x4 : List Int) : Option (List Int × Int) := (if x3 < x2 then (if 0 ≤ x3 then (if x3 < (ln x1) then k2085685 x0 x3 0 0 (rd x1 x3) x1 x2 (ln x0) x4 else none) else none) else k255 x4)
noncomputable def nat_Mul.b260711 (c179 : List Int → Option (Bool)) (c180 : List Int → Option (Int)) (c181 : Int → Int → Int → Option (Int × Int)) (c182 : List Int → Option (List Int × Int)) (c183 : Int → Int → Option (Int × Int)) (k2037 : List Int → List Int → Int → Int → List Int → Option (List Int × Int)) (x0 : List Int) (x1 : Int) (x2 : Int) (x3 : List Int) (x4 : Int) (x5 : List Int) : Option (List Int × Int) := (if 0 ≤ (wrap64 (x1 + (ln x0))) then (if (wrap64 (x1 + (ln x0))) < (ln x5) then k2037 x0 x3 x4 (wrap64 (x1 + 1)) (x5.set (wrap64 (x1 + (ln x0)) : Int).toNat x2) else none) else none)
noncomputable def nat_Mul.b2085685 (c179 : List Int → Option (Bool)) (c180 : List Int → Option (Int)) (c181 : Int → Int → Int → Option (Int × Int)) (c182 : List Int → Option (List Int × Int)) (c183 : Int → Int → Option (Int × Int)) (k260711 : List Int → Int → Int → List Int → Int → List Int → Option (List Int × Int)) (k2085685 : List Int → Int → Int → Int → Int → List Int → Int → Int → List Int → Option (List Int × Int)) (x0 : List Int) (x1 : Int) (x2 : Int) (x3 : Int) (x4 : Int) (x5 : List Int) (x6 : Int) (x7 : Int) (x8 : List Int) : Option (List Int × Int) := (if x3 < x7 then (if 0 ≤ x3 then (if x3 < (ln x0) then ((c183 x4 (rd x0 x3)).bind fun t1 => (if 0 ≤ (wrap64 (x1 + x3)) then (if (wrap64 (x1 + x3)) < (ln x8) then ((c181 t1.2 (rd x8 (wrap64 (x1 + x3))) 0).bind fun t2 => ((c181 t2.1 x2 0).bind fun t3 => (if 0 ≤ (wrap64 (x1 + x3)) then (if (wrap64 (x1 + x3)) < (ln x8) then k2085685 x0 x1 (IntKind.u64.wrap ((IntKind.u64.wrap (t1.1 + t2.2)) + t3.2)) (wrap64 (x3 + 1)) x4 x5 x6 x7 (x8.set (wrap64 (x1 + x3) : Int).toNat t3.1) else none) else none))) else none) else none)) else none) else none) else k260711 x0 x1 x2 x5 x6 x8)
noncomputable def nat_Mul.l255 (n : Nat) (x0 : List Int) : Option (List Int × Int) := nat_Mul.b255 (nat_big.f n) (nat_size.f n) bits_Add64.f (nat_cut.f n) bits_Mul64.f x0
noncomputable def nat_Mul.l260711 (n : Nat) (k2037 : List Int → List Int → Int → Int → List Int → Option (List Int × Int)) (x0 : List Int) (x1 : Int) (x2 : Int) (x3 : List Int) (x4 : Int) (x5 : List Int) : Option (List Int × Int) := nat_Mul.b260711 (nat_big.f n) (nat_size.f n) bits_Add64.f (nat_cut.f n) bits_Mul64.f k2037 x0 x1 x2 x3 x4 x5
noncomputable def nat_Mul.l2085685 (n : Nat) (k2037 : List Int → List Int → Int → Int → List Int → Option (List Int × Int)) : Nat → List Int → Int → Int → Int → Int → List Int → Int → Int → List Int → Option (List Int × Int)
  | 0, _, _, _, _, _, _, _, _, _ => none
  | m + 1, x0, x1, x2, x3, x4, x5, x6, x7, x8 => nat_Mul.b2085685 (nat_big.f n) (nat_size.f n) bits_Add64.f (nat_cut.f n) bits_Mul64.f (nat_Mul.l260711 n k2037) (nat_Mul.l2085685 n k2037 m) x0 x1 x2 x3 x4 x5 x6 x7 x8
noncomputable def nat_Mul.l2037 (n : Nat) : Nat → List Int → List Int → Int → Int → List Int → Option (List Int × Int)
  | 0, _, _, _, _, _ => none
  | m + 1, x0, x1, x2, x3, x4 => nat_Mul.b2037 (nat_big.f n) (nat_size.f n) bits_Add64.f (nat_cut.f n) bits_Mul64.f (nat_Mul.l255 n) (nat_Mul.l2085685 n (nat_Mul.l2037 n m) n) x0 x1 x2 x3 x4
noncomputable def nat_Mul.f (n : Nat) (l0 : List Int) (l1 : List Int) : Option (List Int × Int) := nat_Mul.b0 (nat_big.f n) (nat_size.f n) bits_Add64.f (nat_cut.f n) bits_Mul64.f (nat_Mul.l2037 n n) l0 l1
noncomputable def nat_Mul.sg : Sig (List Int × Int) := s2 (sRow .u64) (s1 (sInt .i64))
noncomputable def nat_Mul.code : Code := (Tryd.f68.body).getD .skip
noncomputable def nat_Mul.cfg (c179 : List Int → Option (Bool)) (c180 : List Int → Option (Int)) (c181 : Int → Int → Int → Option (Int × Int)) (c182 : List Int → Option (List Int × Int)) (c183 : Int → Int → Option (Int × Int)) : Cfg (List Int × Int) := { T := tys, call := orCall 179 (nat_big.call c179) (orCall 180 (nat_size.call c180) (orCall 181 (bits_Add64.call c181) (orCall 182 (nat_cut.call c182) (orCall 183 (bits_Mul64.call c183) (noCall))))) }
noncomputable def nat_Mul.cuts : List (Nat × List (Nat × Want)) := [(255, [(6, .keep)]), (2037, [(1, .keep), (6, .keep), (50, .keep), (51, .keep), (52, .keep)]), (260711, [(1, .keep), (6, .keep), (7, .keep), (9, .keep), (50, .keep), (51, .keep), (52, .keep)]), (2085685, [(1, .keep), (6, .keep), (7, .keep), (8, .keep), (9, .keep), (50, .keep), (51, .keep), (52, .keep), (57, .keep), (58, .keep), (59, .keep)])]
noncomputable def nat_Mul.s255 (x0 : List Int) : ASt := ⟨[(6, .own 0)], [.ints 25 .u64 x0]⟩
noncomputable def nat_Mul.s2037 (x0 : List Int) (x1 : List Int) (x2 : Int) (x3 : Int) (x4 : List Int) : ASt := ⟨[(1, .ro .u64 x0), (6, .own 0), (50, .ro .u64 x1), (51, .int .i64 x2), (52, .int .i64 x3)], [.ints 25 .u64 x4]⟩
noncomputable def nat_Mul.s260711 (x0 : List Int) (x1 : Int) (x2 : Int) (x3 : List Int) (x4 : Int) (x5 : List Int) : ASt := ⟨[(1, .ro .u64 x0), (6, .own 0), (7, .int .i64 x1), (9, .int .u64 x2), (50, .ro .u64 x3), (51, .int .i64 x4), (52, .int .i64 x1)], [.ints 25 .u64 x5]⟩
noncomputable def nat_Mul.s2085685 (x0 : List Int) (x1 : Int) (x2 : Int) (x3 : Int) (x4 : Int) (x5 : List Int) (x6 : Int) (x7 : Int) (x8 : List Int) : ASt := ⟨[(1, .ro .u64 x0), (6, .own 0), (7, .int .i64 x1), (8, .int .u64 x4), (9, .int .u64 x2), (50, .ro .u64 x5), (51, .int .i64 x6), (52, .int .i64 x1), (57, .ro .u64 x0), (58, .int .i64 x7), (59, .int .i64 x3)], [.ints 25 .u64 x8]⟩
noncomputable def nat_Mul.A (c179 : List Int → Option (Bool)) (c180 : List Int → Option (Int)) (c181 : Int → Int → Int → Option (Int × Int)) (c182 : List Int → Option (List Int × Int)) (c183 : Int → Int → Option (Int × Int)) (n : Nat) (J : Nat → (ASt → Option (List Int × Int)) → ASt → Option (List Int × Int)) (q : Nat) (ms : List Nat) : ASt → Option (List Int × Int) := acont (nat_Mul.cfg c179 c180 c181 c182 c183) J nat_Mul.cuts n q nat_Mul.code 1 ms (aend (nat_Mul.cfg c179 c180 c181 c182 c183) Tryd.f68.results.toList [false, false] nat_Mul.sg.out)
theorem nat_Mul.e0 (c179 : List Int → Option (Bool)) (c180 : List Int → Option (Int)) (c181 : Int → Int → Int → Option (Int × Int)) (c182 : List Int → Option (List Int × Int)) (c183 : Int → Int → Option (Int × Int)) (n : Nat) (J : Nat → (ASt → Option (List Int × Int)) → ASt → Option (List Int × Int)) (l0 : List Int) (l1 : List Int) : afun (nat_Mul.cfg c179 c180 c181 c182 c183) J nat_Mul.cuts n nat_Mul.code Tryd.f68.results.toList [false, false] [.ro .u64 l0, .ro .u64 l1] nat_Mul.sg.out = nat_Mul.b0 c179 c180 c181 c182 c183 (fun y0 y1 y2 y3 y4 => J 2037 (nat_Mul.A c179 c180 c181 c182 c183 n J 2037 [n]) (nat_Mul.s2037 y0 y1 y2 y3 y4)) l0 l1 := by kernel_rfl
theorem nat_Mul.e255 (c179 : List Int → Option (Bool)) (c180 : List Int → Option (Int)) (c181 : Int → Int → Int → Option (Int × Int)) (c182 : List Int → Option (List Int × Int)) (c183 : Int → Int → Option (Int × Int)) (n : Nat) (J : Nat → (ASt → Option (List Int × Int)) → ASt → Option (List Int × Int)) (x0 : List Int) : nat_Mul.A c179 c180 c181 c182 c183 n J 255 [] (nat_Mul.s255 x0) = nat_Mul.b255 c179 c180 c181 c182 c183 x0 := by kernel_rfl
theorem nat_Mul.e2037 (c179 : List Int → Option (Bool)) (c180 : List Int → Option (Int)) (c181 : Int → Int → Int → Option (Int × Int)) (c182 : List Int → Option (List Int × Int)) (c183 : Int → Int → Option (Int × Int)) (n : Nat) (J : Nat → (ASt → Option (List Int × Int)) → ASt → Option (List Int × Int)) (m : Nat) (x0 : List Int) (x1 : List Int) (x2 : Int) (x3 : Int) (x4 : List Int) : nat_Mul.A c179 c180 c181 c182 c183 n J 2037 [m + 1] (nat_Mul.s2037 x0 x1 x2 x3 x4) = nat_Mul.b2037 c179 c180 c181 c182 c183 (fun y0 => J 255 (nat_Mul.A c179 c180 c181 c182 c183 n J 255 []) (nat_Mul.s255 y0)) (fun y0 y1 y2 y3 y4 y5 y6 y7 y8 => J 2085685 (nat_Mul.A c179 c180 c181 c182 c183 n J 2085685 [m, n]) (nat_Mul.s2085685 y0 y1 y2 y3 y4 y5 y6 y7 y8)) x0 x1 x2 x3 x4 := by kernel_rfl
theorem nat_Mul.e260711 (c179 : List Int → Option (Bool)) (c180 : List Int → Option (Int)) (c181 : Int → Int → Int → Option (Int × Int)) (c182 : List Int → Option (List Int × Int)) (c183 : Int → Int → Option (Int × Int)) (n : Nat) (J : Nat → (ASt → Option (List Int × Int)) → ASt → Option (List Int × Int)) (m2037 : Nat) (x0 : List Int) (x1 : Int) (x2 : Int) (x3 : List Int) (x4 : Int) (x5 : List Int) : nat_Mul.A c179 c180 c181 c182 c183 n J 260711 [m2037] (nat_Mul.s260711 x0 x1 x2 x3 x4 x5) = nat_Mul.b260711 c179 c180 c181 c182 c183 (fun y0 y1 y2 y3 y4 => J 2037 (nat_Mul.A c179 c180 c181 c182 c183 n J 2037 [m2037]) (nat_Mul.s2037 y0 y1 y2 y3 y4)) x0 x1 x2 x3 x4 x5 := by kernel_rfl
theorem nat_Mul.e2085685 (c179 : List Int → Option (Bool)) (c180 : List Int → Option (Int)) (c181 : Int → Int → Int → Option (Int × Int)) (c182 : List Int → Option (List Int × Int)) (c183 : Int → Int → Option (Int × Int)) (n : Nat) (J : Nat → (ASt → Option (List Int × Int)) → ASt → Option (List Int × Int)) (m2037 : Nat) (m : Nat) (x0 : List Int) (x1 : Int) (x2 : Int) (x3 : Int) (x4 : Int) (x5 : List Int) (x6 : Int) (x7 : Int) (x8 : List Int) : nat_Mul.A c179 c180 c181 c182 c183 n J 2085685 [m2037, m + 1] (nat_Mul.s2085685 x0 x1 x2 x3 x4 x5 x6 x7 x8) = nat_Mul.b2085685 c179 c180 c181 c182 c183 (fun y0 y1 y2 y3 y4 y5 => J 260711 (nat_Mul.A c179 c180 c181 c182 c183 n J 260711 [m2037]) (nat_Mul.s260711 y0 y1 y2 y3 y4 y5)) (fun y0 y1 y2 y3 y4 y5 y6 y7 y8 => J 2085685 (nat_Mul.A c179 c180 c181 c182 c183 n J 2085685 [m2037, m]) (nat_Mul.s2085685 y0 y1 y2 y3 y4 y5 y6 y7 y8)) x0 x1 x2 x3 x4 x5 x6 x7 x8 := by kernel_rfl
theorem nat_Mul.q255 (n : Nat) (x0 : List Int) : nat_Mul.A (nat_big.f n) (nat_size.f n) bits_Add64.f (nat_cut.f n) bits_Mul64.f n idJ 255 [] (nat_Mul.s255 x0) = nat_Mul.l255 n x0 := (nat_Mul.e255 (nat_big.f n) (nat_size.f n) bits_Add64.f (nat_cut.f n) bits_Mul64.f n idJ x0).trans (rfl)
theorem nat_Mul.q260711 (n : Nat) (m2037 : Nat) (x0 : List Int) (x1 : Int) (x2 : Int) (x3 : List Int) (x4 : Int) (x5 : List Int) : nat_Mul.A (nat_big.f n) (nat_size.f n) bits_Add64.f (nat_cut.f n) bits_Mul64.f n idJ 260711 [m2037] (nat_Mul.s260711 x0 x1 x2 x3 x4 x5) = nat_Mul.l260711 n (fun y0 y1 y2 y3 y4 => nat_Mul.A (nat_big.f n) (nat_size.f n) bits_Add64.f (nat_cut.f n) bits_Mul64.f n idJ 2037 [m2037] (nat_Mul.s2037 y0 y1 y2 y3 y4)) x0 x1 x2 x3 x4 x5 := (nat_Mul.e260711 (nat_big.f n) (nat_size.f n) bits_Add64.f (nat_cut.f n) bits_Mul64.f n idJ m2037 x0 x1 x2 x3 x4 x5).trans (rfl)
theorem nat_Mul.q2085685 (n : Nat) (m2037 : Nat) (m : Nat) : ∀ (x0 : List Int) (x1 : Int) (x2 : Int) (x3 : Int) (x4 : Int) (x5 : List Int) (x6 : Int) (x7 : Int) (x8 : List Int), nat_Mul.A (nat_big.f n) (nat_size.f n) bits_Add64.f (nat_cut.f n) bits_Mul64.f n idJ 2085685 [m2037, m] (nat_Mul.s2085685 x0 x1 x2 x3 x4 x5 x6 x7 x8) = nat_Mul.l2085685 n (fun y0 y1 y2 y3 y4 => nat_Mul.A (nat_big.f n) (nat_size.f n) bits_Add64.f (nat_cut.f n) bits_Mul64.f n idJ 2037 [m2037] (nat_Mul.s2037 y0 y1 y2 y3 y4)) m x0 x1 x2 x3 x4 x5 x6 x7 x8 := by
  induction m with
  | zero => intros; rfl
  | succ m ih =>
    intro x0 x1 x2 x3 x4 x5 x6 x7 x8
    refine (nat_Mul.e2085685 (nat_big.f n) (nat_size.f n) bits_Add64.f (nat_cut.f n) bits_Mul64.f n idJ m2037 m x0 x1 x2 x3 x4 x5 x6 x7 x8).trans ?_
    exact congrFun (congrFun (congrFun (congrFun (congrFun (congrFun (congrFun (congrFun (congrFun (congr (congrArg (nat_Mul.b2085685 (nat_big.f n) (nat_size.f n) bits_Add64.f (nat_cut.f n) bits_Mul64.f) (funext fun y0 => (funext fun y1 => (funext fun y2 => (funext fun y3 => (funext fun y4 => (funext fun y5 => nat_Mul.q260711 n m2037 y0 y1 y2 y3 y4 y5))))))) (funext fun y0 => (funext fun y1 => (funext fun y2 => (funext fun y3 => (funext fun y4 => (funext fun y5 => (funext fun y6 => (funext fun y7 => (funext fun y8 => ih y0 y1 y2 y3 y4 y5 y6 y7 y8)))))))))) x0) x1) x2) x3) x4) x5) x6) x7) x8
theorem nat_Mul.q2037 (n : Nat) (m : Nat) : ∀ (x0 : List Int) (x1 : List Int) (x2 : Int) (x3 : Int) (x4 : List Int), nat_Mul.A (nat_big.f n) (nat_size.f n) bits_Add64.f (nat_cut.f n) bits_Mul64.f n idJ 2037 [m] (nat_Mul.s2037 x0 x1 x2 x3 x4) = nat_Mul.l2037 n m x0 x1 x2 x3 x4 := by
  induction m with
  | zero => intros; rfl
  | succ m ih =>
    intro x0 x1 x2 x3 x4
    refine (nat_Mul.e2037 (nat_big.f n) (nat_size.f n) bits_Add64.f (nat_cut.f n) bits_Mul64.f n idJ m x0 x1 x2 x3 x4).trans ?_
    exact congrFun (congrFun (congrFun (congrFun (congrFun (congr (congrArg (nat_Mul.b2037 (nat_big.f n) (nat_size.f n) bits_Add64.f (nat_cut.f n) bits_Mul64.f) (funext fun y0 => nat_Mul.q255 n y0)) ((funext fun y0 => (funext fun y1 => (funext fun y2 => (funext fun y3 => (funext fun y4 => (funext fun y5 => (funext fun y6 => (funext fun y7 => (funext fun y8 => nat_Mul.q2085685 n m n y0 y1 y2 y3 y4 y5 y6 y7 y8))))))))).trans (by rw [show (fun y0 y1 y2 y3 y4 => nat_Mul.A (nat_big.f n) (nat_size.f n) bits_Add64.f (nat_cut.f n) bits_Mul64.f n idJ 2037 [m] (nat_Mul.s2037 y0 y1 y2 y3 y4)) = _ from (funext fun y0 => (funext fun y1 => (funext fun y2 => (funext fun y3 => (funext fun y4 => ih y0 y1 y2 y3 y4)))))]))) x0) x1) x2) x3) x4
theorem nat_Mul.eq (n : Nat) (l0 : List Int) (l1 : List Int) : afun (nat_Mul.cfg (nat_big.f n) (nat_size.f n) bits_Add64.f (nat_cut.f n) bits_Mul64.f) idJ nat_Mul.cuts n nat_Mul.code Tryd.f68.results.toList [false, false] [.ro .u64 l0, .ro .u64 l1] nat_Mul.sg.out = nat_Mul.f n l0 l1 := (nat_Mul.e0 (nat_big.f n) (nat_size.f n) bits_Add64.f (nat_cut.f n) bits_Mul64.f n idJ l0 l1).trans (congrFun (congrFun (congrArg (nat_Mul.b0 (nat_big.f n) (nat_size.f n) bits_Add64.f (nat_cut.f n) bits_Mul64.f) (funext fun y0 => (funext fun y1 => (funext fun y2 => (funext fun y3 => (funext fun y4 => nat_Mul.q2037 n n y0 y1 y2 y3 y4)))))) l0) l1)
theorem nat_Mul.ok {n : Nat} {l0 : List Int} {l1 : List Int} {r : List Int × Int} (h : nat_Mul.f n l0 l1 = some r) : CallD Tryd.prog HW 68 [.ro .u64 l0, .ro .u64 l1] (nat_Mul.sg.enc r) :=
  fun_some hwS Tryd.func68 (by kernel_rfl) (body := nat_Mul.code) (by kernel_rfl) tys_ok (c := nat_Mul.cfg (nat_big.f n) (nat_size.f n) bits_Add64.f (nat_cut.f n) bits_Mul64.f) (orCall_ok (nat_big.call_ok (n := n)) (orCall_ok (nat_size.call_ok (n := n)) (orCall_ok (bits_Add64.call_ok (n := n)) (orCall_ok (nat_cut.call_ok (n := n)) (orCall_ok (bits_Mul64.call_ok (n := n)) noCall_ok))))) noW_ok (by kernel_rfl) (by kernel_rfl) (Nat.le_of_ble_eq_true (by kernel_rfl)) ((nat_Mul.eq n l0 l1).trans h)
noncomputable def nat_Mul.call {α : Type} (g : List Int → List Int → Option (List Int × Int)) (ds : List D) (K : List D → Option α) : Option α := match ds with
  | [.ro .u64 l0, .ro .u64 l1] => (g l0 l1).bind fun r => K (nat_Mul.sg.enc r)
  | _ => none
theorem nat_Mul.call_ok {α : Type} {n : Nat} (ds : List D) (K : List D → Option α) (r : α) (h : nat_Mul.call (nat_Mul.f n) ds K = some r) : ∃ rs, K rs = some r ∧ CallD Tryd.prog HW 68 ds rs := by
  unfold nat_Mul.call at h
  split at h
  · obtain ⟨x, hx, hk⟩ := Option.bind_eq_some_iff.1 h
    exact ⟨_, hk, nat_Mul.ok (n := n) hx⟩
  · cases h
/-! ### quot_Pow: function 101 -/
noncomputable def quot_Pow.b0 (c68 : List Int → List Int → Option (List Int × Int)) (c89 : List Int → Option (Int)) (c195 : List Int → Int → Option (List Int × Bool)) (c196 : Int → Option (Int)) (k1013 : Int → List Int → List Int → Int → Option (List Int × Int)) (l0 : List Int) (a1 : Int) : Option (List Int × Int) := ((c195 l0 4096).bind fun t1 => ((c89 t1.1).bind fun t2 => (if (!t1.2) = true then some (([] : List Int), 2) else (if a1 < 0 then some (([] : List Int), 1) else (if a1 = 0 then some ([1], 0) else (if t2 ≤ 1 then some (t1.1, 0) else (if a1 ≥ 262144 then some (([] : List Int), 2) else (if (wrap64 ((wrap64 (t2 - 1)) * a1)) ≥ 262144 then some (([] : List Int), 2) else ((c196 (IntKind.u64.wrap a1)).bind fun t3 => k1013 a1 t1.1 [1] (wrap64 (t3 - 1)))))))))))
noncomputable def quot_Pow.b1013 (c68 : List Int → List Int → Option (List Int × Int)) (c89 : List Int → Option (Int)) (c195 : List Int → Int → Option (List Int × Bool)) (c196 : Int → Option (Int)) (k64807 : Int → List Int → List Int → Int → Int → Option (List Int × Int)) (x0 : Int) (x1 : List Int) (x2 : List Int) (x3 : Int) : Option (List Int × Int) := (if x3 ≥ 0 then ((c68 x2 x2).bind fun t1 => (if t1.2 = 0 then (if 0 ≤ (IntKind.u64.wrap x3) then (if (Go.bits .and .i64 (shr .i64 x0 (IntKind.u64.wrap x3)) 1) = 1 then ((c68 t1.1 x1).bind fun t2 => k64807 x0 x1 t2.1 x3 t2.2) else k64807 x0 x1 t1.1 x3 t1.2) else none) else k64807 x0 x1 t1.1 x3 t1.2)) else some (x2, 0))
noncomputable def quot_Pow.b64807 (c68 : List Int → List Int → Option (List Int × Int)) (c89 : List Int → Option (Int)) (c195 : List Int → Int → Option (List Int × Bool)) (c196 : Int → Option (Int)) (k1013 : Int → List Int → List Int → Int → Option (List Int × Int)) (x0 : Int) (x1 : List Int) (x2 : List Int) (x3 : Int) (x4 : Int) : Option (List Int × Int) := (if ¬ x4 = 0 then some (([] : List Int), x4) else k1013 x0 x1 x2 (wrap64 (x3 - 1)))
noncomputable def quot_Pow.l64807 (n : Nat) (k1013 : Int → List Int → List Int → Int → Option (List Int × Int)) (x0 : Int) (x1 : List Int) (x2 : List Int) (x3 : Int) (x4 : Int) : Option (List Int × Int) := quot_Pow.b64807 (nat_Mul.f n) (nat_BitLen.f n) (quot_small.f n) bits_Len.f k1013 x0 x1 x2 x3 x4
noncomputable def quot_Pow.l1013 (n : Nat) : Nat → Int → List Int → List Int → Int → Option (List Int × Int)
  | 0, _, _, _, _ => none
  | m + 1, x0, x1, x2, x3 => quot_Pow.b1013 (nat_Mul.f n) (nat_BitLen.f n) (quot_small.f n) bits_Len.f (quot_Pow.l64807 n (quot_Pow.l1013 n m)) x0 x1 x2 x3
noncomputable def quot_Pow.f (n : Nat) (l0 : List Int) (a1 : Int) : Option (List Int × Int) := quot_Pow.b0 (nat_Mul.f n) (nat_BitLen.f n) (quot_small.f n) bits_Len.f (quot_Pow.l1013 n n) l0 a1
noncomputable def quot_Pow.sg : Sig (List Int × Int) := s2 (sRow .u64) (s1 (sInt .i64))
noncomputable def quot_Pow.code : Code := (Tryd.f101.body).getD .skip
noncomputable def quot_Pow.cfg (c68 : List Int → List Int → Option (List Int × Int)) (c89 : List Int → Option (Int)) (c195 : List Int → Int → Option (List Int × Bool)) (c196 : Int → Option (Int)) : Cfg (List Int × Int) := { T := tys, call := orCall 68 (nat_Mul.call c68) (orCall 89 (nat_BitLen.call c89) (orCall 195 (quot_small.call c195) (orCall 196 (bits_Len.call c196) (noCall)))) }
noncomputable def quot_Pow.cuts : List (Nat × List (Nat × Want)) := [(1013, [(1, .keep), (6, .keep), (9, .cast), (10, .keep)]), (64807, [(1, .keep), (6, .keep), (9, .keep), (10, .keep), (11, .keep)])]
noncomputable def quot_Pow.s1013 (x0 : Int) (x1 : List Int) (x2 : List Int) (x3 : Int) : ASt := ⟨[(1, .int .i64 x0), (6, .ro .u64 x1), (9, .ro .u64 x2), (10, .int .i64 x3)], []⟩
noncomputable def quot_Pow.s64807 (x0 : Int) (x1 : List Int) (x2 : List Int) (x3 : Int) (x4 : Int) : ASt := ⟨[(1, .int .i64 x0), (6, .ro .u64 x1), (9, .ro .u64 x2), (10, .int .i64 x3), (11, .int .i64 x4)], []⟩
noncomputable def quot_Pow.A (c68 : List Int → List Int → Option (List Int × Int)) (c89 : List Int → Option (Int)) (c195 : List Int → Int → Option (List Int × Bool)) (c196 : Int → Option (Int)) (n : Nat) (J : Nat → (ASt → Option (List Int × Int)) → ASt → Option (List Int × Int)) (q : Nat) (ms : List Nat) : ASt → Option (List Int × Int) := acont (quot_Pow.cfg c68 c89 c195 c196) J quot_Pow.cuts n q quot_Pow.code 1 ms (aend (quot_Pow.cfg c68 c89 c195 c196) Tryd.f101.results.toList [false, false] quot_Pow.sg.out)
theorem quot_Pow.e0 (c68 : List Int → List Int → Option (List Int × Int)) (c89 : List Int → Option (Int)) (c195 : List Int → Int → Option (List Int × Bool)) (c196 : Int → Option (Int)) (n : Nat) (J : Nat → (ASt → Option (List Int × Int)) → ASt → Option (List Int × Int)) (l0 : List Int) (a1 : Int) : afun (quot_Pow.cfg c68 c89 c195 c196) J quot_Pow.cuts n quot_Pow.code Tryd.f101.results.toList [false, false] [.ro .u64 l0, .int .i64 a1] quot_Pow.sg.out = quot_Pow.b0 c68 c89 c195 c196 (fun y0 y1 y2 y3 => J 1013 (quot_Pow.A c68 c89 c195 c196 n J 1013 [n]) (quot_Pow.s1013 y0 y1 y2 y3)) l0 a1 := by kernel_rfl
theorem quot_Pow.e1013 (c68 : List Int → List Int → Option (List Int × Int)) (c89 : List Int → Option (Int)) (c195 : List Int → Int → Option (List Int × Bool)) (c196 : Int → Option (Int)) (n : Nat) (J : Nat → (ASt → Option (List Int × Int)) → ASt → Option (List Int × Int)) (m : Nat) (x0 : Int) (x1 : List Int) (x2 : List Int) (x3 : Int) : quot_Pow.A c68 c89 c195 c196 n J 1013 [m + 1] (quot_Pow.s1013 x0 x1 x2 x3) = quot_Pow.b1013 c68 c89 c195 c196 (fun y0 y1 y2 y3 y4 => J 64807 (quot_Pow.A c68 c89 c195 c196 n J 64807 [m]) (quot_Pow.s64807 y0 y1 y2 y3 y4)) x0 x1 x2 x3 := by kernel_rfl
theorem quot_Pow.e64807 (c68 : List Int → List Int → Option (List Int × Int)) (c89 : List Int → Option (Int)) (c195 : List Int → Int → Option (List Int × Bool)) (c196 : Int → Option (Int)) (n : Nat) (J : Nat → (ASt → Option (List Int × Int)) → ASt → Option (List Int × Int)) (m1013 : Nat) (x0 : Int) (x1 : List Int) (x2 : List Int) (x3 : Int) (x4 : Int) : quot_Pow.A c68 c89 c195 c196 n J 64807 [m1013] (quot_Pow.s64807 x0 x1 x2 x3 x4) = quot_Pow.b64807 c68 c89 c195 c196 (fun y0 y1 y2 y3 => J 1013 (quot_Pow.A c68 c89 c195 c196 n J 1013 [m1013]) (quot_Pow.s1013 y0 y1 y2 y3)) x0 x1 x2 x3 x4 := by kernel_rfl
theorem quot_Pow.q64807 (n : Nat) (m1013 : Nat) (x0 : Int) (x1 : List Int) (x2 : List Int) (x3 : Int) (x4 : Int) : quot_Pow.A (nat_Mul.f n) (nat_BitLen.f n) (quot_small.f n) bits_Len.f n idJ 64807 [m1013] (quot_Pow.s64807 x0 x1 x2 x3 x4) = quot_Pow.l64807 n (fun y0 y1 y2 y3 => quot_Pow.A (nat_Mul.f n) (nat_BitLen.f n) (quot_small.f n) bits_Len.f n idJ 1013 [m1013] (quot_Pow.s1013 y0 y1 y2 y3)) x0 x1 x2 x3 x4 := (quot_Pow.e64807 (nat_Mul.f n) (nat_BitLen.f n) (quot_small.f n) bits_Len.f n idJ m1013 x0 x1 x2 x3 x4).trans (rfl)
theorem quot_Pow.q1013 (n : Nat) (m : Nat) : ∀ (x0 : Int) (x1 : List Int) (x2 : List Int) (x3 : Int), quot_Pow.A (nat_Mul.f n) (nat_BitLen.f n) (quot_small.f n) bits_Len.f n idJ 1013 [m] (quot_Pow.s1013 x0 x1 x2 x3) = quot_Pow.l1013 n m x0 x1 x2 x3 := by
  induction m with
  | zero => intros; rfl
  | succ m ih =>
    intro x0 x1 x2 x3
    refine (quot_Pow.e1013 (nat_Mul.f n) (nat_BitLen.f n) (quot_small.f n) bits_Len.f n idJ m x0 x1 x2 x3).trans ?_
    exact congrFun (congrFun (congrFun (congrFun (congrArg (quot_Pow.b1013 (nat_Mul.f n) (nat_BitLen.f n) (quot_small.f n) bits_Len.f) ((funext fun y0 => (funext fun y1 => (funext fun y2 => (funext fun y3 => (funext fun y4 => quot_Pow.q64807 n m y0 y1 y2 y3 y4))))).trans (by rw [show (fun y0 y1 y2 y3 => quot_Pow.A (nat_Mul.f n) (nat_BitLen.f n) (quot_small.f n) bits_Len.f n idJ 1013 [m] (quot_Pow.s1013 y0 y1 y2 y3)) = _ from (funext fun y0 => (funext fun y1 => (funext fun y2 => (funext fun y3 => ih y0 y1 y2 y3))))]))) x0) x1) x2) x3
theorem quot_Pow.eq (n : Nat) (l0 : List Int) (a1 : Int) : afun (quot_Pow.cfg (nat_Mul.f n) (nat_BitLen.f n) (quot_small.f n) bits_Len.f) idJ quot_Pow.cuts n quot_Pow.code Tryd.f101.results.toList [false, false] [.ro .u64 l0, .int .i64 a1] quot_Pow.sg.out = quot_Pow.f n l0 a1 := (quot_Pow.e0 (nat_Mul.f n) (nat_BitLen.f n) (quot_small.f n) bits_Len.f n idJ l0 a1).trans (congrFun (congrFun (congrArg (quot_Pow.b0 (nat_Mul.f n) (nat_BitLen.f n) (quot_small.f n) bits_Len.f) (funext fun y0 => (funext fun y1 => (funext fun y2 => (funext fun y3 => quot_Pow.q1013 n n y0 y1 y2 y3))))) l0) a1)
theorem quot_Pow.ok {n : Nat} {l0 : List Int} {a1 : Int} {r : List Int × Int} (h : quot_Pow.f n l0 a1 = some r) : CallD Tryd.prog HW 101 [.ro .u64 l0, .int .i64 a1] (quot_Pow.sg.enc r) :=
  fun_some hwS Tryd.func101 (by kernel_rfl) (body := quot_Pow.code) (by kernel_rfl) tys_ok (c := quot_Pow.cfg (nat_Mul.f n) (nat_BitLen.f n) (quot_small.f n) bits_Len.f) (orCall_ok (nat_Mul.call_ok (n := n)) (orCall_ok (nat_BitLen.call_ok (n := n)) (orCall_ok (quot_small.call_ok (n := n)) (orCall_ok (bits_Len.call_ok (n := n)) noCall_ok)))) noW_ok (by kernel_rfl) (by kernel_rfl) (Nat.le_of_ble_eq_true (by kernel_rfl)) ((quot_Pow.eq n l0 a1).trans h)
noncomputable def quot_Pow.call {α : Type} (g : List Int → Int → Option (List Int × Int)) (ds : List D) (K : List D → Option α) : Option α := match ds with
  | [.ro .u64 l0, .int .i64 a1] => (g l0 a1).bind fun r => K (quot_Pow.sg.enc r)
  | _ => none
theorem quot_Pow.call_ok {α : Type} {n : Nat} (ds : List D) (K : List D → Option α) (r : α) (h : quot_Pow.call (quot_Pow.f n) ds K = some r) : ∃ rs, K rs = some r ∧ CallD Tryd.prog HW 101 ds rs := by
  unfold quot_Pow.call at h
  split at h
  · obtain ⟨x, hx, hk⟩ := Option.bind_eq_some_iff.1 h
    exact ⟨_, hk, quot_Pow.ok (n := n) hx⟩
  · cases h
/-! ### abacuslaw02_alike: function 24 -/
noncomputable def abacuslaw02_alike.b0 (k117 : List Int → List Int → Int → Option (Bool)) (l0 : List Int) (l1 : List Int) : Option (Bool) := (if ¬ (ln l0) = (ln l1) then some false else k117 l0 l1 0)
noncomputable def abacuslaw02_alike.b117 (k117 : List Int → List Int → Int → Option (Bool)) (x0 : List Int) (x1 : List Int) (x2 : Int) : Option (Bool) := (if x2 < (ln x1) then (if 0 ≤ x2 then (if x2 < (ln x0) then (if 0 ≤ x2 then (if x2 < (ln x1) then (if ¬ (rd x0 x2) = (rd x1 x2) then some false else k117 x0 x1 (wrap64 (x2 + 1))) else none) else none) else none) else none) else some true)
noncomputable def abacuslaw02_alike.l117 (n : Nat) : Nat → List Int → List Int → Int → Option (Bool)
  | 0, _, _, _ => none
  | m + 1, x0, x1, x2 => abacuslaw02_alike.b117 (abacuslaw02_alike.l117 n m) x0 x1 x2
noncomputable def abacuslaw02_alike.f (n : Nat) (l0 : List Int) (l1 : List Int) : Option (Bool) := abacuslaw02_alike.b0 (abacuslaw02_alike.l117 n n) l0 l1
noncomputable def abacuslaw02_alike.sg : Sig (Bool) := s1 (sBool)
noncomputable def abacuslaw02_alike.code : Code := (Tryd.f24.body).getD .skip
noncomputable def abacuslaw02_alike.cfg : Cfg (Bool) := { T := tys, call := noCall }
noncomputable def abacuslaw02_alike.cuts : List (Nat × List (Nat × Want)) := [(117, [(0, .keep), (1, .keep), (5, .keep)])]
noncomputable def abacuslaw02_alike.s117 (x0 : List Int) (x1 : List Int) (x2 : Int) : ASt := ⟨[(0, .ro .u64 x0), (1, .ro .u64 x1), (5, .int .i64 x2)], []⟩
noncomputable def abacuslaw02_alike.A (n : Nat) (J : Nat → (ASt → Option (Bool)) → ASt → Option (Bool)) (q : Nat) (ms : List Nat) : ASt → Option (Bool) := acont (abacuslaw02_alike.cfg) J abacuslaw02_alike.cuts n q abacuslaw02_alike.code 1 ms (aend (abacuslaw02_alike.cfg) Tryd.f24.results.toList [false] abacuslaw02_alike.sg.out)
theorem abacuslaw02_alike.e0 (n : Nat) (J : Nat → (ASt → Option (Bool)) → ASt → Option (Bool)) (l0 : List Int) (l1 : List Int) : afun (abacuslaw02_alike.cfg) J abacuslaw02_alike.cuts n abacuslaw02_alike.code Tryd.f24.results.toList [false] [.ro .u64 l0, .ro .u64 l1] abacuslaw02_alike.sg.out = abacuslaw02_alike.b0 (fun y0 y1 y2 => J 117 (abacuslaw02_alike.A n J 117 [n]) (abacuslaw02_alike.s117 y0 y1 y2)) l0 l1 := by kernel_rfl
theorem abacuslaw02_alike.e117 (n : Nat) (J : Nat → (ASt → Option (Bool)) → ASt → Option (Bool)) (m : Nat) (x0 : List Int) (x1 : List Int) (x2 : Int) : abacuslaw02_alike.A n J 117 [m + 1] (abacuslaw02_alike.s117 x0 x1 x2) = abacuslaw02_alike.b117 (fun y0 y1 y2 => J 117 (abacuslaw02_alike.A n J 117 [m]) (abacuslaw02_alike.s117 y0 y1 y2)) x0 x1 x2 := by kernel_rfl
theorem abacuslaw02_alike.q117 (n : Nat) (m : Nat) : ∀ (x0 : List Int) (x1 : List Int) (x2 : Int), abacuslaw02_alike.A n idJ 117 [m] (abacuslaw02_alike.s117 x0 x1 x2) = abacuslaw02_alike.l117 n m x0 x1 x2 := by
  induction m with
  | zero => intros; rfl
  | succ m ih =>
    intro x0 x1 x2
    refine (abacuslaw02_alike.e117 n idJ m x0 x1 x2).trans ?_
    exact congrFun (congrFun (congrFun (congrArg abacuslaw02_alike.b117 (funext fun y0 => (funext fun y1 => (funext fun y2 => ih y0 y1 y2)))) x0) x1) x2
theorem abacuslaw02_alike.eq (n : Nat) (l0 : List Int) (l1 : List Int) : afun (abacuslaw02_alike.cfg) idJ abacuslaw02_alike.cuts n abacuslaw02_alike.code Tryd.f24.results.toList [false] [.ro .u64 l0, .ro .u64 l1] abacuslaw02_alike.sg.out = abacuslaw02_alike.f n l0 l1 := (abacuslaw02_alike.e0 n idJ l0 l1).trans (congrFun (congrFun (congrArg abacuslaw02_alike.b0 (funext fun y0 => (funext fun y1 => (funext fun y2 => abacuslaw02_alike.q117 n n y0 y1 y2)))) l0) l1)
theorem abacuslaw02_alike.ok {n : Nat} {l0 : List Int} {l1 : List Int} {r : Bool} (h : abacuslaw02_alike.f n l0 l1 = some r) : CallD Tryd.prog HW 24 [.ro .u64 l0, .ro .u64 l1] (abacuslaw02_alike.sg.enc r) :=
  fun_some hwS Tryd.func24 (by kernel_rfl) (body := abacuslaw02_alike.code) (by kernel_rfl) tys_ok (c := abacuslaw02_alike.cfg) noCall_ok noW_ok (by kernel_rfl) (by kernel_rfl) (Nat.le_of_ble_eq_true (by kernel_rfl)) ((abacuslaw02_alike.eq n l0 l1).trans h)
noncomputable def abacuslaw02_alike.call {α : Type} (g : List Int → List Int → Option (Bool)) (ds : List D) (K : List D → Option α) : Option α := match ds with
  | [.ro .u64 l0, .ro .u64 l1] => (g l0 l1).bind fun r => K (abacuslaw02_alike.sg.enc r)
  | _ => none
theorem abacuslaw02_alike.call_ok {α : Type} {n : Nat} (ds : List D) (K : List D → Option α) (r : α) (h : abacuslaw02_alike.call (abacuslaw02_alike.f n) ds K = some r) : ∃ rs, K rs = some r ∧ CallD Tryd.prog HW 24 ds rs := by
  unfold abacuslaw02_alike.call at h
  split at h
  · obtain ⟨x, hx, hk⟩ := Option.bind_eq_some_iff.1 h
    exact ⟨_, hk, abacuslaw02_alike.ok (n := n) hx⟩
  · cases h
/-! ### abacusref02_Pow5: function 102 -/
noncomputable def abacusref02_Pow5.b0 (c100 : List Int → Int → Option (List Int × Int)) (a0 : Int) : Option (List Int × Int) := ((c100 [5] a0).bind fun t1 => some (t1.1, t1.2))
noncomputable def abacusref02_Pow5.f (n : Nat) (a0 : Int) : Option (List Int × Int) := abacusref02_Pow5.b0 (abacusref02_Pow.f n) a0
noncomputable def abacusref02_Pow5.sg : Sig (List Int × Int) := s2 (sRow .u64) (s1 (sInt .i64))
noncomputable def abacusref02_Pow5.code : Code := (Tryd.f102.body).getD .skip
noncomputable def abacusref02_Pow5.cfg (c100 : List Int → Int → Option (List Int × Int)) : Cfg (List Int × Int) := { T := tys, call := orCall 100 (abacusref02_Pow.call c100) (noCall) }
noncomputable def abacusref02_Pow5.cuts : List (Nat × List (Nat × Want)) := []
theorem abacusref02_Pow5.e0 (c100 : List Int → Int → Option (List Int × Int)) (n : Nat) (J : Nat → (ASt → Option (List Int × Int)) → ASt → Option (List Int × Int)) (a0 : Int) : afun (abacusref02_Pow5.cfg c100) J abacusref02_Pow5.cuts n abacusref02_Pow5.code Tryd.f102.results.toList [false, false] [.int .i64 a0] abacusref02_Pow5.sg.out = abacusref02_Pow5.b0 c100 a0 := by kernel_rfl
theorem abacusref02_Pow5.eq (n : Nat) (a0 : Int) : afun (abacusref02_Pow5.cfg (abacusref02_Pow.f n)) idJ abacusref02_Pow5.cuts n abacusref02_Pow5.code Tryd.f102.results.toList [false, false] [.int .i64 a0] abacusref02_Pow5.sg.out = abacusref02_Pow5.f n a0 := (abacusref02_Pow5.e0 (abacusref02_Pow.f n) n idJ a0).trans (rfl)
theorem abacusref02_Pow5.ok {n : Nat} {a0 : Int} {r : List Int × Int} (h : abacusref02_Pow5.f n a0 = some r) : CallD Tryd.prog HW 102 [.int .i64 a0] (abacusref02_Pow5.sg.enc r) :=
  fun_some hwS Tryd.func102 (by kernel_rfl) (body := abacusref02_Pow5.code) (by kernel_rfl) tys_ok (c := abacusref02_Pow5.cfg (abacusref02_Pow.f n)) (orCall_ok (abacusref02_Pow.call_ok (n := n)) noCall_ok) noW_ok (by kernel_rfl) (by kernel_rfl) (Nat.le_of_ble_eq_true (by kernel_rfl)) ((abacusref02_Pow5.eq n a0).trans h)
noncomputable def abacusref02_Pow5.call {α : Type} (g : Int → Option (List Int × Int)) (ds : List D) (K : List D → Option α) : Option α := match ds with
  | [.int .i64 a0] => (g a0).bind fun r => K (abacusref02_Pow5.sg.enc r)
  | _ => none
theorem abacusref02_Pow5.call_ok {α : Type} {n : Nat} (ds : List D) (K : List D → Option α) (r : α) (h : abacusref02_Pow5.call (abacusref02_Pow5.f n) ds K = some r) : ∃ rs, K rs = some r ∧ CallD Tryd.prog HW 102 ds rs := by
  unfold abacusref02_Pow5.call at h
  split at h
  · obtain ⟨x, hx, hk⟩ := Option.bind_eq_some_iff.1 h
    exact ⟨_, hk, abacusref02_Pow5.ok (n := n) hx⟩
  · cases h
/-! ### quot_Pow5: function 103 -/
noncomputable def quot_Pow5.b0 (c101 : List Int → Int → Option (List Int × Int)) (a0 : Int) : Option (List Int × Int) := ((c101 [5] a0).bind fun t1 => some (t1.1, t1.2))
noncomputable def quot_Pow5.f (n : Nat) (a0 : Int) : Option (List Int × Int) := quot_Pow5.b0 (quot_Pow.f n) a0
noncomputable def quot_Pow5.sg : Sig (List Int × Int) := s2 (sRow .u64) (s1 (sInt .i64))
noncomputable def quot_Pow5.code : Code := (Tryd.f103.body).getD .skip
noncomputable def quot_Pow5.cfg (c101 : List Int → Int → Option (List Int × Int)) : Cfg (List Int × Int) := { T := tys, call := orCall 101 (quot_Pow.call c101) (noCall) }
noncomputable def quot_Pow5.cuts : List (Nat × List (Nat × Want)) := []
theorem quot_Pow5.e0 (c101 : List Int → Int → Option (List Int × Int)) (n : Nat) (J : Nat → (ASt → Option (List Int × Int)) → ASt → Option (List Int × Int)) (a0 : Int) : afun (quot_Pow5.cfg c101) J quot_Pow5.cuts n quot_Pow5.code Tryd.f103.results.toList [false, false] [.int .i64 a0] quot_Pow5.sg.out = quot_Pow5.b0 c101 a0 := by kernel_rfl
theorem quot_Pow5.eq (n : Nat) (a0 : Int) : afun (quot_Pow5.cfg (quot_Pow.f n)) idJ quot_Pow5.cuts n quot_Pow5.code Tryd.f103.results.toList [false, false] [.int .i64 a0] quot_Pow5.sg.out = quot_Pow5.f n a0 := (quot_Pow5.e0 (quot_Pow.f n) n idJ a0).trans (rfl)
theorem quot_Pow5.ok {n : Nat} {a0 : Int} {r : List Int × Int} (h : quot_Pow5.f n a0 = some r) : CallD Tryd.prog HW 103 [.int .i64 a0] (quot_Pow5.sg.enc r) :=
  fun_some hwS Tryd.func103 (by kernel_rfl) (body := quot_Pow5.code) (by kernel_rfl) tys_ok (c := quot_Pow5.cfg (quot_Pow.f n)) (orCall_ok (quot_Pow.call_ok (n := n)) noCall_ok) noW_ok (by kernel_rfl) (by kernel_rfl) (Nat.le_of_ble_eq_true (by kernel_rfl)) ((quot_Pow5.eq n a0).trans h)
noncomputable def quot_Pow5.call {α : Type} (g : Int → Option (List Int × Int)) (ds : List D) (K : List D → Option α) : Option α := match ds with
  | [.int .i64 a0] => (g a0).bind fun r => K (quot_Pow5.sg.enc r)
  | _ => none
theorem quot_Pow5.call_ok {α : Type} {n : Nat} (ds : List D) (K : List D → Option α) (r : α) (h : quot_Pow5.call (quot_Pow5.f n) ds K = some r) : ∃ rs, K rs = some r ∧ CallD Tryd.prog HW 103 ds rs := by
  unfold quot_Pow5.call at h
  split at h
  · obtain ⟨x, hx, hk⟩ := Option.bind_eq_some_iff.1 h
    exact ⟨_, hk, quot_Pow5.ok (n := n) hx⟩
  · cases h
/-! ### abacusref02_Pow10: function 104 -/
noncomputable def abacusref02_Pow10.b0 (c100 : List Int → Int → Option (List Int × Int)) (a0 : Int) : Option (List Int × Int) := ((c100 [10] a0).bind fun t1 => some (t1.1, t1.2))
noncomputable def abacusref02_Pow10.f (n : Nat) (a0 : Int) : Option (List Int × Int) := abacusref02_Pow10.b0 (abacusref02_Pow.f n) a0
noncomputable def abacusref02_Pow10.sg : Sig (List Int × Int) := s2 (sRow .u64) (s1 (sInt .i64))
noncomputable def abacusref02_Pow10.code : Code := (Tryd.f104.body).getD .skip
noncomputable def abacusref02_Pow10.cfg (c100 : List Int → Int → Option (List Int × Int)) : Cfg (List Int × Int) := { T := tys, call := orCall 100 (abacusref02_Pow.call c100) (noCall) }
noncomputable def abacusref02_Pow10.cuts : List (Nat × List (Nat × Want)) := []
theorem abacusref02_Pow10.e0 (c100 : List Int → Int → Option (List Int × Int)) (n : Nat) (J : Nat → (ASt → Option (List Int × Int)) → ASt → Option (List Int × Int)) (a0 : Int) : afun (abacusref02_Pow10.cfg c100) J abacusref02_Pow10.cuts n abacusref02_Pow10.code Tryd.f104.results.toList [false, false] [.int .i64 a0] abacusref02_Pow10.sg.out = abacusref02_Pow10.b0 c100 a0 := by kernel_rfl
theorem abacusref02_Pow10.eq (n : Nat) (a0 : Int) : afun (abacusref02_Pow10.cfg (abacusref02_Pow.f n)) idJ abacusref02_Pow10.cuts n abacusref02_Pow10.code Tryd.f104.results.toList [false, false] [.int .i64 a0] abacusref02_Pow10.sg.out = abacusref02_Pow10.f n a0 := (abacusref02_Pow10.e0 (abacusref02_Pow.f n) n idJ a0).trans (rfl)
theorem abacusref02_Pow10.ok {n : Nat} {a0 : Int} {r : List Int × Int} (h : abacusref02_Pow10.f n a0 = some r) : CallD Tryd.prog HW 104 [.int .i64 a0] (abacusref02_Pow10.sg.enc r) :=
  fun_some hwS Tryd.func104 (by kernel_rfl) (body := abacusref02_Pow10.code) (by kernel_rfl) tys_ok (c := abacusref02_Pow10.cfg (abacusref02_Pow.f n)) (orCall_ok (abacusref02_Pow.call_ok (n := n)) noCall_ok) noW_ok (by kernel_rfl) (by kernel_rfl) (Nat.le_of_ble_eq_true (by kernel_rfl)) ((abacusref02_Pow10.eq n a0).trans h)
noncomputable def abacusref02_Pow10.call {α : Type} (g : Int → Option (List Int × Int)) (ds : List D) (K : List D → Option α) : Option α := match ds with
  | [.int .i64 a0] => (g a0).bind fun r => K (abacusref02_Pow10.sg.enc r)
  | _ => none
theorem abacusref02_Pow10.call_ok {α : Type} {n : Nat} (ds : List D) (K : List D → Option α) (r : α) (h : abacusref02_Pow10.call (abacusref02_Pow10.f n) ds K = some r) : ∃ rs, K rs = some r ∧ CallD Tryd.prog HW 104 ds rs := by
  unfold abacusref02_Pow10.call at h
  split at h
  · obtain ⟨x, hx, hk⟩ := Option.bind_eq_some_iff.1 h
    exact ⟨_, hk, abacusref02_Pow10.ok (n := n) hx⟩
  · cases h
/-! ### quot_Pow10: function 105 -/
noncomputable def quot_Pow10.b0 (c101 : List Int → Int → Option (List Int × Int)) (a0 : Int) : Option (List Int × Int) := ((c101 [10] a0).bind fun t1 => some (t1.1, t1.2))
noncomputable def quot_Pow10.f (n : Nat) (a0 : Int) : Option (List Int × Int) := quot_Pow10.b0 (quot_Pow.f n) a0
noncomputable def quot_Pow10.sg : Sig (List Int × Int) := s2 (sRow .u64) (s1 (sInt .i64))
noncomputable def quot_Pow10.code : Code := (Tryd.f105.body).getD .skip
noncomputable def quot_Pow10.cfg (c101 : List Int → Int → Option (List Int × Int)) : Cfg (List Int × Int) := { T := tys, call := orCall 101 (quot_Pow.call c101) (noCall) }
noncomputable def quot_Pow10.cuts : List (Nat × List (Nat × Want)) := []
theorem quot_Pow10.e0 (c101 : List Int → Int → Option (List Int × Int)) (n : Nat) (J : Nat → (ASt → Option (List Int × Int)) → ASt → Option (List Int × Int)) (a0 : Int) : afun (quot_Pow10.cfg c101) J quot_Pow10.cuts n quot_Pow10.code Tryd.f105.results.toList [false, false] [.int .i64 a0] quot_Pow10.sg.out = quot_Pow10.b0 c101 a0 := by kernel_rfl
theorem quot_Pow10.eq (n : Nat) (a0 : Int) : afun (quot_Pow10.cfg (quot_Pow.f n)) idJ quot_Pow10.cuts n quot_Pow10.code Tryd.f105.results.toList [false, false] [.int .i64 a0] quot_Pow10.sg.out = quot_Pow10.f n a0 := (quot_Pow10.e0 (quot_Pow.f n) n idJ a0).trans (rfl)
theorem quot_Pow10.ok {n : Nat} {a0 : Int} {r : List Int × Int} (h : quot_Pow10.f n a0 = some r) : CallD Tryd.prog HW 105 [.int .i64 a0] (quot_Pow10.sg.enc r) :=
  fun_some hwS Tryd.func105 (by kernel_rfl) (body := quot_Pow10.code) (by kernel_rfl) tys_ok (c := quot_Pow10.cfg (quot_Pow.f n)) (orCall_ok (quot_Pow.call_ok (n := n)) noCall_ok) noW_ok (by kernel_rfl) (by kernel_rfl) (Nat.le_of_ble_eq_true (by kernel_rfl)) ((quot_Pow10.eq n a0).trans h)
noncomputable def quot_Pow10.call {α : Type} (g : Int → Option (List Int × Int)) (ds : List D) (K : List D → Option α) : Option α := match ds with
  | [.int .i64 a0] => (g a0).bind fun r => K (quot_Pow10.sg.enc r)
  | _ => none
theorem quot_Pow10.call_ok {α : Type} {n : Nat} (ds : List D) (K : List D → Option α) (r : α) (h : quot_Pow10.call (quot_Pow10.f n) ds K = some r) : ∃ rs, K rs = some r ∧ CallD Tryd.prog HW 105 ds rs := by
  unfold quot_Pow10.call at h
  split at h
  · obtain ⟨x, hx, hk⟩ := Option.bind_eq_some_iff.1 h
    exact ⟨_, hk, quot_Pow10.ok (n := n) hx⟩
  · cases h
/-! ### abacuslaw02_powers: function 17 -/
noncomputable def abacuslaw02_powers.b0 (c24 : List Int → List Int → Option (Bool)) (c100 : List Int → Int → Option (List Int × Int)) (c101 : List Int → Int → Option (List Int × Int)) (c102 : Int → Option (List Int × Int)) (c103 : Int → Option (List Int × Int)) (c104 : Int → Option (List Int × Int)) (c105 : Int → Option (List Int × Int)) (l0 : List Int) (l1 : List Int) (a2 : Int) : Option (Bool) := ((c100 l0 a2).bind fun t1 => ((c101 l0 a2).bind fun t2 => (if ¬ t1.2 = t2.2 then some false else ((c24 t2.1 t1.1).bind fun t3 => (if (!t3) = true then some false else ((c102 a2).bind fun t4 => ((c103 a2).bind fun t5 => (if ¬ t4.2 = t5.2 then some false else ((c24 t5.1 t4.1).bind fun t6 => (if (!t6) = true then some false else ((c104 a2).bind fun t7 => ((c105 a2).bind fun t8 => (if t7.2 = t8.2 then ((c24 t8.1 t7.1).bind fun t9 => some t9) else some false)))))))))))))
noncomputable def abacuslaw02_powers.f (n : Nat) (l0 : List Int) (l1 : List Int) (a2 : Int) : Option (Bool) := abacuslaw02_powers.b0 (abacuslaw02_alike.f n) (abacusref02_Pow.f n) (quot_Pow.f n) (abacusref02_Pow5.f n) (quot_Pow5.f n) (abacusref02_Pow10.f n) (quot_Pow10.f n) l0 l1 a2
noncomputable def abacuslaw02_powers.sg : Sig (Bool) := s1 (sBool)
noncomputable def abacuslaw02_powers.code : Code := (Tryd.f17.body).getD .skip
noncomputable def abacuslaw02_powers.cfg (c24 : List Int → List Int → Option (Bool)) (c100 : List Int → Int → Option (List Int × Int)) (c101 : List Int → Int → Option (List Int × Int)) (c102 : Int → Option (List Int × Int)) (c103 : Int → Option (List Int × Int)) (c104 : Int → Option (List Int × Int)) (c105 : Int → Option (List Int × Int)) : Cfg (Bool) := { T := tys, call := orCall 24 (abacuslaw02_alike.call c24) (orCall 100 (abacusref02_Pow.call c100) (orCall 101 (quot_Pow.call c101) (orCall 102 (abacusref02_Pow5.call c102) (orCall 103 (quot_Pow5.call c103) (orCall 104 (abacusref02_Pow10.call c104) (orCall 105 (quot_Pow10.call c105) (noCall))))))) }
noncomputable def abacuslaw02_powers.cuts : List (Nat × List (Nat × Want)) := []
theorem abacuslaw02_powers.e0 (c24 : List Int → List Int → Option (Bool)) (c100 : List Int → Int → Option (List Int × Int)) (c101 : List Int → Int → Option (List Int × Int)) (c102 : Int → Option (List Int × Int)) (c103 : Int → Option (List Int × Int)) (c104 : Int → Option (List Int × Int)) (c105 : Int → Option (List Int × Int)) (n : Nat) (J : Nat → (ASt → Option (Bool)) → ASt → Option (Bool)) (l0 : List Int) (l1 : List Int) (a2 : Int) : afun (abacuslaw02_powers.cfg c24 c100 c101 c102 c103 c104 c105) J abacuslaw02_powers.cuts n abacuslaw02_powers.code Tryd.f17.results.toList [false] [.agg [.ro .u64 l0, .ro .u64 l1, .int .i64 a2]] abacuslaw02_powers.sg.out = abacuslaw02_powers.b0 c24 c100 c101 c102 c103 c104 c105 l0 l1 a2 := by kernel_rfl
theorem abacuslaw02_powers.eq (n : Nat) (l0 : List Int) (l1 : List Int) (a2 : Int) : afun (abacuslaw02_powers.cfg (abacuslaw02_alike.f n) (abacusref02_Pow.f n) (quot_Pow.f n) (abacusref02_Pow5.f n) (quot_Pow5.f n) (abacusref02_Pow10.f n) (quot_Pow10.f n)) idJ abacuslaw02_powers.cuts n abacuslaw02_powers.code Tryd.f17.results.toList [false] [.agg [.ro .u64 l0, .ro .u64 l1, .int .i64 a2]] abacuslaw02_powers.sg.out = abacuslaw02_powers.f n l0 l1 a2 := (abacuslaw02_powers.e0 (abacuslaw02_alike.f n) (abacusref02_Pow.f n) (quot_Pow.f n) (abacusref02_Pow5.f n) (quot_Pow5.f n) (abacusref02_Pow10.f n) (quot_Pow10.f n) n idJ l0 l1 a2).trans (rfl)
theorem abacuslaw02_powers.ok {n : Nat} {l0 : List Int} {l1 : List Int} {a2 : Int} {r : Bool} (h : abacuslaw02_powers.f n l0 l1 a2 = some r) : CallD Tryd.prog HW 17 [.agg [.ro .u64 l0, .ro .u64 l1, .int .i64 a2]] (abacuslaw02_powers.sg.enc r) :=
  fun_some hwS Tryd.func17 (by kernel_rfl) (body := abacuslaw02_powers.code) (by kernel_rfl) tys_ok (c := abacuslaw02_powers.cfg (abacuslaw02_alike.f n) (abacusref02_Pow.f n) (quot_Pow.f n) (abacusref02_Pow5.f n) (quot_Pow5.f n) (abacusref02_Pow10.f n) (quot_Pow10.f n)) (orCall_ok (abacuslaw02_alike.call_ok (n := n)) (orCall_ok (abacusref02_Pow.call_ok (n := n)) (orCall_ok (quot_Pow.call_ok (n := n)) (orCall_ok (abacusref02_Pow5.call_ok (n := n)) (orCall_ok (quot_Pow5.call_ok (n := n)) (orCall_ok (abacusref02_Pow10.call_ok (n := n)) (orCall_ok (quot_Pow10.call_ok (n := n)) noCall_ok))))))) noW_ok (by kernel_rfl) (by kernel_rfl) (Nat.le_of_ble_eq_true (by kernel_rfl)) ((abacuslaw02_powers.eq n l0 l1 a2).trans h)
noncomputable def abacuslaw02_powers.call {α : Type} (g : List Int → List Int → Int → Option (Bool)) (ds : List D) (K : List D → Option α) : Option α := match ds with
  | [.agg [.ro .u64 l0, .ro .u64 l1, .int .i64 a2]] => (g l0 l1 a2).bind fun r => K (abacuslaw02_powers.sg.enc r)
  | _ => none
theorem abacuslaw02_powers.call_ok {α : Type} {n : Nat} (ds : List D) (K : List D → Option α) (r : α) (h : abacuslaw02_powers.call (abacuslaw02_powers.f n) ds K = some r) : ∃ rs, K rs = some r ∧ CallD Tryd.prog HW 17 ds rs := by
  unfold abacuslaw02_powers.call at h
  split at h
  · obtain ⟨x, hx, hk⟩ := Option.bind_eq_some_iff.1 h
    exact ⟨_, hk, abacuslaw02_powers.ok (n := n) hx⟩
  · cases h
/-! ### abacusref02_Log: function 107 -/
noncomputable def abacusref02_Log.b0 (c106 : List Int → Option (Int)) (c197 : List Int → List Int → Option (Int)) (c198 : List Int → List Int → Option (List Int)) (k1017 : List Int → List Int → List (List Int) → Option (Int × Int)) (l0 : List Int) (a1 : Int) : Option (Int × Int) := ((c106 l0).bind fun t1 => (if t1 > 4096 then some (0, 2) else ((c106 l0).bind fun t2 => (if t2 = 0 then some (0, 4) else (if a1 < 2 then some (0, 1) else k1017 l0 [a1] ([] : List (List Int)))))))
noncomputable def abacusref02_Log.b255 (c106 : List Int → Option (Int)) (c197 : List Int → List Int → Option (Int)) (c198 : List Int → List Int → Option (List Int)) (k16373 : List Int → Int → List Int → Int → List (List Int) → Option (Int × Int)) (x0 : List Int) (x1 : List (List Int)) : Option (Int × Int) := k16373 x0 0 [1] (wrap64 ((lnr x1) - 1)) x1
noncomputable def abacusref02_Log.b1017 (c106 : List Int → Option (Int)) (c197 : List Int → List Int → Option (Int)) (c198 : List Int → List Int → Option (List Int)) (k255 : List Int → List (List Int) → Option (Int × Int)) (k1017 : List Int → List Int → List (List Int) → Option (Int × Int)) (x0 : List Int) (x1 : List Int) (x2 : List (List Int)) : Option (Int × Int) := ((c197 x1 x0).bind fun t1 => (if t1 ≤ 0 then (if x2.length + [x1].length ≤ 5864062014805 then ((c106 x1).bind fun t2 => ((c106 x0).bind fun t3 => (if (wrap64 (2 * (wrap64 (t2 - 1)))) ≥ t3 then k255 x0 (x2 ++ [x1]) else ((c198 x1 x1).bind fun t4 => k1017 x0 t4 (x2 ++ [x1]))))) else none) else k255 x0 x2))
noncomputable def abacusref02_Log.b16373 (c106 : List Int → Option (Int)) (c197 : List Int → List Int → Option (Int)) (c198 : List Int → List Int → Option (List Int)) (k16373 : List Int → Int → List Int → Int → List (List Int) → Option (Int × Int)) (x0 : List Int) (x1 : Int) (x2 : List Int) (x3 : Int) (x4 : List (List Int)) : Option (Int × Int) := (if x3 ≥ 0 then ((c106 x2).bind fun t1 => (if 0 ≤ x3 then (if x3 < lnr x4 then ((c106 (rdr x4 x3)).bind fun t2 => ((c106 x0).bind fun t3 => (if (wrap64 ((wrap64 (t1 + t2)) - 2)) ≥ t3 then k16373 x0 x1 x2 (wrap64 (x3 - 1)) x4 else (if 0 ≤ x3 then (if x3 < lnr x4 then ((c198 x2 (rdr x4 x3)).bind fun t4 => ((c197 t4 x0).bind fun t5 => (if t5 ≤ 0 then (if 0 ≤ (IntKind.u64.wrap x3) then k16373 x0 (wrap64 (x1 + (shl .i64 1 (IntKind.u64.wrap x3)))) t4 (wrap64 (x3 - 1)) x4 else none) else k16373 x0 x1 x2 (wrap64 (x3 - 1)) x4))) else none) else none)))) else none) else none)) else some (x1, 0))
noncomputable def abacusref02_Log.l16373 (n : Nat) : Nat → List Int → Int → List Int → Int → List (List Int) → Option (Int × Int)
  | 0, _, _, _, _, _ => none
  | m + 1, x0, x1, x2, x3, x4 => abacusref02_Log.b16373 (abacusref02_Top.f n) (abacusref02_Order.f n) (abacusref02_Times.f n) (abacusref02_Log.l16373 n m) x0 x1 x2 x3 x4
noncomputable def abacusref02_Log.l255 (n : Nat) (x0 : List Int) (x1 : List (List Int)) : Option (Int × Int) := abacusref02_Log.b255 (abacusref02_Top.f n) (abacusref02_Order.f n) (abacusref02_Times.f n) (abacusref02_Log.l16373 n n) x0 x1
noncomputable def abacusref02_Log.l1017 (n : Nat) : Nat → List Int → List Int → List (List Int) → Option (Int × Int)
  | 0, _, _, _ => none
  | m + 1, x0, x1, x2 => abacusref02_Log.b1017 (abacusref02_Top.f n) (abacusref02_Order.f n) (abacusref02_Times.f n) (abacusref02_Log.l255 n) (abacusref02_Log.l1017 n m) x0 x1 x2
noncomputable def abacusref02_Log.f (n : Nat) (l0 : List Int) (a1 : Int) : Option (Int × Int) := abacusref02_Log.b0 (abacusref02_Top.f n) (abacusref02_Order.f n) (abacusref02_Times.f n) (abacusref02_Log.l1017 n n) l0 a1
noncomputable def abacusref02_Log.sg : Sig (Int × Int) := s2 (sInt .i64) (s1 (sInt .i64))
noncomputable def abacusref02_Log.code : Code := (Tryd.f107.body).getD .skip
noncomputable def abacusref02_Log.cfg (c106 : List Int → Option (Int)) (c197 : List Int → List Int → Option (Int)) (c198 : List Int → List Int → Option (List Int)) : Cfg (Int × Int) := { T := tys, call := orCall 106 (abacusref02_Top.call c106) (orCall 197 (abacusref02_Order.call c197) (orCall 198 (abacusref02_Times.call c198) (noCall))) }
noncomputable def abacusref02_Log.cuts : List (Nat × List (Nat × Want)) := [(255, [(0, .keep), (6, .keep)]), (1017, [(0, .keep), (6, .rws 24 .u64), (7, .cast)]), (16373, [(0, .keep), (6, .keep), (8, .keep), (9, .cast), (10, .keep)])]
noncomputable def abacusref02_Log.s255 (x0 : List Int) (x1 : List (List Int)) : ASt := ⟨[(0, .ro .u64 x0), (6, .own 0)], [.rws 24 .u64 x1]⟩
noncomputable def abacusref02_Log.s1017 (x0 : List Int) (x1 : List Int) (x2 : List (List Int)) : ASt := ⟨[(0, .ro .u64 x0), (6, .own 0), (7, .ro .u64 x1)], [.rws 24 .u64 x2]⟩
noncomputable def abacusref02_Log.s16373 (x0 : List Int) (x1 : Int) (x2 : List Int) (x3 : Int) (x4 : List (List Int)) : ASt := ⟨[(0, .ro .u64 x0), (6, .own 0), (8, .int .i64 x1), (9, .ro .u64 x2), (10, .int .i64 x3)], [.rws 24 .u64 x4]⟩
noncomputable def abacusref02_Log.A (c106 : List Int → Option (Int)) (c197 : List Int → List Int → Option (Int)) (c198 : List Int → List Int → Option (List Int)) (n : Nat) (J : Nat → (ASt → Option (Int × Int)) → ASt → Option (Int × Int)) (q : Nat) (ms : List Nat) : ASt → Option (Int × Int) := acont (abacusref02_Log.cfg c106 c197 c198) J abacusref02_Log.cuts n q abacusref02_Log.code 1 ms (aend (abacusref02_Log.cfg c106 c197 c198) Tryd.f107.results.toList [false, false] abacusref02_Log.sg.out)
theorem abacusref02_Log.e0 (c106 : List Int → Option (Int)) (c197 : List Int → List Int → Option (Int)) (c198 : List Int → List Int → Option (List Int)) (n : Nat) (J : Nat → (ASt → Option (Int × Int)) → ASt → Option (Int × Int)) (l0 : List Int) (a1 : Int) : afun (abacusref02_Log.cfg c106 c197 c198) J abacusref02_Log.cuts n abacusref02_Log.code Tryd.f107.results.toList [false, false] [.ro .u64 l0, .int .u64 a1] abacusref02_Log.sg.out = abacusref02_Log.b0 c106 c197 c198 (fun y0 y1 y2 => J 1017 (abacusref02_Log.A c106 c197 c198 n J 1017 [n]) (abacusref02_Log.s1017 y0 y1 y2)) l0 a1 := by kernel_rfl
theorem abacusref02_Log.e255 (c106 : List Int → Option (Int)) (c197 : List Int → List Int → Option (Int)) (c198 : List Int → List Int → Option (List Int)) (n : Nat) (J : Nat → (ASt → Option (Int × Int)) → ASt → Option (Int × Int)) (x0 : List Int) (x1 : List (List Int)) : abacusref02_Log.A c106 c197 c198 n J 255 [] (abacusref02_Log.s255 x0 x1) = abacusref02_Log.b255 c106 c197 c198 (fun y0 y1 y2 y3 y4 => J 16373 (abacusref02_Log.A c106 c197 c198 n J 16373 [n]) (abacusref02_Log.s16373 y0 y1 y2 y3 y4)) x0 x1 := by kernel_rfl
theorem abacusref02_Log.e1017 (c106 : List Int → Option (Int)) (c197 : List Int → List Int → Option (Int)) (c198 : List Int → List Int → Option (List Int)) (n : Nat) (J : Nat → (ASt → Option (Int × Int)) → ASt → Option (Int × Int)) (m : Nat) (x0 : List Int) (x1 : List Int) (x2 : List (List Int)) : abacusref02_Log.A c106 c197 c198 n J 1017 [m + 1] (abacusref02_Log.s1017 x0 x1 x2) = abacusref02_Log.b1017 c106 c197 c198 (fun y0 y1 => J 255 (abacusref02_Log.A c106 c197 c198 n J 255 []) (abacusref02_Log.s255 y0 y1)) (fun y0 y1 y2 => J 1017 (abacusref02_Log.A c106 c197 c198 n J 1017 [m]) (abacusref02_Log.s1017 y0 y1 y2)) x0 x1 x2 := by kernel_rfl
theorem abacusref02_Log.e16373 (c106 : List Int → Option (Int)) (c197 : List Int → List Int → Option (Int)) (c198 : List Int → List Int → Option (List Int)) (n : Nat) (J : Nat → (ASt → Option (Int × Int)) → ASt → Option (Int × Int)) (m : Nat) (x0 : List Int) (x1 : Int) (x2 : List Int) (x3 : Int) (x4 : List (List Int)) : abacusref02_Log.A c106 c197 c198 n J 16373 [m + 1] (abacusref02_Log.s16373 x0 x1 x2 x3 x4) = abacusref02_Log.b16373 c106 c197 c198 (fun y0 y1 y2 y3 y4 => J 16373 (abacusref02_Log.A c106 c197 c198 n J 16373 [m]) (abacusref02_Log.s16373 y0 y1 y2 y3 y4)) x0 x1 x2 x3 x4 := by kernel_rfl
theorem abacusref02_Log.q16373 (n : Nat) (m : Nat) : ∀ (x0 : List Int) (x1 : Int) (x2 : List Int) (x3 : Int) (x4 : List (List Int)), abacusref02_Log.A (abacusref02_Top.f n) (abacusref02_Order.f n) (abacusref02_Times.f n) n idJ 16373 [m] (abacusref02_Log.s16373 x0 x1 x2 x3 x4) = abacusref02_Log.l16373 n m x0 x1 x2 x3 x4 := by
  induction m with
  | zero => intros; rfl
  | succ m ih =>
    intro x0 x1 x2 x3 x4
    refine (abacusref02_Log.e16373 (abacusref02_Top.f n) (abacusref02_Order.f n) (abacusref02_Times.f n) n idJ m x0 x1 x2 x3 x4).trans ?_
    exact congrFun (congrFun (congrFun (congrFun (congrFun (congrArg (abacusref02_Log.b16373 (abacusref02_Top.f n) (abacusref02_Order.f n) (abacusref02_Times.f n)) (funext fun y0 => (funext fun y1 => (funext fun y2 => (funext fun y3 => (funext fun y4 => ih y0 y1 y2 y3 y4)))))) x0) x1) x2) x3) x4
theorem abacusref02_Log.q255 (n : Nat) (x0 : List Int) (x1 : List (List Int)) : abacusref02_Log.A (abacusref02_Top.f n) (abacusref02_Order.f n) (abacusref02_Times.f n) n idJ 255 [] (abacusref02_Log.s255 x0 x1) = abacusref02_Log.l255 n x0 x1 := (abacusref02_Log.e255 (abacusref02_Top.f n) (abacusref02_Order.f n) (abacusref02_Times.f n) n idJ x0 x1).trans (congrFun (congrFun (congrArg (abacusref02_Log.b255 (abacusref02_Top.f n) (abacusref02_Order.f n) (abacusref02_Times.f n)) (funext fun y0 => (funext fun y1 => (funext fun y2 => (funext fun y3 => (funext fun y4 => abacusref02_Log.q16373 n n y0 y1 y2 y3 y4)))))) x0) x1)
theorem abacusref02_Log.q1017 (n : Nat) (m : Nat) : ∀ (x0 : List Int) (x1 : List Int) (x2 : List (List Int)), abacusref02_Log.A (abacusref02_Top.f n) (abacusref02_Order.f n) (abacusref02_Times.f n) n idJ 1017 [m] (abacusref02_Log.s1017 x0 x1 x2) = abacusref02_Log.l1017 n m x0 x1 x2 := by
  induction m with
  | zero => intros; rfl
  | succ m ih =>
    intro x0 x1 x2
    refine (abacusref02_Log.e1017 (abacusref02_Top.f n) (abacusref02_Order.f n) (abacusref02_Times.f n) n idJ m x0 x1 x2).trans ?_
    exact congrFun (congrFun (congrFun (congr (congrArg (abacusref02_Log.b1017 (abacusref02_Top.f n) (abacusref02_Order.f n) (abacusref02_Times.f n)) (funext fun y0 => (funext fun y1 => abacusref02_Log.q255 n y0 y1))) (funext fun y0 => (funext fun y1 => (funext fun y2 => ih y0 y1 y2)))) x0) x1) x2
theorem abacusref02_Log.eq (n : Nat) (l0 : List Int) (a1 : Int) : afun (abacusref02_Log.cfg (abacusref02_Top.f n) (abacusref02_Order.f n) (abacusref02_Times.f n)) idJ abacusref02_Log.cuts n abacusref02_Log.code Tryd.f107.results.toList [false, false] [.ro .u64 l0, .int .u64 a1] abacusref02_Log.sg.out = abacusref02_Log.f n l0 a1 := (abacusref02_Log.e0 (abacusref02_Top.f n) (abacusref02_Order.f n) (abacusref02_Times.f n) n idJ l0 a1).trans (congrFun (congrFun (congrArg (abacusref02_Log.b0 (abacusref02_Top.f n) (abacusref02_Order.f n) (abacusref02_Times.f n)) (funext fun y0 => (funext fun y1 => (funext fun y2 => abacusref02_Log.q1017 n n y0 y1 y2)))) l0) a1)
theorem abacusref02_Log.ok {n : Nat} {l0 : List Int} {a1 : Int} {r : Int × Int} (h : abacusref02_Log.f n l0 a1 = some r) : CallD Tryd.prog HW 107 [.ro .u64 l0, .int .u64 a1] (abacusref02_Log.sg.enc r) :=
  fun_some hwS Tryd.func107 (by kernel_rfl) (body := abacusref02_Log.code) (by kernel_rfl) tys_ok (c := abacusref02_Log.cfg (abacusref02_Top.f n) (abacusref02_Order.f n) (abacusref02_Times.f n)) (orCall_ok (abacusref02_Top.call_ok (n := n)) (orCall_ok (abacusref02_Order.call_ok (n := n)) (orCall_ok (abacusref02_Times.call_ok (n := n)) noCall_ok))) noW_ok (by kernel_rfl) (by kernel_rfl) (Nat.le_of_ble_eq_true (by kernel_rfl)) ((abacusref02_Log.eq n l0 a1).trans h)
noncomputable def abacusref02_Log.call {α : Type} (g : List Int → Int → Option (Int × Int)) (ds : List D) (K : List D → Option α) : Option α := match ds with
  | [.ro .u64 l0, .int .u64 a1] => (g l0 a1).bind fun r => K (abacusref02_Log.sg.enc r)
  | _ => none
theorem abacusref02_Log.call_ok {α : Type} {n : Nat} (ds : List D) (K : List D → Option α) (r : α) (h : abacusref02_Log.call (abacusref02_Log.f n) ds K = some r) : ∃ rs, K rs = some r ∧ CallD Tryd.prog HW 107 ds rs := by
  unfold abacusref02_Log.call at h
  split at h
  · obtain ⟨x, hx, hk⟩ := Option.bind_eq_some_iff.1 h
    exact ⟨_, hk, abacusref02_Log.ok (n := n) hx⟩
  · cases h
/-! ### nat_FromUint: function 87 -/
noncomputable def nat_FromUint.b0 (a0 : Int) : Option (List Int) := (if a0 = 0 then some ([] : List Int) else some [a0])
noncomputable def nat_FromUint.f (a0 : Int) : Option (List Int) := nat_FromUint.b0 a0
noncomputable def nat_FromUint.sg : Sig (List Int) := s1 (sRow .u64)
noncomputable def nat_FromUint.code : Code := (Tryd.f87.body).getD .skip
noncomputable def nat_FromUint.cfg : Cfg (List Int) := { T := tys, call := noCall }
noncomputable def nat_FromUint.cuts : List (Nat × List (Nat × Want)) := []
theorem nat_FromUint.e0 (n : Nat) (J : Nat → (ASt → Option (List Int)) → ASt → Option (List Int)) (a0 : Int) : afun (nat_FromUint.cfg) J nat_FromUint.cuts n nat_FromUint.code Tryd.f87.results.toList [false] [.int .u64 a0] nat_FromUint.sg.out = nat_FromUint.b0 a0 := by kernel_rfl
theorem nat_FromUint.eq (n : Nat) (a0 : Int) : afun (nat_FromUint.cfg) idJ nat_FromUint.cuts n nat_FromUint.code Tryd.f87.results.toList [false] [.int .u64 a0] nat_FromUint.sg.out = nat_FromUint.f a0 := (nat_FromUint.e0 n idJ a0).trans (rfl)
theorem nat_FromUint.ok {n : Nat} {a0 : Int} {r : List Int} (h : nat_FromUint.f a0 = some r) : CallD Tryd.prog HW 87 [.int .u64 a0] (nat_FromUint.sg.enc r) :=
  fun_some hwS Tryd.func87 (by kernel_rfl) (body := nat_FromUint.code) (by kernel_rfl) tys_ok (c := nat_FromUint.cfg) noCall_ok noW_ok (by kernel_rfl) (by kernel_rfl) (Nat.le_of_ble_eq_true (by kernel_rfl)) ((nat_FromUint.eq n a0).trans h)
noncomputable def nat_FromUint.call {α : Type} (g : Int → Option (List Int)) (ds : List D) (K : List D → Option α) : Option α := match ds with
  | [.int .u64 a0] => (g a0).bind fun r => K (nat_FromUint.sg.enc r)
  | _ => none
theorem nat_FromUint.call_ok {α : Type} {n : Nat} (ds : List D) (K : List D → Option α) (r : α) (h : nat_FromUint.call nat_FromUint.f ds K = some r) : ∃ rs, K rs = some r ∧ CallD Tryd.prog HW 87 ds rs := by
  unfold nat_FromUint.call at h
  split at h
  · obtain ⟨x, hx, hk⟩ := Option.bind_eq_some_iff.1 h
    exact ⟨_, hk, nat_FromUint.ok (n := n) hx⟩
  · cases h
/-! ### nat_Cmp: function 92 -/
noncomputable def nat_Cmp.b0 (c180 : List Int → Option (Int)) (k245 : List Int → List Int → Int → Option (Int)) (l0 : List Int) (l1 : List Int) : Option (Int) := ((c180 l0).bind fun t1 => ((c180 l1).bind fun t2 => (if ¬ t1 = t2 then (if t1 < t2 then some (-1) else some 1) else k245 l0 l1 (wrap64 (t1 - 1)))))
noncomputable def nat_Cmp.b245 (c180 : List Int → Option (Int)) (k245 : List Int → List Int → Int → Option (Int)) (x0 : List Int) (x1 : List Int) (x2 : Int) : Option (Int) := (if x2 ≥ 0 then (if 0 ≤ x2 then (if x2 < (ln x0) then (if 0 ≤ x2 then (if x2 < (ln x1) then (if ¬ (rd x0 x2) = (rd x1 x2) then (if 0 ≤ x2 then (if x2 < (ln x0) then (if 0 ≤ x2 then (if x2 < (ln x1) then (if (rd x0 x2) < (rd x1 x2) then some (-1) else some 1) else none) else none) else none) else none) else k245 x0 x1 (wrap64 (x2 - 1))) else none) else none) else none) else none) else some 0)
noncomputable def nat_Cmp.l245 (n : Nat) : Nat → List Int → List Int → Int → Option (Int)
  | 0, _, _, _ => none
  | m + 1, x0, x1, x2 => nat_Cmp.b245 (nat_size.f n) (nat_Cmp.l245 n m) x0 x1 x2
noncomputable def nat_Cmp.f (n : Nat) (l0 : List Int) (l1 : List Int) : Option (Int) := nat_Cmp.b0 (nat_size.f n) (nat_Cmp.l245 n n) l0 l1
noncomputable def nat_Cmp.sg : Sig (Int) := s1 (sInt .i64)
noncomputable def nat_Cmp.code : Code := (Tryd.f92.body).getD .skip
noncomputable def nat_Cmp.cfg (c180 : List Int → Option (Int)) : Cfg (Int) := { T := tys, call := orCall 180 (nat_size.call c180) (noCall) }
noncomputable def nat_Cmp.cuts : List (Nat × List (Nat × Want)) := [(245, [(0, .keep), (1, .keep), (7, .keep)])]
noncomputable def nat_Cmp.s245 (x0 : List Int) (x1 : List Int) (x2 : Int) : ASt := ⟨[(0, .ro .u64 x0), (1, .ro .u64 x1), (7, .int .i64 x2)], []⟩
noncomputable def nat_Cmp.A (c180 : List Int → Option (Int)) (n : Nat) (J : Nat → (ASt → Option (Int)) → ASt → Option (Int)) (q : Nat) (ms : List Nat) : ASt → Option (Int) := acont (nat_Cmp.cfg c180) J nat_Cmp.cuts n q nat_Cmp.code 1 ms (aend (nat_Cmp.cfg c180) Tryd.f92.results.toList [false] nat_Cmp.sg.out)
theorem nat_Cmp.e0 (c180 : List Int → Option (Int)) (n : Nat) (J : Nat → (ASt → Option (Int)) → ASt → Option (Int)) (l0 : List Int) (l1 : List Int) : afun (nat_Cmp.cfg c180) J nat_Cmp.cuts n nat_Cmp.code Tryd.f92.results.toList [false] [.ro .u64 l0, .ro .u64 l1] nat_Cmp.sg.out = nat_Cmp.b0 c180 (fun y0 y1 y2 => J 245 (nat_Cmp.A c180 n J 245 [n]) (nat_Cmp.s245 y0 y1 y2)) l0 l1 := by kernel_rfl
theorem nat_Cmp.e245 (c180 : List Int → Option (Int)) (n : Nat) (J : Nat → (ASt → Option (Int)) → ASt → Option (Int)) (m : Nat) (x0 : List Int) (x1 : List Int) (x2 : Int) : nat_Cmp.A c180 n J 245 [m + 1] (nat_Cmp.s245 x0 x1 x2) = nat_Cmp.b245 c180 (fun y0 y1 y2 => J 245 (nat_Cmp.A c180 n J 245 [m]) (nat_Cmp.s245 y0 y1 y2)) x0 x1 x2 := by kernel_rfl
theorem nat_Cmp.q245 (n : Nat) (m : Nat) : ∀ (x0 : List Int) (x1 : List Int) (x2 : Int), nat_Cmp.A (nat_size.f n) n idJ 245 [m] (nat_Cmp.s245 x0 x1 x2) = nat_Cmp.l245 n m x0 x1 x2 := by
  induction m with
  | zero => intros; rfl
  | succ m ih =>
    intro x0 x1 x2
    refine (nat_Cmp.e245 (nat_size.f n) n idJ m x0 x1 x2).trans ?_
    exact congrFun (congrFun (congrFun (congrArg (nat_Cmp.b245 (nat_size.f n)) (funext fun y0 => (funext fun y1 => (funext fun y2 => ih y0 y1 y2)))) x0) x1) x2
theorem nat_Cmp.eq (n : Nat) (l0 : List Int) (l1 : List Int) : afun (nat_Cmp.cfg (nat_size.f n)) idJ nat_Cmp.cuts n nat_Cmp.code Tryd.f92.results.toList [false] [.ro .u64 l0, .ro .u64 l1] nat_Cmp.sg.out = nat_Cmp.f n l0 l1 := (nat_Cmp.e0 (nat_size.f n) n idJ l0 l1).trans (congrFun (congrFun (congrArg (nat_Cmp.b0 (nat_size.f n)) (funext fun y0 => (funext fun y1 => (funext fun y2 => nat_Cmp.q245 n n y0 y1 y2)))) l0) l1)
theorem nat_Cmp.ok {n : Nat} {l0 : List Int} {l1 : List Int} {r : Int} (h : nat_Cmp.f n l0 l1 = some r) : CallD Tryd.prog HW 92 [.ro .u64 l0, .ro .u64 l1] (nat_Cmp.sg.enc r) :=
  fun_some hwS Tryd.func92 (by kernel_rfl) (body := nat_Cmp.code) (by kernel_rfl) tys_ok (c := nat_Cmp.cfg (nat_size.f n)) (orCall_ok (nat_size.call_ok (n := n)) noCall_ok) noW_ok (by kernel_rfl) (by kernel_rfl) (Nat.le_of_ble_eq_true (by kernel_rfl)) ((nat_Cmp.eq n l0 l1).trans h)
noncomputable def nat_Cmp.call {α : Type} (g : List Int → List Int → Option (Int)) (ds : List D) (K : List D → Option α) : Option α := match ds with
  | [.ro .u64 l0, .ro .u64 l1] => (g l0 l1).bind fun r => K (nat_Cmp.sg.enc r)
  | _ => none
theorem nat_Cmp.call_ok {α : Type} {n : Nat} (ds : List D) (K : List D → Option α) (r : α) (h : nat_Cmp.call (nat_Cmp.f n) ds K = some r) : ∃ rs, K rs = some r ∧ CallD Tryd.prog HW 92 ds rs := by
  unfold nat_Cmp.call at h
  split at h
  · obtain ⟨x, hx, hk⟩ := Option.bind_eq_some_iff.1 h
    exact ⟨_, hk, nat_Cmp.ok (n := n) hx⟩
  · cases h
/-! ### bits_LeadingZeros64: function 236 -/
noncomputable def bits_LeadingZeros64.b0 (c176 : Int → Option (Int)) (a0 : Int) : Option (Int) := ((c176 a0).bind fun t1 => some (wrap64 (64 - t1)))
noncomputable def bits_LeadingZeros64.f (a0 : Int) : Option (Int) := bits_LeadingZeros64.b0 bits_Len64.f a0
noncomputable def bits_LeadingZeros64.sg : Sig (Int) := s1 (sInt .i64)
noncomputable def bits_LeadingZeros64.code : Code := (Tryd.f236.body).getD .skip
noncomputable def bits_LeadingZeros64.cfg (c176 : Int → Option (Int)) : Cfg (Int) := { T := tys, call := orCall 176 (bits_Len64.call c176) (noCall) }
noncomputable def bits_LeadingZeros64.cuts : List (Nat × List (Nat × Want)) := []
theorem bits_LeadingZeros64.e0 (c176 : Int → Option (Int)) (n : Nat) (J : Nat → (ASt → Option (Int)) → ASt → Option (Int)) (a0 : Int) : afun (bits_LeadingZeros64.cfg c176) J bits_LeadingZeros64.cuts n bits_LeadingZeros64.code Tryd.f236.results.toList [false] [.int .u64 a0] bits_LeadingZeros64.sg.out = bits_LeadingZeros64.b0 c176 a0 := by kernel_rfl
theorem bits_LeadingZeros64.eq (n : Nat) (a0 : Int) : afun (bits_LeadingZeros64.cfg bits_Len64.f) idJ bits_LeadingZeros64.cuts n bits_LeadingZeros64.code Tryd.f236.results.toList [false] [.int .u64 a0] bits_LeadingZeros64.sg.out = bits_LeadingZeros64.f a0 := (bits_LeadingZeros64.e0 bits_Len64.f n idJ a0).trans (rfl)
theorem bits_LeadingZeros64.ok {n : Nat} {a0 : Int} {r : Int} (h : bits_LeadingZeros64.f a0 = some r) : CallD Tryd.prog HW 236 [.int .u64 a0] (bits_LeadingZeros64.sg.enc r) :=
  fun_some hwS Tryd.func236 (by kernel_rfl) (body := bits_LeadingZeros64.code) (by kernel_rfl) tys_ok (c := bits_LeadingZeros64.cfg bits_Len64.f) (orCall_ok (bits_Len64.call_ok (n := n)) noCall_ok) noW_ok (by kernel_rfl) (by kernel_rfl) (Nat.le_of_ble_eq_true (by kernel_rfl)) ((bits_LeadingZeros64.eq n a0).trans h)
noncomputable def bits_LeadingZeros64.call {α : Type} (g : Int → Option (Int)) (ds : List D) (K : List D → Option α) : Option α := match ds with
  | [.int .u64 a0] => (g a0).bind fun r => K (bits_LeadingZeros64.sg.enc r)
  | _ => none
theorem bits_LeadingZeros64.call_ok {α : Type} {n : Nat} (ds : List D) (K : List D → Option α) (r : α) (h : bits_LeadingZeros64.call bits_LeadingZeros64.f ds K = some r) : ∃ rs, K rs = some r ∧ CallD Tryd.prog HW 236 ds rs := by
  unfold bits_LeadingZeros64.call at h
  split at h
  · obtain ⟨x, hx, hk⟩ := Option.bind_eq_some_iff.1 h
    exact ⟨_, hk, bits_LeadingZeros64.ok (n := n) hx⟩
  · cases h
/-! ### bits_Div64: function 192 -/
noncomputable def bits_Div64.b0 (c236 : Int → Option (Int)) (k262137 : Int → Int → Int → Int → Int → Int → Int → Int → Int → Option (Int × Int)) (a0 : Int) (a1 : Int) (a2 : Int) : Option (Int × Int) := (if a2 = 0 then none else (if a2 ≤ a0 then none else (if a0 = 0 then (if a2 = 0 then none else (if a2 = 0 then none else some (IntKind.u64.wrap (Int.tdiv a1 a2), Int.tmod a1 a2))) else ((c236 a2).bind fun t1 => (if 0 ≤ (IntKind.u64.wrap t1) then (if 0 ≤ (IntKind.u64.wrap t1) then (if 0 ≤ (IntKind.u64.wrap (64 - (IntKind.u64.wrap t1))) then (if 0 ≤ (IntKind.u64.wrap t1) then (if ((shl .u64 a2 (IntKind.u64.wrap t1)) / 4294967296) = 0 then none else k262137 (shl .u64 a2 (IntKind.u64.wrap t1)) (IntKind.u64.wrap t1) ((shl .u64 a2 (IntKind.u64.wrap t1)) / 4294967296) (Go.bits .and .u64 (shl .u64 a2 (IntKind.u64.wrap t1)) 4294967295) (Go.bits .or .u64 (shl .u64 a0 (IntKind.u64.wrap t1)) (shr .u64 a1 (IntKind.u64.wrap (64 - (IntKind.u64.wrap t1))))) ((shl .u64 a1 (IntKind.u64.wrap t1)) / 4294967296) (Go.bits .and .u64 (shl .u64 a1 (IntKind.u64.wrap t1)) 4294967295) (IntKind.u64.wrap (Int.tdiv (Go.bits .or .u64 (shl .u64 a0 (IntKind.u64.wrap t1)) (shr .u64 a1 (IntKind.u64.wrap (64 - (IntKind.u64.wrap t1))))) ((shl .u64 a2 (IntKind.u64.wrap t1)) / 4294967296))) (IntKind.u64.wrap ((Go.bits .or .u64 (shl .u64 a0 (IntKind.u64.wrap t1)) (shr .u64 a1 (IntKind.u64.wrap (64 - (IntKind.u64.wrap t1))))) - (IntKind.u64.wrap ((IntKind.u64.wrap (Int.tdiv (Go.bits .or .u64 (shl .u64 a0 (IntKind.u64.wrap t1)) (shr .u64 a1 (IntKind.u64.wrap (64 - (IntKind.u64.wrap t1))))) ((shl .u64 a2 (IntKind.u64.wrap t1)) / 4294967296))) * ((shl .u64 a2 (IntKind.u64.wrap t1)) / 4294967296)))))) else none) else none) else none) else none)))))
noncomputable def bits_Div64.b65535 (c236 : Int → Option (Int)) (k4194297 : Int → Int → Int → Int → Int → Int → Int → Int → Int → Option (Int × Int)) (x0 : Int) (x1 : Int) (x2 : Int) (x3 : Int) (x4 : Int) (x5 : Int) (x6 : Int) (x7 : Int) : Option (Int × Int) := (if x2 = 0 then none else k4194297 x0 x1 x2 x3 x6 x7 (IntKind.u64.wrap ((IntKind.u64.wrap ((IntKind.u64.wrap ((IntKind.u64.wrap (x4 * 4294967296)) + x5)) - (IntKind.u64.wrap (x7 * x0)))) - (IntKind.u64.wrap ((IntKind.u64.wrap (Int.tdiv (IntKind.u64.wrap ((IntKind.u64.wrap ((IntKind.u64.wrap (x4 * 4294967296)) + x5)) - (IntKind.u64.wrap (x7 * x0)))) x2)) * x2)))) (IntKind.u64.wrap ((IntKind.u64.wrap ((IntKind.u64.wrap (x4 * 4294967296)) + x5)) - (IntKind.u64.wrap (x7 * x0)))) (IntKind.u64.wrap (Int.tdiv (IntKind.u64.wrap ((IntKind.u64.wrap ((IntKind.u64.wrap (x4 * 4294967296)) + x5)) - (IntKind.u64.wrap (x7 * x0)))) x2)))
noncomputable def bits_Div64.b262137 (c236 : Int → Option (Int)) (k65535 : Int → Int → Int → Int → Int → Int → Int → Int → Option (Int × Int)) (k524273 : Int → Int → Int → Int → Int → Int → Int → Int → Int → Option (Int × Int)) (x0 : Int) (x1 : Int) (x2 : Int) (x3 : Int) (x4 : Int) (x5 : Int) (x6 : Int) (x7 : Int) (x8 : Int) : Option (Int × Int) := (if x7 ≥ 4294967296 then k524273 x0 x1 x2 x3 x4 x5 x6 x7 x8 else (if (IntKind.u64.wrap (x7 * x3)) > (IntKind.u64.wrap ((IntKind.u64.wrap (4294967296 * x8)) + x5)) then k524273 x0 x1 x2 x3 x4 x5 x6 x7 x8 else k65535 x0 x1 x2 x3 x4 x5 x6 x7))
noncomputable def bits_Div64.b524273 (c236 : Int → Option (Int)) (k65535 : Int → Int → Int → Int → Int → Int → Int → Int → Option (Int × Int)) (k262137 : Int → Int → Int → Int → Int → Int → Int → Int → Int → Option (Int × Int)) (x0 : Int) (x1 : Int) (x2 : Int) (x3 : Int) (x4 : Int) (x5 : Int) (x6 : Int) (x7 : Int) (x8 : Int) : Option (Int × Int) := (if (IntKind.u64.wrap (x8 + x2)) ≥ 4294967296 then k65535 x0 x1 x2 x3 x4 x5 x6 (IntKind.u64.wrap (x7 - 1)) else k262137 x0 x1 x2 x3 x4 x5 x6 (IntKind.u64.wrap (x7 - 1)) (IntKind.u64.wrap (x8 + x2)))
noncomputable def bits_Div64.b1048575 (c236 : Int → Option (Int)) (x0 : Int) (x1 : Int) (x2 : Int) (x3 : Int) (x4 : Int) (x5 : Int) : Option (Int × Int) := (if 0 ≤ x1 then some (IntKind.u64.wrap ((IntKind.u64.wrap (x3 * 4294967296)) + x5), shr .u64 (IntKind.u64.wrap ((IntKind.u64.wrap ((IntKind.u64.wrap (x4 * 4294967296)) + x2)) - (IntKind.u64.wrap (x5 * x0)))) x1) else none)
noncomputable def bits_Div64.b4194297 (c236 : Int → Option (Int)) (k1048575 : Int → Int → Int → Int → Int → Int → Option (Int × Int)) (k8388593 : Int → Int → Int → Int → Int → Int → Int → Int → Int → Option (Int × Int)) (x0 : Int) (x1 : Int) (x2 : Int) (x3 : Int) (x4 : Int) (x5 : Int) (x6 : Int) (x7 : Int) (x8 : Int) : Option (Int × Int) := (if x8 ≥ 4294967296 then k8388593 x0 x1 x2 x3 x4 x5 x6 x7 x8 else (if (IntKind.u64.wrap (x8 * x3)) > (IntKind.u64.wrap ((IntKind.u64.wrap (4294967296 * x6)) + x4)) then k8388593 x0 x1 x2 x3 x4 x5 x6 x7 x8 else k1048575 x0 x1 x4 x5 x7 x8))
noncomputable def bits_Div64.b8388593 (c236 : Int → Option (Int)) (k1048575 : Int → Int → Int → Int → Int → Int → Option (Int × Int)) (k4194297 : Int → Int → Int → Int → Int → Int → Int → Int → Int → Option (Int × Int)) (x0 : Int) (x1 : Int) (x2 : Int) (x3 : Int) (x4 : Int) (x5 : Int) (x6 : Int) (x7 : Int) (x8 : Int) : Option (Int × Int) := (if (IntKind.u64.wrap (x6 + x2)) ≥ 4294967296 then k1048575 x0 x1 x4 x5 x7 (IntKind.u64.wrap (x8 - 1)) else k4194297 x0 x1 x2 x3 x4 x5 (IntKind.u64.wrap (x6 + x2)) x7 (IntKind.u64.wrap (x8 - 1)))
noncomputable def bits_Div64.l1048575 (n : Nat) (x0 : Int) (x1 : Int) (x2 : Int) (x3 : Int) (x4 : Int) (x5 : Int) : Option (Int × Int) := bits_Div64.b1048575 bits_LeadingZeros64.f x0 x1 x2 x3 x4 x5
noncomputable def bits_Div64.l8388593 (n : Nat) (k4194297 : Int → Int → Int → Int → Int → Int → Int → Int → Int → Option (Int × Int)) (x0 : Int) (x1 : Int) (x2 : Int) (x3 : Int) (x4 : Int) (x5 : Int) (x6 : Int) (x7 : Int) (x8 : Int) : Option (Int × Int) := bits_Div64.b8388593 bits_LeadingZeros64.f (bits_Div64.l1048575 n) k4194297 x0 x1 x2 x3 x4 x5 x6 x7 x8
noncomputable def bits_Div64.l4194297 (n : Nat) : Nat → Int → Int → Int → Int → Int → Int → Int → Int → Int → Option (Int × Int)
  | 0, _, _, _, _, _, _, _, _, _ => none
  | m + 1, x0, x1, x2, x3, x4, x5, x6, x7, x8 => bits_Div64.b4194297 bits_LeadingZeros64.f (bits_Div64.l1048575 n) (bits_Div64.l8388593 n (bits_Div64.l4194297 n m)) x0 x1 x2 x3 x4 x5 x6 x7 x8
noncomputable def bits_Div64.l65535 (n : Nat) (x0 : Int) (x1 : Int) (x2 : Int) (x3 : Int) (x4 : Int) (x5 : Int) (x6 : Int) (x7 : Int) : Option (Int × Int) := bits_Div64.b65535 bits_LeadingZeros64.f (bits_Div64.l4194297 n n) x0 x1 x2 x3 x4 x5 x6 x7
noncomputable def bits_Div64.l524273 (n : Nat) (k262137 : Int → Int → Int → Int → Int → Int → Int → Int → Int → Option (Int × Int)) (x0 : Int) (x1 : Int) (x2 : Int) (x3 : Int) (x4 : Int) (x5 : Int) (x6 : Int) (x7 : Int) (x8 : Int) : Option (Int × Int) := bits_Div64.b524273 bits_LeadingZeros64.f (bits_Div64.l65535 n) k262137 x0 x1 x2 x3 x4 x5 x6 x7 x8
noncomputable def bits_Div64.l262137 (n : Nat) : Nat → Int → Int → Int → Int → Int → Int → Int → Int → Int → Option (Int × Int)
  | 0, _, _, _, _, _, _, _, _, _ => none
  | m + 1, x0, x1, x2, x3, x4, x5, x6, x7, x8 => bits_Div64.b262137 bits_LeadingZeros64.f (bits_Div64.l65535 n) (bits_Div64.l524273 n (bits_Div64.l262137 n m)) x0 x1 x2 x3 x4 x5 x6 x7 x8
noncomputable def bits_Div64.f (n : Nat) (a0 : Int) (a1 : Int) (a2 : Int) : Option (Int × Int) := bits_Div64.b0 bits_LeadingZeros64.f (bits_Div64.l262137 n n) a0 a1 a2
noncomputable def bits_Div64.sg : Sig (Int × Int) := s2 (sInt .u64) (s1 (sInt .u64))
noncomputable def bits_Div64.code : Code := (Tryd.f192.body).getD .skip
noncomputable def bits_Div64.cfg (c236 : Int → Option (Int)) : Cfg (Int × Int) := { T := tys, call := orCall 236 (bits_LeadingZeros64.call c236) (noCall) }
noncomputable def bits_Div64.cuts : List (Nat × List (Nat × Want)) := [(65535, [(2, .keep), (8, .keep), (9, .keep), (10, .keep), (11, .keep), (13, .keep), (14, .keep), (15, .keep)]), (262137, [(2, .keep), (8, .keep), (9, .keep), (10, .keep), (11, .keep), (13, .keep), (14, .keep), (15, .keep), (16, .keep)]), (524273, [(2, .keep), (8, .keep), (9, .keep), (10, .keep), (11, .keep), (13, .keep), (14, .keep), (15, .keep), (16, .keep)]), (1048575, [(2, .keep), (8, .keep), (14, .keep), (15, .keep), (17, .keep), (18, .keep)]), (4194297, [(2, .keep), (8, .keep), (9, .keep), (10, .keep), (14, .keep), (15, .keep), (16, .keep), (17, .keep), (18, .keep)]), (8388593, [(2, .keep), (8, .keep), (9, .keep), (10, .keep), (14, .keep), (15, .keep), (16, .keep), (17, .keep), (18, .keep)])]
noncomputable def bits_Div64.s65535 (x0 : Int) (x1 : Int) (x2 : Int) (x3 : Int) (x4 : Int) (x5 : Int) (x6 : Int) (x7 : Int) : ASt := ⟨[(2, .int .u64 x0), (8, .int .u64 x1), (9, .int .u64 x2), (10, .int .u64 x3), (11, .int .u64 x4), (13, .int .u64 x5), (14, .int .u64 x6), (15, .int .u64 x7)], []⟩
noncomputable def bits_Div64.s262137 (x0 : Int) (x1 : Int) (x2 : Int) (x3 : Int) (x4 : Int) (x5 : Int) (x6 : Int) (x7 : Int) (x8 : Int) : ASt := ⟨[(2, .int .u64 x0), (8, .int .u64 x1), (9, .int .u64 x2), (10, .int .u64 x3), (11, .int .u64 x4), (13, .int .u64 x5), (14, .int .u64 x6), (15, .int .u64 x7), (16, .int .u64 x8)], []⟩
noncomputable def bits_Div64.s524273 (x0 : Int) (x1 : Int) (x2 : Int) (x3 : Int) (x4 : Int) (x5 : Int) (x6 : Int) (x7 : Int) (x8 : Int) : ASt := ⟨[(2, .int .u64 x0), (8, .int .u64 x1), (9, .int .u64 x2), (10, .int .u64 x3), (11, .int .u64 x4), (13, .int .u64 x5), (14, .int .u64 x6), (15, .int .u64 x7), (16, .int .u64 x8)], []⟩
noncomputable def bits_Div64.s1048575 (x0 : Int) (x1 : Int) (x2 : Int) (x3 : Int) (x4 : Int) (x5 : Int) : ASt := ⟨[(2, .int .u64 x0), (8, .int .u64 x1), (14, .int .u64 x2), (15, .int .u64 x3), (17, .int .u64 x4), (18, .int .u64 x5)], []⟩
noncomputable def bits_Div64.s4194297 (x0 : Int) (x1 : Int) (x2 : Int) (x3 : Int) (x4 : Int) (x5 : Int) (x6 : Int) (x7 : Int) (x8 : Int) : ASt := ⟨[(2, .int .u64 x0), (8, .int .u64 x1), (9, .int .u64 x2), (10, .int .u64 x3), (14, .int .u64 x4), (15, .int .u64 x5), (16, .int .u64 x6), (17, .int .u64 x7), (18, .int .u64 x8)], []⟩
noncomputable def bits_Div64.s8388593 (x0 : Int) (x1 : Int) (x2 : Int) (x3 : Int) (x4 : Int) (x5 : Int) (x6 : Int) (x7 : Int) (x8 : Int) : ASt := ⟨[(2, .int .u64 x0), (8, .int .u64 x1), (9, .int .u64 x2), (10, .int .u64 x3), (14, .int .u64 x4), (15, .int .u64 x5), (16, .int .u64 x6), (17, .int .u64 x7), (18, .int .u64 x8)], []⟩
noncomputable def bits_Div64.A (c236 : Int → Option (Int)) (n : Nat) (J : Nat → (ASt → Option (Int × Int)) → ASt → Option (Int × Int)) (q : Nat) (ms : List Nat) : ASt → Option (Int × Int) := acont (bits_Div64.cfg c236) J bits_Div64.cuts n q bits_Div64.code 1 ms (aend (bits_Div64.cfg c236) Tryd.f192.results.toList [false, false] bits_Div64.sg.out)
theorem bits_Div64.e0 (c236 : Int → Option (Int)) (n : Nat) (J : Nat → (ASt → Option (Int × Int)) → ASt → Option (Int × Int)) (a0 : Int) (a1 : Int) (a2 : Int) : afun (bits_Div64.cfg c236) J bits_Div64.cuts n bits_Div64.code Tryd.f192.results.toList [false, false] [.int .u64 a0, .int .u64 a1, .int .u64 a2] bits_Div64.sg.out = bits_Div64.b0 c236 (fun y0 y1 y2 y3 y4 y5 y6 y7 y8 => J 262137 (bits_Div64.A c236 n J 262137 [n]) (bits_Div64.s262137 y0 y1 y2 y3 y4 y5 y6 y7 y8)) a0 a1 a2 := by kernel_rfl
theorem bits_Div64.e65535 (c236 : Int → Option (Int)) (n : Nat) (J : Nat → (ASt → Option (Int × Int)) → ASt → Option (Int × Int)) (x0 : Int) (x1 : Int) (x2 : Int) (x3 : Int) (x4 : Int) (x5 : Int) (x6 : Int) (x7 : Int) : bits_Div64.A c236 n J 65535 [] (bits_Div64.s65535 x0 x1 x2 x3 x4 x5 x6 x7) = bits_Div64.b65535 c236 (fun y0 y1 y2 y3 y4 y5 y6 y7 y8 => J 4194297 (bits_Div64.A c236 n J 4194297 [n]) (bits_Div64.s4194297 y0 y1 y2 y3 y4 y5 y6 y7 y8)) x0 x1 x2 x3 x4 x5 x6 x7 := by kernel_rfl
theorem bits_Div64.e262137 (c236 : Int → Option (Int)) (n : Nat) (J : Nat → (ASt → Option (Int × Int)) → ASt → Option (Int × Int)) (m : Nat) (x0 : Int) (x1 : Int) (x2 : Int) (x3 : Int) (x4 : Int) (x5 : Int) (x6 : Int) (x7 : Int) (x8 : Int) : bits_Div64.A c236 n J 262137 [m + 1] (bits_Div64.s262137 x0 x1 x2 x3 x4 x5 x6 x7 x8) = bits_Div64.b262137 c236 (fun y0 y1 y2 y3 y4 y5 y6 y7 => J 65535 (bits_Div64.A c236 n J 65535 []) (bits_Div64.s65535 y0 y1 y2 y3 y4 y5 y6 y7)) (fun y0 y1 y2 y3 y4 y5 y6 y7 y8 => J 524273 (bits_Div64.A c236 n J 524273 [m]) (bits_Div64.s524273 y0 y1 y2 y3 y4 y5 y6 y7 y8)) x0 x1 x2 x3 x4 x5 x6 x7 x8 := by kernel_rfl
theorem bits_Div64.e524273 (c236 : Int → Option (Int)) (n : Nat) (J : Nat → (ASt → Option (Int × Int)) → ASt → Option (Int × Int)) (m262137 : Nat) (x0 : Int) (x1 : Int) (x2 : Int) (x3 : Int) (x4 : Int) (x5 : Int) (x6 : Int) (x7 : Int) (x8 : Int) : bits_Div64.A c236 n J 524273 [m262137] (bits_Div64.s524273 x0 x1 x2 x3 x4 x5 x6 x7 x8) = bits_Div64.b524273 c236 (fun y0 y1 y2 y3 y4 y5 y6 y7 => J 65535 (bits_Div64.A c236 n J 65535 []) (bits_Div64.s65535 y0 y1 y2 y3 y4 y5 y6 y7)) (fun y0 y1 y2 y3 y4 y5 y6 y7 y8 => J 262137 (bits_Div64.A c236 n J 262137 [m262137]) (bits_Div64.s262137 y0 y1 y2 y3 y4 y5 y6 y7 y8)) x0 x1 x2 x3 x4 x5 x6 x7 x8 := by kernel_rfl
theorem bits_Div64.e1048575 (c236 : Int → Option (Int)) (n : Nat) (J : Nat → (ASt → Option (Int × Int)) → ASt → Option (Int × Int)) (x0 : Int) (x1 : Int) (x2 : Int) (x3 : Int) (x4 : Int) (x5 : Int) : bits_Div64.A c236 n J 1048575 [] (bits_Div64.s1048575 x0 x1 x2 x3 x4 x5) = bits_Div64.b1048575 c236 x0 x1 x2 x3 x4 x5 := by kernel_rfl
theorem bits_Div64.e4194297 (c236 : Int → Option (Int)) (n : Nat) (J : Nat → (ASt → Option (Int × Int)) → ASt → Option (Int × Int)) (m : Nat) (x0 : Int) (x1 : Int) (x2 : Int) (x3 : Int) (x4 : Int) (x5 : Int) (x6 : Int) (x7 : Int) (x8 : Int) : bits_Div64.A c236 n J 4194297 [m + 1] (bits_Div64.s4194297 x0 x1 x2 x3 x4 x5 x6 x7 x8) = bits_Div64.b4194297 c236 (fun y0 y1 y2 y3 y4 y5 => J 1048575 (bits_Div64.A c236 n J 1048575 []) (bits_Div64.s1048575 y0 y1 y2 y3 y4 y5)) (fun y0 y1 y2 y3 y4 y5 y6 y7 y8 => J 8388593 (bits_Div64.A c236 n J 8388593 [m]) (bits_Div64.s8388593 y0 y1 y2 y3 y4 y5 y6 y7 y8)) x0 x1 x2 x3 x4 x5 x6 x7 x8 := by kernel_rfl
theorem bits_Div64.e8388593 (c236 : Int → Option (Int)) (n : Nat) (J : Nat → (ASt → Option (Int × Int)) → ASt → Option (Int × Int)) (m4194297 : Nat) (x0 : Int) (x1 : Int) (x2 : Int) (x3 : Int) (x4 : Int) (x5 : Int) (x6 : Int) (x7 : Int) (x8 : Int) : bits_Div64.A c236 n J 8388593 [m4194297] (bits_Div64.s8388593 x0 x1 x2 x3 x4 x5 x6 x7 x8) = bits_Div64.b8388593 c236 (fun y0 y1 y2 y3 y4 y5 => J 1048575 (bits_Div64.A c236 n J 1048575 []) (bits_Div64.s1048575 y0 y1 y2 y3 y4 y5)) (fun y0 y1 y2 y3 y4 y5 y6 y7 y8 => J 4194297 (bits_Div64.A c236 n J 4194297 [m4194297]) (bits_Div64.s4194297 y0 y1 y2 y3 y4 y5 y6 y7 y8)) x0 x1 x2 x3 x4 x5 x6 x7 x8 := by kernel_rfl
theorem bits_Div64.q1048575 (n : Nat) (x0 : Int) (x1 : Int) (x2 : Int) (x3 : Int) (x4 : Int) (x5 : Int) : bits_Div64.A bits_LeadingZeros64.f n idJ 1048575 [] (bits_Div64.s1048575 x0 x1 x2 x3 x4 x5) = bits_Div64.l1048575 n x0 x1 x2 x3 x4 x5 := (bits_Div64.e1048575 bits_LeadingZeros64.f n idJ x0 x1 x2 x3 x4 x5).trans (rfl)
theorem bits_Div64.q8388593 (n : Nat) (m4194297 : Nat) (x0 : Int) (x1 : Int) (x2 : Int) (x3 : Int) (x4 : Int) (x5 : Int) (x6 : Int) (x7 : Int) (x8 : Int) : bits_Div64.A bits_LeadingZeros64.f n idJ 8388593 [m4194297] (bits_Div64.s8388593 x0 x1 x2 x3 x4 x5 x6 x7 x8) = bits_Div64.l8388593 n (fun y0 y1 y2 y3 y4 y5 y6 y7 y8 => bits_Div64.A bits_LeadingZeros64.f n idJ 4194297 [m4194297] (bits_Div64.s4194297 y0 y1 y2 y3 y4 y5 y6 y7 y8)) x0 x1 x2 x3 x4 x5 x6 x7 x8 := (bits_Div64.e8388593 bits_LeadingZeros64.f n idJ m4194297 x0 x1 x2 x3 x4 x5 x6 x7 x8).trans (congrFun (congrFun (congrFun (congrFun (congrFun (congrFun (congrFun (congrFun (congrFun (congr (congrArg (bits_Div64.b8388593 bits_LeadingZeros64.f) (funext fun y0 => (funext fun y1 => (funext fun y2 => (funext fun y3 => (funext fun y4 => (funext fun y5 => bits_Div64.q1048575 n y0 y1 y2 y3 y4 y5))))))) rfl) x0) x1) x2) x3) x4) x5) x6) x7) x8)
theorem bits_Div64.q4194297 (n : Nat) (m : Nat) : ∀ (x0 : Int) (x1 : Int) (x2 : Int) (x3 : Int) (x4 : Int) (x5 : Int) (x6 : Int) (x7 : Int) (x8 : Int), bits_Div64.A bits_LeadingZeros64.f n idJ 4194297 [m] (bits_Div64.s4194297 x0 x1 x2 x3 x4 x5 x6 x7 x8) = bits_Div64.l4194297 n m x0 x1 x2 x3 x4 x5 x6 x7 x8 := by
  induction m with
  | zero => intros; rfl
  | succ m ih =>
    intro x0 x1 x2 x3 x4 x5 x6 x7 x8
    refine (bits_Div64.e4194297 bits_LeadingZeros64.f n idJ m x0 x1 x2 x3 x4 x5 x6 x7 x8).trans ?_
    exact congrFun (congrFun (congrFun (congrFun (congrFun (congrFun (congrFun (congrFun (congrFun (congr (congrArg (bits_Div64.b4194297 bits_LeadingZeros64.f) (funext fun y0 => (funext fun y1 => (funext fun y2 => (funext fun y3 => (funext fun y4 => (funext fun y5 => bits_Div64.q1048575 n y0 y1 y2 y3 y4 y5))))))) ((funext fun y0 => (funext fun y1 => (funext fun y2 => (funext fun y3 => (funext fun y4 => (funext fun y5 => (funext fun y6 => (funext fun y7 => (funext fun y8 => bits_Div64.q8388593 n m y0 y1 y2 y3 y4 y5 y6 y7 y8))))))))).trans (by rw [show (fun y0 y1 y2 y3 y4 y5 y6 y7 y8 => bits_Div64.A bits_LeadingZeros64.f n idJ 4194297 [m] (bits_Div64.s4194297 y0 y1 y2 y3 y4 y5 y6 y7 y8)) = _ from (funext fun y0 => (funext fun y1 => (funext fun y2 => (funext fun y3 => (funext fun y4 => (funext fun y5 => (funext fun y6 => (funext fun y7 => (funext fun y8 => ih y0 y1 y2 y3 y4 y5 y6 y7 y8)))))))))]))) x0) x1) x2) x3) x4) x5) x6) x7) x8
theorem bits_Div64.q65535 (n : Nat) (x0 : Int) (x1 : Int) (x2 : Int) (x3 : Int) (x4 : Int) (x5 : Int) (x6 : Int) (x7 : Int) : bits_Div64.A bits_LeadingZeros64.f n idJ 65535 [] (bits_Div64.s65535 x0 x1 x2 x3 x4 x5 x6 x7) = bits_Div64.l65535 n x0 x1 x2 x3 x4 x5 x6 x7 := (bits_Div64.e65535 bits_LeadingZeros64.f n idJ x0 x1 x2 x3 x4 x5 x6 x7).trans (congrFun (congrFun (congrFun (congrFun (congrFun (congrFun (congrFun (congrFun (congrArg (bits_Div64.b65535 bits_LeadingZeros64.f) (funext fun y0 => (funext fun y1 => (funext fun y2 => (funext fun y3 => (funext fun y4 => (funext fun y5 => (funext fun y6 => (funext fun y7 => (funext fun y8 => bits_Div64.q4194297 n n y0 y1 y2 y3 y4 y5 y6 y7 y8)))))))))) x0) x1) x2) x3) x4) x5) x6) x7)
theorem bits_Div64.q524273 (n : Nat) (m262137 : Nat) (x0 : Int) (x1 : Int) (x2 : Int) (x3 : Int) (x4 : Int) (x5 : Int) (x6 : Int) (x7 : Int) (x8 : Int) : bits_Div64.A bits_LeadingZeros64.f n idJ 524273 [m262137] (bits_Div64.s524273 x0 x1 x2 x3 x4 x5 x6 x7 x8) = bits_Div64.l524273 n (fun y0 y1 y2 y3 y4 y5 y6 y7 y8 => bits_Div64.A bits_LeadingZeros64.f n idJ 262137 [m262137] (bits_Div64.s262137 y0 y1 y2 y3 y4 y5 y6 y7 y8)) x0 x1 x2 x3 x4 x5 x6 x7 x8 := (bits_Div64.e524273 bits_LeadingZeros64.f n idJ m262137 x0 x1 x2 x3 x4 x5 x6 x7 x8).trans (congrFun (congrFun (congrFun (congrFun (congrFun (congrFun (congrFun (congrFun (congrFun (congr (congrArg (bits_Div64.b524273 bits_LeadingZeros64.f) (funext fun y0 => (funext fun y1 => (funext fun y2 => (funext fun y3 => (funext fun y4 => (funext fun y5 => (funext fun y6 => (funext fun y7 => bits_Div64.q65535 n y0 y1 y2 y3 y4 y5 y6 y7))))))))) rfl) x0) x1) x2) x3) x4) x5) x6) x7) x8)
theorem bits_Div64.q262137 (n : Nat) (m : Nat) : ∀ (x0 : Int) (x1 : Int) (x2 : Int) (x3 : Int) (x4 : Int) (x5 : Int) (x6 : Int) (x7 : Int) (x8 : Int), bits_Div64.A bits_LeadingZeros64.f n idJ 262137 [m] (bits_Div64.s262137 x0 x1 x2 x3 x4 x5 x6 x7 x8) = bits_Div64.l262137 n m x0 x1 x2 x3 x4 x5 x6 x7 x8 := by
  induction m with
  | zero => intros; rfl
  | succ m ih =>
    intro x0 x1 x2 x3 x4 x5 x6 x7 x8
    refine (bits_Div64.e262137 bits_LeadingZeros64.f n idJ m x0 x1 x2 x3 x4 x5 x6 x7 x8).trans ?_
    exact congrFun (congrFun (congrFun (congrFun (congrFun (congrFun (congrFun (congrFun (congrFun (congr (congrArg (bits_Div64.b262137 bits_LeadingZeros64.f) (funext fun y0 => (funext fun y1 => (funext fun y2 => (funext fun y3 => (funext fun y4 => (funext fun y5 => (funext fun y6 => (funext fun y7 => bits_Div64.q65535 n y0 y1 y2 y3 y4 y5 y6 y7))))))))) ((funext fun y0 => (funext fun y1 => (funext fun y2 => (funext fun y3 => (funext fun y4 => (funext fun y5 => (funext fun y6 => (funext fun y7 => (funext fun y8 => bits_Div64.q524273 n m y0 y1 y2 y3 y4 y5 y6 y7 y8))))))))).trans (by rw [show (fun y0 y1 y2 y3 y4 y5 y6 y7 y8 => bits_Div64.A bits_LeadingZeros64.f n idJ 262137 [m] (bits_Div64.s262137 y0 y1 y2 y3 y4 y5 y6 y7 y8)) = _ from (funext fun y0 => (funext fun y1 => (funext fun y2 => (funext fun y3 => (funext fun y4 => (funext fun y5 => (funext fun y6 => (funext fun y7 => (funext fun y8 => ih y0 y1 y2 y3 y4 y5 y6 y7 y8)))))))))]))) x0) x1) x2) x3) x4) x5) x6) x7) x8
theorem bits_Div64.eq (n : Nat) (a0 : Int) (a1 : Int) (a2 : Int) : afun (bits_Div64.cfg bits_LeadingZeros64.f) idJ bits_Div64.cuts n bits_Div64.code Tryd.f192.results.toList [false, false] [.int .u64 a0, .int .u64 a1, .int .u64 a2] bits_Div64.sg.out = bits_Div64.f n a0 a1 a2 := (bits_Div64.e0 bits_LeadingZeros64.f n idJ a0 a1 a2).trans (congrFun (congrFun (congrFun (congrArg (bits_Div64.b0 bits_LeadingZeros64.f) (funext fun y0 => (funext fun y1 => (funext fun y2 => (funext fun y3 => (funext fun y4 => (funext fun y5 => (funext fun y6 => (funext fun y7 => (funext fun y8 => bits_Div64.q262137 n n y0 y1 y2 y3 y4 y5 y6 y7 y8)))))))))) a0) a1) a2)
theorem bits_Div64.ok {n : Nat} {a0 : Int} {a1 : Int} {a2 : Int} {r : Int × Int} (h : bits_Div64.f n a0 a1 a2 = some r) : CallD Tryd.prog HW 192 [.int .u64 a0, .int .u64 a1, .int .u64 a2] (bits_Div64.sg.enc r) :=
  fun_some hwS Tryd.func192 (by kernel_rfl) (body := bits_Div64.code) (by kernel_rfl) tys_ok (c := bits_Div64.cfg bits_LeadingZeros64.f) (orCall_ok (bits_LeadingZeros64.call_ok (n := n)) noCall_ok) noW_ok (by kernel_rfl) (by kernel_rfl) (Nat.le_of_ble_eq_true (by kernel_rfl)) ((bits_Div64.eq n a0 a1 a2).trans h)
noncomputable def bits_Div64.call {α : Type} (g : Int → Int → Int → Option (Int × Int)) (ds : List D) (K : List D → Option α) : Option α := match ds with
  | [.int .u64 a0, .int .u64 a1, .int .u64 a2] => (g a0 a1 a2).bind fun r => K (bits_Div64.sg.enc r)
  | _ => none
theorem bits_Div64.call_ok {α : Type} {n : Nat} (ds : List D) (K : List D → Option α) (r : α) (h : bits_Div64.call (bits_Div64.f n) ds K = some r) : ∃ rs, K rs = some r ∧ CallD Tryd.prog HW 192 ds rs := by
  unfold bits_Div64.call at h
  split at h
  · obtain ⟨x, hx, hk⟩ := Option.bind_eq_some_iff.1 h
    exact ⟨_, hk, bits_Div64.ok (n := n) hx⟩
  · cases h
/-! ### nat_DivSmall: function 95 -/
noncomputable def nat_DivSmall.b0 (c179 : List Int → Option (Bool)) (c180 : List Int → Option (Int)) (c182 : List Int → Option (List Int × Int)) (c192 : Int → Int → Int → Option (Int × Int)) (k2037 : List Int → Int → Int → Int → List Int → Option (List Int × Int × Int)) (l0 : List Int) (a1 : Int) : Option (List Int × Int × Int) := ((c179 l0).bind fun t1 => (if t1 = true then some (([] : List Int), 0, 2) else (if a1 = 0 then some (([] : List Int), 0, 4) else ((c180 l0).bind fun t2 => (if 0 ≤ t2 then (if t2 ≤ (ln l0) then ((some (l0.take t2.toNat) : Option (List Int)).bind fun y3 => (if 0 ≤ (ln y3) then (if (ln y3).toNat ≤ 35184372088832 then k2037 y3 a1 0 (wrap64 ((ln y3) - 1)) (List.replicate (ln y3).toNat (0 : Int)) else none) else none)) else none) else none)))))
noncomputable def nat_DivSmall.b255 (c179 : List Int → Option (Bool)) (c180 : List Int → Option (Int)) (c182 : List Int → Option (List Int × Int)) (c192 : Int → Int → Int → Option (Int × Int)) (x0 : Int) (x1 : List Int) : Option (List Int × Int × Int) := ((c182 x1).bind fun t1 => some (t1.1, x0, t1.2))
noncomputable def nat_DivSmall.b2037 (c179 : List Int → Option (Bool)) (c180 : List Int → Option (Int)) (c182 : List Int → Option (List Int × Int)) (c192 : Int → Int → Int → Option (Int × Int)) (k255 : Int → List Int → Option (List Int × Int × Int)) (k2037 : List Int → Int → Int → Int → List Int → Option (List Int × Int × Int)) (x0 : List Int) (x1 : Int) (x2 : Int) (x3 : Int) (x4 : List Int) : Option (List Int × Int × Int) := (if x3 ≥ 0 then (if 0 ≤ x3 then (if x3 < (ln x0) then ((c192 x2 (rd x0 x3) x1).bind fun t1 => (if 0 ≤ x3 then (if x3 < (ln x4) then k2037 x0 x1 t1.2 (wrap64 (x3 - 1)) (x4.set (x3 : Int).toNat t1.1) else none) else none)) else none) else none) else k255 x2 x4)
noncomputable def nat_DivSmall.l255 (n : Nat) (x0 : Int) (x1 : List Int) : Option (List Int × Int × Int) := nat_DivSmall.b255 (nat_big.f n) (nat_size.f n) (nat_cut.f n) (bits_Div64.f n) x0 x1
noncomputable def nat_DivSmall.l2037 (n : Nat) : Nat → List Int → Int → Int → Int → List Int → Option (List Int × Int × Int)
  | 0, _, _, _, _, _ => none
  | m + 1, x0, x1, x2, x3, x4 => nat_DivSmall.b2037 (nat_big.f n) (nat_size.f n) (nat_cut.f n) (bits_Div64.f n) (nat_DivSmall.l255 n) (nat_DivSmall.l2037 n m) x0 x1 x2 x3 x4
noncomputable def nat_DivSmall.f (n : Nat) (l0 : List Int) (a1 : Int) : Option (List Int × Int × Int) := nat_DivSmall.b0 (nat_big.f n) (nat_size.f n) (nat_cut.f n) (bits_Div64.f n) (nat_DivSmall.l2037 n n) l0 a1
noncomputable def nat_DivSmall.sg : Sig (List Int × Int × Int) := s2 (sRow .u64) (s2 (sInt .u64) (s1 (sInt .i64)))
noncomputable def nat_DivSmall.code : Code := (Tryd.f95.body).getD .skip
noncomputable def nat_DivSmall.cfg (c179 : List Int → Option (Bool)) (c180 : List Int → Option (Int)) (c182 : List Int → Option (List Int × Int)) (c192 : Int → Int → Int → Option (Int × Int)) : Cfg (List Int × Int × Int) := { T := tys, call := orCall 179 (nat_big.call c179) (orCall 180 (nat_size.call c180) (orCall 182 (nat_cut.call c182) (orCall 192 (bits_Div64.call c192) (noCall)))) }
noncomputable def nat_DivSmall.cuts : List (Nat × List (Nat × Want)) := [(255, [(7, .keep), (8, .keep)]), (2037, [(0, .keep), (1, .keep), (7, .keep), (8, .keep), (9, .keep)])]
noncomputable def nat_DivSmall.s255 (x0 : Int) (x1 : List Int) : ASt := ⟨[(7, .own 0), (8, .int .u64 x0)], [.ints 25 .u64 x1]⟩
noncomputable def nat_DivSmall.s2037 (x0 : List Int) (x1 : Int) (x2 : Int) (x3 : Int) (x4 : List Int) : ASt := ⟨[(0, .ro .u64 x0), (1, .int .u64 x1), (7, .own 0), (8, .int .u64 x2), (9, .int .i64 x3)], [.ints 25 .u64 x4]⟩
noncomputable def nat_DivSmall.A (c179 : List Int → Option (Bool)) (c180 : List Int → Option (Int)) (c182 : List Int → Option (List Int × Int)) (c192 : Int → Int → Int → Option (Int × Int)) (n : Nat) (J : Nat → (ASt → Option (List Int × Int × Int)) → ASt → Option (List Int × Int × Int)) (q : Nat) (ms : List Nat) : ASt → Option (List Int × Int × Int) := acont (nat_DivSmall.cfg c179 c180 c182 c192) J nat_DivSmall.cuts n q nat_DivSmall.code 1 ms (aend (nat_DivSmall.cfg c179 c180 c182 c192) Tryd.f95.results.toList [false, false, false] nat_DivSmall.sg.out)
theorem nat_DivSmall.e0 (c179 : List Int → Option (Bool)) (c180 : List Int → Option (Int)) (c182 : List Int → Option (List Int × Int)) (c192 : Int → Int → Int → Option (Int × Int)) (n : Nat) (J : Nat → (ASt → Option (List Int × Int × Int)) → ASt → Option (List Int × Int × Int)) (l0 : List Int) (a1 : Int) : afun (nat_DivSmall.cfg c179 c180 c182 c192) J nat_DivSmall.cuts n nat_DivSmall.code Tryd.f95.results.toList [false, false, false] [.ro .u64 l0, .int .u64 a1] nat_DivSmall.sg.out = nat_DivSmall.b0 c179 c180 c182 c192 (fun y0 y1 y2 y3 y4 => J 2037 (nat_DivSmall.A c179 c180 c182 c192 n J 2037 [n]) (nat_DivSmall.s2037 y0 y1 y2 y3 y4)) l0 a1 := by kernel_rfl
theorem nat_DivSmall.e255 (c179 : List Int → Option (Bool)) (c180 : List Int → Option (Int)) (c182 : List Int → Option (List Int × Int)) (c192 : Int → Int → Int → Option (Int × Int)) (n : Nat) (J : Nat → (ASt → Option (List Int × Int × Int)) → ASt → Option (List Int × Int × Int)) (x0 : Int) (x1 : List Int) : nat_DivSmall.A c179 c180 c182 c192 n J 255 [] (nat_DivSmall.s255 x0 x1) = nat_DivSmall.b255 c179 c180 c182 c192 x0 x1 := by kernel_rfl
theorem nat_DivSmall.e2037 (c179 : List Int → Option (Bool)) (c180 : List Int → Option (Int)) (c182 : List Int → Option (List Int × Int)) (c192 : Int → Int → Int → Option (Int × Int)) (n : Nat) (J : Nat → (ASt → Option (List Int × Int × Int)) → ASt → Option (List Int × Int × Int)) (m : Nat) (x0 : List Int) (x1 : Int) (x2 : Int) (x3 : Int) (x4 : List Int) : nat_DivSmall.A c179 c180 c182 c192 n J 2037 [m + 1] (nat_DivSmall.s2037 x0 x1 x2 x3 x4) = nat_DivSmall.b2037 c179 c180 c182 c192 (fun y0 y1 => J 255 (nat_DivSmall.A c179 c180 c182 c192 n J 255 []) (nat_DivSmall.s255 y0 y1)) (fun y0 y1 y2 y3 y4 => J 2037 (nat_DivSmall.A c179 c180 c182 c192 n J 2037 [m]) (nat_DivSmall.s2037 y0 y1 y2 y3 y4)) x0 x1 x2 x3 x4 := by kernel_rfl
theorem nat_DivSmall.q255 (n : Nat) (x0 : Int) (x1 : List Int) : nat_DivSmall.A (nat_big.f n) (nat_size.f n) (nat_cut.f n) (bits_Div64.f n) n idJ 255 [] (nat_DivSmall.s255 x0 x1) = nat_DivSmall.l255 n x0 x1 := (nat_DivSmall.e255 (nat_big.f n) (nat_size.f n) (nat_cut.f n) (bits_Div64.f n) n idJ x0 x1).trans (rfl)
theorem nat_DivSmall.q2037 (n : Nat) (m : Nat) : ∀ (x0 : List Int) (x1 : Int) (x2 : Int) (x3 : Int) (x4 : List Int), nat_DivSmall.A (nat_big.f n) (nat_size.f n) (nat_cut.f n) (bits_Div64.f n) n idJ 2037 [m] (nat_DivSmall.s2037 x0 x1 x2 x3 x4) = nat_DivSmall.l2037 n m x0 x1 x2 x3 x4 := by
  induction m with
  | zero => intros; rfl
  | succ m ih =>
    intro x0 x1 x2 x3 x4
    refine (nat_DivSmall.e2037 (nat_big.f n) (nat_size.f n) (nat_cut.f n) (bits_Div64.f n) n idJ m x0 x1 x2 x3 x4).trans ?_
    exact congrFun (congrFun (congrFun (congrFun (congrFun (congr (congrArg (nat_DivSmall.b2037 (nat_big.f n) (nat_size.f n) (nat_cut.f n) (bits_Div64.f n)) (funext fun y0 => (funext fun y1 => nat_DivSmall.q255 n y0 y1))) (funext fun y0 => (funext fun y1 => (funext fun y2 => (funext fun y3 => (funext fun y4 => ih y0 y1 y2 y3 y4)))))) x0) x1) x2) x3) x4
theorem nat_DivSmall.eq (n : Nat) (l0 : List Int) (a1 : Int) : afun (nat_DivSmall.cfg (nat_big.f n) (nat_size.f n) (nat_cut.f n) (bits_Div64.f n)) idJ nat_DivSmall.cuts n nat_DivSmall.code Tryd.f95.results.toList [false, false, false] [.ro .u64 l0, .int .u64 a1] nat_DivSmall.sg.out = nat_DivSmall.f n l0 a1 := (nat_DivSmall.e0 (nat_big.f n) (nat_size.f n) (nat_cut.f n) (bits_Div64.f n) n idJ l0 a1).trans (congrFun (congrFun (congrArg (nat_DivSmall.b0 (nat_big.f n) (nat_size.f n) (nat_cut.f n) (bits_Div64.f n)) (funext fun y0 => (funext fun y1 => (funext fun y2 => (funext fun y3 => (funext fun y4 => nat_DivSmall.q2037 n n y0 y1 y2 y3 y4)))))) l0) a1)
theorem nat_DivSmall.ok {n : Nat} {l0 : List Int} {a1 : Int} {r : List Int × Int × Int} (h : nat_DivSmall.f n l0 a1 = some r) : CallD Tryd.prog HW 95 [.ro .u64 l0, .int .u64 a1] (nat_DivSmall.sg.enc r) :=
  fun_some hwS Tryd.func95 (by kernel_rfl) (body := nat_DivSmall.code) (by kernel_rfl) tys_ok (c := nat_DivSmall.cfg (nat_big.f n) (nat_size.f n) (nat_cut.f n) (bits_Div64.f n)) (orCall_ok (nat_big.call_ok (n := n)) (orCall_ok (nat_size.call_ok (n := n)) (orCall_ok (nat_cut.call_ok (n := n)) (orCall_ok (bits_Div64.call_ok (n := n)) noCall_ok)))) noW_ok (by kernel_rfl) (by kernel_rfl) (Nat.le_of_ble_eq_true (by kernel_rfl)) ((nat_DivSmall.eq n l0 a1).trans h)
noncomputable def nat_DivSmall.call {α : Type} (g : List Int → Int → Option (List Int × Int × Int)) (ds : List D) (K : List D → Option α) : Option α := match ds with
  | [.ro .u64 l0, .int .u64 a1] => (g l0 a1).bind fun r => K (nat_DivSmall.sg.enc r)
  | _ => none
theorem nat_DivSmall.call_ok {α : Type} {n : Nat} (ds : List D) (K : List D → Option α) (r : α) (h : nat_DivSmall.call (nat_DivSmall.f n) ds K = some r) : ∃ rs, K rs = some r ∧ CallD Tryd.prog HW 95 ds rs := by
  unfold nat_DivSmall.call at h
  split at h
  · obtain ⟨x, hx, hk⟩ := Option.bind_eq_some_iff.1 h
    exact ⟨_, hk, nat_DivSmall.ok (n := n) hx⟩
  · cases h
/-! ### quot_raised: function 240 -/
noncomputable def quot_raised.b0 (k117 : Int → Int → List Int → Int → Int → List Int → Option (List Int)) (l0 : List Int) (a1 : Int) (a2 : Int) : Option (List Int) := (if 0 ≤ a2 then (if a2.toNat ≤ 35184372088832 then k117 a1 a2 l0 (ln l0) 0 (List.replicate a2.toNat (0 : Int)) else none) else none)
noncomputable def quot_raised.b117 (k117 : Int → Int → List Int → Int → Int → List Int → Option (List Int)) (x0 : Int) (x1 : Int) (x2 : List Int) (x3 : Int) (x4 : Int) (x5 : List Int) : Option (List Int) := (if x4 < x3 then (if 0 ≤ x4 then (if x4 < (ln x2) then (if 0 ≤ x4 then (if x4 < (ln x5) then (if 0 ≤ (IntKind.u64.wrap x0) then (if 0 ≤ x4 then (if x4 < (ln x5) then (if (wrap64 (x4 + 1)) < x1 then (if x0 > 0 then (if 0 ≤ (IntKind.u64.wrap (wrap64 (64 - x0))) then (if 0 ≤ (wrap64 (x4 + 1)) then (if (wrap64 (x4 + 1)) < (ln (x5.set (x4 : Int).toNat (Go.bits .or .u64 (rd x5 x4) (shl .u64 (rd x2 x4) (IntKind.u64.wrap x0))))) then k117 x0 x1 x2 x3 (wrap64 (x4 + 1)) ((x5.set (x4 : Int).toNat (Go.bits .or .u64 (rd x5 x4) (shl .u64 (rd x2 x4) (IntKind.u64.wrap x0)))).set (wrap64 (x4 + 1) : Int).toNat (shr .u64 (rd x2 x4) (IntKind.u64.wrap (wrap64 (64 - x0))))) else none) else none) else none) else k117 x0 x1 x2 x3 (wrap64 (x4 + 1)) (x5.set (x4 : Int).toNat (Go.bits .or .u64 (rd x5 x4) (shl .u64 (rd x2 x4) (IntKind.u64.wrap x0))))) else k117 x0 x1 x2 x3 (wrap64 (x4 + 1)) (x5.set (x4 : Int).toNat (Go.bits .or .u64 (rd x5 x4) (shl .u64 (rd x2 x4) (IntKind.u64.wrap x0))))) else none) else none) else none) else none) else none) else none) else none) else some x5)
noncomputable def quot_raised.l117 (n : Nat) : Nat → Int → Int → List Int → Int → Int → List Int → Option (List Int)
  | 0, _, _, _, _, _, _ => none
  | m + 1, x0, x1, x2, x3, x4, x5 => quot_raised.b117 (quot_raised.l117 n m) x0 x1 x2 x3 x4 x5
noncomputable def quot_raised.f (n : Nat) (l0 : List Int) (a1 : Int) (a2 : Int) : Option (List Int) := quot_raised.b0 (quot_raised.l117 n n) l0 a1 a2
noncomputable def quot_raised.sg : Sig (List Int) := s1 (sOwn 25 .u64)
noncomputable def quot_raised.code : Code := (Tryd.f240.body).getD .skip
noncomputable def quot_raised.cfg : Cfg (List Int) := { T := tys, call := noCall }
noncomputable def quot_raised.cuts : List (Nat × List (Nat × Want)) := [(117, [(1, .keep), (2, .keep), (7, .keep), (12, .keep), (13, .keep), (14, .keep)])]
noncomputable def quot_raised.s117 (x0 : Int) (x1 : Int) (x2 : List Int) (x3 : Int) (x4 : Int) (x5 : List Int) : ASt := ⟨[(1, .int .i64 x0), (2, .int .i64 x1), (7, .own 0), (12, .ro .u64 x2), (13, .int .i64 x3), (14, .int .i64 x4)], [.ints 25 .u64 x5]⟩
noncomputable def quot_raised.A (n : Nat) (J : Nat → (ASt → Option (List Int)) → ASt → Option (List Int)) (q : Nat) (ms : List Nat) : ASt → Option (List Int) := acont (quot_raised.cfg) J quot_raised.cuts n q quot_raised.code 1 ms (aend (quot_raised.cfg) Tryd.f240.results.toList [true] quot_raised.sg.out)
theorem quot_raised.e0 (n : Nat) (J : Nat → (ASt → Option (List Int)) → ASt → Option (List Int)) (l0 : List Int) (a1 : Int) (a2 : Int) : afun (quot_raised.cfg) J quot_raised.cuts n quot_raised.code Tryd.f240.results.toList [true] [.ro .u64 l0, .int .i64 a1, .int .i64 a2] quot_raised.sg.out = quot_raised.b0 (fun y0 y1 y2 y3 y4 y5 => J 117 (quot_raised.A n J 117 [n]) (quot_raised.s117 y0 y1 y2 y3 y4 y5)) l0 a1 a2 := by kernel_rfl
theorem quot_raised.e117 (n : Nat) (J : Nat → (ASt → Option (List Int)) → ASt → Option (List Int)) (m : Nat) (x0 : Int) (x1 : Int) (x2 : List Int) (x3 : Int) (x4 : Int) (x5 : List Int) : quot_raised.A n J 117 [m + 1] (quot_raised.s117 x0 x1 x2 x3 x4 x5) = quot_raised.b117 (fun y0 y1 y2 y3 y4 y5 => J 117 (quot_raised.A n J 117 [m]) (quot_raised.s117 y0 y1 y2 y3 y4 y5)) x0 x1 x2 x3 x4 x5 := by kernel_rfl
theorem quot_raised.q117 (n : Nat) (m : Nat) : ∀ (x0 : Int) (x1 : Int) (x2 : List Int) (x3 : Int) (x4 : Int) (x5 : List Int), quot_raised.A n idJ 117 [m] (quot_raised.s117 x0 x1 x2 x3 x4 x5) = quot_raised.l117 n m x0 x1 x2 x3 x4 x5 := by
  induction m with
  | zero => intros; rfl
  | succ m ih =>
    intro x0 x1 x2 x3 x4 x5
    refine (quot_raised.e117 n idJ m x0 x1 x2 x3 x4 x5).trans ?_
    exact congrFun (congrFun (congrFun (congrFun (congrFun (congrFun (congrArg quot_raised.b117 (funext fun y0 => (funext fun y1 => (funext fun y2 => (funext fun y3 => (funext fun y4 => (funext fun y5 => ih y0 y1 y2 y3 y4 y5))))))) x0) x1) x2) x3) x4) x5
theorem quot_raised.eq (n : Nat) (l0 : List Int) (a1 : Int) (a2 : Int) : afun (quot_raised.cfg) idJ quot_raised.cuts n quot_raised.code Tryd.f240.results.toList [true] [.ro .u64 l0, .int .i64 a1, .int .i64 a2] quot_raised.sg.out = quot_raised.f n l0 a1 a2 := (quot_raised.e0 n idJ l0 a1 a2).trans (congrFun (congrFun (congrFun (congrArg quot_raised.b0 (funext fun y0 => (funext fun y1 => (funext fun y2 => (funext fun y3 => (funext fun y4 => (funext fun y5 => quot_raised.q117 n n y0 y1 y2 y3 y4 y5))))))) l0) a1) a2)
theorem quot_raised.ok {n : Nat} {l0 : List Int} {a1 : Int} {a2 : Int} {r : List Int} (h : quot_raised.f n l0 a1 a2 = some r) : CallD Tryd.prog HW 240 [.ro .u64 l0, .int .i64 a1, .int .i64 a2] (quot_raised.sg.enc r) :=
  fun_some hwS Tryd.func240 (by kernel_rfl) (body := quot_raised.code) (by kernel_rfl) tys_ok (c := quot_raised.cfg) noCall_ok noW_ok (by kernel_rfl) (by kernel_rfl) (Nat.le_of_ble_eq_true (by kernel_rfl)) ((quot_raised.eq n l0 a1 a2).trans h)
noncomputable def quot_raised.call {α : Type} (g : List Int → Int → Int → Option (List Int)) (ds : List D) (K : List D → Option α) : Option α := match ds with
  | [.ro .u64 l0, .int .i64 a1, .int .i64 a2] => (g l0 a1 a2).bind fun r => K (quot_raised.sg.enc r)
  | _ => none
theorem quot_raised.call_ok {α : Type} {n : Nat} (ds : List D) (K : List D → Option α) (r : α) (h : quot_raised.call (quot_raised.f n) ds K = some r) : ∃ rs, K rs = some r ∧ CallD Tryd.prog HW 240 ds rs := by
  unfold quot_raised.call at h
  split at h
  · obtain ⟨x, hx, hk⟩ := Option.bind_eq_some_iff.1 h
    exact ⟨_, hk, quot_raised.ok (n := n) hx⟩
  · cases h
/-! ### quot_guess: function 241 -/
noncomputable def quot_guess.b0 (c192 : Int → Int → Int → Option (Int × Int)) (l0 : List Int) (l1 : List Int) : Option (Int) := (if 0 ≤ (ln l1) then (if (ln l1) < (ln l0) then (if 0 ≤ (wrap64 ((ln l1) - 1)) then (if (wrap64 ((ln l1) - 1)) < (ln l1) then (if (rd l0 (ln l1)) ≥ (rd l1 (wrap64 ((ln l1) - 1))) then some 18446744073709551615 else (if 0 ≤ (ln l1) then (if (ln l1) < (ln l0) then (if 0 ≤ (wrap64 ((ln l1) - 1)) then (if (wrap64 ((ln l1) - 1)) < (ln l0) then (if 0 ≤ (wrap64 ((ln l1) - 1)) then (if (wrap64 ((ln l1) - 1)) < (ln l1) then ((c192 (rd l0 (ln l1)) (rd l0 (wrap64 ((ln l1) - 1))) (rd l1 (wrap64 ((ln l1) - 1)))).bind fun t1 => some t1.1) else none) else none) else none) else none) else none) else none)) else none) else none) else none) else none)
noncomputable def quot_guess.f (n : Nat) (l0 : List Int) (l1 : List Int) : Option (Int) := quot_guess.b0 (bits_Div64.f n) l0 l1
noncomputable def quot_guess.sg : Sig (Int) := s1 (sInt .u64)
noncomputable def quot_guess.code : Code := (Tryd.f241.body).getD .skip
noncomputable def quot_guess.cfg (c192 : Int → Int → Int → Option (Int × Int)) : Cfg (Int) := { T := tys, call := orCall 192 (bits_Div64.call c192) (noCall) }
noncomputable def quot_guess.cuts : List (Nat × List (Nat × Want)) := []
theorem quot_guess.e0 (c192 : Int → Int → Int → Option (Int × Int)) (n : Nat) (J : Nat → (ASt → Option (Int)) → ASt → Option (Int)) (l0 : List Int) (l1 : List Int) : afun (quot_guess.cfg c192) J quot_guess.cuts n quot_guess.code Tryd.f241.results.toList [false] [.ro .u64 l0, .ro .u64 l1] quot_guess.sg.out = quot_guess.b0 c192 l0 l1 := by kernel_rfl
theorem quot_guess.eq (n : Nat) (l0 : List Int) (l1 : List Int) : afun (quot_guess.cfg (bits_Div64.f n)) idJ quot_guess.cuts n quot_guess.code Tryd.f241.results.toList [false] [.ro .u64 l0, .ro .u64 l1] quot_guess.sg.out = quot_guess.f n l0 l1 := (quot_guess.e0 (bits_Div64.f n) n idJ l0 l1).trans (rfl)
theorem quot_guess.ok {n : Nat} {l0 : List Int} {l1 : List Int} {r : Int} (h : quot_guess.f n l0 l1 = some r) : CallD Tryd.prog HW 241 [.ro .u64 l0, .ro .u64 l1] (quot_guess.sg.enc r) :=
  fun_some hwS Tryd.func241 (by kernel_rfl) (body := quot_guess.code) (by kernel_rfl) tys_ok (c := quot_guess.cfg (bits_Div64.f n)) (orCall_ok (bits_Div64.call_ok (n := n)) noCall_ok) noW_ok (by kernel_rfl) (by kernel_rfl) (Nat.le_of_ble_eq_true (by kernel_rfl)) ((quot_guess.eq n l0 l1).trans h)
noncomputable def quot_guess.call {α : Type} (g : List Int → List Int → Option (Int)) (ds : List D) (K : List D → Option α) : Option α := match ds with
  | [.ro .u64 l0, .ro .u64 l1] => (g l0 l1).bind fun r => K (quot_guess.sg.enc r)
  | _ => none
theorem quot_guess.call_ok {α : Type} {n : Nat} (ds : List D) (K : List D → Option α) (r : α) (h : quot_guess.call (quot_guess.f n) ds K = some r) : ∃ rs, K rs = some r ∧ CallD Tryd.prog HW 241 ds rs := by
  unfold quot_guess.call at h
  split at h
  · obtain ⟨x, hx, hk⟩ := Option.bind_eq_some_iff.1 h
    exact ⟨_, hk, quot_guess.ok (n := n) hx⟩
  · cases h
/-! ### bits_Sub64: function 191 -/
def bits_Sub64.f (a0 : Int) (a1 : Int) (a2 : Int) : Option (Int × Int) := if 0 ≤ a0 ∧ 0 ≤ a1 ∧ a1 < 18446744073709551616 ∧ 0 ≤ a2 ∧ a2 ≤ 1 then some ((a0 - a1 - a2) % 18446744073709551616, if a0 < a1 + a2 then 1 else 0) else none
def bits_Sub64.sg : Sig (Int × Int) := s2 (sInt .u64) (s1 (sInt .u64))
theorem bits_Sub64.ok {a0 a1 a2 : Int} {r : Int × Int} (h : bits_Sub64.f a0 a1 a2 = some r) : CallD Tryd.prog HW 191 [.int .u64 a0, .int .u64 a1, .int .u64 a2] (bits_Sub64.sg.enc r) := by
  unfold bits_Sub64.f at h
  split at h
  · rename_i hh
    obtain rfl := Option.some.inj h
    exact calld_scal rfl rfl fun w _ => .inr ⟨_, _, run_sub64' Tryd.func191 (by kernel_rfl) (by kernel_rfl) (by kernel_rfl) (by kernel_rfl) a0 a1 a2 hh.1 hh.2.1 hh.2.2.1 hh.2.2.2.1 hh.2.2.2.2 w, rfl, rfl⟩
  · cases h
noncomputable def bits_Sub64.call {α : Type} (g : Int → Int → Int → Option (Int × Int)) (ds : List D) (K : List D → Option α) : Option α := match ds with
  | [.int .u64 a0, .int .u64 a1, .int .u64 a2] => (g a0 a1 a2).bind fun r => K (bits_Sub64.sg.enc r)
  | _ => none
theorem bits_Sub64.call_ok {α : Type} {n : Nat} (ds : List D) (K : List D → Option α) (r : α) (h : bits_Sub64.call bits_Sub64.f ds K = some r) : ∃ rs, K rs = some r ∧ CallD Tryd.prog HW 191 ds rs := by
  unfold bits_Sub64.call at h
  split at h
  · obtain ⟨x, hx, hk⟩ := Option.bind_eq_some_iff.1 h
    exact ⟨_, hk, bits_Sub64.ok hx⟩
  · cases h
/-! ### quot_takeOff: function 242 -/
noncomputable def quot_takeOff.b0 (c181 : Int → Int → Int → Option (Int × Int)) (c183 : Int → Int → Option (Int × Int)) (c191 : Int → Int → Int → Option (Int × Int)) (k117 : List Int → Int → Int → Int → Int → Int → List Int → Option (List Int × Bool)) (l0 : List Int) (l1 : List Int) (a2 : Int) : Option (List Int × Bool) := k117 l1 a2 0 0 0 (ln l1) l0
noncomputable def quot_takeOff.b15 (c181 : Int → Int → Int → Option (Int × Int)) (c183 : Int → Int → Option (Int × Int)) (c191 : Int → Int → Int → Option (Int × Int)) (x0 : List Int) (x1 : Int) (x2 : Int) (x3 : List Int) : Option (List Int × Bool) := (if 0 ≤ (ln x0) then (if (ln x0) < (ln x3) then ((c191 (rd x3 (ln x0)) x1 x2).bind fun t1 => (if 0 ≤ (ln x0) then (if (ln x0) < (ln x3) then some (x3.set ((ln x0) : Int).toNat t1.1, decide (¬ t1.2 = 0)) else none) else none)) else none) else none)
noncomputable def quot_takeOff.b117 (c181 : Int → Int → Int → Option (Int × Int)) (c183 : Int → Int → Option (Int × Int)) (c191 : Int → Int → Int → Option (Int × Int)) (k15 : List Int → Int → Int → List Int → Option (List Int × Bool)) (k117 : List Int → Int → Int → Int → Int → Int → List Int → Option (List Int × Bool)) (x0 : List Int) (x1 : Int) (x2 : Int) (x3 : Int) (x4 : Int) (x5 : Int) (x6 : List Int) : Option (List Int × Bool) := (if x4 < x5 then (if 0 ≤ x4 then (if x4 < (ln x0) then ((c183 x1 (rd x0 x4)).bind fun t1 => ((c181 t1.2 x2 0).bind fun t2 => (if 0 ≤ x4 then (if x4 < (ln x6) then ((c191 (rd x6 x4) t2.1 x3).bind fun t3 => (if 0 ≤ x4 then (if x4 < (ln x6) then k117 x0 x1 (IntKind.u64.wrap (t1.1 + t2.2)) t3.2 (wrap64 (x4 + 1)) x5 (x6.set (x4 : Int).toNat t3.1) else none) else none)) else none) else none))) else none) else none) else k15 x0 x2 x3 x6)
noncomputable def quot_takeOff.l15 (n : Nat) (x0 : List Int) (x1 : Int) (x2 : Int) (x3 : List Int) : Option (List Int × Bool) := quot_takeOff.b15 bits_Add64.f bits_Mul64.f bits_Sub64.f x0 x1 x2 x3
noncomputable def quot_takeOff.l117 (n : Nat) : Nat → List Int → Int → Int → Int → Int → Int → List Int → Option (List Int × Bool)
  | 0, _, _, _, _, _, _, _ => none
  | m + 1, x0, x1, x2, x3, x4, x5, x6 => quot_takeOff.b117 bits_Add64.f bits_Mul64.f bits_Sub64.f (quot_takeOff.l15 n) (quot_takeOff.l117 n m) x0 x1 x2 x3 x4 x5 x6
noncomputable def quot_takeOff.f (n : Nat) (l0 : List Int) (l1 : List Int) (a2 : Int) : Option (List Int × Bool) := quot_takeOff.b0 bits_Add64.f bits_Mul64.f bits_Sub64.f (quot_takeOff.l117 n n) l0 l1 a2
noncomputable def quot_takeOff.sg : Sig (Bool) := s1 (sBool)
noncomputable def quot_takeOff.code : Code := (Tryd.f242.body).getD .skip
noncomputable def quot_takeOff.cfg (c181 : Int → Int → Int → Option (Int × Int)) (c183 : Int → Int → Option (Int × Int)) (c191 : Int → Int → Int → Option (Int × Int)) : Cfg (List Int × Bool) := { T := tys, call := orCall 181 (bits_Add64.call c181) (orCall 183 (bits_Mul64.call c183) (orCall 191 (bits_Sub64.call c191) (noCall))) }
noncomputable def quot_takeOff.cuts : List (Nat × List (Nat × Want)) := [(15, [(0, .keep), (1, .keep), (7, .keep), (8, .keep)]), (117, [(0, .keep), (1, .keep), (2, .keep), (7, .keep), (8, .keep), (14, .keep), (15, .keep), (16, .keep)])]
noncomputable def quot_takeOff.s15 (x0 : List Int) (x1 : Int) (x2 : Int) (x3 : List Int) : ASt := ⟨[(0, .own 0), (1, .ro .u64 x0), (7, .int .u64 x1), (8, .int .u64 x2)], [.bor .u64 x3]⟩
noncomputable def quot_takeOff.s117 (x0 : List Int) (x1 : Int) (x2 : Int) (x3 : Int) (x4 : Int) (x5 : Int) (x6 : List Int) : ASt := ⟨[(0, .own 0), (1, .ro .u64 x0), (2, .int .u64 x1), (7, .int .u64 x2), (8, .int .u64 x3), (14, .ro .u64 x0), (15, .int .i64 x5), (16, .int .i64 x4)], [.bor .u64 x6]⟩
noncomputable def quot_takeOff.A (c181 : Int → Int → Int → Option (Int × Int)) (c183 : Int → Int → Option (Int × Int)) (c191 : Int → Int → Int → Option (Int × Int)) (n : Nat) (J : Nat → (ASt → Option (List Int × Bool)) → ASt → Option (List Int × Bool)) (q : Nat) (ms : List Nat) : ASt → Option (List Int × Bool) := acont (quot_takeOff.cfg c181 c183 c191) J quot_takeOff.cuts n q quot_takeOff.code 1 ms (aendw (quot_takeOff.cfg c181 c183 c191) Tryd.f242.results.toList (sgw quot_takeOff.sg))
theorem quot_takeOff.e0 (c181 : Int → Int → Int → Option (Int × Int)) (c183 : Int → Int → Option (Int × Int)) (c191 : Int → Int → Int → Option (Int × Int)) (n : Nat) (J : Nat → (ASt → Option (List Int × Bool)) → ASt → Option (List Int × Bool)) (l0 : List Int) (l1 : List Int) (a2 : Int) : afunw (quot_takeOff.cfg c181 c183 c191) J quot_takeOff.cuts n quot_takeOff.code Tryd.f242.results.toList l0 [.ro .u64 l1, .int .u64 a2] (sgw quot_takeOff.sg) = quot_takeOff.b0 c181 c183 c191 (fun y0 y1 y2 y3 y4 y5 y6 => J 117 (quot_takeOff.A c181 c183 c191 n J 117 [n]) (quot_takeOff.s117 y0 y1 y2 y3 y4 y5 y6)) l0 l1 a2 := by kernel_rfl
theorem quot_takeOff.e15 (c181 : Int → Int → Int → Option (Int × Int)) (c183 : Int → Int → Option (Int × Int)) (c191 : Int → Int → Int → Option (Int × Int)) (n : Nat) (J : Nat → (ASt → Option (List Int × Bool)) → ASt → Option (List Int × Bool)) (x0 : List Int) (x1 : Int) (x2 : Int) (x3 : List Int) : quot_takeOff.A c181 c183 c191 n J 15 [] (quot_takeOff.s15 x0 x1 x2 x3) = quot_takeOff.b15 c181 c183 c191 x0 x1 x2 x3 := by kernel_rfl
theorem quot_takeOff.e117 (c181 : Int → Int → Int → Option (Int × Int)) (c183 : Int → Int → Option (Int × Int)) (c191 : Int → Int → Int → Option (Int × Int)) (n : Nat) (J : Nat → (ASt → Option (List Int × Bool)) → ASt → Option (List Int × Bool)) (m : Nat) (x0 : List Int) (x1 : Int) (x2 : Int) (x3 : Int) (x4 : Int) (x5 : Int) (x6 : List Int) : quot_takeOff.A c181 c183 c191 n J 117 [m + 1] (quot_takeOff.s117 x0 x1 x2 x3 x4 x5 x6) = quot_takeOff.b117 c181 c183 c191 (fun y0 y1 y2 y3 => J 15 (quot_takeOff.A c181 c183 c191 n J 15 []) (quot_takeOff.s15 y0 y1 y2 y3)) (fun y0 y1 y2 y3 y4 y5 y6 => J 117 (quot_takeOff.A c181 c183 c191 n J 117 [m]) (quot_takeOff.s117 y0 y1 y2 y3 y4 y5 y6)) x0 x1 x2 x3 x4 x5 x6 := by kernel_rfl
theorem quot_takeOff.q15 (n : Nat) (x0 : List Int) (x1 : Int) (x2 : Int) (x3 : List Int) : quot_takeOff.A bits_Add64.f bits_Mul64.f bits_Sub64.f n idJ 15 [] (quot_takeOff.s15 x0 x1 x2 x3) = quot_takeOff.l15 n x0 x1 x2 x3 := (quot_takeOff.e15 bits_Add64.f bits_Mul64.f bits_Sub64.f n idJ x0 x1 x2 x3).trans (rfl)
theorem quot_takeOff.q117 (n : Nat) (m : Nat) : ∀ (x0 : List Int) (x1 : Int) (x2 : Int) (x3 : Int) (x4 : Int) (x5 : Int) (x6 : List Int), quot_takeOff.A bits_Add64.f bits_Mul64.f bits_Sub64.f n idJ 117 [m] (quot_takeOff.s117 x0 x1 x2 x3 x4 x5 x6) = quot_takeOff.l117 n m x0 x1 x2 x3 x4 x5 x6 := by
  induction m with
  | zero => intros; rfl
  | succ m ih =>
    intro x0 x1 x2 x3 x4 x5 x6
    refine (quot_takeOff.e117 bits_Add64.f bits_Mul64.f bits_Sub64.f n idJ m x0 x1 x2 x3 x4 x5 x6).trans ?_
    exact congrFun (congrFun (congrFun (congrFun (congrFun (congrFun (congrFun (congr (congrArg (quot_takeOff.b117 bits_Add64.f bits_Mul64.f bits_Sub64.f) (funext fun y0 => (funext fun y1 => (funext fun y2 => (funext fun y3 => quot_takeOff.q15 n y0 y1 y2 y3))))) (funext fun y0 => (funext fun y1 => (funext fun y2 => (funext fun y3 => (funext fun y4 => (funext fun y5 => (funext fun y6 => ih y0 y1 y2 y3 y4 y5 y6)))))))) x0) x1) x2) x3) x4) x5) x6
theorem quot_takeOff.eq (n : Nat) (l0 : List Int) (l1 : List Int) (a2 : Int) : afunw (quot_takeOff.cfg bits_Add64.f bits_Mul64.f bits_Sub64.f) idJ quot_takeOff.cuts n quot_takeOff.code Tryd.f242.results.toList l0 [.ro .u64 l1, .int .u64 a2] (sgw quot_takeOff.sg) = quot_takeOff.f n l0 l1 a2 := (quot_takeOff.e0 bits_Add64.f bits_Mul64.f bits_Sub64.f n idJ l0 l1 a2).trans (congrFun (congrFun (congrFun (congrArg (quot_takeOff.b0 bits_Add64.f bits_Mul64.f bits_Sub64.f) (funext fun y0 => (funext fun y1 => (funext fun y2 => (funext fun y3 => (funext fun y4 => (funext fun y5 => (funext fun y6 => quot_takeOff.q117 n n y0 y1 y2 y3 y4 y5 y6)))))))) l0) l1) a2)
theorem quot_takeOff.ok {n : Nat} {l0 : List Int} {l1 : List Int} {a2 : Int} {r : List Int × Bool} (h : quot_takeOff.f n l0 l1 a2 = some r) : CallW Tryd.prog HW 242 l0 [.ro .u64 l1, .int .u64 a2] r.1 (quot_takeOff.sg.enc r.2) :=
  funw_some Tryd.func242 (by kernel_rfl) (body := quot_takeOff.code) (by kernel_rfl) tys_ok (c := quot_takeOff.cfg bits_Add64.f bits_Mul64.f bits_Sub64.f) (orCall_ok (bits_Add64.call_ok (n := n)) (orCall_ok (bits_Mul64.call_ok (n := n)) (orCall_ok (bits_Sub64.call_ok (n := n)) noCall_ok))) noW_ok (by kernel_rfl) (by kernel_rfl) (Nat.le_of_ble_eq_true (by kernel_rfl)) ((quot_takeOff.eq n l0 l1 a2).trans h)
noncomputable def quot_takeOff.call {α : Type} (g : List Int → List Int → Int → Option (List Int × Bool)) (l0 : List Int) (ds : List D) (K : List Int → List D → Option α) : Option α := match ds with
  | [.ro .u64 l1, .int .u64 a2] => (g l0 l1 a2).bind fun r => K r.1 (quot_takeOff.sg.enc r.2)
  | _ => none
theorem quot_takeOff.call_ok {α : Type} {n : Nat} (l : List Int) (ds : List D) (K : List Int → List D → Option α) (r : α) (h : quot_takeOff.call (quot_takeOff.f n) l ds K = some r) : ∃ l' rs, K l' rs = some r ∧ CallW Tryd.prog HW 242 l ds l' rs := by
  unfold quot_takeOff.call at h
  split at h
  · obtain ⟨x, hx, hk⟩ := Option.bind_eq_some_iff.1 h
    exact ⟨_, _, hk, quot_takeOff.ok (n := n) hx⟩
  · cases h
/-! ### quot_putBack: function 243 -/
noncomputable def quot_putBack.b0 (c181 : Int → Int → Int → Option (Int × Int)) (k117 : List Int → Int → Int → Int → List Int → Option (List Int × Bool)) (l0 : List Int) (l1 : List Int) : Option (List Int × Bool) := k117 l1 0 0 (ln l1) l0
noncomputable def quot_putBack.b15 (c181 : Int → Int → Int → Option (Int × Int)) (x0 : List Int) (x1 : Int) (x2 : List Int) : Option (List Int × Bool) := (if 0 ≤ (ln x0) then (if (ln x0) < (ln x2) then ((c181 (rd x2 (ln x0)) 0 x1).bind fun t1 => (if 0 ≤ (ln x0) then (if (ln x0) < (ln x2) then some (x2.set ((ln x0) : Int).toNat t1.1, decide (¬ t1.2 = 0)) else none) else none)) else none) else none)
noncomputable def quot_putBack.b117 (c181 : Int → Int → Int → Option (Int × Int)) (k15 : List Int → Int → List Int → Option (List Int × Bool)) (k117 : List Int → Int → Int → Int → List Int → Option (List Int × Bool)) (x0 : List Int) (x1 : Int) (x2 : Int) (x3 : Int) (x4 : List Int) : Option (List Int × Bool) := (if x2 < x3 then (if 0 ≤ x2 then (if x2 < (ln x0) then (if 0 ≤ x2 then (if x2 < (ln x4) then ((c181 (rd x4 x2) (rd x0 x2) x1).bind fun t1 => (if 0 ≤ x2 then (if x2 < (ln x4) then k117 x0 t1.2 (wrap64 (x2 + 1)) x3 (x4.set (x2 : Int).toNat t1.1) else none) else none)) else none) else none) else none) else none) else k15 x0 x1 x4)
noncomputable def quot_putBack.l15 (n : Nat) (x0 : List Int) (x1 : Int) (x2 : List Int) : Option (List Int × Bool) := quot_putBack.b15 bits_Add64.f x0 x1 x2
noncomputable def quot_putBack.l117 (n : Nat) : Nat → List Int → Int → Int → Int → List Int → Option (List Int × Bool)
  | 0, _, _, _, _, _ => none
  | m + 1, x0, x1, x2, x3, x4 => quot_putBack.b117 bits_Add64.f (quot_putBack.l15 n) (quot_putBack.l117 n m) x0 x1 x2 x3 x4
noncomputable def quot_putBack.f (n : Nat) (l0 : List Int) (l1 : List Int) : Option (List Int × Bool) := quot_putBack.b0 bits_Add64.f (quot_putBack.l117 n n) l0 l1
noncomputable def quot_putBack.sg : Sig (Bool) := s1 (sBool)
noncomputable def quot_putBack.code : Code := (Tryd.f243.body).getD .skip
noncomputable def quot_putBack.cfg (c181 : Int → Int → Int → Option (Int × Int)) : Cfg (List Int × Bool) := { T := tys, call := orCall 181 (bits_Add64.call c181) (noCall) }
noncomputable def quot_putBack.cuts : List (Nat × List (Nat × Want)) := [(15, [(0, .keep), (1, .keep), (5, .keep)]), (117, [(0, .keep), (1, .keep), (5, .keep), (8, .keep), (9, .keep), (10, .keep)])]
noncomputable def quot_putBack.s15 (x0 : List Int) (x1 : Int) (x2 : List Int) : ASt := ⟨[(0, .own 0), (1, .ro .u64 x0), (5, .int .u64 x1)], [.bor .u64 x2]⟩
noncomputable def quot_putBack.s117 (x0 : List Int) (x1 : Int) (x2 : Int) (x3 : Int) (x4 : List Int) : ASt := ⟨[(0, .own 0), (1, .ro .u64 x0), (5, .int .u64 x1), (8, .ro .u64 x0), (9, .int .i64 x3), (10, .int .i64 x2)], [.bor .u64 x4]⟩
noncomputable def quot_putBack.A (c181 : Int → Int → Int → Option (Int × Int)) (n : Nat) (J : Nat → (ASt → Option (List Int × Bool)) → ASt → Option (List Int × Bool)) (q : Nat) (ms : List Nat) : ASt → Option (List Int × Bool) := acont (quot_putBack.cfg c181) J quot_putBack.cuts n q quot_putBack.code 1 ms (aendw (quot_putBack.cfg c181) Tryd.f243.results.toList (sgw quot_putBack.sg))
theorem quot_putBack.e0 (c181 : Int → Int → Int → Option (Int × Int)) (n : Nat) (J : Nat → (ASt → Option (List Int × Bool)) → ASt → Option (List Int × Bool)) (l0 : List Int) (l1 : List Int) : afunw (quot_putBack.cfg c181) J quot_putBack.cuts n quot_putBack.code Tryd.f243.results.toList l0 [.ro .u64 l1] (sgw quot_putBack.sg) = quot_putBack.b0 c181 (fun y0 y1 y2 y3 y4 => J 117 (quot_putBack.A c181 n J 117 [n]) (quot_putBack.s117 y0 y1 y2 y3 y4)) l0 l1 := by kernel_rfl
theorem quot_putBack.e15 (c181 : Int → Int → Int → Option (Int × Int)) (n : Nat) (J : Nat → (ASt → Option (List Int × Bool)) → ASt → Option (List Int × Bool)) (x0 : List Int) (x1 : Int) (x2 : List Int) : quot_putBack.A c181 n J 15 [] (quot_putBack.s15 x0 x1 x2) = quot_putBack.b15 c181 x0 x1 x2 := by kernel_rfl
theorem quot_putBack.e117 (c181 : Int → Int → Int → Option (Int × Int)) (n : Nat) (J : Nat → (ASt → Option (List Int × Bool)) → ASt → Option (List Int × Bool)) (m : Nat) (x0 : List Int) (x1 : Int) (x2 : Int) (x3 : Int) (x4 : List Int) : quot_putBack.A c181 n J 117 [m + 1] (quot_putBack.s117 x0 x1 x2 x3 x4) = quot_putBack.b117 c181 (fun y0 y1 y2 => J 15 (quot_putBack.A c181 n J 15 []) (quot_putBack.s15 y0 y1 y2)) (fun y0 y1 y2 y3 y4 => J 117 (quot_putBack.A c181 n J 117 [m]) (quot_putBack.s117 y0 y1 y2 y3 y4)) x0 x1 x2 x3 x4 := by kernel_rfl
theorem quot_putBack.q15 (n : Nat) (x0 : List Int) (x1 : Int) (x2 : List Int) : quot_putBack.A bits_Add64.f n idJ 15 [] (quot_putBack.s15 x0 x1 x2) = quot_putBack.l15 n x0 x1 x2 := (quot_putBack.e15 bits_Add64.f n idJ x0 x1 x2).trans (rfl)
theorem quot_putBack.q117 (n : Nat) (m : Nat) : ∀ (x0 : List Int) (x1 : Int) (x2 : Int) (x3 : Int) (x4 : List Int), quot_putBack.A bits_Add64.f n idJ 117 [m] (quot_putBack.s117 x0 x1 x2 x3 x4) = quot_putBack.l117 n m x0 x1 x2 x3 x4 := by
  induction m with
  | zero => intros; rfl
  | succ m ih =>
    intro x0 x1 x2 x3 x4
    refine (quot_putBack.e117 bits_Add64.f n idJ m x0 x1 x2 x3 x4).trans ?_
    exact congrFun (congrFun (congrFun (congrFun (congrFun (congr (congrArg (quot_putBack.b117 bits_Add64.f) (funext fun y0 => (funext fun y1 => (funext fun y2 => quot_putBack.q15 n y0 y1 y2)))) (funext fun y0 => (funext fun y1 => (funext fun y2 => (funext fun y3 => (funext fun y4 => ih y0 y1 y2 y3 y4)))))) x0) x1) x2) x3) x4
theorem quot_putBack.eq (n : Nat) (l0 : List Int) (l1 : List Int) : afunw (quot_putBack.cfg bits_Add64.f) idJ quot_putBack.cuts n quot_putBack.code Tryd.f243.results.toList l0 [.ro .u64 l1] (sgw quot_putBack.sg) = quot_putBack.f n l0 l1 := (quot_putBack.e0 bits_Add64.f n idJ l0 l1).trans (congrFun (congrFun (congrArg (quot_putBack.b0 bits_Add64.f) (funext fun y0 => (funext fun y1 => (funext fun y2 => (funext fun y3 => (funext fun y4 => quot_putBack.q117 n n y0 y1 y2 y3 y4)))))) l0) l1)
theorem quot_putBack.ok {n : Nat} {l0 : List Int} {l1 : List Int} {r : List Int × Bool} (h : quot_putBack.f n l0 l1 = some r) : CallW Tryd.prog HW 243 l0 [.ro .u64 l1] r.1 (quot_putBack.sg.enc r.2) :=
  funw_some Tryd.func243 (by kernel_rfl) (body := quot_putBack.code) (by kernel_rfl) tys_ok (c := quot_putBack.cfg bits_Add64.f) (orCall_ok (bits_Add64.call_ok (n := n)) noCall_ok) noW_ok (by kernel_rfl) (by kernel_rfl) (Nat.le_of_ble_eq_true (by kernel_rfl)) ((quot_putBack.eq n l0 l1).trans h)
noncomputable def quot_putBack.call {α : Type} (g : List Int → List Int → Option (List Int × Bool)) (l0 : List Int) (ds : List D) (K : List Int → List D → Option α) : Option α := match ds with
  | [.ro .u64 l1] => (g l0 l1).bind fun r => K r.1 (quot_putBack.sg.enc r.2)
  | _ => none
theorem quot_putBack.call_ok {α : Type} {n : Nat} (l : List Int) (ds : List D) (K : List Int → List D → Option α) (r : α) (h : quot_putBack.call (quot_putBack.f n) l ds K = some r) : ∃ l' rs, K l' rs = some r ∧ CallW Tryd.prog HW 243 l ds l' rs := by
  unfold quot_putBack.call at h
  split at h
  · obtain ⟨x, hx, hk⟩ := Option.bind_eq_some_iff.1 h
    exact ⟨_, _, hk, quot_putBack.ok (n := n) hx⟩
  · cases h
/-! ### bits_TrailingZeros64: function 171 -/
def bits_TrailingZeros64.f (a0 : Int) : Option (Int) := if 0 ≤ a0 ∧ a0 < 18446744073709551616 then some (Lib.ctz 64 a0.toNat : Nat) else none
def bits_TrailingZeros64.sg : Sig (Int) := s1 (sInt .i64)
set_option maxHeartbeats 1000000 in
theorem bits_TrailingZeros64.core (x k idx : Nat) (w : World) (hx0 : ((x : Int) == 0) = false)
    (key : IntKind.u64.wrap (bits BinOp.and IntKind.u64 (x : Int) (IntKind.u64.wrap (-(x : Int))) * 285870213051353865) / 288230376151711744 = (idx : Int))
    (hi : idx < 64) (hk : k < 64) (hcell : w.cell? ⟨0, idx, none⟩ = some (.int .u8 k)) :
    Calls Tryd.prog 171 #[.int .u64 x] w fun e w' => e = .returned (.int .i64 k) ∧ w' = w := by
  go_enter Tryd.func171, Tryd.ntmps171
  go_wp2_with (simp only [key])
  go_ret
  exact ⟨rfl, rfl⟩
theorem bits_TrailingZeros64.zero (w : World) : Calls Tryd.prog 171 #[.int .u64 0] w fun e w' => e = .returned (.int .i64 64) ∧ w' = w := by
  go_enter Tryd.func171, Tryd.ntmps171
  go_wp2
  go_ret
  exact ⟨rfl, rfl⟩
theorem bits_TrailingZeros64.ok {a0 : Int} {r : Int} (h : bits_TrailingZeros64.f a0 = some r) : CallD Tryd.prog HW 171 [.int .u64 a0] (bits_TrailingZeros64.sg.enc r) := by
  unfold bits_TrailingZeros64.f at h
  split at h
  · rename_i hh
    obtain rfl := Option.some.inj h
    refine calld_scal rfl rfl fun w hw => .inl ⟨_, Tryd.func171, by kernel_rfl, by kernel_rfl, ?_⟩
    obtain ⟨x, rfl⟩ := Int.eq_ofNat_of_zero_le hh.1
    have hx : x < 18446744073709551616 := by omega
    show Calls Tryd.prog 171 #[.int .u64 x] w _
    rw [Int.toNat_natCast]
    by_cases hx0 : x = 0
    · subst hx0
      refine (bits_TrailingZeros64.zero w).mono ?_
      rintro e w' ⟨rfl, rfl⟩
      exact ⟨_, rfl, rfl, rfl⟩
    · obtain ⟨hlow, hk⟩ := Lib.lowest_bit 64 x hx0 hx
      obtain ⟨hi, htab⟩ := Lib.deBruijn64_at _ hk
      have hcell := hw _ hi
      rw [htab] at hcell
      refine (bits_TrailingZeros64.core x _ _ w (by simp; omega) (tz64_key x _ hx hx0 hlow) hi hk hcell).mono ?_
      rintro e w' ⟨rfl, rfl⟩
      exact ⟨_, rfl, rfl, rfl⟩
  · cases h
noncomputable def bits_TrailingZeros64.call {α : Type} (g : Int → Option (Int)) (ds : List D) (K : List D → Option α) : Option α := match ds with
  | [.int .u64 a0] => (g a0).bind fun r => K (bits_TrailingZeros64.sg.enc r)
  | _ => none
theorem bits_TrailingZeros64.call_ok {α : Type} {n : Nat} (ds : List D) (K : List D → Option α) (r : α) (h : bits_TrailingZeros64.call bits_TrailingZeros64.f ds K = some r) : ∃ rs, K rs = some r ∧ CallD Tryd.prog HW 171 ds rs := by
  unfold bits_TrailingZeros64.call at h
  split at h
  · obtain ⟨x, hx, hk⟩ := Option.bind_eq_some_iff.1 h
    exact ⟨_, hk, bits_TrailingZeros64.ok hx⟩
  · cases h
/-! ### nat_Trail: function 91 -/
noncomputable def nat_Trail.b0 (c171 : Int → Option (Int)) (k53 : List Int → Int → Int → Option (Int)) (l0 : List Int) : Option (Int) := k53 l0 (ln l0) 0
noncomputable def nat_Trail.b53 (c171 : Int → Option (Int)) (k53 : List Int → Int → Int → Option (Int)) (x0 : List Int) (x1 : Int) (x2 : Int) : Option (Int) := (if x2 < x1 then (if 0 ≤ x2 then (if x2 < (ln x0) then (if ¬ (rd x0 x2) = 0 then ((c171 (rd x0 x2)).bind fun t1 => some (wrap64 ((wrap64 (64 * x2)) + t1))) else k53 x0 x1 (wrap64 (x2 + 1))) else none) else none) else some 0)
noncomputable def nat_Trail.l53 (n : Nat) : Nat → List Int → Int → Int → Option (Int)
  | 0, _, _, _ => none
  | m + 1, x0, x1, x2 => nat_Trail.b53 bits_TrailingZeros64.f (nat_Trail.l53 n m) x0 x1 x2
noncomputable def nat_Trail.f (n : Nat) (l0 : List Int) : Option (Int) := nat_Trail.b0 bits_TrailingZeros64.f (nat_Trail.l53 n n) l0
noncomputable def nat_Trail.sg : Sig (Int) := s1 (sInt .i64)
noncomputable def nat_Trail.code : Code := (Tryd.f91.body).getD .skip
noncomputable def nat_Trail.cfg (c171 : Int → Option (Int)) : Cfg (Int) := { T := tys, call := orCall 171 (bits_TrailingZeros64.call c171) (noCall) }
noncomputable def nat_Trail.cuts : List (Nat × List (Nat × Want)) := [(53, [(5, .keep), (6, .keep), (7, .keep)])]
noncomputable def nat_Trail.s53 (x0 : List Int) (x1 : Int) (x2 : Int) : ASt := ⟨[(5, .ro .u64 x0), (6, .int .i64 x1), (7, .int .i64 x2)], []⟩
noncomputable def nat_Trail.A (c171 : Int → Option (Int)) (n : Nat) (J : Nat → (ASt → Option (Int)) → ASt → Option (Int)) (q : Nat) (ms : List Nat) : ASt → Option (Int) := acont (nat_Trail.cfg c171) J nat_Trail.cuts n q nat_Trail.code 1 ms (aend (nat_Trail.cfg c171) Tryd.f91.results.toList [false] nat_Trail.sg.out)
theorem nat_Trail.e0 (c171 : Int → Option (Int)) (n : Nat) (J : Nat → (ASt → Option (Int)) → ASt → Option (Int)) (l0 : List Int) : afun (nat_Trail.cfg c171) J nat_Trail.cuts n nat_Trail.code Tryd.f91.results.toList [false] [.ro .u64 l0] nat_Trail.sg.out = nat_Trail.b0 c171 (fun y0 y1 y2 => J 53 (nat_Trail.A c171 n J 53 [n]) (nat_Trail.s53 y0 y1 y2)) l0 := by kernel_rfl
theorem nat_Trail.e53 (c171 : Int → Option (Int)) (n : Nat) (J : Nat → (ASt → Option (Int)) → ASt → Option (Int)) (m : Nat) (x0 : List Int) (x1 : Int) (x2 : Int) : nat_Trail.A c171 n J 53 [m + 1] (nat_Trail.s53 x0 x1 x2) = nat_Trail.b53 c171 (fun y0 y1 y2 => J 53 (nat_Trail.A c171 n J 53 [m]) (nat_Trail.s53 y0 y1 y2)) x0 x1 x2 := by kernel_rfl
theorem nat_Trail.q53 (n : Nat) (m : Nat) : ∀ (x0 : List Int) (x1 : Int) (x2 : Int), nat_Trail.A bits_TrailingZeros64.f n idJ 53 [m] (nat_Trail.s53 x0 x1 x2) = nat_Trail.l53 n m x0 x1 x2 := by
  induction m with
  | zero => intros; rfl
  | succ m ih =>
    intro x0 x1 x2
    refine (nat_Trail.e53 bits_TrailingZeros64.f n idJ m x0 x1 x2).trans ?_
    exact congrFun (congrFun (congrFun (congrArg (nat_Trail.b53 bits_TrailingZeros64.f) (funext fun y0 => (funext fun y1 => (funext fun y2 => ih y0 y1 y2)))) x0) x1) x2
theorem nat_Trail.eq (n : Nat) (l0 : List Int) : afun (nat_Trail.cfg bits_TrailingZeros64.f) idJ nat_Trail.cuts n nat_Trail.code Tryd.f91.results.toList [false] [.ro .u64 l0] nat_Trail.sg.out = nat_Trail.f n l0 := (nat_Trail.e0 bits_TrailingZeros64.f n idJ l0).trans (congrFun (congrArg (nat_Trail.b0 bits_TrailingZeros64.f) (funext fun y0 => (funext fun y1 => (funext fun y2 => nat_Trail.q53 n n y0 y1 y2)))) l0)
theorem nat_Trail.ok {n : Nat} {l0 : List Int} {r : Int} (h : nat_Trail.f n l0 = some r) : CallD Tryd.prog HW 91 [.ro .u64 l0] (nat_Trail.sg.enc r) :=
  fun_some hwS Tryd.func91 (by kernel_rfl) (body := nat_Trail.code) (by kernel_rfl) tys_ok (c := nat_Trail.cfg bits_TrailingZeros64.f) (orCall_ok (bits_TrailingZeros64.call_ok (n := n)) noCall_ok) noW_ok (by kernel_rfl) (by kernel_rfl) (Nat.le_of_ble_eq_true (by kernel_rfl)) ((nat_Trail.eq n l0).trans h)
noncomputable def nat_Trail.call {α : Type} (g : List Int → Option (Int)) (ds : List D) (K : List D → Option α) : Option α := match ds with
  | [.ro .u64 l0] => (g l0).bind fun r => K (nat_Trail.sg.enc r)
  | _ => none
theorem nat_Trail.call_ok {α : Type} {n : Nat} (ds : List D) (K : List D → Option α) (r : α) (h : nat_Trail.call (nat_Trail.f n) ds K = some r) : ∃ rs, K rs = some r ∧ CallD Tryd.prog HW 91 ds rs := by
  unfold nat_Trail.call at h
  split at h
  · obtain ⟨x, hx, hk⟩ := Option.bind_eq_some_iff.1 h
    exact ⟨_, hk, nat_Trail.ok (n := n) hx⟩
  · cases h
/-! ### nat_Shr: function 97 -/
noncomputable def nat_Shr.b0 (c91 : List Int → Option (Int)) (c179 : List Int → Option (Bool)) (c180 : List Int → Option (Int)) (c182 : List Int → Option (List Int × Int)) (k31 : List Int → Int → Bool → Option (List Int × Bool × Int)) (l0 : List Int) (a1 : Int) : Option (List Int × Bool × Int) := ((c179 l0).bind fun t1 => (if t1 = true then some (([] : List Int), false, 2) else (if a1 < 0 then some (([] : List Int), false, 1) else ((c180 l0).bind fun t2 => (if t2 > 0 then ((c91 l0).bind fun t3 => k31 l0 a1 (decide (t3 < a1))) else k31 l0 a1 false)))))
noncomputable def nat_Shr.b31 (c91 : List Int → Option (Int)) (c179 : List Int → Option (Bool)) (c180 : List Int → Option (Int)) (c182 : List Int → Option (List Int × Int)) (k8181 : List Int → Bool → Int → Int → Int → Int → List Int → Option (List Int × Bool × Int)) (x0 : List Int) (x1 : Int) (x2 : Bool) : Option (List Int × Bool × Int) := ((c180 x0).bind fun t1 => (if 0 ≤ t1 then (if t1 ≤ (ln x0) then ((some (x0.take t1.toNat) : Option (List Int)).bind fun y2 => (if x1 ≥ (wrap64 (64 * (ln y2))) then some (([] : List Int), x2, 0) else (if 0 ≤ (wrap64 ((ln y2) - (wrap64 (Int.tdiv x1 64)))) then (if (wrap64 ((ln y2) - (wrap64 (Int.tdiv x1 64)))).toNat ≤ 35184372088832 then k8181 y2 x2 (wrap64 (Int.tdiv x1 64)) (IntKind.u64.wrap (Int.tmod x1 64)) (ln (List.replicate (wrap64 ((ln y2) - (wrap64 (Int.tdiv x1 64)))).toNat (0 : Int))) 0 (List.replicate (wrap64 ((ln y2) - (wrap64 (Int.tdiv x1 64)))).toNat (0 : Int)) else none) else none))) else none) else none))
noncomputable def nat_Shr.b1023 (c91 : List Int → Option (Int)) (c179 : List Int → Option (Bool)) (c180 : List Int → Option (Int)) (c182 : List Int → Option (List Int × Int)) (x0 : Bool) (x1 : List Int) : Option (List Int × Bool × Int) := ((c182 x1).bind fun t1 => some (t1.1, x0, t1.2))
noncomputable def nat_Shr.b8181 (c91 : List Int → Option (Int)) (c179 : List Int → Option (Bool)) (c180 : List Int → Option (Int)) (c182 : List Int → Option (List Int × Int)) (k1023 : Bool → List Int → Option (List Int × Bool × Int)) (k8181 : List Int → Bool → Int → Int → Int → Int → List Int → Option (List Int × Bool × Int)) (x0 : List Int) (x1 : Bool) (x2 : Int) (x3 : Int) (x4 : Int) (x5 : Int) (x6 : List Int) : Option (List Int × Bool × Int) := (if x5 < x4 then (if 0 ≤ (wrap64 (x2 + x5)) then (if (wrap64 (x2 + x5)) < (ln x0) then (if 0 ≤ x3 then (if (wrap64 ((wrap64 (x2 + x5)) + 1)) < (ln x0) then (if x3 > 0 then (if 0 ≤ (wrap64 ((wrap64 (x2 + x5)) + 1)) then (if (wrap64 ((wrap64 (x2 + x5)) + 1)) < (ln x0) then (if 0 ≤ (IntKind.u64.wrap (64 - x3)) then (if 0 ≤ x5 then (if x5 < (ln x6) then k8181 x0 x1 x2 x3 x4 (wrap64 (x5 + 1)) (x6.set (x5 : Int).toNat (Go.bits .or .u64 (shr .u64 (rd x0 (wrap64 (x2 + x5))) x3) (shl .u64 (rd x0 (wrap64 ((wrap64 (x2 + x5)) + 1))) (IntKind.u64.wrap (64 - x3))))) else none) else none) else none) else none) else none) else (if 0 ≤ x5 then (if x5 < (ln x6) then k8181 x0 x1 x2 x3 x4 (wrap64 (x5 + 1)) (x6.set (x5 : Int).toNat (shr .u64 (rd x0 (wrap64 (x2 + x5))) x3)) else none) else none)) else (if 0 ≤ x5 then (if x5 < (ln x6) then k8181 x0 x1 x2 x3 x4 (wrap64 (x5 + 1)) (x6.set (x5 : Int).toNat (shr .u64 (rd x0 (wrap64 (x2 + x5))) x3)) else none) else none)) else none) else none) else none) else k1023 x1 x6)
noncomputable def nat_Shr.l1023 (n : Nat) (x0 : Bool) (x1 : List Int) : Option (List Int × Bool × Int) := nat_Shr.b1023 (nat_Trail.f n) (nat_big.f n) (nat_size.f n) (nat_cut.f n) x0 x1
noncomputable def nat_Shr.l8181 (n : Nat) : Nat → List Int → Bool → Int → Int → Int → Int → List Int → Option (List Int × Bool × Int)
  | 0, _, _, _, _, _, _, _ => none
  | m + 1, x0, x1, x2, x3, x4, x5, x6 => nat_Shr.b8181 (nat_Trail.f n) (nat_big.f n) (nat_size.f n) (nat_cut.f n) (nat_Shr.l1023 n) (nat_Shr.l8181 n m) x0 x1 x2 x3 x4 x5 x6
noncomputable def nat_Shr.l31 (n : Nat) (x0 : List Int) (x1 : Int) (x2 : Bool) : Option (List Int × Bool × Int) := nat_Shr.b31 (nat_Trail.f n) (nat_big.f n) (nat_size.f n) (nat_cut.f n) (nat_Shr.l8181 n n) x0 x1 x2
noncomputable def nat_Shr.f (n : Nat) (l0 : List Int) (a1 : Int) : Option (List Int × Bool × Int) := nat_Shr.b0 (nat_Trail.f n) (nat_big.f n) (nat_size.f n) (nat_cut.f n) (nat_Shr.l31 n) l0 a1
noncomputable def nat_Shr.sg : Sig (List Int × Bool × Int) := s2 (sRow .u64) (s2 (sBool) (s1 (sInt .i64)))
noncomputable def nat_Shr.code : Code := (Tryd.f97.body).getD .skip
noncomputable def nat_Shr.cfg (c91 : List Int → Option (Int)) (c179 : List Int → Option (Bool)) (c180 : List Int → Option (Int)) (c182 : List Int → Option (List Int × Int)) : Cfg (List Int × Bool × Int) := { T := tys, call := orCall 91 (nat_Trail.call c91) (orCall 179 (nat_big.call c179) (orCall 180 (nat_size.call c180) (orCall 182 (nat_cut.call c182) (noCall)))) }
noncomputable def nat_Shr.cuts : List (Nat × List (Nat × Want)) := [(31, [(0, .keep), (1, .keep), (7, .keep)]), (1023, [(7, .keep), (10, .keep)]), (8181, [(0, .keep), (7, .keep), (8, .keep), (9, .keep), (10, .keep), (49, .keep), (50, .keep)])]
noncomputable def nat_Shr.s31 (x0 : List Int) (x1 : Int) (x2 : Bool) : ASt := ⟨[(0, .ro .u64 x0), (1, .int .i64 x1), (7, .bool x2)], []⟩
noncomputable def nat_Shr.s1023 (x0 : Bool) (x1 : List Int) : ASt := ⟨[(7, .bool x0), (10, .own 0)], [.ints 25 .u64 x1]⟩
noncomputable def nat_Shr.s8181 (x0 : List Int) (x1 : Bool) (x2 : Int) (x3 : Int) (x4 : Int) (x5 : Int) (x6 : List Int) : ASt := ⟨[(0, .ro .u64 x0), (7, .bool x1), (8, .int .i64 x2), (9, .int .u64 x3), (10, .own 0), (49, .int .i64 x4), (50, .int .i64 x5)], [.ints 25 .u64 x6]⟩
noncomputable def nat_Shr.A (c91 : List Int → Option (Int)) (c179 : List Int → Option (Bool)) (c180 : List Int → Option (Int)) (c182 : List Int → Option (List Int × Int)) (n : Nat) (J : Nat → (ASt → Option (List Int × Bool × Int)) → ASt → Option (List Int × Bool × Int)) (q : Nat) (ms : List Nat) : ASt → Option (List Int × Bool × Int) := acont (nat_Shr.cfg c91 c179 c180 c182) J nat_Shr.cuts n q nat_Shr.code 1 ms (aend (nat_Shr.cfg c91 c179 c180 c182) Tryd.f97.results.toList [false, false, false] nat_Shr.sg.out)
theorem nat_Shr.e0 (c91 : List Int → Option (Int)) (c179 : List Int → Option (Bool)) (c180 : List Int → Option (Int)) (c182 : List Int → Option (List Int × Int)) (n : Nat) (J : Nat → (ASt → Option (List Int × Bool × Int)) → ASt → Option (List Int × Bool × Int)) (l0 : List Int) (a1 : Int) : afun (nat_Shr.cfg c91 c179 c180 c182) J nat_Shr.cuts n nat_Shr.code Tryd.f97.results.toList [false, false, false] [.ro .u64 l0, .int .i64 a1] nat_Shr.sg.out = nat_Shr.b0 c91 c179 c180 c182 (fun y0 y1 y2 => J 31 (nat_Shr.A c91 c179 c180 c182 n J 31 []) (nat_Shr.s31 y0 y1 y2)) l0 a1 := by kernel_rfl
theorem nat_Shr.e31 (c91 : List Int → Option (Int)) (c179 : List Int → Option (Bool)) (c180 : List Int → Option (Int)) (c182 : List Int → Option (List Int × Int)) (n : Nat) (J : Nat → (ASt → Option (List Int × Bool × Int)) → ASt → Option (List Int × Bool × Int)) (x0 : List Int) (x1 : Int) (x2 : Bool) : nat_Shr.A c91 c179 c180 c182 n J 31 [] (nat_Shr.s31 x0 x1 x2) = nat_Shr.b31 c91 c179 c180 c182 (fun y0 y1 y2 y3 y4 y5 y6 => J 8181 (nat_Shr.A c91 c179 c180 c182 n J 8181 [n]) (nat_Shr.s8181 y0 y1 y2 y3 y4 y5 y6)) x0 x1 x2 := by kernel_rfl
theorem nat_Shr.e1023 (c91 : List Int → Option (Int)) (c179 : List Int → Option (Bool)) (c180 : List Int → Option (Int)) (c182 : List Int → Option (List Int × Int)) (n : Nat) (J : Nat → (ASt → Option (List Int × Bool × Int)) → ASt → Option (List Int × Bool × Int)) (x0 : Bool) (x1 : List Int) : nat_Shr.A c91 c179 c180 c182 n J 1023 [] (nat_Shr.s1023 x0 x1) = nat_Shr.b1023 c91 c179 c180 c182 x0 x1 := by kernel_rfl
theorem nat_Shr.e8181 (c91 : List Int → Option (Int)) (c179 : List Int → Option (Bool)) (c180 : List Int → Option (Int)) (c182 : List Int → Option (List Int × Int)) (n : Nat) (J : Nat → (ASt → Option (List Int × Bool × Int)) → ASt → Option (List Int × Bool × Int)) (m : Nat) (x0 : List Int) (x1 : Bool) (x2 : Int) (x3 : Int) (x4 : Int) (x5 : Int) (x6 : List Int) : nat_Shr.A c91 c179 c180 c182 n J 8181 [m + 1] (nat_Shr.s8181 x0 x1 x2 x3 x4 x5 x6) = nat_Shr.b8181 c91 c179 c180 c182 (fun y0 y1 => J 1023 (nat_Shr.A c91 c179 c180 c182 n J 1023 []) (nat_Shr.s1023 y0 y1)) (fun y0 y1 y2 y3 y4 y5 y6 => J 8181 (nat_Shr.A c91 c179 c180 c182 n J 8181 [m]) (nat_Shr.s8181 y0 y1 y2 y3 y4 y5 y6)) x0 x1 x2 x3 x4 x5 x6 := by kernel_rfl
theorem nat_Shr.q1023 (n : Nat) (x0 : Bool) (x1 : List Int) : nat_Shr.A (nat_Trail.f n) (nat_big.f n) (nat_size.f n) (nat_cut.f n) n idJ 1023 [] (nat_Shr.s1023 x0 x1) = nat_Shr.l1023 n x0 x1 := (nat_Shr.e1023 (nat_Trail.f n) (nat_big.f n) (nat_size.f n) (nat_cut.f n) n idJ x0 x1).trans (rfl)
theorem nat_Shr.q8181 (n : Nat) (m : Nat) : ∀ (x0 : List Int) (x1 : Bool) (x2 : Int) (x3 : Int) (x4 : Int) (x5 : Int) (x6 : List Int), nat_Shr.A (nat_Trail.f n) (nat_big.f n) (nat_size.f n) (nat_cut.f n) n idJ 8181 [m] (nat_Shr.s8181 x0 x1 x2 x3 x4 x5 x6) = nat_Shr.l8181 n m x0 x1 x2 x3 x4 x5 x6 := by
  induction m with
  | zero => intros; rfl
  | succ m ih =>
    intro x0 x1 x2 x3 x4 x5 x6
    refine (nat_Shr.e8181 (nat_Trail.f n) (nat_big.f n) (nat_size.f n) (nat_cut.f n) n idJ m x0 x1 x2 x3 x4 x5 x6).trans ?_
    exact congrFun (congrFun (congrFun (congrFun (congrFun (congrFun (congrFun (congr (congrArg (nat_Shr.b8181 (nat_Trail.f n) (nat_big.f n) (nat_size.f n) (nat_cut.f n)) (funext fun y0 => (funext fun y1 => nat_Shr.q1023 n y0 y1))) (funext fun y0 => (funext fun y1 => (funext fun y2 => (funext fun y3 => (funext fun y4 => (funext fun y5 => (funext fun y6 => ih y0 y1 y2 y3 y4 y5 y6)))))))) x0) x1) x2) x3) x4) x5) x6
theorem nat_Shr.q31 (n : Nat) (x0 : List Int) (x1 : Int) (x2 : Bool) : nat_Shr.A (nat_Trail.f n) (nat_big.f n) (nat_size.f n) (nat_cut.f n) n idJ 31 [] (nat_Shr.s31 x0 x1 x2) = nat_Shr.l31 n x0 x1 x2 := (nat_Shr.e31 (nat_Trail.f n) (nat_big.f n) (nat_size.f n) (nat_cut.f n) n idJ x0 x1 x2).trans (congrFun (congrFun (congrFun (congrArg (nat_Shr.b31 (nat_Trail.f n) (nat_big.f n) (nat_size.f n) (nat_cut.f n)) (funext fun y0 => (funext fun y1 => (funext fun y2 => (funext fun y3 => (funext fun y4 => (funext fun y5 => (funext fun y6 => nat_Shr.q8181 n n y0 y1 y2 y3 y4 y5 y6)))))))) x0) x1) x2)
theorem nat_Shr.eq (n : Nat) (l0 : List Int) (a1 : Int) : afun (nat_Shr.cfg (nat_Trail.f n) (nat_big.f n) (nat_size.f n) (nat_cut.f n)) idJ nat_Shr.cuts n nat_Shr.code Tryd.f97.results.toList [false, false, false] [.ro .u64 l0, .int .i64 a1] nat_Shr.sg.out = nat_Shr.f n l0 a1 := (nat_Shr.e0 (nat_Trail.f n) (nat_big.f n) (nat_size.f n) (nat_cut.f n) n idJ l0 a1).trans (congrFun (congrFun (congrArg (nat_Shr.b0 (nat_Trail.f n) (nat_big.f n) (nat_size.f n) (nat_cut.f n)) (funext fun y0 => (funext fun y1 => (funext fun y2 => nat_Shr.q31 n y0 y1 y2)))) l0) a1)
theorem nat_Shr.ok {n : Nat} {l0 : List Int} {a1 : Int} {r : List Int × Bool × Int} (h : nat_Shr.f n l0 a1 = some r) : CallD Tryd.prog HW 97 [.ro .u64 l0, .int .i64 a1] (nat_Shr.sg.enc r) :=
  fun_some hwS Tryd.func97 (by kernel_rfl) (body := nat_Shr.code) (by kernel_rfl) tys_ok (c := nat_Shr.cfg (nat_Trail.f n) (nat_big.f n) (nat_size.f n) (nat_cut.f n)) (orCall_ok (nat_Trail.call_ok (n := n)) (orCall_ok (nat_big.call_ok (n := n)) (orCall_ok (nat_size.call_ok (n := n)) (orCall_ok (nat_cut.call_ok (n := n)) noCall_ok)))) noW_ok (by kernel_rfl) (by kernel_rfl) (Nat.le_of_ble_eq_true (by kernel_rfl)) ((nat_Shr.eq n l0 a1).trans h)
noncomputable def nat_Shr.call {α : Type} (g : List Int → Int → Option (List Int × Bool × Int)) (ds : List D) (K : List D → Option α) : Option α := match ds with
  | [.ro .u64 l0, .int .i64 a1] => (g l0 a1).bind fun r => K (nat_Shr.sg.enc r)
  | _ => none
theorem nat_Shr.call_ok {α : Type} {n : Nat} (ds : List D) (K : List D → Option α) (r : α) (h : nat_Shr.call (nat_Shr.f n) ds K = some r) : ∃ rs, K rs = some r ∧ CallD Tryd.prog HW 97 ds rs := by
  unfold nat_Shr.call at h
  split at h
  · obtain ⟨x, hx, hk⟩ := Option.bind_eq_some_iff.1 h
    exact ⟨_, hk, nat_Shr.ok (n := n) hx⟩
  · cases h
/-! ### quot_long: function 200 -/
noncomputable def quot_long.b0 (c86 : List Int → Option (List Int)) (c97 : List Int → Int → Option (List Int × Bool × Int)) (c236 : Int → Option (Int)) (c240 : List Int → Int → Int → Option (List Int)) (c241 : List Int → List Int → Option (Int)) (c242 : List Int → List Int → Int → Option (List Int × Bool)) (c243 : List Int → List Int → Option (List Int × Bool)) (k7157 : Int → Int → Int → List Int → List Int → List Int → Option (List Int × List Int)) (l0 : List Int) (l1 : List Int) : Option (List Int × List Int) := (if 0 ≤ (wrap64 ((ln l1) - 1)) then (if (wrap64 ((ln l1) - 1)) < (ln l1) then ((c236 (rd l1 (wrap64 ((ln l1) - 1)))).bind fun t1 => ((c240 l1 t1 (ln l1)).bind fun t2 => ((c240 l0 t1 (wrap64 ((ln l0) + 1))).bind fun t3 => (if 0 ≤ (wrap64 ((wrap64 ((ln l0) - (ln l1))) + 1)) then (if (wrap64 ((wrap64 ((ln l0) - (ln l1))) + 1)).toNat ≤ 35184372088832 then k7157 (ln l1) t1 (wrap64 ((ln (List.replicate (wrap64 ((wrap64 ((ln l0) - (ln l1))) + 1)).toNat (0 : Int))) - 1)) t2 t3 (List.replicate (wrap64 ((wrap64 ((ln l0) - (ln l1))) + 1)).toNat (0 : Int)) else none) else none)))) else none) else none)
noncomputable def quot_long.b895 (c86 : List Int → Option (List Int)) (c97 : List Int → Int → Option (List Int × Bool × Int)) (c236 : Int → Option (Int)) (c240 : List Int → Int → Int → Option (List Int)) (c241 : List Int → List Int → Option (Int)) (c242 : List Int → List Int → Int → Option (List Int × Bool)) (c243 : List Int → List Int → Option (List Int × Bool)) (x0 : Int) (x1 : Int) (x2 : List Int) (x3 : List Int) : Option (List Int × List Int) := (if 0 ≤ x0 then (if x0 ≤ (ln x2) then ((c97 ((x2.take (x0 : Int).toNat).drop 0) x1).bind fun t1 => ((c86 x3).bind fun t2 => some (t2, t1.1))) else none) else none)
noncomputable def quot_long.b7157 (c86 : List Int → Option (List Int)) (c97 : List Int → Int → Option (List Int × Bool × Int)) (c236 : Int → Option (Int)) (c240 : List Int → Int → Int → Option (List Int)) (c241 : List Int → List Int → Option (Int)) (c242 : List Int → List Int → Int → Option (List Int × Bool)) (c243 : List Int → List Int → Option (List Int × Bool)) (k895 : Int → Int → List Int → List Int → Option (List Int × List Int)) (k1832093 : Int → Int → Int → Int → Int → Bool → List Int → List Int → List Int → Option (List Int × List Int)) (x0 : Int) (x1 : Int) (x2 : Int) (x3 : List Int) (x4 : List Int) (x5 : List Int) : Option (List Int × List Int) := (if x2 ≥ 0 then (if 0 ≤ (wrap64 ((wrap64 (x2 + x0)) + 1)) then (if (wrap64 ((wrap64 (x2 + x0)) + 1)) ≤ (ln x4) then (if 0 ≤ x2 then (if x2 ≤ (wrap64 ((wrap64 (x2 + x0)) + 1)) then ((c241 ((x4.take (wrap64 ((wrap64 (x2 + x0)) + 1) : Int).toNat).drop (x2 : Int).toNat) x3).bind fun t1 => (if x2 < (wrap64 ((wrap64 (x2 + x0)) + 1)) then ((c242 ((x4.take (wrap64 ((wrap64 (x2 + x0)) + 1) : Int).toNat).drop (x2 : Int).toNat) x3 t1).bind fun t2 => k1832093 x0 x1 x2 (wrap64 ((wrap64 (x2 + x0)) + 1)) t1 t2.2 x3 (x4.take (x2 : Int).toNat ++ t2.1 ++ x4.drop (wrap64 ((wrap64 (x2 + x0)) + 1) : Int).toNat) x5) else none)) else none) else none) else none) else none) else k895 x0 x1 x4 x5)
noncomputable def quot_long.b1832093 (c86 : List Int → Option (List Int)) (c97 : List Int → Int → Option (List Int × Bool × Int)) (c236 : Int → Option (Int)) (c240 : List Int → Int → Int → Option (List Int)) (c241 : List Int → List Int → Option (Int)) (c242 : List Int → List Int → Int → Option (List Int × Bool)) (c243 : List Int → List Int → Option (List Int × Bool)) (k7157 : Int → Int → Int → List Int → List Int → List Int → Option (List Int × List Int)) (k1832093 : Int → Int → Int → Int → Int → Bool → List Int → List Int → List Int → Option (List Int × List Int)) (x0 : Int) (x1 : Int) (x2 : Int) (x3 : Int) (x4 : Int) (x5 : Bool) (x6 : List Int) (x7 : List Int) (x8 : List Int) : Option (List Int × List Int) := (if (!x5) = true then (if 0 ≤ x2 then (if x2 < (ln x8) then k7157 x0 x1 (wrap64 (x2 - 1)) x6 x7 (x8.set (x2 : Int).toNat x4) else none) else none) else (if x2 < x3 then ((c243 ((x7.take (x3 : Int).toNat).drop (x2 : Int).toNat) x6).bind fun t1 => k1832093 x0 x1 x2 x3 (IntKind.u64.wrap (x4 - 1)) (!t1.2) x6 (x7.take (x2 : Int).toNat ++ t1.1 ++ x7.drop (x3 : Int).toNat) x8) else none))
noncomputable def quot_long.l895 (n : Nat) (x0 : Int) (x1 : Int) (x2 : List Int) (x3 : List Int) : Option (List Int × List Int) := quot_long.b895 (nat_Trim.f n) (nat_Shr.f n) bits_LeadingZeros64.f (quot_raised.f n) (quot_guess.f n) (quot_takeOff.f n) (quot_putBack.f n) x0 x1 x2 x3
noncomputable def quot_long.l1832093 (n : Nat) (k7157 : Int → Int → Int → List Int → List Int → List Int → Option (List Int × List Int)) : Nat → Int → Int → Int → Int → Int → Bool → List Int → List Int → List Int → Option (List Int × List Int)
  | 0, _, _, _, _, _, _, _, _, _ => none
  | m + 1, x0, x1, x2, x3, x4, x5, x6, x7, x8 => quot_long.b1832093 (nat_Trim.f n) (nat_Shr.f n) bits_LeadingZeros64.f (quot_raised.f n) (quot_guess.f n) (quot_takeOff.f n) (quot_putBack.f n) k7157 (quot_long.l1832093 n k7157 m) x0 x1 x2 x3 x4 x5 x6 x7 x8
noncomputable def quot_long.l7157 (n : Nat) : Nat → Int → Int → Int → List Int → List Int → List Int → Option (List Int × List Int)
  | 0, _, _, _, _, _, _ => none
  | m + 1, x0, x1, x2, x3, x4, x5 => quot_long.b7157 (nat_Trim.f n) (nat_Shr.f n) bits_LeadingZeros64.f (quot_raised.f n) (quot_guess.f n) (quot_takeOff.f n) (quot_putBack.f n) (quot_long.l895 n) (quot_long.l1832093 n (quot_long.l7157 n m) n) x0 x1 x2 x3 x4 x5
noncomputable def quot_long.f (n : Nat) (l0 : List Int) (l1 : List Int) : Option (List Int × List Int) := quot_long.b0 (nat_Trim.f n) (nat_Shr.f n) bits_LeadingZeros64.f (quot_raised.f n) (quot_guess.f n) (quot_takeOff.f n) (quot_putBack.f n) (quot_long.l7157 n n) l0 l1
noncomputable def quot_long.sg : Sig (List Int × List Int) := s2 (sRow .u64) (s1 (sRow .u64))
noncomputable def quot_long.code : Code := (Tryd.f200.body).getD .skip
noncomputable def quot_long.cfg (c86 : List Int → Option (List Int)) (c97 : List Int → Int → Option (List Int × Bool × Int)) (c236 : Int → Option (Int)) (c240 : List Int → Int → Int → Option (List Int)) (c241 : List Int → List Int → Option (Int)) (c242 : List Int → List Int → Int → Option (List Int × Bool)) (c243 : List Int → List Int → Option (List Int × Bool)) : Cfg (List Int × List Int) := { T := tys, call := orCall 86 (nat_Trim.call c86) (orCall 97 (nat_Shr.call c97) (orCall 236 (bits_LeadingZeros64.call c236) (orCall 240 (quot_raised.call c240) (orCall 241 (quot_guess.call c241) (noCall))))), win := true, wr := [242, 243], callw := orW 242 (quot_takeOff.call c242) (orW 243 (quot_putBack.call c243) (noW)) }
noncomputable def quot_long.cuts : List (Nat × List (Nat × Want)) := [(895, [(6, .keep), (7, .keep), (9, .keep), (10, .keep)]), (7157, [(6, .keep), (7, .keep), (8, .keep), (9, .keep), (10, .keep), (11, .keep)]), (1832093, [(6, .keep), (7, .keep), (8, .keep), (9, .keep), (10, .keep), (11, .keep), (12, .keep), (13, .keep), (14, .keep)])]
noncomputable def quot_long.s895 (x0 : Int) (x1 : Int) (x2 : List Int) (x3 : List Int) : ASt := ⟨[(6, .int .i64 x0), (7, .int .i64 x1), (9, .own 0), (10, .own 1)], [.ints 25 .u64 x2, .ints 25 .u64 x3]⟩
noncomputable def quot_long.s7157 (x0 : Int) (x1 : Int) (x2 : Int) (x3 : List Int) (x4 : List Int) (x5 : List Int) : ASt := ⟨[(6, .int .i64 x0), (7, .int .i64 x1), (8, .own 0), (9, .own 1), (10, .own 2), (11, .int .i64 x2)], [.ints 25 .u64 x3, .ints 25 .u64 x4, .ints 25 .u64 x5]⟩
noncomputable def quot_long.s1832093 (x0 : Int) (x1 : Int) (x2 : Int) (x3 : Int) (x4 : Int) (x5 : Bool) (x6 : List Int) (x7 : List Int) (x8 : List Int) : ASt := ⟨[(6, .int .i64 x0), (7, .int .i64 x1), (8, .own 0), (9, .own 1), (10, .own 2), (11, .int .i64 x2), (12, .win 1 x2 x3), (13, .int .u64 x4), (14, .bool x5)], [.ints 25 .u64 x6, .ints 25 .u64 x7, .ints 25 .u64 x8]⟩
noncomputable def quot_long.A (c86 : List Int → Option (List Int)) (c97 : List Int → Int → Option (List Int × Bool × Int)) (c236 : Int → Option (Int)) (c240 : List Int → Int → Int → Option (List Int)) (c241 : List Int → List Int → Option (Int)) (c242 : List Int → List Int → Int → Option (List Int × Bool)) (c243 : List Int → List Int → Option (List Int × Bool)) (n : Nat) (J : Nat → (ASt → Option (List Int × List Int)) → ASt → Option (List Int × List Int)) (q : Nat) (ms : List Nat) : ASt → Option (List Int × List Int) := acont (quot_long.cfg c86 c97 c236 c240 c241 c242 c243) J quot_long.cuts n q quot_long.code 1 ms (aend (quot_long.cfg c86 c97 c236 c240 c241 c242 c243) Tryd.f200.results.toList [false, false] quot_long.sg.out)
theorem quot_long.e0 (c86 : List Int → Option (List Int)) (c97 : List Int → Int → Option (List Int × Bool × Int)) (c236 : Int → Option (Int)) (c240 : List Int → Int → Int → Option (List Int)) (c241 : List Int → List Int → Option (Int)) (c242 : List Int → List Int → Int → Option (List Int × Bool)) (c243 : List Int → List Int → Option (List Int × Bool)) (n : Nat) (J : Nat → (ASt → Option (List Int × List Int)) → ASt → Option (List Int × List Int)) (l0 : List Int) (l1 : List Int) : afun (quot_long.cfg c86 c97 c236 c240 c241 c242 c243) J quot_long.cuts n quot_long.code Tryd.f200.results.toList [false, false] [.ro .u64 l0, .ro .u64 l1] quot_long.sg.out = quot_long.b0 c86 c97 c236 c240 c241 c242 c243 (fun y0 y1 y2 y3 y4 y5 => J 7157 (quot_long.A c86 c97 c236 c240 c241 c242 c243 n J 7157 [n]) (quot_long.s7157 y0 y1 y2 y3 y4 y5)) l0 l1 := by kernel_rfl
theorem quot_long.e895 (c86 : List Int → Option (List Int)) (c97 : List Int → Int → Option (List Int × Bool × Int)) (c236 : Int → Option (Int)) (c240 : List Int → Int → Int → Option (List Int)) (c241 : List Int → List Int → Option (Int)) (c242 : List Int → List Int → Int → Option (List Int × Bool)) (c243 : List Int → List Int → Option (List Int × Bool)) (n : Nat) (J : Nat → (ASt → Option (List Int × List Int)) → ASt → Option (List Int × List Int)) (x0 : Int) (x1 : Int) (x2 : List Int) (x3 : List Int) : quot_long.A c86 c97 c236 c240 c241 c242 c243 n J 895 [] (quot_long.s895 x0 x1 x2 x3) = quot_long.b895 c86 c97 c236 c240 c241 c242 c243 x0 x1 x2 x3 := by kernel_rfl
theorem quot_long.e7157 (c86 : List Int → Option (List Int)) (c97 : List Int → Int → Option (List Int × Bool × Int)) (c236 : Int → Option (Int)) (c240 : List Int → Int → Int → Option (List Int)) (c241 : List Int → List Int → Option (Int)) (c242 : List Int → List Int → Int → Option (List Int × Bool)) (c243 : List Int → List Int → Option (List Int × Bool)) (n : Nat) (J : Nat → (ASt → Option (List Int × List Int)) → ASt → Option (List Int × List Int)) (m : Nat) (x0 : Int) (x1 : Int) (x2 : Int) (x3 : List Int) (x4 : List Int) (x5 : List Int) : quot_long.A c86 c97 c236 c240 c241 c242 c243 n J 7157 [m + 1] (quot_long.s7157 x0 x1 x2 x3 x4 x5) = quot_long.b7157 c86 c97 c236 c240 c241 c242 c243 (fun y0 y1 y2 y3 => J 895 (quot_long.A c86 c97 c236 c240 c241 c242 c243 n J 895 []) (quot_long.s895 y0 y1 y2 y3)) (fun y0 y1 y2 y3 y4 y5 y6 y7 y8 => J 1832093 (quot_long.A c86 c97 c236 c240 c241 c242 c243 n J 1832093 [m, n]) (quot_long.s1832093 y0 y1 y2 y3 y4 y5 y6 y7 y8)) x0 x1 x2 x3 x4 x5 := by kernel_rfl
theorem quot_long.e1832093 (c86 : List Int → Option (List Int)) (c97 : List Int → Int → Option (List Int × Bool × Int)) (c236 : Int → Option (Int)) (c240 : List Int → Int → Int → Option (List Int)) (c241 : List Int → List Int → Option (Int)) (c242 : List Int → List Int → Int → Option (List Int × Bool)) (c243 : List Int → List Int → Option (List Int × Bool)) (n : Nat) (J : Nat → (ASt → Option (List Int × List Int)) → ASt → Option (List Int × List Int)) (m7157 : Nat) (m : Nat) (x0 : Int) (x1 : Int) (x2 : Int) (x3 : Int) (x4 : Int) (x5 : Bool) (x6 : List Int) (x7 : List Int) (x8 : List Int) : quot_long.A c86 c97 c236 c240 c241 c242 c243 n J 1832093 [m7157, m + 1] (quot_long.s1832093 x0 x1 x2 x3 x4 x5 x6 x7 x8) = quot_long.b1832093 c86 c97 c236 c240 c241 c242 c243 (fun y0 y1 y2 y3 y4 y5 => J 7157 (quot_long.A c86 c97 c236 c240 c241 c242 c243 n J 7157 [m7157]) (quot_long.s7157 y0 y1 y2 y3 y4 y5)) (fun y0 y1 y2 y3 y4 y5 y6 y7 y8 => J 1832093 (quot_long.A c86 c97 c236 c240 c241 c242 c243 n J 1832093 [m7157, m]) (quot_long.s1832093 y0 y1 y2 y3 y4 y5 y6 y7 y8)) x0 x1 x2 x3 x4 x5 x6 x7 x8 := by kernel_rfl
theorem quot_long.q895 (n : Nat) (x0 : Int) (x1 : Int) (x2 : List Int) (x3 : List Int) : quot_long.A (nat_Trim.f n) (nat_Shr.f n) bits_LeadingZeros64.f (quot_raised.f n) (quot_guess.f n) (quot_takeOff.f n) (quot_putBack.f n) n idJ 895 [] (quot_long.s895 x0 x1 x2 x3) = quot_long.l895 n x0 x1 x2 x3 := (quot_long.e895 (nat_Trim.f n) (nat_Shr.f n) bits_LeadingZeros64.f (quot_raised.f n) (quot_guess.f n) (quot_takeOff.f n) (quot_putBack.f n) n idJ x0 x1 x2 x3).trans (rfl)
theorem quot_long.q1832093 (n : Nat) (m7157 : Nat) (m : Nat) : ∀ (x0 : Int) (x1 : Int) (x2 : Int) (x3 : Int) (x4 : Int) (x5 : Bool) (x6 : List Int) (x7 : List Int) (x8 : List Int), quot_long.A (nat_Trim.f n) (nat_Shr.f n) bits_LeadingZeros64.f (quot_raised.f n) (quot_guess.f n) (quot_takeOff.f n) (quot_putBack.f n) n idJ 1832093 [m7157, m] (quot_long.s1832093 x0 x1 x2 x3 x4 x5 x6 x7 x8) = quot_long.l1832093 n (fun y0 y1 y2 y3 y4 y5 => quot_long.A (nat_Trim.f n) (nat_Shr.f n) bits_LeadingZeros64.f (quot_raised.f n) (quot_guess.f n) (quot_takeOff.f n) (quot_putBack.f n) n idJ 7157 [m7157] (quot_long.s7157 y0 y1 y2 y3 y4 y5)) m x0 x1 x2 x3 x4 x5 x6 x7 x8 := by
  induction m with
  | zero => intros; rfl
  | succ m ih =>
    intro x0 x1 x2 x3 x4 x5 x6 x7 x8
    refine (quot_long.e1832093 (nat_Trim.f n) (nat_Shr.f n) bits_LeadingZeros64.f (quot_raised.f n) (quot_guess.f n) (quot_takeOff.f n) (quot_putBack.f n) n idJ m7157 m x0 x1 x2 x3 x4 x5 x6 x7 x8).trans ?_
    exact congrFun (congrFun (congrFun (congrFun (congrFun (congrFun (congrFun (congrFun (congrFun (congr (congrArg (quot_long.b1832093 (nat_Trim.f n) (nat_Shr.f n) bits_LeadingZeros64.f (quot_raised.f n) (quot_guess.f n) (quot_takeOff.f n) (quot_putBack.f n)) rfl) (funext fun y0 => (funext fun y1 => (funext fun y2 => (funext fun y3 => (funext fun y4 => (funext fun y5 => (funext fun y6 => (funext fun y7 => (funext fun y8 => ih y0 y1 y2 y3 y4 y5 y6 y7 y8)))))))))) x0) x1) x2) x3) x4) x5) x6) x7) x8
theorem quot_long.q7157 (n : Nat) (m : Nat) : ∀ (x0 : Int) (x1 : Int) (x2 : Int) (x3 : List Int) (x4 : List Int) (x5 : List Int), quot_long.A (nat_Trim.f n) (nat_Shr.f n) bits_LeadingZeros64.f (quot_raised.f n) (quot_guess.f n) (quot_takeOff.f n) (quot_putBack.f n) n idJ 7157 [m] (quot_long.s7157 x0 x1 x2 x3 x4 x5) = quot_long.l7157 n m x0 x1 x2 x3 x4 x5 := by
  induction m with
  | zero => intros; rfl
  | succ m ih =>
    intro x0 x1 x2 x3 x4 x5
    refine (quot_long.e7157 (nat_Trim.f n) (nat_Shr.f n) bits_LeadingZeros64.f (quot_raised.f n) (quot_guess.f n) (quot_takeOff.f n) (quot_putBack.f n) n idJ m x0 x1 x2 x3 x4 x5).trans ?_
    exact congrFun (congrFun (congrFun (congrFun (congrFun (congrFun (congr (congrArg (quot_long.b7157 (nat_Trim.f n) (nat_Shr.f n) bits_LeadingZeros64.f (quot_raised.f n) (quot_guess.f n) (quot_takeOff.f n) (quot_putBack.f n)) (funext fun y0 => (funext fun y1 => (funext fun y2 => (funext fun y3 => quot_long.q895 n y0 y1 y2 y3))))) ((funext fun y0 => (funext fun y1 => (funext fun y2 => (funext fun y3 => (funext fun y4 => (funext fun y5 => (funext fun y6 => (funext fun y7 => (funext fun y8 => quot_long.q1832093 n m n y0 y1 y2 y3 y4 y5 y6 y7 y8))))))))).trans (by rw [show (fun y0 y1 y2 y3 y4 y5 => quot_long.A (nat_Trim.f n) (nat_Shr.f n) bits_LeadingZeros64.f (quot_raised.f n) (quot_guess.f n) (quot_takeOff.f n) (quot_putBack.f n) n idJ 7157 [m] (quot_long.s7157 y0 y1 y2 y3 y4 y5)) = _ from (funext fun y0 => (funext fun y1 => (funext fun y2 => (funext fun y3 => (funext fun y4 => (funext fun y5 => ih y0 y1 y2 y3 y4 y5))))))]))) x0) x1) x2) x3) x4) x5
theorem quot_long.eq (n : Nat) (l0 : List Int) (l1 : List Int) : afun (quot_long.cfg (nat_Trim.f n) (nat_Shr.f n) bits_LeadingZeros64.f (quot_raised.f n) (quot_guess.f n) (quot_takeOff.f n) (quot_putBack.f n)) idJ quot_long.cuts n quot_long.code Tryd.f200.results.toList [false, false] [.ro .u64 l0, .ro .u64 l1] quot_long.sg.out = quot_long.f n l0 l1 := (quot_long.e0 (nat_Trim.f n) (nat_Shr.f n) bits_LeadingZeros64.f (quot_raised.f n) (quot_guess.f n) (quot_takeOff.f n) (quot_putBack.f n) n idJ l0 l1).trans (congrFun (congrFun (congrArg (quot_long.b0 (nat_Trim.f n) (nat_Shr.f n) bits_LeadingZeros64.f (quot_raised.f n) (quot_guess.f n) (quot_takeOff.f n) (quot_putBack.f n)) (funext fun y0 => (funext fun y1 => (funext fun y2 => (funext fun y3 => (funext fun y4 => (funext fun y5 => quot_long.q7157 n n y0 y1 y2 y3 y4 y5))))))) l0) l1)
theorem quot_long.ok {n : Nat} {l0 : List Int} {l1 : List Int} {r : List Int × List Int} (h : quot_long.f n l0 l1 = some r) : CallD Tryd.prog HW 200 [.ro .u64 l0, .ro .u64 l1] (quot_long.sg.enc r) :=
  fun_some hwS Tryd.func200 (by kernel_rfl) (body := quot_long.code) (by kernel_rfl) tys_ok (c := quot_long.cfg (nat_Trim.f n) (nat_Shr.f n) bits_LeadingZeros64.f (quot_raised.f n) (quot_guess.f n) (quot_takeOff.f n) (quot_putBack.f n)) (orCall_ok (nat_Trim.call_ok (n := n)) (orCall_ok (nat_Shr.call_ok (n := n)) (orCall_ok (bits_LeadingZeros64.call_ok (n := n)) (orCall_ok (quot_raised.call_ok (n := n)) (orCall_ok (quot_guess.call_ok (n := n)) noCall_ok))))) (orW_ok (quot_takeOff.call_ok (n := n)) (orW_ok (quot_putBack.call_ok (n := n)) noW_ok)) (by kernel_rfl) (by kernel_rfl) (Nat.le_of_ble_eq_true (by kernel_rfl)) ((quot_long.eq n l0 l1).trans h)
noncomputable def quot_long.call {α : Type} (g : List Int → List Int → Option (List Int × List Int)) (ds : List D) (K : List D → Option α) : Option α := match ds with
  | [.ro .u64 l0, .ro .u64 l1] => (g l0 l1).bind fun r => K (quot_long.sg.enc r)
  | _ => none
theorem quot_long.call_ok {α : Type} {n : Nat} (ds : List D) (K : List D → Option α) (r : α) (h : quot_long.call (quot_long.f n) ds K = some r) : ∃ rs, K rs = some r ∧ CallD Tryd.prog HW 200 ds rs := by
  unfold quot_long.call at h
  split at h
  · obtain ⟨x, hx, hk⟩ := Option.bind_eq_some_iff.1 h
    exact ⟨_, hk, quot_long.ok (n := n) hx⟩
  · cases h
/-! ### quot_DivMod: function 110 -/
noncomputable def quot_DivMod.b0 (c87 : Int → Option (List Int)) (c92 : List Int → List Int → Option (Int)) (c95 : List Int → Int → Option (List Int × Int × Int)) (c195 : List Int → Int → Option (List Int × Bool)) (c200 : List Int → List Int → Option (List Int × List Int)) (l0 : List Int) (l1 : List Int) : Option (List Int × List Int × Int) := ((c195 l0 4096).bind fun t1 => ((c195 l1 4096).bind fun t2 => (if (!t1.2) = true then some (([] : List Int), ([] : List Int), 2) else (if (!t2.2) = true then some (([] : List Int), ([] : List Int), 2) else (if (ln t2.1) = 0 then some (([] : List Int), ([] : List Int), 4) else ((c92 t1.1 t2.1).bind fun t3 => (if t3 < 0 then some (([] : List Int), t1.1, 0) else (if (ln t2.1) = 1 then (if 0 < (ln t2.1) then ((c95 t1.1 (rd t2.1 0)).bind fun t4 => ((c87 t4.2.1).bind fun t5 => some (t4.1, t5, t4.2.2))) else none) else ((c200 t1.1 t2.1).bind fun t6 => some (t6.1, t6.2, 0))))))))))
noncomputable def quot_DivMod.f (n : Nat) (l0 : List Int) (l1 : List Int) : Option (List Int × List Int × Int) := quot_DivMod.b0 nat_FromUint.f (nat_Cmp.f n) (nat_DivSmall.f n) (quot_small.f n) (quot_long.f n) l0 l1
noncomputable def quot_DivMod.sg : Sig (List Int × List Int × Int) := s2 (sRow .u64) (s2 (sRow .u64) (s1 (sInt .i64)))
noncomputable def quot_DivMod.code : Code := (Tryd.f110.body).getD .skip
noncomputable def quot_DivMod.cfg (c87 : Int → Option (List Int)) (c92 : List Int → List Int → Option (Int)) (c95 : List Int → Int → Option (List Int × Int × Int)) (c195 : List Int → Int → Option (List Int × Bool)) (c200 : List Int → List Int → Option (List Int × List Int)) : Cfg (List Int × List Int × Int) := { T := tys, call := orCall 87 (nat_FromUint.call c87) (orCall 92 (nat_Cmp.call c92) (orCall 95 (nat_DivSmall.call c95) (orCall 195 (quot_small.call c195) (orCall 200 (quot_long.call c200) (noCall))))) }
noncomputable def quot_DivMod.cuts : List (Nat × List (Nat × Want)) := []
theorem quot_DivMod.e0 (c87 : Int → Option (List Int)) (c92 : List Int → List Int → Option (Int)) (c95 : List Int → Int → Option (List Int × Int × Int)) (c195 : List Int → Int → Option (List Int × Bool)) (c200 : List Int → List Int → Option (List Int × List Int)) (n : Nat) (J : Nat → (ASt → Option (List Int × List Int × Int)) → ASt → Option (List Int × List Int × Int)) (l0 : List Int) (l1 : List Int) : afun (quot_DivMod.cfg c87 c92 c95 c195 c200) J quot_DivMod.cuts n quot_DivMod.code Tryd.f110.results.toList [false, false, false] [.ro .u64 l0, .ro .u64 l1] quot_DivMod.sg.out = quot_DivMod.b0 c87 c92 c95 c195 c200 l0 l1 := by kernel_rfl
theorem quot_DivMod.eq (n : Nat) (l0 : List Int) (l1 : List Int) : afun (quot_DivMod.cfg nat_FromUint.f (nat_Cmp.f n) (nat_DivSmall.f n) (quot_small.f n) (quot_long.f n)) idJ quot_DivMod.cuts n quot_DivMod.code Tryd.f110.results.toList [false, false, false] [.ro .u64 l0, .ro .u64 l1] quot_DivMod.sg.out = quot_DivMod.f n l0 l1 := (quot_DivMod.e0 nat_FromUint.f (nat_Cmp.f n) (nat_DivSmall.f n) (quot_small.f n) (quot_long.f n) n idJ l0 l1).trans (rfl)
theorem quot_DivMod.ok {n : Nat} {l0 : List Int} {l1 : List Int} {r : List Int × List Int × Int} (h : quot_DivMod.f n l0 l1 = some r) : CallD Tryd.prog HW 110 [.ro .u64 l0, .ro .u64 l1] (quot_DivMod.sg.enc r) :=
  fun_some hwS Tryd.func110 (by kernel_rfl) (body := quot_DivMod.code) (by kernel_rfl) tys_ok (c := quot_DivMod.cfg nat_FromUint.f (nat_Cmp.f n) (nat_DivSmall.f n) (quot_small.f n) (quot_long.f n)) (orCall_ok (nat_FromUint.call_ok (n := n)) (orCall_ok (nat_Cmp.call_ok (n := n)) (orCall_ok (nat_DivSmall.call_ok (n := n)) (orCall_ok (quot_small.call_ok (n := n)) (orCall_ok (quot_long.call_ok (n := n)) noCall_ok))))) noW_ok (by kernel_rfl) (by kernel_rfl) (Nat.le_of_ble_eq_true (by kernel_rfl)) ((quot_DivMod.eq n l0 l1).trans h)
noncomputable def quot_DivMod.call {α : Type} (g : List Int → List Int → Option (List Int × List Int × Int)) (ds : List D) (K : List D → Option α) : Option α := match ds with
  | [.ro .u64 l0, .ro .u64 l1] => (g l0 l1).bind fun r => K (quot_DivMod.sg.enc r)
  | _ => none
theorem quot_DivMod.call_ok {α : Type} {n : Nat} (ds : List D) (K : List D → Option α) (r : α) (h : quot_DivMod.call (quot_DivMod.f n) ds K = some r) : ∃ rs, K rs = some r ∧ CallD Tryd.prog HW 110 ds rs := by
  unfold quot_DivMod.call at h
  split at h
  · obtain ⟨x, hx, hk⟩ := Option.bind_eq_some_iff.1 h
    exact ⟨_, hk, quot_DivMod.ok (n := n) hx⟩
  · cases h
/-! ### quot_Log: function 108 -/
noncomputable def quot_Log.b0 (c68 : List Int → List Int → Option (List Int × Int)) (c87 : Int → Option (List Int)) (c92 : List Int → List Int → Option (Int)) (c110 : List Int → List Int → Option (List Int × List Int × Int)) (c195 : List Int → Int → Option (List Int × Bool)) (k505 : List Int → List Int → List (List Int) → Option (Int × Int)) (l0 : List Int) (a1 : Int) : Option (Int × Int) := ((c195 l0 4096).bind fun t1 => (if (!t1.2) = true then some (0, 2) else (if (ln t1.1) = 0 then some (0, 4) else (if a1 < 2 then some (0, 1) else ((c87 a1).bind fun t2 => k505 t1.1 t2 ([] : List (List Int)))))))
noncomputable def quot_Log.b127 (c68 : List Int → List Int → Option (List Int × Int)) (c87 : Int → Option (List Int)) (c92 : List Int → List Int → Option (Int)) (c110 : List Int → List Int → Option (List Int × List Int × Int)) (c195 : List Int → Int → Option (List Int × Bool)) (k4085 : List Int → Int → Int → List (List Int) → Option (Int × Int)) (x0 : List Int) (x1 : List (List Int)) : Option (Int × Int) := k4085 x0 0 (wrap64 ((lnr x1) - 1)) x1
noncomputable def quot_Log.b505 (c68 : List Int → List Int → Option (List Int × Int)) (c87 : Int → Option (List Int)) (c92 : List Int → List Int → Option (Int)) (c110 : List Int → List Int → Option (List Int × List Int × Int)) (c195 : List Int → Int → Option (List Int × Bool)) (k127 : List Int → List (List Int) → Option (Int × Int)) (k505 : List Int → List Int → List (List Int) → Option (Int × Int)) (x0 : List Int) (x1 : List Int) (x2 : List (List Int)) : Option (Int × Int) := ((c92 x1 x0).bind fun t1 => (if t1 ≤ 0 then (if x2.length + [x1].length ≤ 5864062014805 then ((c68 x1 x1).bind fun t2 => (if ¬ t2.2 = 0 then k127 x0 (x2 ++ [x1]) else k505 x0 t2.1 (x2 ++ [x1]))) else none) else k127 x0 x2))
noncomputable def quot_Log.b4085 (c68 : List Int → List Int → Option (List Int × Int)) (c87 : Int → Option (List Int)) (c92 : List Int → List Int → Option (Int)) (c110 : List Int → List Int → Option (List Int × List Int × Int)) (c195 : List Int → Int → Option (List Int × Bool)) (k4085 : List Int → Int → Int → List (List Int) → Option (Int × Int)) (x0 : List Int) (x1 : Int) (x2 : Int) (x3 : List (List Int)) : Option (Int × Int) := (if x2 ≥ 0 then (if 0 ≤ x2 then (if x2 < lnr x3 then ((c92 x0 (rdr x3 x2)).bind fun t1 => (if t1 ≥ 0 then (if 0 ≤ x2 then (if x2 < lnr x3 then ((c110 x0 (rdr x3 x2)).bind fun t2 => (if 0 ≤ (IntKind.u64.wrap x2) then k4085 t2.1 (wrap64 (x1 + (shl .i64 1 (IntKind.u64.wrap x2)))) (wrap64 (x2 - 1)) x3 else none)) else none) else none) else k4085 x0 x1 (wrap64 (x2 - 1)) x3)) else none) else none) else some (x1, 0))
noncomputable def quot_Log.l4085 (n : Nat) : Nat → List Int → Int → Int → List (List Int) → Option (Int × Int)
  | 0, _, _, _, _ => none
  | m + 1, x0, x1, x2, x3 => quot_Log.b4085 (nat_Mul.f n) nat_FromUint.f (nat_Cmp.f n) (quot_DivMod.f n) (quot_small.f n) (quot_Log.l4085 n m) x0 x1 x2 x3
noncomputable def quot_Log.l127 (n : Nat) (x0 : List Int) (x1 : List (List Int)) : Option (Int × Int) := quot_Log.b127 (nat_Mul.f n) nat_FromUint.f (nat_Cmp.f n) (quot_DivMod.f n) (quot_small.f n) (quot_Log.l4085 n n) x0 x1
noncomputable def quot_Log.l505 (n : Nat) : Nat → List Int → List Int → List (List Int) → Option (Int × Int)
  | 0, _, _, _ => none
  | m + 1, x0, x1, x2 => quot_Log.b505 (nat_Mul.f n) nat_FromUint.f (nat_Cmp.f n) (quot_DivMod.f n) (quot_small.f n) (quot_Log.l127 n) (quot_Log.l505 n m) x0 x1 x2
noncomputable def quot_Log.f (n : Nat) (l0 : List Int) (a1 : Int) : Option (Int × Int) := quot_Log.b0 (nat_Mul.f n) nat_FromUint.f (nat_Cmp.f n) (quot_DivMod.f n) (quot_small.f n) (quot_Log.l505 n n) l0 a1
noncomputable def quot_Log.sg : Sig (Int × Int) := s2 (sInt .i64) (s1 (sInt .i64))
noncomputable def quot_Log.code : Code := (Tryd.f108.body).getD .skip
noncomputable def quot_Log.cfg (c68 : List Int → List Int → Option (List Int × Int)) (c87 : Int → Option (List Int)) (c92 : List Int → List Int → Option (Int)) (c110 : List Int → List Int → Option (List Int × List Int × Int)) (c195 : List Int → Int → Option (List Int × Bool)) : Cfg (Int × Int) := { T := tys, call := orCall 68 (nat_Mul.call c68) (orCall 87 (nat_FromUint.call c87) (orCall 92 (nat_Cmp.call c92) (orCall 110 (quot_DivMod.call c110) (orCall 195 (quot_small.call c195) (noCall))))) }
noncomputable def quot_Log.cuts : List (Nat × List (Nat × Want)) := [(127, [(6, .keep), (8, .keep)]), (505, [(6, .keep), (8, .rws 24 .u64), (9, .keep)]), (4085, [(6, .keep), (8, .keep), (12, .keep), (13, .keep)])]
noncomputable def quot_Log.s127 (x0 : List Int) (x1 : List (List Int)) : ASt := ⟨[(6, .ro .u64 x0), (8, .own 0)], [.rws 24 .u64 x1]⟩
noncomputable def quot_Log.s505 (x0 : List Int) (x1 : List Int) (x2 : List (List Int)) : ASt := ⟨[(6, .ro .u64 x0), (8, .own 0), (9, .ro .u64 x1)], [.rws 24 .u64 x2]⟩
noncomputable def quot_Log.s4085 (x0 : List Int) (x1 : Int) (x2 : Int) (x3 : List (List Int)) : ASt := ⟨[(6, .ro .u64 x0), (8, .own 0), (12, .int .i64 x1), (13, .int .i64 x2)], [.rws 24 .u64 x3]⟩
noncomputable def quot_Log.A (c68 : List Int → List Int → Option (List Int × Int)) (c87 : Int → Option (List Int)) (c92 : List Int → List Int → Option (Int)) (c110 : List Int → List Int → Option (List Int × List Int × Int)) (c195 : List Int → Int → Option (List Int × Bool)) (n : Nat) (J : Nat → (ASt → Option (Int × Int)) → ASt → Option (Int × Int)) (q : Nat) (ms : List Nat) : ASt → Option (Int × Int) := acont (quot_Log.cfg c68 c87 c92 c110 c195) J quot_Log.cuts n q quot_Log.code 1 ms (aend (quot_Log.cfg c68 c87 c92 c110 c195) Tryd.f108.results.toList [false, false] quot_Log.sg.out)
theorem quot_Log.e0 (c68 : List Int → List Int → Option (List Int × Int)) (c87 : Int → Option (List Int)) (c92 : List Int → List Int → Option (Int)) (c110 : List Int → List Int → Option (List Int × List Int × Int)) (c195 : List Int → Int → Option (List Int × Bool)) (n : Nat) (J : Nat → (ASt → Option (Int × Int)) → ASt → Option (Int × Int)) (l0 : List Int) (a1 : Int) : afun (quot_Log.cfg c68 c87 c92 c110 c195) J quot_Log.cuts n quot_Log.code Tryd.f108.results.toList [false, false] [.ro .u64 l0, .int .u64 a1] quot_Log.sg.out = quot_Log.b0 c68 c87 c92 c110 c195 (fun y0 y1 y2 => J 505 (quot_Log.A c68 c87 c92 c110 c195 n J 505 [n]) (quot_Log.s505 y0 y1 y2)) l0 a1 := by kernel_rfl
theorem quot_Log.e127 (c68 : List Int → List Int → Option (List Int × Int)) (c87 : Int → Option (List Int)) (c92 : List Int → List Int → Option (Int)) (c110 : List Int → List Int → Option (List Int × List Int × Int)) (c195 : List Int → Int → Option (List Int × Bool)) (n : Nat) (J : Nat → (ASt → Option (Int × Int)) → ASt → Option (Int × Int)) (x0 : List Int) (x1 : List (List Int)) : quot_Log.A c68 c87 c92 c110 c195 n J 127 [] (quot_Log.s127 x0 x1) = quot_Log.b127 c68 c87 c92 c110 c195 (fun y0 y1 y2 y3 => J 4085 (quot_Log.A c68 c87 c92 c110 c195 n J 4085 [n]) (quot_Log.s4085 y0 y1 y2 y3)) x0 x1 := by kernel_rfl
theorem quot_Log.e505 (c68 : List Int → List Int → Option (List Int × Int)) (c87 : Int → Option (List Int)) (c92 : List Int → List Int → Option (Int)) (c110 : List Int → List Int → Option (List Int × List Int × Int)) (c195 : List Int → Int → Option (List Int × Bool)) (n : Nat) (J : Nat → (ASt → Option (Int × Int)) → ASt → Option (Int × Int)) (m : Nat) (x0 : List Int) (x1 : List Int) (x2 : List (List Int)) : quot_Log.A c68 c87 c92 c110 c195 n J 505 [m + 1] (quot_Log.s505 x0 x1 x2) = quot_Log.b505 c68 c87 c92 c110 c195 (fun y0 y1 => J 127 (quot_Log.A c68 c87 c92 c110 c195 n J 127 []) (quot_Log.s127 y0 y1)) (fun y0 y1 y2 => J 505 (quot_Log.A c68 c87 c92 c110 c195 n J 505 [m]) (quot_Log.s505 y0 y1 y2)) x0 x1 x2 := by kernel_rfl
theorem quot_Log.e4085 (c68 : List Int → List Int → Option (List Int × Int)) (c87 : Int → Option (List Int)) (c92 : List Int → List Int → Option (Int)) (c110 : List Int → List Int → Option (List Int × List Int × Int)) (c195 : List Int → Int → Option (List Int × Bool)) (n : Nat) (J : Nat → (ASt → Option (Int × Int)) → ASt → Option (Int × Int)) (m : Nat) (x0 : List Int) (x1 : Int) (x2 : Int) (x3 : List (List Int)) : quot_Log.A c68 c87 c92 c110 c195 n J 4085 [m + 1] (quot_Log.s4085 x0 x1 x2 x3) = quot_Log.b4085 c68 c87 c92 c110 c195 (fun y0 y1 y2 y3 => J 4085 (quot_Log.A c68 c87 c92 c110 c195 n J 4085 [m]) (quot_Log.s4085 y0 y1 y2 y3)) x0 x1 x2 x3 := by kernel_rfl
theorem quot_Log.q4085 (n : Nat) (m : Nat) : ∀ (x0 : List Int) (x1 : Int) (x2 : Int) (x3 : List (List Int)), quot_Log.A (nat_Mul.f n) nat_FromUint.f (nat_Cmp.f n) (quot_DivMod.f n) (quot_small.f n) n idJ 4085 [m] (quot_Log.s4085 x0 x1 x2 x3) = quot_Log.l4085 n m x0 x1 x2 x3 := by
  induction m with
  | zero => intros; rfl
  | succ m ih =>
    intro x0 x1 x2 x3
    refine (quot_Log.e4085 (nat_Mul.f n) nat_FromUint.f (nat_Cmp.f n) (quot_DivMod.f n) (quot_small.f n) n idJ m x0 x1 x2 x3).trans ?_
    exact congrFun (congrFun (congrFun (congrFun (congrArg (quot_Log.b4085 (nat_Mul.f n) nat_FromUint.f (nat_Cmp.f n) (quot_DivMod.f n) (quot_small.f n)) (funext fun y0 => (funext fun y1 => (funext fun y2 => (funext fun y3 => ih y0 y1 y2 y3))))) x0) x1) x2) x3
theorem quot_Log.q127 (n : Nat) (x0 : List Int) (x1 : List (List Int)) : quot_Log.A (nat_Mul.f n) nat_FromUint.f (nat_Cmp.f n) (quot_DivMod.f n) (quot_small.f n) n idJ 127 [] (quot_Log.s127 x0 x1) = quot_Log.l127 n x0 x1 := (quot_Log.e127 (nat_Mul.f n) nat_FromUint.f (nat_Cmp.f n) (quot_DivMod.f n) (quot_small.f n) n idJ x0 x1).trans (congrFun (congrFun (congrArg (quot_Log.b127 (nat_Mul.f n) nat_FromUint.f (nat_Cmp.f n) (quot_DivMod.f n) (quot_small.f n)) (funext fun y0 => (funext fun y1 => (funext fun y2 => (funext fun y3 => quot_Log.q4085 n n y0 y1 y2 y3))))) x0) x1)
theorem quot_Log.q505 (n : Nat) (m : Nat) : ∀ (x0 : List Int) (x1 : List Int) (x2 : List (List Int)), quot_Log.A (nat_Mul.f n) nat_FromUint.f (nat_Cmp.f n) (quot_DivMod.f n) (quot_small.f n) n idJ 505 [m] (quot_Log.s505 x0 x1 x2) = quot_Log.l505 n m x0 x1 x2 := by
  induction m with
  | zero => intros; rfl
  | succ m ih =>
    intro x0 x1 x2
    refine (quot_Log.e505 (nat_Mul.f n) nat_FromUint.f (nat_Cmp.f n) (quot_DivMod.f n) (quot_small.f n) n idJ m x0 x1 x2).trans ?_
    exact congrFun (congrFun (congrFun (congr (congrArg (quot_Log.b505 (nat_Mul.f n) nat_FromUint.f (nat_Cmp.f n) (quot_DivMod.f n) (quot_small.f n)) (funext fun y0 => (funext fun y1 => quot_Log.q127 n y0 y1))) (funext fun y0 => (funext fun y1 => (funext fun y2 => ih y0 y1 y2)))) x0) x1) x2
theorem quot_Log.eq (n : Nat) (l0 : List Int) (a1 : Int) : afun (quot_Log.cfg (nat_Mul.f n) nat_FromUint.f (nat_Cmp.f n) (quot_DivMod.f n) (quot_small.f n)) idJ quot_Log.cuts n quot_Log.code Tryd.f108.results.toList [false, false] [.ro .u64 l0, .int .u64 a1] quot_Log.sg.out = quot_Log.f n l0 a1 := (quot_Log.e0 (nat_Mul.f n) nat_FromUint.f (nat_Cmp.f n) (quot_DivMod.f n) (quot_small.f n) n idJ l0 a1).trans (congrFun (congrFun (congrArg (quot_Log.b0 (nat_Mul.f n) nat_FromUint.f (nat_Cmp.f n) (quot_DivMod.f n) (quot_small.f n)) (funext fun y0 => (funext fun y1 => (funext fun y2 => quot_Log.q505 n n y0 y1 y2)))) l0) a1)
theorem quot_Log.ok {n : Nat} {l0 : List Int} {a1 : Int} {r : Int × Int} (h : quot_Log.f n l0 a1 = some r) : CallD Tryd.prog HW 108 [.ro .u64 l0, .int .u64 a1] (quot_Log.sg.enc r) :=
  fun_some hwS Tryd.func108 (by kernel_rfl) (body := quot_Log.code) (by kernel_rfl) tys_ok (c := quot_Log.cfg (nat_Mul.f n) nat_FromUint.f (nat_Cmp.f n) (quot_DivMod.f n) (quot_small.f n)) (orCall_ok (nat_Mul.call_ok (n := n)) (orCall_ok (nat_FromUint.call_ok (n := n)) (orCall_ok (nat_Cmp.call_ok (n := n)) (orCall_ok (quot_DivMod.call_ok (n := n)) (orCall_ok (quot_small.call_ok (n := n)) noCall_ok))))) noW_ok (by kernel_rfl) (by kernel_rfl) (Nat.le_of_ble_eq_true (by kernel_rfl)) ((quot_Log.eq n l0 a1).trans h)
noncomputable def quot_Log.call {α : Type} (g : List Int → Int → Option (Int × Int)) (ds : List D) (K : List D → Option α) : Option α := match ds with
  | [.ro .u64 l0, .int .u64 a1] => (g l0 a1).bind fun r => K (quot_Log.sg.enc r)
  | _ => none
theorem quot_Log.call_ok {α : Type} {n : Nat} (ds : List D) (K : List D → Option α) (r : α) (h : quot_Log.call (quot_Log.f n) ds K = some r) : ∃ rs, K rs = some r ∧ CallD Tryd.prog HW 108 ds rs := by
  unfold quot_Log.call at h
  split at h
  · obtain ⟨x, hx, hk⟩ := Option.bind_eq_some_iff.1 h
    exact ⟨_, hk, quot_Log.ok (n := n) hx⟩
  · cases h
end Go.Proofs.YtalkmbmhmbnadaaDoor.F
