/- What the functions compute, and that calls of them answer so (printed by gen.py). Conditions: HW, a table as it was laid. -/
import Derived.Test.YtceihajjpeoloaaDoorA17
import Derived.Test.YtceihajjpeoloaaDoorProg
namespace Go.Proofs.YtceihajjpeoloaaDoor.F
open Go.RowKit Go.Proofs.YtceihajjpeoloaaDoorA
set_option linter.unusedVariables false
set_option maxRecDepth 100000
/-- The table of math/bits.TrailingZeros64 stands as it was laid. -/
def HW : World → Prop := fun w => ∀ j, j < 64 → w.cell? ⟨0, j, none⟩ = some (.int .u8 ((Lib.deBruijn64tab.getD j 0 : Nat) : Int))
theorem hwS : ∀ w w' : World, Below w.heap.size w w' → HW w → HW w' := fun w w' hb h j hj => by
  have h1 := h j hj
  rw [← h1]
  exact hb.cell (Nat.lt_of_not_le fun hn => by simp [World.cell?, Array.getElem?_eq_none hn] at h1)
def tys : List (Nat × TI) := [(3, ⟨.int .i64, 1, 8, [.int .i64 0], false⟩),
  (22, ⟨.int .u64, 1, 8, [.int .u64 0], false⟩),
  (32, ⟨.slice 37, 1, 24, [.nil], false⟩),
  (34, ⟨.slice 22, 1, 24, [.nil], false⟩),
  (37, ⟨.struct [(0, 1, false), (1, 1, false), (2, 1, false)], 3, 56, [.nil, .nil, .int .i64 0], false⟩),
  (71, ⟨.int .u64, 1, 8, [.int .u64 0], false⟩),
  (133, ⟨.slice 34, 1, 24, [.nil], false⟩)]
theorem tys_ok : TOK Tryd.prog tys := tok_of (by kernel_rfl)
/-! ### abacuslaw02_one: function 28 -/
noncomputable def abacuslaw02_one.b0 (a0 : Int) : Option (List Int) := some [a0]
noncomputable def abacuslaw02_one.f (a0 : Int) : Option (List Int) := abacuslaw02_one.b0 a0
noncomputable def abacuslaw02_one.sg : Sig (List Int) := s1 (sRow .u64)
noncomputable def abacuslaw02_one.code : Code := (Tryd.f28.body).getD .skip
noncomputable def abacuslaw02_one.cfg : Cfg (List Int) := { T := tys, call := noCall }
noncomputable def abacuslaw02_one.cuts : List (Nat × List (Nat × Want)) := []
theorem abacuslaw02_one.e0 (n : Nat) (J : Nat → (ASt → Option (List Int)) → ASt → Option (List Int)) (a0 : Int) : afun (abacuslaw02_one.cfg) J abacuslaw02_one.cuts n abacuslaw02_one.code Tryd.f28.results.toList [false] [.int .u64 a0] abacuslaw02_one.sg.out = abacuslaw02_one.b0 a0 := by kernel_rfl
theorem abacuslaw02_one.eq (n : Nat) (a0 : Int) : afun (abacuslaw02_one.cfg) idJ abacuslaw02_one.cuts n abacuslaw02_one.code Tryd.f28.results.toList [false] [.int .u64 a0] abacuslaw02_one.sg.out = abacuslaw02_one.f a0 := (abacuslaw02_one.e0 n idJ a0).trans (rfl)
theorem abacuslaw02_one.ok {n : Nat} {a0 : Int} {r : List Int} (h : abacuslaw02_one.f a0 = some r) : CallD Tryd.prog HW 28 [.int .u64 a0] (abacuslaw02_one.sg.enc r) :=
  fun_some hwS Tryd.func28 (by kernel_rfl) (body := abacuslaw02_one.code) (by kernel_rfl) tys_ok (c := abacuslaw02_one.cfg) noCall_ok noW_ok (by kernel_rfl) (by kernel_rfl) (Nat.le_of_ble_eq_true (by kernel_rfl)) ((abacuslaw02_one.eq n a0).trans h)
noncomputable def abacuslaw02_one.call {α : Type} (g : Int → Option (List Int)) (ds : List D) (K : List D → Option α) : Option α := match ds with
  | [.int .u64 a0] => (g a0).bind fun r => K (abacuslaw02_one.sg.enc r)
  | _ => none
theorem abacuslaw02_one.call_ok {α : Type} {n : Nat} (ds : List D) (K : List D → Option α) (r : α) (h : abacuslaw02_one.call abacuslaw02_one.f ds K = some r) : ∃ rs, K rs = some r ∧ CallD Tryd.prog HW 28 ds rs := by
  unfold abacuslaw02_one.call at h
  split at h
  · obtain ⟨x, hx, hk⟩ := Option.bind_eq_some_iff.1 h
    exact ⟨_, hk, abacuslaw02_one.ok (n := n) hx⟩
  · cases h
/-! ### abacusref02_Top: function 148 -/
noncomputable def abacusref02_Top.b0 (k57 : List Int → Int → Option (Int)) (l0 : List Int) : Option (Int) := k57 l0 (ln l0)
noncomputable def abacusref02_Top.b57 (k57 : List Int → Int → Option (Int)) (x0 : List Int) (x1 : Int) : Option (Int) := (if x1 > 0 then (if 0 ≤ (wrap64 (x1 - 1)) then (if (wrap64 (x1 - 1)) < (ln x0) then (if (rd x0 (wrap64 (x1 - 1))) = 0 then k57 x0 (wrap64 (x1 - 1)) else some x1) else none) else none) else some x1)
noncomputable def abacusref02_Top.l57 (n : Nat) : Nat → List Int → Int → Option (Int)
  | 0, _, _ => none
  | m + 1, x0, x1 => abacusref02_Top.b57 (abacusref02_Top.l57 n m) x0 x1
noncomputable def abacusref02_Top.f (n : Nat) (l0 : List Int) : Option (Int) := abacusref02_Top.b0 (abacusref02_Top.l57 n n) l0
noncomputable def abacusref02_Top.sg : Sig (Int) := s1 (sInt .i64)
noncomputable def abacusref02_Top.code : Code := (Tryd.f148.body).getD .skip
noncomputable def abacusref02_Top.cfg : Cfg (Int) := { T := tys, call := noCall }
noncomputable def abacusref02_Top.cuts : List (Nat × List (Nat × Want)) := [(57, [(0, .keep), (3, .keep)])]
noncomputable def abacusref02_Top.s57 (x0 : List Int) (x1 : Int) : ASt := ⟨[(0, .ro .u64 x0), (3, .int .i64 x1)], []⟩
noncomputable def abacusref02_Top.A (n : Nat) (J : Nat → (ASt → Option (Int)) → ASt → Option (Int)) (q : Nat) (ms : List Nat) : ASt → Option (Int) := acont (abacusref02_Top.cfg) J abacusref02_Top.cuts n q abacusref02_Top.code 1 ms (aend (abacusref02_Top.cfg) Tryd.f148.results.toList [false] abacusref02_Top.sg.out)
theorem abacusref02_Top.e0 (n : Nat) (J : Nat → (ASt → Option (Int)) → ASt → Option (Int)) (l0 : List Int) : afun (abacusref02_Top.cfg) J abacusref02_Top.cuts n abacusref02_Top.code Tryd.f148.results.toList [false] [.ro .u64 l0] abacusref02_Top.sg.out = abacusref02_Top.b0 (fun y0 y1 => J 57 (abacusref02_Top.A n J 57 [n]) (abacusref02_Top.s57 y0 y1)) l0 := by kernel_rfl
theorem abacusref02_Top.e57 (n : Nat) (J : Nat → (ASt → Option (Int)) → ASt → Option (Int)) (m : Nat) (x0 : List Int) (x1 : Int) : abacusref02_Top.A n J 57 [m + 1] (abacusref02_Top.s57 x0 x1) = abacusref02_Top.b57 (fun y0 y1 => J 57 (abacusref02_Top.A n J 57 [m]) (abacusref02_Top.s57 y0 y1)) x0 x1 := by kernel_rfl
theorem abacusref02_Top.q57 (n : Nat) (m : Nat) : ∀ (x0 : List Int) (x1 : Int), abacusref02_Top.A n idJ 57 [m] (abacusref02_Top.s57 x0 x1) = abacusref02_Top.l57 n m x0 x1 := by
  induction m with
  | zero => intros; rfl
  | succ m ih =>
    intro x0 x1
    refine (abacusref02_Top.e57 n idJ m x0 x1).trans ?_
    exact congrFun (congrFun (congrArg abacusref02_Top.b57 (funext fun y0 => (funext fun y1 => ih y0 y1))) x0) x1
theorem abacusref02_Top.eq (n : Nat) (l0 : List Int) : afun (abacusref02_Top.cfg) idJ abacusref02_Top.cuts n abacusref02_Top.code Tryd.f148.results.toList [false] [.ro .u64 l0] abacusref02_Top.sg.out = abacusref02_Top.f n l0 := (abacusref02_Top.e0 n idJ l0).trans (congrFun (congrArg abacusref02_Top.b0 (funext fun y0 => (funext fun y1 => abacusref02_Top.q57 n n y0 y1))) l0)
theorem abacusref02_Top.ok {n : Nat} {l0 : List Int} {r : Int} (h : abacusref02_Top.f n l0 = some r) : CallD Tryd.prog HW 148 [.ro .u64 l0] (abacusref02_Top.sg.enc r) :=
  fun_some hwS Tryd.func148 (by kernel_rfl) (body := abacusref02_Top.code) (by kernel_rfl) tys_ok (c := abacusref02_Top.cfg) noCall_ok noW_ok (by kernel_rfl) (by kernel_rfl) (Nat.le_of_ble_eq_true (by kernel_rfl)) ((abacusref02_Top.eq n l0).trans h)
noncomputable def abacusref02_Top.call {α : Type} (g : List Int → Option (Int)) (ds : List D) (K : List D → Option α) : Option α := match ds with
  | [.ro .u64 l0] => (g l0).bind fun r => K (abacusref02_Top.sg.enc r)
  | _ => none
theorem abacusref02_Top.call_ok {α : Type} {n : Nat} (ds : List D) (K : List D → Option α) (r : α) (h : abacusref02_Top.call (abacusref02_Top.f n) ds K = some r) : ∃ rs, K rs = some r ∧ CallD Tryd.prog HW 148 ds rs := by
  unfold abacusref02_Top.call at h
  split at h
  · obtain ⟨x, hx, hk⟩ := Option.bind_eq_some_iff.1 h
    exact ⟨_, hk, abacusref02_Top.ok (n := n) hx⟩
  · cases h
/-! ### abacusref02_Short: function 149 -/
noncomputable def abacusref02_Short.b0 (c148 : List Int → Option (Int)) (k245 : List Int → Int → Int → List Int → Option (List Int)) (l0 : List Int) : Option (List Int) := ((c148 l0).bind fun t1 => (if 0 ≤ t1 then (if t1.toNat ≤ 35184372088832 then k245 l0 t1 0 (List.replicate t1.toNat (0 : Int)) else none) else none))
noncomputable def abacusref02_Short.b245 (c148 : List Int → Option (Int)) (k245 : List Int → Int → Int → List Int → Option (List Int)) (x0 : List Int) (x1 : Int) (x2 : Int) (x3 : List Int) : Option (List Int) := (if x2 < x1 then (if 0 ≤ x2 then (if x2 < (ln x0) then (if 0 ≤ x2 then (if x2 < (ln x3) then k245 x0 x1 (wrap64 (x2 + 1)) (x3.set (x2 : Int).toNat (rd x0 x2)) else none) else none) else none) else none) else some x3)
noncomputable def abacusref02_Short.l245 (n : Nat) : Nat → List Int → Int → Int → List Int → Option (List Int)
  | 0, _, _, _, _ => none
  | m + 1, x0, x1, x2, x3 => abacusref02_Short.b245 (abacusref02_Top.f n) (abacusref02_Short.l245 n m) x0 x1 x2 x3
noncomputable def abacusref02_Short.f (n : Nat) (l0 : List Int) : Option (List Int) := abacusref02_Short.b0 (abacusref02_Top.f n) (abacusref02_Short.l245 n n) l0
noncomputable def abacusref02_Short.sg : Sig (List Int) := s1 (sOwn 22 .u64)
noncomputable def abacusref02_Short.code : Code := (Tryd.f149.body).getD .skip
noncomputable def abacusref02_Short.cfg (c148 : List Int → Option (Int)) : Cfg (List Int) := { T := tys, call := orCall 148 (abacusref02_Top.call c148) (noCall) }
noncomputable def abacusref02_Short.cuts : List (Nat × List (Nat × Want)) := [(245, [(0, .keep), (3, .keep), (4, .keep), (5, .keep)])]
noncomputable def abacusref02_Short.s245 (x0 : List Int) (x1 : Int) (x2 : Int) (x3 : List Int) : ASt := ⟨[(0, .ro .u64 x0), (3, .int .i64 x1), (4, .own 0), (5, .int .i64 x2)], [.ints 22 .u64 x3]⟩
noncomputable def abacusref02_Short.A (c148 : List Int → Option (Int)) (n : Nat) (J : Nat → (ASt → Option (List Int)) → ASt → Option (List Int)) (q : Nat) (ms : List Nat) : ASt → Option (List Int) := acont (abacusref02_Short.cfg c148) J abacusref02_Short.cuts n q abacusref02_Short.code 1 ms (aend (abacusref02_Short.cfg c148) Tryd.f149.results.toList [true] abacusref02_Short.sg.out)
theorem abacusref02_Short.e0 (c148 : List Int → Option (Int)) (n : Nat) (J : Nat → (ASt → Option (List Int)) → ASt → Option (List Int)) (l0 : List Int) : afun (abacusref02_Short.cfg c148) J abacusref02_Short.cuts n abacusref02_Short.code Tryd.f149.results.toList [true] [.ro .u64 l0] abacusref02_Short.sg.out = abacusref02_Short.b0 c148 (fun y0 y1 y2 y3 => J 245 (abacusref02_Short.A c148 n J 245 [n]) (abacusref02_Short.s245 y0 y1 y2 y3)) l0 := by kernel_rfl
theorem abacusref02_Short.e245 (c148 : List Int → Option (Int)) (n : Nat) (J : Nat → (ASt → Option (List Int)) → ASt → Option (List Int)) (m : Nat) (x0 : List Int) (x1 : Int) (x2 : Int) (x3 : List Int) : abacusref02_Short.A c148 n J 245 [m + 1] (abacusref02_Short.s245 x0 x1 x2 x3) = abacusref02_Short.b245 c148 (fun y0 y1 y2 y3 => J 245 (abacusref02_Short.A c148 n J 245 [m]) (abacusref02_Short.s245 y0 y1 y2 y3)) x0 x1 x2 x3 := by kernel_rfl
theorem abacusref02_Short.q245 (n : Nat) (m : Nat) : ∀ (x0 : List Int) (x1 : Int) (x2 : Int) (x3 : List Int), abacusref02_Short.A (abacusref02_Top.f n) n idJ 245 [m] (abacusref02_Short.s245 x0 x1 x2 x3) = abacusref02_Short.l245 n m x0 x1 x2 x3 := by
  induction m with
  | zero => intros; rfl
  | succ m ih =>
    intro x0 x1 x2 x3
    refine (abacusref02_Short.e245 (abacusref02_Top.f n) n idJ m x0 x1 x2 x3).trans ?_
    exact congrFun (congrFun (congrFun (congrFun (congrArg (abacusref02_Short.b245 (abacusref02_Top.f n)) (funext fun y0 => (funext fun y1 => (funext fun y2 => (funext fun y3 => ih y0 y1 y2 y3))))) x0) x1) x2) x3
theorem abacusref02_Short.eq (n : Nat) (l0 : List Int) : afun (abacusref02_Short.cfg (abacusref02_Top.f n)) idJ abacusref02_Short.cuts n abacusref02_Short.code Tryd.f149.results.toList [true] [.ro .u64 l0] abacusref02_Short.sg.out = abacusref02_Short.f n l0 := (abacusref02_Short.e0 (abacusref02_Top.f n) n idJ l0).trans (congrFun (congrArg (abacusref02_Short.b0 (abacusref02_Top.f n)) (funext fun y0 => (funext fun y1 => (funext fun y2 => (funext fun y3 => abacusref02_Short.q245 n n y0 y1 y2 y3))))) l0)
theorem abacusref02_Short.ok {n : Nat} {l0 : List Int} {r : List Int} (h : abacusref02_Short.f n l0 = some r) : CallD Tryd.prog HW 149 [.ro .u64 l0] (abacusref02_Short.sg.enc r) :=
  fun_some hwS Tryd.func149 (by kernel_rfl) (body := abacusref02_Short.code) (by kernel_rfl) tys_ok (c := abacusref02_Short.cfg (abacusref02_Top.f n)) (orCall_ok (abacusref02_Top.call_ok (n := n)) noCall_ok) noW_ok (by kernel_rfl) (by kernel_rfl) (Nat.le_of_ble_eq_true (by kernel_rfl)) ((abacusref02_Short.eq n l0).trans h)
noncomputable def abacusref02_Short.call {α : Type} (g : List Int → Option (List Int)) (ds : List D) (K : List D → Option α) : Option α := match ds with
  | [.ro .u64 l0] => (g l0).bind fun r => K (abacusref02_Short.sg.enc r)
  | _ => none
theorem abacusref02_Short.call_ok {α : Type} {n : Nat} (ds : List D) (K : List D → Option α) (r : α) (h : abacusref02_Short.call (abacusref02_Short.f n) ds K = some r) : ∃ rs, K rs = some r ∧ CallD Tryd.prog HW 149 ds rs := by
  unfold abacusref02_Short.call at h
  split at h
  · obtain ⟨x, hx, hk⟩ := Option.bind_eq_some_iff.1 h
    exact ⟨_, hk, abacusref02_Short.ok (n := n) hx⟩
  · cases h
/-! ### abacusref02_Order: function 151 -/
noncomputable def abacusref02_Order.b0 (c148 : List Int → Option (Int)) (k1013 : List Int → List Int → Int → Option (Int)) (l0 : List Int) (l1 : List Int) : Option (Int) := ((c148 l0).bind fun t1 => ((c148 l1).bind fun t2 => (if t1 < t2 then some (-1) else (if t1 > t2 then some 1 else k1013 l0 l1 (wrap64 (t1 - 1))))))
noncomputable def abacusref02_Order.b1013 (c148 : List Int → Option (Int)) (k1013 : List Int → List Int → Int → Option (Int)) (x0 : List Int) (x1 : List Int) (x2 : Int) : Option (Int) := (if x2 ≥ 0 then (if 0 ≤ x2 then (if x2 < (ln x0) then (if 0 ≤ x2 then (if x2 < (ln x1) then (if (rd x0 x2) < (rd x1 x2) then some (-1) else (if 0 ≤ x2 then (if x2 < (ln x0) then (if 0 ≤ x2 then (if x2 < (ln x1) then (if (rd x0 x2) > (rd x1 x2) then some 1 else k1013 x0 x1 (wrap64 (x2 - 1))) else none) else none) else none) else none)) else none) else none) else none) else none) else some 0)
noncomputable def abacusref02_Order.l1013 (n : Nat) : Nat → List Int → List Int → Int → Option (Int)
  | 0, _, _, _ => none
  | m + 1, x0, x1, x2 => abacusref02_Order.b1013 (abacusref02_Top.f n) (abacusref02_Order.l1013 n m) x0 x1 x2
noncomputable def abacusref02_Order.f (n : Nat) (l0 : List Int) (l1 : List Int) : Option (Int) := abacusref02_Order.b0 (abacusref02_Top.f n) (abacusref02_Order.l1013 n n) l0 l1
noncomputable def abacusref02_Order.sg : Sig (Int) := s1 (sInt .i64)
noncomputable def abacusref02_Order.code : Code := (Tryd.f151.body).getD .skip
noncomputable def abacusref02_Order.cfg (c148 : List Int → Option (Int)) : Cfg (Int) := { T := tys, call := orCall 148 (abacusref02_Top.call c148) (noCall) }
noncomputable def abacusref02_Order.cuts : List (Nat × List (Nat × Want)) := [(1013, [(0, .keep), (1, .keep), (7, .keep)])]
noncomputable def abacusref02_Order.s1013 (x0 : List Int) (x1 : List Int) (x2 : Int) : ASt := ⟨[(0, .ro .u64 x0), (1, .ro .u64 x1), (7, .int .i64 x2)], []⟩
noncomputable def abacusref02_Order.A (c148 : List Int → Option (Int)) (n : Nat) (J : Nat → (ASt → Option (Int)) → ASt → Option (Int)) (q : Nat) (ms : List Nat) : ASt → Option (Int) := acont (abacusref02_Order.cfg c148) J abacusref02_Order.cuts n q abacusref02_Order.code 1 ms (aend (abacusref02_Order.cfg c148) Tryd.f151.results.toList [false] abacusref02_Order.sg.out)
theorem abacusref02_Order.e0 (c148 : List Int → Option (Int)) (n : Nat) (J : Nat → (ASt → Option (Int)) → ASt → Option (Int)) (l0 : List Int) (l1 : List Int) : afun (abacusref02_Order.cfg c148) J abacusref02_Order.cuts n abacusref02_Order.code Tryd.f151.results.toList [false] [.ro .u64 l0, .ro .u64 l1] abacusref02_Order.sg.out = abacusref02_Order.b0 c148 (fun y0 y1 y2 => J 1013 (abacusref02_Order.A c148 n J 1013 [n]) (abacusref02_Order.s1013 y0 y1 y2)) l0 l1 := by kernel_rfl
theorem abacusref02_Order.e1013 (c148 : List Int → Option (Int)) (n : Nat) (J : Nat → (ASt → Option (Int)) → ASt → Option (Int)) (m : Nat) (x0 : List Int) (x1 : List Int) (x2 : Int) : abacusref02_Order.A c148 n J 1013 [m + 1] (abacusref02_Order.s1013 x0 x1 x2) = abacusref02_Order.b1013 c148 (fun y0 y1 y2 => J 1013 (abacusref02_Order.A c148 n J 1013 [m]) (abacusref02_Order.s1013 y0 y1 y2)) x0 x1 x2 := by kernel_rfl
theorem abacusref02_Order.q1013 (n : Nat) (m : Nat) : ∀ (x0 : List Int) (x1 : List Int) (x2 : Int), abacusref02_Order.A (abacusref02_Top.f n) n idJ 1013 [m] (abacusref02_Order.s1013 x0 x1 x2) = abacusref02_Order.l1013 n m x0 x1 x2 := by
  induction m with
  | zero => intros; rfl
  | succ m ih =>
    intro x0 x1 x2
    refine (abacusref02_Order.e1013 (abacusref02_Top.f n) n idJ m x0 x1 x2).trans ?_
    exact congrFun (congrFun (congrFun (congrArg (abacusref02_Order.b1013 (abacusref02_Top.f n)) (funext fun y0 => (funext fun y1 => (funext fun y2 => ih y0 y1 y2)))) x0) x1) x2
theorem abacusref02_Order.eq (n : Nat) (l0 : List Int) (l1 : List Int) : afun (abacusref02_Order.cfg (abacusref02_Top.f n)) idJ abacusref02_Order.cuts n abacusref02_Order.code Tryd.f151.results.toList [false] [.ro .u64 l0, .ro .u64 l1] abacusref02_Order.sg.out = abacusref02_Order.f n l0 l1 := (abacusref02_Order.e0 (abacusref02_Top.f n) n idJ l0 l1).trans (congrFun (congrFun (congrArg (abacusref02_Order.b0 (abacusref02_Top.f n)) (funext fun y0 => (funext fun y1 => (funext fun y2 => abacusref02_Order.q1013 n n y0 y1 y2)))) l0) l1)
theorem abacusref02_Order.ok {n : Nat} {l0 : List Int} {l1 : List Int} {r : Int} (h : abacusref02_Order.f n l0 l1 = some r) : CallD Tryd.prog HW 151 [.ro .u64 l0, .ro .u64 l1] (abacusref02_Order.sg.enc r) :=
  fun_some hwS Tryd.func151 (by kernel_rfl) (body := abacusref02_Order.code) (by kernel_rfl) tys_ok (c := abacusref02_Order.cfg (abacusref02_Top.f n)) (orCall_ok (abacusref02_Top.call_ok (n := n)) noCall_ok) noW_ok (by kernel_rfl) (by kernel_rfl) (Nat.le_of_ble_eq_true (by kernel_rfl)) ((abacusref02_Order.eq n l0 l1).trans h)
noncomputable def abacusref02_Order.call {α : Type} (g : List Int → List Int → Option (Int)) (ds : List D) (K : List D → Option α) : Option α := match ds with
  | [.ro .u64 l0, .ro .u64 l1] => (g l0 l1).bind fun r => K (abacusref02_Order.sg.enc r)
  | _ => none
theorem abacusref02_Order.call_ok {α : Type} {n : Nat} (ds : List D) (K : List D → Option α) (r : α) (h : abacusref02_Order.call (abacusref02_Order.f n) ds K = some r) : ∃ rs, K rs = some r ∧ CallD Tryd.prog HW 151 ds rs := by
  unfold abacusref02_Order.call at h
  split at h
  · obtain ⟨x, hx, hk⟩ := Option.bind_eq_some_iff.1 h
    exact ⟨_, hk, abacusref02_Order.ok (n := n) hx⟩
  · cases h
/-! ### abacusref02_doubled: function 150 -/
noncomputable def abacusref02_doubled.b0 (k245 : List Int → Int → Int → List Int → Option (List Int)) (l0 : List Int) (a1 : Int) : Option (List Int) := (if 0 ≤ (wrap64 ((ln l0) + 1)) then (if (wrap64 ((ln l0) + 1)).toNat ≤ 35184372088832 then k245 l0 a1 0 (List.replicate (wrap64 ((ln l0) + 1)).toNat (0 : Int)) else none) else none)
noncomputable def abacusref02_doubled.b245 (k245 : List Int → Int → Int → List Int → Option (List Int)) (x0 : List Int) (x1 : Int) (x2 : Int) (x3 : List Int) : Option (List Int) := (if x2 < (ln x0) then (if 0 ≤ x2 then (if x2 < (ln x0) then (if 0 ≤ x2 then (if x2 < (ln x3) then (if 0 ≤ x2 then (if x2 < (ln x0) then k245 x0 ((rd x0 x2) / 9223372036854775808) (wrap64 (x2 + 1)) (x3.set (x2 : Int).toNat (Go.bits .or .u64 (IntKind.u64.wrap ((rd x0 x2) * 2)) x1)) else none) else none) else none) else none) else none) else none) else (if 0 ≤ (ln x0) then (if (ln x0) < (ln x3) then some (x3.set ((ln x0) : Int).toNat x1) else none) else none))
noncomputable def abacusref02_doubled.l245 (n : Nat) : Nat → List Int → Int → Int → List Int → Option (List Int)
  | 0, _, _, _, _ => none
  | m + 1, x0, x1, x2, x3 => abacusref02_doubled.b245 (abacusref02_doubled.l245 n m) x0 x1 x2 x3
noncomputable def abacusref02_doubled.f (n : Nat) (l0 : List Int) (a1 : Int) : Option (List Int) := abacusref02_doubled.b0 (abacusref02_doubled.l245 n n) l0 a1
noncomputable def abacusref02_doubled.sg : Sig (List Int) := s1 (sRow .u64)
noncomputable def abacusref02_doubled.code : Code := (Tryd.f150.body).getD .skip
noncomputable def abacusref02_doubled.cfg : Cfg (List Int) := { T := tys, call := noCall }
noncomputable def abacusref02_doubled.cuts : List (Nat × List (Nat × Want)) := [(245, [(0, .keep), (5, .keep), (6, .keep), (7, .keep)])]
noncomputable def abacusref02_doubled.s245 (x0 : List Int) (x1 : Int) (x2 : Int) (x3 : List Int) : ASt := ⟨[(0, .ro .u64 x0), (5, .own 0), (6, .int .u64 x1), (7, .int .i64 x2)], [.ints 22 .u64 x3]⟩
noncomputable def abacusref02_doubled.A (n : Nat) (J : Nat → (ASt → Option (List Int)) → ASt → Option (List Int)) (q : Nat) (ms : List Nat) : ASt → Option (List Int) := acont (abacusref02_doubled.cfg) J abacusref02_doubled.cuts n q abacusref02_doubled.code 1 ms (aend (abacusref02_doubled.cfg) Tryd.f150.results.toList [false] abacusref02_doubled.sg.out)
theorem abacusref02_doubled.e0 (n : Nat) (J : Nat → (ASt → Option (List Int)) → ASt → Option (List Int)) (l0 : List Int) (a1 : Int) : afun (abacusref02_doubled.cfg) J abacusref02_doubled.cuts n abacusref02_doubled.code Tryd.f150.results.toList [false] [.ro .u64 l0, .int .u64 a1] abacusref02_doubled.sg.out = abacusref02_doubled.b0 (fun y0 y1 y2 y3 => J 245 (abacusref02_doubled.A n J 245 [n]) (abacusref02_doubled.s245 y0 y1 y2 y3)) l0 a1 := by kernel_rfl
theorem abacusref02_doubled.e245 (n : Nat) (J : Nat → (ASt → Option (List Int)) → ASt → Option (List Int)) (m : Nat) (x0 : List Int) (x1 : Int) (x2 : Int) (x3 : List Int) : abacusref02_doubled.A n J 245 [m + 1] (abacusref02_doubled.s245 x0 x1 x2 x3) = abacusref02_doubled.b245 (fun y0 y1 y2 y3 => J 245 (abacusref02_doubled.A n J 245 [m]) (abacusref02_doubled.s245 y0 y1 y2 y3)) x0 x1 x2 x3 := by kernel_rfl
theorem abacusref02_doubled.q245 (n : Nat) (m : Nat) : ∀ (x0 : List Int) (x1 : Int) (x2 : Int) (x3 : List Int), abacusref02_doubled.A n idJ 245 [m] (abacusref02_doubled.s245 x0 x1 x2 x3) = abacusref02_doubled.l245 n m x0 x1 x2 x3 := by
  induction m with
  | zero => intros; rfl
  | succ m ih =>
    intro x0 x1 x2 x3
    refine (abacusref02_doubled.e245 n idJ m x0 x1 x2 x3).trans ?_
    exact congrFun (congrFun (congrFun (congrFun (congrArg abacusref02_doubled.b245 (funext fun y0 => (funext fun y1 => (funext fun y2 => (funext fun y3 => ih y0 y1 y2 y3))))) x0) x1) x2) x3
theorem abacusref02_doubled.eq (n : Nat) (l0 : List Int) (a1 : Int) : afun (abacusref02_doubled.cfg) idJ abacusref02_doubled.cuts n abacusref02_doubled.code Tryd.f150.results.toList [false] [.ro .u64 l0, .int .u64 a1] abacusref02_doubled.sg.out = abacusref02_doubled.f n l0 a1 := (abacusref02_doubled.e0 n idJ l0 a1).trans (congrFun (congrFun (congrArg abacusref02_doubled.b0 (funext fun y0 => (funext fun y1 => (funext fun y2 => (funext fun y3 => abacusref02_doubled.q245 n n y0 y1 y2 y3))))) l0) a1)
theorem abacusref02_doubled.ok {n : Nat} {l0 : List Int} {a1 : Int} {r : List Int} (h : abacusref02_doubled.f n l0 a1 = some r) : CallD Tryd.prog HW 150 [.ro .u64 l0, .int .u64 a1] (abacusref02_doubled.sg.enc r) :=
  fun_some hwS Tryd.func150 (by kernel_rfl) (body := abacusref02_doubled.code) (by kernel_rfl) tys_ok (c := abacusref02_doubled.cfg) noCall_ok noW_ok (by kernel_rfl) (by kernel_rfl) (Nat.le_of_ble_eq_true (by kernel_rfl)) ((abacusref02_doubled.eq n l0 a1).trans h)
noncomputable def abacusref02_doubled.call {α : Type} (g : List Int → Int → Option (List Int)) (ds : List D) (K : List D → Option α) : Option α := match ds with
  | [.ro .u64 l0, .int .u64 a1] => (g l0 a1).bind fun r => K (abacusref02_doubled.sg.enc r)
  | _ => none
theorem abacusref02_doubled.call_ok {α : Type} {n : Nat} (ds : List D) (K : List D → Option α) (r : α) (h : abacusref02_doubled.call (abacusref02_doubled.f n) ds K = some r) : ∃ rs, K rs = some r ∧ CallD Tryd.prog HW 150 ds rs := by
  unfold abacusref02_doubled.call at h
  split at h
  · obtain ⟨x, hx, hk⟩ := Option.bind_eq_some_iff.1 h
    exact ⟨_, hk, abacusref02_doubled.ok (n := n) hx⟩
  · cases h
/-! ### abacusref02_holds: function 177 -/
noncomputable def abacusref02_holds.b0 (k53 : List Int → Int → List Int → Int → Option (Bool)) (l0 : List Int) (a1 : Int) (l2 : List Int) : Option (Bool) := k53 l0 a1 l2 (wrap64 ((ln l2) - 1))
noncomputable def abacusref02_holds.b53 (k53 : List Int → Int → List Int → Int → Option (Bool)) (x0 : List Int) (x1 : Int) (x2 : List Int) (x3 : Int) : Option (Bool) := (if x3 ≥ 0 then (if 0 ≤ (wrap64 (x1 + x3)) then (if (wrap64 (x1 + x3)) < (ln x0) then (if 0 ≤ x3 then (if x3 < (ln x2) then (if (rd x0 (wrap64 (x1 + x3))) > (rd x2 x3) then some true else (if 0 ≤ (wrap64 (x1 + x3)) then (if (wrap64 (x1 + x3)) < (ln x0) then (if 0 ≤ x3 then (if x3 < (ln x2) then (if (rd x0 (wrap64 (x1 + x3))) < (rd x2 x3) then some false else k53 x0 x1 x2 (wrap64 (x3 - 1))) else none) else none) else none) else none)) else none) else none) else none) else none) else some true)
noncomputable def abacusref02_holds.l53 (n : Nat) : Nat → List Int → Int → List Int → Int → Option (Bool)
  | 0, _, _, _, _ => none
  | m + 1, x0, x1, x2, x3 => abacusref02_holds.b53 (abacusref02_holds.l53 n m) x0 x1 x2 x3
noncomputable def abacusref02_holds.f (n : Nat) (l0 : List Int) (a1 : Int) (l2 : List Int) : Option (Bool) := abacusref02_holds.b0 (abacusref02_holds.l53 n n) l0 a1 l2
noncomputable def abacusref02_holds.sg : Sig (Bool) := s1 (sBool)
noncomputable def abacusref02_holds.code : Code := (Tryd.f177.body).getD .skip
noncomputable def abacusref02_holds.cfg : Cfg (Bool) := { T := tys, call := noCall }
noncomputable def abacusref02_holds.cuts : List (Nat × List (Nat × Want)) := [(53, [(0, .keep), (1, .keep), (2, .keep), (7, .keep)])]
noncomputable def abacusref02_holds.s53 (x0 : List Int) (x1 : Int) (x2 : List Int) (x3 : Int) : ASt := ⟨[(0, .ro .u64 x0), (1, .int .i64 x1), (2, .ro .u64 x2), (7, .int .i64 x3)], []⟩
noncomputable def abacusref02_holds.A (n : Nat) (J : Nat → (ASt → Option (Bool)) → ASt → Option (Bool)) (q : Nat) (ms : List Nat) : ASt → Option (Bool) := acont (abacusref02_holds.cfg) J abacusref02_holds.cuts n q abacusref02_holds.code 1 ms (aend (abacusref02_holds.cfg) Tryd.f177.results.toList [false] abacusref02_holds.sg.out)
theorem abacusref02_holds.e0 (n : Nat) (J : Nat → (ASt → Option (Bool)) → ASt → Option (Bool)) (l0 : List Int) (a1 : Int) (l2 : List Int) : afun (abacusref02_holds.cfg) J abacusref02_holds.cuts n abacusref02_holds.code Tryd.f177.results.toList [false] [.ro .u64 l0, .int .i64 a1, .ro .u64 l2] abacusref02_holds.sg.out = abacusref02_holds.b0 (fun y0 y1 y2 y3 => J 53 (abacusref02_holds.A n J 53 [n]) (abacusref02_holds.s53 y0 y1 y2 y3)) l0 a1 l2 := by kernel_rfl
theorem abacusref02_holds.e53 (n : Nat) (J : Nat → (ASt → Option (Bool)) → ASt → Option (Bool)) (m : Nat) (x0 : List Int) (x1 : Int) (x2 : List Int) (x3 : Int) : abacusref02_holds.A n J 53 [m + 1] (abacusref02_holds.s53 x0 x1 x2 x3) = abacusref02_holds.b53 (fun y0 y1 y2 y3 => J 53 (abacusref02_holds.A n J 53 [m]) (abacusref02_holds.s53 y0 y1 y2 y3)) x0 x1 x2 x3 := by kernel_rfl
theorem abacusref02_holds.q53 (n : Nat) (m : Nat) : ∀ (x0 : List Int) (x1 : Int) (x2 : List Int) (x3 : Int), abacusref02_holds.A n idJ 53 [m] (abacusref02_holds.s53 x0 x1 x2 x3) = abacusref02_holds.l53 n m x0 x1 x2 x3 := by
  induction m with
  | zero => intros; rfl
  | succ m ih =>
    intro x0 x1 x2 x3
    refine (abacusref02_holds.e53 n idJ m x0 x1 x2 x3).trans ?_
    exact congrFun (congrFun (congrFun (congrFun (congrArg abacusref02_holds.b53 (funext fun y0 => (funext fun y1 => (funext fun y2 => (funext fun y3 => ih y0 y1 y2 y3))))) x0) x1) x2) x3
theorem abacusref02_holds.eq (n : Nat) (l0 : List Int) (a1 : Int) (l2 : List Int) : afun (abacusref02_holds.cfg) idJ abacusref02_holds.cuts n abacusref02_holds.code Tryd.f177.results.toList [false] [.ro .u64 l0, .int .i64 a1, .ro .u64 l2] abacusref02_holds.sg.out = abacusref02_holds.f n l0 a1 l2 := (abacusref02_holds.e0 n idJ l0 a1 l2).trans (congrFun (congrFun (congrFun (congrArg abacusref02_holds.b0 (funext fun y0 => (funext fun y1 => (funext fun y2 => (funext fun y3 => abacusref02_holds.q53 n n y0 y1 y2 y3))))) l0) a1) l2)
theorem abacusref02_holds.ok {n : Nat} {l0 : List Int} {a1 : Int} {l2 : List Int} {r : Bool} (h : abacusref02_holds.f n l0 a1 l2 = some r) : CallD Tryd.prog HW 177 [.ro .u64 l0, .int .i64 a1, .ro .u64 l2] (abacusref02_holds.sg.enc r) :=
  fun_some hwS Tryd.func177 (by kernel_rfl) (body := abacusref02_holds.code) (by kernel_rfl) tys_ok (c := abacusref02_holds.cfg) noCall_ok noW_ok (by kernel_rfl) (by kernel_rfl) (Nat.le_of_ble_eq_true (by kernel_rfl)) ((abacusref02_holds.eq n l0 a1 l2).trans h)
noncomputable def abacusref02_holds.call {α : Type} (g : List Int → Int → List Int → Option (Bool)) (ds : List D) (K : List D → Option α) : Option α := match ds with
  | [.ro .u64 l0, .int .i64 a1, .ro .u64 l2] => (g l0 a1 l2).bind fun r => K (abacusref02_holds.sg.enc r)
  | _ => none
theorem abacusref02_holds.call_ok {α : Type} {n : Nat} (ds : List D) (K : List D → Option α) (r : α) (h : abacusref02_holds.call (abacusref02_holds.f n) ds K = some r) : ∃ rs, K rs = some r ∧ CallD Tryd.prog HW 177 ds rs := by
  unfold abacusref02_holds.call at h
  split at h
  · obtain ⟨x, hx, hk⟩ := Option.bind_eq_some_iff.1 h
    exact ⟨_, hk, abacusref02_holds.ok (n := n) hx⟩
  · cases h
/-! ### abacusref02_takeOff: function 152 -/
noncomputable def abacusref02_takeOff.b0 (k29 : Int → List Int → Int → Int → List Int → Option (List Int × Unit)) (l0 : List Int) (a1 : Int) (l2 : List Int) : Option (List Int × Unit) := k29 a1 l2 0 0 l0
noncomputable def abacusref02_takeOff.b29 (k3663 : Int → List Int → Int → Int → Int → List Int → Option (List Int × Unit)) (x0 : Int) (x1 : List Int) (x2 : Int) (x3 : Int) (x4 : List Int) : Option (List Int × Unit) := (if x3 < (ln x1) then (if 0 ≤ (wrap64 (x0 + x3)) then (if (wrap64 (x0 + x3)) < (ln x4) then (if 0 ≤ x3 then (if x3 < (ln x1) then (if (rd x4 (wrap64 (x0 + x3))) < (rd x1 x3) then k3663 x0 x1 1 x3 (IntKind.u64.wrap ((IntKind.u64.wrap ((rd x4 (wrap64 (x0 + x3))) - (rd x1 x3))) - x2)) x4 else (if (rd x4 (wrap64 (x0 + x3))) = (rd x1 x3) then (if x2 = 1 then k3663 x0 x1 1 x3 (IntKind.u64.wrap ((IntKind.u64.wrap ((rd x4 (wrap64 (x0 + x3))) - (rd x1 x3))) - x2)) x4 else k3663 x0 x1 0 x3 (IntKind.u64.wrap ((IntKind.u64.wrap ((rd x4 (wrap64 (x0 + x3))) - (rd x1 x3))) - x2)) x4) else k3663 x0 x1 0 x3 (IntKind.u64.wrap ((IntKind.u64.wrap ((rd x4 (wrap64 (x0 + x3))) - (rd x1 x3))) - x2)) x4)) else none) else none) else none) else none) else some (x4, ()))
noncomputable def abacusref02_takeOff.b3663 (k29 : Int → List Int → Int → Int → List Int → Option (List Int × Unit)) (x0 : Int) (x1 : List Int) (x2 : Int) (x3 : Int) (x4 : Int) (x5 : List Int) : Option (List Int × Unit) := (if 0 ≤ (wrap64 (x0 + x3)) then (if (wrap64 (x0 + x3)) < (ln x5) then k29 x0 x1 x2 (wrap64 (x3 + 1)) (x5.set (wrap64 (x0 + x3) : Int).toNat x4) else none) else none)
noncomputable def abacusref02_takeOff.l3663 (n : Nat) (k29 : Int → List Int → Int → Int → List Int → Option (List Int × Unit)) (x0 : Int) (x1 : List Int) (x2 : Int) (x3 : Int) (x4 : Int) (x5 : List Int) : Option (List Int × Unit) := abacusref02_takeOff.b3663 k29 x0 x1 x2 x3 x4 x5
noncomputable def abacusref02_takeOff.l29 (n : Nat) : Nat → Int → List Int → Int → Int → List Int → Option (List Int × Unit)
  | 0, _, _, _, _, _ => none
  | m + 1, x0, x1, x2, x3, x4 => abacusref02_takeOff.b29 (abacusref02_takeOff.l3663 n (abacusref02_takeOff.l29 n m)) x0 x1 x2 x3 x4
noncomputable def abacusref02_takeOff.f (n : Nat) (l0 : List Int) (a1 : Int) (l2 : List Int) : Option (List Int × Unit) := abacusref02_takeOff.b0 (abacusref02_takeOff.l29 n n) l0 a1 l2
noncomputable def abacusref02_takeOff.sg : Sig (Unit) := s0
noncomputable def abacusref02_takeOff.code : Code := (Tryd.f152.body).getD .skip
noncomputable def abacusref02_takeOff.cfg : Cfg (List Int × Unit) := { T := tys, call := noCall }
noncomputable def abacusref02_takeOff.cuts : List (Nat × List (Nat × Want)) := [(29, [(0, .keep), (1, .keep), (2, .keep), (6, .keep), (7, .keep)]), (3663, [(0, .keep), (1, .keep), (2, .keep), (6, .keep), (7, .keep), (10, .keep)])]
noncomputable def abacusref02_takeOff.s29 (x0 : Int) (x1 : List Int) (x2 : Int) (x3 : Int) (x4 : List Int) : ASt := ⟨[(0, .own 0), (1, .int .i64 x0), (2, .ro .u64 x1), (6, .int .u64 x2), (7, .int .i64 x3)], [.bor .u64 x4]⟩
noncomputable def abacusref02_takeOff.s3663 (x0 : Int) (x1 : List Int) (x2 : Int) (x3 : Int) (x4 : Int) (x5 : List Int) : ASt := ⟨[(0, .own 0), (1, .int .i64 x0), (2, .ro .u64 x1), (6, .int .u64 x2), (7, .int .i64 x3), (10, .int .u64 x4)], [.bor .u64 x5]⟩
noncomputable def abacusref02_takeOff.A (n : Nat) (J : Nat → (ASt → Option (List Int × Unit)) → ASt → Option (List Int × Unit)) (q : Nat) (ms : List Nat) : ASt → Option (List Int × Unit) := acont (abacusref02_takeOff.cfg) J abacusref02_takeOff.cuts n q abacusref02_takeOff.code 1 ms (aendw (abacusref02_takeOff.cfg) Tryd.f152.results.toList (sgw abacusref02_takeOff.sg))
theorem abacusref02_takeOff.e0 (n : Nat) (J : Nat → (ASt → Option (List Int × Unit)) → ASt → Option (List Int × Unit)) (l0 : List Int) (a1 : Int) (l2 : List Int) : afunw (abacusref02_takeOff.cfg) J abacusref02_takeOff.cuts n abacusref02_takeOff.code Tryd.f152.results.toList l0 [.int .i64 a1, .ro .u64 l2] (sgw abacusref02_takeOff.sg) = abacusref02_takeOff.b0 (fun y0 y1 y2 y3 y4 => J 29 (abacusref02_takeOff.A n J 29 [n]) (abacusref02_takeOff.s29 y0 y1 y2 y3 y4)) l0 a1 l2 := by kernel_rfl
theorem abacusref02_takeOff.e29 (n : Nat) (J : Nat → (ASt → Option (List Int × Unit)) → ASt → Option (List Int × Unit)) (m : Nat) (x0 : Int) (x1 : List Int) (x2 : Int) (x3 : Int) (x4 : List Int) : abacusref02_takeOff.A n J 29 [m + 1] (abacusref02_takeOff.s29 x0 x1 x2 x3 x4) = abacusref02_takeOff.b29 (fun y0 y1 y2 y3 y4 y5 => J 3663 (abacusref02_takeOff.A n J 3663 [m]) (abacusref02_takeOff.s3663 y0 y1 y2 y3 y4 y5)) x0 x1 x2 x3 x4 := by kernel_rfl
theorem abacusref02_takeOff.e3663 (n : Nat) (J : Nat → (ASt → Option (List Int × Unit)) → ASt → Option (List Int × Unit)) (m29 : Nat) (x0 : Int) (x1 : List Int) (x2 : Int) (x3 : Int) (x4 : Int) (x5 : List Int) : abacusref02_takeOff.A n J 3663 [m29] (abacusref02_takeOff.s3663 x0 x1 x2 x3 x4 x5) = abacusref02_takeOff.b3663 (fun y0 y1 y2 y3 y4 => J 29 (abacusref02_takeOff.A n J 29 [m29]) (abacusref02_takeOff.s29 y0 y1 y2 y3 y4)) x0 x1 x2 x3 x4 x5 := by kernel_rfl
theorem abacusref02_takeOff.q3663 (n : Nat) (m29 : Nat) (x0 : Int) (x1 : List Int) (x2 : Int) (x3 : Int) (x4 : Int) (x5 : List Int) : abacusref02_takeOff.A n idJ 3663 [m29] (abacusref02_takeOff.s3663 x0 x1 x2 x3 x4 x5) = abacusref02_takeOff.l3663 n (fun y0 y1 y2 y3 y4 => abacusref02_takeOff.A n idJ 29 [m29] (abacusref02_takeOff.s29 y0 y1 y2 y3 y4)) x0 x1 x2 x3 x4 x5 := (abacusref02_takeOff.e3663 n idJ m29 x0 x1 x2 x3 x4 x5).trans (rfl)
theorem abacusref02_takeOff.q29 (n : Nat) (m : Nat) : ∀ (x0 : Int) (x1 : List Int) (x2 : Int) (x3 : Int) (x4 : List Int), abacusref02_takeOff.A n idJ 29 [m] (abacusref02_takeOff.s29 x0 x1 x2 x3 x4) = abacusref02_takeOff.l29 n m x0 x1 x2 x3 x4 := by
  induction m with
  | zero => intros; rfl
  | succ m ih =>
    intro x0 x1 x2 x3 x4
    refine (abacusref02_takeOff.e29 n idJ m x0 x1 x2 x3 x4).trans ?_
    exact congrFun (congrFun (congrFun (congrFun (congrFun (congrArg abacusref02_takeOff.b29 ((funext fun y0 => (funext fun y1 => (funext fun y2 => (funext fun y3 => (funext fun y4 => (funext fun y5 => abacusref02_takeOff.q3663 n m y0 y1 y2 y3 y4 y5)))))).trans (by rw [show (fun y0 y1 y2 y3 y4 => abacusref02_takeOff.A n idJ 29 [m] (abacusref02_takeOff.s29 y0 y1 y2 y3 y4)) = _ from (funext fun y0 => (funext fun y1 => (funext fun y2 => (funext fun y3 => (funext fun y4 => ih y0 y1 y2 y3 y4)))))]))) x0) x1) x2) x3) x4
theorem abacusref02_takeOff.eq (n : Nat) (l0 : List Int) (a1 : Int) (l2 : List Int) : afunw (abacusref02_takeOff.cfg) idJ abacusref02_takeOff.cuts n abacusref02_takeOff.code Tryd.f152.results.toList l0 [.int .i64 a1, .ro .u64 l2] (sgw abacusref02_takeOff.sg) = abacusref02_takeOff.f n l0 a1 l2 := (abacusref02_takeOff.e0 n idJ l0 a1 l2).trans (congrFun (congrFun (congrFun (congrArg abacusref02_takeOff.b0 (funext fun y0 => (funext fun y1 => (funext fun y2 => (funext fun y3 => (funext fun y4 => abacusref02_takeOff.q29 n n y0 y1 y2 y3 y4)))))) l0) a1) l2)
theorem abacusref02_takeOff.ok {n : Nat} {l0 : List Int} {a1 : Int} {l2 : List Int} {r : List Int × Unit} (h : abacusref02_takeOff.f n l0 a1 l2 = some r) : CallW Tryd.prog HW 152 l0 [.int .i64 a1, .ro .u64 l2] r.1 (abacusref02_takeOff.sg.enc r.2) :=
  funw_some Tryd.func152 (by kernel_rfl) (body := abacusref02_takeOff.code) (by kernel_rfl) tys_ok (c := abacusref02_takeOff.cfg) noCall_ok noW_ok (by kernel_rfl) (by kernel_rfl) (Nat.le_of_ble_eq_true (by kernel_rfl)) ((abacusref02_takeOff.eq n l0 a1 l2).trans h)
noncomputable def abacusref02_takeOff.call {α : Type} (g : List Int → Int → List Int → Option (List Int × Unit)) (l0 : List Int) (ds : List D) (K : List Int → List D → Option α) : Option α := match ds with
  | [.int .i64 a1, .ro .u64 l2] => (g l0 a1 l2).bind fun r => K r.1 (abacusref02_takeOff.sg.enc r.2)
  | _ => none
theorem abacusref02_takeOff.call_ok {α : Type} {n : Nat} (l : List Int) (ds : List D) (K : List Int → List D → Option α) (r : α) (h : abacusref02_takeOff.call (abacusref02_takeOff.f n) l ds K = some r) : ∃ l' rs, K l' rs = some r ∧ CallW Tryd.prog HW 152 l ds l' rs := by
  unfold abacusref02_takeOff.call at h
  split at h
  · obtain ⟨x, hx, hk⟩ := Option.bind_eq_some_iff.1 h
    exact ⟨_, _, hk, abacusref02_takeOff.ok (n := n) hx⟩
  · cases h
/-! ### abacusref02_Divide: function 172 -/
noncomputable def abacusref02_Divide.b0 (c149 : List Int → Option (List Int)) (c150 : List Int → Int → Option (List Int)) (c151 : List Int → List Int → Option (Int)) (c152 : List Int → Int → List Int → Option (List Int × Unit)) (c177 : List Int → Int → List Int → Option (Bool)) (k2037 : List Int → List Int → Int → List Int → List Int → List (List Int) → Option (List Int × List Int)) (l0 : List Int) (l1 : List Int) : Option (List Int × List Int) := ((c149 l0).bind fun t1 => ((c149 l1).bind fun t2 => ((c151 t1 t2).bind fun t3 => (if t3 < 0 then some (([] : List Int), t1) else ((c149 l1).bind fun t4 => (if t4.length + 1 ≤ 17592186044416 then k2037 l0 (t4 ++ [0]) 0 t1 t2 ([] : List (List Int)) else none))))))
noncomputable def abacusref02_Divide.b255 (c149 : List Int → Option (List Int)) (c150 : List Int → Int → Option (List Int)) (c151 : List Int → List Int → Option (Int)) (c152 : List Int → Int → List Int → Option (List Int × Unit)) (c177 : List Int → Int → List Int → Option (Bool)) (k16373 : Int → List (List Int) → List Int → List Int → Option (List Int × List Int)) (x0 : List Int) (x1 : List Int) (x2 : List Int) (x3 : List (List Int)) : Option (List Int × List Int) := ((c149 x0).bind fun t1 => (if t1.length + 1 ≤ 17592186044416 then (if 0 ≤ (wrap64 ((wrap64 ((ln x1) - (ln x2))) + 1)) then (if (wrap64 ((wrap64 ((ln x1) - (ln x2))) + 1)).toNat ≤ 35184372088832 then k16373 (wrap64 ((ln x1) - (ln x2))) x3 (t1 ++ [0]) (List.replicate (wrap64 ((wrap64 ((ln x1) - (ln x2))) + 1)).toNat (0 : Int)) else none) else none) else none))
noncomputable def abacusref02_Divide.b2037 (c149 : List Int → Option (List Int)) (c150 : List Int → Int → Option (List Int)) (c151 : List Int → List Int → Option (Int)) (c152 : List Int → Int → List Int → Option (List Int × Unit)) (c177 : List Int → Int → List Int → Option (Bool)) (k255 : List Int → List Int → List Int → List (List Int) → Option (List Int × List Int)) (k2037 : List Int → List Int → Int → List Int → List Int → List (List Int) → Option (List Int × List Int)) (x0 : List Int) (x1 : List Int) (x2 : Int) (x3 : List Int) (x4 : List Int) (x5 : List (List Int)) : Option (List Int × List Int) := (if x2 < 64 then (if x5.length + [x1].length ≤ 5864062014805 then ((c150 x1 0).bind fun t1 => (if 0 ≤ (wrap64 ((ln x4) + 1)) then (if (wrap64 ((ln x4) + 1)) ≤ (ln t1) then ((some (t1.take (wrap64 ((ln x4) + 1)).toNat) : Option (List Int)).bind fun y2 => k2037 x0 y2 (wrap64 (x2 + 1)) x3 x4 (x5 ++ [x1])) else none) else none)) else none) else k255 x0 x3 x4 x5)
noncomputable def abacusref02_Divide.b2047 (c149 : List Int → Option (List Int)) (c150 : List Int → Int → Option (List Int)) (c151 : List Int → List Int → Option (Int)) (c152 : List Int → Int → List Int → Option (List Int × Unit)) (c177 : List Int → Int → List Int → Option (Bool)) (x0 : List Int) (x1 : List Int) : Option (List Int × List Int) := ((c149 x1).bind fun t1 => ((c149 x0).bind fun t2 => some (t1, t2)))
noncomputable def abacusref02_Divide.b16373 (c149 : List Int → Option (List Int)) (c150 : List Int → Int → Option (List Int)) (c151 : List Int → List Int → Option (Int)) (c152 : List Int → Int → List Int → Option (List Int × Unit)) (c177 : List Int → Int → List Int → Option (Bool)) (k2047 : List Int → List Int → Option (List Int × List Int)) (k1047845 : Int → Int → List (List Int) → List Int → List Int → Option (List Int × List Int)) (x0 : Int) (x1 : List (List Int)) (x2 : List Int) (x3 : List Int) : Option (List Int × List Int) := (if x0 ≥ 0 then k1047845 x0 63 x1 x2 x3 else k2047 x2 x3)
noncomputable def abacusref02_Divide.b1047845 (c149 : List Int → Option (List Int)) (c150 : List Int → Int → Option (List Int)) (c151 : List Int → List Int → Option (Int)) (c152 : List Int → Int → List Int → Option (List Int × Unit)) (c177 : List Int → Int → List Int → Option (Bool)) (k16373 : Int → List (List Int) → List Int → List Int → Option (List Int × List Int)) (k1047845 : Int → Int → List (List Int) → List Int → List Int → Option (List Int × List Int)) (x0 : Int) (x1 : Int) (x2 : List (List Int)) (x3 : List Int) (x4 : List Int) : Option (List Int × List Int) := (if x1 ≥ 0 then (if 0 ≤ x1 then (if x1 < lnr x2 then ((c177 x3 x0 (rdr x2 x1)).bind fun t1 => (if t1 = true then (if 0 ≤ x1 then (if x1 < lnr x2 then (if 0 < (ln x3) then ((c152 x3 x0 (rdr x2 x1)).bind fun t2 => (if 0 ≤ x0 then (if x0 < (ln x4) then (if 0 ≤ (IntKind.u64.wrap x1) then (if 0 ≤ x0 then (if x0 < (ln x4) then k1047845 x0 (wrap64 (x1 - 1)) x2 t2.1 (x4.set (x0 : Int).toNat (Go.bits .or .u64 (rd x4 x0) (shl .u64 1 (IntKind.u64.wrap x1)))) else none) else none) else none) else none) else none)) else none) else none) else none) else k1047845 x0 (wrap64 (x1 - 1)) x2 x3 x4)) else none) else none) else k16373 (wrap64 (x0 - 1)) x2 x3 x4)
noncomputable def abacusref02_Divide.l2047 (n : Nat) (x0 : List Int) (x1 : List Int) : Option (List Int × List Int) := abacusref02_Divide.b2047 (abacusref02_Short.f n) (abacusref02_doubled.f n) (abacusref02_Order.f n) (abacusref02_takeOff.f n) (abacusref02_holds.f n) x0 x1
noncomputable def abacusref02_Divide.l1047845 (n : Nat) (k16373 : Int → List (List Int) → List Int → List Int → Option (List Int × List Int)) : Nat → Int → Int → List (List Int) → List Int → List Int → Option (List Int × List Int)
  | 0, _, _, _, _, _ => none
  | m + 1, x0, x1, x2, x3, x4 => abacusref02_Divide.b1047845 (abacusref02_Short.f n) (abacusref02_doubled.f n) (abacusref02_Order.f n) (abacusref02_takeOff.f n) (abacusref02_holds.f n) k16373 (abacusref02_Divide.l1047845 n k16373 m) x0 x1 x2 x3 x4
noncomputable def abacusref02_Divide.l16373 (n : Nat) : Nat → Int → List (List Int) → List Int → List Int → Option (List Int × List Int)
  | 0, _, _, _, _ => none
  | m + 1, x0, x1, x2, x3 => abacusref02_Divide.b16373 (abacusref02_Short.f n) (abacusref02_doubled.f n) (abacusref02_Order.f n) (abacusref02_takeOff.f n) (abacusref02_holds.f n) (abacusref02_Divide.l2047 n) (abacusref02_Divide.l1047845 n (abacusref02_Divide.l16373 n m) n) x0 x1 x2 x3
noncomputable def abacusref02_Divide.l255 (n : Nat) (x0 : List Int) (x1 : List Int) (x2 : List Int) (x3 : List (List Int)) : Option (List Int × List Int) := abacusref02_Divide.b255 (abacusref02_Short.f n) (abacusref02_doubled.f n) (abacusref02_Order.f n) (abacusref02_takeOff.f n) (abacusref02_holds.f n) (abacusref02_Divide.l16373 n n) x0 x1 x2 x3
noncomputable def abacusref02_Divide.l2037 (n : Nat) : Nat → List Int → List Int → Int → List Int → List Int → List (List Int) → Option (List Int × List Int)
  | 0, _, _, _, _, _, _ => none
  | m + 1, x0, x1, x2, x3, x4, x5 => abacusref02_Divide.b2037 (abacusref02_Short.f n) (abacusref02_doubled.f n) (abacusref02_Order.f n) (abacusref02_takeOff.f n) (abacusref02_holds.f n) (abacusref02_Divide.l255 n) (abacusref02_Divide.l2037 n m) x0 x1 x2 x3 x4 x5
noncomputable def abacusref02_Divide.f (n : Nat) (l0 : List Int) (l1 : List Int) : Option (List Int × List Int) := abacusref02_Divide.b0 (abacusref02_Short.f n) (abacusref02_doubled.f n) (abacusref02_Order.f n) (abacusref02_takeOff.f n) (abacusref02_holds.f n) (abacusref02_Divide.l2037 n n) l0 l1
noncomputable def abacusref02_Divide.sg : Sig (List Int × List Int) := s2 (sRow .u64) (s1 (sRow .u64))
noncomputable def abacusref02_Divide.code : Code := (Tryd.f172.body).getD .skip
noncomputable def abacusref02_Divide.cfg (c149 : List Int → Option (List Int)) (c150 : List Int → Int → Option (List Int)) (c151 : List Int → List Int → Option (Int)) (c152 : List Int → Int → List Int → Option (List Int × Unit)) (c177 : List Int → Int → List Int → Option (Bool)) : Cfg (List Int × List Int) := { T := tys, call := orCall 149 (abacusref02_Short.call c149) (orCall 150 (abacusref02_doubled.call c150) (orCall 151 (abacusref02_Order.call c151) (orCall 177 (abacusref02_holds.call c177) (noCall)))), wr := [152], callw := orW 152 (abacusref02_takeOff.call c152) (noW) }
noncomputable def abacusref02_Divide.cuts : List (Nat × List (Nat × Want)) := [(255, [(0, .keep), (6, .keep), (7, .keep), (8, .keep)]), (2037, [(0, .keep), (6, .keep), (7, .keep), (8, .rws 34 .u64), (9, .cast), (10, .keep)]), (2047, [(11, .keep), (12, .keep)]), (16373, [(8, .keep), (11, .keep), (12, .keep), (13, .keep)]), (1047845, [(8, .keep), (11, .keep), (12, .keep), (13, .keep), (14, .keep)])]
noncomputable def abacusref02_Divide.s255 (x0 : List Int) (x1 : List Int) (x2 : List Int) (x3 : List (List Int)) : ASt := ⟨[(0, .ro .u64 x0), (6, .own 0), (7, .own 1), (8, .own 2)], [.ints 22 .u64 x1, .ints 22 .u64 x2, .rws 34 .u64 x3]⟩
noncomputable def abacusref02_Divide.s2037 (x0 : List Int) (x1 : List Int) (x2 : Int) (x3 : List Int) (x4 : List Int) (x5 : List (List Int)) : ASt := ⟨[(0, .ro .u64 x0), (6, .own 0), (7, .own 1), (8, .own 2), (9, .ro .u64 x1), (10, .int .i64 x2)], [.ints 22 .u64 x3, .ints 22 .u64 x4, .rws 34 .u64 x5]⟩
noncomputable def abacusref02_Divide.s2047 (x0 : List Int) (x1 : List Int) : ASt := ⟨[(11, .own 0), (12, .own 1)], [.ints 22 .u64 x0, .ints 22 .u64 x1]⟩
noncomputable def abacusref02_Divide.s16373 (x0 : Int) (x1 : List (List Int)) (x2 : List Int) (x3 : List Int) : ASt := ⟨[(8, .own 0), (11, .own 1), (12, .own 2), (13, .int .i64 x0)], [.rws 34 .u64 x1, .ints 22 .u64 x2, .ints 22 .u64 x3]⟩
noncomputable def abacusref02_Divide.s1047845 (x0 : Int) (x1 : Int) (x2 : List (List Int)) (x3 : List Int) (x4 : List Int) : ASt := ⟨[(8, .own 0), (11, .own 1), (12, .own 2), (13, .int .i64 x0), (14, .int .i64 x1)], [.rws 34 .u64 x2, .ints 22 .u64 x3, .ints 22 .u64 x4]⟩
noncomputable def abacusref02_Divide.A (c149 : List Int → Option (List Int)) (c150 : List Int → Int → Option (List Int)) (c151 : List Int → List Int → Option (Int)) (c152 : List Int → Int → List Int → Option (List Int × Unit)) (c177 : List Int → Int → List Int → Option (Bool)) (n : Nat) (J : Nat → (ASt → Option (List Int × List Int)) → ASt → Option (List Int × List Int)) (q : Nat) (ms : List Nat) : ASt → Option (List Int × List Int) := acont (abacusref02_Divide.cfg c149 c150 c151 c152 c177) J abacusref02_Divide.cuts n q abacusref02_Divide.code 1 ms (aend (abacusref02_Divide.cfg c149 c150 c151 c152 c177) Tryd.f172.results.toList [false, false] abacusref02_Divide.sg.out)
theorem abacusref02_Divide.e0 (c149 : List Int → Option (List Int)) (c150 : List Int → Int → Option (List Int)) (c151 : List Int → List Int → Option (Int)) (c152 : List Int → Int → List Int → Option (List Int × Unit)) (c177 : List Int → Int → List Int → Option (Bool)) (n : Nat) (J : Nat → (ASt → Option (List Int × List Int)) → ASt → Option (List Int × List Int)) (l0 : List Int) (l1 : List Int) : afun (abacusref02_Divide.cfg c149 c150 c151 c152 c177) J abacusref02_Divide.cuts n abacusref02_Divide.code Tryd.f172.results.toList [false, false] [.ro .u64 l0, .ro .u64 l1] abacusref02_Divide.sg.out = abacusref02_Divide.b0 c149 c150 c151 c152 c177 (fun y0 y1 y2 y3 y4 y5 => J 2037 (abacusref02_Divide.A c149 c150 c151 c152 c177 n J 2037 [n]) (abacusref02_Divide.s2037 y0 y1 y2 y3 y4 y5)) l0 l1 := by kernel_rfl
theorem abacusref02_Divide.e255 (c149 : List Int → Option (List Int)) (c150 : List Int → Int → Option (List Int)) (c151 : List Int → List Int → Option (Int)) (c152 : List Int → Int → List Int → Option (List Int × Unit)) (c177 : List Int → Int → List Int → Option (Bool)) (n : Nat) (J : Nat → (ASt → Option (List Int × List Int)) → ASt → Option (List Int × List Int)) (x0 : List Int) (x1 : List Int) (x2 : List Int) (x3 : List (List Int)) : abacusref02_Divide.A c149 c150 c151 c152 c177 n J 255 [] (abacusref02_Divide.s255 x0 x1 x2 x3) = abacusref02_Divide.b255 c149 c150 c151 c152 c177 (fun y0 y1 y2 y3 => J 16373 (abacusref02_Divide.A c149 c150 c151 c152 c177 n J 16373 [n]) (abacusref02_Divide.s16373 y0 y1 y2 y3)) x0 x1 x2 x3 := by kernel_rfl
theorem abacusref02_Divide.e2037 (c149 : List Int → Option (List Int)) (c150 : List Int → Int → Option (List Int)) (c151 : List Int → List Int → Option (Int)) (c152 : List Int → Int → List Int → Option (List Int × Unit)) (c177 : List Int → Int → List Int → Option (Bool)) (n : Nat) (J : Nat → (ASt → Option (List Int × List Int)) → ASt → Option (List Int × List Int)) (m : Nat) (x0 : List Int) (x1 : List Int) (x2 : Int) (x3 : List Int) (x4 : List Int) (x5 : List (List Int)) : abacusref02_Divide.A c149 c150 c151 c152 c177 n J 2037 [m + 1] (abacusref02_Divide.s2037 x0 x1 x2 x3 x4 x5) = abacusref02_Divide.b2037 c149 c150 c151 c152 c177 (fun y0 y1 y2 y3 => J 255 (abacusref02_Divide.A c149 c150 c151 c152 c177 n J 255 []) (abacusref02_Divide.s255 y0 y1 y2 y3)) (fun y0 y1 y2 y3 y4 y5 => J 2037 (abacusref02_Divide.A c149 c150 c151 c152 c177 n J 2037 [m]) (abacusref02_Divide.s2037 y0 y1 y2 y3 y4 y5)) x0 x1 x2 x3 x4 x5 := by kernel_rfl
theorem abacusref02_Divide.e2047 (c149 : List Int → Option (List Int)) (c150 : List Int → Int → Option (List Int)) (c151 : List Int → List Int → Option (Int)) (c152 : List Int → Int → List Int → Option (List Int × Unit)) (c177 : List Int → Int → List Int → Option (Bool)) (n : Nat) (J : Nat → (ASt → Option (List Int × List Int)) → ASt → Option (List Int × List Int)) (x0 : List Int) (x1 : List Int) : abacusref02_Divide.A c149 c150 c151 c152 c177 n J 2047 [] (abacusref02_Divide.s2047 x0 x1) = abacusref02_Divide.b2047 c149 c150 c151 c152 c177 x0 x1 := by kernel_rfl
theorem abacusref02_Divide.e16373 (c149 : List Int → Option (List Int)) (c150 : List Int → Int → Option (List Int)) (c151 : List Int → List Int → Option (Int)) (c152 : List Int → Int → List Int → Option (List Int × Unit)) (c177 : List Int → Int → List Int → Option (Bool)) (n : Nat) (J : Nat → (ASt → Option (List Int × List Int)) → ASt → Option (List Int × List Int)) (m : Nat) (x0 : Int) (x1 : List (List Int)) (x2 : List Int) (x3 : List Int) : abacusref02_Divide.A c149 c150 c151 c152 c177 n J 16373 [m + 1] (abacusref02_Divide.s16373 x0 x1 x2 x3) = abacusref02_Divide.b16373 c149 c150 c151 c152 c177 (fun y0 y1 => J 2047 (abacusref02_Divide.A c149 c150 c151 c152 c177 n J 2047 []) (abacusref02_Divide.s2047 y0 y1)) (fun y0 y1 y2 y3 y4 => J 1047845 (abacusref02_Divide.A c149 c150 c151 c152 c177 n J 1047845 [m, n]) (abacusref02_Divide.s1047845 y0 y1 y2 y3 y4)) x0 x1 x2 x3 := by kernel_rfl
theorem abacusref02_Divide.e1047845 (c149 : List Int → Option (List Int)) (c150 : List Int → Int → Option (List Int)) (c151 : List Int → List Int → Option (Int)) (c152 : List Int → Int → List Int → Option (List Int × Unit)) (c177 : List Int → Int → List Int → Option (Bool)) (n : Nat) (J : Nat → (ASt → Option (List Int × List Int)) → ASt → Option (List Int × List Int)) (m16373 : Nat) (m : Nat) (x0 : Int) (x1 : Int) (x2 : List (List Int)) (x3 : List Int) (x4 : List Int) : abacusref02_Divide.A c149 c150 c151 c152 c177 n J 1047845 [m16373, m + 1] (abacusref02_Divide.s1047845 x0 x1 x2 x3 x4) = abacusref02_Divide.b1047845 c149 c150 c151 c152 c177 (fun y0 y1 y2 y3 => J 16373 (abacusref02_Divide.A c149 c150 c151 c152 c177 n J 16373 [m16373]) (abacusref02_Divide.s16373 y0 y1 y2 y3)) (fun y0 y1 y2 y3 y4 => J 1047845 (abacusref02_Divide.A c149 c150 c151 c152 c177 n J 1047845 [m16373, m]) (abacusref02_Divide.s1047845 y0 y1 y2 y3 y4)) x0 x1 x2 x3 x4 := by kernel_rfl
theorem abacusref02_Divide.q2047 (n : Nat) (x0 : List Int) (x1 : List Int) : abacusref02_Divide.A (abacusref02_Short.f n) (abacusref02_doubled.f n) (abacusref02_Order.f n) (abacusref02_takeOff.f n) (abacusref02_holds.f n) n idJ 2047 [] (abacusref02_Divide.s2047 x0 x1) = abacusref02_Divide.l2047 n x0 x1 := (abacusref02_Divide.e2047 (abacusref02_Short.f n) (abacusref02_doubled.f n) (abacusref02_Order.f n) (abacusref02_takeOff.f n) (abacusref02_holds.f n) n idJ x0 x1).trans (rfl)
theorem abacusref02_Divide.q1047845 (n : Nat) (m16373 : Nat) (m : Nat) : ∀ (x0 : Int) (x1 : Int) (x2 : List (List Int)) (x3 : List Int) (x4 : List Int), abacusref02_Divide.A (abacusref02_Short.f n) (abacusref02_doubled.f n) (abacusref02_Order.f n) (abacusref02_takeOff.f n) (abacusref02_holds.f n) n idJ 1047845 [m16373, m] (abacusref02_Divide.s1047845 x0 x1 x2 x3 x4) = abacusref02_Divide.l1047845 n (fun y0 y1 y2 y3 => abacusref02_Divide.A (abacusref02_Short.f n) (abacusref02_doubled.f n) (abacusref02_Order.f n) (abacusref02_takeOff.f n) (abacusref02_holds.f n) n idJ 16373 [m16373] (abacusref02_Divide.s16373 y0 y1 y2 y3)) m x0 x1 x2 x3 x4 := by
  induction m with
  | zero => intros; rfl
  | succ m ih =>
    intro x0 x1 x2 x3 x4
    refine (abacusref02_Divide.e1047845 (abacusref02_Short.f n) (abacusref02_doubled.f n) (abacusref02_Order.f n) (abacusref02_takeOff.f n) (abacusref02_holds.f n) n idJ m16373 m x0 x1 x2 x3 x4).trans ?_
    exact congrFun (congrFun (congrFun (congrFun (congrFun (congr (congrArg (abacusref02_Divide.b1047845 (abacusref02_Short.f n) (abacusref02_doubled.f n) (abacusref02_Order.f n) (abacusref02_takeOff.f n) (abacusref02_holds.f n)) rfl) (funext fun y0 => (funext fun y1 => (funext fun y2 => (funext fun y3 => (funext fun y4 => ih y0 y1 y2 y3 y4)))))) x0) x1) x2) x3) x4
theorem abacusref02_Divide.q16373 (n : Nat) (m : Nat) : ∀ (x0 : Int) (x1 : List (List Int)) (x2 : List Int) (x3 : List Int), abacusref02_Divide.A (abacusref02_Short.f n) (abacusref02_doubled.f n) (abacusref02_Order.f n) (abacusref02_takeOff.f n) (abacusref02_holds.f n) n idJ 16373 [m] (abacusref02_Divide.s16373 x0 x1 x2 x3) = abacusref02_Divide.l16373 n m x0 x1 x2 x3 := by
  induction m with
  | zero => intros; rfl
  | succ m ih =>
    intro x0 x1 x2 x3
    refine (abacusref02_Divide.e16373 (abacusref02_Short.f n) (abacusref02_doubled.f n) (abacusref02_Order.f n) (abacusref02_takeOff.f n) (abacusref02_holds.f n) n idJ m x0 x1 x2 x3).trans ?_
    exact congrFun (congrFun (congrFun (congrFun (congr (congrArg (abacusref02_Divide.b16373 (abacusref02_Short.f n) (abacusref02_doubled.f n) (abacusref02_Order.f n) (abacusref02_takeOff.f n) (abacusref02_holds.f n)) (funext fun y0 => (funext fun y1 => abacusref02_Divide.q2047 n y0 y1))) ((funext fun y0 => (funext fun y1 => (funext fun y2 => (funext fun y3 => (funext fun y4 => abacusref02_Divide.q1047845 n m n y0 y1 y2 y3 y4))))).trans (by rw [show (fun y0 y1 y2 y3 => abacusref02_Divide.A (abacusref02_Short.f n) (abacusref02_doubled.f n) (abacusref02_Order.f n) (abacusref02_takeOff.f n) (abacusref02_holds.f n) n idJ 16373 [m] (abacusref02_Divide.s16373 y0 y1 y2 y3)) = _ from (funext fun y0 => (funext fun y1 => (funext fun y2 => (funext fun y3 => ih y0 y1 y2 y3))))]))) x0) x1) x2) x3
theorem abacusref02_Divide.q255 (n : Nat) (x0 : List Int) (x1 : List Int) (x2 : List Int) (x3 : List (List Int)) : abacusref02_Divide.A (abacusref02_Short.f n) (abacusref02_doubled.f n) (abacusref02_Order.f n) (abacusref02_takeOff.f n) (abacusref02_holds.f n) n idJ 255 [] (abacusref02_Divide.s255 x0 x1 x2 x3) = abacusref02_Divide.l255 n x0 x1 x2 x3 := (abacusref02_Divide.e255 (abacusref02_Short.f n) (abacusref02_doubled.f n) (abacusref02_Order.f n) (abacusref02_takeOff.f n) (abacusref02_holds.f n) n idJ x0 x1 x2 x3).trans (congrFun (congrFun (congrFun (congrFun (congrArg (abacusref02_Divide.b255 (abacusref02_Short.f n) (abacusref02_doubled.f n) (abacusref02_Order.f n) (abacusref02_takeOff.f n) (abacusref02_holds.f n)) (funext fun y0 => (funext fun y1 => (funext fun y2 => (funext fun y3 => abacusref02_Divide.q16373 n n y0 y1 y2 y3))))) x0) x1) x2) x3)
theorem abacusref02_Divide.q2037 (n : Nat) (m : Nat) : ∀ (x0 : List Int) (x1 : List Int) (x2 : Int) (x3 : List Int) (x4 : List Int) (x5 : List (List Int)), abacusref02_Divide.A (abacusref02_Short.f n) (abacusref02_doubled.f n) (abacusref02_Order.f n) (abacusref02_takeOff.f n) (abacusref02_holds.f n) n idJ 2037 [m] (abacusref02_Divide.s2037 x0 x1 x2 x3 x4 x5) = abacusref02_Divide.l2037 n m x0 x1 x2 x3 x4 x5 := by
  induction m with
  | zero => intros; rfl
  | succ m ih =>
    intro x0 x1 x2 x3 x4 x5
    refine (abacusref02_Divide.e2037 (abacusref02_Short.f n) (abacusref02_doubled.f n) (abacusref02_Order.f n) (abacusref02_takeOff.f n) (abacusref02_holds.f n) n idJ m x0 x1 x2 x3 x4 x5).trans ?_
    exact congrFun (congrFun (congrFun (congrFun (congrFun (congrFun (congr (congrArg (abacusref02_Divide.b2037 (abacusref02_Short.f n) (abacusref02_doubled.f n) (abacusref02_Order.f n) (abacusref02_takeOff.f n) (abacusref02_holds.f n)) (funext fun y0 => (funext fun y1 => (funext fun y2 => (funext fun y3 => abacusref02_Divide.q255 n y0 y1 y2 y3))))) (funext fun y0 => (funext fun y1 => (funext fun y2 => (funext fun y3 => (funext fun y4 => (funext fun y5 => ih y0 y1 y2 y3 y4 y5))))))) x0) x1) x2) x3) x4) x5
theorem abacusref02_Divide.eq (n : Nat) (l0 : List Int) (l1 : List Int) : afun (abacusref02_Divide.cfg (abacusref02_Short.f n) (abacusref02_doubled.f n) (abacusref02_Order.f n) (abacusref02_takeOff.f n) (abacusref02_holds.f n)) idJ abacusref02_Divide.cuts n abacusref02_Divide.code Tryd.f172.results.toList [false, false] [.ro .u64 l0, .ro .u64 l1] abacusref02_Divide.sg.out = abacusref02_Divide.f n l0 l1 := (abacusref02_Divide.e0 (abacusref02_Short.f n) (abacusref02_doubled.f n) (abacusref02_Order.f n) (abacusref02_takeOff.f n) (abacusref02_holds.f n) n idJ l0 l1).trans (congrFun (congrFun (congrArg (abacusref02_Divide.b0 (abacusref02_Short.f n) (abacusref02_doubled.f n) (abacusref02_Order.f n) (abacusref02_takeOff.f n) (abacusref02_holds.f n)) (funext fun y0 => (funext fun y1 => (funext fun y2 => (funext fun y3 => (funext fun y4 => (funext fun y5 => abacusref02_Divide.q2037 n n y0 y1 y2 y3 y4 y5))))))) l0) l1)
theorem abacusref02_Divide.ok {n : Nat} {l0 : List Int} {l1 : List Int} {r : List Int × List Int} (h : abacusref02_Divide.f n l0 l1 = some r) : CallD Tryd.prog HW 172 [.ro .u64 l0, .ro .u64 l1] (abacusref02_Divide.sg.enc r) :=
  fun_some hwS Tryd.func172 (by kernel_rfl) (body := abacusref02_Divide.code) (by kernel_rfl) tys_ok (c := abacusref02_Divide.cfg (abacusref02_Short.f n) (abacusref02_doubled.f n) (abacusref02_Order.f n) (abacusref02_takeOff.f n) (abacusref02_holds.f n)) (orCall_ok (abacusref02_Short.call_ok (n := n)) (orCall_ok (abacusref02_doubled.call_ok (n := n)) (orCall_ok (abacusref02_Order.call_ok (n := n)) (orCall_ok (abacusref02_holds.call_ok (n := n)) noCall_ok)))) (orW_ok (abacusref02_takeOff.call_ok (n := n)) noW_ok) (by kernel_rfl) (by kernel_rfl) (Nat.le_of_ble_eq_true (by kernel_rfl)) ((abacusref02_Divide.eq n l0 l1).trans h)
noncomputable def abacusref02_Divide.call {α : Type} (g : List Int → List Int → Option (List Int × List Int)) (ds : List D) (K : List D → Option α) : Option α := match ds with
  | [.ro .u64 l0, .ro .u64 l1] => (g l0 l1).bind fun r => K (abacusref02_Divide.sg.enc r)
  | _ => none
theorem abacusref02_Divide.call_ok {α : Type} {n : Nat} (ds : List D) (K : List D → Option α) (r : α) (h : abacusref02_Divide.call (abacusref02_Divide.f n) ds K = some r) : ∃ rs, K rs = some r ∧ CallD Tryd.prog HW 172 ds rs := by
  unfold abacusref02_Divide.call at h
  split at h
  · obtain ⟨x, hx, hk⟩ := Option.bind_eq_some_iff.1 h
    exact ⟨_, hk, abacusref02_Divide.ok (n := n) hx⟩
  · cases h
/-! ### abacusref02_DivMod: function 129 -/
noncomputable def abacusref02_DivMod.b0 (c148 : List Int → Option (Int)) (c172 : List Int → List Int → Option (List Int × List Int)) (l0 : List Int) (l1 : List Int) : Option (List Int × List Int × Int) := ((c148 l0).bind fun t1 => (if t1 > 4096 then some (([] : List Int), ([] : List Int), 2) else ((c148 l1).bind fun t2 => (if t2 > 4096 then some (([] : List Int), ([] : List Int), 2) else ((c148 l1).bind fun t3 => (if t3 = 0 then some (([] : List Int), ([] : List Int), 4) else ((c172 l0 l1).bind fun t4 => some (t4.1, t4.2, 0))))))))
noncomputable def abacusref02_DivMod.f (n : Nat) (l0 : List Int) (l1 : List Int) : Option (List Int × List Int × Int) := abacusref02_DivMod.b0 (abacusref02_Top.f n) (abacusref02_Divide.f n) l0 l1
noncomputable def abacusref02_DivMod.sg : Sig (List Int × List Int × Int) := s2 (sRow .u64) (s2 (sRow .u64) (s1 (sInt .i64)))
noncomputable def abacusref02_DivMod.code : Code := (Tryd.f129.body).getD .skip
noncomputable def abacusref02_DivMod.cfg (c148 : List Int → Option (Int)) (c172 : List Int → List Int → Option (List Int × List Int)) : Cfg (List Int × List Int × Int) := { T := tys, call := orCall 148 (abacusref02_Top.call c148) (orCall 172 (abacusref02_Divide.call c172) (noCall)) }
noncomputable def abacusref02_DivMod.cuts : List (Nat × List (Nat × Want)) := []
theorem abacusref02_DivMod.e0 (c148 : List Int → Option (Int)) (c172 : List Int → List Int → Option (List Int × List Int)) (n : Nat) (J : Nat → (ASt → Option (List Int × List Int × Int)) → ASt → Option (List Int × List Int × Int)) (l0 : List Int) (l1 : List Int) : afun (abacusref02_DivMod.cfg c148 c172) J abacusref02_DivMod.cuts n abacusref02_DivMod.code Tryd.f129.results.toList [false, false, false] [.ro .u64 l0, .ro .u64 l1] abacusref02_DivMod.sg.out = abacusref02_DivMod.b0 c148 c172 l0 l1 := by kernel_rfl
theorem abacusref02_DivMod.eq (n : Nat) (l0 : List Int) (l1 : List Int) : afun (abacusref02_DivMod.cfg (abacusref02_Top.f n) (abacusref02_Divide.f n)) idJ abacusref02_DivMod.cuts n abacusref02_DivMod.code Tryd.f129.results.toList [false, false, false] [.ro .u64 l0, .ro .u64 l1] abacusref02_DivMod.sg.out = abacusref02_DivMod.f n l0 l1 := (abacusref02_DivMod.e0 (abacusref02_Top.f n) (abacusref02_Divide.f n) n idJ l0 l1).trans (rfl)
theorem abacusref02_DivMod.ok {n : Nat} {l0 : List Int} {l1 : List Int} {r : List Int × List Int × Int} (h : abacusref02_DivMod.f n l0 l1 = some r) : CallD Tryd.prog HW 129 [.ro .u64 l0, .ro .u64 l1] (abacusref02_DivMod.sg.enc r) :=
  fun_some hwS Tryd.func129 (by kernel_rfl) (body := abacusref02_DivMod.code) (by kernel_rfl) tys_ok (c := abacusref02_DivMod.cfg (abacusref02_Top.f n) (abacusref02_Divide.f n)) (orCall_ok (abacusref02_Top.call_ok (n := n)) (orCall_ok (abacusref02_Divide.call_ok (n := n)) noCall_ok)) noW_ok (by kernel_rfl) (by kernel_rfl) (Nat.le_of_ble_eq_true (by kernel_rfl)) ((abacusref02_DivMod.eq n l0 l1).trans h)
noncomputable def abacusref02_DivMod.call {α : Type} (g : List Int → List Int → Option (List Int × List Int × Int)) (ds : List D) (K : List D → Option α) : Option α := match ds with
  | [.ro .u64 l0, .ro .u64 l1] => (g l0 l1).bind fun r => K (abacusref02_DivMod.sg.enc r)
  | _ => none
theorem abacusref02_DivMod.call_ok {α : Type} {n : Nat} (ds : List D) (K : List D → Option α) (r : α) (h : abacusref02_DivMod.call (abacusref02_DivMod.f n) ds K = some r) : ∃ rs, K rs = some r ∧ CallD Tryd.prog HW 129 ds rs := by
  unfold abacusref02_DivMod.call at h
  split at h
  · obtain ⟨x, hx, hk⟩ := Option.bind_eq_some_iff.1 h
    exact ⟨_, hk, abacusref02_DivMod.ok (n := n) hx⟩
  · cases h
/-! ### nat_size: function 133 -/
noncomputable def nat_size.b0 (k57 : List Int → Int → Option (Int)) (l0 : List Int) : Option (Int) := k57 l0 (ln l0)
noncomputable def nat_size.b57 (k57 : List Int → Int → Option (Int)) (x0 : List Int) (x1 : Int) : Option (Int) := (if x1 > 0 then (if 0 ≤ (wrap64 (x1 - 1)) then (if (wrap64 (x1 - 1)) < (ln x0) then (if (rd x0 (wrap64 (x1 - 1))) = 0 then k57 x0 (wrap64 (x1 - 1)) else some x1) else none) else none) else some x1)
noncomputable def nat_size.l57 (n : Nat) : Nat → List Int → Int → Option (Int)
  | 0, _, _ => none
  | m + 1, x0, x1 => nat_size.b57 (nat_size.l57 n m) x0 x1
noncomputable def nat_size.f (n : Nat) (l0 : List Int) : Option (Int) := nat_size.b0 (nat_size.l57 n n) l0
noncomputable def nat_size.sg : Sig (Int) := s1 (sInt .i64)
noncomputable def nat_size.code : Code := (Tryd.f133.body).getD .skip
noncomputable def nat_size.cfg : Cfg (Int) := { T := tys, call := noCall }
noncomputable def nat_size.cuts : List (Nat × List (Nat × Want)) := [(57, [(0, .keep), (3, .keep)])]
noncomputable def nat_size.s57 (x0 : List Int) (x1 : Int) : ASt := ⟨[(0, .ro .u64 x0), (3, .int .i64 x1)], []⟩
noncomputable def nat_size.A (n : Nat) (J : Nat → (ASt → Option (Int)) → ASt → Option (Int)) (q : Nat) (ms : List Nat) : ASt → Option (Int) := acont (nat_size.cfg) J nat_size.cuts n q nat_size.code 1 ms (aend (nat_size.cfg) Tryd.f133.results.toList [false] nat_size.sg.out)
theorem nat_size.e0 (n : Nat) (J : Nat → (ASt → Option (Int)) → ASt → Option (Int)) (l0 : List Int) : afun (nat_size.cfg) J nat_size.cuts n nat_size.code Tryd.f133.results.toList [false] [.ro .u64 l0] nat_size.sg.out = nat_size.b0 (fun y0 y1 => J 57 (nat_size.A n J 57 [n]) (nat_size.s57 y0 y1)) l0 := by kernel_rfl
theorem nat_size.e57 (n : Nat) (J : Nat → (ASt → Option (Int)) → ASt → Option (Int)) (m : Nat) (x0 : List Int) (x1 : Int) : nat_size.A n J 57 [m + 1] (nat_size.s57 x0 x1) = nat_size.b57 (fun y0 y1 => J 57 (nat_size.A n J 57 [m]) (nat_size.s57 y0 y1)) x0 x1 := by kernel_rfl
theorem nat_size.q57 (n : Nat) (m : Nat) : ∀ (x0 : List Int) (x1 : Int), nat_size.A n idJ 57 [m] (nat_size.s57 x0 x1) = nat_size.l57 n m x0 x1 := by
  induction m with
  | zero => intros; rfl
  | succ m ih =>
    intro x0 x1
    refine (nat_size.e57 n idJ m x0 x1).trans ?_
    exact congrFun (congrFun (congrArg nat_size.b57 (funext fun y0 => (funext fun y1 => ih y0 y1))) x0) x1
theorem nat_size.eq (n : Nat) (l0 : List Int) : afun (nat_size.cfg) idJ nat_size.cuts n nat_size.code Tryd.f133.results.toList [false] [.ro .u64 l0] nat_size.sg.out = nat_size.f n l0 := (nat_size.e0 n idJ l0).trans (congrFun (congrArg nat_size.b0 (funext fun y0 => (funext fun y1 => nat_size.q57 n n y0 y1))) l0)
theorem nat_size.ok {n : Nat} {l0 : List Int} {r : Int} (h : nat_size.f n l0 = some r) : CallD Tryd.prog HW 133 [.ro .u64 l0] (nat_size.sg.enc r) :=
  fun_some hwS Tryd.func133 (by kernel_rfl) (body := nat_size.code) (by kernel_rfl) tys_ok (c := nat_size.cfg) noCall_ok noW_ok (by kernel_rfl) (by kernel_rfl) (Nat.le_of_ble_eq_true (by kernel_rfl)) ((nat_size.eq n l0).trans h)
noncomputable def nat_size.call {α : Type} (g : List Int → Option (Int)) (ds : List D) (K : List D → Option α) : Option α := match ds with
  | [.ro .u64 l0] => (g l0).bind fun r => K (nat_size.sg.enc r)
  | _ => none
theorem nat_size.call_ok {α : Type} {n : Nat} (ds : List D) (K : List D → Option α) (r : α) (h : nat_size.call (nat_size.f n) ds K = some r) : ∃ rs, K rs = some r ∧ CallD Tryd.prog HW 133 ds rs := by
  unfold nat_size.call at h
  split at h
  · obtain ⟨x, hx, hk⟩ := Option.bind_eq_some_iff.1 h
    exact ⟨_, hk, nat_size.ok (n := n) hx⟩
  · cases h
/-! ### nat_Trim: function 117 -/
noncomputable def nat_Trim.b0 (c133 : List Int → Option (Int)) (l0 : List Int) : Option (List Int) := ((c133 l0).bind fun t1 => (if 0 ≤ t1 then (if t1.toNat ≤ 35184372088832 then (if 0 ≤ t1 then (if t1 ≤ (ln l0) then ((some (l0.take t1.toNat) : Option (List Int)).bind fun y2 => (if y2.length = (List.replicate t1.toNat (0 : Int)).length then some y2 else none)) else none) else none) else none) else none))
noncomputable def nat_Trim.f (n : Nat) (l0 : List Int) : Option (List Int) := nat_Trim.b0 (nat_size.f n) l0
noncomputable def nat_Trim.sg : Sig (List Int) := s1 (sRow .u64)
noncomputable def nat_Trim.code : Code := (Tryd.f117.body).getD .skip
noncomputable def nat_Trim.cfg (c133 : List Int → Option (Int)) : Cfg (List Int) := { T := tys, call := orCall 133 (nat_size.call c133) (noCall) }
noncomputable def nat_Trim.cuts : List (Nat × List (Nat × Want)) := []
theorem nat_Trim.e0 (c133 : List Int → Option (Int)) (n : Nat) (J : Nat → (ASt → Option (List Int)) → ASt → Option (List Int)) (l0 : List Int) : afun (nat_Trim.cfg c133) J nat_Trim.cuts n nat_Trim.code Tryd.f117.results.toList [false] [.ro .u64 l0] nat_Trim.sg.out = nat_Trim.b0 c133 l0 := by kernel_rfl
theorem nat_Trim.eq (n : Nat) (l0 : List Int) : afun (nat_Trim.cfg (nat_size.f n)) idJ nat_Trim.cuts n nat_Trim.code Tryd.f117.results.toList [false] [.ro .u64 l0] nat_Trim.sg.out = nat_Trim.f n l0 := (nat_Trim.e0 (nat_size.f n) n idJ l0).trans (rfl)
theorem nat_Trim.ok {n : Nat} {l0 : List Int} {r : List Int} (h : nat_Trim.f n l0 = some r) : CallD Tryd.prog HW 117 [.ro .u64 l0] (nat_Trim.sg.enc r) :=
  fun_some hwS Tryd.func117 (by kernel_rfl) (body := nat_Trim.code) (by kernel_rfl) tys_ok (c := nat_Trim.cfg (nat_size.f n)) (orCall_ok (nat_size.call_ok (n := n)) noCall_ok) noW_ok (by kernel_rfl) (by kernel_rfl) (Nat.le_of_ble_eq_true (by kernel_rfl)) ((nat_Trim.eq n l0).trans h)
noncomputable def nat_Trim.call {α : Type} (g : List Int → Option (List Int)) (ds : List D) (K : List D → Option α) : Option α := match ds with
  | [.ro .u64 l0] => (g l0).bind fun r => K (nat_Trim.sg.enc r)
  | _ => none
theorem nat_Trim.call_ok {α : Type} {n : Nat} (ds : List D) (K : List D → Option α) (r : α) (h : nat_Trim.call (nat_Trim.f n) ds K = some r) : ∃ rs, K rs = some r ∧ CallD Tryd.prog HW 117 ds rs := by
  unfold nat_Trim.call at h
  split at h
  · obtain ⟨x, hx, hk⟩ := Option.bind_eq_some_iff.1 h
    exact ⟨_, hk, nat_Trim.ok (n := n) hx⟩
  · cases h
/-! ### quot_small: function 157 -/
noncomputable def quot_small.b0 (c117 : List Int → Option (List Int)) (l0 : List Int) (a1 : Int) : Option (List Int × Bool) := ((c117 l0).bind fun t1 => some (t1, decide ((ln t1) ≤ a1)))
noncomputable def quot_small.f (n : Nat) (l0 : List Int) (a1 : Int) : Option (List Int × Bool) := quot_small.b0 (nat_Trim.f n) l0 a1
noncomputable def quot_small.sg : Sig (List Int × Bool) := s2 (sRow .u64) (s1 (sBool))
noncomputable def quot_small.code : Code := (Tryd.f157.body).getD .skip
noncomputable def quot_small.cfg (c117 : List Int → Option (List Int)) : Cfg (List Int × Bool) := { T := tys, call := orCall 117 (nat_Trim.call c117) (noCall) }
noncomputable def quot_small.cuts : List (Nat × List (Nat × Want)) := []
theorem quot_small.e0 (c117 : List Int → Option (List Int)) (n : Nat) (J : Nat → (ASt → Option (List Int × Bool)) → ASt → Option (List Int × Bool)) (l0 : List Int) (a1 : Int) : afun (quot_small.cfg c117) J quot_small.cuts n quot_small.code Tryd.f157.results.toList [false, false] [.ro .u64 l0, .int .i64 a1] quot_small.sg.out = quot_small.b0 c117 l0 a1 := by kernel_rfl
theorem quot_small.eq (n : Nat) (l0 : List Int) (a1 : Int) : afun (quot_small.cfg (nat_Trim.f n)) idJ quot_small.cuts n quot_small.code Tryd.f157.results.toList [false, false] [.ro .u64 l0, .int .i64 a1] quot_small.sg.out = quot_small.f n l0 a1 := (quot_small.e0 (nat_Trim.f n) n idJ l0 a1).trans (rfl)
theorem quot_small.ok {n : Nat} {l0 : List Int} {a1 : Int} {r : List Int × Bool} (h : quot_small.f n l0 a1 = some r) : CallD Tryd.prog HW 157 [.ro .u64 l0, .int .i64 a1] (quot_small.sg.enc r) :=
  fun_some hwS Tryd.func157 (by kernel_rfl) (body := quot_small.code) (by kernel_rfl) tys_ok (c := quot_small.cfg (nat_Trim.f n)) (orCall_ok (nat_Trim.call_ok (n := n)) noCall_ok) noW_ok (by kernel_rfl) (by kernel_rfl) (Nat.le_of_ble_eq_true (by kernel_rfl)) ((quot_small.eq n l0 a1).trans h)
noncomputable def quot_small.call {α : Type} (g : List Int → Int → Option (List Int × Bool)) (ds : List D) (K : List D → Option α) : Option α := match ds with
  | [.ro .u64 l0, .int .i64 a1] => (g l0 a1).bind fun r => K (quot_small.sg.enc r)
  | _ => none
theorem quot_small.call_ok {α : Type} {n : Nat} (ds : List D) (K : List D → Option α) (r : α) (h : quot_small.call (quot_small.f n) ds K = some r) : ∃ rs, K rs = some r ∧ CallD Tryd.prog HW 157 ds rs := by
  unfold quot_small.call at h
  split at h
  · obtain ⟨x, hx, hk⟩ := Option.bind_eq_some_iff.1 h
    exact ⟨_, hk, quot_small.ok (n := n) hx⟩
  · cases h
/-! ### nat_Cmp: function 42 -/
noncomputable def nat_Cmp.b0 (c133 : List Int → Option (Int)) (k245 : List Int → List Int → Int → Option (Int)) (l0 : List Int) (l1 : List Int) : Option (Int) := ((c133 l0).bind fun t1 => ((c133 l1).bind fun t2 => (if ¬ t1 = t2 then (if t1 < t2 then some (-1) else some 1) else k245 l0 l1 (wrap64 (t1 - 1)))))
noncomputable def nat_Cmp.b245 (c133 : List Int → Option (Int)) (k245 : List Int → List Int → Int → Option (Int)) (x0 : List Int) (x1 : List Int) (x2 : Int) : Option (Int) := (if x2 ≥ 0 then (if 0 ≤ x2 then (if x2 < (ln x0) then (if 0 ≤ x2 then (if x2 < (ln x1) then (if ¬ (rd x0 x2) = (rd x1 x2) then (if 0 ≤ x2 then (if x2 < (ln x0) then (if 0 ≤ x2 then (if x2 < (ln x1) then (if (rd x0 x2) < (rd x1 x2) then some (-1) else some 1) else none) else none) else none) else none) else k245 x0 x1 (wrap64 (x2 - 1))) else none) else none) else none) else none) else some 0)
noncomputable def nat_Cmp.l245 (n : Nat) : Nat → List Int → List Int → Int → Option (Int)
  | 0, _, _, _ => none
  | m + 1, x0, x1, x2 => nat_Cmp.b245 (nat_size.f n) (nat_Cmp.l245 n m) x0 x1 x2
noncomputable def nat_Cmp.f (n : Nat) (l0 : List Int) (l1 : List Int) : Option (Int) := nat_Cmp.b0 (nat_size.f n) (nat_Cmp.l245 n n) l0 l1
noncomputable def nat_Cmp.sg : Sig (Int) := s1 (sInt .i64)
noncomputable def nat_Cmp.code : Code := (Tryd.f42.body).getD .skip
noncomputable def nat_Cmp.cfg (c133 : List Int → Option (Int)) : Cfg (Int) := { T := tys, call := orCall 133 (nat_size.call c133) (noCall) }
noncomputable def nat_Cmp.cuts : List (Nat × List (Nat × Want)) := [(245, [(0, .keep), (1, .keep), (7, .keep)])]
noncomputable def nat_Cmp.s245 (x0 : List Int) (x1 : List Int) (x2 : Int) : ASt := ⟨[(0, .ro .u64 x0), (1, .ro .u64 x1), (7, .int .i64 x2)], []⟩
noncomputable def nat_Cmp.A (c133 : List Int → Option (Int)) (n : Nat) (J : Nat → (ASt → Option (Int)) → ASt → Option (Int)) (q : Nat) (ms : List Nat) : ASt → Option (Int) := acont (nat_Cmp.cfg c133) J nat_Cmp.cuts n q nat_Cmp.code 1 ms (aend (nat_Cmp.cfg c133) Tryd.f42.results.toList [false] nat_Cmp.sg.out)
theorem nat_Cmp.e0 (c133 : List Int → Option (Int)) (n : Nat) (J : Nat → (ASt → Option (Int)) → ASt → Option (Int)) (l0 : List Int) (l1 : List Int) : afun (nat_Cmp.cfg c133) J nat_Cmp.cuts n nat_Cmp.code Tryd.f42.results.toList [false] [.ro .u64 l0, .ro .u64 l1] nat_Cmp.sg.out = nat_Cmp.b0 c133 (fun y0 y1 y2 => J 245 (nat_Cmp.A c133 n J 245 [n]) (nat_Cmp.s245 y0 y1 y2)) l0 l1 := by kernel_rfl
theorem nat_Cmp.e245 (c133 : List Int → Option (Int)) (n : Nat) (J : Nat → (ASt → Option (Int)) → ASt → Option (Int)) (m : Nat) (x0 : List Int) (x1 : List Int) (x2 : Int) : nat_Cmp.A c133 n J 245 [m + 1] (nat_Cmp.s245 x0 x1 x2) = nat_Cmp.b245 c133 (fun y0 y1 y2 => J 245 (nat_Cmp.A c133 n J 245 [m]) (nat_Cmp.s245 y0 y1 y2)) x0 x1 x2 := by kernel_rfl
theorem nat_Cmp.q245 (n : Nat) (m : Nat) : ∀ (x0 : List Int) (x1 : List Int) (x2 : Int), nat_Cmp.A (nat_size.f n) n idJ 245 [m] (nat_Cmp.s245 x0 x1 x2) = nat_Cmp.l245 n m x0 x1 x2 := by
  induction m with
  | zero => intros; rfl
  | succ m ih =>
    intro x0 x1 x2
    refine (nat_Cmp.e245 (nat_size.f n) n idJ m x0 x1 x2).trans ?_
    exact congrFun (congrFun (congrFun (congrArg (nat_Cmp.b245 (nat_size.f n)) (funext fun y0 => (funext fun y1 => (funext fun y2 => ih y0 y1 y2)))) x0) x1) x2
theorem nat_Cmp.eq (n : Nat) (l0 : List Int) (l1 : List Int) : afun (nat_Cmp.cfg (nat_size.f n)) idJ nat_Cmp.cuts n nat_Cmp.code Tryd.f42.results.toList [false] [.ro .u64 l0, .ro .u64 l1] nat_Cmp.sg.out = nat_Cmp.f n l0 l1 := (nat_Cmp.e0 (nat_size.f n) n idJ l0 l1).trans (congrFun (congrFun (congrArg (nat_Cmp.b0 (nat_size.f n)) (funext fun y0 => (funext fun y1 => (funext fun y2 => nat_Cmp.q245 n n y0 y1 y2)))) l0) l1)
theorem nat_Cmp.ok {n : Nat} {l0 : List Int} {l1 : List Int} {r : Int} (h : nat_Cmp.f n l0 l1 = some r) : CallD Tryd.prog HW 42 [.ro .u64 l0, .ro .u64 l1] (nat_Cmp.sg.enc r) :=
  fun_some hwS Tryd.func42 (by kernel_rfl) (body := nat_Cmp.code) (by kernel_rfl) tys_ok (c := nat_Cmp.cfg (nat_size.f n)) (orCall_ok (nat_size.call_ok (n := n)) noCall_ok) noW_ok (by kernel_rfl) (by kernel_rfl) (Nat.le_of_ble_eq_true (by kernel_rfl)) ((nat_Cmp.eq n l0 l1).trans h)
noncomputable def nat_Cmp.call {α : Type} (g : List Int → List Int → Option (Int)) (ds : List D) (K : List D → Option α) : Option α := match ds with
  | [.ro .u64 l0, .ro .u64 l1] => (g l0 l1).bind fun r => K (nat_Cmp.sg.enc r)
  | _ => none
theorem nat_Cmp.call_ok {α : Type} {n : Nat} (ds : List D) (K : List D → Option α) (r : α) (h : nat_Cmp.call (nat_Cmp.f n) ds K = some r) : ∃ rs, K rs = some r ∧ CallD Tryd.prog HW 42 ds rs := by
  unfold nat_Cmp.call at h
  split at h
  · obtain ⟨x, hx, hk⟩ := Option.bind_eq_some_iff.1 h
    exact ⟨_, hk, nat_Cmp.ok (n := n) hx⟩
  · cases h
/-! ### nat_big: function 166 -/
noncomputable def nat_big.b0 (c133 : List Int → Option (Int)) (l0 : List Int) : Option (Bool) := ((c133 l0).bind fun t1 => some (decide (t1 > 4096)))
noncomputable def nat_big.f (n : Nat) (l0 : List Int) : Option (Bool) := nat_big.b0 (nat_size.f n) l0
noncomputable def nat_big.sg : Sig (Bool) := s1 (sBool)
noncomputable def nat_big.code : Code := (Tryd.f166.body).getD .skip
noncomputable def nat_big.cfg (c133 : List Int → Option (Int)) : Cfg (Bool) := { T := tys, call := orCall 133 (nat_size.call c133) (noCall) }
noncomputable def nat_big.cuts : List (Nat × List (Nat × Want)) := []
theorem nat_big.e0 (c133 : List Int → Option (Int)) (n : Nat) (J : Nat → (ASt → Option (Bool)) → ASt → Option (Bool)) (l0 : List Int) : afun (nat_big.cfg c133) J nat_big.cuts n nat_big.code Tryd.f166.results.toList [false] [.ro .u64 l0] nat_big.sg.out = nat_big.b0 c133 l0 := by kernel_rfl
theorem nat_big.eq (n : Nat) (l0 : List Int) : afun (nat_big.cfg (nat_size.f n)) idJ nat_big.cuts n nat_big.code Tryd.f166.results.toList [false] [.ro .u64 l0] nat_big.sg.out = nat_big.f n l0 := (nat_big.e0 (nat_size.f n) n idJ l0).trans (rfl)
theorem nat_big.ok {n : Nat} {l0 : List Int} {r : Bool} (h : nat_big.f n l0 = some r) : CallD Tryd.prog HW 166 [.ro .u64 l0] (nat_big.sg.enc r) :=
  fun_some hwS Tryd.func166 (by kernel_rfl) (body := nat_big.code) (by kernel_rfl) tys_ok (c := nat_big.cfg (nat_size.f n)) (orCall_ok (nat_size.call_ok (n := n)) noCall_ok) noW_ok (by kernel_rfl) (by kernel_rfl) (Nat.le_of_ble_eq_true (by kernel_rfl)) ((nat_big.eq n l0).trans h)
noncomputable def nat_big.call {α : Type} (g : List Int → Option (Bool)) (ds : List D) (K : List D → Option α) : Option α := match ds with
  | [.ro .u64 l0] => (g l0).bind fun r => K (nat_big.sg.enc r)
  | _ => none
theorem nat_big.call_ok {α : Type} {n : Nat} (ds : List D) (K : List D → Option α) (r : α) (h : nat_big.call (nat_big.f n) ds K = some r) : ∃ rs, K rs = some r ∧ CallD Tryd.prog HW 166 ds rs := by
  unfold nat_big.call at h
  split at h
  · obtain ⟨x, hx, hk⟩ := Option.bind_eq_some_iff.1 h
    exact ⟨_, hk, nat_big.ok (n := n) hx⟩
  · cases h
/-! ### bits_Len64: function 134 -/
def bits_Len64.f (a0 : Int) : Option (Int) := if 0 ≤ a0 ∧ a0 ≤ 18446744073709551615 then some (Lib.bitLen a0.toNat : Nat) else none
def bits_Len64.sg : Sig (Int) := s1 (sInt .i64)
theorem bits_Len64.ok {a0 : Int} {r : Int} (h : bits_Len64.f a0 = some r) : CallD Tryd.prog HW 134 [.int .u64 a0] (bits_Len64.sg.enc r) := by
  unfold bits_Len64.f at h
  split at h
  · rename_i hh
    obtain rfl := Option.some.inj h
    refine calld_scal rfl rfl fun w _ => .inl ⟨_, Tryd.func134, by kernel_rfl, by kernel_rfl, (Go.Proofs.YtceihajjpeoloaaDoorG.len64 a0 w hh.1 hh.2).mono ?_⟩
    rintro e w' ⟨rfl, rfl⟩
    exact ⟨_, rfl, rfl, rfl⟩
  · cases h
noncomputable def bits_Len64.call {α : Type} (g : Int → Option (Int)) (ds : List D) (K : List D → Option α) : Option α := match ds with
  | [.int .u64 a0] => (g a0).bind fun r => K (bits_Len64.sg.enc r)
  | _ => none
theorem bits_Len64.call_ok {α : Type} {n : Nat} (ds : List D) (K : List D → Option α) (r : α) (h : bits_Len64.call bits_Len64.f ds K = some r) : ∃ rs, K rs = some r ∧ CallD Tryd.prog HW 134 ds rs := by
  unfold bits_Len64.call at h
  split at h
  · obtain ⟨x, hx, hk⟩ := Option.bind_eq_some_iff.1 h
    exact ⟨_, hk, bits_Len64.ok hx⟩
  · cases h
/-! ### bits_LeadingZeros64: function 176 -/
noncomputable def bits_LeadingZeros64.b0 (c134 : Int → Option (Int)) (a0 : Int) : Option (Int) := ((c134 a0).bind fun t1 => some (wrap64 (64 - t1)))
noncomputable def bits_LeadingZeros64.f (a0 : Int) : Option (Int) := bits_LeadingZeros64.b0 bits_Len64.f a0
noncomputable def bits_LeadingZeros64.sg : Sig (Int) := s1 (sInt .i64)
noncomputable def bits_LeadingZeros64.code : Code := (Tryd.f176.body).getD .skip
noncomputable def bits_LeadingZeros64.cfg (c134 : Int → Option (Int)) : Cfg (Int) := { T := tys, call := orCall 134 (bits_Len64.call c134) (noCall) }
noncomputable def bits_LeadingZeros64.cuts : List (Nat × List (Nat × Want)) := []
theorem bits_LeadingZeros64.e0 (c134 : Int → Option (Int)) (n : Nat) (J : Nat → (ASt → Option (Int)) → ASt → Option (Int)) (a0 : Int) : afun (bits_LeadingZeros64.cfg c134) J bits_LeadingZeros64.cuts n bits_LeadingZeros64.code Tryd.f176.results.toList [false] [.int .u64 a0] bits_LeadingZeros64.sg.out = bits_LeadingZeros64.b0 c134 a0 := by kernel_rfl
theorem bits_LeadingZeros64.eq (n : Nat) (a0 : Int) : afun (bits_LeadingZeros64.cfg bits_Len64.f) idJ bits_LeadingZeros64.cuts n bits_LeadingZeros64.code Tryd.f176.results.toList [false] [.int .u64 a0] bits_LeadingZeros64.sg.out = bits_LeadingZeros64.f a0 := (bits_LeadingZeros64.e0 bits_Len64.f n idJ a0).trans (rfl)
theorem bits_LeadingZeros64.ok {n : Nat} {a0 : Int} {r : Int} (h : bits_LeadingZeros64.f a0 = some r) : CallD Tryd.prog HW 176 [.int .u64 a0] (bits_LeadingZeros64.sg.enc r) :=
  fun_some hwS Tryd.func176 (by kernel_rfl) (body := bits_LeadingZeros64.code) (by kernel_rfl) tys_ok (c := bits_LeadingZeros64.cfg bits_Len64.f) (orCall_ok (bits_Len64.call_ok (n := n)) noCall_ok) noW_ok (by kernel_rfl) (by kernel_rfl) (Nat.le_of_ble_eq_true (by kernel_rfl)) ((bits_LeadingZeros64.eq n a0).trans h)
noncomputable def bits_LeadingZeros64.call {α : Type} (g : Int → Option (Int)) (ds : List D) (K : List D → Option α) : Option α := match ds with
  | [.int .u64 a0] => (g a0).bind fun r => K (bits_LeadingZeros64.sg.enc r)
  | _ => none
theorem bits_LeadingZeros64.call_ok {α : Type} {n : Nat} (ds : List D) (K : List D → Option α) (r : α) (h : bits_LeadingZeros64.call bits_LeadingZeros64.f ds K = some r) : ∃ rs, K rs = some r ∧ CallD Tryd.prog HW 176 ds rs := by
  unfold bits_LeadingZeros64.call at h
  split at h
  · obtain ⟨x, hx, hk⟩ := Option.bind_eq_some_iff.1 h
    exact ⟨_, hk, bits_LeadingZeros64.ok (n := n) hx⟩
  · cases h
/-! ### bits_Div64: function 171 -/
noncomputable def bits_Div64.b0 (c176 : Int → Option (Int)) (k262137 : Int → Int → Int → Int → Int → Int → Int → Int → Int → Option (Int × Int)) (a0 : Int) (a1 : Int) (a2 : Int) : Option (Int × Int) := (if a2 = 0 then none else (if a2 ≤ a0 then none else (if a0 = 0 then (if a2 = 0 then none else (if a2 = 0 then none else some (IntKind.u64.wrap (Int.tdiv a1 a2), Int.tmod a1 a2))) else ((c176 a2).bind fun t1 => (if 0 ≤ (IntKind.u64.wrap t1) then (if 0 ≤ (IntKind.u64.wrap t1) then (if 0 ≤ (IntKind.u64.wrap (64 - (IntKind.u64.wrap t1))) then (if 0 ≤ (IntKind.u64.wrap t1) then (if ((shl .u64 a2 (IntKind.u64.wrap t1)) / 4294967296) = 0 then none else k262137 (shl .u64 a2 (IntKind.u64.wrap t1)) (IntKind.u64.wrap t1) ((shl .u64 a2 (IntKind.u64.wrap t1)) / 4294967296) (Go.bits .and .u64 (shl .u64 a2 (IntKind.u64.wrap t1)) 4294967295) (Go.bits .or .u64 (shl .u64 a0 (IntKind.u64.wrap t1)) (shr .u64 a1 (IntKind.u64.wrap (64 - (IntKind.u64.wrap t1))))) ((shl .u64 a1 (IntKind.u64.wrap t1)) / 4294967296) (Go.bits .and .u64 (shl .u64 a1 (IntKind.u64.wrap t1)) 4294967295) (IntKind.u64.wrap (Int.tdiv (Go.bits .or .u64 (shl .u64 a0 (IntKind.u64.wrap t1)) (shr .u64 a1 (IntKind.u64.wrap (64 - (IntKind.u64.wrap t1))))) ((shl .u64 a2 (IntKind.u64.wrap t1)) / 4294967296))) (IntKind.u64.wrap ((Go.bits .or .u64 (shl .u64 a0 (IntKind.u64.wrap t1)) (shr .u64 a1 (IntKind.u64.wrap (64 - (IntKind.u64.wrap t1))))) - (IntKind.u64.wrap ((IntKind.u64.wrap (Int.tdiv (Go.bits .or .u64 (shl .u64 a0 (IntKind.u64.wrap t1)) (shr .u64 a1 (IntKind.u64.wrap (64 - (IntKind.u64.wrap t1))))) ((shl .u64 a2 (IntKind.u64.wrap t1)) / 4294967296))) * ((shl .u64 a2 (IntKind.u64.wrap t1)) / 4294967296)))))) else none) else none) else none) else none)))))
noncomputable def bits_Div64.b65535 (c176 : Int → Option (Int)) (k4194297 : Int → Int → Int → Int → Int → Int → Int → Int → Int → Option (Int × Int)) (x0 : Int) (x1 : Int) (x2 : Int) (x3 : Int) (x4 : Int) (x5 : Int) (x6 : Int) (x7 : Int) : Option (Int × Int) := (if x2 = 0 then none else k4194297 x0 x1 x2 x3 x6 x7 (IntKind.u64.wrap ((IntKind.u64.wrap ((IntKind.u64.wrap ((IntKind.u64.wrap (x4 * 4294967296)) + x5)) - (IntKind.u64.wrap (x7 * x0)))) - (IntKind.u64.wrap ((IntKind.u64.wrap (Int.tdiv (IntKind.u64.wrap ((IntKind.u64.wrap ((IntKind.u64.wrap (x4 * 4294967296)) + x5)) - (IntKind.u64.wrap (x7 * x0)))) x2)) * x2)))) (IntKind.u64.wrap ((IntKind.u64.wrap ((IntKind.u64.wrap (x4 * 4294967296)) + x5)) - (IntKind.u64.wrap (x7 * x0)))) (IntKind.u64.wrap (Int.tdiv (IntKind.u64.wrap ((IntKind.u64.wrap ((IntKind.u64.wrap (x4 * 4294967296)) + x5)) - (IntKind.u64.wrap (x7 * x0)))) x2)))
noncomputable def bits_Div64.b262137 (c176 : Int → Option (Int)) (k65535 : Int → Int → Int → Int → Int → Int → Int → Int → Option (Int × Int)) (k524273 : Int → Int → Int → Int → Int → Int → Int → Int → Int → Option (Int × Int)) (x0 : Int) (x1 : Int) (x2 : Int) (x3 : Int) (x4 : Int) (x5 : Int) (x6 : Int) (x7 : Int) (x8 : Int) : Option (Int × Int) := (if x7 ≥ 4294967296 then k524273 x0 x1 x2 x3 x4 x5 x6 x7 x8 else (if (IntKind.u64.wrap (x7 * x3)) > (IntKind.u64.wrap ((IntKind.u64.wrap (4294967296 * x8)) + x5)) then k524273 x0 x1 x2 x3 x4 x5 x6 x7 x8 else k65535 x0 x1 x2 x3 x4 x5 x6 x7))
noncomputable def bits_Div64.b524273 (c176 : Int → Option (Int)) (k65535 : Int → Int → Int → Int → Int → Int → Int → Int → Option (Int × Int)) (k262137 : Int → Int → Int → Int → Int → Int → Int → Int → Int → Option (Int × Int)) (x0 : Int) (x1 : Int) (x2 : Int) (x3 : Int) (x4 : Int) (x5 : Int) (x6 : Int) (x7 : Int) (x8 : Int) : Option (Int × Int) := (if (IntKind.u64.wrap (x8 + x2)) ≥ 4294967296 then k65535 x0 x1 x2 x3 x4 x5 x6 (IntKind.u64.wrap (x7 - 1)) else k262137 x0 x1 x2 x3 x4 x5 x6 (IntKind.u64.wrap (x7 - 1)) (IntKind.u64.wrap (x8 + x2)))
noncomputable def bits_Div64.b1048575 (c176 : Int → Option (Int)) (x0 : Int) (x1 : Int) (x2 : Int) (x3 : Int) (x4 : Int) (x5 : Int) : Option (Int × Int) := (if 0 ≤ x1 then some (IntKind.u64.wrap ((IntKind.u64.wrap (x3 * 4294967296)) + x5), shr .u64 (IntKind.u64.wrap ((IntKind.u64.wrap ((IntKind.u64.wrap (x4 * 4294967296)) + x2)) - (IntKind.u64.wrap (x5 * x0)))) x1) else none)
noncomputable def bits_Div64.b4194297 (c176 : Int → Option (Int)) (k1048575 : Int → Int → Int → Int → Int → Int → Option (Int × Int)) (k8388593 : Int → Int → Int → Int → Int → Int → Int → Int → Int → Option (Int × Int)) (x0 : Int) (x1 : Int) (x2 : Int) (x3 : Int) (x4 : Int) (x5 : Int) (x6 : Int) (x7 : Int) (x8 : Int) : Option (Int × Int) := (if x8 ≥ 4294967296 then k8388593 x0 x1 x2 x3 x4 x5 x6 x7 x8 else (if (IntKind.u64.wrap (x8 * x3)) > (IntKind.u64.wrap ((IntKind.u64.wrap (4294967296 * x6)) + x4)) then k8388593 x0 x1 x2 x3 x4 x5 x6 x7 x8 else k1048575 x0 x1 x4 x5 x7 x8))
noncomputable def bits_Div64.b8388593 (c176 : Int → Option (Int)) (k1048575 : Int → Int → Int → Int → Int → Int → Option (Int × Int)) (k4194297 : Int → Int → Int → Int → Int → Int → Int → Int → Int → Option (Int × Int)) (x0 : Int) (x1 : Int) (x2 : Int) (x3 : Int) (x4 : Int) (x5 : Int) (x6 : Int) (x7 : Int) (x8 : Int) : Option (Int × Int) := (if (IntKind.u64.wrap (x6 + x2)) ≥ 4294967296 then k1048575 x0 x1 x4 x5 x7 (IntKind.u64.wrap (x8 - 1)) else k4194297 x0 x1 x2 x3 x4 x5 (IntKind.u64.wrap (x6 + x2)) x7 (IntKind.u64.wrap (x8 - 1)))
noncomputable def bits_Div64.l1048575 (n : Nat) (x0 : Int) (x1 : Int) (x2 : Int) (x3 : Int) (x4 : Int) (x5 : Int) : Option (Int × Int) := bits_Div64.b1048575 bits_LeadingZeros64.f x0 x1 x2 x3 x4 x5
noncomputable def bits_Div64.l8388593 (n : Nat) (k4194297 : Int → Int → Int → Int → Int → Int → Int → Int → Int → Option (Int × Int)) (x0 : Int) (x1 : Int) (x2 : Int) (x3 : Int) (x4 : Int) (x5 : Int) (x6 : Int) (x7 : Int) (x8 : Int) : Option (Int × Int) := bits_Div64.b8388593 bits_LeadingZeros64.f (bits_Div64.l1048575 n) k4194297 x0 x1 x2 x3 x4 x5 x6 x7 x8
noncomputable def bits_Div64.l4194297 (n : Nat) : Nat → Int → Int → Int → Int → Int → Int → Int → Int → Int → Option (Int × Int)
  | 0, _, _, _, _, _, _, _, _, _ => none
  | m + 1, x0, x1, x2, x3, x4, x5, x6, x7, x8 => bits_Div64.b4194297 bits_LeadingZeros64.f (bits_Div64.l1048575 n) (bits_Div64.l8388593 n (bits_Div64.l4194297 n m)) x0 x1 x2 x3 x4 x5 x6 x7 x8
noncomputable def bits_Div64.l65535 (n : Nat) (x0 : Int) (x1 : Int) (x2 : Int) (x3 : Int) (x4 : Int) (x5 : Int) (x6 : Int) (x7 : Int) : Option (Int × Int) := bits_Div64.b65535 bits_LeadingZeros64.f (bits_Div64.l4194297 n n) x0 x1 x2 x3 x4 x5 x6 x7
noncomputable def bits_Div64.l524273 (n : Nat) (k262137 : Int → Int → Int → Int → Int → Int → Int → Int → Int → Option (Int × Int)) (x0 : Int) (x1 : Int) (x2 : Int) (x3 : Int) (x4 : Int) (x5 : Int) (x6 : Int) (x7 : Int) (x8 : Int) : Option (Int × Int) := bits_Div64.b524273 bits_LeadingZeros64.f (bits_Div64.l65535 n) k262137 x0 x1 x2 x3 x4 x5 x6 x7 x8
noncomputable def bits_Div64.l262137 (n : Nat) : Nat → Int → Int → Int → Int → Int → Int → Int → Int → Int → Option (Int × Int)
  | 0, _, _, _, _, _, _, _, _, _ => none
  | m + 1, x0, x1, x2, x3, x4, x5, x6, x7, x8 => bits_Div64.b262137 bits_LeadingZeros64.f (bits_Div64.l65535 n) (bits_Div64.l524273 n (bits_Div64.l262137 n m)) x0 x1 x2 x3 x4 x5 x6 x7 x8
noncomputable def bits_Div64.f (n : Nat) (a0 : Int) (a1 : Int) (a2 : Int) : Option (Int × Int) := bits_Div64.b0 bits_LeadingZeros64.f (bits_Div64.l262137 n n) a0 a1 a2
noncomputable def bits_Div64.sg : Sig (Int × Int) := s2 (sInt .u64) (s1 (sInt .u64))
noncomputable def bits_Div64.code : Code := (Tryd.f171.body).getD .skip
noncomputable def bits_Div64.cfg (c176 : Int → Option (Int)) : Cfg (Int × Int) := { T := tys, call := orCall 176 (bits_LeadingZeros64.call c176) (noCall) }
noncomputable def bits_Div64.cuts : List (Nat × List (Nat × Want)) := [(65535, [(2, .keep), (8, .keep), (9, .keep), (10, .keep), (11, .keep), (13, .keep), (14, .keep), (15, .keep)]), (262137, [(2, .keep), (8, .keep), (9, .keep), (10, .keep), (11, .keep), (13, .keep), (14, .keep), (15, .keep), (16, .keep)]), (524273, [(2, .keep), (8, .keep), (9, .keep), (10, .keep), (11, .keep), (13, .keep), (14, .keep), (15, .keep), (16, .keep)]), (1048575, [(2, .keep), (8, .keep), (14, .keep), (15, .keep), (17, .keep), (18, .keep)]), (4194297, [(2, .keep), (8, .keep), (9, .keep), (10, .keep), (14, .keep), (15, .keep), (16, .keep), (17, .keep), (18, .keep)]), (8388593, [(2, .keep), (8, .keep), (9, .keep), (10, .keep), (14, .keep), (15, .keep), (16, .keep), (17, .keep), (18, .keep)])]
noncomputable def bits_Div64.s65535 (x0 : Int) (x1 : Int) (x2 : Int) (x3 : Int) (x4 : Int) (x5 : Int) (x6 : Int) (x7 : Int) : ASt := ⟨[(2, .int .u64 x0), (8, .int .u64 x1), (9, .int .u64 x2), (10, .int .u64 x3), (11, .int .u64 x4), (13, .int .u64 x5), (14, .int .u64 x6), (15, .int .u64 x7)], []⟩
noncomputable def bits_Div64.s262137 (x0 : Int) (x1 : Int) (x2 : Int) (x3 : Int) (x4 : Int) (x5 : Int) (x6 : Int) (x7 : Int) (x8 : Int) : ASt := ⟨[(2, .int .u64 x0), (8, .int .u64 x1), (9, .int .u64 x2), (10, .int .u64 x3), (11, .int .u64 x4), (13, .int .u64 x5), (14, .int .u64 x6), (15, .int .u64 x7), (16, .int .u64 x8)], []⟩
noncomputable def bits_Div64.s524273 (x0 : Int) (x1 : Int) (x2 : Int) (x3 : Int) (x4 : Int) (x5 : Int) (x6 : Int) (x7 : Int) (x8 : Int) : ASt := ⟨[(2, .int .u64 x0), (8, .int .u64 x1), (9, .int .u64 x2), (10, .int .u64 x3), (11, .int .u64 x4), (13, .int .u64 x5), (14, .int .u64 x6), (15, .int .u64 x7), (16, .int .u64 x8)], []⟩
noncomputable def bits_Div64.s1048575 (x0 : Int) (x1 : Int) (x2 : Int) (x3 : Int) (x4 : Int) (x5 : Int) : ASt := ⟨[(2, .int .u64 x0), (8, .int .u64 x1), (14, .int .u64 x2), (15, .int .u64 x3), (17, .int .u64 x4), (18, .int .u64 x5)], []⟩
noncomputable def bits_Div64.s4194297 (x0 : Int) (x1 : Int) (x2 : Int) (x3 : Int) (x4 : Int) (x5 : Int) (x6 : Int) (x7 : Int) (x8 : Int) : ASt := ⟨[(2, .int .u64 x0), (8, .int .u64 x1), (9, .int .u64 x2), (10, .int .u64 x3), (14, .int .u64 x4), (15, .int .u64 x5), (16, .int .u64 x6), (17, .int .u64 x7), (18, .int .u64 x8)], []⟩
noncomputable def bits_Div64.s8388593 (x0 : Int) (x1 : Int) (x2 : Int) (x3 : Int) (x4 : Int) (x5 : Int) (x6 : Int) (x7 : Int) (x8 : Int) : ASt := ⟨[(2, .int .u64 x0), (8, .int .u64 x1), (9, .int .u64 x2), (10, .int .u64 x3), (14, .int .u64 x4), (15, .int .u64 x5), (16, .int .u64 x6), (17, .int .u64 x7), (18, .int .u64 x8)], []⟩
noncomputable def bits_Div64.A (c176 : Int → Option (Int)) (n : Nat) (J : Nat → (ASt → Option (Int × Int)) → ASt → Option (Int × Int)) (q : Nat) (ms : List Nat) : ASt → Option (Int × Int) := acont (bits_Div64.cfg c176) J bits_Div64.cuts n q bits_Div64.code 1 ms (aend (bits_Div64.cfg c176) Tryd.f171.results.toList [false, false] bits_Div64.sg.out)
theorem bits_Div64.e0 (c176 : Int → Option (Int)) (n : Nat) (J : Nat → (ASt → Option (Int × Int)) → ASt → Option (Int × Int)) (a0 : Int) (a1 : Int) (a2 : Int) : afun (bits_Div64.cfg c176) J bits_Div64.cuts n bits_Div64.code Tryd.f171.results.toList [false, false] [.int .u64 a0, .int .u64 a1, .int .u64 a2] bits_Div64.sg.out = bits_Div64.b0 c176 (fun y0 y1 y2 y3 y4 y5 y6 y7 y8 => J 262137 (bits_Div64.A c176 n J 262137 [n]) (bits_Div64.s262137 y0 y1 y2 y3 y4 y5 y6 y7 y8)) a0 a1 a2 := by kernel_rfl
theorem bits_Div64.e65535 (c176 : Int → Option (Int)) (n : Nat) (J : Nat → (ASt → Option (Int × Int)) → ASt → Option (Int × Int)) (x0 : Int) (x1 : Int) (x2 : Int) (x3 : Int) (x4 : Int) (x5 : Int) (x6 : Int) (x7 : Int) : bits_Div64.A c176 n J 65535 [] (bits_Div64.s65535 x0 x1 x2 x3 x4 x5 x6 x7) = bits_Div64.b65535 c176 (fun y0 y1 y2 y3 y4 y5 y6 y7 y8 => J 4194297 (bits_Div64.A c176 n J 4194297 [n]) (bits_Div64.s4194297 y0 y1 y2 y3 y4 y5 y6 y7 y8)) x0 x1 x2 x3 x4 x5 x6 x7 := by kernel_rfl
theorem bits_Div64.e262137 (c176 : Int → Option (Int)) (n : Nat) (J : Nat → (ASt → Option (Int × Int)) → ASt → Option (Int × Int)) (m : Nat) (x0 : Int) (x1 : Int) (x2 : Int) (x3 : Int) (x4 : Int) (x5 : Int) (x6 : Int) (x7 : Int) (x8 : Int) : bits_Div64.A c176 n J 262137 [m + 1] (bits_Div64.s262137 x0 x1 x2 x3 x4 x5 x6 x7 x8) = bits_Div64.b262137 c176 (fun y0 y1 y2 y3 y4 y5 y6 y7 => J 65535 (bits_Div64.A c176 n J 65535 []) (bits_Div64.s65535 y0 y1 y2 y3 y4 y5 y6 y7)) (fun y0 y1 y2 y3 y4 y5 y6 y7 y8 => J 524273 (bits_Div64.A c176 n J 524273 [m]) (bits_Div64.s524273 y0 y1 y2 y3 y4 y5 y6 y7 y8)) x0 x1 x2 x3 x4 x5 x6 x7 x8 := by kernel_rfl
theorem bits_Div64.e524273 (c176 : Int → Option (Int)) (n : Nat) (J : Nat → (ASt → Option (Int × Int)) → ASt → Option (Int × Int)) (m262137 : Nat) (x0 : Int) (x1 : Int) (x2 : Int) (x3 : Int) (x4 : Int) (x5 : Int) (x6 : Int) (x7 : Int) (x8 : Int) : bits_Div64.A c176 n J 524273 [m262137] (bits_Div64.s524273 x0 x1 x2 x3 x4 x5 x6 x7 x8) = bits_Div64.b524273 c176 (fun y0 y1 y2 y3 y4 y5 y6 y7 => J 65535 (bits_Div64.A c176 n J 65535 []) (bits_Div64.s65535 y0 y1 y2 y3 y4 y5 y6 y7)) (fun y0 y1 y2 y3 y4 y5 y6 y7 y8 => J 262137 (bits_Div64.A c176 n J 262137 [m262137]) (bits_Div64.s262137 y0 y1 y2 y3 y4 y5 y6 y7 y8)) x0 x1 x2 x3 x4 x5 x6 x7 x8 := by kernel_rfl
theorem bits_Div64.e1048575 (c176 : Int → Option (Int)) (n : Nat) (J : Nat → (ASt → Option (Int × Int)) → ASt → Option (Int × Int)) (x0 : Int) (x1 : Int) (x2 : Int) (x3 : Int) (x4 : Int) (x5 : Int) : bits_Div64.A c176 n J 1048575 [] (bits_Div64.s1048575 x0 x1 x2 x3 x4 x5) = bits_Div64.b1048575 c176 x0 x1 x2 x3 x4 x5 := by kernel_rfl
theorem bits_Div64.e4194297 (c176 : Int → Option (Int)) (n : Nat) (J : Nat → (ASt → Option (Int × Int)) → ASt → Option (Int × Int)) (m : Nat) (x0 : Int) (x1 : Int) (x2 : Int) (x3 : Int) (x4 : Int) (x5 : Int) (x6 : Int) (x7 : Int) (x8 : Int) : bits_Div64.A c176 n J 4194297 [m + 1] (bits_Div64.s4194297 x0 x1 x2 x3 x4 x5 x6 x7 x8) = bits_Div64.b4194297 c176 (fun y0 y1 y2 y3 y4 y5 => J 1048575 (bits_Div64.A c176 n J 1048575 []) (bits_Div64.s1048575 y0 y1 y2 y3 y4 y5)) (fun y0 y1 y2 y3 y4 y5 y6 y7 y8 => J 8388593 (bits_Div64.A c176 n J 8388593 [m]) (bits_Div64.s8388593 y0 y1 y2 y3 y4 y5 y6 y7 y8)) x0 x1 x2 x3 x4 x5 x6 x7 x8 := by kernel_rfl
theorem bits_Div64.e8388593 (c176 : Int → Option (Int)) (n : Nat) (J : Nat → (ASt → Option (Int × Int)) → ASt → Option (Int × Int)) (m4194297 : Nat) (x0 : Int) (x1 : Int) (x2 : Int) (x3 : Int) (x4 : Int) (x5 : Int) (x6 : Int) (x7 : Int) (x8 : Int) : bits_Div64.A c176 n J 8388593 [m4194297] (bits_Div64.s8388593 x0 x1 x2 x3 x4 x5 x6 x7 x8) = bits_Div64.b8388593 c176 (fun y0 y1 y2 y3 y4 y5 => J 1048575 (bits_Div64.A c176 n J 1048575 []) (bits_Div64.s1048575 y0 y1 y2 y3 y4 y5)) (fun y0 y1 y2 y3 y4 y5 y6 y7 y8 => J 4194297 (bits_Div64.A c176 n J 4194297 [m4194297]) (bits_Div64.s4194297 y0 y1 y2 y3 y4 y5 y6 y7 y8)) x0 x1 x2 x3 x4 x5 x6 x7 x8 := by kernel_rfl
theorem bits_Div64.q1048575 (n : Nat) (x0 : Int) (x1 : Int) (x2 : Int) (x3 : Int) (x4 : Int) (x5 : Int) : bits_Div64.A bits_LeadingZeros64.f n idJ 1048575 [] (bits_Div64.s1048575 x0 x1 x2 x3 x4 x5) = bits_Div64.l1048575 n x0 x1 x2 x3 x4 x5 := (bits_Div64.e1048575 bits_LeadingZeros64.f n idJ x0 x1 x2 x3 x4 x5).trans (rfl)
theorem bits_Div64.q8388593 (n : Nat) (m4194297 : Nat) (x0 : Int) (x1 : Int) (x2 : Int) (x3 : Int) (x4 : Int) (x5 : Int) (x6 : Int) (x7 : Int) (x8 : Int) : bits_Div64.A bits_LeadingZeros64.f n idJ 8388593 [m4194297] (bits_Div64.s8388593 x0 x1 x2 x3 x4 x5 x6 x7 x8) = bits_Div64.l8388593 n (fun y0 y1 y2 y3 y4 y5 y6 y7 y8 => bits_Div64.A bits_LeadingZeros64.f n idJ 4194297 [m4194297] (bits_Div64.s4194297 y0 y1 y2 y3 y4 y5 y6 y7 y8)) x0 x1 x2 x3 x4 x5 x6 x7 x8 := (bits_Div64.e8388593 bits_LeadingZeros64.f n idJ m4194297 x0 x1 x2 x3 x4 x5 x6 x7 x8).trans (congrFun (congrFun (congrFun (congrFun (congrFun (congrFun (congrFun (congrFun (congrFun (congr (congrArg (bits_Div64.b8388593 bits_LeadingZeros64.f) (funext fun y0 => (funext fun y1 => (funext fun y2 => (funext fun y3 => (funext fun y4 => (funext fun y5 => bits_Div64.q1048575 n y0 y1 y2 y3 y4 y5))))))) rfl) x0) x1) x2) x3) x4) x5) x6) x7) x8)
theorem bits_Div64.q4194297 (n : Nat) (m : Nat) : ∀ (x0 : Int) (x1 : Int) (x2 : Int) (x3 : Int) (x4 : Int) (x5 : Int) (x6 : Int) (x7 : Int) (x8 : Int), bits_Div64.A bits_LeadingZeros64.f n idJ 4194297 [m] (bits_Div64.s4194297 x0 x1 x2 x3 x4 x5 x6 x7 x8) = bits_Div64.l4194297 n m x0 x1 x2 x3 x4 x5 x6 x7 x8 := by
  induction m with
  | zero => intros; rfl
  | succ m ih =>
    intro x0 x1 x2 x3 x4 x5 x6 x7 x8
    refine (bits_Div64.e4194297 bits_LeadingZeros64.f n idJ m x0 x1 x2 x3 x4 x5 x6 x7 x8).trans ?_
    exact congrFun (congrFun (congrFun (congrFun (congrFun (congrFun (congrFun (congrFun (congrFun (congr (congrArg (bits_Div64.b4194297 bits_LeadingZeros64.f) (funext fun y0 => (funext fun y1 => (funext fun y2 => (funext fun y3 => (funext fun y4 => (funext fun y5 => bits_Div64.q1048575 n y0 y1 y2 y3 y4 y5))))))) ((funext fun y0 => (funext fun y1 => (funext fun y2 => (funext fun y3 => (funext fun y4 => (funext fun y5 => (funext fun y6 => (funext fun y7 => (funext fun y8 => bits_Div64.q8388593 n m y0 y1 y2 y3 y4 y5 y6 y7 y8))))))))).trans (by rw [show (fun y0 y1 y2 y3 y4 y5 y6 y7 y8 => bits_Div64.A bits_LeadingZeros64.f n idJ 4194297 [m] (bits_Div64.s4194297 y0 y1 y2 y3 y4 y5 y6 y7 y8)) = _ from (funext fun y0 => (funext fun y1 => (funext fun y2 => (funext fun y3 => (funext fun y4 => (funext fun y5 => (funext fun y6 => (funext fun y7 => (funext fun y8 => ih y0 y1 y2 y3 y4 y5 y6 y7 y8)))))))))]))) x0) x1) x2) x3) x4) x5) x6) x7) x8
theorem bits_Div64.q65535 (n : Nat) (x0 : Int) (x1 : Int) (x2 : Int) (x3 : Int) (x4 : Int) (x5 : Int) (x6 : Int) (x7 : Int) : bits_Div64.A bits_LeadingZeros64.f n idJ 65535 [] (bits_Div64.s65535 x0 x1 x2 x3 x4 x5 x6 x7) = bits_Div64.l65535 n x0 x1 x2 x3 x4 x5 x6 x7 := (bits_Div64.e65535 bits_LeadingZeros64.f n idJ x0 x1 x2 x3 x4 x5 x6 x7).trans (congrFun (congrFun (congrFun (congrFun (congrFun (congrFun (congrFun (congrFun (congrArg (bits_Div64.b65535 bits_LeadingZeros64.f) (funext fun y0 => (funext fun y1 => (funext fun y2 => (funext fun y3 => (funext fun y4 => (funext fun y5 => (funext fun y6 => (funext fun y7 => (funext fun y8 => bits_Div64.q4194297 n n y0 y1 y2 y3 y4 y5 y6 y7 y8)))))))))) x0) x1) x2) x3) x4) x5) x6) x7)
theorem bits_Div64.q524273 (n : Nat) (m262137 : Nat) (x0 : Int) (x1 : Int) (x2 : Int) (x3 : Int) (x4 : Int) (x5 : Int) (x6 : Int) (x7 : Int) (x8 : Int) : bits_Div64.A bits_LeadingZeros64.f n idJ 524273 [m262137] (bits_Div64.s524273 x0 x1 x2 x3 x4 x5 x6 x7 x8) = bits_Div64.l524273 n (fun y0 y1 y2 y3 y4 y5 y6 y7 y8 => bits_Div64.A bits_LeadingZeros64.f n idJ 262137 [m262137] (bits_Div64.s262137 y0 y1 y2 y3 y4 y5 y6 y7 y8)) x0 x1 x2 x3 x4 x5 x6 x7 x8 := (bits_Div64.e524273 bits_LeadingZeros64.f n idJ m262137 x0 x1 x2 x3 x4 x5 x6 x7 x8).trans (congrFun (congrFun (congrFun (congrFun (congrFun (congrFun (congrFun (congrFun (congrFun (congr (congrArg (bits_Div64.b524273 bits_LeadingZeros64.f) (funext fun y0 => (funext fun y1 => (funext fun y2 => (funext fun y3 => (funext fun y4 => (funext fun y5 => (funext fun y6 => (funext fun y7 => bits_Div64.q65535 n y0 y1 y2 y3 y4 y5 y6 y7))))))))) rfl) x0) x1) x2) x3) x4) x5) x6) x7) x8)
theorem bits_Div64.q262137 (n : Nat) (m : Nat) : ∀ (x0 : Int) (x1 : Int) (x2 : Int) (x3 : Int) (x4 : Int) (x5 : Int) (x6 : Int) (x7 : Int) (x8 : Int), bits_Div64.A bits_LeadingZeros64.f n idJ 262137 [m] (bits_Div64.s262137 x0 x1 x2 x3 x4 x5 x6 x7 x8) = bits_Div64.l262137 n m x0 x1 x2 x3 x4 x5 x6 x7 x8 := by
  induction m with
  | zero => intros; rfl
  | succ m ih =>
    intro x0 x1 x2 x3 x4 x5 x6 x7 x8
    refine (bits_Div64.e262137 bits_LeadingZeros64.f n idJ m x0 x1 x2 x3 x4 x5 x6 x7 x8).trans ?_
    exact congrFun (congrFun (congrFun (congrFun (congrFun (congrFun (congrFun (congrFun (congrFun (congr (congrArg (bits_Div64.b262137 bits_LeadingZeros64.f) (funext fun y0 => (funext fun y1 => (funext fun y2 => (funext fun y3 => (funext fun y4 => (funext fun y5 => (funext fun y6 => (funext fun y7 => bits_Div64.q65535 n y0 y1 y2 y3 y4 y5 y6 y7))))))))) ((funext fun y0 => (funext fun y1 => (funext fun y2 => (funext fun y3 => (funext fun y4 => (funext fun y5 => (funext fun y6 => (funext fun y7 => (funext fun y8 => bits_Div64.q524273 n m y0 y1 y2 y3 y4 y5 y6 y7 y8))))))))).trans (by rw [show (fun y0 y1 y2 y3 y4 y5 y6 y7 y8 => bits_Div64.A bits_LeadingZeros64.f n idJ 262137 [m] (bits_Div64.s262137 y0 y1 y2 y3 y4 y5 y6 y7 y8)) = _ from (funext fun y0 => (funext fun y1 => (funext fun y2 => (funext fun y3 => (funext fun y4 => (funext fun y5 => (funext fun y6 => (funext fun y7 => (funext fun y8 => ih y0 y1 y2 y3 y4 y5 y6 y7 y8)))))))))]))) x0) x1) x2) x3) x4) x5) x6) x7) x8
theorem bits_Div64.eq (n : Nat) (a0 : Int) (a1 : Int) (a2 : Int) : afun (bits_Div64.cfg bits_LeadingZeros64.f) idJ bits_Div64.cuts n bits_Div64.code Tryd.f171.results.toList [false, false] [.int .u64 a0, .int .u64 a1, .int .u64 a2] bits_Div64.sg.out = bits_Div64.f n a0 a1 a2 := (bits_Div64.e0 bits_LeadingZeros64.f n idJ a0 a1 a2).trans (congrFun (congrFun (congrFun (congrArg (bits_Div64.b0 bits_LeadingZeros64.f) (funext fun y0 => (funext fun y1 => (funext fun y2 => (funext fun y3 => (funext fun y4 => (funext fun y5 => (funext fun y6 => (funext fun y7 => (funext fun y8 => bits_Div64.q262137 n n y0 y1 y2 y3 y4 y5 y6 y7 y8)))))))))) a0) a1) a2)
theorem bits_Div64.ok {n : Nat} {a0 : Int} {a1 : Int} {a2 : Int} {r : Int × Int} (h : bits_Div64.f n a0 a1 a2 = some r) : CallD Tryd.prog HW 171 [.int .u64 a0, .int .u64 a1, .int .u64 a2] (bits_Div64.sg.enc r) :=
  fun_some hwS Tryd.func171 (by kernel_rfl) (body := bits_Div64.code) (by kernel_rfl) tys_ok (c := bits_Div64.cfg bits_LeadingZeros64.f) (orCall_ok (bits_LeadingZeros64.call_ok (n := n)) noCall_ok) noW_ok (by kernel_rfl) (by kernel_rfl) (Nat.le_of_ble_eq_true (by kernel_rfl)) ((bits_Div64.eq n a0 a1 a2).trans h)
noncomputable def bits_Div64.call {α : Type} (g : Int → Int → Int → Option (Int × Int)) (ds : List D) (K : List D → Option α) : Option α := match ds with
  | [.int .u64 a0, .int .u64 a1, .int .u64 a2] => (g a0 a1 a2).bind fun r => K (bits_Div64.sg.enc r)
  | _ => none
theorem bits_Div64.call_ok {α : Type} {n : Nat} (ds : List D) (K : List D → Option α) (r : α) (h : bits_Div64.call (bits_Div64.f n) ds K = some r) : ∃ rs, K rs = some r ∧ CallD Tryd.prog HW 171 ds rs := by
  unfold bits_Div64.call at h
  split at h
  · obtain ⟨x, hx, hk⟩ := Option.bind_eq_some_iff.1 h
    exact ⟨_, hk, bits_Div64.ok (n := n) hx⟩
  · cases h
/-! ### nat_cut: function 168 -/
noncomputable def nat_cut.b0 (c133 : List Int → Option (Int)) (l0 : List Int) : Option (List Int × Int) := ((c133 l0).bind fun t1 => (if t1 > 4096 then some (([] : List Int), 2) else (if 0 ≤ t1 then (if t1 ≤ t1 then (if t1 ≤ (ln l0) then ((some (l0.take t1.toNat) : Option (List Int)).bind fun y2 => some (y2, 0)) else none) else none) else none)))
noncomputable def nat_cut.f (n : Nat) (l0 : List Int) : Option (List Int × Int) := nat_cut.b0 (nat_size.f n) l0
noncomputable def nat_cut.sg : Sig (List Int × Int) := s2 (sRow .u64) (s1 (sInt .i64))
noncomputable def nat_cut.code : Code := (Tryd.f168.body).getD .skip
noncomputable def nat_cut.cfg (c133 : List Int → Option (Int)) : Cfg (List Int × Int) := { T := tys, call := orCall 133 (nat_size.call c133) (noCall) }
noncomputable def nat_cut.cuts : List (Nat × List (Nat × Want)) := []
theorem nat_cut.e0 (c133 : List Int → Option (Int)) (n : Nat) (J : Nat → (ASt → Option (List Int × Int)) → ASt → Option (List Int × Int)) (l0 : List Int) : afun (nat_cut.cfg c133) J nat_cut.cuts n nat_cut.code Tryd.f168.results.toList [false, false] [.ro .u64 l0] nat_cut.sg.out = nat_cut.b0 c133 l0 := by kernel_rfl
theorem nat_cut.eq (n : Nat) (l0 : List Int) : afun (nat_cut.cfg (nat_size.f n)) idJ nat_cut.cuts n nat_cut.code Tryd.f168.results.toList [false, false] [.ro .u64 l0] nat_cut.sg.out = nat_cut.f n l0 := (nat_cut.e0 (nat_size.f n) n idJ l0).trans (rfl)
theorem nat_cut.ok {n : Nat} {l0 : List Int} {r : List Int × Int} (h : nat_cut.f n l0 = some r) : CallD Tryd.prog HW 168 [.ro .u64 l0] (nat_cut.sg.enc r) :=
  fun_some hwS Tryd.func168 (by kernel_rfl) (body := nat_cut.code) (by kernel_rfl) tys_ok (c := nat_cut.cfg (nat_size.f n)) (orCall_ok (nat_size.call_ok (n := n)) noCall_ok) noW_ok (by kernel_rfl) (by kernel_rfl) (Nat.le_of_ble_eq_true (by kernel_rfl)) ((nat_cut.eq n l0).trans h)
noncomputable def nat_cut.call {α : Type} (g : List Int → Option (List Int × Int)) (ds : List D) (K : List D → Option α) : Option α := match ds with
  | [.ro .u64 l0] => (g l0).bind fun r => K (nat_cut.sg.enc r)
  | _ => none
theorem nat_cut.call_ok {α : Type} {n : Nat} (ds : List D) (K : List D → Option α) (r : α) (h : nat_cut.call (nat_cut.f n) ds K = some r) : ∃ rs, K rs = some r ∧ CallD Tryd.prog HW 168 ds rs := by
  unfold nat_cut.call at h
  split at h
  · obtain ⟨x, hx, hk⟩ := Option.bind_eq_some_iff.1 h
    exact ⟨_, hk, nat_cut.ok (n := n) hx⟩
  · cases h
/-! ### nat_DivSmall: function 124 -/
noncomputable def nat_DivSmall.b0 (c133 : List Int → Option (Int)) (c166 : List Int → Option (Bool)) (c168 : List Int → Option (List Int × Int)) (c171 : Int → Int → Int → Option (Int × Int)) (k2037 : List Int → Int → Int → Int → List Int → Option (List Int × Int × Int)) (l0 : List Int) (a1 : Int) : Option (List Int × Int × Int) := ((c166 l0).bind fun t1 => (if t1 = true then some (([] : List Int), 0, 2) else (if a1 = 0 then some (([] : List Int), 0, 4) else ((c133 l0).bind fun t2 => (if 0 ≤ t2 then (if t2 ≤ (ln l0) then ((some (l0.take t2.toNat) : Option (List Int)).bind fun y3 => (if 0 ≤ (ln y3) then (if (ln y3).toNat ≤ 35184372088832 then k2037 y3 a1 0 (wrap64 ((ln y3) - 1)) (List.replicate (ln y3).toNat (0 : Int)) else none) else none)) else none) else none)))))
noncomputable def nat_DivSmall.b255 (c133 : List Int → Option (Int)) (c166 : List Int → Option (Bool)) (c168 : List Int → Option (List Int × Int)) (c171 : Int → Int → Int → Option (Int × Int)) (x0 : Int) (x1 : List Int) : Option (List Int × Int × Int) := ((c168 x1).bind fun t1 => some (t1.1, x0, t1.2))
noncomputable def nat_DivSmall.b2037 (c133 : List Int → Option (Int)) (c166 : List Int → Option (Bool)) (c168 : List Int → Option (List Int × Int)) (c171 : Int → Int → Int → Option (Int × Int)) (k255 : Int → List Int → Option (List Int × Int × Int)) (k2037 : List Int → Int → Int → Int → List Int → Option (List Int × Int × Int)) (x0 : List Int) (x1 : Int) (x2 : Int) (x3 : Int) (x4 : List Int) : Option (List Int × Int × Int) := (if x3 ≥ 0 then (if 0 ≤ x3 then (if x3 < (ln x0) then ((c171 x2 (rd x0 x3) x1).bind fun t1 => (if 0 ≤ x3 then (if x3 < (ln x4) then k2037 x0 x1 t1.2 (wrap64 (x3 - 1)) (x4.set (x3 : Int).toNat t1.1) else none) else none)) else none) else none) else k255 x2 x4)
noncomputable def nat_DivSmall.l255 (n : Nat) (x0 : Int) (x1 : List Int) : Option (List Int × Int × Int) := nat_DivSmall.b255 (nat_size.f n) (nat_big.f n) (nat_cut.f n) (bits_Div64.f n) x0 x1
noncomputable def nat_DivSmall.l2037 (n : Nat) : Nat → List Int → Int → Int → Int → List Int → Option (List Int × Int × Int)
  | 0, _, _, _, _, _ => none
  | m + 1, x0, x1, x2, x3, x4 => nat_DivSmall.b2037 (nat_size.f n) (nat_big.f n) (nat_cut.f n) (bits_Div64.f n) (nat_DivSmall.l255 n) (nat_DivSmall.l2037 n m) x0 x1 x2 x3 x4
noncomputable def nat_DivSmall.f (n : Nat) (l0 : List Int) (a1 : Int) : Option (List Int × Int × Int) := nat_DivSmall.b0 (nat_size.f n) (nat_big.f n) (nat_cut.f n) (bits_Div64.f n) (nat_DivSmall.l2037 n n) l0 a1
noncomputable def nat_DivSmall.sg : Sig (List Int × Int × Int) := s2 (sRow .u64) (s2 (sInt .u64) (s1 (sInt .i64)))
noncomputable def nat_DivSmall.code : Code := (Tryd.f124.body).getD .skip
noncomputable def nat_DivSmall.cfg (c133 : List Int → Option (Int)) (c166 : List Int → Option (Bool)) (c168 : List Int → Option (List Int × Int)) (c171 : Int → Int → Int → Option (Int × Int)) : Cfg (List Int × Int × Int) := { T := tys, call := orCall 133 (nat_size.call c133) (orCall 166 (nat_big.call c166) (orCall 168 (nat_cut.call c168) (orCall 171 (bits_Div64.call c171) (noCall)))) }
noncomputable def nat_DivSmall.cuts : List (Nat × List (Nat × Want)) := [(255, [(7, .keep), (8, .keep)]), (2037, [(0, .keep), (1, .keep), (7, .keep), (8, .keep), (9, .keep)])]
noncomputable def nat_DivSmall.s255 (x0 : Int) (x1 : List Int) : ASt := ⟨[(7, .own 0), (8, .int .u64 x0)], [.ints 22 .u64 x1]⟩
noncomputable def nat_DivSmall.s2037 (x0 : List Int) (x1 : Int) (x2 : Int) (x3 : Int) (x4 : List Int) : ASt := ⟨[(0, .ro .u64 x0), (1, .int .u64 x1), (7, .own 0), (8, .int .u64 x2), (9, .int .i64 x3)], [.ints 22 .u64 x4]⟩
noncomputable def nat_DivSmall.A (c133 : List Int → Option (Int)) (c166 : List Int → Option (Bool)) (c168 : List Int → Option (List Int × Int)) (c171 : Int → Int → Int → Option (Int × Int)) (n : Nat) (J : Nat → (ASt → Option (List Int × Int × Int)) → ASt → Option (List Int × Int × Int)) (q : Nat) (ms : List Nat) : ASt → Option (List Int × Int × Int) := acont (nat_DivSmall.cfg c133 c166 c168 c171) J nat_DivSmall.cuts n q nat_DivSmall.code 1 ms (aend (nat_DivSmall.cfg c133 c166 c168 c171) Tryd.f124.results.toList [false, false, false] nat_DivSmall.sg.out)
theorem nat_DivSmall.e0 (c133 : List Int → Option (Int)) (c166 : List Int → Option (Bool)) (c168 : List Int → Option (List Int × Int)) (c171 : Int → Int → Int → Option (Int × Int)) (n : Nat) (J : Nat → (ASt → Option (List Int × Int × Int)) → ASt → Option (List Int × Int × Int)) (l0 : List Int) (a1 : Int) : afun (nat_DivSmall.cfg c133 c166 c168 c171) J nat_DivSmall.cuts n nat_DivSmall.code Tryd.f124.results.toList [false, false, false] [.ro .u64 l0, .int .u64 a1] nat_DivSmall.sg.out = nat_DivSmall.b0 c133 c166 c168 c171 (fun y0 y1 y2 y3 y4 => J 2037 (nat_DivSmall.A c133 c166 c168 c171 n J 2037 [n]) (nat_DivSmall.s2037 y0 y1 y2 y3 y4)) l0 a1 := by kernel_rfl
theorem nat_DivSmall.e255 (c133 : List Int → Option (Int)) (c166 : List Int → Option (Bool)) (c168 : List Int → Option (List Int × Int)) (c171 : Int → Int → Int → Option (Int × Int)) (n : Nat) (J : Nat → (ASt → Option (List Int × Int × Int)) → ASt → Option (List Int × Int × Int)) (x0 : Int) (x1 : List Int) : nat_DivSmall.A c133 c166 c168 c171 n J 255 [] (nat_DivSmall.s255 x0 x1) = nat_DivSmall.b255 c133 c166 c168 c171 x0 x1 := by kernel_rfl
theorem nat_DivSmall.e2037 (c133 : List Int → Option (Int)) (c166 : List Int → Option (Bool)) (c168 : List Int → Option (List Int × Int)) (c171 : Int → Int → Int → Option (Int × Int)) (n : Nat) (J : Nat → (ASt → Option (List Int × Int × Int)) → ASt → Option (List Int × Int × Int)) (m : Nat) (x0 : List Int) (x1 : Int) (x2 : Int) (x3 : Int) (x4 : List Int) : nat_DivSmall.A c133 c166 c168 c171 n J 2037 [m + 1] (nat_DivSmall.s2037 x0 x1 x2 x3 x4) = nat_DivSmall.b2037 c133 c166 c168 c171 (fun y0 y1 => J 255 (nat_DivSmall.A c133 c166 c168 c171 n J 255 []) (nat_DivSmall.s255 y0 y1)) (fun y0 y1 y2 y3 y4 => J 2037 (nat_DivSmall.A c133 c166 c168 c171 n J 2037 [m]) (nat_DivSmall.s2037 y0 y1 y2 y3 y4)) x0 x1 x2 x3 x4 := by kernel_rfl
theorem nat_DivSmall.q255 (n : Nat) (x0 : Int) (x1 : List Int) : nat_DivSmall.A (nat_size.f n) (nat_big.f n) (nat_cut.f n) (bits_Div64.f n) n idJ 255 [] (nat_DivSmall.s255 x0 x1) = nat_DivSmall.l255 n x0 x1 := (nat_DivSmall.e255 (nat_size.f n) (nat_big.f n) (nat_cut.f n) (bits_Div64.f n) n idJ x0 x1).trans (rfl)
theorem nat_DivSmall.q2037 (n : Nat) (m : Nat) : ∀ (x0 : List Int) (x1 : Int) (x2 : Int) (x3 : Int) (x4 : List Int), nat_DivSmall.A (nat_size.f n) (nat_big.f n) (nat_cut.f n) (bits_Div64.f n) n idJ 2037 [m] (nat_DivSmall.s2037 x0 x1 x2 x3 x4) = nat_DivSmall.l2037 n m x0 x1 x2 x3 x4 := by
  induction m with
  | zero => intros; rfl
  | succ m ih =>
    intro x0 x1 x2 x3 x4
    refine (nat_DivSmall.e2037 (nat_size.f n) (nat_big.f n) (nat_cut.f n) (bits_Div64.f n) n idJ m x0 x1 x2 x3 x4).trans ?_
    exact congrFun (congrFun (congrFun (congrFun (congrFun (congr (congrArg (nat_DivSmall.b2037 (nat_size.f n) (nat_big.f n) (nat_cut.f n) (bits_Div64.f n)) (funext fun y0 => (funext fun y1 => nat_DivSmall.q255 n y0 y1))) (funext fun y0 => (funext fun y1 => (funext fun y2 => (funext fun y3 => (funext fun y4 => ih y0 y1 y2 y3 y4)))))) x0) x1) x2) x3) x4
theorem nat_DivSmall.eq (n : Nat) (l0 : List Int) (a1 : Int) : afun (nat_DivSmall.cfg (nat_size.f n) (nat_big.f n) (nat_cut.f n) (bits_Div64.f n)) idJ nat_DivSmall.cuts n nat_DivSmall.code Tryd.f124.results.toList [false, false, false] [.ro .u64 l0, .int .u64 a1] nat_DivSmall.sg.out = nat_DivSmall.f n l0 a1 := (nat_DivSmall.e0 (nat_size.f n) (nat_big.f n) (nat_cut.f n) (bits_Div64.f n) n idJ l0 a1).trans (congrFun (congrFun (congrArg (nat_DivSmall.b0 (nat_size.f n) (nat_big.f n) (nat_cut.f n) (bits_Div64.f n)) (funext fun y0 => (funext fun y1 => (funext fun y2 => (funext fun y3 => (funext fun y4 => nat_DivSmall.q2037 n n y0 y1 y2 y3 y4)))))) l0) a1)
theorem nat_DivSmall.ok {n : Nat} {l0 : List Int} {a1 : Int} {r : List Int × Int × Int} (h : nat_DivSmall.f n l0 a1 = some r) : CallD Tryd.prog HW 124 [.ro .u64 l0, .int .u64 a1] (nat_DivSmall.sg.enc r) :=
  fun_some hwS Tryd.func124 (by kernel_rfl) (body := nat_DivSmall.code) (by kernel_rfl) tys_ok (c := nat_DivSmall.cfg (nat_size.f n) (nat_big.f n) (nat_cut.f n) (bits_Div64.f n)) (orCall_ok (nat_size.call_ok (n := n)) (orCall_ok (nat_big.call_ok (n := n)) (orCall_ok (nat_cut.call_ok (n := n)) (orCall_ok (bits_Div64.call_ok (n := n)) noCall_ok)))) noW_ok (by kernel_rfl) (by kernel_rfl) (Nat.le_of_ble_eq_true (by kernel_rfl)) ((nat_DivSmall.eq n l0 a1).trans h)
noncomputable def nat_DivSmall.call {α : Type} (g : List Int → Int → Option (List Int × Int × Int)) (ds : List D) (K : List D → Option α) : Option α := match ds with
  | [.ro .u64 l0, .int .u64 a1] => (g l0 a1).bind fun r => K (nat_DivSmall.sg.enc r)
  | _ => none
theorem nat_DivSmall.call_ok {α : Type} {n : Nat} (ds : List D) (K : List D → Option α) (r : α) (h : nat_DivSmall.call (nat_DivSmall.f n) ds K = some r) : ∃ rs, K rs = some r ∧ CallD Tryd.prog HW 124 ds rs := by
  unfold nat_DivSmall.call at h
  split at h
  · obtain ⟨x, hx, hk⟩ := Option.bind_eq_some_iff.1 h
    exact ⟨_, hk, nat_DivSmall.ok (n := n) hx⟩
  · cases h
/-! ### nat_FromUint: function 118 -/
noncomputable def nat_FromUint.b0 (a0 : Int) : Option (List Int) := (if a0 = 0 then some ([] : List Int) else some [a0])
noncomputable def nat_FromUint.f (a0 : Int) : Option (List Int) := nat_FromUint.b0 a0
noncomputable def nat_FromUint.sg : Sig (List Int) := s1 (sRow .u64)
noncomputable def nat_FromUint.code : Code := (Tryd.f118.body).getD .skip
noncomputable def nat_FromUint.cfg : Cfg (List Int) := { T := tys, call := noCall }
noncomputable def nat_FromUint.cuts : List (Nat × List (Nat × Want)) := []
theorem nat_FromUint.e0 (n : Nat) (J : Nat → (ASt → Option (List Int)) → ASt → Option (List Int)) (a0 : Int) : afun (nat_FromUint.cfg) J nat_FromUint.cuts n nat_FromUint.code Tryd.f118.results.toList [false] [.int .u64 a0] nat_FromUint.sg.out = nat_FromUint.b0 a0 := by kernel_rfl
theorem nat_FromUint.eq (n : Nat) (a0 : Int) : afun (nat_FromUint.cfg) idJ nat_FromUint.cuts n nat_FromUint.code Tryd.f118.results.toList [false] [.int .u64 a0] nat_FromUint.sg.out = nat_FromUint.f a0 := (nat_FromUint.e0 n idJ a0).trans (rfl)
theorem nat_FromUint.ok {n : Nat} {a0 : Int} {r : List Int} (h : nat_FromUint.f a0 = some r) : CallD Tryd.prog HW 118 [.int .u64 a0] (nat_FromUint.sg.enc r) :=
  fun_some hwS Tryd.func118 (by kernel_rfl) (body := nat_FromUint.code) (by kernel_rfl) tys_ok (c := nat_FromUint.cfg) noCall_ok noW_ok (by kernel_rfl) (by kernel_rfl) (Nat.le_of_ble_eq_true (by kernel_rfl)) ((nat_FromUint.eq n a0).trans h)
noncomputable def nat_FromUint.call {α : Type} (g : Int → Option (List Int)) (ds : List D) (K : List D → Option α) : Option α := match ds with
  | [.int .u64 a0] => (g a0).bind fun r => K (nat_FromUint.sg.enc r)
  | _ => none
theorem nat_FromUint.call_ok {α : Type} {n : Nat} (ds : List D) (K : List D → Option α) (r : α) (h : nat_FromUint.call nat_FromUint.f ds K = some r) : ∃ rs, K rs = some r ∧ CallD Tryd.prog HW 118 ds rs := by
  unfold nat_FromUint.call at h
  split at h
  · obtain ⟨x, hx, hk⟩ := Option.bind_eq_some_iff.1 h
    exact ⟨_, hk, nat_FromUint.ok (n := n) hx⟩
  · cases h
/-! ### quot_raised: function 178 -/
noncomputable def quot_raised.b0 (k117 : Int → Int → List Int → Int → Int → List Int → Option (List Int)) (l0 : List Int) (a1 : Int) (a2 : Int) : Option (List Int) := (if 0 ≤ a2 then (if a2.toNat ≤ 35184372088832 then k117 a1 a2 l0 (ln l0) 0 (List.replicate a2.toNat (0 : Int)) else none) else none)
noncomputable def quot_raised.b117 (k117 : Int → Int → List Int → Int → Int → List Int → Option (List Int)) (x0 : Int) (x1 : Int) (x2 : List Int) (x3 : Int) (x4 : Int) (x5 : List Int) : Option (List Int) := (if x4 < x3 then (if 0 ≤ x4 then (if x4 < (ln x2) then (if 0 ≤ x4 then (if x4 < (ln x5) then (if 0 ≤ (IntKind.u64.wrap x0) then (if 0 ≤ x4 then (if x4 < (ln x5) then (if (wrap64 (x4 + 1)) < x1 then (if x0 > 0 then (if 0 ≤ (IntKind.u64.wrap (wrap64 (64 - x0))) then (if 0 ≤ (wrap64 (x4 + 1)) then (if (wrap64 (x4 + 1)) < (ln (x5.set (x4 : Int).toNat (Go.bits .or .u64 (rd x5 x4) (shl .u64 (rd x2 x4) (IntKind.u64.wrap x0))))) then k117 x0 x1 x2 x3 (wrap64 (x4 + 1)) ((x5.set (x4 : Int).toNat (Go.bits .or .u64 (rd x5 x4) (shl .u64 (rd x2 x4) (IntKind.u64.wrap x0)))).set (wrap64 (x4 + 1) : Int).toNat (shr .u64 (rd x2 x4) (IntKind.u64.wrap (wrap64 (64 - x0))))) else none) else none) else none) else k117 x0 x1 x2 x3 (wrap64 (x4 + 1)) (x5.set (x4 : Int).toNat (Go.bits .or .u64 (rd x5 x4) (shl .u64 (rd x2 x4) (IntKind.u64.wrap x0))))) else k117 x0 x1 x2 x3 (wrap64 (x4 + 1)) (x5.set (x4 : Int).toNat (Go.bits .or .u64 (rd x5 x4) (shl .u64 (rd x2 x4) (IntKind.u64.wrap x0))))) else none) else none) else none) else none) else none) else none) else none) else some x5)
noncomputable def quot_raised.l117 (n : Nat) : Nat → Int → Int → List Int → Int → Int → List Int → Option (List Int)
  | 0, _, _, _, _, _, _ => none
  | m + 1, x0, x1, x2, x3, x4, x5 => quot_raised.b117 (quot_raised.l117 n m) x0 x1 x2 x3 x4 x5
noncomputable def quot_raised.f (n : Nat) (l0 : List Int) (a1 : Int) (a2 : Int) : Option (List Int) := quot_raised.b0 (quot_raised.l117 n n) l0 a1 a2
noncomputable def quot_raised.sg : Sig (List Int) := s1 (sOwn 22 .u64)
noncomputable def quot_raised.code : Code := (Tryd.f178.body).getD .skip
noncomputable def quot_raised.cfg : Cfg (List Int) := { T := tys, call := noCall }
noncomputable def quot_raised.cuts : List (Nat × List (Nat × Want)) := [(117, [(1, .keep), (2, .keep), (7, .keep), (12, .keep), (13, .keep), (14, .keep)])]
noncomputable def quot_raised.s117 (x0 : Int) (x1 : Int) (x2 : List Int) (x3 : Int) (x4 : Int) (x5 : List Int) : ASt := ⟨[(1, .int .i64 x0), (2, .int .i64 x1), (7, .own 0), (12, .ro .u64 x2), (13, .int .i64 x3), (14, .int .i64 x4)], [.ints 22 .u64 x5]⟩
noncomputable def quot_raised.A (n : Nat) (J : Nat → (ASt → Option (List Int)) → ASt → Option (List Int)) (q : Nat) (ms : List Nat) : ASt → Option (List Int) := acont (quot_raised.cfg) J quot_raised.cuts n q quot_raised.code 1 ms (aend (quot_raised.cfg) Tryd.f178.results.toList [true] quot_raised.sg.out)
theorem quot_raised.e0 (n : Nat) (J : Nat → (ASt → Option (List Int)) → ASt → Option (List Int)) (l0 : List Int) (a1 : Int) (a2 : Int) : afun (quot_raised.cfg) J quot_raised.cuts n quot_raised.code Tryd.f178.results.toList [true] [.ro .u64 l0, .int .i64 a1, .int .i64 a2] quot_raised.sg.out = quot_raised.b0 (fun y0 y1 y2 y3 y4 y5 => J 117 (quot_raised.A n J 117 [n]) (quot_raised.s117 y0 y1 y2 y3 y4 y5)) l0 a1 a2 := by kernel_rfl
theorem quot_raised.e117 (n : Nat) (J : Nat → (ASt → Option (List Int)) → ASt → Option (List Int)) (m : Nat) (x0 : Int) (x1 : Int) (x2 : List Int) (x3 : Int) (x4 : Int) (x5 : List Int) : quot_raised.A n J 117 [m + 1] (quot_raised.s117 x0 x1 x2 x3 x4 x5) = quot_raised.b117 (fun y0 y1 y2 y3 y4 y5 => J 117 (quot_raised.A n J 117 [m]) (quot_raised.s117 y0 y1 y2 y3 y4 y5)) x0 x1 x2 x3 x4 x5 := by kernel_rfl
theorem quot_raised.q117 (n : Nat) (m : Nat) : ∀ (x0 : Int) (x1 : Int) (x2 : List Int) (x3 : Int) (x4 : Int) (x5 : List Int), quot_raised.A n idJ 117 [m] (quot_raised.s117 x0 x1 x2 x3 x4 x5) = quot_raised.l117 n m x0 x1 x2 x3 x4 x5 := by
  induction m with
  | zero => intros; rfl
  | succ m ih =>
    intro x0 x1 x2 x3 x4 x5
    refine (quot_raised.e117 n idJ m x0 x1 x2 x3 x4 x5).trans ?_
    exact congrFun (congrFun (congrFun (congrFun (congrFun (congrFun (congrArg quot_raised.b117 (funext fun y0 => (funext fun y1 => (funext fun y2 => (funext fun y3 => (funext fun y4 => (funext fun y5 => ih y0 y1 y2 y3 y4 y5))))))) x0) x1) x2) x3) x4) x5
theorem quot_raised.eq (n : Nat) (l0 : List Int) (a1 : Int) (a2 : Int) : afun (quot_raised.cfg) idJ quot_raised.cuts n quot_raised.code Tryd.f178.results.toList [true] [.ro .u64 l0, .int .i64 a1, .int .i64 a2] quot_raised.sg.out = quot_raised.f n l0 a1 a2 := (quot_raised.e0 n idJ l0 a1 a2).trans (congrFun (congrFun (congrFun (congrArg quot_raised.b0 (funext fun y0 => (funext fun y1 => (funext fun y2 => (funext fun y3 => (funext fun y4 => (funext fun y5 => quot_raised.q117 n n y0 y1 y2 y3 y4 y5))))))) l0) a1) a2)
theorem quot_raised.ok {n : Nat} {l0 : List Int} {a1 : Int} {a2 : Int} {r : List Int} (h : quot_raised.f n l0 a1 a2 = some r) : CallD Tryd.prog HW 178 [.ro .u64 l0, .int .i64 a1, .int .i64 a2] (quot_raised.sg.enc r) :=
  fun_some hwS Tryd.func178 (by kernel_rfl) (body := quot_raised.code) (by kernel_rfl) tys_ok (c := quot_raised.cfg) noCall_ok noW_ok (by kernel_rfl) (by kernel_rfl) (Nat.le_of_ble_eq_true (by kernel_rfl)) ((quot_raised.eq n l0 a1 a2).trans h)
noncomputable def quot_raised.call {α : Type} (g : List Int → Int → Int → Option (List Int)) (ds : List D) (K : List D → Option α) : Option α := match ds with
  | [.ro .u64 l0, .int .i64 a1, .int .i64 a2] => (g l0 a1 a2).bind fun r => K (quot_raised.sg.enc r)
  | _ => none
theorem quot_raised.call_ok {α : Type} {n : Nat} (ds : List D) (K : List D → Option α) (r : α) (h : quot_raised.call (quot_raised.f n) ds K = some r) : ∃ rs, K rs = some r ∧ CallD Tryd.prog HW 178 ds rs := by
  unfold quot_raised.call at h
  split at h
  · obtain ⟨x, hx, hk⟩ := Option.bind_eq_some_iff.1 h
    exact ⟨_, hk, quot_raised.ok (n := n) hx⟩
  · cases h
/-! ### quot_guess: function 179 -/
noncomputable def quot_guess.b0 (c171 : Int → Int → Int → Option (Int × Int)) (l0 : List Int) (l1 : List Int) : Option (Int) := (if 0 ≤ (ln l1) then (if (ln l1) < (ln l0) then (if 0 ≤ (wrap64 ((ln l1) - 1)) then (if (wrap64 ((ln l1) - 1)) < (ln l1) then (if (rd l0 (ln l1)) ≥ (rd l1 (wrap64 ((ln l1) - 1))) then some 18446744073709551615 else (if 0 ≤ (ln l1) then (if (ln l1) < (ln l0) then (if 0 ≤ (wrap64 ((ln l1) - 1)) then (if (wrap64 ((ln l1) - 1)) < (ln l0) then (if 0 ≤ (wrap64 ((ln l1) - 1)) then (if (wrap64 ((ln l1) - 1)) < (ln l1) then ((c171 (rd l0 (ln l1)) (rd l0 (wrap64 ((ln l1) - 1))) (rd l1 (wrap64 ((ln l1) - 1)))).bind fun t1 => some t1.1) else none) else none) else none) else none) else none) else none)) else none) else none) else none) else none)
noncomputable def quot_guess.f (n : Nat) (l0 : List Int) (l1 : List Int) : Option (Int) := quot_guess.b0 (bits_Div64.f n) l0 l1
noncomputable def quot_guess.sg : Sig (Int) := s1 (sInt .u64)
noncomputable def quot_guess.code : Code := (Tryd.f179.body).getD .skip
noncomputable def quot_guess.cfg (c171 : Int → Int → Int → Option (Int × Int)) : Cfg (Int) := { T := tys, call := orCall 171 (bits_Div64.call c171) (noCall) }
noncomputable def quot_guess.cuts : List (Nat × List (Nat × Want)) := []
theorem quot_guess.e0 (c171 : Int → Int → Int → Option (Int × Int)) (n : Nat) (J : Nat → (ASt → Option (Int)) → ASt → Option (Int)) (l0 : List Int) (l1 : List Int) : afun (quot_guess.cfg c171) J quot_guess.cuts n quot_guess.code Tryd.f179.results.toList [false] [.ro .u64 l0, .ro .u64 l1] quot_guess.sg.out = quot_guess.b0 c171 l0 l1 := by kernel_rfl
theorem quot_guess.eq (n : Nat) (l0 : List Int) (l1 : List Int) : afun (quot_guess.cfg (bits_Div64.f n)) idJ quot_guess.cuts n quot_guess.code Tryd.f179.results.toList [false] [.ro .u64 l0, .ro .u64 l1] quot_guess.sg.out = quot_guess.f n l0 l1 := (quot_guess.e0 (bits_Div64.f n) n idJ l0 l1).trans (rfl)
theorem quot_guess.ok {n : Nat} {l0 : List Int} {l1 : List Int} {r : Int} (h : quot_guess.f n l0 l1 = some r) : CallD Tryd.prog HW 179 [.ro .u64 l0, .ro .u64 l1] (quot_guess.sg.enc r) :=
  fun_some hwS Tryd.func179 (by kernel_rfl) (body := quot_guess.code) (by kernel_rfl) tys_ok (c := quot_guess.cfg (bits_Div64.f n)) (orCall_ok (bits_Div64.call_ok (n := n)) noCall_ok) noW_ok (by kernel_rfl) (by kernel_rfl) (Nat.le_of_ble_eq_true (by kernel_rfl)) ((quot_guess.eq n l0 l1).trans h)
noncomputable def quot_guess.call {α : Type} (g : List Int → List Int → Option (Int)) (ds : List D) (K : List D → Option α) : Option α := match ds with
  | [.ro .u64 l0, .ro .u64 l1] => (g l0 l1).bind fun r => K (quot_guess.sg.enc r)
  | _ => none
theorem quot_guess.call_ok {α : Type} {n : Nat} (ds : List D) (K : List D → Option α) (r : α) (h : quot_guess.call (quot_guess.f n) ds K = some r) : ∃ rs, K rs = some r ∧ CallD Tryd.prog HW 179 ds rs := by
  unfold quot_guess.call at h
  split at h
  · obtain ⟨x, hx, hk⟩ := Option.bind_eq_some_iff.1 h
    exact ⟨_, hk, quot_guess.ok (n := n) hx⟩
  · cases h
/-! ### bits_Mul64: function 169 -/
noncomputable def bits_Mul64.b0 (a0 : Int) (a1 : Int) : Option (Int × Int) := some (IntKind.u64.wrap ((IntKind.u64.wrap ((IntKind.u64.wrap ((a0 / 4294967296) * (a1 / 4294967296))) + ((IntKind.u64.wrap ((IntKind.u64.wrap ((a0 / 4294967296) * (Go.bits .and .u64 a1 4294967295))) + ((IntKind.u64.wrap ((Go.bits .and .u64 a0 4294967295) * (Go.bits .and .u64 a1 4294967295))) / 4294967296))) / 4294967296))) + ((IntKind.u64.wrap ((Go.bits .and .u64 (IntKind.u64.wrap ((IntKind.u64.wrap ((a0 / 4294967296) * (Go.bits .and .u64 a1 4294967295))) + ((IntKind.u64.wrap ((Go.bits .and .u64 a0 4294967295) * (Go.bits .and .u64 a1 4294967295))) / 4294967296))) 4294967295) + (IntKind.u64.wrap ((Go.bits .and .u64 a0 4294967295) * (a1 / 4294967296))))) / 4294967296)), IntKind.u64.wrap (a0 * a1))
noncomputable def bits_Mul64.f (a0 : Int) (a1 : Int) : Option (Int × Int) := bits_Mul64.b0 a0 a1
noncomputable def bits_Mul64.sg : Sig (Int × Int) := s2 (sInt .u64) (s1 (sInt .u64))
noncomputable def bits_Mul64.code : Code := (Tryd.f169.body).getD .skip
noncomputable def bits_Mul64.cfg : Cfg (Int × Int) := { T := tys, call := noCall }
noncomputable def bits_Mul64.cuts : List (Nat × List (Nat × Want)) := []
theorem bits_Mul64.e0 (n : Nat) (J : Nat → (ASt → Option (Int × Int)) → ASt → Option (Int × Int)) (a0 : Int) (a1 : Int) : afun (bits_Mul64.cfg) J bits_Mul64.cuts n bits_Mul64.code Tryd.f169.results.toList [false, false] [.int .u64 a0, .int .u64 a1] bits_Mul64.sg.out = bits_Mul64.b0 a0 a1 := by kernel_rfl
theorem bits_Mul64.eq (n : Nat) (a0 : Int) (a1 : Int) : afun (bits_Mul64.cfg) idJ bits_Mul64.cuts n bits_Mul64.code Tryd.f169.results.toList [false, false] [.int .u64 a0, .int .u64 a1] bits_Mul64.sg.out = bits_Mul64.f a0 a1 := (bits_Mul64.e0 n idJ a0 a1).trans (rfl)
theorem bits_Mul64.ok {n : Nat} {a0 : Int} {a1 : Int} {r : Int × Int} (h : bits_Mul64.f a0 a1 = some r) : CallD Tryd.prog HW 169 [.int .u64 a0, .int .u64 a1] (bits_Mul64.sg.enc r) :=
  fun_some hwS Tryd.func169 (by kernel_rfl) (body := bits_Mul64.code) (by kernel_rfl) tys_ok (c := bits_Mul64.cfg) noCall_ok noW_ok (by kernel_rfl) (by kernel_rfl) (Nat.le_of_ble_eq_true (by kernel_rfl)) ((bits_Mul64.eq n a0 a1).trans h)
noncomputable def bits_Mul64.call {α : Type} (g : Int → Int → Option (Int × Int)) (ds : List D) (K : List D → Option α) : Option α := match ds with
  | [.int .u64 a0, .int .u64 a1] => (g a0 a1).bind fun r => K (bits_Mul64.sg.enc r)
  | _ => none
theorem bits_Mul64.call_ok {α : Type} {n : Nat} (ds : List D) (K : List D → Option α) (r : α) (h : bits_Mul64.call bits_Mul64.f ds K = some r) : ∃ rs, K rs = some r ∧ CallD Tryd.prog HW 169 ds rs := by
  unfold bits_Mul64.call at h
  split at h
  · obtain ⟨x, hx, hk⟩ := Option.bind_eq_some_iff.1 h
    exact ⟨_, hk, bits_Mul64.ok (n := n) hx⟩
  · cases h
/-! ### bits_Add64: function 167 -/
def bits_Add64.f (a0 : Int) (a1 : Int) (a2 : Int) : Option (Int × Int) := if 0 ≤ a0 ∧ 0 ≤ a1 ∧ 0 ≤ a2 ∧ a2 ≤ 1 then some ((a0 + a1 + a2) % 18446744073709551616, (a0 + a1 + a2) / 18446744073709551616) else none
def bits_Add64.sg : Sig (Int × Int) := s2 (sInt .u64) (s1 (sInt .u64))
theorem bits_Add64.ok {a0 a1 a2 : Int} {r : Int × Int} (h : bits_Add64.f a0 a1 a2 = some r) : CallD Tryd.prog HW 167 [.int .u64 a0, .int .u64 a1, .int .u64 a2] (bits_Add64.sg.enc r) := by
  unfold bits_Add64.f at h
  split at h
  · rename_i hh
    obtain rfl := Option.some.inj h
    exact calld_scal rfl rfl fun w _ => .inr ⟨_, _, run_add64' Tryd.func167 (by kernel_rfl) (by kernel_rfl) (by kernel_rfl) (by kernel_rfl) a0 a1 a2 hh.1 hh.2.1 hh.2.2.1 hh.2.2.2 w, rfl, rfl⟩
  · cases h
noncomputable def bits_Add64.call {α : Type} (g : Int → Int → Int → Option (Int × Int)) (ds : List D) (K : List D → Option α) : Option α := match ds with
  | [.int .u64 a0, .int .u64 a1, .int .u64 a2] => (g a0 a1 a2).bind fun r => K (bits_Add64.sg.enc r)
  | _ => none
theorem bits_Add64.call_ok {α : Type} {n : Nat} (ds : List D) (K : List D → Option α) (r : α) (h : bits_Add64.call bits_Add64.f ds K = some r) : ∃ rs, K rs = some r ∧ CallD Tryd.prog HW 167 ds rs := by
  unfold bits_Add64.call at h
  split at h
  · obtain ⟨x, hx, hk⟩ := Option.bind_eq_some_iff.1 h
    exact ⟨_, hk, bits_Add64.ok hx⟩
  · cases h
/-! ### bits_Sub64: function 170 -/
def bits_Sub64.f (a0 : Int) (a1 : Int) (a2 : Int) : Option (Int × Int) := if 0 ≤ a0 ∧ 0 ≤ a1 ∧ a1 < 18446744073709551616 ∧ 0 ≤ a2 ∧ a2 ≤ 1 then some ((a0 - a1 - a2) % 18446744073709551616, if a0 < a1 + a2 then 1 else 0) else none
def bits_Sub64.sg : Sig (Int × Int) := s2 (sInt .u64) (s1 (sInt .u64))
theorem bits_Sub64.ok {a0 a1 a2 : Int} {r : Int × Int} (h : bits_Sub64.f a0 a1 a2 = some r) : CallD Tryd.prog HW 170 [.int .u64 a0, .int .u64 a1, .int .u64 a2] (bits_Sub64.sg.enc r) := by
  unfold bits_Sub64.f at h
  split at h
  · rename_i hh
    obtain rfl := Option.some.inj h
    exact calld_scal rfl rfl fun w _ => .inr ⟨_, _, run_sub64' Tryd.func170 (by kernel_rfl) (by kernel_rfl) (by kernel_rfl) (by kernel_rfl) a0 a1 a2 hh.1 hh.2.1 hh.2.2.1 hh.2.2.2.1 hh.2.2.2.2 w, rfl, rfl⟩
  · cases h
noncomputable def bits_Sub64.call {α : Type} (g : Int → Int → Int → Option (Int × Int)) (ds : List D) (K : List D → Option α) : Option α := match ds with
  | [.int .u64 a0, .int .u64 a1, .int .u64 a2] => (g a0 a1 a2).bind fun r => K (bits_Sub64.sg.enc r)
  | _ => none
theorem bits_Sub64.call_ok {α : Type} {n : Nat} (ds : List D) (K : List D → Option α) (r : α) (h : bits_Sub64.call bits_Sub64.f ds K = some r) : ∃ rs, K rs = some r ∧ CallD Tryd.prog HW 170 ds rs := by
  unfold bits_Sub64.call at h
  split at h
  · obtain ⟨x, hx, hk⟩ := Option.bind_eq_some_iff.1 h
    exact ⟨_, hk, bits_Sub64.ok hx⟩
  · cases h
/-! ### quot_takeOff: function 180 -/
noncomputable def quot_takeOff.b0 (c167 : Int → Int → Int → Option (Int × Int)) (c169 : Int → Int → Option (Int × Int)) (c170 : Int → Int → Int → Option (Int × Int)) (k117 : List Int → Int → Int → Int → Int → Int → List Int → Option (List Int × Bool)) (l0 : List Int) (l1 : List Int) (a2 : Int) : Option (List Int × Bool) := k117 l1 a2 0 0 0 (ln l1) l0
noncomputable def quot_takeOff.b15 (c167 : Int → Int → Int → Option (Int × Int)) (c169 : Int → Int → Option (Int × Int)) (c170 : Int → Int → Int → Option (Int × Int)) (x0 : List Int) (x1 : Int) (x2 : Int) (x3 : List Int) : Option (List Int × Bool) := (if 0 ≤ (ln x0) then (if (ln x0) < (ln x3) then ((c170 (rd x3 (ln x0)) x1 x2).bind fun t1 => (if 0 ≤ (ln x0) then (if (ln x0) < (ln x3) then some (x3.set ((ln x0) : Int).toNat t1.1, decide (¬ t1.2 = 0)) else none) else none)) else none) else none)
noncomputable def quot_takeOff.b117 (c167 : Int → Int → Int → Option (Int × Int)) (c169 : Int → Int → Option (Int × Int)) (c170 : Int → Int → Int → Option (Int × Int)) (k15 : List Int → Int → Int → List Int → Option (List Int × Bool)) (k117 : List Int → Int → Int → Int → Int → Int → List Int → Option (List Int × Bool)) (x0 : List Int) (x1 : Int) (x2 : Int) (x3 : Int) (x4 : Int) (x5 : Int) (x6 : List Int) : Option (List Int × Bool) := (if x4 < x5 then (if 0 ≤ x4 then (if x4 < (ln x0) then ((c169 x1 (rd x0 x4)).bind fun t1 => ((c167 t1.2 x2 0).bind fun t2 => (if 0 ≤ x4 then (if x4 < (ln x6) then ((c170 (rd x6 x4) t2.1 x3).bind fun t3 => (if 0 ≤ x4 then (if x4 < (ln x6) then k117 x0 x1 (IntKind.u64.wrap (t1.1 + t2.2)) t3.2 (wrap64 (x4 + 1)) x5 (x6.set (x4 : Int).toNat t3.1) else none) else none)) else none) else none))) else none) else none) else k15 x0 x2 x3 x6)
noncomputable def quot_takeOff.l15 (n : Nat) (x0 : List Int) (x1 : Int) (x2 : Int) (x3 : List Int) : Option (List Int × Bool) := quot_takeOff.b15 bits_Add64.f bits_Mul64.f bits_Sub64.f x0 x1 x2 x3
noncomputable def quot_takeOff.l117 (n : Nat) : Nat → List Int → Int → Int → Int → Int → Int → List Int → Option (List Int × Bool)
  | 0, _, _, _, _, _, _, _ => none
  | m + 1, x0, x1, x2, x3, x4, x5, x6 => quot_takeOff.b117 bits_Add64.f bits_Mul64.f bits_Sub64.f (quot_takeOff.l15 n) (quot_takeOff.l117 n m) x0 x1 x2 x3 x4 x5 x6
noncomputable def quot_takeOff.f (n : Nat) (l0 : List Int) (l1 : List Int) (a2 : Int) : Option (List Int × Bool) := quot_takeOff.b0 bits_Add64.f bits_Mul64.f bits_Sub64.f (quot_takeOff.l117 n n) l0 l1 a2
noncomputable def quot_takeOff.sg : Sig (Bool) := s1 (sBool)
noncomputable def quot_takeOff.code : Code := (Tryd.f180.body).getD .skip
noncomputable def quot_takeOff.cfg (c167 : Int → Int → Int → Option (Int × Int)) (c169 : Int → Int → Option (Int × Int)) (c170 : Int → Int → Int → Option (Int × Int)) : Cfg (List Int × Bool) := { T := tys, call := orCall 167 (bits_Add64.call c167) (orCall 169 (bits_Mul64.call c169) (orCall 170 (bits_Sub64.call c170) (noCall))) }
noncomputable def quot_takeOff.cuts : List (Nat × List (Nat × Want)) := [(15, [(0, .keep), (1, .keep), (7, .keep), (8, .keep)]), (117, [(0, .keep), (1, .keep), (2, .keep), (7, .keep), (8, .keep), (14, .keep), (15, .keep), (16, .keep)])]
noncomputable def quot_takeOff.s15 (x0 : List Int) (x1 : Int) (x2 : Int) (x3 : List Int) : ASt := ⟨[(0, .own 0), (1, .ro .u64 x0), (7, .int .u64 x1), (8, .int .u64 x2)], [.bor .u64 x3]⟩
noncomputable def quot_takeOff.s117 (x0 : List Int) (x1 : Int) (x2 : Int) (x3 : Int) (x4 : Int) (x5 : Int) (x6 : List Int) : ASt := ⟨[(0, .own 0), (1, .ro .u64 x0), (2, .int .u64 x1), (7, .int .u64 x2), (8, .int .u64 x3), (14, .ro .u64 x0), (15, .int .i64 x5), (16, .int .i64 x4)], [.bor .u64 x6]⟩
noncomputable def quot_takeOff.A (c167 : Int → Int → Int → Option (Int × Int)) (c169 : Int → Int → Option (Int × Int)) (c170 : Int → Int → Int → Option (Int × Int)) (n : Nat) (J : Nat → (ASt → Option (List Int × Bool)) → ASt → Option (List Int × Bool)) (q : Nat) (ms : List Nat) : ASt → Option (List Int × Bool) := acont (quot_takeOff.cfg c167 c169 c170) J quot_takeOff.cuts n q quot_takeOff.code 1 ms (aendw (quot_takeOff.cfg c167 c169 c170) Tryd.f180.results.toList (sgw quot_takeOff.sg))
theorem quot_takeOff.e0 (c167 : Int → Int → Int → Option (Int × Int)) (c169 : Int → Int → Option (Int × Int)) (c170 : Int → Int → Int → Option (Int × Int)) (n : Nat) (J : Nat → (ASt → Option (List Int × Bool)) → ASt → Option (List Int × Bool)) (l0 : List Int) (l1 : List Int) (a2 : Int) : afunw (quot_takeOff.cfg c167 c169 c170) J quot_takeOff.cuts n quot_takeOff.code Tryd.f180.results.toList l0 [.ro .u64 l1, .int .u64 a2] (sgw quot_takeOff.sg) = quot_takeOff.b0 c167 c169 c170 (fun y0 y1 y2 y3 y4 y5 y6 => J 117 (quot_takeOff.A c167 c169 c170 n J 117 [n]) (quot_takeOff.s117 y0 y1 y2 y3 y4 y5 y6)) l0 l1 a2 := by kernel_rfl
theorem quot_takeOff.e15 (c167 : Int → Int → Int → Option (Int × Int)) (c169 : Int → Int → Option (Int × Int)) (c170 : Int → Int → Int → Option (Int × Int)) (n : Nat) (J : Nat → (ASt → Option (List Int × Bool)) → ASt → Option (List Int × Bool)) (x0 : List Int) (x1 : Int) (x2 : Int) (x3 : List Int) : quot_takeOff.A c167 c169 c170 n J 15 [] (quot_takeOff.s15 x0 x1 x2 x3) = quot_takeOff.b15 c167 c169 c170 x0 x1 x2 x3 := by kernel_rfl
theorem quot_takeOff.e117 (c167 : Int → Int → Int → Option (Int × Int)) (c169 : Int → Int → Option (Int × Int)) (c170 : Int → Int → Int → Option (Int × Int)) (n : Nat) (J : Nat → (ASt → Option (List Int × Bool)) → ASt → Option (List Int × Bool)) (m : Nat) (x0 : List Int) (x1 : Int) (x2 : Int) (x3 : Int) (x4 : Int) (x5 : Int) (x6 : List Int) : quot_takeOff.A c167 c169 c170 n J 117 [m + 1] (quot_takeOff.s117 x0 x1 x2 x3 x4 x5 x6) = quot_takeOff.b117 c167 c169 c170 (fun y0 y1 y2 y3 => J 15 (quot_takeOff.A c167 c169 c170 n J 15 []) (quot_takeOff.s15 y0 y1 y2 y3)) (fun y0 y1 y2 y3 y4 y5 y6 => J 117 (quot_takeOff.A c167 c169 c170 n J 117 [m]) (quot_takeOff.s117 y0 y1 y2 y3 y4 y5 y6)) x0 x1 x2 x3 x4 x5 x6 := by kernel_rfl
theorem quot_takeOff.q15 (n : Nat) (x0 : List Int) (x1 : Int) (x2 : Int) (x3 : List Int) : quot_takeOff.A bits_Add64.f bits_Mul64.f bits_Sub64.f n idJ 15 [] (quot_takeOff.s15 x0 x1 x2 x3) = quot_takeOff.l15 n x0 x1 x2 x3 := (quot_takeOff.e15 bits_Add64.f bits_Mul64.f bits_Sub64.f n idJ x0 x1 x2 x3).trans (rfl)
theorem quot_takeOff.q117 (n : Nat) (m : Nat) : ∀ (x0 : List Int) (x1 : Int) (x2 : Int) (x3 : Int) (x4 : Int) (x5 : Int) (x6 : List Int), quot_takeOff.A bits_Add64.f bits_Mul64.f bits_Sub64.f n idJ 117 [m] (quot_takeOff.s117 x0 x1 x2 x3 x4 x5 x6) = quot_takeOff.l117 n m x0 x1 x2 x3 x4 x5 x6 := by
  induction m with
  | zero => intros; rfl
  | succ m ih =>
    intro x0 x1 x2 x3 x4 x5 x6
    refine (quot_takeOff.e117 bits_Add64.f bits_Mul64.f bits_Sub64.f n idJ m x0 x1 x2 x3 x4 x5 x6).trans ?_
    exact congrFun (congrFun (congrFun (congrFun (congrFun (congrFun (congrFun (congr (congrArg (quot_takeOff.b117 bits_Add64.f bits_Mul64.f bits_Sub64.f) (funext fun y0 => (funext fun y1 => (funext fun y2 => (funext fun y3 => quot_takeOff.q15 n y0 y1 y2 y3))))) (funext fun y0 => (funext fun y1 => (funext fun y2 => (funext fun y3 => (funext fun y4 => (funext fun y5 => (funext fun y6 => ih y0 y1 y2 y3 y4 y5 y6)))))))) x0) x1) x2) x3) x4) x5) x6
theorem quot_takeOff.eq (n : Nat) (l0 : List Int) (l1 : List Int) (a2 : Int) : afunw (quot_takeOff.cfg bits_Add64.f bits_Mul64.f bits_Sub64.f) idJ quot_takeOff.cuts n quot_takeOff.code Tryd.f180.results.toList l0 [.ro .u64 l1, .int .u64 a2] (sgw quot_takeOff.sg) = quot_takeOff.f n l0 l1 a2 := (quot_takeOff.e0 bits_Add64.f bits_Mul64.f bits_Sub64.f n idJ l0 l1 a2).trans (congrFun (congrFun (congrFun (congrArg (quot_takeOff.b0 bits_Add64.f bits_Mul64.f bits_Sub64.f) (funext fun y0 => (funext fun y1 => (funext fun y2 => (funext fun y3 => (funext fun y4 => (funext fun y5 => (funext fun y6 => quot_takeOff.q117 n n y0 y1 y2 y3 y4 y5 y6)))))))) l0) l1) a2)
theorem quot_takeOff.ok {n : Nat} {l0 : List Int} {l1 : List Int} {a2 : Int} {r : List Int × Bool} (h : quot_takeOff.f n l0 l1 a2 = some r) : CallW Tryd.prog HW 180 l0 [.ro .u64 l1, .int .u64 a2] r.1 (quot_takeOff.sg.enc r.2) :=
  funw_some Tryd.func180 (by kernel_rfl) (body := quot_takeOff.code) (by kernel_rfl) tys_ok (c := quot_takeOff.cfg bits_Add64.f bits_Mul64.f bits_Sub64.f) (orCall_ok (bits_Add64.call_ok (n := n)) (orCall_ok (bits_Mul64.call_ok (n := n)) (orCall_ok (bits_Sub64.call_ok (n := n)) noCall_ok))) noW_ok (by kernel_rfl) (by kernel_rfl) (Nat.le_of_ble_eq_true (by kernel_rfl)) ((quot_takeOff.eq n l0 l1 a2).trans h)
noncomputable def quot_takeOff.call {α : Type} (g : List Int → List Int → Int → Option (List Int × Bool)) (l0 : List Int) (ds : List D) (K : List Int → List D → Option α) : Option α := match ds with
  | [.ro .u64 l1, .int .u64 a2] => (g l0 l1 a2).bind fun r => K r.1 (quot_takeOff.sg.enc r.2)
  | _ => none
theorem quot_takeOff.call_ok {α : Type} {n : Nat} (l : List Int) (ds : List D) (K : List Int → List D → Option α) (r : α) (h : quot_takeOff.call (quot_takeOff.f n) l ds K = some r) : ∃ l' rs, K l' rs = some r ∧ CallW Tryd.prog HW 180 l ds l' rs := by
  unfold quot_takeOff.call at h
  split at h
  · obtain ⟨x, hx, hk⟩ := Option.bind_eq_some_iff.1 h
    exact ⟨_, _, hk, quot_takeOff.ok (n := n) hx⟩
  · cases h
/-! ### quot_putBack: function 181 -/
noncomputable def quot_putBack.b0 (c167 : Int → Int → Int → Option (Int × Int)) (k117 : List Int → Int → Int → Int → List Int → Option (List Int × Bool)) (l0 : List Int) (l1 : List Int) : Option (List Int × Bool) := k117 l1 0 0 (ln l1) l0
noncomputable def quot_putBack.b15 (c167 : Int → Int → Int → Option (Int × Int)) (x0 : List Int) (x1 : Int) (x2 : List Int) : Option (List Int × Bool) := (if 0 ≤ (ln x0) then (if (ln x0) < (ln x2) then ((c167 (rd x2 (ln x0)) 0 x1).bind fun t1 => (if 0 ≤ (ln x0) then (if (ln x0) < (ln x2) then some (x2.set ((ln x0) : Int).toNat t1.1, decide (¬ t1.2 = 0)) else none) else none)) else none) else none)
noncomputable def quot_putBack.b117 (c167 : Int → Int → Int → Option (Int × Int)) (k15 : List Int → Int → List Int → Option (List Int × Bool)) (k117 : List Int → Int → Int → Int → List Int → Option (List Int × Bool)) (x0 : List Int) (x1 : Int) (x2 : Int) (x3 : Int) (x4 : List Int) : Option (List Int × Bool) := (if x2 < x3 then (if 0 ≤ x2 then (if x2 < (ln x0) then (if 0 ≤ x2 then (if x2 < (ln x4) then ((c167 (rd x4 x2) (rd x0 x2) x1).bind fun t1 => (if 0 ≤ x2 then (if x2 < (ln x4) then k117 x0 t1.2 (wrap64 (x2 + 1)) x3 (x4.set (x2 : Int).toNat t1.1) else none) else none)) else none) else none) else none) else none) else k15 x0 x1 x4)
noncomputable def quot_putBack.l15 (n : Nat) (x0 : List Int) (x1 : Int) (x2 : List Int) : Option (List Int × Bool) := quot_putBack.b15 bits_Add64.f x0 x1 x2
noncomputable def quot_putBack.l117 (n : Nat) : Nat → List Int → Int → Int → Int → List Int → Option (List Int × Bool)
  | 0, _, _, _, _, _ => none
  | m + 1, x0, x1, x2, x3, x4 => quot_putBack.b117 bits_Add64.f (quot_putBack.l15 n) (quot_putBack.l117 n m) x0 x1 x2 x3 x4
noncomputable def quot_putBack.f (n : Nat) (l0 : List Int) (l1 : List Int) : Option (List Int × Bool) := quot_putBack.b0 bits_Add64.f (quot_putBack.l117 n n) l0 l1
noncomputable def quot_putBack.sg : Sig (Bool) := s1 (sBool)
noncomputable def quot_putBack.code : Code := (Tryd.f181.body).getD .skip
noncomputable def quot_putBack.cfg (c167 : Int → Int → Int → Option (Int × Int)) : Cfg (List Int × Bool) := { T := tys, call := orCall 167 (bits_Add64.call c167) (noCall) }
noncomputable def quot_putBack.cuts : List (Nat × List (Nat × Want)) := [(15, [(0, .keep), (1, .keep), (5, .keep)]), (117, [(0, .keep), (1, .keep), (5, .keep), (8, .keep), (9, .keep), (10, .keep)])]
noncomputable def quot_putBack.s15 (x0 : List Int) (x1 : Int) (x2 : List Int) : ASt := ⟨[(0, .own 0), (1, .ro .u64 x0), (5, .int .u64 x1)], [.bor .u64 x2]⟩
noncomputable def quot_putBack.s117 (x0 : List Int) (x1 : Int) (x2 : Int) (x3 : Int) (x4 : List Int) : ASt := ⟨[(0, .own 0), (1, .ro .u64 x0), (5, .int .u64 x1), (8, .ro .u64 x0), (9, .int .i64 x3), (10, .int .i64 x2)], [.bor .u64 x4]⟩
noncomputable def quot_putBack.A (c167 : Int → Int → Int → Option (Int × Int)) (n : Nat) (J : Nat → (ASt → Option (List Int × Bool)) → ASt → Option (List Int × Bool)) (q : Nat) (ms : List Nat) : ASt → Option (List Int × Bool) := acont (quot_putBack.cfg c167) J quot_putBack.cuts n q quot_putBack.code 1 ms (aendw (quot_putBack.cfg c167) Tryd.f181.results.toList (sgw quot_putBack.sg))
theorem quot_putBack.e0 (c167 : Int → Int → Int → Option (Int × Int)) (n : Nat) (J : Nat → (ASt → Option (List Int × Bool)) → ASt → Option (List Int × Bool)) (l0 : List Int) (l1 : List Int) : afunw (quot_putBack.cfg c167) J quot_putBack.cuts n quot_putBack.code Tryd.f181.results.toList l0 [.ro .u64 l1] (sgw quot_putBack.sg) = quot_putBack.b0 c167 (fun y0 y1 y2 y3 y4 => J 117 (quot_putBack.A c167 n J 117 [n]) (quot_putBack.s117 y0 y1 y2 y3 y4)) l0 l1 := by kernel_rfl
theorem quot_putBack.e15 (c167 : Int → Int → Int → Option (Int × Int)) (n : Nat) (J : Nat → (ASt → Option (List Int × Bool)) → ASt → Option (List Int × Bool)) (x0 : List Int) (x1 : Int) (x2 : List Int) : quot_putBack.A c167 n J 15 [] (quot_putBack.s15 x0 x1 x2) = quot_putBack.b15 c167 x0 x1 x2 := by kernel_rfl
theorem quot_putBack.e117 (c167 : Int → Int → Int → Option (Int × Int)) (n : Nat) (J : Nat → (ASt → Option (List Int × Bool)) → ASt → Option (List Int × Bool)) (m : Nat) (x0 : List Int) (x1 : Int) (x2 : Int) (x3 : Int) (x4 : List Int) : quot_putBack.A c167 n J 117 [m + 1] (quot_putBack.s117 x0 x1 x2 x3 x4) = quot_putBack.b117 c167 (fun y0 y1 y2 => J 15 (quot_putBack.A c167 n J 15 []) (quot_putBack.s15 y0 y1 y2)) (fun y0 y1 y2 y3 y4 => J 117 (quot_putBack.A c167 n J 117 [m]) (quot_putBack.s117 y0 y1 y2 y3 y4)) x0 x1 x2 x3 x4 := by kernel_rfl
theorem quot_putBack.q15 (n : Nat) (x0 : List Int) (x1 : Int) (x2 : List Int) : quot_putBack.A bits_Add64.f n idJ 15 [] (quot_putBack.s15 x0 x1 x2) = quot_putBack.l15 n x0 x1 x2 := (quot_putBack.e15 bits_Add64.f n idJ x0 x1 x2).trans (rfl)
theorem quot_putBack.q117 (n : Nat) (m : Nat) : ∀ (x0 : List Int) (x1 : Int) (x2 : Int) (x3 : Int) (x4 : List Int), quot_putBack.A bits_Add64.f n idJ 117 [m] (quot_putBack.s117 x0 x1 x2 x3 x4) = quot_putBack.l117 n m x0 x1 x2 x3 x4 := by
  induction m with
  | zero => intros; rfl
  | succ m ih =>
    intro x0 x1 x2 x3 x4
    refine (quot_putBack.e117 bits_Add64.f n idJ m x0 x1 x2 x3 x4).trans ?_
    exact congrFun (congrFun (congrFun (congrFun (congrFun (congr (congrArg (quot_putBack.b117 bits_Add64.f) (funext fun y0 => (funext fun y1 => (funext fun y2 => quot_putBack.q15 n y0 y1 y2)))) (funext fun y0 => (funext fun y1 => (funext fun y2 => (funext fun y3 => (funext fun y4 => ih y0 y1 y2 y3 y4)))))) x0) x1) x2) x3) x4
theorem quot_putBack.eq (n : Nat) (l0 : List Int) (l1 : List Int) : afunw (quot_putBack.cfg bits_Add64.f) idJ quot_putBack.cuts n quot_putBack.code Tryd.f181.results.toList l0 [.ro .u64 l1] (sgw quot_putBack.sg) = quot_putBack.f n l0 l1 := (quot_putBack.e0 bits_Add64.f n idJ l0 l1).trans (congrFun (congrFun (congrArg (quot_putBack.b0 bits_Add64.f) (funext fun y0 => (funext fun y1 => (funext fun y2 => (funext fun y3 => (funext fun y4 => quot_putBack.q117 n n y0 y1 y2 y3 y4)))))) l0) l1)
theorem quot_putBack.ok {n : Nat} {l0 : List Int} {l1 : List Int} {r : List Int × Bool} (h : quot_putBack.f n l0 l1 = some r) : CallW Tryd.prog HW 181 l0 [.ro .u64 l1] r.1 (quot_putBack.sg.enc r.2) :=
  funw_some Tryd.func181 (by kernel_rfl) (body := quot_putBack.code) (by kernel_rfl) tys_ok (c := quot_putBack.cfg bits_Add64.f) (orCall_ok (bits_Add64.call_ok (n := n)) noCall_ok) noW_ok (by kernel_rfl) (by kernel_rfl) (Nat.le_of_ble_eq_true (by kernel_rfl)) ((quot_putBack.eq n l0 l1).trans h)
noncomputable def quot_putBack.call {α : Type} (g : List Int → List Int → Option (List Int × Bool)) (l0 : List Int) (ds : List D) (K : List Int → List D → Option α) : Option α := match ds with
  | [.ro .u64 l1] => (g l0 l1).bind fun r => K r.1 (quot_putBack.sg.enc r.2)
  | _ => none
theorem quot_putBack.call_ok {α : Type} {n : Nat} (l : List Int) (ds : List D) (K : List Int → List D → Option α) (r : α) (h : quot_putBack.call (quot_putBack.f n) l ds K = some r) : ∃ l' rs, K l' rs = some r ∧ CallW Tryd.prog HW 181 l ds l' rs := by
  unfold quot_putBack.call at h
  split at h
  · obtain ⟨x, hx, hk⟩ := Option.bind_eq_some_iff.1 h
    exact ⟨_, _, hk, quot_putBack.ok (n := n) hx⟩
  · cases h
/-! ### bits_TrailingZeros64: function 165 -/
def bits_TrailingZeros64.f (a0 : Int) : Option (Int) := if 0 ≤ a0 ∧ a0 < 18446744073709551616 then some (Lib.ctz 64 a0.toNat : Nat) else none
def bits_TrailingZeros64.sg : Sig (Int) := s1 (sInt .i64)
set_option maxHeartbeats 1000000 in
theorem bits_TrailingZeros64.core (x k idx : Nat) (w : World) (hx0 : ((x : Int) == 0) = false)
    (key : IntKind.u64.wrap (bits BinOp.and IntKind.u64 (x : Int) (IntKind.u64.wrap (-(x : Int))) * 285870213051353865) / 288230376151711744 = (idx : Int))
    (hi : idx < 64) (hk : k < 64) (hcell : w.cell? ⟨0, idx, none⟩ = some (.int .u8 k)) :
    Calls Tryd.prog 165 #[.int .u64 x] w fun e w' => e = .returned (.int .i64 k) ∧ w' = w := by
  go_enter Tryd.func165, Tryd.ntmps165
  go_wp2_with (simp only [key])
  go_ret
  exact ⟨rfl, rfl⟩
theorem bits_TrailingZeros64.zero (w : World) : Calls Tryd.prog 165 #[.int .u64 0] w fun e w' => e = .returned (.int .i64 64) ∧ w' = w := by
  go_enter Tryd.func165, Tryd.ntmps165
  go_wp2
  go_ret
  exact ⟨rfl, rfl⟩
theorem bits_TrailingZeros64.ok {a0 : Int} {r : Int} (h : bits_TrailingZeros64.f a0 = some r) : CallD Tryd.prog HW 165 [.int .u64 a0] (bits_TrailingZeros64.sg.enc r) := by
  unfold bits_TrailingZeros64.f at h
  split at h
  · rename_i hh
    obtain rfl := Option.some.inj h
    refine calld_scal rfl rfl fun w hw => .inl ⟨_, Tryd.func165, by kernel_rfl, by kernel_rfl, ?_⟩
    obtain ⟨x, rfl⟩ := Int.eq_ofNat_of_zero_le hh.1
    have hx : x < 18446744073709551616 := by omega
    show Calls Tryd.prog 165 #[.int .u64 x] w _
    rw [Int.toNat_natCast]
    by_cases hx0 : x = 0
    · subst hx0
      refine (bits_TrailingZeros64.zero w).mono ?_
      rintro e w' ⟨rfl, rfl⟩
      exact ⟨_, rfl, rfl, rfl⟩
    · obtain ⟨hlow, hk⟩ := Lib.lowest_bit 64 x hx0 hx
      obtain ⟨hi, htab⟩ := Lib.deBruijn64_at _ hk
      have hcell := hw _ hi
      rw [htab] at hcell
      refine (bits_TrailingZeros64.core x _ _ w (by simp; omega) (tz64_key x _ hx hx0 hlow) hi hk hcell).mono ?_
      rintro e w' ⟨rfl, rfl⟩
      exact ⟨_, rfl, rfl, rfl⟩
  · cases h
noncomputable def bits_TrailingZeros64.call {α : Type} (g : Int → Option (Int)) (ds : List D) (K : List D → Option α) : Option α := match ds with
  | [.int .u64 a0] => (g a0).bind fun r => K (bits_TrailingZeros64.sg.enc r)
  | _ => none
theorem bits_TrailingZeros64.call_ok {α : Type} {n : Nat} (ds : List D) (K : List D → Option α) (r : α) (h : bits_TrailingZeros64.call bits_TrailingZeros64.f ds K = some r) : ∃ rs, K rs = some r ∧ CallD Tryd.prog HW 165 ds rs := by
  unfold bits_TrailingZeros64.call at h
  split at h
  · obtain ⟨x, hx, hk⟩ := Option.bind_eq_some_iff.1 h
    exact ⟨_, hk, bits_TrailingZeros64.ok hx⟩
  · cases h
/-! ### nat_Trail: function 121 -/
noncomputable def nat_Trail.b0 (c165 : Int → Option (Int)) (k53 : List Int → Int → Int → Option (Int)) (l0 : List Int) : Option (Int) := k53 l0 (ln l0) 0
noncomputable def nat_Trail.b53 (c165 : Int → Option (Int)) (k53 : List Int → Int → Int → Option (Int)) (x0 : List Int) (x1 : Int) (x2 : Int) : Option (Int) := (if x2 < x1 then (if 0 ≤ x2 then (if x2 < (ln x0) then (if ¬ (rd x0 x2) = 0 then ((c165 (rd x0 x2)).bind fun t1 => some (wrap64 ((wrap64 (64 * x2)) + t1))) else k53 x0 x1 (wrap64 (x2 + 1))) else none) else none) else some 0)
noncomputable def nat_Trail.l53 (n : Nat) : Nat → List Int → Int → Int → Option (Int)
  | 0, _, _, _ => none
  | m + 1, x0, x1, x2 => nat_Trail.b53 bits_TrailingZeros64.f (nat_Trail.l53 n m) x0 x1 x2
noncomputable def nat_Trail.f (n : Nat) (l0 : List Int) : Option (Int) := nat_Trail.b0 bits_TrailingZeros64.f (nat_Trail.l53 n n) l0
noncomputable def nat_Trail.sg : Sig (Int) := s1 (sInt .i64)
noncomputable def nat_Trail.code : Code := (Tryd.f121.body).getD .skip
noncomputable def nat_Trail.cfg (c165 : Int → Option (Int)) : Cfg (Int) := { T := tys, call := orCall 165 (bits_TrailingZeros64.call c165) (noCall) }
noncomputable def nat_Trail.cuts : List (Nat × List (Nat × Want)) := [(53, [(5, .keep), (6, .keep), (7, .keep)])]
noncomputable def nat_Trail.s53 (x0 : List Int) (x1 : Int) (x2 : Int) : ASt := ⟨[(5, .ro .u64 x0), (6, .int .i64 x1), (7, .int .i64 x2)], []⟩
noncomputable def nat_Trail.A (c165 : Int → Option (Int)) (n : Nat) (J : Nat → (ASt → Option (Int)) → ASt → Option (Int)) (q : Nat) (ms : List Nat) : ASt → Option (Int) := acont (nat_Trail.cfg c165) J nat_Trail.cuts n q nat_Trail.code 1 ms (aend (nat_Trail.cfg c165) Tryd.f121.results.toList [false] nat_Trail.sg.out)
theorem nat_Trail.e0 (c165 : Int → Option (Int)) (n : Nat) (J : Nat → (ASt → Option (Int)) → ASt → Option (Int)) (l0 : List Int) : afun (nat_Trail.cfg c165) J nat_Trail.cuts n nat_Trail.code Tryd.f121.results.toList [false] [.ro .u64 l0] nat_Trail.sg.out = nat_Trail.b0 c165 (fun y0 y1 y2 => J 53 (nat_Trail.A c165 n J 53 [n]) (nat_Trail.s53 y0 y1 y2)) l0 := by kernel_rfl
theorem nat_Trail.e53 (c165 : Int → Option (Int)) (n : Nat) (J : Nat → (ASt → Option (Int)) → ASt → Option (Int)) (m : Nat) (x0 : List Int) (x1 : Int) (x2 : Int) : nat_Trail.A c165 n J 53 [m + 1] (nat_Trail.s53 x0 x1 x2) = nat_Trail.b53 c165 (fun y0 y1 y2 => J 53 (nat_Trail.A c165 n J 53 [m]) (nat_Trail.s53 y0 y1 y2)) x0 x1 x2 := by kernel_rfl
theorem nat_Trail.q53 (n : Nat) (m : Nat) : ∀ (x0 : List Int) (x1 : Int) (x2 : Int), nat_Trail.A bits_TrailingZeros64.f n idJ 53 [m] (nat_Trail.s53 x0 x1 x2) = nat_Trail.l53 n m x0 x1 x2 := by
  induction m with
  | zero => intros; rfl
  | succ m ih =>
    intro x0 x1 x2
    refine (nat_Trail.e53 bits_TrailingZeros64.f n idJ m x0 x1 x2).trans ?_
    exact congrFun (congrFun (congrFun (congrArg (nat_Trail.b53 bits_TrailingZeros64.f) (funext fun y0 => (funext fun y1 => (funext fun y2 => ih y0 y1 y2)))) x0) x1) x2
theorem nat_Trail.eq (n : Nat) (l0 : List Int) : afun (nat_Trail.cfg bits_TrailingZeros64.f) idJ nat_Trail.cuts n nat_Trail.code Tryd.f121.results.toList [false] [.ro .u64 l0] nat_Trail.sg.out = nat_Trail.f n l0 := (nat_Trail.e0 bits_TrailingZeros64.f n idJ l0).trans (congrFun (congrArg (nat_Trail.b0 bits_TrailingZeros64.f) (funext fun y0 => (funext fun y1 => (funext fun y2 => nat_Trail.q53 n n y0 y1 y2)))) l0)
theorem nat_Trail.ok {n : Nat} {l0 : List Int} {r : Int} (h : nat_Trail.f n l0 = some r) : CallD Tryd.prog HW 121 [.ro .u64 l0] (nat_Trail.sg.enc r) :=
  fun_some hwS Tryd.func121 (by kernel_rfl) (body := nat_Trail.code) (by kernel_rfl) tys_ok (c := nat_Trail.cfg bits_TrailingZeros64.f) (orCall_ok (bits_TrailingZeros64.call_ok (n := n)) noCall_ok) noW_ok (by kernel_rfl) (by kernel_rfl) (Nat.le_of_ble_eq_true (by kernel_rfl)) ((nat_Trail.eq n l0).trans h)
noncomputable def nat_Trail.call {α : Type} (g : List Int → Option (Int)) (ds : List D) (K : List D → Option α) : Option α := match ds with
  | [.ro .u64 l0] => (g l0).bind fun r => K (nat_Trail.sg.enc r)
  | _ => none
theorem nat_Trail.call_ok {α : Type} {n : Nat} (ds : List D) (K : List D → Option α) (r : α) (h : nat_Trail.call (nat_Trail.f n) ds K = some r) : ∃ rs, K rs = some r ∧ CallD Tryd.prog HW 121 ds rs := by
  unfold nat_Trail.call at h
  split at h
  · obtain ⟨x, hx, hk⟩ := Option.bind_eq_some_iff.1 h
    exact ⟨_, hk, nat_Trail.ok (n := n) hx⟩
  · cases h
/-! ### nat_Shr: function 126 -/
noncomputable def nat_Shr.b0 (c121 : List Int → Option (Int)) (c133 : List Int → Option (Int)) (c166 : List Int → Option (Bool)) (c168 : List Int → Option (List Int × Int)) (k31 : List Int → Int → Bool → Option (List Int × Bool × Int)) (l0 : List Int) (a1 : Int) : Option (List Int × Bool × Int) := ((c166 l0).bind fun t1 => (if t1 = true then some (([] : List Int), false, 2) else (if a1 < 0 then some (([] : List Int), false, 1) else ((c133 l0).bind fun t2 => (if t2 > 0 then ((c121 l0).bind fun t3 => k31 l0 a1 (decide (t3 < a1))) else k31 l0 a1 false)))))
noncomputable def nat_Shr.b31 (c121 : List Int → Option (Int)) (c133 : List Int → Option (Int)) (c166 : List Int → Option (Bool)) (c168 : List Int → Option (List Int × Int)) (k8181 : List Int → Bool → Int → Int → Int → Int → List Int → Option (List Int × Bool × Int)) (x0 : List Int) (x1 : Int) (x2 : Bool) : Option (List Int × Bool × Int) := ((c133 x0).bind fun t1 => (if 0 ≤ t1 then (if t1 ≤ (ln x0) then ((some (x0.take t1.toNat) : Option (List Int)).bind fun y2 => (if x1 ≥ (wrap64 (64 * (ln y2))) then some (([] : List Int), x2, 0) else (if 0 ≤ (wrap64 ((ln y2) - (wrap64 (Int.tdiv x1 64)))) then (if (wrap64 ((ln y2) - (wrap64 (Int.tdiv x1 64)))).toNat ≤ 35184372088832 then k8181 y2 x2 (wrap64 (Int.tdiv x1 64)) (IntKind.u64.wrap (Int.tmod x1 64)) (ln (List.replicate (wrap64 ((ln y2) - (wrap64 (Int.tdiv x1 64)))).toNat (0 : Int))) 0 (List.replicate (wrap64 ((ln y2) - (wrap64 (Int.tdiv x1 64)))).toNat (0 : Int)) else none) else none))) else none) else none))
noncomputable def nat_Shr.b1023 (c121 : List Int → Option (Int)) (c133 : List Int → Option (Int)) (c166 : List Int → Option (Bool)) (c168 : List Int → Option (List Int × Int)) (x0 : Bool) (x1 : List Int) : Option (List Int × Bool × Int) := ((c168 x1).bind fun t1 => some (t1.1, x0, t1.2))
noncomputable def nat_Shr.b8181 (c121 : List Int → Option (Int)) (c133 : List Int → Option (Int)) (c166 : List Int → Option (Bool)) (c168 : List Int → Option (List Int × Int)) (k1023 : Bool → List Int → Option (List Int × Bool × Int)) (k8181 : List Int → Bool → Int → Int → Int → Int → List Int → Option (List Int × Bool × Int)) (x0 : List Int) (x1 : Bool) (x2 : Int) (x3 : Int) (x4 : Int) (x5 : Int) (x6 : List Int) : Option (List Int × Bool × Int) := (if x5 < x4 then (if 0 ≤ (wrap64 (x2 + x5)) then (if (wrap64 (x2 + x5)) < (ln x0) then (if 0 ≤ x3 then (if (wrap64 ((wrap64 (x2 + x5)) + 1)) < (ln x0) then (if x3 > 0 then (if 0 ≤ (wrap64 ((wrap64 (x2 + x5)) + 1)) then (if (wrap64 ((wrap64 (x2 + x5)) + 1)) < (ln x0) then (if 0 ≤ (IntKind.u64.wrap (64 - x3)) then (if 0 ≤ x5 then (if x5 < (ln x6) then k8181 x0 x1 x2 x3 x4 (wrap64 (x5 + 1)) (x6.set (x5 : Int).toNat (Go.bits .or .u64 (shr .u64 (rd x0 (wrap64 (x2 + x5))) x3) (shl .u64 (rd x0 (wrap64 ((wrap64 (x2 + x5)) + 1))) (IntKind.u64.wrap (64 - x3))))) else none) else none) else none) else none) else none) else (if 0 ≤ x5 then (if x5 < (ln x6) then k8181 x0 x1 x2 x3 x4 (wrap64 (x5 + 1)) (x6.set (x5 : Int).toNat (shr .u64 (rd x0 (wrap64 (x2 + x5))) x3)) else none) else none)) else (if 0 ≤ x5 then (if x5 < (ln x6) then k8181 x0 x1 x2 x3 x4 (wrap64 (x5 + 1)) (x6.set (x5 : Int).toNat (shr .u64 (rd x0 (wrap64 (x2 + x5))) x3)) else none) else none)) else none) else none) else none) else k1023 x1 x6)
noncomputable def nat_Shr.l1023 (n : Nat) (x0 : Bool) (x1 : List Int) : Option (List Int × Bool × Int) := nat_Shr.b1023 (nat_Trail.f n) (nat_size.f n) (nat_big.f n) (nat_cut.f n) x0 x1
noncomputable def nat_Shr.l8181 (n : Nat) : Nat → List Int → Bool → Int → Int → Int → Int → List Int → Option (List Int × Bool × Int)
  | 0, _, _, _, _, _, _, _ => none
  | m + 1, x0, x1, x2, x3, x4, x5, x6 => nat_Shr.b8181 (nat_Trail.f n) (nat_size.f n) (nat_big.f n) (nat_cut.f n) (nat_Shr.l1023 n) (nat_Shr.l8181 n m) x0 x1 x2 x3 x4 x5 x6
noncomputable def nat_Shr.l31 (n : Nat) (x0 : List Int) (x1 : Int) (x2 : Bool) : Option (List Int × Bool × Int) := nat_Shr.b31 (nat_Trail.f n) (nat_size.f n) (nat_big.f n) (nat_cut.f n) (nat_Shr.l8181 n n) x0 x1 x2
noncomputable def nat_Shr.f (n : Nat) (l0 : List Int) (a1 : Int) : Option (List Int × Bool × Int) := nat_Shr.b0 (nat_Trail.f n) (nat_size.f n) (nat_big.f n) (nat_cut.f n) (nat_Shr.l31 n) l0 a1
noncomputable def nat_Shr.sg : Sig (List Int × Bool × Int) := s2 (sRow .u64) (s2 (sBool) (s1 (sInt .i64)))
noncomputable def nat_Shr.code : Code := (Tryd.f126.body).getD .skip
noncomputable def nat_Shr.cfg (c121 : List Int → Option (Int)) (c133 : List Int → Option (Int)) (c166 : List Int → Option (Bool)) (c168 : List Int → Option (List Int × Int)) : Cfg (List Int × Bool × Int) := { T := tys, call := orCall 121 (nat_Trail.call c121) (orCall 133 (nat_size.call c133) (orCall 166 (nat_big.call c166) (orCall 168 (nat_cut.call c168) (noCall)))) }
noncomputable def nat_Shr.cuts : List (Nat × List (Nat × Want)) := [(31, [(0, .keep), (1, .keep), (7, .keep)]), (1023, [(7, .keep), (10, .keep)]), (8181, [(0, .keep), (7, .keep), (8, .keep), (9, .keep), (10, .keep), (49, .keep), (50, .keep)])]
noncomputable def nat_Shr.s31 (x0 : List Int) (x1 : Int) (x2 : Bool) : ASt := ⟨[(0, .ro .u64 x0), (1, .int .i64 x1), (7, .bool x2)], []⟩
noncomputable def nat_Shr.s1023 (x0 : Bool) (x1 : List Int) : ASt := ⟨[(7, .bool x0), (10, .own 0)], [.ints 22 .u64 x1]⟩
noncomputable def nat_Shr.s8181 (x0 : List Int) (x1 : Bool) (x2 : Int) (x3 : Int) (x4 : Int) (x5 : Int) (x6 : List Int) : ASt := ⟨[(0, .ro .u64 x0), (7, .bool x1), (8, .int .i64 x2), (9, .int .u64 x3), (10, .own 0), (49, .int .i64 x4), (50, .int .i64 x5)], [.ints 22 .u64 x6]⟩
noncomputable def nat_Shr.A (c121 : List Int → Option (Int)) (c133 : List Int → Option (Int)) (c166 : List Int → Option (Bool)) (c168 : List Int → Option (List Int × Int)) (n : Nat) (J : Nat → (ASt → Option (List Int × Bool × Int)) → ASt → Option (List Int × Bool × Int)) (q : Nat) (ms : List Nat) : ASt → Option (List Int × Bool × Int) := acont (nat_Shr.cfg c121 c133 c166 c168) J nat_Shr.cuts n q nat_Shr.code 1 ms (aend (nat_Shr.cfg c121 c133 c166 c168) Tryd.f126.results.toList [false, false, false] nat_Shr.sg.out)
theorem nat_Shr.e0 (c121 : List Int → Option (Int)) (c133 : List Int → Option (Int)) (c166 : List Int → Option (Bool)) (c168 : List Int → Option (List Int × Int)) (n : Nat) (J : Nat → (ASt → Option (List Int × Bool × Int)) → ASt → Option (List Int × Bool × Int)) (l0 : List Int) (a1 : Int) : afun (nat_Shr.cfg c121 c133 c166 c168) J nat_Shr.cuts n nat_Shr.code Tryd.f126.results.toList [false, false, false] [.ro .u64 l0, .int .i64 a1] nat_Shr.sg.out = nat_Shr.b0 c121 c133 c166 c168 (fun y0 y1 y2 => J 31 (nat_Shr.A c121 c133 c166 c168 n J 31 []) (nat_Shr.s31 y0 y1 y2)) l0 a1 := by kernel_rfl
theorem nat_Shr.e31 (c121 : List Int → Option (Int)) (c133 : List Int → Option (Int)) (c166 : List Int → Option (Bool)) (c168 : List Int → Option (List Int × Int)) (n : Nat) (J : Nat → (ASt → Option (List Int × Bool × Int)) → ASt → Option (List Int × Bool × Int)) (x0 : List Int) (x1 : Int) (x2 : Bool) : nat_Shr.A c121 c133 c166 c168 n J 31 [] (nat_Shr.s31 x0 x1 x2) = nat_Shr.b31 c121 c133 c166 c168 (fun y0 y1 y2 y3 y4 y5 y6 => J 8181 (nat_Shr.A c121 c133 c166 c168 n J 8181 [n]) (nat_Shr.s8181 y0 y1 y2 y3 y4 y5 y6)) x0 x1 x2 := by kernel_rfl
theorem nat_Shr.e1023 (c121 : List Int → Option (Int)) (c133 : List Int → Option (Int)) (c166 : List Int → Option (Bool)) (c168 : List Int → Option (List Int × Int)) (n : Nat) (J : Nat → (ASt → Option (List Int × Bool × Int)) → ASt → Option (List Int × Bool × Int)) (x0 : Bool) (x1 : List Int) : nat_Shr.A c121 c133 c166 c168 n J 1023 [] (nat_Shr.s1023 x0 x1) = nat_Shr.b1023 c121 c133 c166 c168 x0 x1 := by kernel_rfl
theorem nat_Shr.e8181 (c121 : List Int → Option (Int)) (c133 : List Int → Option (Int)) (c166 : List Int → Option (Bool)) (c168 : List Int → Option (List Int × Int)) (n : Nat) (J : Nat → (ASt → Option (List Int × Bool × Int)) → ASt → Option (List Int × Bool × Int)) (m : Nat) (x0 : List Int) (x1 : Bool) (x2 : Int) (x3 : Int) (x4 : Int) (x5 : Int) (x6 : List Int) : nat_Shr.A c121 c133 c166 c168 n J 8181 [m + 1] (nat_Shr.s8181 x0 x1 x2 x3 x4 x5 x6) = nat_Shr.b8181 c121 c133 c166 c168 (fun y0 y1 => J 1023 (nat_Shr.A c121 c133 c166 c168 n J 1023 []) (nat_Shr.s1023 y0 y1)) (fun y0 y1 y2 y3 y4 y5 y6 => J 8181 (nat_Shr.A c121 c133 c166 c168 n J 8181 [m]) (nat_Shr.s8181 y0 y1 y2 y3 y4 y5 y6)) x0 x1 x2 x3 x4 x5 x6 := by kernel_rfl
theorem nat_Shr.q1023 (n : Nat) (x0 : Bool) (x1 : List Int) : nat_Shr.A (nat_Trail.f n) (nat_size.f n) (nat_big.f n) (nat_cut.f n) n idJ 1023 [] (nat_Shr.s1023 x0 x1) = nat_Shr.l1023 n x0 x1 := (nat_Shr.e1023 (nat_Trail.f n) (nat_size.f n) (nat_big.f n) (nat_cut.f n) n idJ x0 x1).trans (rfl)
theorem nat_Shr.q8181 (n : Nat) (m : Nat) : ∀ (x0 : List Int) (x1 : Bool) (x2 : Int) (x3 : Int) (x4 : Int) (x5 : Int) (x6 : List Int), nat_Shr.A (nat_Trail.f n) (nat_size.f n) (nat_big.f n) (nat_cut.f n) n idJ 8181 [m] (nat_Shr.s8181 x0 x1 x2 x3 x4 x5 x6) = nat_Shr.l8181 n m x0 x1 x2 x3 x4 x5 x6 := by
  induction m with
  | zero => intros; rfl
  | succ m ih =>
    intro x0 x1 x2 x3 x4 x5 x6
    refine (nat_Shr.e8181 (nat_Trail.f n) (nat_size.f n) (nat_big.f n) (nat_cut.f n) n idJ m x0 x1 x2 x3 x4 x5 x6).trans ?_
    exact congrFun (congrFun (congrFun (congrFun (congrFun (congrFun (congrFun (congr (congrArg (nat_Shr.b8181 (nat_Trail.f n) (nat_size.f n) (nat_big.f n) (nat_cut.f n)) (funext fun y0 => (funext fun y1 => nat_Shr.q1023 n y0 y1))) (funext fun y0 => (funext fun y1 => (funext fun y2 => (funext fun y3 => (funext fun y4 => (funext fun y5 => (funext fun y6 => ih y0 y1 y2 y3 y4 y5 y6)))))))) x0) x1) x2) x3) x4) x5) x6
theorem nat_Shr.q31 (n : Nat) (x0 : List Int) (x1 : Int) (x2 : Bool) : nat_Shr.A (nat_Trail.f n) (nat_size.f n) (nat_big.f n) (nat_cut.f n) n idJ 31 [] (nat_Shr.s31 x0 x1 x2) = nat_Shr.l31 n x0 x1 x2 := (nat_Shr.e31 (nat_Trail.f n) (nat_size.f n) (nat_big.f n) (nat_cut.f n) n idJ x0 x1 x2).trans (congrFun (congrFun (congrFun (congrArg (nat_Shr.b31 (nat_Trail.f n) (nat_size.f n) (nat_big.f n) (nat_cut.f n)) (funext fun y0 => (funext fun y1 => (funext fun y2 => (funext fun y3 => (funext fun y4 => (funext fun y5 => (funext fun y6 => nat_Shr.q8181 n n y0 y1 y2 y3 y4 y5 y6)))))))) x0) x1) x2)
theorem nat_Shr.eq (n : Nat) (l0 : List Int) (a1 : Int) : afun (nat_Shr.cfg (nat_Trail.f n) (nat_size.f n) (nat_big.f n) (nat_cut.f n)) idJ nat_Shr.cuts n nat_Shr.code Tryd.f126.results.toList [false, false, false] [.ro .u64 l0, .int .i64 a1] nat_Shr.sg.out = nat_Shr.f n l0 a1 := (nat_Shr.e0 (nat_Trail.f n) (nat_size.f n) (nat_big.f n) (nat_cut.f n) n idJ l0 a1).trans (congrFun (congrFun (congrArg (nat_Shr.b0 (nat_Trail.f n) (nat_size.f n) (nat_big.f n) (nat_cut.f n)) (funext fun y0 => (funext fun y1 => (funext fun y2 => nat_Shr.q31 n y0 y1 y2)))) l0) a1)
theorem nat_Shr.ok {n : Nat} {l0 : List Int} {a1 : Int} {r : List Int × Bool × Int} (h : nat_Shr.f n l0 a1 = some r) : CallD Tryd.prog HW 126 [.ro .u64 l0, .int .i64 a1] (nat_Shr.sg.enc r) :=
  fun_some hwS Tryd.func126 (by kernel_rfl) (body := nat_Shr.code) (by kernel_rfl) tys_ok (c := nat_Shr.cfg (nat_Trail.f n) (nat_size.f n) (nat_big.f n) (nat_cut.f n)) (orCall_ok (nat_Trail.call_ok (n := n)) (orCall_ok (nat_size.call_ok (n := n)) (orCall_ok (nat_big.call_ok (n := n)) (orCall_ok (nat_cut.call_ok (n := n)) noCall_ok)))) noW_ok (by kernel_rfl) (by kernel_rfl) (Nat.le_of_ble_eq_true (by kernel_rfl)) ((nat_Shr.eq n l0 a1).trans h)
noncomputable def nat_Shr.call {α : Type} (g : List Int → Int → Option (List Int × Bool × Int)) (ds : List D) (K : List D → Option α) : Option α := match ds with
  | [.ro .u64 l0, .int .i64 a1] => (g l0 a1).bind fun r => K (nat_Shr.sg.enc r)
  | _ => none
theorem nat_Shr.call_ok {α : Type} {n : Nat} (ds : List D) (K : List D → Option α) (r : α) (h : nat_Shr.call (nat_Shr.f n) ds K = some r) : ∃ rs, K rs = some r ∧ CallD Tryd.prog HW 126 ds rs := by
  unfold nat_Shr.call at h
  split at h
  · obtain ⟨x, hx, hk⟩ := Option.bind_eq_some_iff.1 h
    exact ⟨_, hk, nat_Shr.ok (n := n) hx⟩
  · cases h
/-! ### quot_long: function 173 -/
noncomputable def quot_long.b0 (c117 : List Int → Option (List Int)) (c126 : List Int → Int → Option (List Int × Bool × Int)) (c176 : Int → Option (Int)) (c178 : List Int → Int → Int → Option (List Int)) (c179 : List Int → List Int → Option (Int)) (c180 : List Int → List Int → Int → Option (List Int × Bool)) (c181 : List Int → List Int → Option (List Int × Bool)) (k7157 : Int → Int → Int → List Int → List Int → List Int → Option (List Int × List Int)) (l0 : List Int) (l1 : List Int) : Option (List Int × List Int) := (if 0 ≤ (wrap64 ((ln l1) - 1)) then (if (wrap64 ((ln l1) - 1)) < (ln l1) then ((c176 (rd l1 (wrap64 ((ln l1) - 1)))).bind fun t1 => ((c178 l1 t1 (ln l1)).bind fun t2 => ((c178 l0 t1 (wrap64 ((ln l0) + 1))).bind fun t3 => (if 0 ≤ (wrap64 ((wrap64 ((ln l0) - (ln l1))) + 1)) then (if (wrap64 ((wrap64 ((ln l0) - (ln l1))) + 1)).toNat ≤ 35184372088832 then k7157 (ln l1) t1 (wrap64 ((ln (List.replicate (wrap64 ((wrap64 ((ln l0) - (ln l1))) + 1)).toNat (0 : Int))) - 1)) t2 t3 (List.replicate (wrap64 ((wrap64 ((ln l0) - (ln l1))) + 1)).toNat (0 : Int)) else none) else none)))) else none) else none)
noncomputable def quot_long.b895 (c117 : List Int → Option (List Int)) (c126 : List Int → Int → Option (List Int × Bool × Int)) (c176 : Int → Option (Int)) (c178 : List Int → Int → Int → Option (List Int)) (c179 : List Int → List Int → Option (Int)) (c180 : List Int → List Int → Int → Option (List Int × Bool)) (c181 : List Int → List Int → Option (List Int × Bool)) (x0 : Int) (x1 : Int) (x2 : List Int) (x3 : List Int) : Option (List Int × List Int) := (if 0 ≤ x0 then (if x0 ≤ (ln x2) then ((c126 ((x2.take (x0 : Int).toNat).drop 0) x1).bind fun t1 => ((c117 x3).bind fun t2 => some (t2, t1.1))) else none) else none)
noncomputable def quot_long.b7157 (c117 : List Int → Option (List Int)) (c126 : List Int → Int → Option (List Int × Bool × Int)) (c176 : Int → Option (Int)) (c178 : List Int → Int → Int → Option (List Int)) (c179 : List Int → List Int → Option (Int)) (c180 : List Int → List Int → Int → Option (List Int × Bool)) (c181 : List Int → List Int → Option (List Int × Bool)) (k895 : Int → Int → List Int → List Int → Option (List Int × List Int)) (k1832093 : Int → Int → Int → Int → Int → Bool → List Int → List Int → List Int → Option (List Int × List Int)) (x0 : Int) (x1 : Int) (x2 : Int) (x3 : List Int) (x4 : List Int) (x5 : List Int) : Option (List Int × List Int) := (if x2 ≥ 0 then (if 0 ≤ (wrap64 ((wrap64 (x2 + x0)) + 1)) then (if (wrap64 ((wrap64 (x2 + x0)) + 1)) ≤ (ln x4) then (if 0 ≤ x2 then (if x2 ≤ (wrap64 ((wrap64 (x2 + x0)) + 1)) then ((c179 ((x4.take (wrap64 ((wrap64 (x2 + x0)) + 1) : Int).toNat).drop (x2 : Int).toNat) x3).bind fun t1 => (if x2 < (wrap64 ((wrap64 (x2 + x0)) + 1)) then ((c180 ((x4.take (wrap64 ((wrap64 (x2 + x0)) + 1) : Int).toNat).drop (x2 : Int).toNat) x3 t1).bind fun t2 => k1832093 x0 x1 x2 (wrap64 ((wrap64 (x2 + x0)) + 1)) t1 t2.2 x3 (x4.take (x2 : Int).toNat ++ t2.1 ++ x4.drop (wrap64 ((wrap64 (x2 + x0)) + 1) : Int).toNat) x5) else none)) else none) else none) else none) else none) else k895 x0 x1 x4 x5)
noncomputable def quot_long.b1832093 (c117 : List Int → Option (List Int)) (c126 : List Int → Int → Option (List Int × Bool × Int)) (c176 : Int → Option (Int)) (c178 : List Int → Int → Int → Option (List Int)) (c179 : List Int → List Int → Option (Int)) (c180 : List Int → List Int → Int → Option (List Int × Bool)) (c181 : List Int → List Int → Option (List Int × Bool)) (k7157 : Int → Int → Int → List Int → List Int → List Int → Option (List Int × List Int)) (k1832093 : Int → Int → Int → Int → Int → Bool → List Int → List Int → List Int → Option (List Int × List Int)) (x0 : Int) (x1 : Int) (x2 : Int) (x3 : Int) (x4 : Int) (x5 : Bool) (x6 : List Int) (x7 : List Int) (x8 : List Int) : Option (List Int × List Int) := (if (!x5) = true then (if 0 ≤ x2 then (if x2 < (ln x8) then k7157 x0 x1 (wrap64 (x2 - 1)) x6 x7 (x8.set (x2 : Int).toNat x4) else none) else none) else (if x2 < x3 then ((c181 ((x7.take (x3 : Int).toNat).drop (x2 : Int).toNat) x6).bind fun t1 => k1832093 x0 x1 x2 x3 (IntKind.u64.wrap (x4 - 1)) (!t1.2) x6 (x7.take (x2 : Int).toNat ++ t1.1 ++ x7.drop (x3 : Int).toNat) x8) else none))
noncomputable def quot_long.l895 (n : Nat) (x0 : Int) (x1 : Int) (x2 : List Int) (x3 : List Int) : Option (List Int × List Int) := quot_long.b895 (nat_Trim.f n) (nat_Shr.f n) bits_LeadingZeros64.f (quot_raised.f n) (quot_guess.f n) (quot_takeOff.f n) (quot_putBack.f n) x0 x1 x2 x3
noncomputable def quot_long.l1832093 (n : Nat) (k7157 : Int → Int → Int → List Int → List Int → List Int → Option (List Int × List Int)) : Nat → Int → Int → Int → Int → Int → Bool → List Int → List Int → List Int → Option (List Int × List Int)
  | 0, _, _, _, _, _, _, _, _, _ => none
  | m + 1, x0, x1, x2, x3, x4, x5, x6, x7, x8 => quot_long.b1832093 (nat_Trim.f n) (nat_Shr.f n) bits_LeadingZeros64.f (quot_raised.f n) (quot_guess.f n) (quot_takeOff.f n) (quot_putBack.f n) k7157 (quot_long.l1832093 n k7157 m) x0 x1 x2 x3 x4 x5 x6 x7 x8
noncomputable def quot_long.l7157 (n : Nat) : Nat → Int → Int → Int → List Int → List Int → List Int → Option (List Int × List Int)
  | 0, _, _, _, _, _, _ => none
  | m + 1, x0, x1, x2, x3, x4, x5 => quot_long.b7157 (nat_Trim.f n) (nat_Shr.f n) bits_LeadingZeros64.f (quot_raised.f n) (quot_guess.f n) (quot_takeOff.f n) (quot_putBack.f n) (quot_long.l895 n) (quot_long.l1832093 n (quot_long.l7157 n m) n) x0 x1 x2 x3 x4 x5
noncomputable def quot_long.f (n : Nat) (l0 : List Int) (l1 : List Int) : Option (List Int × List Int) := quot_long.b0 (nat_Trim.f n) (nat_Shr.f n) bits_LeadingZeros64.f (quot_raised.f n) (quot_guess.f n) (quot_takeOff.f n) (quot_putBack.f n) (quot_long.l7157 n n) l0 l1
noncomputable def quot_long.sg : Sig (List Int × List Int) := s2 (sRow .u64) (s1 (sRow .u64))
noncomputable def quot_long.code : Code := (Tryd.f173.body).getD .skip
noncomputable def quot_long.cfg (c117 : List Int → Option (List Int)) (c126 : List Int → Int → Option (List Int × Bool × Int)) (c176 : Int → Option (Int)) (c178 : List Int → Int → Int → Option (List Int)) (c179 : List Int → List Int → Option (Int)) (c180 : List Int → List Int → Int → Option (List Int × Bool)) (c181 : List Int → List Int → Option (List Int × Bool)) : Cfg (List Int × List Int) := { T := tys, call := orCall 117 (nat_Trim.call c117) (orCall 126 (nat_Shr.call c126) (orCall 176 (bits_LeadingZeros64.call c176) (orCall 178 (quot_raised.call c178) (orCall 179 (quot_guess.call c179) (noCall))))), win := true, wr := [180, 181], callw := orW 180 (quot_takeOff.call c180) (orW 181 (quot_putBack.call c181) (noW)) }
noncomputable def quot_long.cuts : List (Nat × List (Nat × Want)) := [(895, [(6, .keep), (7, .keep), (9, .keep), (10, .keep)]), (7157, [(6, .keep), (7, .keep), (8, .keep), (9, .keep), (10, .keep), (11, .keep)]), (1832093, [(6, .keep), (7, .keep), (8, .keep), (9, .keep), (10, .keep), (11, .keep), (12, .keep), (13, .keep), (14, .keep)])]
noncomputable def quot_long.s895 (x0 : Int) (x1 : Int) (x2 : List Int) (x3 : List Int) : ASt := ⟨[(6, .int .i64 x0), (7, .int .i64 x1), (9, .own 0), (10, .own 1)], [.ints 22 .u64 x2, .ints 22 .u64 x3]⟩
noncomputable def quot_long.s7157 (x0 : Int) (x1 : Int) (x2 : Int) (x3 : List Int) (x4 : List Int) (x5 : List Int) : ASt := ⟨[(6, .int .i64 x0), (7, .int .i64 x1), (8, .own 0), (9, .own 1), (10, .own 2), (11, .int .i64 x2)], [.ints 22 .u64 x3, .ints 22 .u64 x4, .ints 22 .u64 x5]⟩
noncomputable def quot_long.s1832093 (x0 : Int) (x1 : Int) (x2 : Int) (x3 : Int) (x4 : Int) (x5 : Bool) (x6 : List Int) (x7 : List Int) (x8 : List Int) : ASt := ⟨[(6, .int .i64 x0), (7, .int .i64 x1), (8, .own 0), (9, .own 1), (10, .own 2), (11, .int .i64 x2), (12, .win 1 x2 x3), (13, .int .u64 x4), (14, .bool x5)], [.ints 22 .u64 x6, .ints 22 .u64 x7, .ints 22 .u64 x8]⟩
noncomputable def quot_long.A (c117 : List Int → Option (List Int)) (c126 : List Int → Int → Option (List Int × Bool × Int)) (c176 : Int → Option (Int)) (c178 : List Int → Int → Int → Option (List Int)) (c179 : List Int → List Int → Option (Int)) (c180 : List Int → List Int → Int → Option (List Int × Bool)) (c181 : List Int → List Int → Option (List Int × Bool)) (n : Nat) (J : Nat → (ASt → Option (List Int × List Int)) → ASt → Option (List Int × List Int)) (q : Nat) (ms : List Nat) : ASt → Option (List Int × List Int) := acont (quot_long.cfg c117 c126 c176 c178 c179 c180 c181) J quot_long.cuts n q quot_long.code 1 ms (aend (quot_long.cfg c117 c126 c176 c178 c179 c180 c181) Tryd.f173.results.toList [false, false] quot_long.sg.out)
theorem quot_long.e0 (c117 : List Int → Option (List Int)) (c126 : List Int → Int → Option (List Int × Bool × Int)) (c176 : Int → Option (Int)) (c178 : List Int → Int → Int → Option (List Int)) (c179 : List Int → List Int → Option (Int)) (c180 : List Int → List Int → Int → Option (List Int × Bool)) (c181 : List Int → List Int → Option (List Int × Bool)) (n : Nat) (J : Nat → (ASt → Option (List Int × List Int)) → ASt → Option (List Int × List Int)) (l0 : List Int) (l1 : List Int) : afun (quot_long.cfg c117 c126 c176 c178 c179 c180 c181) J quot_long.cuts n quot_long.code Tryd.f173.results.toList [false, false] [.ro .u64 l0, .ro .u64 l1] quot_long.sg.out = quot_long.b0 c117 c126 c176 c178 c179 c180 c181 (fun y0 y1 y2 y3 y4 y5 => J 7157 (quot_long.A c117 c126 c176 c178 c179 c180 c181 n J 7157 [n]) (quot_long.s7157 y0 y1 y2 y3 y4 y5)) l0 l1 := by kernel_rfl
theorem quot_long.e895 (c117 : List Int → Option (List Int)) (c126 : List Int → Int → Option (List Int × Bool × Int)) (c176 : Int → Option (Int)) (c178 : List Int → Int → Int → Option (List Int)) (c179 : List Int → List Int → Option (Int)) (c180 : List Int → List Int → Int → Option (List Int × Bool)) (c181 : List Int → List Int → Option (List Int × Bool)) (n : Nat) (J : Nat → (ASt → Option (List Int × List Int)) → ASt → Option (List Int × List Int)) (x0 : Int) (x1 : Int) (x2 : List Int) (x3 : List Int) : quot_long.A c117 c126 c176 c178 c179 c180 c181 n J 895 [] (quot_long.s895 x0 x1 x2 x3) = quot_long.b895 c117 c126 c176 c178 c179 c180 c181 x0 x1 x2 x3 := by kernel_rfl
theorem quot_long.e7157 (c117 : List Int → Option (List Int)) (c126 : List Int → Int → Option (List Int × Bool × Int)) (c176 : Int → Option (Int)) (c178 : List Int → Int → Int → Option (List Int)) (c179 : List Int → List Int → Option (Int)) (c180 : List Int → List Int → Int → Option (List Int × Bool)) (c181 : List Int → List Int → Option (List Int × Bool)) (n : Nat) (J : Nat → (ASt → Option (List Int × List Int)) → ASt → Option (List Int × List Int)) (m : Nat) (x0 : Int) (x1 : Int) (x2 : Int) (x3 : List Int) (x4 : List Int) (x5 : List Int) : quot_long.A c117 c126 c176 c178 c179 c180 c181 n J 7157 [m + 1] (quot_long.s7157 x0 x1 x2 x3 x4 x5) = quot_long.b7157 c117 c126 c176 c178 c179 c180 c181 (fun y0 y1 y2 y3 => J 895 (quot_long.A c117 c126 c176 c178 c179 c180 c181 n J 895 []) (quot_long.s895 y0 y1 y2 y3)) (fun y0 y1 y2 y3 y4 y5 y6 y7 y8 => J 1832093 (quot_long.A c117 c126 c176 c178 c179 c180 c181 n J 1832093 [m, n]) (quot_long.s1832093 y0 y1 y2 y3 y4 y5 y6 y7 y8)) x0 x1 x2 x3 x4 x5 := by kernel_rfl
theorem quot_long.e1832093 (c117 : List Int → Option (List Int)) (c126 : List Int → Int → Option (List Int × Bool × Int)) (c176 : Int → Option (Int)) (c178 : List Int → Int → Int → Option (List Int)) (c179 : List Int → List Int → Option (Int)) (c180 : List Int → List Int → Int → Option (List Int × Bool)) (c181 : List Int → List Int → Option (List Int × Bool)) (n : Nat) (J : Nat → (ASt → Option (List Int × List Int)) → ASt → Option (List Int × List Int)) (m7157 : Nat) (m : Nat) (x0 : Int) (x1 : Int) (x2 : Int) (x3 : Int) (x4 : Int) (x5 : Bool) (x6 : List Int) (x7 : List Int) (x8 : List Int) : quot_long.A c117 c126 c176 c178 c179 c180 c181 n J 1832093 [m7157, m + 1] (quot_long.s1832093 x0 x1 x2 x3 x4 x5 x6 x7 x8) = quot_long.b1832093 c117 c126 c176 c178 c179 c180 c181 (fun y0 y1 y2 y3 y4 y5 => J 7157 (quot_long.A c117 c126 c176 c178 c179 c180 c181 n J 7157 [m7157]) (quot_long.s7157 y0 y1 y2 y3 y4 y5)) (fun y0 y1 y2 y3 y4 y5 y6 y7 y8 => J 1832093 (quot_long.A c117 c126 c176 c178 c179 c180 c181 n J 1832093 [m7157, m]) (quot_long.s1832093 y0 y1 y2 y3 y4 y5 y6 y7 y8)) x0 x1 x2 x3 x4 x5 x6 x7 x8 := by kernel_rfl
theorem quot_long.q895 (n : Nat) (x0 : Int) (x1 : Int) (x2 : List Int) (x3 : List Int) : quot_long.A (nat_Trim.f n) (nat_Shr.f n) bits_LeadingZeros64.f (quot_raised.f n) (quot_guess.f n) (quot_takeOff.f n) (quot_putBack.f n) n idJ 895 [] (quot_long.s895 x0 x1 x2 x3) = quot_long.l895 n x0 x1 x2 x3 := (quot_long.e895 (nat_Trim.f n) (nat_Shr.f n) bits_LeadingZeros64.f (quot_raised.f n) (quot_guess.f n) (quot_takeOff.f n) (quot_putBack.f n) n idJ x0 x1 x2 x3).trans (rfl)
theorem quot_long.q1832093 (n : Nat) (m7157 : Nat) (m : Nat) : ∀ (x0 : Int) (x1 : Int) (x2 : Int) (x3 : Int) (x4 : Int) (x5 : Bool) (x6 : List Int) (x7 : List Int) (x8 : List Int), quot_long.A (nat_Trim.f n) (nat_Shr.f n) bits_LeadingZeros64.f (quot_raised.f n) (quot_guess.f n) (quot_takeOff.f n) (quot_putBack.f n) n idJ 1832093 [m7157, m] (quot_long.s1832093 x0 x1 x2 x3 x4 x5 x6 x7 x8) = quot_long.l1832093 n (fun y0 y1 y2 y3 y4 y5 => quot_long.A (nat_Trim.f n) (nat_Shr.f n) bits_LeadingZeros64.f (quot_raised.f n) (quot_guess.f n) (quot_takeOff.f n) (quot_putBack.f n) n idJ 7157 [m7157] (quot_long.s7157 y0 y1 y2 y3 y4 y5)) m x0 x1 x2 x3 x4 x5 x6 x7 x8 := by
  induction m with
  | zero => intros; rfl
  | succ m ih =>
    intro x0 x1 x2 x3 x4 x5 x6 x7 x8
    refine (quot_long.e1832093 (nat_Trim.f n) (nat_Shr.f n) bits_LeadingZeros64.f (quot_raised.f n) (quot_guess.f n) (quot_takeOff.f n) (quot_putBack.f n) n idJ m7157 m x0 x1 x2 x3 x4 x5 x6 x7 x8).trans ?_
    exact congrFun (congrFun (congrFun (congrFun (congrFun (congrFun (congrFun (congrFun (congrFun (congr (congrArg (quot_long.b1832093 (nat_Trim.f n) (nat_Shr.f n) bits_LeadingZeros64.f (quot_raised.f n) (quot_guess.f n) (quot_takeOff.f n) (quot_putBack.f n)) rfl) (funext fun y0 => (funext fun y1 => (funext fun y2 => (funext fun y3 => (funext fun y4 => (funext fun y5 => (funext fun y6 => (funext fun y7 => (funext fun y8 => ih y0 y1 y2 y3 y4 y5 y6 y7 y8)))))))))) x0) x1) x2) x3) x4) x5) x6) x7) x8
theorem quot_long.q7157 (n : Nat) (m : Nat) : ∀ (x0 : Int) (x1 : Int) (x2 : Int) (x3 : List Int) (x4 : List Int) (x5 : List Int), quot_long.A (nat_Trim.f n) (nat_Shr.f n) bits_LeadingZeros64.f (quot_raised.f n) (quot_guess.f n) (quot_takeOff.f n) (quot_putBack.f n) n idJ 7157 [m] (quot_long.s7157 x0 x1 x2 x3 x4 x5) = quot_long.l7157 n m x0 x1 x2 x3 x4 x5 := by
  induction m with
  | zero => intros; rfl
  | succ m ih =>
    intro x0 x1 x2 x3 x4 x5
    refine (quot_long.e7157 (nat_Trim.f n) (nat_Shr.f n) bits_LeadingZeros64.f (quot_raised.f n) (quot_guess.f n) (quot_takeOff.f n) (quot_putBack.f n) n idJ m x0 x1 x2 x3 x4 x5).trans ?_
    exact congrFun (congrFun (congrFun (congrFun (congrFun (congrFun (congr (congrArg (quot_long.b7157 (nat_Trim.f n) (nat_Shr.f n) bits_LeadingZeros64.f (quot_raised.f n) (quot_guess.f n) (quot_takeOff.f n) (quot_putBack.f n)) (funext fun y0 => (funext fun y1 => (funext fun y2 => (funext fun y3 => quot_long.q895 n y0 y1 y2 y3))))) ((funext fun y0 => (funext fun y1 => (funext fun y2 => (funext fun y3 => (funext fun y4 => (funext fun y5 => (funext fun y6 => (funext fun y7 => (funext fun y8 => quot_long.q1832093 n m n y0 y1 y2 y3 y4 y5 y6 y7 y8))))))))).trans (by rw [show (fun y0 y1 y2 y3 y4 y5 => quot_long.A (nat_Trim.f n) (nat_Shr.f n) bits_LeadingZeros64.f (quot_raised.f n) (quot_guess.f n) (quot_takeOff.f n) (quot_putBack.f n) n idJ 7157 [m] (quot_long.s7157 y0 y1 y2 y3 y4 y5)) = _ from (funext fun y0 => (funext fun y1 => (funext fun y2 => (funext fun y3 => (funext fun y4 => (funext fun y5 => ih y0 y1 y2 y3 y4 y5))))))]))) x0) x1) x2) x3) x4) x5
theorem quot_long.eq (n : Nat) (l0 : List Int) (l1 : List Int) : afun (quot_long.cfg (nat_Trim.f n) (nat_Shr.f n) bits_LeadingZeros64.f (quot_raised.f n) (quot_guess.f n) (quot_takeOff.f n) (quot_putBack.f n)) idJ quot_long.cuts n quot_long.code Tryd.f173.results.toList [false, false] [.ro .u64 l0, .ro .u64 l1] quot_long.sg.out = quot_long.f n l0 l1 := (quot_long.e0 (nat_Trim.f n) (nat_Shr.f n) bits_LeadingZeros64.f (quot_raised.f n) (quot_guess.f n) (quot_takeOff.f n) (quot_putBack.f n) n idJ l0 l1).trans (congrFun (congrFun (congrArg (quot_long.b0 (nat_Trim.f n) (nat_Shr.f n) bits_LeadingZeros64.f (quot_raised.f n) (quot_guess.f n) (quot_takeOff.f n) (quot_putBack.f n)) (funext fun y0 => (funext fun y1 => (funext fun y2 => (funext fun y3 => (funext fun y4 => (funext fun y5 => quot_long.q7157 n n y0 y1 y2 y3 y4 y5))))))) l0) l1)
theorem quot_long.ok {n : Nat} {l0 : List Int} {l1 : List Int} {r : List Int × List Int} (h : quot_long.f n l0 l1 = some r) : CallD Tryd.prog HW 173 [.ro .u64 l0, .ro .u64 l1] (quot_long.sg.enc r) :=
  fun_some hwS Tryd.func173 (by kernel_rfl) (body := quot_long.code) (by kernel_rfl) tys_ok (c := quot_long.cfg (nat_Trim.f n) (nat_Shr.f n) bits_LeadingZeros64.f (quot_raised.f n) (quot_guess.f n) (quot_takeOff.f n) (quot_putBack.f n)) (orCall_ok (nat_Trim.call_ok (n := n)) (orCall_ok (nat_Shr.call_ok (n := n)) (orCall_ok (bits_LeadingZeros64.call_ok (n := n)) (orCall_ok (quot_raised.call_ok (n := n)) (orCall_ok (quot_guess.call_ok (n := n)) noCall_ok))))) (orW_ok (quot_takeOff.call_ok (n := n)) (orW_ok (quot_putBack.call_ok (n := n)) noW_ok)) (by kernel_rfl) (by kernel_rfl) (Nat.le_of_ble_eq_true (by kernel_rfl)) ((quot_long.eq n l0 l1).trans h)
noncomputable def quot_long.call {α : Type} (g : List Int → List Int → Option (List Int × List Int)) (ds : List D) (K : List D → Option α) : Option α := match ds with
  | [.ro .u64 l0, .ro .u64 l1] => (g l0 l1).bind fun r => K (quot_long.sg.enc r)
  | _ => none
theorem quot_long.call_ok {α : Type} {n : Nat} (ds : List D) (K : List D → Option α) (r : α) (h : quot_long.call (quot_long.f n) ds K = some r) : ∃ rs, K rs = some r ∧ CallD Tryd.prog HW 173 ds rs := by
  unfold quot_long.call at h
  split at h
  · obtain ⟨x, hx, hk⟩ := Option.bind_eq_some_iff.1 h
    exact ⟨_, hk, quot_long.ok (n := n) hx⟩
  · cases h
/-! ### quot_DivMod: function 130 -/
noncomputable def quot_DivMod.b0 (c42 : List Int → List Int → Option (Int)) (c118 : Int → Option (List Int)) (c124 : List Int → Int → Option (List Int × Int × Int)) (c157 : List Int → Int → Option (List Int × Bool)) (c173 : List Int → List Int → Option (List Int × List Int)) (l0 : List Int) (l1 : List Int) : Option (List Int × List Int × Int) := ((c157 l0 4096).bind fun t1 => ((c157 l1 4096).bind fun t2 => (if (!t1.2) = true then some (([] : List Int), ([] : List Int), 2) else (if (!t2.2) = true then some (([] : List Int), ([] : List Int), 2) else (if (ln t2.1) = 0 then some (([] : List Int), ([] : List Int), 4) else ((c42 t1.1 t2.1).bind fun t3 => (if t3 < 0 then some (([] : List Int), t1.1, 0) else (if (ln t2.1) = 1 then (if 0 < (ln t2.1) then ((c124 t1.1 (rd t2.1 0)).bind fun t4 => ((c118 t4.2.1).bind fun t5 => some (t4.1, t5, t4.2.2))) else none) else ((c173 t1.1 t2.1).bind fun t6 => some (t6.1, t6.2, 0))))))))))
noncomputable def quot_DivMod.f (n : Nat) (l0 : List Int) (l1 : List Int) : Option (List Int × List Int × Int) := quot_DivMod.b0 (nat_Cmp.f n) nat_FromUint.f (nat_DivSmall.f n) (quot_small.f n) (quot_long.f n) l0 l1
noncomputable def quot_DivMod.sg : Sig (List Int × List Int × Int) := s2 (sRow .u64) (s2 (sRow .u64) (s1 (sInt .i64)))
noncomputable def quot_DivMod.code : Code := (Tryd.f130.body).getD .skip
noncomputable def quot_DivMod.cfg (c42 : List Int → List Int → Option (Int)) (c118 : Int → Option (List Int)) (c124 : List Int → Int → Option (List Int × Int × Int)) (c157 : List Int → Int → Option (List Int × Bool)) (c173 : List Int → List Int → Option (List Int × List Int)) : Cfg (List Int × List Int × Int) := { T := tys, call := orCall 42 (nat_Cmp.call c42) (orCall 118 (nat_FromUint.call c118) (orCall 124 (nat_DivSmall.call c124) (orCall 157 (quot_small.call c157) (orCall 173 (quot_long.call c173) (noCall))))) }
noncomputable def quot_DivMod.cuts : List (Nat × List (Nat × Want)) := []
theorem quot_DivMod.e0 (c42 : List Int → List Int → Option (Int)) (c118 : Int → Option (List Int)) (c124 : List Int → Int → Option (List Int × Int × Int)) (c157 : List Int → Int → Option (List Int × Bool)) (c173 : List Int → List Int → Option (List Int × List Int)) (n : Nat) (J : Nat → (ASt → Option (List Int × List Int × Int)) → ASt → Option (List Int × List Int × Int)) (l0 : List Int) (l1 : List Int) : afun (quot_DivMod.cfg c42 c118 c124 c157 c173) J quot_DivMod.cuts n quot_DivMod.code Tryd.f130.results.toList [false, false, false] [.ro .u64 l0, .ro .u64 l1] quot_DivMod.sg.out = quot_DivMod.b0 c42 c118 c124 c157 c173 l0 l1 := by kernel_rfl
theorem quot_DivMod.eq (n : Nat) (l0 : List Int) (l1 : List Int) : afun (quot_DivMod.cfg (nat_Cmp.f n) nat_FromUint.f (nat_DivSmall.f n) (quot_small.f n) (quot_long.f n)) idJ quot_DivMod.cuts n quot_DivMod.code Tryd.f130.results.toList [false, false, false] [.ro .u64 l0, .ro .u64 l1] quot_DivMod.sg.out = quot_DivMod.f n l0 l1 := (quot_DivMod.e0 (nat_Cmp.f n) nat_FromUint.f (nat_DivSmall.f n) (quot_small.f n) (quot_long.f n) n idJ l0 l1).trans (rfl)
theorem quot_DivMod.ok {n : Nat} {l0 : List Int} {l1 : List Int} {r : List Int × List Int × Int} (h : quot_DivMod.f n l0 l1 = some r) : CallD Tryd.prog HW 130 [.ro .u64 l0, .ro .u64 l1] (quot_DivMod.sg.enc r) :=
  fun_some hwS Tryd.func130 (by kernel_rfl) (body := quot_DivMod.code) (by kernel_rfl) tys_ok (c := quot_DivMod.cfg (nat_Cmp.f n) nat_FromUint.f (nat_DivSmall.f n) (quot_small.f n) (quot_long.f n)) (orCall_ok (nat_Cmp.call_ok (n := n)) (orCall_ok (nat_FromUint.call_ok (n := n)) (orCall_ok (nat_DivSmall.call_ok (n := n)) (orCall_ok (quot_small.call_ok (n := n)) (orCall_ok (quot_long.call_ok (n := n)) noCall_ok))))) noW_ok (by kernel_rfl) (by kernel_rfl) (Nat.le_of_ble_eq_true (by kernel_rfl)) ((quot_DivMod.eq n l0 l1).trans h)
noncomputable def quot_DivMod.call {α : Type} (g : List Int → List Int → Option (List Int × List Int × Int)) (ds : List D) (K : List D → Option α) : Option α := match ds with
  | [.ro .u64 l0, .ro .u64 l1] => (g l0 l1).bind fun r => K (quot_DivMod.sg.enc r)
  | _ => none
theorem quot_DivMod.call_ok {α : Type} {n : Nat} (ds : List D) (K : List D → Option α) (r : α) (h : quot_DivMod.call (quot_DivMod.f n) ds K = some r) : ∃ rs, K rs = some r ∧ CallD Tryd.prog HW 130 ds rs := by
  unfold quot_DivMod.call at h
  split at h
  · obtain ⟨x, hx, hk⟩ := Option.bind_eq_some_iff.1 h
    exact ⟨_, hk, quot_DivMod.ok (n := n) hx⟩
  · cases h
/-! ### abacuslaw02_alike: function 72 -/
noncomputable def abacuslaw02_alike.b0 (k117 : List Int → List Int → Int → Option (Bool)) (l0 : List Int) (l1 : List Int) : Option (Bool) := (if ¬ (ln l0) = (ln l1) then some false else k117 l0 l1 0)
noncomputable def abacuslaw02_alike.b117 (k117 : List Int → List Int → Int → Option (Bool)) (x0 : List Int) (x1 : List Int) (x2 : Int) : Option (Bool) := (if x2 < (ln x1) then (if 0 ≤ x2 then (if x2 < (ln x0) then (if 0 ≤ x2 then (if x2 < (ln x1) then (if ¬ (rd x0 x2) = (rd x1 x2) then some false else k117 x0 x1 (wrap64 (x2 + 1))) else none) else none) else none) else none) else some true)
noncomputable def abacuslaw02_alike.l117 (n : Nat) : Nat → List Int → List Int → Int → Option (Bool)
  | 0, _, _, _ => none
  | m + 1, x0, x1, x2 => abacuslaw02_alike.b117 (abacuslaw02_alike.l117 n m) x0 x1 x2
noncomputable def abacuslaw02_alike.f (n : Nat) (l0 : List Int) (l1 : List Int) : Option (Bool) := abacuslaw02_alike.b0 (abacuslaw02_alike.l117 n n) l0 l1
noncomputable def abacuslaw02_alike.sg : Sig (Bool) := s1 (sBool)
noncomputable def abacuslaw02_alike.code : Code := (Tryd.f72.body).getD .skip
noncomputable def abacuslaw02_alike.cfg : Cfg (Bool) := { T := tys, call := noCall }
noncomputable def abacuslaw02_alike.cuts : List (Nat × List (Nat × Want)) := [(117, [(0, .keep), (1, .keep), (5, .keep)])]
noncomputable def abacuslaw02_alike.s117 (x0 : List Int) (x1 : List Int) (x2 : Int) : ASt := ⟨[(0, .ro .u64 x0), (1, .ro .u64 x1), (5, .int .i64 x2)], []⟩
noncomputable def abacuslaw02_alike.A (n : Nat) (J : Nat → (ASt → Option (Bool)) → ASt → Option (Bool)) (q : Nat) (ms : List Nat) : ASt → Option (Bool) := acont (abacuslaw02_alike.cfg) J abacuslaw02_alike.cuts n q abacuslaw02_alike.code 1 ms (aend (abacuslaw02_alike.cfg) Tryd.f72.results.toList [false] abacuslaw02_alike.sg.out)
theorem abacuslaw02_alike.e0 (n : Nat) (J : Nat → (ASt → Option (Bool)) → ASt → Option (Bool)) (l0 : List Int) (l1 : List Int) : afun (abacuslaw02_alike.cfg) J abacuslaw02_alike.cuts n abacuslaw02_alike.code Tryd.f72.results.toList [false] [.ro .u64 l0, .ro .u64 l1] abacuslaw02_alike.sg.out = abacuslaw02_alike.b0 (fun y0 y1 y2 => J 117 (abacuslaw02_alike.A n J 117 [n]) (abacuslaw02_alike.s117 y0 y1 y2)) l0 l1 := by kernel_rfl
theorem abacuslaw02_alike.e117 (n : Nat) (J : Nat → (ASt → Option (Bool)) → ASt → Option (Bool)) (m : Nat) (x0 : List Int) (x1 : List Int) (x2 : Int) : abacuslaw02_alike.A n J 117 [m + 1] (abacuslaw02_alike.s117 x0 x1 x2) = abacuslaw02_alike.b117 (fun y0 y1 y2 => J 117 (abacuslaw02_alike.A n J 117 [m]) (abacuslaw02_alike.s117 y0 y1 y2)) x0 x1 x2 := by kernel_rfl
theorem abacuslaw02_alike.q117 (n : Nat) (m : Nat) : ∀ (x0 : List Int) (x1 : List Int) (x2 : Int), abacuslaw02_alike.A n idJ 117 [m] (abacuslaw02_alike.s117 x0 x1 x2) = abacuslaw02_alike.l117 n m x0 x1 x2 := by
  induction m with
  | zero => intros; rfl
  | succ m ih =>
    intro x0 x1 x2
    refine (abacuslaw02_alike.e117 n idJ m x0 x1 x2).trans ?_
    exact congrFun (congrFun (congrFun (congrArg abacuslaw02_alike.b117 (funext fun y0 => (funext fun y1 => (funext fun y2 => ih y0 y1 y2)))) x0) x1) x2
theorem abacuslaw02_alike.eq (n : Nat) (l0 : List Int) (l1 : List Int) : afun (abacuslaw02_alike.cfg) idJ abacuslaw02_alike.cuts n abacuslaw02_alike.code Tryd.f72.results.toList [false] [.ro .u64 l0, .ro .u64 l1] abacuslaw02_alike.sg.out = abacuslaw02_alike.f n l0 l1 := (abacuslaw02_alike.e0 n idJ l0 l1).trans (congrFun (congrFun (congrArg abacuslaw02_alike.b0 (funext fun y0 => (funext fun y1 => (funext fun y2 => abacuslaw02_alike.q117 n n y0 y1 y2)))) l0) l1)
theorem abacuslaw02_alike.ok {n : Nat} {l0 : List Int} {l1 : List Int} {r : Bool} (h : abacuslaw02_alike.f n l0 l1 = some r) : CallD Tryd.prog HW 72 [.ro .u64 l0, .ro .u64 l1] (abacuslaw02_alike.sg.enc r) :=
  fun_some hwS Tryd.func72 (by kernel_rfl) (body := abacuslaw02_alike.code) (by kernel_rfl) tys_ok (c := abacuslaw02_alike.cfg) noCall_ok noW_ok (by kernel_rfl) (by kernel_rfl) (Nat.le_of_ble_eq_true (by kernel_rfl)) ((abacuslaw02_alike.eq n l0 l1).trans h)
noncomputable def abacuslaw02_alike.call {α : Type} (g : List Int → List Int → Option (Bool)) (ds : List D) (K : List D → Option α) : Option α := match ds with
  | [.ro .u64 l0, .ro .u64 l1] => (g l0 l1).bind fun r => K (abacuslaw02_alike.sg.enc r)
  | _ => none
theorem abacuslaw02_alike.call_ok {α : Type} {n : Nat} (ds : List D) (K : List D → Option α) (r : α) (h : abacuslaw02_alike.call (abacuslaw02_alike.f n) ds K = some r) : ∃ rs, K rs = some r ∧ CallD Tryd.prog HW 72 ds rs := by
  unfold abacuslaw02_alike.call at h
  split at h
  · obtain ⟨x, hx, hk⟩ := Option.bind_eq_some_iff.1 h
    exact ⟨_, hk, abacuslaw02_alike.ok (n := n) hx⟩
  · cases h
/-! ### abacuslaw02_divides: function 39 -/
noncomputable def abacuslaw02_divides.b0 (c72 : List Int → List Int → Option (Bool)) (c129 : List Int → List Int → Option (List Int × List Int × Int)) (c130 : List Int → List Int → Option (List Int × List Int × Int)) (l0 : List Int) (l1 : List Int) : Option (Bool) := ((c129 l0 l1).bind fun t1 => ((c130 l0 l1).bind fun t2 => (if t2.2.2 = t1.2.2 then ((c72 t2.1 t1.1).bind fun t3 => (if t3 = true then ((c72 t2.2.1 t1.2.1).bind fun t4 => some t4) else some false)) else some false)))
noncomputable def abacuslaw02_divides.f (n : Nat) (l0 : List Int) (l1 : List Int) : Option (Bool) := abacuslaw02_divides.b0 (abacuslaw02_alike.f n) (abacusref02_DivMod.f n) (quot_DivMod.f n) l0 l1
noncomputable def abacuslaw02_divides.sg : Sig (Bool) := s1 (sBool)
noncomputable def abacuslaw02_divides.code : Code := (Tryd.f39.body).getD .skip
noncomputable def abacuslaw02_divides.cfg (c72 : List Int → List Int → Option (Bool)) (c129 : List Int → List Int → Option (List Int × List Int × Int)) (c130 : List Int → List Int → Option (List Int × List Int × Int)) : Cfg (Bool) := { T := tys, call := orCall 72 (abacuslaw02_alike.call c72) (orCall 129 (abacusref02_DivMod.call c129) (orCall 130 (quot_DivMod.call c130) (noCall))) }
noncomputable def abacuslaw02_divides.cuts : List (Nat × List (Nat × Want)) := []
theorem abacuslaw02_divides.e0 (c72 : List Int → List Int → Option (Bool)) (c129 : List Int → List Int → Option (List Int × List Int × Int)) (c130 : List Int → List Int → Option (List Int × List Int × Int)) (n : Nat) (J : Nat → (ASt → Option (Bool)) → ASt → Option (Bool)) (l0 : List Int) (l1 : List Int) : afun (abacuslaw02_divides.cfg c72 c129 c130) J abacuslaw02_divides.cuts n abacuslaw02_divides.code Tryd.f39.results.toList [false] [.ro .u64 l0, .ro .u64 l1] abacuslaw02_divides.sg.out = abacuslaw02_divides.b0 c72 c129 c130 l0 l1 := by kernel_rfl
theorem abacuslaw02_divides.eq (n : Nat) (l0 : List Int) (l1 : List Int) : afun (abacuslaw02_divides.cfg (abacuslaw02_alike.f n) (abacusref02_DivMod.f n) (quot_DivMod.f n)) idJ abacuslaw02_divides.cuts n abacuslaw02_divides.code Tryd.f39.results.toList [false] [.ro .u64 l0, .ro .u64 l1] abacuslaw02_divides.sg.out = abacuslaw02_divides.f n l0 l1 := (abacuslaw02_divides.e0 (abacuslaw02_alike.f n) (abacusref02_DivMod.f n) (quot_DivMod.f n) n idJ l0 l1).trans (rfl)
theorem abacuslaw02_divides.ok {n : Nat} {l0 : List Int} {l1 : List Int} {r : Bool} (h : abacuslaw02_divides.f n l0 l1 = some r) : CallD Tryd.prog HW 39 [.ro .u64 l0, .ro .u64 l1] (abacuslaw02_divides.sg.enc r) :=
  fun_some hwS Tryd.func39 (by kernel_rfl) (body := abacuslaw02_divides.code) (by kernel_rfl) tys_ok (c := abacuslaw02_divides.cfg (abacuslaw02_alike.f n) (abacusref02_DivMod.f n) (quot_DivMod.f n)) (orCall_ok (abacuslaw02_alike.call_ok (n := n)) (orCall_ok (abacusref02_DivMod.call_ok (n := n)) (orCall_ok (quot_DivMod.call_ok (n := n)) noCall_ok))) noW_ok (by kernel_rfl) (by kernel_rfl) (Nat.le_of_ble_eq_true (by kernel_rfl)) ((abacuslaw02_divides.eq n l0 l1).trans h)
noncomputable def abacuslaw02_divides.call {α : Type} (g : List Int → List Int → Option (Bool)) (ds : List D) (K : List D → Option α) : Option α := match ds with
  | [.ro .u64 l0, .ro .u64 l1] => (g l0 l1).bind fun r => K (abacuslaw02_divides.sg.enc r)
  | _ => none
theorem abacuslaw02_divides.call_ok {α : Type} {n : Nat} (ds : List D) (K : List D → Option α) (r : α) (h : abacuslaw02_divides.call (abacuslaw02_divides.f n) ds K = some r) : ∃ rs, K rs = some r ∧ CallD Tryd.prog HW 39 ds rs := by
  unfold abacuslaw02_divides.call at h
  split at h
  · obtain ⟨x, hx, hk⟩ := Option.bind_eq_some_iff.1 h
    exact ⟨_, hk, abacuslaw02_divides.ok (n := n) hx⟩
  · cases h
/-! ### abacusref02_Plus: function 174 -/
noncomputable def abacusref02_Plus.b0 (c149 : List Int → Option (List Int)) (k15 : List Int → List Int → Int → Option (List Int)) (l0 : List Int) (l1 : List Int) : Option (List Int) := (if (ln l1) > (ln l0) then k15 l0 l1 (ln l1) else k15 l0 l1 (ln l0))
noncomputable def abacusref02_Plus.b15 (c149 : List Int → Option (List Int)) (k1013 : List Int → List Int → Int → Int → Int → List Int → Option (List Int)) (x0 : List Int) (x1 : List Int) (x2 : Int) : Option (List Int) := (if 0 ≤ (wrap64 (x2 + 1)) then (if (wrap64 (x2 + 1)).toNat ≤ 35184372088832 then k1013 x0 x1 x2 0 0 (List.replicate (wrap64 (x2 + 1)).toNat (0 : Int)) else none) else none)
noncomputable def abacusref02_Plus.b127 (c149 : List Int → Option (List Int)) (x0 : Int) (x1 : Int) (x2 : List Int) : Option (List Int) := (if 0 ≤ x0 then (if x0 < (ln x2) then ((c149 (x2.set (x0 : Int).toNat x1)).bind fun t1 => some t1) else none) else none)
noncomputable def abacusref02_Plus.b1013 (c149 : List Int → Option (List Int)) (k127 : Int → Int → List Int → Option (List Int)) (k32403 : List Int → List Int → Int → Int → Int → Int → List Int → Option (List Int)) (x0 : List Int) (x1 : List Int) (x2 : Int) (x3 : Int) (x4 : Int) (x5 : List Int) : Option (List Int) := (if x4 < x2 then (if x4 < (ln x0) then (if 0 ≤ x4 then (if x4 < (ln x0) then k32403 x0 x1 x2 x3 x4 (rd x0 x4) x5 else none) else none) else k32403 x0 x1 x2 x3 x4 0 x5) else k127 x2 x3 x5)
noncomputable def abacusref02_Plus.b32403 (c149 : List Int → Option (List Int)) (k129615 : List Int → List Int → Int → Int → Int → Int → Int → List Int → Option (List Int)) (x0 : List Int) (x1 : List Int) (x2 : Int) (x3 : Int) (x4 : Int) (x5 : Int) (x6 : List Int) : Option (List Int) := (if x4 < (ln x1) then (if 0 ≤ x4 then (if x4 < (ln x1) then k129615 x0 x1 x2 x3 x4 x5 (rd x1 x4) x6 else none) else none) else k129615 x0 x1 x2 x3 x4 x5 0 x6)
noncomputable def abacusref02_Plus.b129615 (c149 : List Int → Option (List Int)) (k1036927 : List Int → List Int → Int → Int → Int → Int → Int → List Int → Option (List Int)) (x0 : List Int) (x1 : List Int) (x2 : Int) (x3 : Int) (x4 : Int) (x5 : Int) (x6 : Int) (x7 : List Int) : Option (List Int) := (if (IntKind.u64.wrap (x5 + x6)) < x5 then k1036927 x0 x1 x2 x3 x4 (IntKind.u64.wrap (x5 + x6)) 1 x7 else k1036927 x0 x1 x2 x3 x4 (IntKind.u64.wrap (x5 + x6)) 0 x7)
noncomputable def abacusref02_Plus.b1036927 (c149 : List Int → Option (List Int)) (k1013 : List Int → List Int → Int → Int → Int → List Int → Option (List Int)) (x0 : List Int) (x1 : List Int) (x2 : Int) (x3 : Int) (x4 : Int) (x5 : Int) (x6 : Int) (x7 : List Int) : Option (List Int) := (if (IntKind.u64.wrap (x5 + x3)) < x3 then (if 0 ≤ x4 then (if x4 < (ln x7) then k1013 x0 x1 x2 1 (wrap64 (x4 + 1)) (x7.set (x4 : Int).toNat (IntKind.u64.wrap (x5 + x3))) else none) else none) else (if 0 ≤ x4 then (if x4 < (ln x7) then k1013 x0 x1 x2 x6 (wrap64 (x4 + 1)) (x7.set (x4 : Int).toNat (IntKind.u64.wrap (x5 + x3))) else none) else none))
noncomputable def abacusref02_Plus.l127 (n : Nat) (x0 : Int) (x1 : Int) (x2 : List Int) : Option (List Int) := abacusref02_Plus.b127 (abacusref02_Short.f n) x0 x1 x2
noncomputable def abacusref02_Plus.l1036927 (n : Nat) (k1013 : List Int → List Int → Int → Int → Int → List Int → Option (List Int)) (x0 : List Int) (x1 : List Int) (x2 : Int) (x3 : Int) (x4 : Int) (x5 : Int) (x6 : Int) (x7 : List Int) : Option (List Int) := abacusref02_Plus.b1036927 (abacusref02_Short.f n) k1013 x0 x1 x2 x3 x4 x5 x6 x7
noncomputable def abacusref02_Plus.l129615 (n : Nat) (k1013 : List Int → List Int → Int → Int → Int → List Int → Option (List Int)) (x0 : List Int) (x1 : List Int) (x2 : Int) (x3 : Int) (x4 : Int) (x5 : Int) (x6 : Int) (x7 : List Int) : Option (List Int) := abacusref02_Plus.b129615 (abacusref02_Short.f n) (abacusref02_Plus.l1036927 n k1013) x0 x1 x2 x3 x4 x5 x6 x7
noncomputable def abacusref02_Plus.l32403 (n : Nat) (k1013 : List Int → List Int → Int → Int → Int → List Int → Option (List Int)) (x0 : List Int) (x1 : List Int) (x2 : Int) (x3 : Int) (x4 : Int) (x5 : Int) (x6 : List Int) : Option (List Int) := abacusref02_Plus.b32403 (abacusref02_Short.f n) (abacusref02_Plus.l129615 n k1013) x0 x1 x2 x3 x4 x5 x6
noncomputable def abacusref02_Plus.l1013 (n : Nat) : Nat → List Int → List Int → Int → Int → Int → List Int → Option (List Int)
  | 0, _, _, _, _, _, _ => none
  | m + 1, x0, x1, x2, x3, x4, x5 => abacusref02_Plus.b1013 (abacusref02_Short.f n) (abacusref02_Plus.l127 n) (abacusref02_Plus.l32403 n (abacusref02_Plus.l1013 n m)) x0 x1 x2 x3 x4 x5
noncomputable def abacusref02_Plus.l15 (n : Nat) (x0 : List Int) (x1 : List Int) (x2 : Int) : Option (List Int) := abacusref02_Plus.b15 (abacusref02_Short.f n) (abacusref02_Plus.l1013 n n) x0 x1 x2
noncomputable def abacusref02_Plus.f (n : Nat) (l0 : List Int) (l1 : List Int) : Option (List Int) := abacusref02_Plus.b0 (abacusref02_Short.f n) (abacusref02_Plus.l15 n) l0 l1
noncomputable def abacusref02_Plus.sg : Sig (List Int) := s1 (sRow .u64)
noncomputable def abacusref02_Plus.code : Code := (Tryd.f174.body).getD .skip
noncomputable def abacusref02_Plus.cfg (c149 : List Int → Option (List Int)) : Cfg (List Int) := { T := tys, call := orCall 149 (abacusref02_Short.call c149) (noCall) }
noncomputable def abacusref02_Plus.cuts : List (Nat × List (Nat × Want)) := [(15, [(0, .keep), (1, .keep), (5, .keep)]), (127, [(5, .keep), (6, .keep), (7, .keep)]), (1013, [(0, .keep), (1, .keep), (5, .keep), (6, .keep), (7, .keep), (8, .keep)]), (32403, [(0, .keep), (1, .keep), (5, .keep), (6, .keep), (7, .keep), (8, .keep), (9, .keep)]), (129615, [(0, .keep), (1, .keep), (5, .keep), (6, .keep), (7, .keep), (8, .keep), (9, .keep), (10, .keep)]), (1036927, [(0, .keep), (1, .keep), (5, .keep), (6, .keep), (7, .keep), (8, .keep), (11, .keep), (12, .keep)])]
noncomputable def abacusref02_Plus.s15 (x0 : List Int) (x1 : List Int) (x2 : Int) : ASt := ⟨[(0, .ro .u64 x0), (1, .ro .u64 x1), (5, .int .i64 x2)], []⟩
noncomputable def abacusref02_Plus.s127 (x0 : Int) (x1 : Int) (x2 : List Int) : ASt := ⟨[(5, .int .i64 x0), (6, .own 0), (7, .int .u64 x1)], [.ints 22 .u64 x2]⟩
noncomputable def abacusref02_Plus.s1013 (x0 : List Int) (x1 : List Int) (x2 : Int) (x3 : Int) (x4 : Int) (x5 : List Int) : ASt := ⟨[(0, .ro .u64 x0), (1, .ro .u64 x1), (5, .int .i64 x2), (6, .own 0), (7, .int .u64 x3), (8, .int .i64 x4)], [.ints 22 .u64 x5]⟩
noncomputable def abacusref02_Plus.s32403 (x0 : List Int) (x1 : List Int) (x2 : Int) (x3 : Int) (x4 : Int) (x5 : Int) (x6 : List Int) : ASt := ⟨[(0, .ro .u64 x0), (1, .ro .u64 x1), (5, .int .i64 x2), (6, .own 0), (7, .int .u64 x3), (8, .int .i64 x4), (9, .int .u64 x5)], [.ints 22 .u64 x6]⟩
noncomputable def abacusref02_Plus.s129615 (x0 : List Int) (x1 : List Int) (x2 : Int) (x3 : Int) (x4 : Int) (x5 : Int) (x6 : Int) (x7 : List Int) : ASt := ⟨[(0, .ro .u64 x0), (1, .ro .u64 x1), (5, .int .i64 x2), (6, .own 0), (7, .int .u64 x3), (8, .int .i64 x4), (9, .int .u64 x5), (10, .int .u64 x6)], [.ints 22 .u64 x7]⟩
noncomputable def abacusref02_Plus.s1036927 (x0 : List Int) (x1 : List Int) (x2 : Int) (x3 : Int) (x4 : Int) (x5 : Int) (x6 : Int) (x7 : List Int) : ASt := ⟨[(0, .ro .u64 x0), (1, .ro .u64 x1), (5, .int .i64 x2), (6, .own 0), (7, .int .u64 x3), (8, .int .i64 x4), (11, .int .u64 x5), (12, .int .u64 x6)], [.ints 22 .u64 x7]⟩
noncomputable def abacusref02_Plus.A (c149 : List Int → Option (List Int)) (n : Nat) (J : Nat → (ASt → Option (List Int)) → ASt → Option (List Int)) (q : Nat) (ms : List Nat) : ASt → Option (List Int) := acont (abacusref02_Plus.cfg c149) J abacusref02_Plus.cuts n q abacusref02_Plus.code 1 ms (aend (abacusref02_Plus.cfg c149) Tryd.f174.results.toList [false] abacusref02_Plus.sg.out)
theorem abacusref02_Plus.e0 (c149 : List Int → Option (List Int)) (n : Nat) (J : Nat → (ASt → Option (List Int)) → ASt → Option (List Int)) (l0 : List Int) (l1 : List Int) : afun (abacusref02_Plus.cfg c149) J abacusref02_Plus.cuts n abacusref02_Plus.code Tryd.f174.results.toList [false] [.ro .u64 l0, .ro .u64 l1] abacusref02_Plus.sg.out = abacusref02_Plus.b0 c149 (fun y0 y1 y2 => J 15 (abacusref02_Plus.A c149 n J 15 []) (abacusref02_Plus.s15 y0 y1 y2)) l0 l1 := by kernel_rfl
theorem abacusref02_Plus.e15 (c149 : List Int → Option (List Int)) (n : Nat) (J : Nat → (ASt → Option (List Int)) → ASt → Option (List Int)) (x0 : List Int) (x1 : List Int) (x2 : Int) : abacusref02_Plus.A c149 n J 15 [] (abacusref02_Plus.s15 x0 x1 x2) = abacusref02_Plus.b15 c149 (fun y0 y1 y2 y3 y4 y5 => J 1013 (abacusref02_Plus.A c149 n J 1013 [n]) (abacusref02_Plus.s1013 y0 y1 y2 y3 y4 y5)) x0 x1 x2 := by kernel_rfl
theorem abacusref02_Plus.e127 (c149 : List Int → Option (List Int)) (n : Nat) (J : Nat → (ASt → Option (List Int)) → ASt → Option (List Int)) (x0 : Int) (x1 : Int) (x2 : List Int) : abacusref02_Plus.A c149 n J 127 [] (abacusref02_Plus.s127 x0 x1 x2) = abacusref02_Plus.b127 c149 x0 x1 x2 := by kernel_rfl
theorem abacusref02_Plus.e1013 (c149 : List Int → Option (List Int)) (n : Nat) (J : Nat → (ASt → Option (List Int)) → ASt → Option (List Int)) (m : Nat) (x0 : List Int) (x1 : List Int) (x2 : Int) (x3 : Int) (x4 : Int) (x5 : List Int) : abacusref02_Plus.A c149 n J 1013 [m + 1] (abacusref02_Plus.s1013 x0 x1 x2 x3 x4 x5) = abacusref02_Plus.b1013 c149 (fun y0 y1 y2 => J 127 (abacusref02_Plus.A c149 n J 127 []) (abacusref02_Plus.s127 y0 y1 y2)) (fun y0 y1 y2 y3 y4 y5 y6 => J 32403 (abacusref02_Plus.A c149 n J 32403 [m]) (abacusref02_Plus.s32403 y0 y1 y2 y3 y4 y5 y6)) x0 x1 x2 x3 x4 x5 := by kernel_rfl
theorem abacusref02_Plus.e32403 (c149 : List Int → Option (List Int)) (n : Nat) (J : Nat → (ASt → Option (List Int)) → ASt → Option (List Int)) (m1013 : Nat) (x0 : List Int) (x1 : List Int) (x2 : Int) (x3 : Int) (x4 : Int) (x5 : Int) (x6 : List Int) : abacusref02_Plus.A c149 n J 32403 [m1013] (abacusref02_Plus.s32403 x0 x1 x2 x3 x4 x5 x6) = abacusref02_Plus.b32403 c149 (fun y0 y1 y2 y3 y4 y5 y6 y7 => J 129615 (abacusref02_Plus.A c149 n J 129615 [m1013]) (abacusref02_Plus.s129615 y0 y1 y2 y3 y4 y5 y6 y7)) x0 x1 x2 x3 x4 x5 x6 := by kernel_rfl
theorem abacusref02_Plus.e129615 (c149 : List Int → Option (List Int)) (n : Nat) (J : Nat → (ASt → Option (List Int)) → ASt → Option (List Int)) (m1013 : Nat) (x0 : List Int) (x1 : List Int) (x2 : Int) (x3 : Int) (x4 : Int) (x5 : Int) (x6 : Int) (x7 : List Int) : abacusref02_Plus.A c149 n J 129615 [m1013] (abacusref02_Plus.s129615 x0 x1 x2 x3 x4 x5 x6 x7) = abacusref02_Plus.b129615 c149 (fun y0 y1 y2 y3 y4 y5 y6 y7 => J 1036927 (abacusref02_Plus.A c149 n J 1036927 [m1013]) (abacusref02_Plus.s1036927 y0 y1 y2 y3 y4 y5 y6 y7)) x0 x1 x2 x3 x4 x5 x6 x7 := by kernel_rfl
theorem abacusref02_Plus.e1036927 (c149 : List Int → Option (List Int)) (n : Nat) (J : Nat → (ASt → Option (List Int)) → ASt → Option (List Int)) (m1013 : Nat) (x0 : List Int) (x1 : List Int) (x2 : Int) (x3 : Int) (x4 : Int) (x5 : Int) (x6 : Int) (x7 : List Int) : abacusref02_Plus.A c149 n J 1036927 [m1013] (abacusref02_Plus.s1036927 x0 x1 x2 x3 x4 x5 x6 x7) = abacusref02_Plus.b1036927 c149 (fun y0 y1 y2 y3 y4 y5 => J 1013 (abacusref02_Plus.A c149 n J 1013 [m1013]) (abacusref02_Plus.s1013 y0 y1 y2 y3 y4 y5)) x0 x1 x2 x3 x4 x5 x6 x7 := by kernel_rfl
theorem abacusref02_Plus.q127 (n : Nat) (x0 : Int) (x1 : Int) (x2 : List Int) : abacusref02_Plus.A (abacusref02_Short.f n) n idJ 127 [] (abacusref02_Plus.s127 x0 x1 x2) = abacusref02_Plus.l127 n x0 x1 x2 := (abacusref02_Plus.e127 (abacusref02_Short.f n) n idJ x0 x1 x2).trans (rfl)
theorem abacusref02_Plus.q1036927 (n : Nat) (m1013 : Nat) (x0 : List Int) (x1 : List Int) (x2 : Int) (x3 : Int) (x4 : Int) (x5 : Int) (x6 : Int) (x7 : List Int) : abacusref02_Plus.A (abacusref02_Short.f n) n idJ 1036927 [m1013] (abacusref02_Plus.s1036927 x0 x1 x2 x3 x4 x5 x6 x7) = abacusref02_Plus.l1036927 n (fun y0 y1 y2 y3 y4 y5 => abacusref02_Plus.A (abacusref02_Short.f n) n idJ 1013 [m1013] (abacusref02_Plus.s1013 y0 y1 y2 y3 y4 y5)) x0 x1 x2 x3 x4 x5 x6 x7 := (abacusref02_Plus.e1036927 (abacusref02_Short.f n) n idJ m1013 x0 x1 x2 x3 x4 x5 x6 x7).trans (rfl)
theorem abacusref02_Plus.q129615 (n : Nat) (m1013 : Nat) (x0 : List Int) (x1 : List Int) (x2 : Int) (x3 : Int) (x4 : Int) (x5 : Int) (x6 : Int) (x7 : List Int) : abacusref02_Plus.A (abacusref02_Short.f n) n idJ 129615 [m1013] (abacusref02_Plus.s129615 x0 x1 x2 x3 x4 x5 x6 x7) = abacusref02_Plus.l129615 n (fun y0 y1 y2 y3 y4 y5 => abacusref02_Plus.A (abacusref02_Short.f n) n idJ 1013 [m1013] (abacusref02_Plus.s1013 y0 y1 y2 y3 y4 y5)) x0 x1 x2 x3 x4 x5 x6 x7 := (abacusref02_Plus.e129615 (abacusref02_Short.f n) n idJ m1013 x0 x1 x2 x3 x4 x5 x6 x7).trans (congrFun (congrFun (congrFun (congrFun (congrFun (congrFun (congrFun (congrFun (congrArg (abacusref02_Plus.b129615 (abacusref02_Short.f n)) (funext fun y0 => (funext fun y1 => (funext fun y2 => (funext fun y3 => (funext fun y4 => (funext fun y5 => (funext fun y6 => (funext fun y7 => abacusref02_Plus.q1036927 n m1013 y0 y1 y2 y3 y4 y5 y6 y7))))))))) x0) x1) x2) x3) x4) x5) x6) x7)
theorem abacusref02_Plus.q32403 (n : Nat) (m1013 : Nat) (x0 : List Int) (x1 : List Int) (x2 : Int) (x3 : Int) (x4 : Int) (x5 : Int) (x6 : List Int) : abacusref02_Plus.A (abacusref02_Short.f n) n idJ 32403 [m1013] (abacusref02_Plus.s32403 x0 x1 x2 x3 x4 x5 x6) = abacusref02_Plus.l32403 n (fun y0 y1 y2 y3 y4 y5 => abacusref02_Plus.A (abacusref02_Short.f n) n idJ 1013 [m1013] (abacusref02_Plus.s1013 y0 y1 y2 y3 y4 y5)) x0 x1 x2 x3 x4 x5 x6 := (abacusref02_Plus.e32403 (abacusref02_Short.f n) n idJ m1013 x0 x1 x2 x3 x4 x5 x6).trans (congrFun (congrFun (congrFun (congrFun (congrFun (congrFun (congrFun (congrArg (abacusref02_Plus.b32403 (abacusref02_Short.f n)) (funext fun y0 => (funext fun y1 => (funext fun y2 => (funext fun y3 => (funext fun y4 => (funext fun y5 => (funext fun y6 => (funext fun y7 => abacusref02_Plus.q129615 n m1013 y0 y1 y2 y3 y4 y5 y6 y7))))))))) x0) x1) x2) x3) x4) x5) x6)
theorem abacusref02_Plus.q1013 (n : Nat) (m : Nat) : ∀ (x0 : List Int) (x1 : List Int) (x2 : Int) (x3 : Int) (x4 : Int) (x5 : List Int), abacusref02_Plus.A (abacusref02_Short.f n) n idJ 1013 [m] (abacusref02_Plus.s1013 x0 x1 x2 x3 x4 x5) = abacusref02_Plus.l1013 n m x0 x1 x2 x3 x4 x5 := by
  induction m with
  | zero => intros; rfl
  | succ m ih =>
    intro x0 x1 x2 x3 x4 x5
    refine (abacusref02_Plus.e1013 (abacusref02_Short.f n) n idJ m x0 x1 x2 x3 x4 x5).trans ?_
    exact congrFun (congrFun (congrFun (congrFun (congrFun (congrFun (congr (congrArg (abacusref02_Plus.b1013 (abacusref02_Short.f n)) (funext fun y0 => (funext fun y1 => (funext fun y2 => abacusref02_Plus.q127 n y0 y1 y2)))) ((funext fun y0 => (funext fun y1 => (funext fun y2 => (funext fun y3 => (funext fun y4 => (funext fun y5 => (funext fun y6 => abacusref02_Plus.q32403 n m y0 y1 y2 y3 y4 y5 y6))))))).trans (by rw [show (fun y0 y1 y2 y3 y4 y5 => abacusref02_Plus.A (abacusref02_Short.f n) n idJ 1013 [m] (abacusref02_Plus.s1013 y0 y1 y2 y3 y4 y5)) = _ from (funext fun y0 => (funext fun y1 => (funext fun y2 => (funext fun y3 => (funext fun y4 => (funext fun y5 => ih y0 y1 y2 y3 y4 y5))))))]))) x0) x1) x2) x3) x4) x5
theorem abacusref02_Plus.q15 (n : Nat) (x0 : List Int) (x1 : List Int) (x2 : Int) : abacusref02_Plus.A (abacusref02_Short.f n) n idJ 15 [] (abacusref02_Plus.s15 x0 x1 x2) = abacusref02_Plus.l15 n x0 x1 x2 := (abacusref02_Plus.e15 (abacusref02_Short.f n) n idJ x0 x1 x2).trans (congrFun (congrFun (congrFun (congrArg (abacusref02_Plus.b15 (abacusref02_Short.f n)) (funext fun y0 => (funext fun y1 => (funext fun y2 => (funext fun y3 => (funext fun y4 => (funext fun y5 => abacusref02_Plus.q1013 n n y0 y1 y2 y3 y4 y5))))))) x0) x1) x2)
theorem abacusref02_Plus.eq (n : Nat) (l0 : List Int) (l1 : List Int) : afun (abacusref02_Plus.cfg (abacusref02_Short.f n)) idJ abacusref02_Plus.cuts n abacusref02_Plus.code Tryd.f174.results.toList [false] [.ro .u64 l0, .ro .u64 l1] abacusref02_Plus.sg.out = abacusref02_Plus.f n l0 l1 := (abacusref02_Plus.e0 (abacusref02_Short.f n) n idJ l0 l1).trans (congrFun (congrFun (congrArg (abacusref02_Plus.b0 (abacusref02_Short.f n)) (funext fun y0 => (funext fun y1 => (funext fun y2 => abacusref02_Plus.q15 n y0 y1 y2)))) l0) l1)
theorem abacusref02_Plus.ok {n : Nat} {l0 : List Int} {l1 : List Int} {r : List Int} (h : abacusref02_Plus.f n l0 l1 = some r) : CallD Tryd.prog HW 174 [.ro .u64 l0, .ro .u64 l1] (abacusref02_Plus.sg.enc r) :=
  fun_some hwS Tryd.func174 (by kernel_rfl) (body := abacusref02_Plus.code) (by kernel_rfl) tys_ok (c := abacusref02_Plus.cfg (abacusref02_Short.f n)) (orCall_ok (abacusref02_Short.call_ok (n := n)) noCall_ok) noW_ok (by kernel_rfl) (by kernel_rfl) (Nat.le_of_ble_eq_true (by kernel_rfl)) ((abacusref02_Plus.eq n l0 l1).trans h)
noncomputable def abacusref02_Plus.call {α : Type} (g : List Int → List Int → Option (List Int)) (ds : List D) (K : List D → Option α) : Option α := match ds with
  | [.ro .u64 l0, .ro .u64 l1] => (g l0 l1).bind fun r => K (abacusref02_Plus.sg.enc r)
  | _ => none
theorem abacusref02_Plus.call_ok {α : Type} {n : Nat} (ds : List D) (K : List D → Option α) (r : α) (h : abacusref02_Plus.call (abacusref02_Plus.f n) ds K = some r) : ∃ rs, K rs = some r ∧ CallD Tryd.prog HW 174 ds rs := by
  unfold abacusref02_Plus.call at h
  split at h
  · obtain ⟨x, hx, hk⟩ := Option.bind_eq_some_iff.1 h
    exact ⟨_, hk, abacusref02_Plus.ok (n := n) hx⟩
  · cases h
/-! ### abacusref02_Near: function 131 -/
noncomputable def abacusref02_Near.b0 (c129 : List Int → List Int → Option (List Int × List Int × Int)) (c150 : List Int → Int → Option (List Int)) (c151 : List Int → List Int → Option (Int)) (c174 : List Int → List Int → Option (List Int)) (k63 : List Int → Int → Bool → Option (List Int × Int)) (l0 : List Int) (l1 : List Int) : Option (List Int × Int) := ((c129 l0 l1).bind fun t1 => (if ¬ t1.2.2 = 0 then some (([] : List Int), t1.2.2) else ((c150 t1.2.1 0).bind fun t2 => ((c151 t2 l1).bind fun t3 => (if (ln t1.1) > 0 then (if 0 < (ln t1.1) then k63 t1.1 t3 (decide ((Int.tmod (rd t1.1 0) 2) = 1)) else none) else k63 t1.1 t3 false)))))
noncomputable def abacusref02_Near.b63 (c129 : List Int → List Int → Option (List Int × List Int × Int)) (c150 : List Int → Int → Option (List Int)) (c151 : List Int → List Int → Option (Int)) (c174 : List Int → List Int → Option (List Int)) (x0 : List Int) (x1 : Int) (x2 : Bool) : Option (List Int × Int) := (if x1 > 0 then ((c174 x0 [1]).bind fun t1 => some (t1, 0)) else (if x1 = 0 then (if x2 = true then ((c174 x0 [1]).bind fun t2 => some (t2, 0)) else some (x0, 0)) else some (x0, 0)))
noncomputable def abacusref02_Near.l63 (n : Nat) (x0 : List Int) (x1 : Int) (x2 : Bool) : Option (List Int × Int) := abacusref02_Near.b63 (abacusref02_DivMod.f n) (abacusref02_doubled.f n) (abacusref02_Order.f n) (abacusref02_Plus.f n) x0 x1 x2
noncomputable def abacusref02_Near.f (n : Nat) (l0 : List Int) (l1 : List Int) : Option (List Int × Int) := abacusref02_Near.b0 (abacusref02_DivMod.f n) (abacusref02_doubled.f n) (abacusref02_Order.f n) (abacusref02_Plus.f n) (abacusref02_Near.l63 n) l0 l1
noncomputable def abacusref02_Near.sg : Sig (List Int × Int) := s2 (sRow .u64) (s1 (sInt .i64))
noncomputable def abacusref02_Near.code : Code := (Tryd.f131.body).getD .skip
noncomputable def abacusref02_Near.cfg (c129 : List Int → List Int → Option (List Int × List Int × Int)) (c150 : List Int → Int → Option (List Int)) (c151 : List Int → List Int → Option (Int)) (c174 : List Int → List Int → Option (List Int)) : Cfg (List Int × Int) := { T := tys, call := orCall 129 (abacusref02_DivMod.call c129) (orCall 150 (abacusref02_doubled.call c150) (orCall 151 (abacusref02_Order.call c151) (orCall 174 (abacusref02_Plus.call c174) (noCall)))) }
noncomputable def abacusref02_Near.cuts : List (Nat × List (Nat × Want)) := [(63, [(6, .keep), (9, .keep), (10, .keep)])]
noncomputable def abacusref02_Near.s63 (x0 : List Int) (x1 : Int) (x2 : Bool) : ASt := ⟨[(6, .ro .u64 x0), (9, .int .i64 x1), (10, .bool x2)], []⟩
noncomputable def abacusref02_Near.A (c129 : List Int → List Int → Option (List Int × List Int × Int)) (c150 : List Int → Int → Option (List Int)) (c151 : List Int → List Int → Option (Int)) (c174 : List Int → List Int → Option (List Int)) (n : Nat) (J : Nat → (ASt → Option (List Int × Int)) → ASt → Option (List Int × Int)) (q : Nat) (ms : List Nat) : ASt → Option (List Int × Int) := acont (abacusref02_Near.cfg c129 c150 c151 c174) J abacusref02_Near.cuts n q abacusref02_Near.code 1 ms (aend (abacusref02_Near.cfg c129 c150 c151 c174) Tryd.f131.results.toList [false, false] abacusref02_Near.sg.out)
theorem abacusref02_Near.e0 (c129 : List Int → List Int → Option (List Int × List Int × Int)) (c150 : List Int → Int → Option (List Int)) (c151 : List Int → List Int → Option (Int)) (c174 : List Int → List Int → Option (List Int)) (n : Nat) (J : Nat → (ASt → Option (List Int × Int)) → ASt → Option (List Int × Int)) (l0 : List Int) (l1 : List Int) : afun (abacusref02_Near.cfg c129 c150 c151 c174) J abacusref02_Near.cuts n abacusref02_Near.code Tryd.f131.results.toList [false, false] [.ro .u64 l0, .ro .u64 l1] abacusref02_Near.sg.out = abacusref02_Near.b0 c129 c150 c151 c174 (fun y0 y1 y2 => J 63 (abacusref02_Near.A c129 c150 c151 c174 n J 63 []) (abacusref02_Near.s63 y0 y1 y2)) l0 l1 := by kernel_rfl
theorem abacusref02_Near.e63 (c129 : List Int → List Int → Option (List Int × List Int × Int)) (c150 : List Int → Int → Option (List Int)) (c151 : List Int → List Int → Option (Int)) (c174 : List Int → List Int → Option (List Int)) (n : Nat) (J : Nat → (ASt → Option (List Int × Int)) → ASt → Option (List Int × Int)) (x0 : List Int) (x1 : Int) (x2 : Bool) : abacusref02_Near.A c129 c150 c151 c174 n J 63 [] (abacusref02_Near.s63 x0 x1 x2) = abacusref02_Near.b63 c129 c150 c151 c174 x0 x1 x2 := by kernel_rfl
theorem abacusref02_Near.q63 (n : Nat) (x0 : List Int) (x1 : Int) (x2 : Bool) : abacusref02_Near.A (abacusref02_DivMod.f n) (abacusref02_doubled.f n) (abacusref02_Order.f n) (abacusref02_Plus.f n) n idJ 63 [] (abacusref02_Near.s63 x0 x1 x2) = abacusref02_Near.l63 n x0 x1 x2 := (abacusref02_Near.e63 (abacusref02_DivMod.f n) (abacusref02_doubled.f n) (abacusref02_Order.f n) (abacusref02_Plus.f n) n idJ x0 x1 x2).trans (rfl)
theorem abacusref02_Near.eq (n : Nat) (l0 : List Int) (l1 : List Int) : afun (abacusref02_Near.cfg (abacusref02_DivMod.f n) (abacusref02_doubled.f n) (abacusref02_Order.f n) (abacusref02_Plus.f n)) idJ abacusref02_Near.cuts n abacusref02_Near.code Tryd.f131.results.toList [false, false] [.ro .u64 l0, .ro .u64 l1] abacusref02_Near.sg.out = abacusref02_Near.f n l0 l1 := (abacusref02_Near.e0 (abacusref02_DivMod.f n) (abacusref02_doubled.f n) (abacusref02_Order.f n) (abacusref02_Plus.f n) n idJ l0 l1).trans (congrFun (congrFun (congrArg (abacusref02_Near.b0 (abacusref02_DivMod.f n) (abacusref02_doubled.f n) (abacusref02_Order.f n) (abacusref02_Plus.f n)) (funext fun y0 => (funext fun y1 => (funext fun y2 => abacusref02_Near.q63 n y0 y1 y2)))) l0) l1)
theorem abacusref02_Near.ok {n : Nat} {l0 : List Int} {l1 : List Int} {r : List Int × Int} (h : abacusref02_Near.f n l0 l1 = some r) : CallD Tryd.prog HW 131 [.ro .u64 l0, .ro .u64 l1] (abacusref02_Near.sg.enc r) :=
  fun_some hwS Tryd.func131 (by kernel_rfl) (body := abacusref02_Near.code) (by kernel_rfl) tys_ok (c := abacusref02_Near.cfg (abacusref02_DivMod.f n) (abacusref02_doubled.f n) (abacusref02_Order.f n) (abacusref02_Plus.f n)) (orCall_ok (abacusref02_DivMod.call_ok (n := n)) (orCall_ok (abacusref02_doubled.call_ok (n := n)) (orCall_ok (abacusref02_Order.call_ok (n := n)) (orCall_ok (abacusref02_Plus.call_ok (n := n)) noCall_ok)))) noW_ok (by kernel_rfl) (by kernel_rfl) (Nat.le_of_ble_eq_true (by kernel_rfl)) ((abacusref02_Near.eq n l0 l1).trans h)
noncomputable def abacusref02_Near.call {α : Type} (g : List Int → List Int → Option (List Int × Int)) (ds : List D) (K : List D → Option α) : Option α := match ds with
  | [.ro .u64 l0, .ro .u64 l1] => (g l0 l1).bind fun r => K (abacusref02_Near.sg.enc r)
  | _ => none
theorem abacusref02_Near.call_ok {α : Type} {n : Nat} (ds : List D) (K : List D → Option α) (r : α) (h : abacusref02_Near.call (abacusref02_Near.f n) ds K = some r) : ∃ rs, K rs = some r ∧ CallD Tryd.prog HW 131 ds rs := by
  unfold abacusref02_Near.call at h
  split at h
  · obtain ⟨x, hx, hk⟩ := Option.bind_eq_some_iff.1 h
    exact ⟨_, hk, abacusref02_Near.ok (n := n) hx⟩
  · cases h
/-! ### nat_Sub: function 122 -/
noncomputable def nat_Sub.b0 (c42 : List Int → List Int → Option (Int)) (c133 : List Int → Option (Int)) (c166 : List Int → Option (Bool)) (c168 : List Int → Option (List Int × Int)) (c170 : Int → Int → Int → Option (Int × Int)) (k2037 : List Int → Int → Int → List Int → Int → List Int → Option (List Int × Int)) (l0 : List Int) (l1 : List Int) : Option (List Int × Int) := ((c166 l0).bind fun t1 => (if t1 = true then some (([] : List Int), 2) else ((c166 l1).bind fun t2 => (if t2 = true then some (([] : List Int), 2) else ((c42 l0 l1).bind fun t3 => (if t3 < 0 then some (([] : List Int), 10) else ((c133 l0).bind fun t4 => (if 0 ≤ t4 then (if t4 ≤ (ln l0) then ((some (l0.take t4.toNat) : Option (List Int)).bind fun y5 => ((c133 l1).bind fun t6 => (if 0 ≤ t6 then (if t6 ≤ (ln l1) then ((some (l1.take t6.toNat) : Option (List Int)).bind fun y7 => (if 0 ≤ (ln y5) then (if (ln y5).toNat ≤ 35184372088832 then k2037 y7 0 0 y5 (ln y5) (List.replicate (ln y5).toNat (0 : Int)) else none) else none)) else none) else none))) else none) else none))))))))
noncomputable def nat_Sub.b255 (c42 : List Int → List Int → Option (Int)) (c133 : List Int → Option (Int)) (c166 : List Int → Option (Bool)) (c168 : List Int → Option (List Int × Int)) (c170 : Int → Int → Int → Option (Int × Int)) (x0 : List Int) : Option (List Int × Int) := ((c168 x0).bind fun t1 => some (t1.1, t1.2))
noncomputable def nat_Sub.b2037 (c42 : List Int → List Int → Option (Int)) (c133 : List Int → Option (Int)) (c166 : List Int → Option (Bool)) (c168 : List Int → Option (List Int × Int)) (c170 : Int → Int → Int → Option (Int × Int)) (k255 : List Int → Option (List Int × Int)) (k260711 : List Int → Int → Int → Int → Int → List Int → Int → List Int → Option (List Int × Int)) (x0 : List Int) (x1 : Int) (x2 : Int) (x3 : List Int) (x4 : Int) (x5 : List Int) : Option (List Int × Int) := (if x2 < x4 then (if 0 ≤ x2 then (if x2 < (ln x3) then (if x2 < (ln x0) then (if 0 ≤ x2 then (if x2 < (ln x0) then k260711 x0 x1 x2 (rd x3 x2) (rd x0 x2) x3 x4 x5 else none) else none) else k260711 x0 x1 x2 (rd x3 x2) 0 x3 x4 x5) else none) else none) else k255 x5)
noncomputable def nat_Sub.b260711 (c42 : List Int → List Int → Option (Int)) (c133 : List Int → Option (Int)) (c166 : List Int → Option (Bool)) (c168 : List Int → Option (List Int × Int)) (c170 : Int → Int → Int → Option (Int × Int)) (k2037 : List Int → Int → Int → List Int → Int → List Int → Option (List Int × Int)) (x0 : List Int) (x1 : Int) (x2 : Int) (x3 : Int) (x4 : Int) (x5 : List Int) (x6 : Int) (x7 : List Int) : Option (List Int × Int) := ((c170 x3 x4 x1).bind fun t1 => (if 0 ≤ x2 then (if x2 < (ln x7) then k2037 x0 t1.2 (wrap64 (x2 + 1)) x5 x6 (x7.set (x2 : Int).toNat t1.1) else none) else none))
noncomputable def nat_Sub.l255 (n : Nat) (x0 : List Int) : Option (List Int × Int) := nat_Sub.b255 (nat_Cmp.f n) (nat_size.f n) (nat_big.f n) (nat_cut.f n) bits_Sub64.f x0
noncomputable def nat_Sub.l260711 (n : Nat) (k2037 : List Int → Int → Int → List Int → Int → List Int → Option (List Int × Int)) (x0 : List Int) (x1 : Int) (x2 : Int) (x3 : Int) (x4 : Int) (x5 : List Int) (x6 : Int) (x7 : List Int) : Option (List Int × Int) := nat_Sub.b260711 (nat_Cmp.f n) (nat_size.f n) (nat_big.f n) (nat_cut.f n) bits_Sub64.f k2037 x0 x1 x2 x3 x4 x5 x6 x7
noncomputable def nat_Sub.l2037 (n : Nat) : Nat → List Int → Int → Int → List Int → Int → List Int → Option (List Int × Int)
  | 0, _, _, _, _, _, _ => none
  | m + 1, x0, x1, x2, x3, x4, x5 => nat_Sub.b2037 (nat_Cmp.f n) (nat_size.f n) (nat_big.f n) (nat_cut.f n) bits_Sub64.f (nat_Sub.l255 n) (nat_Sub.l260711 n (nat_Sub.l2037 n m)) x0 x1 x2 x3 x4 x5
noncomputable def nat_Sub.f (n : Nat) (l0 : List Int) (l1 : List Int) : Option (List Int × Int) := nat_Sub.b0 (nat_Cmp.f n) (nat_size.f n) (nat_big.f n) (nat_cut.f n) bits_Sub64.f (nat_Sub.l2037 n n) l0 l1
noncomputable def nat_Sub.sg : Sig (List Int × Int) := s2 (sRow .u64) (s1 (sInt .i64))
noncomputable def nat_Sub.code : Code := (Tryd.f122.body).getD .skip
noncomputable def nat_Sub.cfg (c42 : List Int → List Int → Option (Int)) (c133 : List Int → Option (Int)) (c166 : List Int → Option (Bool)) (c168 : List Int → Option (List Int × Int)) (c170 : Int → Int → Int → Option (Int × Int)) : Cfg (List Int × Int) := { T := tys, call := orCall 42 (nat_Cmp.call c42) (orCall 133 (nat_size.call c133) (orCall 166 (nat_big.call c166) (orCall 168 (nat_cut.call c168) (orCall 170 (bits_Sub64.call c170) (noCall))))) }
noncomputable def nat_Sub.cuts : List (Nat × List (Nat × Want)) := [(255, [(6, .keep)]), (2037, [(1, .keep), (6, .keep), (7, .keep), (32, .keep), (33, .keep), (34, .keep)]), (260711, [(1, .keep), (6, .keep), (7, .keep), (8, .keep), (9, .keep), (10, .keep), (32, .keep), (33, .keep), (34, .keep)])]
noncomputable def nat_Sub.s255 (x0 : List Int) : ASt := ⟨[(6, .own 0)], [.ints 22 .u64 x0]⟩
noncomputable def nat_Sub.s2037 (x0 : List Int) (x1 : Int) (x2 : Int) (x3 : List Int) (x4 : Int) (x5 : List Int) : ASt := ⟨[(1, .ro .u64 x0), (6, .own 0), (7, .int .u64 x1), (32, .ro .u64 x3), (33, .int .i64 x4), (34, .int .i64 x2)], [.ints 22 .u64 x5]⟩
noncomputable def nat_Sub.s260711 (x0 : List Int) (x1 : Int) (x2 : Int) (x3 : Int) (x4 : Int) (x5 : List Int) (x6 : Int) (x7 : List Int) : ASt := ⟨[(1, .ro .u64 x0), (6, .own 0), (7, .int .u64 x1), (8, .int .i64 x2), (9, .int .u64 x3), (10, .int .u64 x4), (32, .ro .u64 x5), (33, .int .i64 x6), (34, .int .i64 x2)], [.ints 22 .u64 x7]⟩
noncomputable def nat_Sub.A (c42 : List Int → List Int → Option (Int)) (c133 : List Int → Option (Int)) (c166 : List Int → Option (Bool)) (c168 : List Int → Option (List Int × Int)) (c170 : Int → Int → Int → Option (Int × Int)) (n : Nat) (J : Nat → (ASt → Option (List Int × Int)) → ASt → Option (List Int × Int)) (q : Nat) (ms : List Nat) : ASt → Option (List Int × Int) := acont (nat_Sub.cfg c42 c133 c166 c168 c170) J nat_Sub.cuts n q nat_Sub.code 1 ms (aend (nat_Sub.cfg c42 c133 c166 c168 c170) Tryd.f122.results.toList [false, false] nat_Sub.sg.out)
theorem nat_Sub.e0 (c42 : List Int → List Int → Option (Int)) (c133 : List Int → Option (Int)) (c166 : List Int → Option (Bool)) (c168 : List Int → Option (List Int × Int)) (c170 : Int → Int → Int → Option (Int × Int)) (n : Nat) (J : Nat → (ASt → Option (List Int × Int)) → ASt → Option (List Int × Int)) (l0 : List Int) (l1 : List Int) : afun (nat_Sub.cfg c42 c133 c166 c168 c170) J nat_Sub.cuts n nat_Sub.code Tryd.f122.results.toList [false, false] [.ro .u64 l0, .ro .u64 l1] nat_Sub.sg.out = nat_Sub.b0 c42 c133 c166 c168 c170 (fun y0 y1 y2 y3 y4 y5 => J 2037 (nat_Sub.A c42 c133 c166 c168 c170 n J 2037 [n]) (nat_Sub.s2037 y0 y1 y2 y3 y4 y5)) l0 l1 := by kernel_rfl
theorem nat_Sub.e255 (c42 : List Int → List Int → Option (Int)) (c133 : List Int → Option (Int)) (c166 : List Int → Option (Bool)) (c168 : List Int → Option (List Int × Int)) (c170 : Int → Int → Int → Option (Int × Int)) (n : Nat) (J : Nat → (ASt → Option (List Int × Int)) → ASt → Option (List Int × Int)) (x0 : List Int) : nat_Sub.A c42 c133 c166 c168 c170 n J 255 [] (nat_Sub.s255 x0) = nat_Sub.b255 c42 c133 c166 c168 c170 x0 := by kernel_rfl
theorem nat_Sub.e2037 (c42 : List Int → List Int → Option (Int)) (c133 : List Int → Option (Int)) (c166 : List Int → Option (Bool)) (c168 : List Int → Option (List Int × Int)) (c170 : Int → Int → Int → Option (Int × Int)) (n : Nat) (J : Nat → (ASt → Option (List Int × Int)) → ASt → Option (List Int × Int)) (m : Nat) (x0 : List Int) (x1 : Int) (x2 : Int) (x3 : List Int) (x4 : Int) (x5 : List Int) : nat_Sub.A c42 c133 c166 c168 c170 n J 2037 [m + 1] (nat_Sub.s2037 x0 x1 x2 x3 x4 x5) = nat_Sub.b2037 c42 c133 c166 c168 c170 (fun y0 => J 255 (nat_Sub.A c42 c133 c166 c168 c170 n J 255 []) (nat_Sub.s255 y0)) (fun y0 y1 y2 y3 y4 y5 y6 y7 => J 260711 (nat_Sub.A c42 c133 c166 c168 c170 n J 260711 [m]) (nat_Sub.s260711 y0 y1 y2 y3 y4 y5 y6 y7)) x0 x1 x2 x3 x4 x5 := by kernel_rfl
theorem nat_Sub.e260711 (c42 : List Int → List Int → Option (Int)) (c133 : List Int → Option (Int)) (c166 : List Int → Option (Bool)) (c168 : List Int → Option (List Int × Int)) (c170 : Int → Int → Int → Option (Int × Int)) (n : Nat) (J : Nat → (ASt → Option (List Int × Int)) → ASt → Option (List Int × Int)) (m2037 : Nat) (x0 : List Int) (x1 : Int) (x2 : Int) (x3 : Int) (x4 : Int) (x5 : List Int) (x6 : Int) (x7 : List Int) : nat_Sub.A c42 c133 c166 c168 c170 n J 260711 [m2037] (nat_Sub.s260711 x0 x1 x2 x3 x4 x5 x6 x7) = nat_Sub.b260711 c42 c133 c166 c168 c170 (fun y0 y1 y2 y3 y4 y5 => J 2037 (nat_Sub.A c42 c133 c166 c168 c170 n J 2037 [m2037]) (nat_Sub.s2037 y0 y1 y2 y3 y4 y5)) x0 x1 x2 x3 x4 x5 x6 x7 := by kernel_rfl
theorem nat_Sub.q255 (n : Nat) (x0 : List Int) : nat_Sub.A (nat_Cmp.f n) (nat_size.f n) (nat_big.f n) (nat_cut.f n) bits_Sub64.f n idJ 255 [] (nat_Sub.s255 x0) = nat_Sub.l255 n x0 := (nat_Sub.e255 (nat_Cmp.f n) (nat_size.f n) (nat_big.f n) (nat_cut.f n) bits_Sub64.f n idJ x0).trans (rfl)
theorem nat_Sub.q260711 (n : Nat) (m2037 : Nat) (x0 : List Int) (x1 : Int) (x2 : Int) (x3 : Int) (x4 : Int) (x5 : List Int) (x6 : Int) (x7 : List Int) : nat_Sub.A (nat_Cmp.f n) (nat_size.f n) (nat_big.f n) (nat_cut.f n) bits_Sub64.f n idJ 260711 [m2037] (nat_Sub.s260711 x0 x1 x2 x3 x4 x5 x6 x7) = nat_Sub.l260711 n (fun y0 y1 y2 y3 y4 y5 => nat_Sub.A (nat_Cmp.f n) (nat_size.f n) (nat_big.f n) (nat_cut.f n) bits_Sub64.f n idJ 2037 [m2037] (nat_Sub.s2037 y0 y1 y2 y3 y4 y5)) x0 x1 x2 x3 x4 x5 x6 x7 := (nat_Sub.e260711 (nat_Cmp.f n) (nat_size.f n) (nat_big.f n) (nat_cut.f n) bits_Sub64.f n idJ m2037 x0 x1 x2 x3 x4 x5 x6 x7).trans (rfl)
theorem nat_Sub.q2037 (n : Nat) (m : Nat) : ∀ (x0 : List Int) (x1 : Int) (x2 : Int) (x3 : List Int) (x4 : Int) (x5 : List Int), nat_Sub.A (nat_Cmp.f n) (nat_size.f n) (nat_big.f n) (nat_cut.f n) bits_Sub64.f n idJ 2037 [m] (nat_Sub.s2037 x0 x1 x2 x3 x4 x5) = nat_Sub.l2037 n m x0 x1 x2 x3 x4 x5 := by
  induction m with
  | zero => intros; rfl
  | succ m ih =>
    intro x0 x1 x2 x3 x4 x5
    refine (nat_Sub.e2037 (nat_Cmp.f n) (nat_size.f n) (nat_big.f n) (nat_cut.f n) bits_Sub64.f n idJ m x0 x1 x2 x3 x4 x5).trans ?_
    exact congrFun (congrFun (congrFun (congrFun (congrFun (congrFun (congr (congrArg (nat_Sub.b2037 (nat_Cmp.f n) (nat_size.f n) (nat_big.f n) (nat_cut.f n) bits_Sub64.f) (funext fun y0 => nat_Sub.q255 n y0)) ((funext fun y0 => (funext fun y1 => (funext fun y2 => (funext fun y3 => (funext fun y4 => (funext fun y5 => (funext fun y6 => (funext fun y7 => nat_Sub.q260711 n m y0 y1 y2 y3 y4 y5 y6 y7)))))))).trans (by rw [show (fun y0 y1 y2 y3 y4 y5 => nat_Sub.A (nat_Cmp.f n) (nat_size.f n) (nat_big.f n) (nat_cut.f n) bits_Sub64.f n idJ 2037 [m] (nat_Sub.s2037 y0 y1 y2 y3 y4 y5)) = _ from (funext fun y0 => (funext fun y1 => (funext fun y2 => (funext fun y3 => (funext fun y4 => (funext fun y5 => ih y0 y1 y2 y3 y4 y5))))))]))) x0) x1) x2) x3) x4) x5
theorem nat_Sub.eq (n : Nat) (l0 : List Int) (l1 : List Int) : afun (nat_Sub.cfg (nat_Cmp.f n) (nat_size.f n) (nat_big.f n) (nat_cut.f n) bits_Sub64.f) idJ nat_Sub.cuts n nat_Sub.code Tryd.f122.results.toList [false, false] [.ro .u64 l0, .ro .u64 l1] nat_Sub.sg.out = nat_Sub.f n l0 l1 := (nat_Sub.e0 (nat_Cmp.f n) (nat_size.f n) (nat_big.f n) (nat_cut.f n) bits_Sub64.f n idJ l0 l1).trans (congrFun (congrFun (congrArg (nat_Sub.b0 (nat_Cmp.f n) (nat_size.f n) (nat_big.f n) (nat_cut.f n) bits_Sub64.f) (funext fun y0 => (funext fun y1 => (funext fun y2 => (funext fun y3 => (funext fun y4 => (funext fun y5 => nat_Sub.q2037 n n y0 y1 y2 y3 y4 y5))))))) l0) l1)
theorem nat_Sub.ok {n : Nat} {l0 : List Int} {l1 : List Int} {r : List Int × Int} (h : nat_Sub.f n l0 l1 = some r) : CallD Tryd.prog HW 122 [.ro .u64 l0, .ro .u64 l1] (nat_Sub.sg.enc r) :=
  fun_some hwS Tryd.func122 (by kernel_rfl) (body := nat_Sub.code) (by kernel_rfl) tys_ok (c := nat_Sub.cfg (nat_Cmp.f n) (nat_size.f n) (nat_big.f n) (nat_cut.f n) bits_Sub64.f) (orCall_ok (nat_Cmp.call_ok (n := n)) (orCall_ok (nat_size.call_ok (n := n)) (orCall_ok (nat_big.call_ok (n := n)) (orCall_ok (nat_cut.call_ok (n := n)) (orCall_ok (bits_Sub64.call_ok (n := n)) noCall_ok))))) noW_ok (by kernel_rfl) (by kernel_rfl) (Nat.le_of_ble_eq_true (by kernel_rfl)) ((nat_Sub.eq n l0 l1).trans h)
noncomputable def nat_Sub.call {α : Type} (g : List Int → List Int → Option (List Int × Int)) (ds : List D) (K : List D → Option α) : Option α := match ds with
  | [.ro .u64 l0, .ro .u64 l1] => (g l0 l1).bind fun r => K (nat_Sub.sg.enc r)
  | _ => none
theorem nat_Sub.call_ok {α : Type} {n : Nat} (ds : List D) (K : List D → Option α) (r : α) (h : nat_Sub.call (nat_Sub.f n) ds K = some r) : ∃ rs, K rs = some r ∧ CallD Tryd.prog HW 122 ds rs := by
  unfold nat_Sub.call at h
  split at h
  · obtain ⟨x, hx, hk⟩ := Option.bind_eq_some_iff.1 h
    exact ⟨_, hk, nat_Sub.ok (n := n) hx⟩
  · cases h
/-! ### nat_Bit: function 120 -/
noncomputable def nat_Bit.b0 (l0 : List Int) (a1 : Int) : Option (Int) := (if a1 < 0 then some 0 else (if (wrap64 (Int.tdiv a1 64)) ≥ (ln l0) then some 0 else (if 0 ≤ (wrap64 (Int.tdiv a1 64)) then (if (wrap64 (Int.tdiv a1 64)) < (ln l0) then (if 0 ≤ (IntKind.u64.wrap (Int.tmod a1 64)) then some (wrap64 (Go.bits .and .u64 (shr .u64 (rd l0 (wrap64 (Int.tdiv a1 64))) (IntKind.u64.wrap (Int.tmod a1 64))) 1)) else none) else none) else none)))
noncomputable def nat_Bit.f (l0 : List Int) (a1 : Int) : Option (Int) := nat_Bit.b0 l0 a1
noncomputable def nat_Bit.sg : Sig (Int) := s1 (sInt .i64)
noncomputable def nat_Bit.code : Code := (Tryd.f120.body).getD .skip
noncomputable def nat_Bit.cfg : Cfg (Int) := { T := tys, call := noCall }
noncomputable def nat_Bit.cuts : List (Nat × List (Nat × Want)) := []
theorem nat_Bit.e0 (n : Nat) (J : Nat → (ASt → Option (Int)) → ASt → Option (Int)) (l0 : List Int) (a1 : Int) : afun (nat_Bit.cfg) J nat_Bit.cuts n nat_Bit.code Tryd.f120.results.toList [false] [.ro .u64 l0, .int .i64 a1] nat_Bit.sg.out = nat_Bit.b0 l0 a1 := by kernel_rfl
theorem nat_Bit.eq (n : Nat) (l0 : List Int) (a1 : Int) : afun (nat_Bit.cfg) idJ nat_Bit.cuts n nat_Bit.code Tryd.f120.results.toList [false] [.ro .u64 l0, .int .i64 a1] nat_Bit.sg.out = nat_Bit.f l0 a1 := (nat_Bit.e0 n idJ l0 a1).trans (rfl)
theorem nat_Bit.ok {n : Nat} {l0 : List Int} {a1 : Int} {r : Int} (h : nat_Bit.f l0 a1 = some r) : CallD Tryd.prog HW 120 [.ro .u64 l0, .int .i64 a1] (nat_Bit.sg.enc r) :=
  fun_some hwS Tryd.func120 (by kernel_rfl) (body := nat_Bit.code) (by kernel_rfl) tys_ok (c := nat_Bit.cfg) noCall_ok noW_ok (by kernel_rfl) (by kernel_rfl) (Nat.le_of_ble_eq_true (by kernel_rfl)) ((nat_Bit.eq n l0 a1).trans h)
noncomputable def nat_Bit.call {α : Type} (g : List Int → Int → Option (Int)) (ds : List D) (K : List D → Option α) : Option α := match ds with
  | [.ro .u64 l0, .int .i64 a1] => (g l0 a1).bind fun r => K (nat_Bit.sg.enc r)
  | _ => none
theorem nat_Bit.call_ok {α : Type} {n : Nat} (ds : List D) (K : List D → Option α) (r : α) (h : nat_Bit.call nat_Bit.f ds K = some r) : ∃ rs, K rs = some r ∧ CallD Tryd.prog HW 120 ds rs := by
  unfold nat_Bit.call at h
  split at h
  · obtain ⟨x, hx, hk⟩ := Option.bind_eq_some_iff.1 h
    exact ⟨_, hk, nat_Bit.ok (n := n) hx⟩
  · cases h
/-! ### nat_Add: function 99 -/
noncomputable def nat_Add.b0 (c133 : List Int → Option (Int)) (c166 : List Int → Option (Bool)) (c167 : Int → Int → Int → Option (Int × Int)) (c168 : List Int → Option (List Int × Int)) (k31 : List Int → List Int → Option (List Int × Int)) (l0 : List Int) (l1 : List Int) : Option (List Int × Int) := ((c166 l0).bind fun t1 => (if t1 = true then some (([] : List Int), 2) else ((c166 l1).bind fun t2 => (if t2 = true then some (([] : List Int), 2) else ((c133 l0).bind fun t3 => (if 0 ≤ t3 then (if t3 ≤ (ln l0) then ((some (l0.take t3.toNat) : Option (List Int)).bind fun y4 => ((c133 l1).bind fun t5 => (if 0 ≤ t5 then (if t5 ≤ (ln l1) then ((some (l1.take t5.toNat) : Option (List Int)).bind fun y6 => (if (ln y4) < (ln y6) then k31 y6 y4 else k31 y4 y6)) else none) else none))) else none) else none))))))
noncomputable def nat_Add.b31 (c133 : List Int → Option (Int)) (c166 : List Int → Option (Bool)) (c167 : Int → Int → Int → Option (Int × Int)) (c168 : List Int → Option (List Int × Int)) (k2037 : List Int → List Int → Int → Int → Int → List Int → Option (List Int × Int)) (x0 : List Int) (x1 : List Int) : Option (List Int × Int) := (if 0 ≤ (wrap64 ((ln x0) + 1)) then (if (wrap64 ((ln x0) + 1)).toNat ≤ 35184372088832 then k2037 x0 x1 0 0 (ln x0) (List.replicate (wrap64 ((ln x0) + 1)).toNat (0 : Int)) else none) else none)
noncomputable def nat_Add.b255 (c133 : List Int → Option (Int)) (c166 : List Int → Option (Bool)) (c167 : Int → Int → Int → Option (Int × Int)) (c168 : List Int → Option (List Int × Int)) (x0 : List Int) (x1 : Int) (x2 : List Int) : Option (List Int × Int) := (if 0 ≤ (ln x0) then (if (ln x0) < (ln x2) then ((c168 (x2.set ((ln x0) : Int).toNat x1)).bind fun t1 => some (t1.1, t1.2)) else none) else none)
noncomputable def nat_Add.b2037 (c133 : List Int → Option (Int)) (c166 : List Int → Option (Bool)) (c167 : Int → Int → Int → Option (Int × Int)) (c168 : List Int → Option (List Int × Int)) (k255 : List Int → Int → List Int → Option (List Int × Int)) (k260711 : List Int → List Int → Int → Int → Int → Int → Int → List Int → Option (List Int × Int)) (x0 : List Int) (x1 : List Int) (x2 : Int) (x3 : Int) (x4 : Int) (x5 : List Int) : Option (List Int × Int) := (if x3 < x4 then (if 0 ≤ x3 then (if x3 < (ln x0) then (if x3 < (ln x1) then (if 0 ≤ x3 then (if x3 < (ln x1) then k260711 x0 x1 x2 x3 (rd x0 x3) (rd x1 x3) x4 x5 else none) else none) else k260711 x0 x1 x2 x3 (rd x0 x3) 0 x4 x5) else none) else none) else k255 x0 x2 x5)
noncomputable def nat_Add.b260711 (c133 : List Int → Option (Int)) (c166 : List Int → Option (Bool)) (c167 : Int → Int → Int → Option (Int × Int)) (c168 : List Int → Option (List Int × Int)) (k2037 : List Int → List Int → Int → Int → Int → List Int → Option (List Int × Int)) (x0 : List Int) (x1 : List Int) (x2 : Int) (x3 : Int) (x4 : Int) (x5 : Int) (x6 : Int) (x7 : List Int) : Option (List Int × Int) := ((c167 x4 x5 x2).bind fun t1 => (if 0 ≤ x3 then (if x3 < (ln x7) then k2037 x0 x1 t1.2 (wrap64 (x3 + 1)) x6 (x7.set (x3 : Int).toNat t1.1) else none) else none))
noncomputable def nat_Add.l255 (n : Nat) (x0 : List Int) (x1 : Int) (x2 : List Int) : Option (List Int × Int) := nat_Add.b255 (nat_size.f n) (nat_big.f n) bits_Add64.f (nat_cut.f n) x0 x1 x2
noncomputable def nat_Add.l260711 (n : Nat) (k2037 : List Int → List Int → Int → Int → Int → List Int → Option (List Int × Int)) (x0 : List Int) (x1 : List Int) (x2 : Int) (x3 : Int) (x4 : Int) (x5 : Int) (x6 : Int) (x7 : List Int) : Option (List Int × Int) := nat_Add.b260711 (nat_size.f n) (nat_big.f n) bits_Add64.f (nat_cut.f n) k2037 x0 x1 x2 x3 x4 x5 x6 x7
noncomputable def nat_Add.l2037 (n : Nat) : Nat → List Int → List Int → Int → Int → Int → List Int → Option (List Int × Int)
  | 0, _, _, _, _, _, _ => none
  | m + 1, x0, x1, x2, x3, x4, x5 => nat_Add.b2037 (nat_size.f n) (nat_big.f n) bits_Add64.f (nat_cut.f n) (nat_Add.l255 n) (nat_Add.l260711 n (nat_Add.l2037 n m)) x0 x1 x2 x3 x4 x5
noncomputable def nat_Add.l31 (n : Nat) (x0 : List Int) (x1 : List Int) : Option (List Int × Int) := nat_Add.b31 (nat_size.f n) (nat_big.f n) bits_Add64.f (nat_cut.f n) (nat_Add.l2037 n n) x0 x1
noncomputable def nat_Add.f (n : Nat) (l0 : List Int) (l1 : List Int) : Option (List Int × Int) := nat_Add.b0 (nat_size.f n) (nat_big.f n) bits_Add64.f (nat_cut.f n) (nat_Add.l31 n) l0 l1
noncomputable def nat_Add.sg : Sig (List Int × Int) := s2 (sRow .u64) (s1 (sInt .i64))
noncomputable def nat_Add.code : Code := (Tryd.f99.body).getD .skip
noncomputable def nat_Add.cfg (c133 : List Int → Option (Int)) (c166 : List Int → Option (Bool)) (c167 : Int → Int → Int → Option (Int × Int)) (c168 : List Int → Option (List Int × Int)) : Cfg (List Int × Int) := { T := tys, call := orCall 133 (nat_size.call c133) (orCall 166 (nat_big.call c166) (orCall 167 (bits_Add64.call c167) (orCall 168 (nat_cut.call c168) (noCall)))) }
noncomputable def nat_Add.cuts : List (Nat × List (Nat × Want)) := [(31, [(0, .keep), (1, .keep)]), (255, [(0, .keep), (6, .keep), (7, .keep)]), (2037, [(0, .keep), (1, .keep), (6, .keep), (7, .keep), (36, .keep), (37, .keep), (38, .keep)]), (260711, [(0, .keep), (1, .keep), (6, .keep), (7, .keep), (8, .keep), (9, .keep), (10, .keep), (36, .keep), (37, .keep), (38, .keep)])]
noncomputable def nat_Add.s31 (x0 : List Int) (x1 : List Int) : ASt := ⟨[(0, .ro .u64 x0), (1, .ro .u64 x1)], []⟩
noncomputable def nat_Add.s255 (x0 : List Int) (x1 : Int) (x2 : List Int) : ASt := ⟨[(0, .ro .u64 x0), (6, .own 0), (7, .int .u64 x1)], [.ints 22 .u64 x2]⟩
noncomputable def nat_Add.s2037 (x0 : List Int) (x1 : List Int) (x2 : Int) (x3 : Int) (x4 : Int) (x5 : List Int) : ASt := ⟨[(0, .ro .u64 x0), (1, .ro .u64 x1), (6, .own 0), (7, .int .u64 x2), (36, .ro .u64 x0), (37, .int .i64 x4), (38, .int .i64 x3)], [.ints 22 .u64 x5]⟩
noncomputable def nat_Add.s260711 (x0 : List Int) (x1 : List Int) (x2 : Int) (x3 : Int) (x4 : Int) (x5 : Int) (x6 : Int) (x7 : List Int) : ASt := ⟨[(0, .ro .u64 x0), (1, .ro .u64 x1), (6, .own 0), (7, .int .u64 x2), (8, .int .i64 x3), (9, .int .u64 x4), (10, .int .u64 x5), (36, .ro .u64 x0), (37, .int .i64 x6), (38, .int .i64 x3)], [.ints 22 .u64 x7]⟩
noncomputable def nat_Add.A (c133 : List Int → Option (Int)) (c166 : List Int → Option (Bool)) (c167 : Int → Int → Int → Option (Int × Int)) (c168 : List Int → Option (List Int × Int)) (n : Nat) (J : Nat → (ASt → Option (List Int × Int)) → ASt → Option (List Int × Int)) (q : Nat) (ms : List Nat) : ASt → Option (List Int × Int) := acont (nat_Add.cfg c133 c166 c167 c168) J nat_Add.cuts n q nat_Add.code 1 ms (aend (nat_Add.cfg c133 c166 c167 c168) Tryd.f99.results.toList [false, false] nat_Add.sg.out)
theorem nat_Add.e0 (c133 : List Int → Option (Int)) (c166 : List Int → Option (Bool)) (c167 : Int → Int → Int → Option (Int × Int)) (c168 : List Int → Option (List Int × Int)) (n : Nat) (J : Nat → (ASt → Option (List Int × Int)) → ASt → Option (List Int × Int)) (l0 : List Int) (l1 : List Int) : afun (nat_Add.cfg c133 c166 c167 c168) J nat_Add.cuts n nat_Add.code Tryd.f99.results.toList [false, false] [.ro .u64 l0, .ro .u64 l1] nat_Add.sg.out = nat_Add.b0 c133 c166 c167 c168 (fun y0 y1 => J 31 (nat_Add.A c133 c166 c167 c168 n J 31 []) (nat_Add.s31 y0 y1)) l0 l1 := by kernel_rfl
theorem nat_Add.e31 (c133 : List Int → Option (Int)) (c166 : List Int → Option (Bool)) (c167 : Int → Int → Int → Option (Int × Int)) (c168 : List Int → Option (List Int × Int)) (n : Nat) (J : Nat → (ASt → Option (List Int × Int)) → ASt → Option (List Int × Int)) (x0 : List Int) (x1 : List Int) : nat_Add.A c133 c166 c167 c168 n J 31 [] (nat_Add.s31 x0 x1) = nat_Add.b31 c133 c166 c167 c168 (fun y0 y1 y2 y3 y4 y5 => J 2037 (nat_Add.A c133 c166 c167 c168 n J 2037 [n]) (nat_Add.s2037 y0 y1 y2 y3 y4 y5)) x0 x1 := by kernel_rfl
theorem nat_Add.e255 (c133 : List Int → Option (Int)) (c166 : List Int → Option (Bool)) (c167 : Int → Int → Int → Option (Int × Int)) (c168 : List Int → Option (List Int × Int)) (n : Nat) (J : Nat → (ASt → Option (List Int × Int)) → ASt → Option (List Int × Int)) (x0 : List Int) (x1 : Int) (x2 : List Int) : nat_Add.A c133 c166 c167 c168 n J 255 [] (nat_Add.s255 x0 x1 x2) = nat_Add.b255 c133 c166 c167 c168 x0 x1 x2 := by kernel_rfl
theorem nat_Add.e2037 (c133 : List Int → Option (Int)) (c166 : List Int → Option (Bool)) (c167 : Int → Int → Int → Option (Int × Int)) (c168 : List Int → Option (List Int × Int)) (n : Nat) (J : Nat → (ASt → Option (List Int × Int)) → ASt → Option (List Int × Int)) (m : Nat) (x0 : List Int) (x1 : List Int) (x2 : Int) (x3 : Int) (x4 : Int) (x5 : List Int) : nat_Add.A c133 c166 c167 c168 n J 2037 [m + 1] (nat_Add.s2037 x0 x1 x2 x3 x4 x5) = nat_Add.b2037 c133 c166 c167 c168 (fun y0 y1 y2 => J 255 (nat_Add.A c133 c166 c167 c168 n J 255 []) (nat_Add.s255 y0 y1 y2)) (fun y0 y1 y2 y3 y4 y5 y6 y7 => J 260711 (nat_Add.A c133 c166 c167 c168 n J 260711 [m]) (nat_Add.s260711 y0 y1 y2 y3 y4 y5 y6 y7)) x0 x1 x2 x3 x4 x5 := by kernel_rfl
theorem nat_Add.e260711 (c133 : List Int → Option (Int)) (c166 : List Int → Option (Bool)) (c167 : Int → Int → Int → Option (Int × Int)) (c168 : List Int → Option (List Int × Int)) (n : Nat) (J : Nat → (ASt → Option (List Int × Int)) → ASt → Option (List Int × Int)) (m2037 : Nat) (x0 : List Int) (x1 : List Int) (x2 : Int) (x3 : Int) (x4 : Int) (x5 : Int) (x6 : Int) (x7 : List Int) : nat_Add.A c133 c166 c167 c168 n J 260711 [m2037] (nat_Add.s260711 x0 x1 x2 x3 x4 x5 x6 x7) = nat_Add.b260711 c133 c166 c167 c168 (fun y0 y1 y2 y3 y4 y5 => J 2037 (nat_Add.A c133 c166 c167 c168 n J 2037 [m2037]) (nat_Add.s2037 y0 y1 y2 y3 y4 y5)) x0 x1 x2 x3 x4 x5 x6 x7 := by kernel_rfl
theorem nat_Add.q255 (n : Nat) (x0 : List Int) (x1 : Int) (x2 : List Int) : nat_Add.A (nat_size.f n) (nat_big.f n) bits_Add64.f (nat_cut.f n) n idJ 255 [] (nat_Add.s255 x0 x1 x2) = nat_Add.l255 n x0 x1 x2 := (nat_Add.e255 (nat_size.f n) (nat_big.f n) bits_Add64.f (nat_cut.f n) n idJ x0 x1 x2).trans (rfl)
theorem nat_Add.q260711 (n : Nat) (m2037 : Nat) (x0 : List Int) (x1 : List Int) (x2 : Int) (x3 : Int) (x4 : Int) (x5 : Int) (x6 : Int) (x7 : List Int) : nat_Add.A (nat_size.f n) (nat_big.f n) bits_Add64.f (nat_cut.f n) n idJ 260711 [m2037] (nat_Add.s260711 x0 x1 x2 x3 x4 x5 x6 x7) = nat_Add.l260711 n (fun y0 y1 y2 y3 y4 y5 => nat_Add.A (nat_size.f n) (nat_big.f n) bits_Add64.f (nat_cut.f n) n idJ 2037 [m2037] (nat_Add.s2037 y0 y1 y2 y3 y4 y5)) x0 x1 x2 x3 x4 x5 x6 x7 := (nat_Add.e260711 (nat_size.f n) (nat_big.f n) bits_Add64.f (nat_cut.f n) n idJ m2037 x0 x1 x2 x3 x4 x5 x6 x7).trans (rfl)
theorem nat_Add.q2037 (n : Nat) (m : Nat) : ∀ (x0 : List Int) (x1 : List Int) (x2 : Int) (x3 : Int) (x4 : Int) (x5 : List Int), nat_Add.A (nat_size.f n) (nat_big.f n) bits_Add64.f (nat_cut.f n) n idJ 2037 [m] (nat_Add.s2037 x0 x1 x2 x3 x4 x5) = nat_Add.l2037 n m x0 x1 x2 x3 x4 x5 := by
  induction m with
  | zero => intros; rfl
  | succ m ih =>
    intro x0 x1 x2 x3 x4 x5
    refine (nat_Add.e2037 (nat_size.f n) (nat_big.f n) bits_Add64.f (nat_cut.f n) n idJ m x0 x1 x2 x3 x4 x5).trans ?_
    exact congrFun (congrFun (congrFun (congrFun (congrFun (congrFun (congr (congrArg (nat_Add.b2037 (nat_size.f n) (nat_big.f n) bits_Add64.f (nat_cut.f n)) (funext fun y0 => (funext fun y1 => (funext fun y2 => nat_Add.q255 n y0 y1 y2)))) ((funext fun y0 => (funext fun y1 => (funext fun y2 => (funext fun y3 => (funext fun y4 => (funext fun y5 => (funext fun y6 => (funext fun y7 => nat_Add.q260711 n m y0 y1 y2 y3 y4 y5 y6 y7)))))))).trans (by rw [show (fun y0 y1 y2 y3 y4 y5 => nat_Add.A (nat_size.f n) (nat_big.f n) bits_Add64.f (nat_cut.f n) n idJ 2037 [m] (nat_Add.s2037 y0 y1 y2 y3 y4 y5)) = _ from (funext fun y0 => (funext fun y1 => (funext fun y2 => (funext fun y3 => (funext fun y4 => (funext fun y5 => ih y0 y1 y2 y3 y4 y5))))))]))) x0) x1) x2) x3) x4) x5
theorem nat_Add.q31 (n : Nat) (x0 : List Int) (x1 : List Int) : nat_Add.A (nat_size.f n) (nat_big.f n) bits_Add64.f (nat_cut.f n) n idJ 31 [] (nat_Add.s31 x0 x1) = nat_Add.l31 n x0 x1 := (nat_Add.e31 (nat_size.f n) (nat_big.f n) bits_Add64.f (nat_cut.f n) n idJ x0 x1).trans (congrFun (congrFun (congrArg (nat_Add.b31 (nat_size.f n) (nat_big.f n) bits_Add64.f (nat_cut.f n)) (funext fun y0 => (funext fun y1 => (funext fun y2 => (funext fun y3 => (funext fun y4 => (funext fun y5 => nat_Add.q2037 n n y0 y1 y2 y3 y4 y5))))))) x0) x1)
theorem nat_Add.eq (n : Nat) (l0 : List Int) (l1 : List Int) : afun (nat_Add.cfg (nat_size.f n) (nat_big.f n) bits_Add64.f (nat_cut.f n)) idJ nat_Add.cuts n nat_Add.code Tryd.f99.results.toList [false, false] [.ro .u64 l0, .ro .u64 l1] nat_Add.sg.out = nat_Add.f n l0 l1 := (nat_Add.e0 (nat_size.f n) (nat_big.f n) bits_Add64.f (nat_cut.f n) n idJ l0 l1).trans (congrFun (congrFun (congrArg (nat_Add.b0 (nat_size.f n) (nat_big.f n) bits_Add64.f (nat_cut.f n)) (funext fun y0 => (funext fun y1 => nat_Add.q31 n y0 y1))) l0) l1)
theorem nat_Add.ok {n : Nat} {l0 : List Int} {l1 : List Int} {r : List Int × Int} (h : nat_Add.f n l0 l1 = some r) : CallD Tryd.prog HW 99 [.ro .u64 l0, .ro .u64 l1] (nat_Add.sg.enc r) :=
  fun_some hwS Tryd.func99 (by kernel_rfl) (body := nat_Add.code) (by kernel_rfl) tys_ok (c := nat_Add.cfg (nat_size.f n) (nat_big.f n) bits_Add64.f (nat_cut.f n)) (orCall_ok (nat_size.call_ok (n := n)) (orCall_ok (nat_big.call_ok (n := n)) (orCall_ok (bits_Add64.call_ok (n := n)) (orCall_ok (nat_cut.call_ok (n := n)) noCall_ok)))) noW_ok (by kernel_rfl) (by kernel_rfl) (Nat.le_of_ble_eq_true (by kernel_rfl)) ((nat_Add.eq n l0 l1).trans h)
noncomputable def nat_Add.call {α : Type} (g : List Int → List Int → Option (List Int × Int)) (ds : List D) (K : List D → Option α) : Option α := match ds with
  | [.ro .u64 l0, .ro .u64 l1] => (g l0 l1).bind fun r => K (nat_Add.sg.enc r)
  | _ => none
theorem nat_Add.call_ok {α : Type} {n : Nat} (ds : List D) (K : List D → Option α) (r : α) (h : nat_Add.call (nat_Add.f n) ds K = some r) : ∃ rs, K rs = some r ∧ CallD Tryd.prog HW 99 ds rs := by
  unfold nat_Add.call at h
  split at h
  · obtain ⟨x, hx, hk⟩ := Option.bind_eq_some_iff.1 h
    exact ⟨_, hk, nat_Add.ok (n := n) hx⟩
  · cases h
/-! ### quot_Near: function 132 -/
noncomputable def quot_Near.b0 (c42 : List Int → List Int → Option (Int)) (c99 : List Int → List Int → Option (List Int × Int)) (c120 : List Int → Int → Option (Int)) (c122 : List Int → List Int → Option (List Int × Int)) (c130 : List Int → List Int → Option (List Int × List Int × Int)) (l0 : List Int) (l1 : List Int) : Option (List Int × Int) := ((c130 l0 l1).bind fun t1 => (if ¬ t1.2.2 = 0 then some (([] : List Int), t1.2.2) else ((c122 l1 t1.2.1).bind fun t2 => (if ¬ t2.2 = 0 then some (([] : List Int), t2.2) else ((c42 t1.2.1 t2.1).bind fun t3 => (if t3 > 0 then ((c99 t1.1 [1]).bind fun t5 => some (t5.1, t5.2)) else (if t3 = 0 then ((c120 t1.1 0).bind fun t4 => (if t4 = 1 then ((c99 t1.1 [1]).bind fun t6 => some (t6.1, t6.2)) else some (t1.1, 0))) else some (t1.1, 0))))))))
noncomputable def quot_Near.f (n : Nat) (l0 : List Int) (l1 : List Int) : Option (List Int × Int) := quot_Near.b0 (nat_Cmp.f n) (nat_Add.f n) nat_Bit.f (nat_Sub.f n) (quot_DivMod.f n) l0 l1
noncomputable def quot_Near.sg : Sig (List Int × Int) := s2 (sRow .u64) (s1 (sInt .i64))
noncomputable def quot_Near.code : Code := (Tryd.f132.body).getD .skip
noncomputable def quot_Near.cfg (c42 : List Int → List Int → Option (Int)) (c99 : List Int → List Int → Option (List Int × Int)) (c120 : List Int → Int → Option (Int)) (c122 : List Int → List Int → Option (List Int × Int)) (c130 : List Int → List Int → Option (List Int × List Int × Int)) : Cfg (List Int × Int) := { T := tys, call := orCall 42 (nat_Cmp.call c42) (orCall 99 (nat_Add.call c99) (orCall 120 (nat_Bit.call c120) (orCall 122 (nat_Sub.call c122) (orCall 130 (quot_DivMod.call c130) (noCall))))) }
noncomputable def quot_Near.cuts : List (Nat × List (Nat × Want)) := []
theorem quot_Near.e0 (c42 : List Int → List Int → Option (Int)) (c99 : List Int → List Int → Option (List Int × Int)) (c120 : List Int → Int → Option (Int)) (c122 : List Int → List Int → Option (List Int × Int)) (c130 : List Int → List Int → Option (List Int × List Int × Int)) (n : Nat) (J : Nat → (ASt → Option (List Int × Int)) → ASt → Option (List Int × Int)) (l0 : List Int) (l1 : List Int) : afun (quot_Near.cfg c42 c99 c120 c122 c130) J quot_Near.cuts n quot_Near.code Tryd.f132.results.toList [false, false] [.ro .u64 l0, .ro .u64 l1] quot_Near.sg.out = quot_Near.b0 c42 c99 c120 c122 c130 l0 l1 := by kernel_rfl
theorem quot_Near.eq (n : Nat) (l0 : List Int) (l1 : List Int) : afun (quot_Near.cfg (nat_Cmp.f n) (nat_Add.f n) nat_Bit.f (nat_Sub.f n) (quot_DivMod.f n)) idJ quot_Near.cuts n quot_Near.code Tryd.f132.results.toList [false, false] [.ro .u64 l0, .ro .u64 l1] quot_Near.sg.out = quot_Near.f n l0 l1 := (quot_Near.e0 (nat_Cmp.f n) (nat_Add.f n) nat_Bit.f (nat_Sub.f n) (quot_DivMod.f n) n idJ l0 l1).trans (rfl)
theorem quot_Near.ok {n : Nat} {l0 : List Int} {l1 : List Int} {r : List Int × Int} (h : quot_Near.f n l0 l1 = some r) : CallD Tryd.prog HW 132 [.ro .u64 l0, .ro .u64 l1] (quot_Near.sg.enc r) :=
  fun_some hwS Tryd.func132 (by kernel_rfl) (body := quot_Near.code) (by kernel_rfl) tys_ok (c := quot_Near.cfg (nat_Cmp.f n) (nat_Add.f n) nat_Bit.f (nat_Sub.f n) (quot_DivMod.f n)) (orCall_ok (nat_Cmp.call_ok (n := n)) (orCall_ok (nat_Add.call_ok (n := n)) (orCall_ok (nat_Bit.call_ok (n := n)) (orCall_ok (nat_Sub.call_ok (n := n)) (orCall_ok (quot_DivMod.call_ok (n := n)) noCall_ok))))) noW_ok (by kernel_rfl) (by kernel_rfl) (Nat.le_of_ble_eq_true (by kernel_rfl)) ((quot_Near.eq n l0 l1).trans h)
noncomputable def quot_Near.call {α : Type} (g : List Int → List Int → Option (List Int × Int)) (ds : List D) (K : List D → Option α) : Option α := match ds with
  | [.ro .u64 l0, .ro .u64 l1] => (g l0 l1).bind fun r => K (quot_Near.sg.enc r)
  | _ => none
theorem quot_Near.call_ok {α : Type} {n : Nat} (ds : List D) (K : List D → Option α) (r : α) (h : quot_Near.call (quot_Near.f n) ds K = some r) : ∃ rs, K rs = some r ∧ CallD Tryd.prog HW 132 ds rs := by
  unfold quot_Near.call at h
  split at h
  · obtain ⟨x, hx, hk⟩ := Option.bind_eq_some_iff.1 h
    exact ⟨_, hk, quot_Near.ok (n := n) hx⟩
  · cases h
/-! ### abacuslaw02_nears: function 40 -/
noncomputable def abacuslaw02_nears.b0 (c72 : List Int → List Int → Option (Bool)) (c131 : List Int → List Int → Option (List Int × Int)) (c132 : List Int → List Int → Option (List Int × Int)) (l0 : List Int) (l1 : List Int) : Option (Bool) := ((c131 l0 l1).bind fun t1 => ((c132 l0 l1).bind fun t2 => (if t2.2 = t1.2 then ((c72 t2.1 t1.1).bind fun t3 => some t3) else some false)))
noncomputable def abacuslaw02_nears.f (n : Nat) (l0 : List Int) (l1 : List Int) : Option (Bool) := abacuslaw02_nears.b0 (abacuslaw02_alike.f n) (abacusref02_Near.f n) (quot_Near.f n) l0 l1
noncomputable def abacuslaw02_nears.sg : Sig (Bool) := s1 (sBool)
noncomputable def abacuslaw02_nears.code : Code := (Tryd.f40.body).getD .skip
noncomputable def abacuslaw02_nears.cfg (c72 : List Int → List Int → Option (Bool)) (c131 : List Int → List Int → Option (List Int × Int)) (c132 : List Int → List Int → Option (List Int × Int)) : Cfg (Bool) := { T := tys, call := orCall 72 (abacuslaw02_alike.call c72) (orCall 131 (abacusref02_Near.call c131) (orCall 132 (quot_Near.call c132) (noCall))) }
noncomputable def abacuslaw02_nears.cuts : List (Nat × List (Nat × Want)) := []
theorem abacuslaw02_nears.e0 (c72 : List Int → List Int → Option (Bool)) (c131 : List Int → List Int → Option (List Int × Int)) (c132 : List Int → List Int → Option (List Int × Int)) (n : Nat) (J : Nat → (ASt → Option (Bool)) → ASt → Option (Bool)) (l0 : List Int) (l1 : List Int) : afun (abacuslaw02_nears.cfg c72 c131 c132) J abacuslaw02_nears.cuts n abacuslaw02_nears.code Tryd.f40.results.toList [false] [.ro .u64 l0, .ro .u64 l1] abacuslaw02_nears.sg.out = abacuslaw02_nears.b0 c72 c131 c132 l0 l1 := by kernel_rfl
theorem abacuslaw02_nears.eq (n : Nat) (l0 : List Int) (l1 : List Int) : afun (abacuslaw02_nears.cfg (abacuslaw02_alike.f n) (abacusref02_Near.f n) (quot_Near.f n)) idJ abacuslaw02_nears.cuts n abacuslaw02_nears.code Tryd.f40.results.toList [false] [.ro .u64 l0, .ro .u64 l1] abacuslaw02_nears.sg.out = abacuslaw02_nears.f n l0 l1 := (abacuslaw02_nears.e0 (abacuslaw02_alike.f n) (abacusref02_Near.f n) (quot_Near.f n) n idJ l0 l1).trans (rfl)
theorem abacuslaw02_nears.ok {n : Nat} {l0 : List Int} {l1 : List Int} {r : Bool} (h : abacuslaw02_nears.f n l0 l1 = some r) : CallD Tryd.prog HW 40 [.ro .u64 l0, .ro .u64 l1] (abacuslaw02_nears.sg.enc r) :=
  fun_some hwS Tryd.func40 (by kernel_rfl) (body := abacuslaw02_nears.code) (by kernel_rfl) tys_ok (c := abacuslaw02_nears.cfg (abacuslaw02_alike.f n) (abacusref02_Near.f n) (quot_Near.f n)) (orCall_ok (abacuslaw02_alike.call_ok (n := n)) (orCall_ok (abacusref02_Near.call_ok (n := n)) (orCall_ok (quot_Near.call_ok (n := n)) noCall_ok))) noW_ok (by kernel_rfl) (by kernel_rfl) (Nat.le_of_ble_eq_true (by kernel_rfl)) ((abacuslaw02_nears.eq n l0 l1).trans h)
noncomputable def abacuslaw02_nears.call {α : Type} (g : List Int → List Int → Option (Bool)) (ds : List D) (K : List D → Option α) : Option α := match ds with
  | [.ro .u64 l0, .ro .u64 l1] => (g l0 l1).bind fun r => K (abacuslaw02_nears.sg.enc r)
  | _ => none
theorem abacuslaw02_nears.call_ok {α : Type} {n : Nat} (ds : List D) (K : List D → Option α) (r : α) (h : abacuslaw02_nears.call (abacuslaw02_nears.f n) ds K = some r) : ∃ rs, K rs = some r ∧ CallD Tryd.prog HW 40 ds rs := by
  unfold abacuslaw02_nears.call at h
  split at h
  · obtain ⟨x, hx, hk⟩ := Option.bind_eq_some_iff.1 h
    exact ⟨_, hk, abacuslaw02_nears.ok (n := n) hx⟩
  · cases h
end Go.Proofs.YtceihajjpeoloaaDoor.F
