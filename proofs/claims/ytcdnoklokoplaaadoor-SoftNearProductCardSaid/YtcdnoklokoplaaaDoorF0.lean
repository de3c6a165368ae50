/- What the functions compute, and that calls of them answer so (printed by gen.py). Conditions: HW, a table as it was laid. -/
import Derived.Test.YtcdnoklokoplaaaDoorA17
import Derived.Test.YtcdnoklokoplaaaDoorProg
namespace Go.Proofs.YtcdnoklokoplaaaDoor.F
open Go.RowKit Go.Proofs.YtcdnoklokoplaaaDoorA
set_option linter.unusedVariables false
set_option maxRecDepth 100000
/-- The table of math/bits.TrailingZeros64 stands as it was laid. -/
def HW : World → Prop := fun w => ∀ j, j < 64 → w.cell? ⟨0, j, none⟩ = some (.int .u8 ((Lib.deBruijn64tab.getD j 0 : Nat) : Int))
theorem hwS : ∀ w w' : World, Below w.heap.size w w' → HW w → HW w' := fun w w' hb h j hj => by
  have h1 := h j hj
  rw [← h1]
  exact hb.cell (Nat.lt_of_not_le fun hn => by simp [World.cell?, Array.getElem?_eq_none hn] at h1)
def tys : List (Nat × TI) := [(2, ⟨.int .i64, 1, 8, [.int .i64 0]⟩),
  (3, ⟨.int .i64, 1, 8, [.int .i64 0]⟩),
  (4, ⟨.bool, 1, 1, [.bool false]⟩),
  (22, ⟨.int .u64, 1, 8, [.int .u64 0]⟩),
  (25, ⟨.slice 22, 1, 24, [.nil]⟩),
  (27, ⟨.struct [(0, 1, false), (1, 1, false)], 2, 32, [.bool false, .nil]⟩),
  (39, ⟨.struct [(0, 1, false), (1, 1, false), (2, 1, false), (3, 1, false)], 4, 32, [.bool false, .int .i64 0, .int .u64 0, .int .i64 0]⟩),
  (63, ⟨.int .u64, 1, 8, [.int .u64 0]⟩),
  (89, ⟨.struct [(0, 1, false), (1, 1, false), (2, 1, false)], 3, 40, [.bool false, .nil, .int .i64 0]⟩),
  (102, ⟨.struct [(0, 1, false), (1, 1, false), (2, 1, false), (3, 1, false)], 4, 64, [.bool false, .nil, .nil, .int .i64 0]⟩)]
theorem tys_ok : TOK Tryd.prog tys := tok_of (by kernel_rfl)
/-! ### nat_size: function 52 -/
noncomputable def nat_size.b0 (k57 : List Int → Int → Option (Int)) (l0 : List Int) : Option (Int) := k57 l0 (ln l0)
noncomputable def nat_size.b57 (k57 : List Int → Int → Option (Int)) (x0 : List Int) (x1 : Int) : Option (Int) := (if x1 > 0 then (if 0 ≤ (wrap64 (x1 - 1)) then (if (wrap64 (x1 - 1)) < (ln x0) then (if (rd x0 (wrap64 (x1 - 1))) = 0 then k57 x0 (wrap64 (x1 - 1)) else some x1) else none) else none) else some x1)
noncomputable def nat_size.l57 (n : Nat) : Nat → List Int → Int → Option (Int)
  | 0, _, _ => none
  | m + 1, x0, x1 => nat_size.b57 (nat_size.l57 n m) x0 x1
noncomputable def nat_size.f (n : Nat) (l0 : List Int) : Option (Int) := nat_size.b0 (nat_size.l57 n n) l0
noncomputable def nat_size.sg : Sig (Int) := s1 (sInt .i64)
noncomputable def nat_size.code : Code := (Tryd.f52.body).getD .skip
noncomputable def nat_size.cfg : Cfg (Int) := ⟨tys, noCall⟩
noncomputable def nat_size.cuts : List (Nat × List (Nat × Want)) := [(57, [(0, .keep), (3, .keep)])]
noncomputable def nat_size.s57 (x0 : List Int) (x1 : Int) : ASt := ⟨[(0, .ro .u64 x0), (3, .int .i64 x1)], []⟩
noncomputable def nat_size.A (n : Nat) (J : Nat → (ASt → Option (Int)) → ASt → Option (Int)) (q : Nat) (ms : List Nat) : ASt → Option (Int) := acont (nat_size.cfg) J nat_size.cuts n q nat_size.code 1 ms (aend (nat_size.cfg) Tryd.f52.results.toList [false] nat_size.sg.out)
theorem nat_size.e0 (n : Nat) (J : Nat → (ASt → Option (Int)) → ASt → Option (Int)) (l0 : List Int) : afun (nat_size.cfg) J nat_size.cuts n nat_size.code Tryd.f52.results.toList [false] [.ro .u64 l0] nat_size.sg.out = nat_size.b0 (fun y0 y1 => J 57 (nat_size.A n J 57 [n]) (nat_size.s57 y0 y1)) l0 := by kernel_rfl
theorem nat_size.e57 (n : Nat) (J : Nat → (ASt → Option (Int)) → ASt → Option (Int)) (m : Nat) (x0 : List Int) (x1 : Int) : nat_size.A n J 57 [m + 1] (nat_size.s57 x0 x1) = nat_size.b57 (fun y0 y1 => J 57 (nat_size.A n J 57 [m]) (nat_size.s57 y0 y1)) x0 x1 := by kernel_rfl
theorem nat_size.q57 (n : Nat) (m : Nat) : ∀ (x0 : List Int) (x1 : Int), nat_size.A n idJ 57 [m] (nat_size.s57 x0 x1) = nat_size.l57 n m x0 x1 := by
  induction m with
  | zero => intros; rfl
  | succ m ih =>
    intro x0 x1
    refine (nat_size.e57 n idJ m x0 x1).trans ?_
    exact congrFun (congrFun (congrArg nat_size.b57 (funext fun y0 => (funext fun y1 => ih y0 y1))) x0) x1
theorem nat_size.eq (n : Nat) (l0 : List Int) : afun (nat_size.cfg) idJ nat_size.cuts n nat_size.code Tryd.f52.results.toList [false] [.ro .u64 l0] nat_size.sg.out = nat_size.f n l0 := (nat_size.e0 n idJ l0).trans (congrFun (congrArg nat_size.b0 (funext fun y0 => (funext fun y1 => nat_size.q57 n n y0 y1))) l0)
theorem nat_size.ok {n : Nat} {l0 : List Int} {r : Int} (h : nat_size.f n l0 = some r) : CallD Tryd.prog HW 52 [.ro .u64 l0] (nat_size.sg.enc r) :=
  fun_some hwS Tryd.func52 (by kernel_rfl) (body := nat_size.code) (by kernel_rfl) tys_ok (c := nat_size.cfg) noCall_ok (by kernel_rfl) (by kernel_rfl) (Nat.le_of_ble_eq_true (by kernel_rfl)) ((nat_size.eq n l0).trans h)
noncomputable def nat_size.call {α : Type} (g : List Int → Option (Int)) (ds : List D) (K : List D → Option α) : Option α := match ds with
  | [.ro .u64 l0] => (g l0).bind fun r => K (nat_size.sg.enc r)
  | _ => none
theorem nat_size.call_ok {α : Type} {n : Nat} (ds : List D) (K : List D → Option α) (r : α) (h : nat_size.call (nat_size.f n) ds K = some r) : ∃ rs, K rs = some r ∧ CallD Tryd.prog HW 52 ds rs := by
  unfold nat_size.call at h
  split at h
  · obtain ⟨x, hx, hk⟩ := Option.bind_eq_some_iff.1 h
    exact ⟨_, hk, nat_size.ok (n := n) hx⟩
  · cases h
/-! ### nat_big: function 81 -/
noncomputable def nat_big.b0 (c52 : List Int → Option (Int)) (l0 : List Int) : Option (Bool) := ((c52 l0).bind fun t1 => some (decide (t1 > 4096)))
noncomputable def nat_big.f (n : Nat) (l0 : List Int) : Option (Bool) := nat_big.b0 (nat_size.f n) l0
noncomputable def nat_big.sg : Sig (Bool) := s1 (sBool)
noncomputable def nat_big.code : Code := (Tryd.f81.body).getD .skip
noncomputable def nat_big.cfg (c52 : List Int → Option (Int)) : Cfg (Bool) := ⟨tys, orCall 52 (nat_size.call c52) (noCall)⟩
noncomputable def nat_big.cuts : List (Nat × List (Nat × Want)) := []
theorem nat_big.e0 (c52 : List Int → Option (Int)) (n : Nat) (J : Nat → (ASt → Option (Bool)) → ASt → Option (Bool)) (l0 : List Int) : afun (nat_big.cfg c52) J nat_big.cuts n nat_big.code Tryd.f81.results.toList [false] [.ro .u64 l0] nat_big.sg.out = nat_big.b0 c52 l0 := by kernel_rfl
theorem nat_big.eq (n : Nat) (l0 : List Int) : afun (nat_big.cfg (nat_size.f n)) idJ nat_big.cuts n nat_big.code Tryd.f81.results.toList [false] [.ro .u64 l0] nat_big.sg.out = nat_big.f n l0 := (nat_big.e0 (nat_size.f n) n idJ l0).trans (rfl)
theorem nat_big.ok {n : Nat} {l0 : List Int} {r : Bool} (h : nat_big.f n l0 = some r) : CallD Tryd.prog HW 81 [.ro .u64 l0] (nat_big.sg.enc r) :=
  fun_some hwS Tryd.func81 (by kernel_rfl) (body := nat_big.code) (by kernel_rfl) tys_ok (c := nat_big.cfg (nat_size.f n)) (orCall_ok (nat_size.call_ok (n := n)) noCall_ok) (by kernel_rfl) (by kernel_rfl) (Nat.le_of_ble_eq_true (by kernel_rfl)) ((nat_big.eq n l0).trans h)
noncomputable def nat_big.call {α : Type} (g : List Int → Option (Bool)) (ds : List D) (K : List D → Option α) : Option α := match ds with
  | [.ro .u64 l0] => (g l0).bind fun r => K (nat_big.sg.enc r)
  | _ => none
theorem nat_big.call_ok {α : Type} {n : Nat} (ds : List D) (K : List D → Option α) (r : α) (h : nat_big.call (nat_big.f n) ds K = some r) : ∃ rs, K rs = some r ∧ CallD Tryd.prog HW 81 ds rs := by
  unfold nat_big.call at h
  split at h
  · obtain ⟨x, hx, hk⟩ := Option.bind_eq_some_iff.1 h
    exact ⟨_, hk, nat_big.ok (n := n) hx⟩
  · cases h
/-! ### bits_Mul64: function 82 -/
noncomputable def bits_Mul64.b0 (a0 : Int) (a1 : Int) : Option (Int × Int) := some (IntKind.u64.wrap ((IntKind.u64.wrap ((IntKind.u64.wrap ((a0 / 4294967296) * (a1 / 4294967296))) + ((IntKind.u64.wrap ((IntKind.u64.wrap ((a0 / 4294967296) * (Go.bits .and .u64 a1 4294967295))) + ((IntKind.u64.wrap ((Go.bits .and .u64 a0 4294967295) * (Go.bits .and .u64 a1 4294967295))) / 4294967296))) / 4294967296))) + ((IntKind.u64.wrap ((Go.bits .and .u64 (IntKind.u64.wrap ((IntKind.u64.wrap ((a0 / 4294967296) * (Go.bits .and .u64 a1 4294967295))) + ((IntKind.u64.wrap ((Go.bits .and .u64 a0 4294967295) * (Go.bits .and .u64 a1 4294967295))) / 4294967296))) 4294967295) + (IntKind.u64.wrap ((Go.bits .and .u64 a0 4294967295) * (a1 / 4294967296))))) / 4294967296)), IntKind.u64.wrap (a0 * a1))
noncomputable def bits_Mul64.f (a0 : Int) (a1 : Int) : Option (Int × Int) := bits_Mul64.b0 a0 a1
noncomputable def bits_Mul64.sg : Sig (Int × Int) := s2 (sInt .u64) (s1 (sInt .u64))
noncomputable def bits_Mul64.code : Code := (Tryd.f82.body).getD .skip
noncomputable def bits_Mul64.cfg : Cfg (Int × Int) := ⟨tys, noCall⟩
noncomputable def bits_Mul64.cuts : List (Nat × List (Nat × Want)) := []
theorem bits_Mul64.e0 (n : Nat) (J : Nat → (ASt → Option (Int × Int)) → ASt → Option (Int × Int)) (a0 : Int) (a1 : Int) : afun (bits_Mul64.cfg) J bits_Mul64.cuts n bits_Mul64.code Tryd.f82.results.toList [false, false] [.int .u64 a0, .int .u64 a1] bits_Mul64.sg.out = bits_Mul64.b0 a0 a1 := by kernel_rfl
theorem bits_Mul64.eq (n : Nat) (a0 : Int) (a1 : Int) : afun (bits_Mul64.cfg) idJ bits_Mul64.cuts n bits_Mul64.code Tryd.f82.results.toList [false, false] [.int .u64 a0, .int .u64 a1] bits_Mul64.sg.out = bits_Mul64.f a0 a1 := (bits_Mul64.e0 n idJ a0 a1).trans (rfl)
theorem bits_Mul64.ok {n : Nat} {a0 : Int} {a1 : Int} {r : Int × Int} (h : bits_Mul64.f a0 a1 = some r) : CallD Tryd.prog HW 82 [.int .u64 a0, .int .u64 a1] (bits_Mul64.sg.enc r) :=
  fun_some hwS Tryd.func82 (by kernel_rfl) (body := bits_Mul64.code) (by kernel_rfl) tys_ok (c := bits_Mul64.cfg) noCall_ok (by kernel_rfl) (by kernel_rfl) (Nat.le_of_ble_eq_true (by kernel_rfl)) ((bits_Mul64.eq n a0 a1).trans h)
noncomputable def bits_Mul64.call {α : Type} (g : Int → Int → Option (Int × Int)) (ds : List D) (K : List D → Option α) : Option α := match ds with
  | [.int .u64 a0, .int .u64 a1] => (g a0 a1).bind fun r => K (bits_Mul64.sg.enc r)
  | _ => none
theorem bits_Mul64.call_ok {α : Type} {n : Nat} (ds : List D) (K : List D → Option α) (r : α) (h : bits_Mul64.call bits_Mul64.f ds K = some r) : ∃ rs, K rs = some r ∧ CallD Tryd.prog HW 82 ds rs := by
  unfold bits_Mul64.call at h
  split at h
  · obtain ⟨x, hx, hk⟩ := Option.bind_eq_some_iff.1 h
    exact ⟨_, hk, bits_Mul64.ok (n := n) hx⟩
  · cases h
/-! ### bits_Add64: function 83 -/
def bits_Add64.f (a0 : Int) (a1 : Int) (a2 : Int) : Option (Int × Int) := if 0 ≤ a0 ∧ 0 ≤ a1 ∧ 0 ≤ a2 ∧ a2 ≤ 1 then some ((a0 + a1 + a2) % 18446744073709551616, (a0 + a1 + a2) / 18446744073709551616) else none
def bits_Add64.sg : Sig (Int × Int) := s2 (sInt .u64) (s1 (sInt .u64))
theorem bits_Add64.ok {a0 a1 a2 : Int} {r : Int × Int} (h : bits_Add64.f a0 a1 a2 = some r) : CallD Tryd.prog HW 83 [.int .u64 a0, .int .u64 a1, .int .u64 a2] (bits_Add64.sg.enc r) := by
  unfold bits_Add64.f at h
  split at h
  · rename_i hh
    obtain rfl := Option.some.inj h
    exact calld_scal rfl rfl fun w _ => .inr ⟨_, _, run_add64' Tryd.func83 (by kernel_rfl) (by kernel_rfl) (by kernel_rfl) (by kernel_rfl) a0 a1 a2 hh.1 hh.2.1 hh.2.2.1 hh.2.2.2 w, rfl, rfl⟩
  · cases h
noncomputable def bits_Add64.call {α : Type} (g : Int → Int → Int → Option (Int × Int)) (ds : List D) (K : List D → Option α) : Option α := match ds with
  | [.int .u64 a0, .int .u64 a1, .int .u64 a2] => (g a0 a1 a2).bind fun r => K (bits_Add64.sg.enc r)
  | _ => none
theorem bits_Add64.call_ok {α : Type} {n : Nat} (ds : List D) (K : List D → Option α) (r : α) (h : bits_Add64.call bits_Add64.f ds K = some r) : ∃ rs, K rs = some r ∧ CallD Tryd.prog HW 83 ds rs := by
  unfold bits_Add64.call at h
  split at h
  · obtain ⟨x, hx, hk⟩ := Option.bind_eq_some_iff.1 h
    exact ⟨_, hk, bits_Add64.ok hx⟩
  · cases h
/-! ### nat_cut: function 84 -/
noncomputable def nat_cut.b0 (c52 : List Int → Option (Int)) (l0 : List Int) : Option (List Int × Int) := ((c52 l0).bind fun t1 => (if t1 > 4096 then some (([] : List Int), 2) else (if 0 ≤ t1 then (if t1 ≤ t1 then (if t1 ≤ (ln l0) then ((some (l0.take t1.toNat) : Option (List Int)).bind fun y2 => some (y2, 0)) else none) else none) else none)))
noncomputable def nat_cut.f (n : Nat) (l0 : List Int) : Option (List Int × Int) := nat_cut.b0 (nat_size.f n) l0
noncomputable def nat_cut.sg : Sig (List Int × Int) := s2 (sRow .u64) (s1 (sInt .i64))
noncomputable def nat_cut.code : Code := (Tryd.f84.body).getD .skip
noncomputable def nat_cut.cfg (c52 : List Int → Option (Int)) : Cfg (List Int × Int) := ⟨tys, orCall 52 (nat_size.call c52) (noCall)⟩
noncomputable def nat_cut.cuts : List (Nat × List (Nat × Want)) := []
theorem nat_cut.e0 (c52 : List Int → Option (Int)) (n : Nat) (J : Nat → (ASt → Option (List Int × Int)) → ASt → Option (List Int × Int)) (l0 : List Int) : afun (nat_cut.cfg c52) J nat_cut.cuts n nat_cut.code Tryd.f84.results.toList [false, false] [.ro .u64 l0] nat_cut.sg.out = nat_cut.b0 c52 l0 := by kernel_rfl
theorem nat_cut.eq (n : Nat) (l0 : List Int) : afun (nat_cut.cfg (nat_size.f n)) idJ nat_cut.cuts n nat_cut.code Tryd.f84.results.toList [false, false] [.ro .u64 l0] nat_cut.sg.out = nat_cut.f n l0 := (nat_cut.e0 (nat_size.f n) n idJ l0).trans (rfl)
theorem nat_cut.ok {n : Nat} {l0 : List Int} {r : List Int × Int} (h : nat_cut.f n l0 = some r) : CallD Tryd.prog HW 84 [.ro .u64 l0] (nat_cut.sg.enc r) :=
  fun_some hwS Tryd.func84 (by kernel_rfl) (body := nat_cut.code) (by kernel_rfl) tys_ok (c := nat_cut.cfg (nat_size.f n)) (orCall_ok (nat_size.call_ok (n := n)) noCall_ok) (by kernel_rfl) (by kernel_rfl) (Nat.le_of_ble_eq_true (by kernel_rfl)) ((nat_cut.eq n l0).trans h)
noncomputable def nat_cut.call {α : Type} (g : List Int → Option (List Int × Int)) (ds : List D) (K : List D → Option α) : Option α := match ds with
  | [.ro .u64 l0] => (g l0).bind fun r => K (nat_cut.sg.enc r)
  | _ => none
theorem nat_cut.call_ok {α : Type} {n : Nat} (ds : List D) (K : List D → Option α) (r : α) (h : nat_cut.call (nat_cut.f n) ds K = some r) : ∃ rs, K rs = some r ∧ CallD Tryd.prog HW 84 ds rs := by
  unfold nat_cut.call at h
  split at h
  · obtain ⟨x, hx, hk⟩ := Option.bind_eq_some_iff.1 h
    exact ⟨_, hk, nat_cut.ok (n := n) hx⟩
  · cases h
/-! ### nat_Mul: function 49 -/
noncomputable def nat_Mul.b0 (c52 : List Int → Option (Int)) (c81 : List Int → Option (Bool)) (c82 : Int → Int → Option (Int × Int)) (c83 : Int → Int → Int → Option (Int × Int)) (c84 : List Int → Option (List Int × Int)) (k2037 : List Int → List Int → Int → Int → List Int → Option (List Int × Int)) (l0 : List Int) (l1 : List Int) : Option (List Int × Int) := ((c81 l0).bind fun t1 => (if t1 = true then some (([] : List Int), 2) else ((c81 l1).bind fun t2 => (if t2 = true then some (([] : List Int), 2) else ((c52 l0).bind fun t3 => (if 0 ≤ t3 then (if t3 ≤ (ln l0) then ((some (l0.take t3.toNat) : Option (List Int)).bind fun y4 => ((c52 l1).bind fun t5 => (if 0 ≤ t5 then (if t5 ≤ (ln l1) then ((some (l1.take t5.toNat) : Option (List Int)).bind fun y6 => (if (ln y4) = 0 then some (([] : List Int), 0) else (if (ln y6) = 0 then some (([] : List Int), 0) else (if (wrap64 ((wrap64 ((ln y4) + (ln y6))) - 1)) > 4096 then some (([] : List Int), 2) else (if 0 ≤ (wrap64 ((ln y4) + (ln y6))) then (if (wrap64 ((ln y4) + (ln y6))).toNat ≤ 35184372088832 then k2037 y6 y4 (ln y4) 0 (List.replicate (wrap64 ((ln y4) + (ln y6))).toNat 0) else none) else none))))) else none) else none))) else none) else none))))))
noncomputable def nat_Mul.b255 (c52 : List Int → Option (Int)) (c81 : List Int → Option (Bool)) (c82 : Int → Int → Option (Int × Int)) (c83 : Int → Int → Int → Option (Int × Int)) (c84 : List Int → Option (List Int × Int)) (x0 : List Int) : Option (List Int × Int) := ((c84 x0).bind fun t1 => some (t1.1, t1.2))
noncomputable def nat_Mul.b2037 (c52 : List Int → Option (Int)) (c81 : List Int → Option (Bool)) (c82 : Int → Int → Option (Int × Int)) (c83 : Int → Int → Int → Option (Int × Int)) (c84 : List Int → Option (List Int × Int)) (k255 : List Int → Option (List Int × Int)) (k2085685 : List Int → Int → Int → Int → Int → List Int → Int → Int → List Int → Option (List Int × Int)) (x0 : List Int) (x1 : List Int) (x2 : Int) (x3 : Int) (x4 : List Int) : Option (List Int × Int) := (if x3 < x2 then (if 0 ≤ x3 then (if x3 < (ln x1) then k2085685 x0 x3 0 0 (rd x1 x3) x1 x2 (ln x0) x4 else none) else none) else k255 x4)
noncomputable def nat_Mul.b260711 (c52 : List Int → Option (Int)) (c81 : List Int → Option (Bool)) (c82 : Int → Int → Option (Int × Int)) (c83 : Int → Int → Int → Option (Int × Int)) (c84 : List Int → Option (List Int × Int)) (k2037 : List Int → List Int → Int → Int → List Int → Option (List Int × Int)) (x0 : List Int) (x1 : Int) (x2 : Int) (x3 : List Int) (x4 : Int) (x5 : List Int) : Option (List Int × Int) := (if 0 ≤ (wrap64 (x1 + (ln x0))) then (if (wrap64 (x1 + (ln x0))) < (ln x5) then k2037 x0 x3 x4 (wrap64 (x1 + 1)) (x5.set (wrap64 (x1 + (ln x0)) : Int).toNat x2) else none) else none)
noncomputable def nat_Mul.b2085685 (c52 : List Int → Option (Int)) (c81 : List Int → Option (Bool)) (c82 : Int → Int → Option (Int × Int)) (c83 : Int → Int → Int → Option (Int × Int)) (c84 : List Int → Option (List Int × Int)) (k260711 : List Int → Int → Int → List Int → Int → List Int → Option (List Int × Int)) (k2085685 : List Int → Int → Int → Int → Int → List Int → Int → Int → List Int → Option (List Int × Int)) (x0 : List Int) (x1 : Int) (x2 : Int) (x3 : Int) (x4 : Int) (x5 : List Int) (x6 : Int) (x7 : Int) (x8 : List Int) : Option (List Int × Int) := (if x3 < x7 then (if 0 ≤ x3 then (if x3 < (ln x0) then ((c82 x4 (rd x0 x3)).bind fun t1 => (if 0 ≤ (wrap64 (x1 + x3)) then (if (wrap64 (x1 + x3)) < (ln x8) then ((c83 t1.2 (rd x8 (wrap64 (x1 + x3))) 0).bind fun t2 => ((c83 t2.1 x2 0).bind fun t3 => (if 0 ≤ (wrap64 (x1 + x3)) then (if (wrap64 (x1 + x3)) < (ln x8) then k2085685 x0 x1 (IntKind.u64.wrap ((IntKind.u64.wrap (t1.1 + t2.2)) + t3.2)) (wrap64 (x3 + 1)) x4 x5 x6 x7 (x8.set (wrap64 (x1 + x3) : Int).toNat t3.1) else none) else none))) else none) else none)) else none) else none) else k260711 x0 x1 x2 x5 x6 x8)
noncomputable def nat_Mul.l255 (n : Nat) (x0 : List Int) : Option (List Int × Int) := nat_Mul.b255 (nat_size.f n) (nat_big.f n) bits_Mul64.f bits_Add64.f (nat_cut.f n) x0
noncomputable def nat_Mul.l260711 (n : Nat) (k2037 : List Int → List Int → Int → Int → List Int → Option (List Int × Int)) (x0 : List Int) (x1 : Int) (x2 : Int) (x3 : List Int) (x4 : Int) (x5 : List Int) : Option (List Int × Int) := nat_Mul.b260711 (nat_size.f n) (nat_big.f n) bits_Mul64.f bits_Add64.f (nat_cut.f n) k2037 x0 x1 x2 x3 x4 x5
noncomputable def nat_Mul.l2085685 (n : Nat) (k2037 : List Int → List Int → Int → Int → List Int → Option (List Int × Int)) : Nat → List Int → Int → Int → Int → Int → List Int → Int → Int → List Int → Option (List Int × Int)
  | 0, _, _, _, _, _, _, _, _, _ => none
  | m + 1, x0, x1, x2, x3, x4, x5, x6, x7, x8 => nat_Mul.b2085685 (nat_size.f n) (nat_big.f n) bits_Mul64.f bits_Add64.f (nat_cut.f n) (nat_Mul.l260711 n k2037) (nat_Mul.l2085685 n k2037 m) x0 x1 x2 x3 x4 x5 x6 x7 x8
noncomputable def nat_Mul.l2037 (n : Nat) : Nat → List Int → List Int → Int → Int → List Int → Option (List Int × Int)
  | 0, _, _, _, _, _ => none
  | m + 1, x0, x1, x2, x3, x4 => nat_Mul.b2037 (nat_size.f n) (nat_big.f n) bits_Mul64.f bits_Add64.f (nat_cut.f n) (nat_Mul.l255 n) (nat_Mul.l2085685 n (nat_Mul.l2037 n m) n) x0 x1 x2 x3 x4
noncomputable def nat_Mul.f (n : Nat) (l0 : List Int) (l1 : List Int) : Option (List Int × Int) := nat_Mul.b0 (nat_size.f n) (nat_big.f n) bits_Mul64.f bits_Add64.f (nat_cut.f n) (nat_Mul.l2037 n n) l0 l1
noncomputable def nat_Mul.sg : Sig (List Int × Int) := s2 (sRow .u64) (s1 (sInt .i64))
noncomputable def nat_Mul.code : Code := (Tryd.f49.body).getD .skip
noncomputable def nat_Mul.cfg (c52 : List Int → Option (Int)) (c81 : List Int → Option (Bool)) (c82 : Int → Int → Option (Int × Int)) (c83 : Int → Int → Int → Option (Int × Int)) (c84 : List Int → Option (List Int × Int)) : Cfg (List Int × Int) := ⟨tys, orCall 52 (nat_size.call c52) (orCall 81 (nat_big.call c81) (orCall 82 (bits_Mul64.call c82) (orCall 83 (bits_Add64.call c83) (orCall 84 (nat_cut.call c84) (noCall)))))⟩
noncomputable def nat_Mul.cuts : List (Nat × List (Nat × Want)) := [(255, [(6, .keep)]), (2037, [(1, .keep), (6, .keep), (50, .keep), (51, .keep), (52, .keep)]), (260711, [(1, .keep), (6, .keep), (7, .keep), (9, .keep), (50, .keep), (51, .keep), (52, .keep)]), (2085685, [(1, .keep), (6, .keep), (7, .keep), (8, .keep), (9, .keep), (50, .keep), (51, .keep), (52, .keep), (57, .keep), (58, .keep), (59, .keep)])]
noncomputable def nat_Mul.s255 (x0 : List Int) : ASt := ⟨[(6, .own 0)], [.ints 22 .u64 x0]⟩
noncomputable def nat_Mul.s2037 (x0 : List Int) (x1 : List Int) (x2 : Int) (x3 : Int) (x4 : List Int) : ASt := ⟨[(1, .ro .u64 x0), (6, .own 0), (50, .ro .u64 x1), (51, .int .i64 x2), (52, .int .i64 x3)], [.ints 22 .u64 x4]⟩
noncomputable def nat_Mul.s260711 (x0 : List Int) (x1 : Int) (x2 : Int) (x3 : List Int) (x4 : Int) (x5 : List Int) : ASt := ⟨[(1, .ro .u64 x0), (6, .own 0), (7, .int .i64 x1), (9, .int .u64 x2), (50, .ro .u64 x3), (51, .int .i64 x4), (52, .int .i64 x1)], [.ints 22 .u64 x5]⟩
noncomputable def nat_Mul.s2085685 (x0 : List Int) (x1 : Int) (x2 : Int) (x3 : Int) (x4 : Int) (x5 : List Int) (x6 : Int) (x7 : Int) (x8 : List Int) : ASt := ⟨[(1, .ro .u64 x0), (6, .own 0), (7, .int .i64 x1), (8, .int .u64 x4), (9, .int .u64 x2), (50, .ro .u64 x5), (51, .int .i64 x6), (52, .int .i64 x1), (57, .ro .u64 x0), (58, .int .i64 x7), (59, .int .i64 x3)], [.ints 22 .u64 x8]⟩
noncomputable def nat_Mul.A (c52 : List Int → Option (Int)) (c81 : List Int → Option (Bool)) (c82 : Int → Int → Option (Int × Int)) (c83 : Int → Int → Int → Option (Int × Int)) (c84 : List Int → Option (List Int × Int)) (n : Nat) (J : Nat → (ASt → Option (List Int × Int)) → ASt → Option (List Int × Int)) (q : Nat) (ms : List Nat) : ASt → Option (List Int × Int) := acont (nat_Mul.cfg c52 c81 c82 c83 c84) J nat_Mul.cuts n q nat_Mul.code 1 ms (aend (nat_Mul.cfg c52 c81 c82 c83 c84) Tryd.f49.results.toList [false, false] nat_Mul.sg.out)
theorem nat_Mul.e0 (c52 : List Int → Option (Int)) (c81 : List Int → Option (Bool)) (c82 : Int → Int → Option (Int × Int)) (c83 : Int → Int → Int → Option (Int × Int)) (c84 : List Int → Option (List Int × Int)) (n : Nat) (J : Nat → (ASt → Option (List Int × Int)) → ASt → Option (List Int × Int)) (l0 : List Int) (l1 : List Int) : afun (nat_Mul.cfg c52 c81 c82 c83 c84) J nat_Mul.cuts n nat_Mul.code Tryd.f49.results.toList [false, false] [.ro .u64 l0, .ro .u64 l1] nat_Mul.sg.out = nat_Mul.b0 c52 c81 c82 c83 c84 (fun y0 y1 y2 y3 y4 => J 2037 (nat_Mul.A c52 c81 c82 c83 c84 n J 2037 [n]) (nat_Mul.s2037 y0 y1 y2 y3 y4)) l0 l1 := by kernel_rfl
theorem nat_Mul.e255 (c52 : List Int → Option (Int)) (c81 : List Int → Option (Bool)) (c82 : Int → Int → Option (Int × Int)) (c83 : Int → Int → Int → Option (Int × Int)) (c84 : List Int → Option (List Int × Int)) (n : Nat) (J : Nat → (ASt → Option (List Int × Int)) → ASt → Option (List Int × Int)) (x0 : List Int) : nat_Mul.A c52 c81 c82 c83 c84 n J 255 [] (nat_Mul.s255 x0) = nat_Mul.b255 c52 c81 c82 c83 c84 x0 := by kernel_rfl
theorem nat_Mul.e2037 (c52 : List Int → Option (Int)) (c81 : List Int → Option (Bool)) (c82 : Int → Int → Option (Int × Int)) (c83 : Int → Int → Int → Option (Int × Int)) (c84 : List Int → Option (List Int × Int)) (n : Nat) (J : Nat → (ASt → Option (List Int × Int)) → ASt → Option (List Int × Int)) (m : Nat) (x0 : List Int) (x1 : List Int) (x2 : Int) (x3 : Int) (x4 : List Int) : nat_Mul.A c52 c81 c82 c83 c84 n J 2037 [m + 1] (nat_Mul.s2037 x0 x1 x2 x3 x4) = nat_Mul.b2037 c52 c81 c82 c83 c84 (fun y0 => J 255 (nat_Mul.A c52 c81 c82 c83 c84 n J 255 []) (nat_Mul.s255 y0)) (fun y0 y1 y2 y3 y4 y5 y6 y7 y8 => J 2085685 (nat_Mul.A c52 c81 c82 c83 c84 n J 2085685 [m, n]) (nat_Mul.s2085685 y0 y1 y2 y3 y4 y5 y6 y7 y8)) x0 x1 x2 x3 x4 := by kernel_rfl
theorem nat_Mul.e260711 (c52 : List Int → Option (Int)) (c81 : List Int → Option (Bool)) (c82 : Int → Int → Option (Int × Int)) (c83 : Int → Int → Int → Option (Int × Int)) (c84 : List Int → Option (List Int × Int)) (n : Nat) (J : Nat → (ASt → Option (List Int × Int)) → ASt → Option (List Int × Int)) (m2037 : Nat) (x0 : List Int) (x1 : Int) (x2 : Int) (x3 : List Int) (x4 : Int) (x5 : List Int) : nat_Mul.A c52 c81 c82 c83 c84 n J 260711 [m2037] (nat_Mul.s260711 x0 x1 x2 x3 x4 x5) = nat_Mul.b260711 c52 c81 c82 c83 c84 (fun y0 y1 y2 y3 y4 => J 2037 (nat_Mul.A c52 c81 c82 c83 c84 n J 2037 [m2037]) (nat_Mul.s2037 y0 y1 y2 y3 y4)) x0 x1 x2 x3 x4 x5 := by kernel_rfl
theorem nat_Mul.e2085685 (c52 : List Int → Option (Int)) (c81 : List Int → Option (Bool)) (c82 : Int → Int → Option (Int × Int)) (c83 : Int → Int → Int → Option (Int × Int)) (c84 : List Int → Option (List Int × Int)) (n : Nat) (J : Nat → (ASt → Option (List Int × Int)) → ASt → Option (List Int × Int)) (m2037 : Nat) (m : Nat) (x0 : List Int) (x1 : Int) (x2 : Int) (x3 : Int) (x4 : Int) (x5 : List Int) (x6 : Int) (x7 : Int) (x8 : List Int) : nat_Mul.A c52 c81 c82 c83 c84 n J 2085685 [m2037, m + 1] (nat_Mul.s2085685 x0 x1 x2 x3 x4 x5 x6 x7 x8) = nat_Mul.b2085685 c52 c81 c82 c83 c84 (fun y0 y1 y2 y3 y4 y5 => J 260711 (nat_Mul.A c52 c81 c82 c83 c84 n J 260711 [m2037]) (nat_Mul.s260711 y0 y1 y2 y3 y4 y5)) (fun y0 y1 y2 y3 y4 y5 y6 y7 y8 => J 2085685 (nat_Mul.A c52 c81 c82 c83 c84 n J 2085685 [m2037, m]) (nat_Mul.s2085685 y0 y1 y2 y3 y4 y5 y6 y7 y8)) x0 x1 x2 x3 x4 x5 x6 x7 x8 := by kernel_rfl
theorem nat_Mul.q255 (n : Nat) (x0 : List Int) : nat_Mul.A (nat_size.f n) (nat_big.f n) bits_Mul64.f bits_Add64.f (nat_cut.f n) n idJ 255 [] (nat_Mul.s255 x0) = nat_Mul.l255 n x0 := (nat_Mul.e255 (nat_size.f n) (nat_big.f n) bits_Mul64.f bits_Add64.f (nat_cut.f n) n idJ x0).trans (rfl)
theorem nat_Mul.q260711 (n : Nat) (m2037 : Nat) (x0 : List Int) (x1 : Int) (x2 : Int) (x3 : List Int) (x4 : Int) (x5 : List Int) : nat_Mul.A (nat_size.f n) (nat_big.f n) bits_Mul64.f bits_Add64.f (nat_cut.f n) n idJ 260711 [m2037] (nat_Mul.s260711 x0 x1 x2 x3 x4 x5) = nat_Mul.l260711 n (fun y0 y1 y2 y3 y4 => nat_Mul.A (nat_size.f n) (nat_big.f n) bits_Mul64.f bits_Add64.f (nat_cut.f n) n idJ 2037 [m2037] (nat_Mul.s2037 y0 y1 y2 y3 y4)) x0 x1 x2 x3 x4 x5 := (nat_Mul.e260711 (nat_size.f n) (nat_big.f n) bits_Mul64.f bits_Add64.f (nat_cut.f n) n idJ m2037 x0 x1 x2 x3 x4 x5).trans (rfl)
theorem nat_Mul.q2085685 (n : Nat) (m2037 : Nat) (m : Nat) : ∀ (x0 : List Int) (x1 : Int) (x2 : Int) (x3 : Int) (x4 : Int) (x5 : List Int) (x6 : Int) (x7 : Int) (x8 : List Int), nat_Mul.A (nat_size.f n) (nat_big.f n) bits_Mul64.f bits_Add64.f (nat_cut.f n) n idJ 2085685 [m2037, m] (nat_Mul.s2085685 x0 x1 x2 x3 x4 x5 x6 x7 x8) = nat_Mul.l2085685 n (fun y0 y1 y2 y3 y4 => nat_Mul.A (nat_size.f n) (nat_big.f n) bits_Mul64.f bits_Add64.f (nat_cut.f n) n idJ 2037 [m2037] (nat_Mul.s2037 y0 y1 y2 y3 y4)) m x0 x1 x2 x3 x4 x5 x6 x7 x8 := by
  induction m with
  | zero => intros; rfl
  | succ m ih =>
    intro x0 x1 x2 x3 x4 x5 x6 x7 x8
    refine (nat_Mul.e2085685 (nat_size.f n) (nat_big.f n) bits_Mul64.f bits_Add64.f (nat_cut.f n) n idJ m2037 m x0 x1 x2 x3 x4 x5 x6 x7 x8).trans ?_
    exact congrFun (congrFun (congrFun (congrFun (congrFun (congrFun (congrFun (congrFun (congrFun (congr (congrArg (nat_Mul.b2085685 (nat_size.f n) (nat_big.f n) bits_Mul64.f bits_Add64.f (nat_cut.f n)) (funext fun y0 => (funext fun y1 => (funext fun y2 => (funext fun y3 => (funext fun y4 => (funext fun y5 => nat_Mul.q260711 n m2037 y0 y1 y2 y3 y4 y5))))))) (funext fun y0 => (funext fun y1 => (funext fun y2 => (funext fun y3 => (funext fun y4 => (funext fun y5 => (funext fun y6 => (funext fun y7 => (funext fun y8 => ih y0 y1 y2 y3 y4 y5 y6 y7 y8)))))))))) x0) x1) x2) x3) x4) x5) x6) x7) x8
theorem nat_Mul.q2037 (n : Nat) (m : Nat) : ∀ (x0 : List Int) (x1 : List Int) (x2 : Int) (x3 : Int) (x4 : List Int), nat_Mul.A (nat_size.f n) (nat_big.f n) bits_Mul64.f bits_Add64.f (nat_cut.f n) n idJ 2037 [m] (nat_Mul.s2037 x0 x1 x2 x3 x4) = nat_Mul.l2037 n m x0 x1 x2 x3 x4 := by
  induction m with
  | zero => intros; rfl
  | succ m ih =>
    intro x0 x1 x2 x3 x4
    refine (nat_Mul.e2037 (nat_size.f n) (nat_big.f n) bits_Mul64.f bits_Add64.f (nat_cut.f n) n idJ m x0 x1 x2 x3 x4).trans ?_
    exact congrFun (congrFun (congrFun (congrFun (congrFun (congr (congrArg (nat_Mul.b2037 (nat_size.f n) (nat_big.f n) bits_Mul64.f bits_Add64.f (nat_cut.f n)) (funext fun y0 => nat_Mul.q255 n y0)) ((funext fun y0 => (funext fun y1 => (funext fun y2 => (funext fun y3 => (funext fun y4 => (funext fun y5 => (funext fun y6 => (funext fun y7 => (funext fun y8 => nat_Mul.q2085685 n m n y0 y1 y2 y3 y4 y5 y6 y7 y8))))))))).trans (by rw [show (fun y0 y1 y2 y3 y4 => nat_Mul.A (nat_size.f n) (nat_big.f n) bits_Mul64.f bits_Add64.f (nat_cut.f n) n idJ 2037 [m] (nat_Mul.s2037 y0 y1 y2 y3 y4)) = _ from (funext fun y0 => (funext fun y1 => (funext fun y2 => (funext fun y3 => (funext fun y4 => ih y0 y1 y2 y3 y4)))))]))) x0) x1) x2) x3) x4
theorem nat_Mul.eq (n : Nat) (l0 : List Int) (l1 : List Int) : afun (nat_Mul.cfg (nat_size.f n) (nat_big.f n) bits_Mul64.f bits_Add64.f (nat_cut.f n)) idJ nat_Mul.cuts n nat_Mul.code Tryd.f49.results.toList [false, false] [.ro .u64 l0, .ro .u64 l1] nat_Mul.sg.out = nat_Mul.f n l0 l1 := (nat_Mul.e0 (nat_size.f n) (nat_big.f n) bits_Mul64.f bits_Add64.f (nat_cut.f n) n idJ l0 l1).trans (congrFun (congrFun (congrArg (nat_Mul.b0 (nat_size.f n) (nat_big.f n) bits_Mul64.f bits_Add64.f (nat_cut.f n)) (funext fun y0 => (funext fun y1 => (funext fun y2 => (funext fun y3 => (funext fun y4 => nat_Mul.q2037 n n y0 y1 y2 y3 y4)))))) l0) l1)
theorem nat_Mul.ok {n : Nat} {l0 : List Int} {l1 : List Int} {r : List Int × Int} (h : nat_Mul.f n l0 l1 = some r) : CallD Tryd.prog HW 49 [.ro .u64 l0, .ro .u64 l1] (nat_Mul.sg.enc r) :=
  fun_some hwS Tryd.func49 (by kernel_rfl) (body := nat_Mul.code) (by kernel_rfl) tys_ok (c := nat_Mul.cfg (nat_size.f n) (nat_big.f n) bits_Mul64.f bits_Add64.f (nat_cut.f n)) (orCall_ok (nat_size.call_ok (n := n)) (orCall_ok (nat_big.call_ok (n := n)) (orCall_ok (bits_Mul64.call_ok (n := n)) (orCall_ok (bits_Add64.call_ok (n := n)) (orCall_ok (nat_cut.call_ok (n := n)) noCall_ok))))) (by kernel_rfl) (by kernel_rfl) (Nat.le_of_ble_eq_true (by kernel_rfl)) ((nat_Mul.eq n l0 l1).trans h)
noncomputable def nat_Mul.call {α : Type} (g : List Int → List Int → Option (List Int × Int)) (ds : List D) (K : List D → Option α) : Option α := match ds with
  | [.ro .u64 l0, .ro .u64 l1] => (g l0 l1).bind fun r => K (nat_Mul.sg.enc r)
  | _ => none
theorem nat_Mul.call_ok {α : Type} {n : Nat} (ds : List D) (K : List D → Option α) (r : α) (h : nat_Mul.call (nat_Mul.f n) ds K = some r) : ∃ rs, K rs = some r ∧ CallD Tryd.prog HW 49 ds rs := by
  unfold nat_Mul.call at h
  split at h
  · obtain ⟨x, hx, hk⟩ := Option.bind_eq_some_iff.1 h
    exact ⟨_, hk, nat_Mul.ok (n := n) hx⟩
  · cases h
/-! ### ieee_Abs: function 92 -/
noncomputable def ieee_Abs.b0 (a0 : Int) : Option (Int) := some (Go.bits .andNot .u64 a0 9223372036854775808)
noncomputable def ieee_Abs.f (a0 : Int) : Option (Int) := ieee_Abs.b0 a0
noncomputable def ieee_Abs.sg : Sig (Int) := s1 (sInt .u64)
noncomputable def ieee_Abs.code : Code := (Tryd.f92.body).getD .skip
noncomputable def ieee_Abs.cfg : Cfg (Int) := ⟨tys, noCall⟩
noncomputable def ieee_Abs.cuts : List (Nat × List (Nat × Want)) := []
theorem ieee_Abs.e0 (n : Nat) (J : Nat → (ASt → Option (Int)) → ASt → Option (Int)) (a0 : Int) : afun (ieee_Abs.cfg) J ieee_Abs.cuts n ieee_Abs.code Tryd.f92.results.toList [false] [.int .u64 a0] ieee_Abs.sg.out = ieee_Abs.b0 a0 := by kernel_rfl
theorem ieee_Abs.eq (n : Nat) (a0 : Int) : afun (ieee_Abs.cfg) idJ ieee_Abs.cuts n ieee_Abs.code Tryd.f92.results.toList [false] [.int .u64 a0] ieee_Abs.sg.out = ieee_Abs.f a0 := (ieee_Abs.e0 n idJ a0).trans (rfl)
theorem ieee_Abs.ok {n : Nat} {a0 : Int} {r : Int} (h : ieee_Abs.f a0 = some r) : CallD Tryd.prog HW 92 [.int .u64 a0] (ieee_Abs.sg.enc r) :=
  fun_some hwS Tryd.func92 (by kernel_rfl) (body := ieee_Abs.code) (by kernel_rfl) tys_ok (c := ieee_Abs.cfg) noCall_ok (by kernel_rfl) (by kernel_rfl) (Nat.le_of_ble_eq_true (by kernel_rfl)) ((ieee_Abs.eq n a0).trans h)
noncomputable def ieee_Abs.call {α : Type} (g : Int → Option (Int)) (ds : List D) (K : List D → Option α) : Option α := match ds with
  | [.int .u64 a0] => (g a0).bind fun r => K (ieee_Abs.sg.enc r)
  | _ => none
theorem ieee_Abs.call_ok {α : Type} {n : Nat} (ds : List D) (K : List D → Option α) (r : α) (h : ieee_Abs.call ieee_Abs.f ds K = some r) : ∃ rs, K rs = some r ∧ CallD Tryd.prog HW 92 ds rs := by
  unfold ieee_Abs.call at h
  split at h
  · obtain ⟨x, hx, hk⟩ := Option.bind_eq_some_iff.1 h
    exact ⟨_, hk, ieee_Abs.ok (n := n) hx⟩
  · cases h
/-! ### ieee_Class: function 60 -/
noncomputable def ieee_Class.b0 (c92 : Int → Option (Int)) (a0 : Int) : Option (Int) := ((c92 a0).bind fun t1 => (if t1 = 0 then some 0 else (if t1 < 4503599627370496 then some 1 else (if t1 < 9218868437227405312 then some 2 else (if t1 = 9218868437227405312 then some 3 else some 4)))))
noncomputable def ieee_Class.f (a0 : Int) : Option (Int) := ieee_Class.b0 ieee_Abs.f a0
noncomputable def ieee_Class.sg : Sig (Int) := s1 (sInt .i64)
noncomputable def ieee_Class.code : Code := (Tryd.f60.body).getD .skip
noncomputable def ieee_Class.cfg (c92 : Int → Option (Int)) : Cfg (Int) := ⟨tys, orCall 92 (ieee_Abs.call c92) (noCall)⟩
noncomputable def ieee_Class.cuts : List (Nat × List (Nat × Want)) := []
theorem ieee_Class.e0 (c92 : Int → Option (Int)) (n : Nat) (J : Nat → (ASt → Option (Int)) → ASt → Option (Int)) (a0 : Int) : afun (ieee_Class.cfg c92) J ieee_Class.cuts n ieee_Class.code Tryd.f60.results.toList [false] [.int .u64 a0] ieee_Class.sg.out = ieee_Class.b0 c92 a0 := by kernel_rfl
theorem ieee_Class.eq (n : Nat) (a0 : Int) : afun (ieee_Class.cfg ieee_Abs.f) idJ ieee_Class.cuts n ieee_Class.code Tryd.f60.results.toList [false] [.int .u64 a0] ieee_Class.sg.out = ieee_Class.f a0 := (ieee_Class.e0 ieee_Abs.f n idJ a0).trans (rfl)
theorem ieee_Class.ok {n : Nat} {a0 : Int} {r : Int} (h : ieee_Class.f a0 = some r) : CallD Tryd.prog HW 60 [.int .u64 a0] (ieee_Class.sg.enc r) :=
  fun_some hwS Tryd.func60 (by kernel_rfl) (body := ieee_Class.code) (by kernel_rfl) tys_ok (c := ieee_Class.cfg ieee_Abs.f) (orCall_ok (ieee_Abs.call_ok (n := n)) noCall_ok) (by kernel_rfl) (by kernel_rfl) (Nat.le_of_ble_eq_true (by kernel_rfl)) ((ieee_Class.eq n a0).trans h)
noncomputable def ieee_Class.call {α : Type} (g : Int → Option (Int)) (ds : List D) (K : List D → Option α) : Option α := match ds with
  | [.int .u64 a0] => (g a0).bind fun r => K (ieee_Class.sg.enc r)
  | _ => none
theorem ieee_Class.call_ok {α : Type} {n : Nat} (ds : List D) (K : List D → Option α) (r : α) (h : ieee_Class.call ieee_Class.f ds K = some r) : ∃ rs, K rs = some r ∧ CallD Tryd.prog HW 60 ds rs := by
  unfold ieee_Class.call at h
  split at h
  · obtain ⟨x, hx, hk⟩ := Option.bind_eq_some_iff.1 h
    exact ⟨_, hk, ieee_Class.ok (n := n) hx⟩
  · cases h
/-! ### ieee_Decode: function 29 -/
noncomputable def ieee_Decode.b0 (c60 : Int → Option (Int)) (a0 : Int) : Option (Bool × Int × Int × Int) := ((c60 a0).bind fun t1 => (if t1 = 1 then some (decide (¬ (Go.bits .and .u64 a0 9223372036854775808) = 0), t1, Go.bits .and .u64 a0 4503599627370495, (-1074)) else (if t1 = 2 then some (decide (¬ (Go.bits .and .u64 a0 9223372036854775808) = 0), t1, Go.bits .or .u64 4503599627370496 (Go.bits .and .u64 a0 4503599627370495), wrap64 ((wrap64 (Go.bits .and .u64 (a0 / 4503599627370496) 2047)) - 1075)) else (if t1 = 4 then some (decide (¬ (Go.bits .and .u64 a0 9223372036854775808) = 0), t1, Go.bits .and .u64 a0 4503599627370495, 0) else some (decide (¬ (Go.bits .and .u64 a0 9223372036854775808) = 0), t1, 0, 0)))))
noncomputable def ieee_Decode.f (a0 : Int) : Option (Bool × Int × Int × Int) := ieee_Decode.b0 ieee_Class.f a0
noncomputable def ieee_Decode.sg : Sig (Bool × Int × Int × Int) := s1 (sAgg (s2 (sBool) (s2 (sInt .i64) (s2 (sInt .u64) (s1 (sInt .i64))))))
noncomputable def ieee_Decode.code : Code := (Tryd.f29.body).getD .skip
noncomputable def ieee_Decode.cfg (c60 : Int → Option (Int)) : Cfg (Bool × Int × Int × Int) := ⟨tys, orCall 60 (ieee_Class.call c60) (noCall)⟩
noncomputable def ieee_Decode.cuts : List (Nat × List (Nat × Want)) := []
theorem ieee_Decode.e0 (c60 : Int → Option (Int)) (n : Nat) (J : Nat → (ASt → Option (Bool × Int × Int × Int)) → ASt → Option (Bool × Int × Int × Int)) (a0 : Int) : afun (ieee_Decode.cfg c60) J ieee_Decode.cuts n ieee_Decode.code Tryd.f29.results.toList [false] [.int .u64 a0] ieee_Decode.sg.out = ieee_Decode.b0 c60 a0 := by kernel_rfl
theorem ieee_Decode.eq (n : Nat) (a0 : Int) : afun (ieee_Decode.cfg ieee_Class.f) idJ ieee_Decode.cuts n ieee_Decode.code Tryd.f29.results.toList [false] [.int .u64 a0] ieee_Decode.sg.out = ieee_Decode.f a0 := (ieee_Decode.e0 ieee_Class.f n idJ a0).trans (rfl)
theorem ieee_Decode.ok {n : Nat} {a0 : Int} {r : Bool × Int × Int × Int} (h : ieee_Decode.f a0 = some r) : CallD Tryd.prog HW 29 [.int .u64 a0] (ieee_Decode.sg.enc r) :=
  fun_some hwS Tryd.func29 (by kernel_rfl) (body := ieee_Decode.code) (by kernel_rfl) tys_ok (c := ieee_Decode.cfg ieee_Class.f) (orCall_ok (ieee_Class.call_ok (n := n)) noCall_ok) (by kernel_rfl) (by kernel_rfl) (Nat.le_of_ble_eq_true (by kernel_rfl)) ((ieee_Decode.eq n a0).trans h)
noncomputable def ieee_Decode.call {α : Type} (g : Int → Option (Bool × Int × Int × Int)) (ds : List D) (K : List D → Option α) : Option α := match ds with
  | [.int .u64 a0] => (g a0).bind fun r => K (ieee_Decode.sg.enc r)
  | _ => none
theorem ieee_Decode.call_ok {α : Type} {n : Nat} (ds : List D) (K : List D → Option α) (r : α) (h : ieee_Decode.call ieee_Decode.f ds K = some r) : ∃ rs, K rs = some r ∧ CallD Tryd.prog HW 29 ds rs := by
  unfold ieee_Decode.call at h
  split at h
  · obtain ⟨x, hx, hk⟩ := Option.bind_eq_some_iff.1 h
    exact ⟨_, hk, ieee_Decode.ok (n := n) hx⟩
  · cases h
/-! ### nat_Cmp: function 18 -/
noncomputable def nat_Cmp.b0 (c52 : List Int → Option (Int)) (k245 : List Int → List Int → Int → Option (Int)) (l0 : List Int) (l1 : List Int) : Option (Int) := ((c52 l0).bind fun t1 => ((c52 l1).bind fun t2 => (if ¬ t1 = t2 then (if t1 < t2 then some (-1) else some 1) else k245 l0 l1 (wrap64 (t1 - 1)))))
noncomputable def nat_Cmp.b245 (c52 : List Int → Option (Int)) (k245 : List Int → List Int → Int → Option (Int)) (x0 : List Int) (x1 : List Int) (x2 : Int) : Option (Int) := (if x2 ≥ 0 then (if 0 ≤ x2 then (if x2 < (ln x0) then (if 0 ≤ x2 then (if x2 < (ln x1) then (if ¬ (rd x0 x2) = (rd x1 x2) then (if 0 ≤ x2 then (if x2 < (ln x0) then (if 0 ≤ x2 then (if x2 < (ln x1) then (if (rd x0 x2) < (rd x1 x2) then some (-1) else some 1) else none) else none) else none) else none) else k245 x0 x1 (wrap64 (x2 - 1))) else none) else none) else none) else none) else some 0)
noncomputable def nat_Cmp.l245 (n : Nat) : Nat → List Int → List Int → Int → Option (Int)
  | 0, _, _, _ => none
  | m + 1, x0, x1, x2 => nat_Cmp.b245 (nat_size.f n) (nat_Cmp.l245 n m) x0 x1 x2
noncomputable def nat_Cmp.f (n : Nat) (l0 : List Int) (l1 : List Int) : Option (Int) := nat_Cmp.b0 (nat_size.f n) (nat_Cmp.l245 n n) l0 l1
noncomputable def nat_Cmp.sg : Sig (Int) := s1 (sInt .i64)
noncomputable def nat_Cmp.code : Code := (Tryd.f18.body).getD .skip
noncomputable def nat_Cmp.cfg (c52 : List Int → Option (Int)) : Cfg (Int) := ⟨tys, orCall 52 (nat_size.call c52) (noCall)⟩
noncomputable def nat_Cmp.cuts : List (Nat × List (Nat × Want)) := [(245, [(0, .keep), (1, .keep), (7, .keep)])]
noncomputable def nat_Cmp.s245 (x0 : List Int) (x1 : List Int) (x2 : Int) : ASt := ⟨[(0, .ro .u64 x0), (1, .ro .u64 x1), (7, .int .i64 x2)], []⟩
noncomputable def nat_Cmp.A (c52 : List Int → Option (Int)) (n : Nat) (J : Nat → (ASt → Option (Int)) → ASt → Option (Int)) (q : Nat) (ms : List Nat) : ASt → Option (Int) := acont (nat_Cmp.cfg c52) J nat_Cmp.cuts n q nat_Cmp.code 1 ms (aend (nat_Cmp.cfg c52) Tryd.f18.results.toList [false] nat_Cmp.sg.out)
theorem nat_Cmp.e0 (c52 : List Int → Option (Int)) (n : Nat) (J : Nat → (ASt → Option (Int)) → ASt → Option (Int)) (l0 : List Int) (l1 : List Int) : afun (nat_Cmp.cfg c52) J nat_Cmp.cuts n nat_Cmp.code Tryd.f18.results.toList [false] [.ro .u64 l0, .ro .u64 l1] nat_Cmp.sg.out = nat_Cmp.b0 c52 (fun y0 y1 y2 => J 245 (nat_Cmp.A c52 n J 245 [n]) (nat_Cmp.s245 y0 y1 y2)) l0 l1 := by kernel_rfl
theorem nat_Cmp.e245 (c52 : List Int → Option (Int)) (n : Nat) (J : Nat → (ASt → Option (Int)) → ASt → Option (Int)) (m : Nat) (x0 : List Int) (x1 : List Int) (x2 : Int) : nat_Cmp.A c52 n J 245 [m + 1] (nat_Cmp.s245 x0 x1 x2) = nat_Cmp.b245 c52 (fun y0 y1 y2 => J 245 (nat_Cmp.A c52 n J 245 [m]) (nat_Cmp.s245 y0 y1 y2)) x0 x1 x2 := by kernel_rfl
theorem nat_Cmp.q245 (n : Nat) (m : Nat) : ∀ (x0 : List Int) (x1 : List Int) (x2 : Int), nat_Cmp.A (nat_size.f n) n idJ 245 [m] (nat_Cmp.s245 x0 x1 x2) = nat_Cmp.l245 n m x0 x1 x2 := by
  induction m with
  | zero => intros; rfl
  | succ m ih =>
    intro x0 x1 x2
    refine (nat_Cmp.e245 (nat_size.f n) n idJ m x0 x1 x2).trans ?_
    exact congrFun (congrFun (congrFun (congrArg (nat_Cmp.b245 (nat_size.f n)) (funext fun y0 => (funext fun y1 => (funext fun y2 => ih y0 y1 y2)))) x0) x1) x2
theorem nat_Cmp.eq (n : Nat) (l0 : List Int) (l1 : List Int) : afun (nat_Cmp.cfg (nat_size.f n)) idJ nat_Cmp.cuts n nat_Cmp.code Tryd.f18.results.toList [false] [.ro .u64 l0, .ro .u64 l1] nat_Cmp.sg.out = nat_Cmp.f n l0 l1 := (nat_Cmp.e0 (nat_size.f n) n idJ l0 l1).trans (congrFun (congrFun (congrArg (nat_Cmp.b0 (nat_size.f n)) (funext fun y0 => (funext fun y1 => (funext fun y2 => nat_Cmp.q245 n n y0 y1 y2)))) l0) l1)
theorem nat_Cmp.ok {n : Nat} {l0 : List Int} {l1 : List Int} {r : Int} (h : nat_Cmp.f n l0 l1 = some r) : CallD Tryd.prog HW 18 [.ro .u64 l0, .ro .u64 l1] (nat_Cmp.sg.enc r) :=
  fun_some hwS Tryd.func18 (by kernel_rfl) (body := nat_Cmp.code) (by kernel_rfl) tys_ok (c := nat_Cmp.cfg (nat_size.f n)) (orCall_ok (nat_size.call_ok (n := n)) noCall_ok) (by kernel_rfl) (by kernel_rfl) (Nat.le_of_ble_eq_true (by kernel_rfl)) ((nat_Cmp.eq n l0 l1).trans h)
noncomputable def nat_Cmp.call {α : Type} (g : List Int → List Int → Option (Int)) (ds : List D) (K : List D → Option α) : Option α := match ds with
  | [.ro .u64 l0, .ro .u64 l1] => (g l0 l1).bind fun r => K (nat_Cmp.sg.enc r)
  | _ => none
theorem nat_Cmp.call_ok {α : Type} {n : Nat} (ds : List D) (K : List D → Option α) (r : α) (h : nat_Cmp.call (nat_Cmp.f n) ds K = some r) : ∃ rs, K rs = some r ∧ CallD Tryd.prog HW 18 ds rs := by
  unfold nat_Cmp.call at h
  split at h
  · obtain ⟨x, hx, hk⟩ := Option.bind_eq_some_iff.1 h
    exact ⟨_, hk, nat_Cmp.ok (n := n) hx⟩
  · cases h
/-! ### ieee_Rank: function 62 -/
noncomputable def ieee_Rank.b0 (c92 : Int → Option (Int)) (a0 : Int) : Option (Int × Bool) := ((c92 a0).bind fun t1 => (if (wrap64 t1) > 9218868437227405312 then some (0, false) else (if ¬ (Go.bits .and .u64 a0 9223372036854775808) = 0 then some (wrap64 (-(wrap64 t1)), true) else some (wrap64 t1, true))))
noncomputable def ieee_Rank.f (a0 : Int) : Option (Int × Bool) := ieee_Rank.b0 ieee_Abs.f a0
noncomputable def ieee_Rank.sg : Sig (Int × Bool) := s2 (sInt .i64) (s1 (sBool))
noncomputable def ieee_Rank.code : Code := (Tryd.f62.body).getD .skip
noncomputable def ieee_Rank.cfg (c92 : Int → Option (Int)) : Cfg (Int × Bool) := ⟨tys, orCall 92 (ieee_Abs.call c92) (noCall)⟩
noncomputable def ieee_Rank.cuts : List (Nat × List (Nat × Want)) := []
theorem ieee_Rank.e0 (c92 : Int → Option (Int)) (n : Nat) (J : Nat → (ASt → Option (Int × Bool)) → ASt → Option (Int × Bool)) (a0 : Int) : afun (ieee_Rank.cfg c92) J ieee_Rank.cuts n ieee_Rank.code Tryd.f62.results.toList [false, false] [.int .u64 a0] ieee_Rank.sg.out = ieee_Rank.b0 c92 a0 := by kernel_rfl
theorem ieee_Rank.eq (n : Nat) (a0 : Int) : afun (ieee_Rank.cfg ieee_Abs.f) idJ ieee_Rank.cuts n ieee_Rank.code Tryd.f62.results.toList [false, false] [.int .u64 a0] ieee_Rank.sg.out = ieee_Rank.f a0 := (ieee_Rank.e0 ieee_Abs.f n idJ a0).trans (rfl)
theorem ieee_Rank.ok {n : Nat} {a0 : Int} {r : Int × Bool} (h : ieee_Rank.f a0 = some r) : CallD Tryd.prog HW 62 [.int .u64 a0] (ieee_Rank.sg.enc r) :=
  fun_some hwS Tryd.func62 (by kernel_rfl) (body := ieee_Rank.code) (by kernel_rfl) tys_ok (c := ieee_Rank.cfg ieee_Abs.f) (orCall_ok (ieee_Abs.call_ok (n := n)) noCall_ok) (by kernel_rfl) (by kernel_rfl) (Nat.le_of_ble_eq_true (by kernel_rfl)) ((ieee_Rank.eq n a0).trans h)
noncomputable def ieee_Rank.call {α : Type} (g : Int → Option (Int × Bool)) (ds : List D) (K : List D → Option α) : Option α := match ds with
  | [.int .u64 a0] => (g a0).bind fun r => K (ieee_Rank.sg.enc r)
  | _ => none
theorem ieee_Rank.call_ok {α : Type} {n : Nat} (ds : List D) (K : List D → Option α) (r : α) (h : ieee_Rank.call ieee_Rank.f ds K = some r) : ∃ rs, K rs = some r ∧ CallD Tryd.prog HW 62 ds rs := by
  unfold ieee_Rank.call at h
  split at h
  · obtain ⟨x, hx, hk⟩ := Option.bind_eq_some_iff.1 h
    exact ⟨_, hk, ieee_Rank.ok (n := n) hx⟩
  · cases h
/-! ### ieee_Neg: function 30 -/
noncomputable def ieee_Neg.b0 (a0 : Int) : Option (Int) := some (Go.bits .xor .u64 a0 9223372036854775808)
noncomputable def ieee_Neg.f (a0 : Int) : Option (Int) := ieee_Neg.b0 a0
noncomputable def ieee_Neg.sg : Sig (Int) := s1 (sInt .u64)
noncomputable def ieee_Neg.code : Code := (Tryd.f30.body).getD .skip
noncomputable def ieee_Neg.cfg : Cfg (Int) := ⟨tys, noCall⟩
noncomputable def ieee_Neg.cuts : List (Nat × List (Nat × Want)) := []
theorem ieee_Neg.e0 (n : Nat) (J : Nat → (ASt → Option (Int)) → ASt → Option (Int)) (a0 : Int) : afun (ieee_Neg.cfg) J ieee_Neg.cuts n ieee_Neg.code Tryd.f30.results.toList [false] [.int .u64 a0] ieee_Neg.sg.out = ieee_Neg.b0 a0 := by kernel_rfl
theorem ieee_Neg.eq (n : Nat) (a0 : Int) : afun (ieee_Neg.cfg) idJ ieee_Neg.cuts n ieee_Neg.code Tryd.f30.results.toList [false] [.int .u64 a0] ieee_Neg.sg.out = ieee_Neg.f a0 := (ieee_Neg.e0 n idJ a0).trans (rfl)
theorem ieee_Neg.ok {n : Nat} {a0 : Int} {r : Int} (h : ieee_Neg.f a0 = some r) : CallD Tryd.prog HW 30 [.int .u64 a0] (ieee_Neg.sg.enc r) :=
  fun_some hwS Tryd.func30 (by kernel_rfl) (body := ieee_Neg.code) (by kernel_rfl) tys_ok (c := ieee_Neg.cfg) noCall_ok (by kernel_rfl) (by kernel_rfl) (Nat.le_of_ble_eq_true (by kernel_rfl)) ((ieee_Neg.eq n a0).trans h)
noncomputable def ieee_Neg.call {α : Type} (g : Int → Option (Int)) (ds : List D) (K : List D → Option α) : Option α := match ds with
  | [.int .u64 a0] => (g a0).bind fun r => K (ieee_Neg.sg.enc r)
  | _ => none
theorem ieee_Neg.call_ok {α : Type} {n : Nat} (ds : List D) (K : List D → Option α) (r : α) (h : ieee_Neg.call ieee_Neg.f ds K = some r) : ∃ rs, K rs = some r ∧ CallD Tryd.prog HW 30 ds rs := by
  unfold ieee_Neg.call at h
  split at h
  · obtain ⟨x, hx, hk⟩ := Option.bind_eq_some_iff.1 h
    exact ⟨_, hk, ieee_Neg.ok (n := n) hx⟩
  · cases h
/-! ### ieee_AtRank: function 63 -/
noncomputable def ieee_AtRank.b0 (c30 : Int → Option (Int)) (a0 : Int) : Option (Int × Bool) := (if a0 > 9218868437227405312 then some (0, false) else (if a0 < (-9218868437227405312) then some (0, false) else (if a0 < 0 then ((c30 (IntKind.u64.wrap (wrap64 (-a0)))).bind fun t1 => some (t1, true)) else some (IntKind.u64.wrap a0, true))))
noncomputable def ieee_AtRank.f (a0 : Int) : Option (Int × Bool) := ieee_AtRank.b0 ieee_Neg.f a0
noncomputable def ieee_AtRank.sg : Sig (Int × Bool) := s2 (sInt .u64) (s1 (sBool))
noncomputable def ieee_AtRank.code : Code := (Tryd.f63.body).getD .skip
noncomputable def ieee_AtRank.cfg (c30 : Int → Option (Int)) : Cfg (Int × Bool) := ⟨tys, orCall 30 (ieee_Neg.call c30) (noCall)⟩
noncomputable def ieee_AtRank.cuts : List (Nat × List (Nat × Want)) := []
theorem ieee_AtRank.e0 (c30 : Int → Option (Int)) (n : Nat) (J : Nat → (ASt → Option (Int × Bool)) → ASt → Option (Int × Bool)) (a0 : Int) : afun (ieee_AtRank.cfg c30) J ieee_AtRank.cuts n ieee_AtRank.code Tryd.f63.results.toList [false, false] [.int .i64 a0] ieee_AtRank.sg.out = ieee_AtRank.b0 c30 a0 := by kernel_rfl
theorem ieee_AtRank.eq (n : Nat) (a0 : Int) : afun (ieee_AtRank.cfg ieee_Neg.f) idJ ieee_AtRank.cuts n ieee_AtRank.code Tryd.f63.results.toList [false, false] [.int .i64 a0] ieee_AtRank.sg.out = ieee_AtRank.f a0 := (ieee_AtRank.e0 ieee_Neg.f n idJ a0).trans (rfl)
theorem ieee_AtRank.ok {n : Nat} {a0 : Int} {r : Int × Bool} (h : ieee_AtRank.f a0 = some r) : CallD Tryd.prog HW 63 [.int .i64 a0] (ieee_AtRank.sg.enc r) :=
  fun_some hwS Tryd.func63 (by kernel_rfl) (body := ieee_AtRank.code) (by kernel_rfl) tys_ok (c := ieee_AtRank.cfg ieee_Neg.f) (orCall_ok (ieee_Neg.call_ok (n := n)) noCall_ok) (by kernel_rfl) (by kernel_rfl) (Nat.le_of_ble_eq_true (by kernel_rfl)) ((ieee_AtRank.eq n a0).trans h)
noncomputable def ieee_AtRank.call {α : Type} (g : Int → Option (Int × Bool)) (ds : List D) (K : List D → Option α) : Option α := match ds with
  | [.int .i64 a0] => (g a0).bind fun r => K (ieee_AtRank.sg.enc r)
  | _ => none
theorem ieee_AtRank.call_ok {α : Type} {n : Nat} (ds : List D) (K : List D → Option α) (r : α) (h : ieee_AtRank.call ieee_AtRank.f ds K = some r) : ∃ rs, K rs = some r ∧ CallD Tryd.prog HW 63 ds rs := by
  unfold ieee_AtRank.call at h
  split at h
  · obtain ⟨x, hx, hk⟩ := Option.bind_eq_some_iff.1 h
    exact ⟨_, hk, ieee_AtRank.ok (n := n) hx⟩
  · cases h
/-! ### ieee_Up: function 34 -/
noncomputable def ieee_Up.b0 (c62 : Int → Option (Int × Bool)) (c63 : Int → Option (Int × Bool)) (a0 : Int) : Option (Int) := ((c62 a0).bind fun t1 => (if (!t1.2) = true then some 9221120237041090560 else (if t1.1 = 9218868437227405312 then some a0 else (if t1.1 = (-1) then some 9223372036854775808 else ((c63 (wrap64 (t1.1 + 1))).bind fun t2 => some t2.1)))))
noncomputable def ieee_Up.f (a0 : Int) : Option (Int) := ieee_Up.b0 ieee_Rank.f ieee_AtRank.f a0
noncomputable def ieee_Up.sg : Sig (Int) := s1 (sInt .u64)
noncomputable def ieee_Up.code : Code := (Tryd.f34.body).getD .skip
noncomputable def ieee_Up.cfg (c62 : Int → Option (Int × Bool)) (c63 : Int → Option (Int × Bool)) : Cfg (Int) := ⟨tys, orCall 62 (ieee_Rank.call c62) (orCall 63 (ieee_AtRank.call c63) (noCall))⟩
noncomputable def ieee_Up.cuts : List (Nat × List (Nat × Want)) := []
theorem ieee_Up.e0 (c62 : Int → Option (Int × Bool)) (c63 : Int → Option (Int × Bool)) (n : Nat) (J : Nat → (ASt → Option (Int)) → ASt → Option (Int)) (a0 : Int) : afun (ieee_Up.cfg c62 c63) J ieee_Up.cuts n ieee_Up.code Tryd.f34.results.toList [false] [.int .u64 a0] ieee_Up.sg.out = ieee_Up.b0 c62 c63 a0 := by kernel_rfl
theorem ieee_Up.eq (n : Nat) (a0 : Int) : afun (ieee_Up.cfg ieee_Rank.f ieee_AtRank.f) idJ ieee_Up.cuts n ieee_Up.code Tryd.f34.results.toList [false] [.int .u64 a0] ieee_Up.sg.out = ieee_Up.f a0 := (ieee_Up.e0 ieee_Rank.f ieee_AtRank.f n idJ a0).trans (rfl)
theorem ieee_Up.ok {n : Nat} {a0 : Int} {r : Int} (h : ieee_Up.f a0 = some r) : CallD Tryd.prog HW 34 [.int .u64 a0] (ieee_Up.sg.enc r) :=
  fun_some hwS Tryd.func34 (by kernel_rfl) (body := ieee_Up.code) (by kernel_rfl) tys_ok (c := ieee_Up.cfg ieee_Rank.f ieee_AtRank.f) (orCall_ok (ieee_Rank.call_ok (n := n)) (orCall_ok (ieee_AtRank.call_ok (n := n)) noCall_ok)) (by kernel_rfl) (by kernel_rfl) (Nat.le_of_ble_eq_true (by kernel_rfl)) ((ieee_Up.eq n a0).trans h)
noncomputable def ieee_Up.call {α : Type} (g : Int → Option (Int)) (ds : List D) (K : List D → Option α) : Option α := match ds with
  | [.int .u64 a0] => (g a0).bind fun r => K (ieee_Up.sg.enc r)
  | _ => none
theorem ieee_Up.call_ok {α : Type} {n : Nat} (ds : List D) (K : List D → Option α) (r : α) (h : ieee_Up.call ieee_Up.f ds K = some r) : ∃ rs, K rs = some r ∧ CallD Tryd.prog HW 34 ds rs := by
  unfold ieee_Up.call at h
  split at h
  · obtain ⟨x, hx, hk⟩ := Option.bind_eq_some_iff.1 h
    exact ⟨_, hk, ieee_Up.ok (n := n) hx⟩
  · cases h
/-! ### abacuslaw05_works: function 14 -/
noncomputable def abacuslaw05_works.b0 (c18 : List Int → List Int → Option (Int)) (c29 : Int → Option (Bool × Int × Int × Int)) (c34 : Int → Option (Int)) (c49 : List Int → List Int → Option (List Int × Int)) : Option (Bool) := ((c49 [3] [5]).bind fun t1 => ((c29 4613937818241073152).bind fun t2 => (if t1.2 = 0 then ((c18 t1.1 [15]).bind fun t3 => (if t3 = 0 then ((c34 0).bind fun t4 => (if t4 = 1 then (if t2.2.2.1 = 6755399441055744 then some (decide (t2.2.2.2 = (-51))) else some false) else some false)) else some false)) else some false)))
noncomputable def abacuslaw05_works.f (n : Nat) : Option (Bool) := abacuslaw05_works.b0 (nat_Cmp.f n) ieee_Decode.f ieee_Up.f (nat_Mul.f n)
noncomputable def abacuslaw05_works.sg : Sig (Bool) := s1 (sBool)
noncomputable def abacuslaw05_works.code : Code := (Tryd.f14.body).getD .skip
noncomputable def abacuslaw05_works.cfg (c18 : List Int → List Int → Option (Int)) (c29 : Int → Option (Bool × Int × Int × Int)) (c34 : Int → Option (Int)) (c49 : List Int → List Int → Option (List Int × Int)) : Cfg (Bool) := ⟨tys, orCall 18 (nat_Cmp.call c18) (orCall 29 (ieee_Decode.call c29) (orCall 34 (ieee_Up.call c34) (orCall 49 (nat_Mul.call c49) (noCall))))⟩
noncomputable def abacuslaw05_works.cuts : List (Nat × List (Nat × Want)) := []
theorem abacuslaw05_works.e0 (c18 : List Int → List Int → Option (Int)) (c29 : Int → Option (Bool × Int × Int × Int)) (c34 : Int → Option (Int)) (c49 : List Int → List Int → Option (List Int × Int)) (n : Nat) (J : Nat → (ASt → Option (Bool)) → ASt → Option (Bool)) : afun (abacuslaw05_works.cfg c18 c29 c34 c49) J abacuslaw05_works.cuts n abacuslaw05_works.code Tryd.f14.results.toList [false] [] abacuslaw05_works.sg.out = abacuslaw05_works.b0 c18 c29 c34 c49 := by kernel_rfl
theorem abacuslaw05_works.eq (n : Nat) : afun (abacuslaw05_works.cfg (nat_Cmp.f n) ieee_Decode.f ieee_Up.f (nat_Mul.f n)) idJ abacuslaw05_works.cuts n abacuslaw05_works.code Tryd.f14.results.toList [false] [] abacuslaw05_works.sg.out = abacuslaw05_works.f n := (abacuslaw05_works.e0 (nat_Cmp.f n) ieee_Decode.f ieee_Up.f (nat_Mul.f n) n idJ).trans (rfl)
theorem abacuslaw05_works.ok {n : Nat} {r : Bool} (h : abacuslaw05_works.f n = some r) : CallD Tryd.prog HW 14 [] (abacuslaw05_works.sg.enc r) :=
  fun_some hwS Tryd.func14 (by kernel_rfl) (body := abacuslaw05_works.code) (by kernel_rfl) tys_ok (c := abacuslaw05_works.cfg (nat_Cmp.f n) ieee_Decode.f ieee_Up.f (nat_Mul.f n)) (orCall_ok (nat_Cmp.call_ok (n := n)) (orCall_ok (ieee_Decode.call_ok (n := n)) (orCall_ok (ieee_Up.call_ok (n := n)) (orCall_ok (nat_Mul.call_ok (n := n)) noCall_ok)))) (by kernel_rfl) (by kernel_rfl) (Nat.le_of_ble_eq_true (by kernel_rfl)) ((abacuslaw05_works.eq n).trans h)
noncomputable def abacuslaw05_works.call {α : Type} (g : Option (Bool)) (ds : List D) (K : List D → Option α) : Option α := match ds with
  | [] => (g).bind fun r => K (abacuslaw05_works.sg.enc r)
  | _ :: _ => none
theorem abacuslaw05_works.call_ok {α : Type} {n : Nat} (ds : List D) (K : List D → Option α) (r : α) (h : abacuslaw05_works.call (abacuslaw05_works.f n) ds K = some r) : ∃ rs, K rs = some r ∧ CallD Tryd.prog HW 14 ds rs := by
  unfold abacuslaw05_works.call at h
  split at h
  · obtain ⟨x, hx, hk⟩ := Option.bind_eq_some_iff.1 h
    exact ⟨_, hk, abacuslaw05_works.ok (n := n) hx⟩
  · cases h
/-! ### soft_invalid: function 86 -/
noncomputable def soft_invalid.b0 : Option (Int × Int) := some (9221120237041090560, 1)
noncomputable def soft_invalid.f : Option (Int × Int) := soft_invalid.b0
noncomputable def soft_invalid.sg : Sig (Int × Int) := s2 (sInt .u64) (s1 (sInt .i64))
noncomputable def soft_invalid.code : Code := (Tryd.f86.body).getD .skip
noncomputable def soft_invalid.cfg : Cfg (Int × Int) := ⟨tys, noCall⟩
noncomputable def soft_invalid.cuts : List (Nat × List (Nat × Want)) := []
theorem soft_invalid.e0 (n : Nat) (J : Nat → (ASt → Option (Int × Int)) → ASt → Option (Int × Int)) : afun (soft_invalid.cfg) J soft_invalid.cuts n soft_invalid.code Tryd.f86.results.toList [false, false] [] soft_invalid.sg.out = soft_invalid.b0 := by kernel_rfl
theorem soft_invalid.eq (n : Nat) : afun (soft_invalid.cfg) idJ soft_invalid.cuts n soft_invalid.code Tryd.f86.results.toList [false, false] [] soft_invalid.sg.out = soft_invalid.f := (soft_invalid.e0 n idJ).trans (rfl)
theorem soft_invalid.ok {n : Nat} {r : Int × Int} (h : soft_invalid.f = some r) : CallD Tryd.prog HW 86 [] (soft_invalid.sg.enc r) :=
  fun_some hwS Tryd.func86 (by kernel_rfl) (body := soft_invalid.code) (by kernel_rfl) tys_ok (c := soft_invalid.cfg) noCall_ok (by kernel_rfl) (by kernel_rfl) (Nat.le_of_ble_eq_true (by kernel_rfl)) ((soft_invalid.eq n).trans h)
noncomputable def soft_invalid.call {α : Type} (g : Option (Int × Int)) (ds : List D) (K : List D → Option α) : Option α := match ds with
  | [] => (g).bind fun r => K (soft_invalid.sg.enc r)
  | _ :: _ => none
theorem soft_invalid.call_ok {α : Type} {n : Nat} (ds : List D) (K : List D → Option α) (r : α) (h : soft_invalid.call soft_invalid.f ds K = some r) : ∃ rs, K rs = some r ∧ CallD Tryd.prog HW 86 ds rs := by
  unfold soft_invalid.call at h
  split at h
  · obtain ⟨x, hx, hk⟩ := Option.bind_eq_some_iff.1 h
    exact ⟨_, hk, soft_invalid.ok (n := n) hx⟩
  · cases h
/-! ### soft_withSign: function 90 -/
noncomputable def soft_withSign.b0 (a0 : Bool) (a1 : Int) : Option (Int) := (if a0 = true then some (Go.bits .or .u64 a1 9223372036854775808) else some a1)
noncomputable def soft_withSign.f (a0 : Bool) (a1 : Int) : Option (Int) := soft_withSign.b0 a0 a1
noncomputable def soft_withSign.sg : Sig (Int) := s1 (sInt .u64)
noncomputable def soft_withSign.code : Code := (Tryd.f90.body).getD .skip
noncomputable def soft_withSign.cfg : Cfg (Int) := ⟨tys, noCall⟩
noncomputable def soft_withSign.cuts : List (Nat × List (Nat × Want)) := []
theorem soft_withSign.e0 (n : Nat) (J : Nat → (ASt → Option (Int)) → ASt → Option (Int)) (a0 : Bool) (a1 : Int) : afun (soft_withSign.cfg) J soft_withSign.cuts n soft_withSign.code Tryd.f90.results.toList [false] [.bool a0, .int .u64 a1] soft_withSign.sg.out = soft_withSign.b0 a0 a1 := by kernel_rfl
theorem soft_withSign.eq (n : Nat) (a0 : Bool) (a1 : Int) : afun (soft_withSign.cfg) idJ soft_withSign.cuts n soft_withSign.code Tryd.f90.results.toList [false] [.bool a0, .int .u64 a1] soft_withSign.sg.out = soft_withSign.f a0 a1 := (soft_withSign.e0 n idJ a0 a1).trans (rfl)
theorem soft_withSign.ok {n : Nat} {a0 : Bool} {a1 : Int} {r : Int} (h : soft_withSign.f a0 a1 = some r) : CallD Tryd.prog HW 90 [.bool a0, .int .u64 a1] (soft_withSign.sg.enc r) :=
  fun_some hwS Tryd.func90 (by kernel_rfl) (body := soft_withSign.code) (by kernel_rfl) tys_ok (c := soft_withSign.cfg) noCall_ok (by kernel_rfl) (by kernel_rfl) (Nat.le_of_ble_eq_true (by kernel_rfl)) ((soft_withSign.eq n a0 a1).trans h)
noncomputable def soft_withSign.call {α : Type} (g : Bool → Int → Option (Int)) (ds : List D) (K : List D → Option α) : Option α := match ds with
  | [.bool a0, .int .u64 a1] => (g a0 a1).bind fun r => K (soft_withSign.sg.enc r)
  | _ => none
theorem soft_withSign.call_ok {α : Type} {n : Nat} (ds : List D) (K : List D → Option α) (r : α) (h : soft_withSign.call soft_withSign.f ds K = some r) : ∃ rs, K rs = some r ∧ CallD Tryd.prog HW 90 ds rs := by
  unfold soft_withSign.call at h
  split at h
  · obtain ⟨x, hx, hk⟩ := Option.bind_eq_some_iff.1 h
    exact ⟨_, hk, soft_withSign.ok (n := n) hx⟩
  · cases h
/-! ### nat_FromUint: function 50 -/
noncomputable def nat_FromUint.b0 (a0 : Int) : Option (List Int) := (if a0 = 0 then some ([] : List Int) else some [a0])
noncomputable def nat_FromUint.f (a0 : Int) : Option (List Int) := nat_FromUint.b0 a0
noncomputable def nat_FromUint.sg : Sig (List Int) := s1 (sRow .u64)
noncomputable def nat_FromUint.code : Code := (Tryd.f50.body).getD .skip
noncomputable def nat_FromUint.cfg : Cfg (List Int) := ⟨tys, noCall⟩
noncomputable def nat_FromUint.cuts : List (Nat × List (Nat × Want)) := []
theorem nat_FromUint.e0 (n : Nat) (J : Nat → (ASt → Option (List Int)) → ASt → Option (List Int)) (a0 : Int) : afun (nat_FromUint.cfg) J nat_FromUint.cuts n nat_FromUint.code Tryd.f50.results.toList [false] [.int .u64 a0] nat_FromUint.sg.out = nat_FromUint.b0 a0 := by kernel_rfl
theorem nat_FromUint.eq (n : Nat) (a0 : Int) : afun (nat_FromUint.cfg) idJ nat_FromUint.cuts n nat_FromUint.code Tryd.f50.results.toList [false] [.int .u64 a0] nat_FromUint.sg.out = nat_FromUint.f a0 := (nat_FromUint.e0 n idJ a0).trans (rfl)
theorem nat_FromUint.ok {n : Nat} {a0 : Int} {r : List Int} (h : nat_FromUint.f a0 = some r) : CallD Tryd.prog HW 50 [.int .u64 a0] (nat_FromUint.sg.enc r) :=
  fun_some hwS Tryd.func50 (by kernel_rfl) (body := nat_FromUint.code) (by kernel_rfl) tys_ok (c := nat_FromUint.cfg) noCall_ok (by kernel_rfl) (by kernel_rfl) (Nat.le_of_ble_eq_true (by kernel_rfl)) ((nat_FromUint.eq n a0).trans h)
noncomputable def nat_FromUint.call {α : Type} (g : Int → Option (List Int)) (ds : List D) (K : List D → Option α) : Option α := match ds with
  | [.int .u64 a0] => (g a0).bind fun r => K (nat_FromUint.sg.enc r)
  | _ => none
theorem nat_FromUint.call_ok {α : Type} {n : Nat} (ds : List D) (K : List D → Option α) (r : α) (h : nat_FromUint.call nat_FromUint.f ds K = some r) : ∃ rs, K rs = some r ∧ CallD Tryd.prog HW 50 ds rs := by
  unfold nat_FromUint.call at h
  split at h
  · obtain ⟨x, hx, hk⟩ := Option.bind_eq_some_iff.1 h
    exact ⟨_, hk, nat_FromUint.ok (n := n) hx⟩
  · cases h
/-! ### soft_product: function 91 -/
noncomputable def soft_product.b0 (c49 : List Int → List Int → Option (List Int × Int)) (c50 : Int → Option (List Int)) (a0 : Bool) (a1 : Int) (a2 : Int) (a3 : Int) (a4 : Bool) (a5 : Int) (a6 : Int) (a7 : Int) : Option (Bool × List Int × Int) := ((c50 a2).bind fun t1 => ((c50 a6).bind fun t2 => ((c49 t1 t2).bind fun t3 => some (a0 != a4, t3.1, wrap64 (a3 + a7)))))
noncomputable def soft_product.f (n : Nat) (a0 : Bool) (a1 : Int) (a2 : Int) (a3 : Int) (a4 : Bool) (a5 : Int) (a6 : Int) (a7 : Int) : Option (Bool × List Int × Int) := soft_product.b0 (nat_Mul.f n) nat_FromUint.f a0 a1 a2 a3 a4 a5 a6 a7
noncomputable def soft_product.sg : Sig (Bool × List Int × Int) := s1 (sAgg (s2 (sBool) (s2 (sRow .u64) (s1 (sInt .i64)))))
noncomputable def soft_product.code : Code := (Tryd.f91.body).getD .skip
noncomputable def soft_product.cfg (c49 : List Int → List Int → Option (List Int × Int)) (c50 : Int → Option (List Int)) : Cfg (Bool × List Int × Int) := ⟨tys, orCall 49 (nat_Mul.call c49) (orCall 50 (nat_FromUint.call c50) (noCall))⟩
noncomputable def soft_product.cuts : List (Nat × List (Nat × Want)) := []
theorem soft_product.e0 (c49 : List Int → List Int → Option (List Int × Int)) (c50 : Int → Option (List Int)) (n : Nat) (J : Nat → (ASt → Option (Bool × List Int × Int)) → ASt → Option (Bool × List Int × Int)) (a0 : Bool) (a1 : Int) (a2 : Int) (a3 : Int) (a4 : Bool) (a5 : Int) (a6 : Int) (a7 : Int) : afun (soft_product.cfg c49 c50) J soft_product.cuts n soft_product.code Tryd.f91.results.toList [false] [.agg [.bool a0, .int .i64 a1, .int .u64 a2, .int .i64 a3], .agg [.bool a4, .int .i64 a5, .int .u64 a6, .int .i64 a7]] soft_product.sg.out = soft_product.b0 c49 c50 a0 a1 a2 a3 a4 a5 a6 a7 := by kernel_rfl
theorem soft_product.eq (n : Nat) (a0 : Bool) (a1 : Int) (a2 : Int) (a3 : Int) (a4 : Bool) (a5 : Int) (a6 : Int) (a7 : Int) : afun (soft_product.cfg (nat_Mul.f n) nat_FromUint.f) idJ soft_product.cuts n soft_product.code Tryd.f91.results.toList [false] [.agg [.bool a0, .int .i64 a1, .int .u64 a2, .int .i64 a3], .agg [.bool a4, .int .i64 a5, .int .u64 a6, .int .i64 a7]] soft_product.sg.out = soft_product.f n a0 a1 a2 a3 a4 a5 a6 a7 := (soft_product.e0 (nat_Mul.f n) nat_FromUint.f n idJ a0 a1 a2 a3 a4 a5 a6 a7).trans (rfl)
theorem soft_product.ok {n : Nat} {a0 : Bool} {a1 : Int} {a2 : Int} {a3 : Int} {a4 : Bool} {a5 : Int} {a6 : Int} {a7 : Int} {r : Bool × List Int × Int} (h : soft_product.f n a0 a1 a2 a3 a4 a5 a6 a7 = some r) : CallD Tryd.prog HW 91 [.agg [.bool a0, .int .i64 a1, .int .u64 a2, .int .i64 a3], .agg [.bool a4, .int .i64 a5, .int .u64 a6, .int .i64 a7]] (soft_product.sg.enc r) :=
  fun_some hwS Tryd.func91 (by kernel_rfl) (body := soft_product.code) (by kernel_rfl) tys_ok (c := soft_product.cfg (nat_Mul.f n) nat_FromUint.f) (orCall_ok (nat_Mul.call_ok (n := n)) (orCall_ok (nat_FromUint.call_ok (n := n)) noCall_ok)) (by kernel_rfl) (by kernel_rfl) (Nat.le_of_ble_eq_true (by kernel_rfl)) ((soft_product.eq n a0 a1 a2 a3 a4 a5 a6 a7).trans h)
noncomputable def soft_product.call {α : Type} (g : Bool → Int → Int → Int → Bool → Int → Int → Int → Option (Bool × List Int × Int)) (ds : List D) (K : List D → Option α) : Option α := match ds with
  | [.agg [.bool a0, .int .i64 a1, .int .u64 a2, .int .i64 a3], .agg [.bool a4, .int .i64 a5, .int .u64 a6, .int .i64 a7]] => (g a0 a1 a2 a3 a4 a5 a6 a7).bind fun r => K (soft_product.sg.enc r)
  | _ => none
theorem soft_product.call_ok {α : Type} {n : Nat} (ds : List D) (K : List D → Option α) (r : α) (h : soft_product.call (soft_product.f n) ds K = some r) : ∃ rs, K rs = some r ∧ CallD Tryd.prog HW 91 ds rs := by
  unfold soft_product.call at h
  split at h
  · obtain ⟨x, hx, hk⟩ := Option.bind_eq_some_iff.1 h
    exact ⟨_, hk, soft_product.ok (n := n) hx⟩
  · cases h
/-! ### nat_Shl: function 51 -/
noncomputable def nat_Shl.b0 (c52 : List Int → Option (Int)) (c81 : List Int → Option (Bool)) (c82 : Int → Int → Option (Int × Int)) (c84 : List Int → Option (List Int × Int)) (k8181 : Int → Int → List Int → Int → Int → List Int → Option (List Int × Int)) (l0 : List Int) (a1 : Int) : Option (List Int × Int) := ((c81 l0).bind fun t1 => (if t1 = true then some (([] : List Int), 2) else (if a1 < 0 then some (([] : List Int), 1) else ((c52 l0).bind fun t2 => (if 0 ≤ t2 then (if t2 ≤ (ln l0) then ((some (l0.take t2.toNat) : Option (List Int)).bind fun y3 => (if (ln y3) = 0 then some (([] : List Int), 0) else (if a1 > 262144 then some (([] : List Int), 2) else (if 0 ≤ (wrap64 ((wrap64 ((wrap64 (Int.tdiv a1 64)) + (ln y3))) + 1)) then (if (wrap64 ((wrap64 ((wrap64 (Int.tdiv a1 64)) + (ln y3))) + 1)).toNat ≤ 35184372088832 then k8181 (wrap64 (Int.tdiv a1 64)) (IntKind.u64.wrap (Int.tmod a1 64)) y3 (ln y3) 0 (List.replicate (wrap64 ((wrap64 ((wrap64 (Int.tdiv a1 64)) + (ln y3))) + 1)).toNat 0) else none) else none)))) else none) else none)))))
noncomputable def nat_Shl.b1023 (c52 : List Int → Option (Int)) (c81 : List Int → Option (Bool)) (c82 : Int → Int → Option (Int × Int)) (c84 : List Int → Option (List Int × Int)) (x0 : List Int) : Option (List Int × Int) := ((c84 x0).bind fun t1 => some (t1.1, t1.2))
noncomputable def nat_Shl.b8181 (c52 : List Int → Option (Int)) (c81 : List Int → Option (Bool)) (c82 : Int → Int → Option (Int × Int)) (c84 : List Int → Option (List Int × Int)) (k1023 : List Int → Option (List Int × Int)) (k8181 : Int → Int → List Int → Int → Int → List Int → Option (List Int × Int)) (x0 : Int) (x1 : Int) (x2 : List Int) (x3 : Int) (x4 : Int) (x5 : List Int) : Option (List Int × Int) := (if x4 < x3 then (if 0 ≤ x4 then (if x4 < (ln x2) then (if 0 ≤ x1 then ((c82 (rd x2 x4) (shl .u64 1 x1)).bind fun t1 => (if 0 ≤ (wrap64 (x0 + x4)) then (if (wrap64 (x0 + x4)) < (ln x5) then (if 0 ≤ (wrap64 (x0 + x4)) then (if (wrap64 (x0 + x4)) < (ln x5) then (if 0 ≤ (wrap64 ((wrap64 (x0 + x4)) + 1)) then (if (wrap64 ((wrap64 (x0 + x4)) + 1)) < (ln (x5.set (wrap64 (x0 + x4) : Int).toNat (Go.bits .or .u64 (rd x5 (wrap64 (x0 + x4))) t1.2))) then k8181 x0 x1 x2 x3 (wrap64 (x4 + 1)) ((x5.set (wrap64 (x0 + x4) : Int).toNat (Go.bits .or .u64 (rd x5 (wrap64 (x0 + x4))) t1.2)).set (wrap64 ((wrap64 (x0 + x4)) + 1) : Int).toNat t1.1) else none) else none) else none) else none) else none) else none)) else none) else none) else none) else k1023 x5)
noncomputable def nat_Shl.l1023 (n : Nat) (x0 : List Int) : Option (List Int × Int) := nat_Shl.b1023 (nat_size.f n) (nat_big.f n) bits_Mul64.f (nat_cut.f n) x0
noncomputable def nat_Shl.l8181 (n : Nat) : Nat → Int → Int → List Int → Int → Int → List Int → Option (List Int × Int)
  | 0, _, _, _, _, _, _ => none
  | m + 1, x0, x1, x2, x3, x4, x5 => nat_Shl.b8181 (nat_size.f n) (nat_big.f n) bits_Mul64.f (nat_cut.f n) (nat_Shl.l1023 n) (nat_Shl.l8181 n m) x0 x1 x2 x3 x4 x5
noncomputable def nat_Shl.f (n : Nat) (l0 : List Int) (a1 : Int) : Option (List Int × Int) := nat_Shl.b0 (nat_size.f n) (nat_big.f n) bits_Mul64.f (nat_cut.f n) (nat_Shl.l8181 n n) l0 a1
noncomputable def nat_Shl.sg : Sig (List Int × Int) := s2 (sRow .u64) (s1 (sInt .i64))
noncomputable def nat_Shl.code : Code := (Tryd.f51.body).getD .skip
noncomputable def nat_Shl.cfg (c52 : List Int → Option (Int)) (c81 : List Int → Option (Bool)) (c82 : Int → Int → Option (Int × Int)) (c84 : List Int → Option (List Int × Int)) : Cfg (List Int × Int) := ⟨tys, orCall 52 (nat_size.call c52) (orCall 81 (nat_big.call c81) (orCall 82 (bits_Mul64.call c82) (orCall 84 (nat_cut.call c84) (noCall))))⟩
noncomputable def nat_Shl.cuts : List (Nat × List (Nat × Want)) := [(1023, [(8, .keep)]), (8181, [(6, .keep), (7, .keep), (8, .keep), (37, .keep), (38, .keep), (39, .keep)])]
noncomputable def nat_Shl.s1023 (x0 : List Int) : ASt := ⟨[(8, .own 0)], [.ints 22 .u64 x0]⟩
noncomputable def nat_Shl.s8181 (x0 : Int) (x1 : Int) (x2 : List Int) (x3 : Int) (x4 : Int) (x5 : List Int) : ASt := ⟨[(6, .int .i64 x0), (7, .int .u64 x1), (8, .own 0), (37, .ro .u64 x2), (38, .int .i64 x3), (39, .int .i64 x4)], [.ints 22 .u64 x5]⟩
noncomputable def nat_Shl.A (c52 : List Int → Option (Int)) (c81 : List Int → Option (Bool)) (c82 : Int → Int → Option (Int × Int)) (c84 : List Int → Option (List Int × Int)) (n : Nat) (J : Nat → (ASt → Option (List Int × Int)) → ASt → Option (List Int × Int)) (q : Nat) (ms : List Nat) : ASt → Option (List Int × Int) := acont (nat_Shl.cfg c52 c81 c82 c84) J nat_Shl.cuts n q nat_Shl.code 1 ms (aend (nat_Shl.cfg c52 c81 c82 c84) Tryd.f51.results.toList [false, false] nat_Shl.sg.out)
theorem nat_Shl.e0 (c52 : List Int → Option (Int)) (c81 : List Int → Option (Bool)) (c82 : Int → Int → Option (Int × Int)) (c84 : List Int → Option (List Int × Int)) (n : Nat) (J : Nat → (ASt → Option (List Int × Int)) → ASt → Option (List Int × Int)) (l0 : List Int) (a1 : Int) : afun (nat_Shl.cfg c52 c81 c82 c84) J nat_Shl.cuts n nat_Shl.code Tryd.f51.results.toList [false, false] [.ro .u64 l0, .int .i64 a1] nat_Shl.sg.out = nat_Shl.b0 c52 c81 c82 c84 (fun y0 y1 y2 y3 y4 y5 => J 8181 (nat_Shl.A c52 c81 c82 c84 n J 8181 [n]) (nat_Shl.s8181 y0 y1 y2 y3 y4 y5)) l0 a1 := by kernel_rfl
theorem nat_Shl.e1023 (c52 : List Int → Option (Int)) (c81 : List Int → Option (Bool)) (c82 : Int → Int → Option (Int × Int)) (c84 : List Int → Option (List Int × Int)) (n : Nat) (J : Nat → (ASt → Option (List Int × Int)) → ASt → Option (List Int × Int)) (x0 : List Int) : nat_Shl.A c52 c81 c82 c84 n J 1023 [] (nat_Shl.s1023 x0) = nat_Shl.b1023 c52 c81 c82 c84 x0 := by kernel_rfl
theorem nat_Shl.e8181 (c52 : List Int → Option (Int)) (c81 : List Int → Option (Bool)) (c82 : Int → Int → Option (Int × Int)) (c84 : List Int → Option (List Int × Int)) (n : Nat) (J : Nat → (ASt → Option (List Int × Int)) → ASt → Option (List Int × Int)) (m : Nat) (x0 : Int) (x1 : Int) (x2 : List Int) (x3 : Int) (x4 : Int) (x5 : List Int) : nat_Shl.A c52 c81 c82 c84 n J 8181 [m + 1] (nat_Shl.s8181 x0 x1 x2 x3 x4 x5) = nat_Shl.b8181 c52 c81 c82 c84 (fun y0 => J 1023 (nat_Shl.A c52 c81 c82 c84 n J 1023 []) (nat_Shl.s1023 y0)) (fun y0 y1 y2 y3 y4 y5 => J 8181 (nat_Shl.A c52 c81 c82 c84 n J 8181 [m]) (nat_Shl.s8181 y0 y1 y2 y3 y4 y5)) x0 x1 x2 x3 x4 x5 := by kernel_rfl
theorem nat_Shl.q1023 (n : Nat) (x0 : List Int) : nat_Shl.A (nat_size.f n) (nat_big.f n) bits_Mul64.f (nat_cut.f n) n idJ 1023 [] (nat_Shl.s1023 x0) = nat_Shl.l1023 n x0 := (nat_Shl.e1023 (nat_size.f n) (nat_big.f n) bits_Mul64.f (nat_cut.f n) n idJ x0).trans (rfl)
theorem nat_Shl.q8181 (n : Nat) (m : Nat) : ∀ (x0 : Int) (x1 : Int) (x2 : List Int) (x3 : Int) (x4 : Int) (x5 : List Int), nat_Shl.A (nat_size.f n) (nat_big.f n) bits_Mul64.f (nat_cut.f n) n idJ 8181 [m] (nat_Shl.s8181 x0 x1 x2 x3 x4 x5) = nat_Shl.l8181 n m x0 x1 x2 x3 x4 x5 := by
  induction m with
  | zero => intros; rfl
  | succ m ih =>
    intro x0 x1 x2 x3 x4 x5
    refine (nat_Shl.e8181 (nat_size.f n) (nat_big.f n) bits_Mul64.f (nat_cut.f n) n idJ m x0 x1 x2 x3 x4 x5).trans ?_
    exact congrFun (congrFun (congrFun (congrFun (congrFun (congrFun (congr (congrArg (nat_Shl.b8181 (nat_size.f n) (nat_big.f n) bits_Mul64.f (nat_cut.f n)) (funext fun y0 => nat_Shl.q1023 n y0)) (funext fun y0 => (funext fun y1 => (funext fun y2 => (funext fun y3 => (funext fun y4 => (funext fun y5 => ih y0 y1 y2 y3 y4 y5))))))) x0) x1) x2) x3) x4) x5
theorem nat_Shl.eq (n : Nat) (l0 : List Int) (a1 : Int) : afun (nat_Shl.cfg (nat_size.f n) (nat_big.f n) bits_Mul64.f (nat_cut.f n)) idJ nat_Shl.cuts n nat_Shl.code Tryd.f51.results.toList [false, false] [.ro .u64 l0, .int .i64 a1] nat_Shl.sg.out = nat_Shl.f n l0 a1 := (nat_Shl.e0 (nat_size.f n) (nat_big.f n) bits_Mul64.f (nat_cut.f n) n idJ l0 a1).trans (congrFun (congrFun (congrArg (nat_Shl.b0 (nat_size.f n) (nat_big.f n) bits_Mul64.f (nat_cut.f n)) (funext fun y0 => (funext fun y1 => (funext fun y2 => (funext fun y3 => (funext fun y4 => (funext fun y5 => nat_Shl.q8181 n n y0 y1 y2 y3 y4 y5))))))) l0) a1)
theorem nat_Shl.ok {n : Nat} {l0 : List Int} {a1 : Int} {r : List Int × Int} (h : nat_Shl.f n l0 a1 = some r) : CallD Tryd.prog HW 51 [.ro .u64 l0, .int .i64 a1] (nat_Shl.sg.enc r) :=
  fun_some hwS Tryd.func51 (by kernel_rfl) (body := nat_Shl.code) (by kernel_rfl) tys_ok (c := nat_Shl.cfg (nat_size.f n) (nat_big.f n) bits_Mul64.f (nat_cut.f n)) (orCall_ok (nat_size.call_ok (n := n)) (orCall_ok (nat_big.call_ok (n := n)) (orCall_ok (bits_Mul64.call_ok (n := n)) (orCall_ok (nat_cut.call_ok (n := n)) noCall_ok)))) (by kernel_rfl) (by kernel_rfl) (Nat.le_of_ble_eq_true (by kernel_rfl)) ((nat_Shl.eq n l0 a1).trans h)
noncomputable def nat_Shl.call {α : Type} (g : List Int → Int → Option (List Int × Int)) (ds : List D) (K : List D → Option α) : Option α := match ds with
  | [.ro .u64 l0, .int .i64 a1] => (g l0 a1).bind fun r => K (nat_Shl.sg.enc r)
  | _ => none
theorem nat_Shl.call_ok {α : Type} {n : Nat} (ds : List D) (K : List D → Option α) (r : α) (h : nat_Shl.call (nat_Shl.f n) ds K = some r) : ∃ rs, K rs = some r ∧ CallD Tryd.prog HW 51 ds rs := by
  unfold nat_Shl.call at h
  split at h
  · obtain ⟨x, hx, hk⟩ := Option.bind_eq_some_iff.1 h
    exact ⟨_, hk, nat_Shl.ok (n := n) hx⟩
  · cases h
/-! ### ieee_near: function 124 -/
noncomputable def ieee_near.b0 (a0 : Int) : Option (Int) := some (mx (-1099511627776) (mn 1099511627776 a0))
noncomputable def ieee_near.f (a0 : Int) : Option (Int) := ieee_near.b0 a0
noncomputable def ieee_near.sg : Sig (Int) := s1 (sInt .i64)
noncomputable def ieee_near.code : Code := (Tryd.f124.body).getD .skip
noncomputable def ieee_near.cfg : Cfg (Int) := ⟨tys, noCall⟩
noncomputable def ieee_near.cuts : List (Nat × List (Nat × Want)) := []
theorem ieee_near.e0 (n : Nat) (J : Nat → (ASt → Option (Int)) → ASt → Option (Int)) (a0 : Int) : afun (ieee_near.cfg) J ieee_near.cuts n ieee_near.code Tryd.f124.results.toList [false] [.int .i64 a0] ieee_near.sg.out = ieee_near.b0 a0 := by kernel_rfl
theorem ieee_near.eq (n : Nat) (a0 : Int) : afun (ieee_near.cfg) idJ ieee_near.cuts n ieee_near.code Tryd.f124.results.toList [false] [.int .i64 a0] ieee_near.sg.out = ieee_near.f a0 := (ieee_near.e0 n idJ a0).trans (rfl)
theorem ieee_near.ok {n : Nat} {a0 : Int} {r : Int} (h : ieee_near.f a0 = some r) : CallD Tryd.prog HW 124 [.int .i64 a0] (ieee_near.sg.enc r) :=
  fun_some hwS Tryd.func124 (by kernel_rfl) (body := ieee_near.code) (by kernel_rfl) tys_ok (c := ieee_near.cfg) noCall_ok (by kernel_rfl) (by kernel_rfl) (Nat.le_of_ble_eq_true (by kernel_rfl)) ((ieee_near.eq n a0).trans h)
noncomputable def ieee_near.call {α : Type} (g : Int → Option (Int)) (ds : List D) (K : List D → Option α) : Option α := match ds with
  | [.int .i64 a0] => (g a0).bind fun r => K (ieee_near.sg.enc r)
  | _ => none
theorem ieee_near.call_ok {α : Type} {n : Nat} (ds : List D) (K : List D → Option α) (r : α) (h : ieee_near.call ieee_near.f ds K = some r) : ∃ rs, K rs = some r ∧ CallD Tryd.prog HW 124 ds rs := by
  unfold ieee_near.call at h
  split at h
  · obtain ⟨x, hx, hk⟩ := Option.bind_eq_some_iff.1 h
    exact ⟨_, hk, ieee_near.ok (n := n) hx⟩
  · cases h
/-! ### bits_Len64: function 125 -/
def bits_Len64.f (a0 : Int) : Option (Int) := if 0 ≤ a0 ∧ a0 ≤ 18446744073709551615 then some (Lib.bitLen a0.toNat : Nat) else none
def bits_Len64.sg : Sig (Int) := s1 (sInt .i64)
theorem bits_Len64.ok {a0 : Int} {r : Int} (h : bits_Len64.f a0 = some r) : CallD Tryd.prog HW 125 [.int .u64 a0] (bits_Len64.sg.enc r) := by
  unfold bits_Len64.f at h
  split at h
  · rename_i hh
    obtain rfl := Option.some.inj h
    refine calld_scal rfl rfl fun w _ => .inl ⟨_, Tryd.func125, by kernel_rfl, by kernel_rfl, (Go.Proofs.YtcdnoklokoplaaaDoorG.len64 a0 w hh.1 hh.2).mono ?_⟩
    rintro e w' ⟨rfl, rfl⟩
    exact ⟨_, rfl, rfl, rfl⟩
  · cases h
noncomputable def bits_Len64.call {α : Type} (g : Int → Option (Int)) (ds : List D) (K : List D → Option α) : Option α := match ds with
  | [.int .u64 a0] => (g a0).bind fun r => K (bits_Len64.sg.enc r)
  | _ => none
theorem bits_Len64.call_ok {α : Type} {n : Nat} (ds : List D) (K : List D → Option α) (r : α) (h : bits_Len64.call bits_Len64.f ds K = some r) : ∃ rs, K rs = some r ∧ CallD Tryd.prog HW 125 ds rs := by
  unfold bits_Len64.call at h
  split at h
  · obtain ⟨x, hx, hk⟩ := Option.bind_eq_some_iff.1 h
    exact ⟨_, hk, bits_Len64.ok hx⟩
  · cases h
/-! ### nat_BitLen: function 95 -/
noncomputable def nat_BitLen.b0 (c52 : List Int → Option (Int)) (c125 : Int → Option (Int)) (l0 : List Int) : Option (Int) := ((c52 l0).bind fun t1 => (if t1 = 0 then some 0 else (if 0 ≤ (wrap64 (t1 - 1)) then (if (wrap64 (t1 - 1)) < (ln l0) then ((c125 (rd l0 (wrap64 (t1 - 1)))).bind fun t2 => some (wrap64 ((wrap64 (64 * (wrap64 (t1 - 1)))) + t2))) else none) else none)))
noncomputable def nat_BitLen.f (n : Nat) (l0 : List Int) : Option (Int) := nat_BitLen.b0 (nat_size.f n) bits_Len64.f l0
noncomputable def nat_BitLen.sg : Sig (Int) := s1 (sInt .i64)
noncomputable def nat_BitLen.code : Code := (Tryd.f95.body).getD .skip
noncomputable def nat_BitLen.cfg (c52 : List Int → Option (Int)) (c125 : Int → Option (Int)) : Cfg (Int) := ⟨tys, orCall 52 (nat_size.call c52) (orCall 125 (bits_Len64.call c125) (noCall))⟩
noncomputable def nat_BitLen.cuts : List (Nat × List (Nat × Want)) := []
theorem nat_BitLen.e0 (c52 : List Int → Option (Int)) (c125 : Int → Option (Int)) (n : Nat) (J : Nat → (ASt → Option (Int)) → ASt → Option (Int)) (l0 : List Int) : afun (nat_BitLen.cfg c52 c125) J nat_BitLen.cuts n nat_BitLen.code Tryd.f95.results.toList [false] [.ro .u64 l0] nat_BitLen.sg.out = nat_BitLen.b0 c52 c125 l0 := by kernel_rfl
theorem nat_BitLen.eq (n : Nat) (l0 : List Int) : afun (nat_BitLen.cfg (nat_size.f n) bits_Len64.f) idJ nat_BitLen.cuts n nat_BitLen.code Tryd.f95.results.toList [false] [.ro .u64 l0] nat_BitLen.sg.out = nat_BitLen.f n l0 := (nat_BitLen.e0 (nat_size.f n) bits_Len64.f n idJ l0).trans (rfl)
theorem nat_BitLen.ok {n : Nat} {l0 : List Int} {r : Int} (h : nat_BitLen.f n l0 = some r) : CallD Tryd.prog HW 95 [.ro .u64 l0] (nat_BitLen.sg.enc r) :=
  fun_some hwS Tryd.func95 (by kernel_rfl) (body := nat_BitLen.code) (by kernel_rfl) tys_ok (c := nat_BitLen.cfg (nat_size.f n) bits_Len64.f) (orCall_ok (nat_size.call_ok (n := n)) (orCall_ok (bits_Len64.call_ok (n := n)) noCall_ok)) (by kernel_rfl) (by kernel_rfl) (Nat.le_of_ble_eq_true (by kernel_rfl)) ((nat_BitLen.eq n l0).trans h)
noncomputable def nat_BitLen.call {α : Type} (g : List Int → Option (Int)) (ds : List D) (K : List D → Option α) : Option α := match ds with
  | [.ro .u64 l0] => (g l0).bind fun r => K (nat_BitLen.sg.enc r)
  | _ => none
theorem nat_BitLen.call_ok {α : Type} {n : Nat} (ds : List D) (K : List D → Option α) (r : α) (h : nat_BitLen.call (nat_BitLen.f n) ds K = some r) : ∃ rs, K rs = some r ∧ CallD Tryd.prog HW 95 ds rs := by
  unfold nat_BitLen.call at h
  split at h
  · obtain ⟨x, hx, hk⟩ := Option.bind_eq_some_iff.1 h
    exact ⟨_, hk, nat_BitLen.ok (n := n) hx⟩
  · cases h
/-! ### bits_TrailingZeros64: function 126 -/
def bits_TrailingZeros64.f (a0 : Int) : Option (Int) := if 0 ≤ a0 ∧ a0 < 18446744073709551616 then some (Lib.ctz 64 a0.toNat : Nat) else none
def bits_TrailingZeros64.sg : Sig (Int) := s1 (sInt .i64)
set_option maxHeartbeats 1000000 in
theorem bits_TrailingZeros64.core (x k idx : Nat) (w : World) (hx0 : ((x : Int) == 0) = false)
    (key : IntKind.u64.wrap (bits BinOp.and IntKind.u64 (x : Int) (IntKind.u64.wrap (-(x : Int))) * 285870213051353865) / 288230376151711744 = (idx : Int))
    (hi : idx < 64) (hk : k < 64) (hcell : w.cell? ⟨0, idx, none⟩ = some (.int .u8 k)) :
    Calls Tryd.prog 126 #[.int .u64 x] w fun e w' => e = .returned (.int .i64 k) ∧ w' = w := by
  go_enter Tryd.func126, Tryd.ntmps126
  go_wp2_with (simp only [key])
  go_ret
  exact ⟨rfl, rfl⟩
theorem bits_TrailingZeros64.zero (w : World) : Calls Tryd.prog 126 #[.int .u64 0] w fun e w' => e = .returned (.int .i64 64) ∧ w' = w := by
  go_enter Tryd.func126, Tryd.ntmps126
  go_wp2
  go_ret
  exact ⟨rfl, rfl⟩
theorem bits_TrailingZeros64.ok {a0 : Int} {r : Int} (h : bits_TrailingZeros64.f a0 = some r) : CallD Tryd.prog HW 126 [.int .u64 a0] (bits_TrailingZeros64.sg.enc r) := by
  unfold bits_TrailingZeros64.f at h
  split at h
  · rename_i hh
    obtain rfl := Option.some.inj h
    refine calld_scal rfl rfl fun w hw => .inl ⟨_, Tryd.func126, by kernel_rfl, by kernel_rfl, ?_⟩
    obtain ⟨x, rfl⟩ := Int.eq_ofNat_of_zero_le hh.1
    have hx : x < 18446744073709551616 := by omega
    show Calls Tryd.prog 126 #[.int .u64 x] w _
    rw [Int.toNat_natCast]
    by_cases hx0 : x = 0
    · subst hx0
      refine (bits_TrailingZeros64.zero w).mono ?_
      rintro e w' ⟨rfl, rfl⟩
      exact ⟨_, rfl, rfl, rfl⟩
    · obtain ⟨hlow, hk⟩ := Lib.lowest_bit 64 x hx0 hx
      obtain ⟨hi, htab⟩ := Lib.deBruijn64_at _ hk
      have hcell := hw _ hi
      rw [htab] at hcell
      refine (bits_TrailingZeros64.core x _ _ w (by simp; omega) (tz64_key x _ hx hx0 hlow) hi hk hcell).mono ?_
      rintro e w' ⟨rfl, rfl⟩
      exact ⟨_, rfl, rfl, rfl⟩
  · cases h
noncomputable def bits_TrailingZeros64.call {α : Type} (g : Int → Option (Int)) (ds : List D) (K : List D → Option α) : Option α := match ds with
  | [.int .u64 a0] => (g a0).bind fun r => K (bits_TrailingZeros64.sg.enc r)
  | _ => none
theorem bits_TrailingZeros64.call_ok {α : Type} {n : Nat} (ds : List D) (K : List D → Option α) (r : α) (h : bits_TrailingZeros64.call bits_TrailingZeros64.f ds K = some r) : ∃ rs, K rs = some r ∧ CallD Tryd.prog HW 126 ds rs := by
  unfold bits_TrailingZeros64.call at h
  split at h
  · obtain ⟨x, hx, hk⟩ := Option.bind_eq_some_iff.1 h
    exact ⟨_, hk, bits_TrailingZeros64.ok hx⟩
  · cases h
/-! ### nat_Trail: function 96 -/
noncomputable def nat_Trail.b0 (c126 : Int → Option (Int)) (k53 : List Int → Int → Int → Option (Int)) (l0 : List Int) : Option (Int) := k53 l0 (ln l0) 0
noncomputable def nat_Trail.b53 (c126 : Int → Option (Int)) (k53 : List Int → Int → Int → Option (Int)) (x0 : List Int) (x1 : Int) (x2 : Int) : Option (Int) := (if x2 < x1 then (if 0 ≤ x2 then (if x2 < (ln x0) then (if ¬ (rd x0 x2) = 0 then ((c126 (rd x0 x2)).bind fun t1 => some (wrap64 ((wrap64 (64 * x2)) + t1))) else k53 x0 x1 (wrap64 (x2 + 1))) else none) else none) else some 0)
noncomputable def nat_Trail.l53 (n : Nat) : Nat → List Int → Int → Int → Option (Int)
  | 0, _, _, _ => none
  | m + 1, x0, x1, x2 => nat_Trail.b53 bits_TrailingZeros64.f (nat_Trail.l53 n m) x0 x1 x2
noncomputable def nat_Trail.f (n : Nat) (l0 : List Int) : Option (Int) := nat_Trail.b0 bits_TrailingZeros64.f (nat_Trail.l53 n n) l0
noncomputable def nat_Trail.sg : Sig (Int) := s1 (sInt .i64)
noncomputable def nat_Trail.code : Code := (Tryd.f96.body).getD .skip
noncomputable def nat_Trail.cfg (c126 : Int → Option (Int)) : Cfg (Int) := ⟨tys, orCall 126 (bits_TrailingZeros64.call c126) (noCall)⟩
noncomputable def nat_Trail.cuts : List (Nat × List (Nat × Want)) := [(53, [(5, .keep), (6, .keep), (7, .keep)])]
noncomputable def nat_Trail.s53 (x0 : List Int) (x1 : Int) (x2 : Int) : ASt := ⟨[(5, .ro .u64 x0), (6, .int .i64 x1), (7, .int .i64 x2)], []⟩
noncomputable def nat_Trail.A (c126 : Int → Option (Int)) (n : Nat) (J : Nat → (ASt → Option (Int)) → ASt → Option (Int)) (q : Nat) (ms : List Nat) : ASt → Option (Int) := acont (nat_Trail.cfg c126) J nat_Trail.cuts n q nat_Trail.code 1 ms (aend (nat_Trail.cfg c126) Tryd.f96.results.toList [false] nat_Trail.sg.out)
theorem nat_Trail.e0 (c126 : Int → Option (Int)) (n : Nat) (J : Nat → (ASt → Option (Int)) → ASt → Option (Int)) (l0 : List Int) : afun (nat_Trail.cfg c126) J nat_Trail.cuts n nat_Trail.code Tryd.f96.results.toList [false] [.ro .u64 l0] nat_Trail.sg.out = nat_Trail.b0 c126 (fun y0 y1 y2 => J 53 (nat_Trail.A c126 n J 53 [n]) (nat_Trail.s53 y0 y1 y2)) l0 := by kernel_rfl
theorem nat_Trail.e53 (c126 : Int → Option (Int)) (n : Nat) (J : Nat → (ASt → Option (Int)) → ASt → Option (Int)) (m : Nat) (x0 : List Int) (x1 : Int) (x2 : Int) : nat_Trail.A c126 n J 53 [m + 1] (nat_Trail.s53 x0 x1 x2) = nat_Trail.b53 c126 (fun y0 y1 y2 => J 53 (nat_Trail.A c126 n J 53 [m]) (nat_Trail.s53 y0 y1 y2)) x0 x1 x2 := by kernel_rfl
theorem nat_Trail.q53 (n : Nat) (m : Nat) : ∀ (x0 : List Int) (x1 : Int) (x2 : Int), nat_Trail.A bits_TrailingZeros64.f n idJ 53 [m] (nat_Trail.s53 x0 x1 x2) = nat_Trail.l53 n m x0 x1 x2 := by
  induction m with
  | zero => intros; rfl
  | succ m ih =>
    intro x0 x1 x2
    refine (nat_Trail.e53 bits_TrailingZeros64.f n idJ m x0 x1 x2).trans ?_
    exact congrFun (congrFun (congrFun (congrArg (nat_Trail.b53 bits_TrailingZeros64.f) (funext fun y0 => (funext fun y1 => (funext fun y2 => ih y0 y1 y2)))) x0) x1) x2
theorem nat_Trail.eq (n : Nat) (l0 : List Int) : afun (nat_Trail.cfg bits_TrailingZeros64.f) idJ nat_Trail.cuts n nat_Trail.code Tryd.f96.results.toList [false] [.ro .u64 l0] nat_Trail.sg.out = nat_Trail.f n l0 := (nat_Trail.e0 bits_TrailingZeros64.f n idJ l0).trans (congrFun (congrArg (nat_Trail.b0 bits_TrailingZeros64.f) (funext fun y0 => (funext fun y1 => (funext fun y2 => nat_Trail.q53 n n y0 y1 y2)))) l0)
theorem nat_Trail.ok {n : Nat} {l0 : List Int} {r : Int} (h : nat_Trail.f n l0 = some r) : CallD Tryd.prog HW 96 [.ro .u64 l0] (nat_Trail.sg.enc r) :=
  fun_some hwS Tryd.func96 (by kernel_rfl) (body := nat_Trail.code) (by kernel_rfl) tys_ok (c := nat_Trail.cfg bits_TrailingZeros64.f) (orCall_ok (bits_TrailingZeros64.call_ok (n := n)) noCall_ok) (by kernel_rfl) (by kernel_rfl) (Nat.le_of_ble_eq_true (by kernel_rfl)) ((nat_Trail.eq n l0).trans h)
noncomputable def nat_Trail.call {α : Type} (g : List Int → Option (Int)) (ds : List D) (K : List D → Option α) : Option α := match ds with
  | [.ro .u64 l0] => (g l0).bind fun r => K (nat_Trail.sg.enc r)
  | _ => none
theorem nat_Trail.call_ok {α : Type} {n : Nat} (ds : List D) (K : List D → Option α) (r : α) (h : nat_Trail.call (nat_Trail.f n) ds K = some r) : ∃ rs, K rs = some r ∧ CallD Tryd.prog HW 96 ds rs := by
  unfold nat_Trail.call at h
  split at h
  · obtain ⟨x, hx, hk⟩ := Option.bind_eq_some_iff.1 h
    exact ⟨_, hk, nat_Trail.ok (n := n) hx⟩
  · cases h
/-! ### nat_Shr: function 122 -/
noncomputable def nat_Shr.b0 (c52 : List Int → Option (Int)) (c81 : List Int → Option (Bool)) (c84 : List Int → Option (List Int × Int)) (c96 : List Int → Option (Int)) (k31 : List Int → Int → Bool → Option (List Int × Bool × Int)) (l0 : List Int) (a1 : Int) : Option (List Int × Bool × Int) := ((c81 l0).bind fun t1 => (if t1 = true then some (([] : List Int), false, 2) else (if a1 < 0 then some (([] : List Int), false, 1) else ((c52 l0).bind fun t2 => (if t2 > 0 then ((c96 l0).bind fun t3 => k31 l0 a1 (decide (t3 < a1))) else k31 l0 a1 false)))))
noncomputable def nat_Shr.b31 (c52 : List Int → Option (Int)) (c81 : List Int → Option (Bool)) (c84 : List Int → Option (List Int × Int)) (c96 : List Int → Option (Int)) (k8181 : List Int → Bool → Int → Int → Int → Int → List Int → Option (List Int × Bool × Int)) (x0 : List Int) (x1 : Int) (x2 : Bool) : Option (List Int × Bool × Int) := ((c52 x0).bind fun t1 => (if 0 ≤ t1 then (if t1 ≤ (ln x0) then ((some (x0.take t1.toNat) : Option (List Int)).bind fun y2 => (if x1 ≥ (wrap64 (64 * (ln y2))) then some (([] : List Int), x2, 0) else (if 0 ≤ (wrap64 ((ln y2) - (wrap64 (Int.tdiv x1 64)))) then (if (wrap64 ((ln y2) - (wrap64 (Int.tdiv x1 64)))).toNat ≤ 35184372088832 then k8181 y2 x2 (wrap64 (Int.tdiv x1 64)) (IntKind.u64.wrap (Int.tmod x1 64)) (ln (List.replicate (wrap64 ((ln y2) - (wrap64 (Int.tdiv x1 64)))).toNat 0)) 0 (List.replicate (wrap64 ((ln y2) - (wrap64 (Int.tdiv x1 64)))).toNat 0) else none) else none))) else none) else none))
noncomputable def nat_Shr.b1023 (c52 : List Int → Option (Int)) (c81 : List Int → Option (Bool)) (c84 : List Int → Option (List Int × Int)) (c96 : List Int → Option (Int)) (x0 : Bool) (x1 : List Int) : Option (List Int × Bool × Int) := ((c84 x1).bind fun t1 => some (t1.1, x0, t1.2))
noncomputable def nat_Shr.b8181 (c52 : List Int → Option (Int)) (c81 : List Int → Option (Bool)) (c84 : List Int → Option (List Int × Int)) (c96 : List Int → Option (Int)) (k1023 : Bool → List Int → Option (List Int × Bool × Int)) (k8181 : List Int → Bool → Int → Int → Int → Int → List Int → Option (List Int × Bool × Int)) (x0 : List Int) (x1 : Bool) (x2 : Int) (x3 : Int) (x4 : Int) (x5 : Int) (x6 : List Int) : Option (List Int × Bool × Int) := (if x5 < x4 then (if 0 ≤ (wrap64 (x2 + x5)) then (if (wrap64 (x2 + x5)) < (ln x0) then (if 0 ≤ x3 then (if (wrap64 ((wrap64 (x2 + x5)) + 1)) < (ln x0) then (if x3 > 0 then (if 0 ≤ (wrap64 ((wrap64 (x2 + x5)) + 1)) then (if (wrap64 ((wrap64 (x2 + x5)) + 1)) < (ln x0) then (if 0 ≤ (IntKind.u64.wrap (64 - x3)) then (if 0 ≤ x5 then (if x5 < (ln x6) then k8181 x0 x1 x2 x3 x4 (wrap64 (x5 + 1)) (x6.set (x5 : Int).toNat (Go.bits .or .u64 (shr .u64 (rd x0 (wrap64 (x2 + x5))) x3) (shl .u64 (rd x0 (wrap64 ((wrap64 (x2 + x5)) + 1))) (IntKind.u64.wrap (64 - x3))))) else none) else none) else none) else none) else none) else (if 0 ≤ x5 then (if x5 < (ln x6) then k8181 x0 x1 x2 x3 x4 (wrap64 (x5 + 1)) (x6.set (x5 : Int).toNat (shr .u64 (rd x0 (wrap64 (x2 + x5))) x3)) else none) else none)) else (if 0 ≤ x5 then (if x5 < (ln x6) then k8181 x0 x1 x2 x3 x4 (wrap64 (x5 + 1)) (x6.set (x5 : Int).toNat (shr .u64 (rd x0 (wrap64 (x2 + x5))) x3)) else none) else none)) else none) else none) else none) else k1023 x1 x6)
noncomputable def nat_Shr.l1023 (n : Nat) (x0 : Bool) (x1 : List Int) : Option (List Int × Bool × Int) := nat_Shr.b1023 (nat_size.f n) (nat_big.f n) (nat_cut.f n) (nat_Trail.f n) x0 x1
noncomputable def nat_Shr.l8181 (n : Nat) : Nat → List Int → Bool → Int → Int → Int → Int → List Int → Option (List Int × Bool × Int)
  | 0, _, _, _, _, _, _, _ => none
  | m + 1, x0, x1, x2, x3, x4, x5, x6 => nat_Shr.b8181 (nat_size.f n) (nat_big.f n) (nat_cut.f n) (nat_Trail.f n) (nat_Shr.l1023 n) (nat_Shr.l8181 n m) x0 x1 x2 x3 x4 x5 x6
noncomputable def nat_Shr.l31 (n : Nat) (x0 : List Int) (x1 : Int) (x2 : Bool) : Option (List Int × Bool × Int) := nat_Shr.b31 (nat_size.f n) (nat_big.f n) (nat_cut.f n) (nat_Trail.f n) (nat_Shr.l8181 n n) x0 x1 x2
noncomputable def nat_Shr.f (n : Nat) (l0 : List Int) (a1 : Int) : Option (List Int × Bool × Int) := nat_Shr.b0 (nat_size.f n) (nat_big.f n) (nat_cut.f n) (nat_Trail.f n) (nat_Shr.l31 n) l0 a1
noncomputable def nat_Shr.sg : Sig (List Int × Bool × Int) := s2 (sRow .u64) (s2 (sBool) (s1 (sInt .i64)))
noncomputable def nat_Shr.code : Code := (Tryd.f122.body).getD .skip
noncomputable def nat_Shr.cfg (c52 : List Int → Option (Int)) (c81 : List Int → Option (Bool)) (c84 : List Int → Option (List Int × Int)) (c96 : List Int → Option (Int)) : Cfg (List Int × Bool × Int) := ⟨tys, orCall 52 (nat_size.call c52) (orCall 81 (nat_big.call c81) (orCall 84 (nat_cut.call c84) (orCall 96 (nat_Trail.call c96) (noCall))))⟩
noncomputable def nat_Shr.cuts : List (Nat × List (Nat × Want)) := [(31, [(0, .keep), (1, .keep), (7, .keep)]), (1023, [(7, .keep), (10, .keep)]), (8181, [(0, .keep), (7, .keep), (8, .keep), (9, .keep), (10, .keep), (49, .keep), (50, .keep)])]
noncomputable def nat_Shr.s31 (x0 : List Int) (x1 : Int) (x2 : Bool) : ASt := ⟨[(0, .ro .u64 x0), (1, .int .i64 x1), (7, .bool x2)], []⟩
noncomputable def nat_Shr.s1023 (x0 : Bool) (x1 : List Int) : ASt := ⟨[(7, .bool x0), (10, .own 0)], [.ints 22 .u64 x1]⟩
noncomputable def nat_Shr.s8181 (x0 : List Int) (x1 : Bool) (x2 : Int) (x3 : Int) (x4 : Int) (x5 : Int) (x6 : List Int) : ASt := ⟨[(0, .ro .u64 x0), (7, .bool x1), (8, .int .i64 x2), (9, .int .u64 x3), (10, .own 0), (49, .int .i64 x4), (50, .int .i64 x5)], [.ints 22 .u64 x6]⟩
noncomputable def nat_Shr.A (c52 : List Int → Option (Int)) (c81 : List Int → Option (Bool)) (c84 : List Int → Option (List Int × Int)) (c96 : List Int → Option (Int)) (n : Nat) (J : Nat → (ASt → Option (List Int × Bool × Int)) → ASt → Option (List Int × Bool × Int)) (q : Nat) (ms : List Nat) : ASt → Option (List Int × Bool × Int) := acont (nat_Shr.cfg c52 c81 c84 c96) J nat_Shr.cuts n q nat_Shr.code 1 ms (aend (nat_Shr.cfg c52 c81 c84 c96) Tryd.f122.results.toList [false, false, false] nat_Shr.sg.out)
theorem nat_Shr.e0 (c52 : List Int → Option (Int)) (c81 : List Int → Option (Bool)) (c84 : List Int → Option (List Int × Int)) (c96 : List Int → Option (Int)) (n : Nat) (J : Nat → (ASt → Option (List Int × Bool × Int)) → ASt → Option (List Int × Bool × Int)) (l0 : List Int) (a1 : Int) : afun (nat_Shr.cfg c52 c81 c84 c96) J nat_Shr.cuts n nat_Shr.code Tryd.f122.results.toList [false, false, false] [.ro .u64 l0, .int .i64 a1] nat_Shr.sg.out = nat_Shr.b0 c52 c81 c84 c96 (fun y0 y1 y2 => J 31 (nat_Shr.A c52 c81 c84 c96 n J 31 []) (nat_Shr.s31 y0 y1 y2)) l0 a1 := by kernel_rfl
theorem nat_Shr.e31 (c52 : List Int → Option (Int)) (c81 : List Int → Option (Bool)) (c84 : List Int → Option (List Int × Int)) (c96 : List Int → Option (Int)) (n : Nat) (J : Nat → (ASt → Option (List Int × Bool × Int)) → ASt → Option (List Int × Bool × Int)) (x0 : List Int) (x1 : Int) (x2 : Bool) : nat_Shr.A c52 c81 c84 c96 n J 31 [] (nat_Shr.s31 x0 x1 x2) = nat_Shr.b31 c52 c81 c84 c96 (fun y0 y1 y2 y3 y4 y5 y6 => J 8181 (nat_Shr.A c52 c81 c84 c96 n J 8181 [n]) (nat_Shr.s8181 y0 y1 y2 y3 y4 y5 y6)) x0 x1 x2 := by kernel_rfl
theorem nat_Shr.e1023 (c52 : List Int → Option (Int)) (c81 : List Int → Option (Bool)) (c84 : List Int → Option (List Int × Int)) (c96 : List Int → Option (Int)) (n : Nat) (J : Nat → (ASt → Option (List Int × Bool × Int)) → ASt → Option (List Int × Bool × Int)) (x0 : Bool) (x1 : List Int) : nat_Shr.A c52 c81 c84 c96 n J 1023 [] (nat_Shr.s1023 x0 x1) = nat_Shr.b1023 c52 c81 c84 c96 x0 x1 := by kernel_rfl
theorem nat_Shr.e8181 (c52 : List Int → Option (Int)) (c81 : List Int → Option (Bool)) (c84 : List Int → Option (List Int × Int)) (c96 : List Int → Option (Int)) (n : Nat) (J : Nat → (ASt → Option (List Int × Bool × Int)) → ASt → Option (List Int × Bool × Int)) (m : Nat) (x0 : List Int) (x1 : Bool) (x2 : Int) (x3 : Int) (x4 : Int) (x5 : Int) (x6 : List Int) : nat_Shr.A c52 c81 c84 c96 n J 8181 [m + 1] (nat_Shr.s8181 x0 x1 x2 x3 x4 x5 x6) = nat_Shr.b8181 c52 c81 c84 c96 (fun y0 y1 => J 1023 (nat_Shr.A c52 c81 c84 c96 n J 1023 []) (nat_Shr.s1023 y0 y1)) (fun y0 y1 y2 y3 y4 y5 y6 => J 8181 (nat_Shr.A c52 c81 c84 c96 n J 8181 [m]) (nat_Shr.s8181 y0 y1 y2 y3 y4 y5 y6)) x0 x1 x2 x3 x4 x5 x6 := by kernel_rfl
theorem nat_Shr.q1023 (n : Nat) (x0 : Bool) (x1 : List Int) : nat_Shr.A (nat_size.f n) (nat_big.f n) (nat_cut.f n) (nat_Trail.f n) n idJ 1023 [] (nat_Shr.s1023 x0 x1) = nat_Shr.l1023 n x0 x1 := (nat_Shr.e1023 (nat_size.f n) (nat_big.f n) (nat_cut.f n) (nat_Trail.f n) n idJ x0 x1).trans (rfl)
theorem nat_Shr.q8181 (n : Nat) (m : Nat) : ∀ (x0 : List Int) (x1 : Bool) (x2 : Int) (x3 : Int) (x4 : Int) (x5 : Int) (x6 : List Int), nat_Shr.A (nat_size.f n) (nat_big.f n) (nat_cut.f n) (nat_Trail.f n) n idJ 8181 [m] (nat_Shr.s8181 x0 x1 x2 x3 x4 x5 x6) = nat_Shr.l8181 n m x0 x1 x2 x3 x4 x5 x6 := by
  induction m with
  | zero => intros; rfl
  | succ m ih =>
    intro x0 x1 x2 x3 x4 x5 x6
    refine (nat_Shr.e8181 (nat_size.f n) (nat_big.f n) (nat_cut.f n) (nat_Trail.f n) n idJ m x0 x1 x2 x3 x4 x5 x6).trans ?_
    exact congrFun (congrFun (congrFun (congrFun (congrFun (congrFun (congrFun (congr (congrArg (nat_Shr.b8181 (nat_size.f n) (nat_big.f n) (nat_cut.f n) (nat_Trail.f n)) (funext fun y0 => (funext fun y1 => nat_Shr.q1023 n y0 y1))) (funext fun y0 => (funext fun y1 => (funext fun y2 => (funext fun y3 => (funext fun y4 => (funext fun y5 => (funext fun y6 => ih y0 y1 y2 y3 y4 y5 y6)))))))) x0) x1) x2) x3) x4) x5) x6
theorem nat_Shr.q31 (n : Nat) (x0 : List Int) (x1 : Int) (x2 : Bool) : nat_Shr.A (nat_size.f n) (nat_big.f n) (nat_cut.f n) (nat_Trail.f n) n idJ 31 [] (nat_Shr.s31 x0 x1 x2) = nat_Shr.l31 n x0 x1 x2 := (nat_Shr.e31 (nat_size.f n) (nat_big.f n) (nat_cut.f n) (nat_Trail.f n) n idJ x0 x1 x2).trans (congrFun (congrFun (congrFun (congrArg (nat_Shr.b31 (nat_size.f n) (nat_big.f n) (nat_cut.f n) (nat_Trail.f n)) (funext fun y0 => (funext fun y1 => (funext fun y2 => (funext fun y3 => (funext fun y4 => (funext fun y5 => (funext fun y6 => nat_Shr.q8181 n n y0 y1 y2 y3 y4 y5 y6)))))))) x0) x1) x2)
theorem nat_Shr.eq (n : Nat) (l0 : List Int) (a1 : Int) : afun (nat_Shr.cfg (nat_size.f n) (nat_big.f n) (nat_cut.f n) (nat_Trail.f n)) idJ nat_Shr.cuts n nat_Shr.code Tryd.f122.results.toList [false, false, false] [.ro .u64 l0, .int .i64 a1] nat_Shr.sg.out = nat_Shr.f n l0 a1 := (nat_Shr.e0 (nat_size.f n) (nat_big.f n) (nat_cut.f n) (nat_Trail.f n) n idJ l0 a1).trans (congrFun (congrFun (congrArg (nat_Shr.b0 (nat_size.f n) (nat_big.f n) (nat_cut.f n) (nat_Trail.f n)) (funext fun y0 => (funext fun y1 => (funext fun y2 => nat_Shr.q31 n y0 y1 y2)))) l0) a1)
theorem nat_Shr.ok {n : Nat} {l0 : List Int} {a1 : Int} {r : List Int × Bool × Int} (h : nat_Shr.f n l0 a1 = some r) : CallD Tryd.prog HW 122 [.ro .u64 l0, .int .i64 a1] (nat_Shr.sg.enc r) :=
  fun_some hwS Tryd.func122 (by kernel_rfl) (body := nat_Shr.code) (by kernel_rfl) tys_ok (c := nat_Shr.cfg (nat_size.f n) (nat_big.f n) (nat_cut.f n) (nat_Trail.f n)) (orCall_ok (nat_size.call_ok (n := n)) (orCall_ok (nat_big.call_ok (n := n)) (orCall_ok (nat_cut.call_ok (n := n)) (orCall_ok (nat_Trail.call_ok (n := n)) noCall_ok)))) (by kernel_rfl) (by kernel_rfl) (Nat.le_of_ble_eq_true (by kernel_rfl)) ((nat_Shr.eq n l0 a1).trans h)
noncomputable def nat_Shr.call {α : Type} (g : List Int → Int → Option (List Int × Bool × Int)) (ds : List D) (K : List D → Option α) : Option α := match ds with
  | [.ro .u64 l0, .int .i64 a1] => (g l0 a1).bind fun r => K (nat_Shr.sg.enc r)
  | _ => none
theorem nat_Shr.call_ok {α : Type} {n : Nat} (ds : List D) (K : List D → Option α) (r : α) (h : nat_Shr.call (nat_Shr.f n) ds K = some r) : ∃ rs, K rs = some r ∧ CallD Tryd.prog HW 122 ds rs := by
  unfold nat_Shr.call at h
  split at h
  · obtain ⟨x, hx, hk⟩ := Option.bind_eq_some_iff.1 h
    exact ⟨_, hk, nat_Shr.ok (n := n) hx⟩
  · cases h
/-! ### nat_ToUint: function 134 -/
noncomputable def nat_ToUint.b0 (c52 : List Int → Option (Int)) (l0 : List Int) : Option (Int × Bool) := ((c52 l0).bind fun t1 => (if t1 = 0 then some (0, true) else (if t1 = 1 then (if 0 < (ln l0) then some (rd l0 0, true) else none) else some (0, false))))
noncomputable def nat_ToUint.f (n : Nat) (l0 : List Int) : Option (Int × Bool) := nat_ToUint.b0 (nat_size.f n) l0
noncomputable def nat_ToUint.sg : Sig (Int × Bool) := s2 (sInt .u64) (s1 (sBool))
noncomputable def nat_ToUint.code : Code := (Tryd.f134.body).getD .skip
noncomputable def nat_ToUint.cfg (c52 : List Int → Option (Int)) : Cfg (Int × Bool) := ⟨tys, orCall 52 (nat_size.call c52) (noCall)⟩
noncomputable def nat_ToUint.cuts : List (Nat × List (Nat × Want)) := []
theorem nat_ToUint.e0 (c52 : List Int → Option (Int)) (n : Nat) (J : Nat → (ASt → Option (Int × Bool)) → ASt → Option (Int × Bool)) (l0 : List Int) : afun (nat_ToUint.cfg c52) J nat_ToUint.cuts n nat_ToUint.code Tryd.f134.results.toList [false, false] [.ro .u64 l0] nat_ToUint.sg.out = nat_ToUint.b0 c52 l0 := by kernel_rfl
theorem nat_ToUint.eq (n : Nat) (l0 : List Int) : afun (nat_ToUint.cfg (nat_size.f n)) idJ nat_ToUint.cuts n nat_ToUint.code Tryd.f134.results.toList [false, false] [.ro .u64 l0] nat_ToUint.sg.out = nat_ToUint.f n l0 := (nat_ToUint.e0 (nat_size.f n) n idJ l0).trans (rfl)
theorem nat_ToUint.ok {n : Nat} {l0 : List Int} {r : Int × Bool} (h : nat_ToUint.f n l0 = some r) : CallD Tryd.prog HW 134 [.ro .u64 l0] (nat_ToUint.sg.enc r) :=
  fun_some hwS Tryd.func134 (by kernel_rfl) (body := nat_ToUint.code) (by kernel_rfl) tys_ok (c := nat_ToUint.cfg (nat_size.f n)) (orCall_ok (nat_size.call_ok (n := n)) noCall_ok) (by kernel_rfl) (by kernel_rfl) (Nat.le_of_ble_eq_true (by kernel_rfl)) ((nat_ToUint.eq n l0).trans h)
noncomputable def nat_ToUint.call {α : Type} (g : List Int → Option (Int × Bool)) (ds : List D) (K : List D → Option α) : Option α := match ds with
  | [.ro .u64 l0] => (g l0).bind fun r => K (nat_ToUint.sg.enc r)
  | _ => none
theorem nat_ToUint.call_ok {α : Type} {n : Nat} (ds : List D) (K : List D → Option α) (r : α) (h : nat_ToUint.call (nat_ToUint.f n) ds K = some r) : ∃ rs, K rs = some r ∧ CallD Tryd.prog HW 134 ds rs := by
  unfold nat_ToUint.call at h
  split at h
  · obtain ⟨x, hx, hk⟩ := Option.bind_eq_some_iff.1 h
    exact ⟨_, hk, nat_ToUint.ok (n := n) hx⟩
  · cases h
/-! ### nat_Bit: function 135 -/
noncomputable def nat_Bit.b0 (l0 : List Int) (a1 : Int) : Option (Int) := (if a1 < 0 then some 0 else (if (wrap64 (Int.tdiv a1 64)) ≥ (ln l0) then some 0 else (if 0 ≤ (wrap64 (Int.tdiv a1 64)) then (if (wrap64 (Int.tdiv a1 64)) < (ln l0) then (if 0 ≤ (IntKind.u64.wrap (Int.tmod a1 64)) then some (wrap64 (Go.bits .and .u64 (shr .u64 (rd l0 (wrap64 (Int.tdiv a1 64))) (IntKind.u64.wrap (Int.tmod a1 64))) 1)) else none) else none) else none)))
noncomputable def nat_Bit.f (l0 : List Int) (a1 : Int) : Option (Int) := nat_Bit.b0 l0 a1
noncomputable def nat_Bit.sg : Sig (Int) := s1 (sInt .i64)
noncomputable def nat_Bit.code : Code := (Tryd.f135.body).getD .skip
noncomputable def nat_Bit.cfg : Cfg (Int) := ⟨tys, noCall⟩
noncomputable def nat_Bit.cuts : List (Nat × List (Nat × Want)) := []
theorem nat_Bit.e0 (n : Nat) (J : Nat → (ASt → Option (Int)) → ASt → Option (Int)) (l0 : List Int) (a1 : Int) : afun (nat_Bit.cfg) J nat_Bit.cuts n nat_Bit.code Tryd.f135.results.toList [false] [.ro .u64 l0, .int .i64 a1] nat_Bit.sg.out = nat_Bit.b0 l0 a1 := by kernel_rfl
theorem nat_Bit.eq (n : Nat) (l0 : List Int) (a1 : Int) : afun (nat_Bit.cfg) idJ nat_Bit.cuts n nat_Bit.code Tryd.f135.results.toList [false] [.ro .u64 l0, .int .i64 a1] nat_Bit.sg.out = nat_Bit.f l0 a1 := (nat_Bit.e0 n idJ l0 a1).trans (rfl)
theorem nat_Bit.ok {n : Nat} {l0 : List Int} {a1 : Int} {r : Int} (h : nat_Bit.f l0 a1 = some r) : CallD Tryd.prog HW 135 [.ro .u64 l0, .int .i64 a1] (nat_Bit.sg.enc r) :=
  fun_some hwS Tryd.func135 (by kernel_rfl) (body := nat_Bit.code) (by kernel_rfl) tys_ok (c := nat_Bit.cfg) noCall_ok (by kernel_rfl) (by kernel_rfl) (Nat.le_of_ble_eq_true (by kernel_rfl)) ((nat_Bit.eq n l0 a1).trans h)
noncomputable def nat_Bit.call {α : Type} (g : List Int → Int → Option (Int)) (ds : List D) (K : List D → Option α) : Option α := match ds with
  | [.ro .u64 l0, .int .i64 a1] => (g l0 a1).bind fun r => K (nat_Bit.sg.enc r)
  | _ => none
theorem nat_Bit.call_ok {α : Type} {n : Nat} (ds : List D) (K : List D → Option α) (r : α) (h : nat_Bit.call nat_Bit.f ds K = some r) : ∃ rs, K rs = some r ∧ CallD Tryd.prog HW 135 ds rs := by
  unfold nat_Bit.call at h
  split at h
  · obtain ⟨x, hx, hk⟩ := Option.bind_eq_some_iff.1 h
    exact ⟨_, hk, nat_Bit.ok (n := n) hx⟩
  · cases h
/-! ### ieee_magnitude: function 123 -/
noncomputable def ieee_magnitude.b0 (c95 : List Int → Option (Int)) (c96 : List Int → Option (Int)) (c122 : List Int → Int → Option (List Int × Bool × Int)) (c134 : List Int → Option (Int × Bool)) (c135 : List Int → Int → Option (Int)) (k255 : Int → Int → Option (Int)) (l0 : List Int) (a1 : Int) (a2 : Bool) : Option (Int) := ((c95 l0).bind fun t1 => (if (ln l0) = 0 then some 0 else (if (wrap64 (t1 + a1)) < (-1074) then some 0 else (if (wrap64 (t1 + a1)) > 1024 then some 9218868437227405312 else (if (wrap64 ((mx (wrap64 ((wrap64 (t1 + a1)) - 53)) (-1074)) - a1)) ≤ 0 then (if 0 < (ln l0) then (if 0 ≤ (IntKind.u64.wrap (wrap64 (-(wrap64 ((mx (wrap64 ((wrap64 (t1 + a1)) - 53)) (-1074)) - a1))))) then k255 (mx (wrap64 ((wrap64 (t1 + a1)) - 53)) (-1074)) (shl .u64 (rd l0 0) (IntKind.u64.wrap (wrap64 (-(wrap64 ((mx (wrap64 ((wrap64 (t1 + a1)) - 53)) (-1074)) - a1)))))) else none) else none) else ((c122 l0 (wrap64 ((mx (wrap64 ((wrap64 (t1 + a1)) - 53)) (-1074)) - a1))).bind fun t2 => ((c134 t2.1).bind fun t3 => ((c135 l0 (wrap64 ((wrap64 ((mx (wrap64 ((wrap64 (t1 + a1)) - 53)) (-1074)) - a1)) - 1))).bind fun t4 => (if t4 = 1 then (if a2 = true then k255 (mx (wrap64 ((wrap64 (t1 + a1)) - 53)) (-1074)) (IntKind.u64.wrap (t3.1 + 1)) else (if (Go.bits .and .u64 t3.1 1) = 1 then k255 (mx (wrap64 ((wrap64 (t1 + a1)) - 53)) (-1074)) (IntKind.u64.wrap (t3.1 + 1)) else ((c96 l0).bind fun t5 => (if t5 < (wrap64 ((wrap64 ((mx (wrap64 ((wrap64 (t1 + a1)) - 53)) (-1074)) - a1)) - 1)) then k255 (mx (wrap64 ((wrap64 (t1 + a1)) - 53)) (-1074)) (IntKind.u64.wrap (t3.1 + 1)) else k255 (mx (wrap64 ((wrap64 (t1 + a1)) - 53)) (-1074)) t3.1)))) else k255 (mx (wrap64 ((wrap64 (t1 + a1)) - 53)) (-1074)) t3.1)))))))))
noncomputable def ieee_magnitude.b255 (c95 : List Int → Option (Int)) (c96 : List Int → Option (Int)) (c122 : List Int → Int → Option (List Int × Bool × Int)) (c134 : List Int → Option (Int × Bool)) (c135 : List Int → Int → Option (Int)) (x0 : Int) (x1 : Int) : Option (Int) := some (IntKind.u64.wrap ((IntKind.u64.wrap ((IntKind.u64.wrap (wrap64 (x0 - (-1074)))) * 4503599627370496)) + x1))
noncomputable def ieee_magnitude.l255 (n : Nat) (x0 : Int) (x1 : Int) : Option (Int) := ieee_magnitude.b255 (nat_BitLen.f n) (nat_Trail.f n) (nat_Shr.f n) (nat_ToUint.f n) nat_Bit.f x0 x1
noncomputable def ieee_magnitude.f (n : Nat) (l0 : List Int) (a1 : Int) (a2 : Bool) : Option (Int) := ieee_magnitude.b0 (nat_BitLen.f n) (nat_Trail.f n) (nat_Shr.f n) (nat_ToUint.f n) nat_Bit.f (ieee_magnitude.l255 n) l0 a1 a2
noncomputable def ieee_magnitude.sg : Sig (Int) := s1 (sInt .u64)
noncomputable def ieee_magnitude.code : Code := (Tryd.f123.body).getD .skip
noncomputable def ieee_magnitude.cfg (c95 : List Int → Option (Int)) (c96 : List Int → Option (Int)) (c122 : List Int → Int → Option (List Int × Bool × Int)) (c134 : List Int → Option (Int × Bool)) (c135 : List Int → Int → Option (Int)) : Cfg (Int) := ⟨tys, orCall 95 (nat_BitLen.call c95) (orCall 96 (nat_Trail.call c96) (orCall 122 (nat_Shr.call c122) (orCall 134 (nat_ToUint.call c134) (orCall 135 (nat_Bit.call c135) (noCall)))))⟩
noncomputable def ieee_magnitude.cuts : List (Nat × List (Nat × Want)) := [(255, [(8, .keep), (10, .keep)])]
noncomputable def ieee_magnitude.s255 (x0 : Int) (x1 : Int) : ASt := ⟨[(8, .int .i64 x0), (10, .int .u64 x1)], []⟩
noncomputable def ieee_magnitude.A (c95 : List Int → Option (Int)) (c96 : List Int → Option (Int)) (c122 : List Int → Int → Option (List Int × Bool × Int)) (c134 : List Int → Option (Int × Bool)) (c135 : List Int → Int → Option (Int)) (n : Nat) (J : Nat → (ASt → Option (Int)) → ASt → Option (Int)) (q : Nat) (ms : List Nat) : ASt → Option (Int) := acont (ieee_magnitude.cfg c95 c96 c122 c134 c135) J ieee_magnitude.cuts n q ieee_magnitude.code 1 ms (aend (ieee_magnitude.cfg c95 c96 c122 c134 c135) Tryd.f123.results.toList [false] ieee_magnitude.sg.out)
theorem ieee_magnitude.e0 (c95 : List Int → Option (Int)) (c96 : List Int → Option (Int)) (c122 : List Int → Int → Option (List Int × Bool × Int)) (c134 : List Int → Option (Int × Bool)) (c135 : List Int → Int → Option (Int)) (n : Nat) (J : Nat → (ASt → Option (Int)) → ASt → Option (Int)) (l0 : List Int) (a1 : Int) (a2 : Bool) : afun (ieee_magnitude.cfg c95 c96 c122 c134 c135) J ieee_magnitude.cuts n ieee_magnitude.code Tryd.f123.results.toList [false] [.ro .u64 l0, .int .i64 a1, .bool a2] ieee_magnitude.sg.out = ieee_magnitude.b0 c95 c96 c122 c134 c135 (fun y0 y1 => J 255 (ieee_magnitude.A c95 c96 c122 c134 c135 n J 255 []) (ieee_magnitude.s255 y0 y1)) l0 a1 a2 := by kernel_rfl
theorem ieee_magnitude.e255 (c95 : List Int → Option (Int)) (c96 : List Int → Option (Int)) (c122 : List Int → Int → Option (List Int × Bool × Int)) (c134 : List Int → Option (Int × Bool)) (c135 : List Int → Int → Option (Int)) (n : Nat) (J : Nat → (ASt → Option (Int)) → ASt → Option (Int)) (x0 : Int) (x1 : Int) : ieee_magnitude.A c95 c96 c122 c134 c135 n J 255 [] (ieee_magnitude.s255 x0 x1) = ieee_magnitude.b255 c95 c96 c122 c134 c135 x0 x1 := by kernel_rfl
theorem ieee_magnitude.q255 (n : Nat) (x0 : Int) (x1 : Int) : ieee_magnitude.A (nat_BitLen.f n) (nat_Trail.f n) (nat_Shr.f n) (nat_ToUint.f n) nat_Bit.f n idJ 255 [] (ieee_magnitude.s255 x0 x1) = ieee_magnitude.l255 n x0 x1 := (ieee_magnitude.e255 (nat_BitLen.f n) (nat_Trail.f n) (nat_Shr.f n) (nat_ToUint.f n) nat_Bit.f n idJ x0 x1).trans (rfl)
theorem ieee_magnitude.eq (n : Nat) (l0 : List Int) (a1 : Int) (a2 : Bool) : afun (ieee_magnitude.cfg (nat_BitLen.f n) (nat_Trail.f n) (nat_Shr.f n) (nat_ToUint.f n) nat_Bit.f) idJ ieee_magnitude.cuts n ieee_magnitude.code Tryd.f123.results.toList [false] [.ro .u64 l0, .int .i64 a1, .bool a2] ieee_magnitude.sg.out = ieee_magnitude.f n l0 a1 a2 := (ieee_magnitude.e0 (nat_BitLen.f n) (nat_Trail.f n) (nat_Shr.f n) (nat_ToUint.f n) nat_Bit.f n idJ l0 a1 a2).trans (congrFun (congrFun (congrFun (congrArg (ieee_magnitude.b0 (nat_BitLen.f n) (nat_Trail.f n) (nat_Shr.f n) (nat_ToUint.f n) nat_Bit.f) (funext fun y0 => (funext fun y1 => ieee_magnitude.q255 n y0 y1))) l0) a1) a2)
theorem ieee_magnitude.ok {n : Nat} {l0 : List Int} {a1 : Int} {a2 : Bool} {r : Int} (h : ieee_magnitude.f n l0 a1 a2 = some r) : CallD Tryd.prog HW 123 [.ro .u64 l0, .int .i64 a1, .bool a2] (ieee_magnitude.sg.enc r) :=
  fun_some hwS Tryd.func123 (by kernel_rfl) (body := ieee_magnitude.code) (by kernel_rfl) tys_ok (c := ieee_magnitude.cfg (nat_BitLen.f n) (nat_Trail.f n) (nat_Shr.f n) (nat_ToUint.f n) nat_Bit.f) (orCall_ok (nat_BitLen.call_ok (n := n)) (orCall_ok (nat_Trail.call_ok (n := n)) (orCall_ok (nat_Shr.call_ok (n := n)) (orCall_ok (nat_ToUint.call_ok (n := n)) (orCall_ok (nat_Bit.call_ok (n := n)) noCall_ok))))) (by kernel_rfl) (by kernel_rfl) (Nat.le_of_ble_eq_true (by kernel_rfl)) ((ieee_magnitude.eq n l0 a1 a2).trans h)
noncomputable def ieee_magnitude.call {α : Type} (g : List Int → Int → Bool → Option (Int)) (ds : List D) (K : List D → Option α) : Option α := match ds with
  | [.ro .u64 l0, .int .i64 a1, .bool a2] => (g l0 a1 a2).bind fun r => K (ieee_magnitude.sg.enc r)
  | _ => none
theorem ieee_magnitude.call_ok {α : Type} {n : Nat} (ds : List D) (K : List D → Option α) (r : α) (h : ieee_magnitude.call (ieee_magnitude.f n) ds K = some r) : ∃ rs, K rs = some r ∧ CallD Tryd.prog HW 123 ds rs := by
  unfold ieee_magnitude.call at h
  split at h
  · obtain ⟨x, hx, hk⟩ := Option.bind_eq_some_iff.1 h
    exact ⟨_, hk, ieee_magnitude.ok (n := n) hx⟩
  · cases h
/-! ### ieee_Round: function 94 -/
noncomputable def ieee_Round.b0 (c30 : Int → Option (Int)) (c51 : List Int → Int → Option (List Int × Int)) (c123 : List Int → Int → Bool → Option (Int)) (c124 : Int → Option (Int)) (a0 : Bool) (l1 : List Int) (a2 : Int) (a3 : Bool) : Option (Int × Int) := ((c51 l1 0).bind fun t1 => (if ¬ t1.2 = 0 then some (0, t1.2) else ((c124 a2).bind fun t2 => ((c123 t1.1 t2 a3).bind fun t3 => (if a0 = true then ((c30 t3).bind fun t4 => some (t4, 0)) else some (t3, 0))))))
noncomputable def ieee_Round.f (n : Nat) (a0 : Bool) (l1 : List Int) (a2 : Int) (a3 : Bool) : Option (Int × Int) := ieee_Round.b0 ieee_Neg.f (nat_Shl.f n) (ieee_magnitude.f n) ieee_near.f a0 l1 a2 a3
noncomputable def ieee_Round.sg : Sig (Int × Int) := s2 (sInt .u64) (s1 (sInt .i64))
noncomputable def ieee_Round.code : Code := (Tryd.f94.body).getD .skip
noncomputable def ieee_Round.cfg (c30 : Int → Option (Int)) (c51 : List Int → Int → Option (List Int × Int)) (c123 : List Int → Int → Bool → Option (Int)) (c124 : Int → Option (Int)) : Cfg (Int × Int) := ⟨tys, orCall 30 (ieee_Neg.call c30) (orCall 51 (nat_Shl.call c51) (orCall 123 (ieee_magnitude.call c123) (orCall 124 (ieee_near.call c124) (noCall))))⟩
noncomputable def ieee_Round.cuts : List (Nat × List (Nat × Want)) := []
theorem ieee_Round.e0 (c30 : Int → Option (Int)) (c51 : List Int → Int → Option (List Int × Int)) (c123 : List Int → Int → Bool → Option (Int)) (c124 : Int → Option (Int)) (n : Nat) (J : Nat → (ASt → Option (Int × Int)) → ASt → Option (Int × Int)) (a0 : Bool) (l1 : List Int) (a2 : Int) (a3 : Bool) : afun (ieee_Round.cfg c30 c51 c123 c124) J ieee_Round.cuts n ieee_Round.code Tryd.f94.results.toList [false, false] [.bool a0, .ro .u64 l1, .int .i64 a2, .bool a3] ieee_Round.sg.out = ieee_Round.b0 c30 c51 c123 c124 a0 l1 a2 a3 := by kernel_rfl
theorem ieee_Round.eq (n : Nat) (a0 : Bool) (l1 : List Int) (a2 : Int) (a3 : Bool) : afun (ieee_Round.cfg ieee_Neg.f (nat_Shl.f n) (ieee_magnitude.f n) ieee_near.f) idJ ieee_Round.cuts n ieee_Round.code Tryd.f94.results.toList [false, false] [.bool a0, .ro .u64 l1, .int .i64 a2, .bool a3] ieee_Round.sg.out = ieee_Round.f n a0 l1 a2 a3 := (ieee_Round.e0 ieee_Neg.f (nat_Shl.f n) (ieee_magnitude.f n) ieee_near.f n idJ a0 l1 a2 a3).trans (rfl)
theorem ieee_Round.ok {n : Nat} {a0 : Bool} {l1 : List Int} {a2 : Int} {a3 : Bool} {r : Int × Int} (h : ieee_Round.f n a0 l1 a2 a3 = some r) : CallD Tryd.prog HW 94 [.bool a0, .ro .u64 l1, .int .i64 a2, .bool a3] (ieee_Round.sg.enc r) :=
  fun_some hwS Tryd.func94 (by kernel_rfl) (body := ieee_Round.code) (by kernel_rfl) tys_ok (c := ieee_Round.cfg ieee_Neg.f (nat_Shl.f n) (ieee_magnitude.f n) ieee_near.f) (orCall_ok (ieee_Neg.call_ok (n := n)) (orCall_ok (nat_Shl.call_ok (n := n)) (orCall_ok (ieee_magnitude.call_ok (n := n)) (orCall_ok (ieee_near.call_ok (n := n)) noCall_ok)))) (by kernel_rfl) (by kernel_rfl) (Nat.le_of_ble_eq_true (by kernel_rfl)) ((ieee_Round.eq n a0 l1 a2 a3).trans h)
noncomputable def ieee_Round.call {α : Type} (g : Bool → List Int → Int → Bool → Option (Int × Int)) (ds : List D) (K : List D → Option α) : Option α := match ds with
  | [.bool a0, .ro .u64 l1, .int .i64 a2, .bool a3] => (g a0 l1 a2 a3).bind fun r => K (ieee_Round.sg.enc r)
  | _ => none
theorem ieee_Round.call_ok {α : Type} {n : Nat} (ds : List D) (K : List D → Option α) (r : α) (h : ieee_Round.call (ieee_Round.f n) ds K = some r) : ∃ rs, K rs = some r ∧ CallD Tryd.prog HW 94 ds rs := by
  unfold ieee_Round.call at h
  split at h
  · obtain ⟨x, hx, hk⟩ := Option.bind_eq_some_iff.1 h
    exact ⟨_, hk, ieee_Round.ok (n := n) hx⟩
  · cases h
/-! ### soft_aligned: function 119 -/
noncomputable def soft_aligned.b0 (c51 : List Int → Int → Option (List Int × Int)) (l0 : List Int) (a1 : Int) (l2 : List Int) (a3 : Int) : Option (List Int × List Int × Int) := (if a1 > a3 then ((c51 l0 (wrap64 (a1 - a3))).bind fun t1 => some (t1.1, l2, a3)) else ((c51 l2 (wrap64 (a3 - a1))).bind fun t2 => some (l0, t2.1, a1)))
noncomputable def soft_aligned.f (n : Nat) (l0 : List Int) (a1 : Int) (l2 : List Int) (a3 : Int) : Option (List Int × List Int × Int) := soft_aligned.b0 (nat_Shl.f n) l0 a1 l2 a3
noncomputable def soft_aligned.sg : Sig (List Int × List Int × Int) := s2 (sRow .u64) (s2 (sRow .u64) (s1 (sInt .i64)))
noncomputable def soft_aligned.code : Code := (Tryd.f119.body).getD .skip
noncomputable def soft_aligned.cfg (c51 : List Int → Int → Option (List Int × Int)) : Cfg (List Int × List Int × Int) := ⟨tys, orCall 51 (nat_Shl.call c51) (noCall)⟩
noncomputable def soft_aligned.cuts : List (Nat × List (Nat × Want)) := []
theorem soft_aligned.e0 (c51 : List Int → Int → Option (List Int × Int)) (n : Nat) (J : Nat → (ASt → Option (List Int × List Int × Int)) → ASt → Option (List Int × List Int × Int)) (l0 : List Int) (a1 : Int) (l2 : List Int) (a3 : Int) : afun (soft_aligned.cfg c51) J soft_aligned.cuts n soft_aligned.code Tryd.f119.results.toList [false, false, false] [.ro .u64 l0, .int .i64 a1, .ro .u64 l2, .int .i64 a3] soft_aligned.sg.out = soft_aligned.b0 c51 l0 a1 l2 a3 := by kernel_rfl
theorem soft_aligned.eq (n : Nat) (l0 : List Int) (a1 : Int) (l2 : List Int) (a3 : Int) : afun (soft_aligned.cfg (nat_Shl.f n)) idJ soft_aligned.cuts n soft_aligned.code Tryd.f119.results.toList [false, false, false] [.ro .u64 l0, .int .i64 a1, .ro .u64 l2, .int .i64 a3] soft_aligned.sg.out = soft_aligned.f n l0 a1 l2 a3 := (soft_aligned.e0 (nat_Shl.f n) n idJ l0 a1 l2 a3).trans (rfl)
theorem soft_aligned.ok {n : Nat} {l0 : List Int} {a1 : Int} {l2 : List Int} {a3 : Int} {r : List Int × List Int × Int} (h : soft_aligned.f n l0 a1 l2 a3 = some r) : CallD Tryd.prog HW 119 [.ro .u64 l0, .int .i64 a1, .ro .u64 l2, .int .i64 a3] (soft_aligned.sg.enc r) :=
  fun_some hwS Tryd.func119 (by kernel_rfl) (body := soft_aligned.code) (by kernel_rfl) tys_ok (c := soft_aligned.cfg (nat_Shl.f n)) (orCall_ok (nat_Shl.call_ok (n := n)) noCall_ok) (by kernel_rfl) (by kernel_rfl) (Nat.le_of_ble_eq_true (by kernel_rfl)) ((soft_aligned.eq n l0 a1 l2 a3).trans h)
noncomputable def soft_aligned.call {α : Type} (g : List Int → Int → List Int → Int → Option (List Int × List Int × Int)) (ds : List D) (K : List D → Option α) : Option α := match ds with
  | [.ro .u64 l0, .int .i64 a1, .ro .u64 l2, .int .i64 a3] => (g l0 a1 l2 a3).bind fun r => K (soft_aligned.sg.enc r)
  | _ => none
theorem soft_aligned.call_ok {α : Type} {n : Nat} (ds : List D) (K : List D → Option α) (r : α) (h : soft_aligned.call (soft_aligned.f n) ds K = some r) : ∃ rs, K rs = some r ∧ CallD Tryd.prog HW 119 ds rs := by
  unfold soft_aligned.call at h
  split at h
  · obtain ⟨x, hx, hk⟩ := Option.bind_eq_some_iff.1 h
    exact ⟨_, hk, soft_aligned.ok (n := n) hx⟩
  · cases h
/-! ### soft_fraction_flags: function 118 -/
noncomputable def soft_fraction_flags.b0 (c18 : List Int → List Int → Option (Int)) (c29 : Int → Option (Bool × Int × Int × Int)) (c49 : List Int → List Int → Option (List Int × Int)) (c50 : Int → Option (List Int)) (c119 : List Int → Int → List Int → Int → Option (List Int × List Int × Int)) (a0 : Bool) (l1 : List Int) (l2 : List Int) (a3 : Int) (a4 : Int) : Option (Int) := ((c29 a4).bind fun t1 => (if t1.2.1 = 3 then some 20 else ((c50 t1.2.2.1).bind fun t2 => ((c49 l2 t2).bind fun t3 => ((c119 l1 a3 t3.1 t1.2.2.2).bind fun t4 => ((c18 t4.1 t4.2.1).bind fun t5 => (if t5 = 0 then some 0 else ((c119 l1 a3 l2 (-1022)).bind fun t6 => ((c18 t6.1 t6.2.1).bind fun t7 => (if t7 < 0 then some 24 else some 16))))))))))
noncomputable def soft_fraction_flags.f (n : Nat) (a0 : Bool) (l1 : List Int) (l2 : List Int) (a3 : Int) (a4 : Int) : Option (Int) := soft_fraction_flags.b0 (nat_Cmp.f n) ieee_Decode.f (nat_Mul.f n) nat_FromUint.f (soft_aligned.f n) a0 l1 l2 a3 a4
noncomputable def soft_fraction_flags.sg : Sig (Int) := s1 (sInt .i64)
noncomputable def soft_fraction_flags.code : Code := (Tryd.f118.body).getD .skip
noncomputable def soft_fraction_flags.cfg (c18 : List Int → List Int → Option (Int)) (c29 : Int → Option (Bool × Int × Int × Int)) (c49 : List Int → List Int → Option (List Int × Int)) (c50 : Int → Option (List Int)) (c119 : List Int → Int → List Int → Int → Option (List Int × List Int × Int)) : Cfg (Int) := ⟨tys, orCall 18 (nat_Cmp.call c18) (orCall 29 (ieee_Decode.call c29) (orCall 49 (nat_Mul.call c49) (orCall 50 (nat_FromUint.call c50) (orCall 119 (soft_aligned.call c119) (noCall)))))⟩
noncomputable def soft_fraction_flags.cuts : List (Nat × List (Nat × Want)) := []
theorem soft_fraction_flags.e0 (c18 : List Int → List Int → Option (Int)) (c29 : Int → Option (Bool × Int × Int × Int)) (c49 : List Int → List Int → Option (List Int × Int)) (c50 : Int → Option (List Int)) (c119 : List Int → Int → List Int → Int → Option (List Int × List Int × Int)) (n : Nat) (J : Nat → (ASt → Option (Int)) → ASt → Option (Int)) (a0 : Bool) (l1 : List Int) (l2 : List Int) (a3 : Int) (a4 : Int) : afun (soft_fraction_flags.cfg c18 c29 c49 c50 c119) J soft_fraction_flags.cuts n soft_fraction_flags.code Tryd.f118.results.toList [false] [.agg [.bool a0, .ro .u64 l1, .ro .u64 l2, .int .i64 a3], .int .u64 a4] soft_fraction_flags.sg.out = soft_fraction_flags.b0 c18 c29 c49 c50 c119 a0 l1 l2 a3 a4 := by kernel_rfl
theorem soft_fraction_flags.eq (n : Nat) (a0 : Bool) (l1 : List Int) (l2 : List Int) (a3 : Int) (a4 : Int) : afun (soft_fraction_flags.cfg (nat_Cmp.f n) ieee_Decode.f (nat_Mul.f n) nat_FromUint.f (soft_aligned.f n)) idJ soft_fraction_flags.cuts n soft_fraction_flags.code Tryd.f118.results.toList [false] [.agg [.bool a0, .ro .u64 l1, .ro .u64 l2, .int .i64 a3], .int .u64 a4] soft_fraction_flags.sg.out = soft_fraction_flags.f n a0 l1 l2 a3 a4 := (soft_fraction_flags.e0 (nat_Cmp.f n) ieee_Decode.f (nat_Mul.f n) nat_FromUint.f (soft_aligned.f n) n idJ a0 l1 l2 a3 a4).trans (rfl)
theorem soft_fraction_flags.ok {n : Nat} {a0 : Bool} {l1 : List Int} {l2 : List Int} {a3 : Int} {a4 : Int} {r : Int} (h : soft_fraction_flags.f n a0 l1 l2 a3 a4 = some r) : CallD Tryd.prog HW 118 [.agg [.bool a0, .ro .u64 l1, .ro .u64 l2, .int .i64 a3], .int .u64 a4] (soft_fraction_flags.sg.enc r) :=
  fun_some hwS Tryd.func118 (by kernel_rfl) (body := soft_fraction_flags.code) (by kernel_rfl) tys_ok (c := soft_fraction_flags.cfg (nat_Cmp.f n) ieee_Decode.f (nat_Mul.f n) nat_FromUint.f (soft_aligned.f n)) (orCall_ok (nat_Cmp.call_ok (n := n)) (orCall_ok (ieee_Decode.call_ok (n := n)) (orCall_ok (nat_Mul.call_ok (n := n)) (orCall_ok (nat_FromUint.call_ok (n := n)) (orCall_ok (soft_aligned.call_ok (n := n)) noCall_ok))))) (by kernel_rfl) (by kernel_rfl) (Nat.le_of_ble_eq_true (by kernel_rfl)) ((soft_fraction_flags.eq n a0 l1 l2 a3 a4).trans h)
noncomputable def soft_fraction_flags.call {α : Type} (g : Bool → List Int → List Int → Int → Int → Option (Int)) (ds : List D) (K : List D → Option α) : Option α := match ds with
  | [.agg [.bool a0, .ro .u64 l1, .ro .u64 l2, .int .i64 a3], .int .u64 a4] => (g a0 l1 l2 a3 a4).bind fun r => K (soft_fraction_flags.sg.enc r)
  | _ => none
theorem soft_fraction_flags.call_ok {α : Type} {n : Nat} (ds : List D) (K : List D → Option α) (r : α) (h : soft_fraction_flags.call (soft_fraction_flags.f n) ds K = some r) : ∃ rs, K rs = some r ∧ CallD Tryd.prog HW 118 ds rs := by
  unfold soft_fraction_flags.call at h
  split at h
  · obtain ⟨x, hx, hk⟩ := Option.bind_eq_some_iff.1 h
    exact ⟨_, hk, soft_fraction_flags.ok (n := n) hx⟩
  · cases h
/-! ### soft_term_rounded: function 89 -/
noncomputable def soft_term_rounded.b0 (c90 : Bool → Int → Option (Int)) (c94 : Bool → List Int → Int → Bool → Option (Int × Int)) (c118 : Bool → List Int → List Int → Int → Int → Option (Int)) (a0 : Bool) (l1 : List Int) (a2 : Int) : Option (Int × Int) := (if (ln l1) = 0 then ((c90 a0 0).bind fun t1 => some (t1, 0)) else ((c94 a0 l1 a2 false).bind fun t2 => ((c118 a0 l1 [1] a2 t2.1).bind fun t3 => some (t2.1, t3))))
noncomputable def soft_term_rounded.f (n : Nat) (a0 : Bool) (l1 : List Int) (a2 : Int) : Option (Int × Int) := soft_term_rounded.b0 soft_withSign.f (ieee_Round.f n) (soft_fraction_flags.f n) a0 l1 a2
noncomputable def soft_term_rounded.sg : Sig (Int × Int) := s2 (sInt .u64) (s1 (sInt .i64))
noncomputable def soft_term_rounded.code : Code := (Tryd.f89.body).getD .skip
noncomputable def soft_term_rounded.cfg (c90 : Bool → Int → Option (Int)) (c94 : Bool → List Int → Int → Bool → Option (Int × Int)) (c118 : Bool → List Int → List Int → Int → Int → Option (Int)) : Cfg (Int × Int) := ⟨tys, orCall 90 (soft_withSign.call c90) (orCall 94 (ieee_Round.call c94) (orCall 118 (soft_fraction_flags.call c118) (noCall)))⟩
noncomputable def soft_term_rounded.cuts : List (Nat × List (Nat × Want)) := []
theorem soft_term_rounded.e0 (c90 : Bool → Int → Option (Int)) (c94 : Bool → List Int → Int → Bool → Option (Int × Int)) (c118 : Bool → List Int → List Int → Int → Int → Option (Int)) (n : Nat) (J : Nat → (ASt → Option (Int × Int)) → ASt → Option (Int × Int)) (a0 : Bool) (l1 : List Int) (a2 : Int) : afun (soft_term_rounded.cfg c90 c94 c118) J soft_term_rounded.cuts n soft_term_rounded.code Tryd.f89.results.toList [false, false] [.agg [.bool a0, .ro .u64 l1, .int .i64 a2]] soft_term_rounded.sg.out = soft_term_rounded.b0 c90 c94 c118 a0 l1 a2 := by kernel_rfl
theorem soft_term_rounded.eq (n : Nat) (a0 : Bool) (l1 : List Int) (a2 : Int) : afun (soft_term_rounded.cfg soft_withSign.f (ieee_Round.f n) (soft_fraction_flags.f n)) idJ soft_term_rounded.cuts n soft_term_rounded.code Tryd.f89.results.toList [false, false] [.agg [.bool a0, .ro .u64 l1, .int .i64 a2]] soft_term_rounded.sg.out = soft_term_rounded.f n a0 l1 a2 := (soft_term_rounded.e0 soft_withSign.f (ieee_Round.f n) (soft_fraction_flags.f n) n idJ a0 l1 a2).trans (rfl)
theorem soft_term_rounded.ok {n : Nat} {a0 : Bool} {l1 : List Int} {a2 : Int} {r : Int × Int} (h : soft_term_rounded.f n a0 l1 a2 = some r) : CallD Tryd.prog HW 89 [.agg [.bool a0, .ro .u64 l1, .int .i64 a2]] (soft_term_rounded.sg.enc r) :=
  fun_some hwS Tryd.func89 (by kernel_rfl) (body := soft_term_rounded.code) (by kernel_rfl) tys_ok (c := soft_term_rounded.cfg soft_withSign.f (ieee_Round.f n) (soft_fraction_flags.f n)) (orCall_ok (soft_withSign.call_ok (n := n)) (orCall_ok (ieee_Round.call_ok (n := n)) (orCall_ok (soft_fraction_flags.call_ok (n := n)) noCall_ok))) (by kernel_rfl) (by kernel_rfl) (Nat.le_of_ble_eq_true (by kernel_rfl)) ((soft_term_rounded.eq n a0 l1 a2).trans h)
noncomputable def soft_term_rounded.call {α : Type} (g : Bool → List Int → Int → Option (Int × Int)) (ds : List D) (K : List D → Option α) : Option α := match ds with
  | [.agg [.bool a0, .ro .u64 l1, .int .i64 a2]] => (g a0 l1 a2).bind fun r => K (soft_term_rounded.sg.enc r)
  | _ => none
theorem soft_term_rounded.call_ok {α : Type} {n : Nat} (ds : List D) (K : List D → Option α) (r : α) (h : soft_term_rounded.call (soft_term_rounded.f n) ds K = some r) : ∃ rs, K rs = some r ∧ CallD Tryd.prog HW 89 ds rs := by
  unfold soft_term_rounded.call at h
  split at h
  · obtain ⟨x, hx, hk⟩ := Option.bind_eq_some_iff.1 h
    exact ⟨_, hk, soft_term_rounded.ok (n := n) hx⟩
  · cases h
/-! ### soft_mul: function 58 -/
noncomputable def soft_mul.b0 (c29 : Int → Option (Bool × Int × Int × Int)) (c86 : Option (Int × Int)) (c89 : Bool → List Int → Int → Option (Int × Int)) (c90 : Bool → Int → Option (Int)) (c91 : Bool → Int → Int → Int → Bool → Int → Int → Int → Option (Bool × List Int × Int)) (k487 : Bool → Bool → Bool → Int → Int → Int → Bool → Int → Int → Int → Option (Int × Int)) (a0 : Int) (a1 : Int) (a2 : Int) : Option (Int × Int) := ((c29 a0).bind fun t1 => ((c29 a1).bind fun t2 => (if t1.2.1 = 4 then some (9221120237041090560, 0) else (if t2.2.1 = 4 then some (9221120237041090560, 0) else (if t1.2.1 = 3 then (if t2.2.1 = 0 then k487 (t1.1 != t2.1) true t1.1 t1.2.1 t1.2.2.1 t1.2.2.2 t2.1 t2.2.1 t2.2.2.1 t2.2.2.2 else (if t1.2.1 = 0 then k487 (t1.1 != t2.1) (decide (t2.2.1 = 3)) t1.1 t1.2.1 t1.2.2.1 t1.2.2.2 t2.1 t2.2.1 t2.2.2.1 t2.2.2.2 else k487 (t1.1 != t2.1) false t1.1 t1.2.1 t1.2.2.1 t1.2.2.2 t2.1 t2.2.1 t2.2.2.1 t2.2.2.2)) else (if t1.2.1 = 0 then k487 (t1.1 != t2.1) (decide (t2.2.1 = 3)) t1.1 t1.2.1 t1.2.2.1 t1.2.2.2 t2.1 t2.2.1 t2.2.2.1 t2.2.2.2 else k487 (t1.1 != t2.1) false t1.1 t1.2.1 t1.2.2.1 t1.2.2.2 t2.1 t2.2.1 t2.2.2.1 t2.2.2.2))))))
noncomputable def soft_mul.b487 (c29 : Int → Option (Bool × Int × Int × Int)) (c86 : Option (Int × Int)) (c89 : Bool → List Int → Int → Option (Int × Int)) (c90 : Bool → Int → Option (Int)) (c91 : Bool → Int → Int → Int → Bool → Int → Int → Int → Option (Bool × List Int × Int)) (x0 : Bool) (x1 : Bool) (x2 : Bool) (x3 : Int) (x4 : Int) (x5 : Int) (x6 : Bool) (x7 : Int) (x8 : Int) (x9 : Int) : Option (Int × Int) := (if x1 = true then ((c86).bind fun t1 => some (t1.1, t1.2)) else (if x3 = 3 then ((c90 x0 9218868437227405312).bind fun t2 => some (t2, 0)) else (if x7 = 3 then ((c90 x0 9218868437227405312).bind fun t3 => some (t3, 0)) else ((c91 x2 x3 x4 x5 x6 x7 x8 x9).bind fun t4 => ((c89 t4.1 t4.2.1 t4.2.2).bind fun t5 => some (t5.1, t5.2))))))
noncomputable def soft_mul.l487 (n : Nat) (x0 : Bool) (x1 : Bool) (x2 : Bool) (x3 : Int) (x4 : Int) (x5 : Int) (x6 : Bool) (x7 : Int) (x8 : Int) (x9 : Int) : Option (Int × Int) := soft_mul.b487 ieee_Decode.f soft_invalid.f (soft_term_rounded.f n) soft_withSign.f (soft_product.f n) x0 x1 x2 x3 x4 x5 x6 x7 x8 x9
noncomputable def soft_mul.f (n : Nat) (a0 : Int) (a1 : Int) (a2 : Int) : Option (Int × Int) := soft_mul.b0 ieee_Decode.f soft_invalid.f (soft_term_rounded.f n) soft_withSign.f (soft_product.f n) (soft_mul.l487 n) a0 a1 a2
noncomputable def soft_mul.sg : Sig (Int × Int) := s2 (sInt .u64) (s1 (sInt .i64))
noncomputable def soft_mul.code : Code := (Tryd.f58.body).getD .skip
noncomputable def soft_mul.cfg (c29 : Int → Option (Bool × Int × Int × Int)) (c86 : Option (Int × Int)) (c89 : Bool → List Int → Int → Option (Int × Int)) (c90 : Bool → Int → Option (Int)) (c91 : Bool → Int → Int → Int → Bool → Int → Int → Int → Option (Bool × List Int × Int)) : Cfg (Int × Int) := ⟨tys, orCall 29 (ieee_Decode.call c29) (orCall 86 (soft_invalid.call c86) (orCall 89 (soft_term_rounded.call c89) (orCall 90 (soft_withSign.call c90) (orCall 91 (soft_product.call c91) (noCall)))))⟩
noncomputable def soft_mul.cuts : List (Nat × List (Nat × Want)) := [(487, [(8, .keep), (9, .keep), (10, .keep), (29, .keep)])]
noncomputable def soft_mul.s487 (x0 : Bool) (x1 : Bool) (x2 : Bool) (x3 : Int) (x4 : Int) (x5 : Int) (x6 : Bool) (x7 : Int) (x8 : Int) (x9 : Int) : ASt := ⟨[(8, .ptr 0 0), (9, .ptr 1 0), (10, .bool x0), (29, .bool x1)], [.cells 39 [.bool x2, .int .i64 x3, .int .u64 x4, .int .i64 x5], .cells 39 [.bool x6, .int .i64 x7, .int .u64 x8, .int .i64 x9]]⟩
noncomputable def soft_mul.A (c29 : Int → Option (Bool × Int × Int × Int)) (c86 : Option (Int × Int)) (c89 : Bool → List Int → Int → Option (Int × Int)) (c90 : Bool → Int → Option (Int)) (c91 : Bool → Int → Int → Int → Bool → Int → Int → Int → Option (Bool × List Int × Int)) (n : Nat) (J : Nat → (ASt → Option (Int × Int)) → ASt → Option (Int × Int)) (q : Nat) (ms : List Nat) : ASt → Option (Int × Int) := acont (soft_mul.cfg c29 c86 c89 c90 c91) J soft_mul.cuts n q soft_mul.code 1 ms (aend (soft_mul.cfg c29 c86 c89 c90 c91) Tryd.f58.results.toList [false, false] soft_mul.sg.out)
theorem soft_mul.e0 (c29 : Int → Option (Bool × Int × Int × Int)) (c86 : Option (Int × Int)) (c89 : Bool → List Int → Int → Option (Int × Int)) (c90 : Bool → Int → Option (Int)) (c91 : Bool → Int → Int → Int → Bool → Int → Int → Int → Option (Bool × List Int × Int)) (n : Nat) (J : Nat → (ASt → Option (Int × Int)) → ASt → Option (Int × Int)) (a0 : Int) (a1 : Int) (a2 : Int) : afun (soft_mul.cfg c29 c86 c89 c90 c91) J soft_mul.cuts n soft_mul.code Tryd.f58.results.toList [false, false] [.int .u64 a0, .int .u64 a1, .int .u64 a2] soft_mul.sg.out = soft_mul.b0 c29 c86 c89 c90 c91 (fun y0 y1 y2 y3 y4 y5 y6 y7 y8 y9 => J 487 (soft_mul.A c29 c86 c89 c90 c91 n J 487 []) (soft_mul.s487 y0 y1 y2 y3 y4 y5 y6 y7 y8 y9)) a0 a1 a2 := by kernel_rfl
theorem soft_mul.e487 (c29 : Int → Option (Bool × Int × Int × Int)) (c86 : Option (Int × Int)) (c89 : Bool → List Int → Int → Option (Int × Int)) (c90 : Bool → Int → Option (Int)) (c91 : Bool → Int → Int → Int → Bool → Int → Int → Int → Option (Bool × List Int × Int)) (n : Nat) (J : Nat → (ASt → Option (Int × Int)) → ASt → Option (Int × Int)) (x0 : Bool) (x1 : Bool) (x2 : Bool) (x3 : Int) (x4 : Int) (x5 : Int) (x6 : Bool) (x7 : Int) (x8 : Int) (x9 : Int) : soft_mul.A c29 c86 c89 c90 c91 n J 487 [] (soft_mul.s487 x0 x1 x2 x3 x4 x5 x6 x7 x8 x9) = soft_mul.b487 c29 c86 c89 c90 c91 x0 x1 x2 x3 x4 x5 x6 x7 x8 x9 := by kernel_rfl
theorem soft_mul.q487 (n : Nat) (x0 : Bool) (x1 : Bool) (x2 : Bool) (x3 : Int) (x4 : Int) (x5 : Int) (x6 : Bool) (x7 : Int) (x8 : Int) (x9 : Int) : soft_mul.A ieee_Decode.f soft_invalid.f (soft_term_rounded.f n) soft_withSign.f (soft_product.f n) n idJ 487 [] (soft_mul.s487 x0 x1 x2 x3 x4 x5 x6 x7 x8 x9) = soft_mul.l487 n x0 x1 x2 x3 x4 x5 x6 x7 x8 x9 := (soft_mul.e487 ieee_Decode.f soft_invalid.f (soft_term_rounded.f n) soft_withSign.f (soft_product.f n) n idJ x0 x1 x2 x3 x4 x5 x6 x7 x8 x9).trans (rfl)
theorem soft_mul.eq (n : Nat) (a0 : Int) (a1 : Int) (a2 : Int) : afun (soft_mul.cfg ieee_Decode.f soft_invalid.f (soft_term_rounded.f n) soft_withSign.f (soft_product.f n)) idJ soft_mul.cuts n soft_mul.code Tryd.f58.results.toList [false, false] [.int .u64 a0, .int .u64 a1, .int .u64 a2] soft_mul.sg.out = soft_mul.f n a0 a1 a2 := (soft_mul.e0 ieee_Decode.f soft_invalid.f (soft_term_rounded.f n) soft_withSign.f (soft_product.f n) n idJ a0 a1 a2).trans (congrFun (congrFun (congrFun (congrArg (soft_mul.b0 ieee_Decode.f soft_invalid.f (soft_term_rounded.f n) soft_withSign.f (soft_product.f n)) (funext fun y0 => (funext fun y1 => (funext fun y2 => (funext fun y3 => (funext fun y4 => (funext fun y5 => (funext fun y6 => (funext fun y7 => (funext fun y8 => (funext fun y9 => soft_mul.q487 n y0 y1 y2 y3 y4 y5 y6 y7 y8 y9))))))))))) a0) a1) a2)
theorem soft_mul.ok {n : Nat} {a0 : Int} {a1 : Int} {a2 : Int} {r : Int × Int} (h : soft_mul.f n a0 a1 a2 = some r) : CallD Tryd.prog HW 58 [.int .u64 a0, .int .u64 a1, .int .u64 a2] (soft_mul.sg.enc r) :=
  fun_some hwS Tryd.func58 (by kernel_rfl) (body := soft_mul.code) (by kernel_rfl) tys_ok (c := soft_mul.cfg ieee_Decode.f soft_invalid.f (soft_term_rounded.f n) soft_withSign.f (soft_product.f n)) (orCall_ok (ieee_Decode.call_ok (n := n)) (orCall_ok (soft_invalid.call_ok (n := n)) (orCall_ok (soft_term_rounded.call_ok (n := n)) (orCall_ok (soft_withSign.call_ok (n := n)) (orCall_ok (soft_product.call_ok (n := n)) noCall_ok))))) (by kernel_rfl) (by kernel_rfl) (Nat.le_of_ble_eq_true (by kernel_rfl)) ((soft_mul.eq n a0 a1 a2).trans h)
noncomputable def soft_mul.call {α : Type} (g : Int → Int → Int → Option (Int × Int)) (ds : List D) (K : List D → Option α) : Option α := match ds with
  | [.int .u64 a0, .int .u64 a1, .int .u64 a2] => (g a0 a1 a2).bind fun r => K (soft_mul.sg.enc r)
  | _ => none
theorem soft_mul.call_ok {α : Type} {n : Nat} (ds : List D) (K : List D → Option α) (r : α) (h : soft_mul.call (soft_mul.f n) ds K = some r) : ∃ rs, K rs = some r ∧ CallD Tryd.prog HW 58 ds rs := by
  unfold soft_mul.call at h
  split at h
  · obtain ⟨x, hx, hk⟩ := Option.bind_eq_some_iff.1 h
    exact ⟨_, hk, soft_mul.ok (n := n) hx⟩
  · cases h
/-! ### soft_Mul: function 27 -/
noncomputable def soft_Mul.b0 (c58 : Int → Int → Int → Option (Int × Int)) (a0 : Int) (a1 : Int) : Option (Int) := ((c58 a0 a1 0).bind fun t1 => some t1.1)
noncomputable def soft_Mul.f (n : Nat) (a0 : Int) (a1 : Int) : Option (Int) := soft_Mul.b0 (soft_mul.f n) a0 a1
noncomputable def soft_Mul.sg : Sig (Int) := s1 (sInt .u64)
noncomputable def soft_Mul.code : Code := (Tryd.f27.body).getD .skip
noncomputable def soft_Mul.cfg (c58 : Int → Int → Int → Option (Int × Int)) : Cfg (Int) := ⟨tys, orCall 58 (soft_mul.call c58) (noCall)⟩
noncomputable def soft_Mul.cuts : List (Nat × List (Nat × Want)) := []
theorem soft_Mul.e0 (c58 : Int → Int → Int → Option (Int × Int)) (n : Nat) (J : Nat → (ASt → Option (Int)) → ASt → Option (Int)) (a0 : Int) (a1 : Int) : afun (soft_Mul.cfg c58) J soft_Mul.cuts n soft_Mul.code Tryd.f27.results.toList [false] [.int .u64 a0, .int .u64 a1] soft_Mul.sg.out = soft_Mul.b0 c58 a0 a1 := by kernel_rfl
theorem soft_Mul.eq (n : Nat) (a0 : Int) (a1 : Int) : afun (soft_Mul.cfg (soft_mul.f n)) idJ soft_Mul.cuts n soft_Mul.code Tryd.f27.results.toList [false] [.int .u64 a0, .int .u64 a1] soft_Mul.sg.out = soft_Mul.f n a0 a1 := (soft_Mul.e0 (soft_mul.f n) n idJ a0 a1).trans (rfl)
theorem soft_Mul.ok {n : Nat} {a0 : Int} {a1 : Int} {r : Int} (h : soft_Mul.f n a0 a1 = some r) : CallD Tryd.prog HW 27 [.int .u64 a0, .int .u64 a1] (soft_Mul.sg.enc r) :=
  fun_some hwS Tryd.func27 (by kernel_rfl) (body := soft_Mul.code) (by kernel_rfl) tys_ok (c := soft_Mul.cfg (soft_mul.f n)) (orCall_ok (soft_mul.call_ok (n := n)) noCall_ok) (by kernel_rfl) (by kernel_rfl) (Nat.le_of_ble_eq_true (by kernel_rfl)) ((soft_Mul.eq n a0 a1).trans h)
noncomputable def soft_Mul.call {α : Type} (g : Int → Int → Option (Int)) (ds : List D) (K : List D → Option α) : Option α := match ds with
  | [.int .u64 a0, .int .u64 a1] => (g a0 a1).bind fun r => K (soft_Mul.sg.enc r)
  | _ => none
theorem soft_Mul.call_ok {α : Type} {n : Nat} (ds : List D) (K : List D → Option α) (r : α) (h : soft_Mul.call (soft_Mul.f n) ds K = some r) : ∃ rs, K rs = some r ∧ CallD Tryd.prog HW 27 ds rs := by
  unfold soft_Mul.call at h
  split at h
  · obtain ⟨x, hx, hk⟩ := Option.bind_eq_some_iff.1 h
    exact ⟨_, hk, soft_Mul.ok (n := n) hx⟩
  · cases h
/-! ### soft_termOf: function 87 -/
noncomputable def soft_termOf.b0 (c50 : Int → Option (List Int)) (a0 : Bool) (a1 : Int) (a2 : Int) (a3 : Int) : Option (Bool × List Int × Int) := ((c50 a2).bind fun t1 => some (a0, t1, a3))
noncomputable def soft_termOf.f (a0 : Bool) (a1 : Int) (a2 : Int) (a3 : Int) : Option (Bool × List Int × Int) := soft_termOf.b0 nat_FromUint.f a0 a1 a2 a3
noncomputable def soft_termOf.sg : Sig (Bool × List Int × Int) := s1 (sAgg (s2 (sBool) (s2 (sRow .u64) (s1 (sInt .i64)))))
noncomputable def soft_termOf.code : Code := (Tryd.f87.body).getD .skip
noncomputable def soft_termOf.cfg (c50 : Int → Option (List Int)) : Cfg (Bool × List Int × Int) := ⟨tys, orCall 50 (nat_FromUint.call c50) (noCall)⟩
noncomputable def soft_termOf.cuts : List (Nat × List (Nat × Want)) := []
theorem soft_termOf.e0 (c50 : Int → Option (List Int)) (n : Nat) (J : Nat → (ASt → Option (Bool × List Int × Int)) → ASt → Option (Bool × List Int × Int)) (a0 : Bool) (a1 : Int) (a2 : Int) (a3 : Int) : afun (soft_termOf.cfg c50) J soft_termOf.cuts n soft_termOf.code Tryd.f87.results.toList [false] [.agg [.bool a0, .int .i64 a1, .int .u64 a2, .int .i64 a3]] soft_termOf.sg.out = soft_termOf.b0 c50 a0 a1 a2 a3 := by kernel_rfl
theorem soft_termOf.eq (n : Nat) (a0 : Bool) (a1 : Int) (a2 : Int) (a3 : Int) : afun (soft_termOf.cfg nat_FromUint.f) idJ soft_termOf.cuts n soft_termOf.code Tryd.f87.results.toList [false] [.agg [.bool a0, .int .i64 a1, .int .u64 a2, .int .i64 a3]] soft_termOf.sg.out = soft_termOf.f a0 a1 a2 a3 := (soft_termOf.e0 nat_FromUint.f n idJ a0 a1 a2 a3).trans (rfl)
theorem soft_termOf.ok {n : Nat} {a0 : Bool} {a1 : Int} {a2 : Int} {a3 : Int} {r : Bool × List Int × Int} (h : soft_termOf.f a0 a1 a2 a3 = some r) : CallD Tryd.prog HW 87 [.agg [.bool a0, .int .i64 a1, .int .u64 a2, .int .i64 a3]] (soft_termOf.sg.enc r) :=
  fun_some hwS Tryd.func87 (by kernel_rfl) (body := soft_termOf.code) (by kernel_rfl) tys_ok (c := soft_termOf.cfg nat_FromUint.f) (orCall_ok (nat_FromUint.call_ok (n := n)) noCall_ok) (by kernel_rfl) (by kernel_rfl) (Nat.le_of_ble_eq_true (by kernel_rfl)) ((soft_termOf.eq n a0 a1 a2 a3).trans h)
noncomputable def soft_termOf.call {α : Type} (g : Bool → Int → Int → Int → Option (Bool × List Int × Int)) (ds : List D) (K : List D → Option α) : Option α := match ds with
  | [.agg [.bool a0, .int .i64 a1, .int .u64 a2, .int .i64 a3]] => (g a0 a1 a2 a3).bind fun r => K (soft_termOf.sg.enc r)
  | _ => none
theorem soft_termOf.call_ok {α : Type} {n : Nat} (ds : List D) (K : List D → Option α) (r : α) (h : soft_termOf.call soft_termOf.f ds K = some r) : ∃ rs, K rs = some r ∧ CallD Tryd.prog HW 87 ds rs := by
  unfold soft_termOf.call at h
  split at h
  · obtain ⟨x, hx, hk⟩ := Option.bind_eq_some_iff.1 h
    exact ⟨_, hk, soft_termOf.ok (n := n) hx⟩
  · cases h
/-! ### nat_Add: function 55 -/
noncomputable def nat_Add.b0 (c52 : List Int → Option (Int)) (c81 : List Int → Option (Bool)) (c83 : Int → Int → Int → Option (Int × Int)) (c84 : List Int → Option (List Int × Int)) (k31 : List Int → List Int → Option (List Int × Int)) (l0 : List Int) (l1 : List Int) : Option (List Int × Int) := ((c81 l0).bind fun t1 => (if t1 = true then some (([] : List Int), 2) else ((c81 l1).bind fun t2 => (if t2 = true then some (([] : List Int), 2) else ((c52 l0).bind fun t3 => (if 0 ≤ t3 then (if t3 ≤ (ln l0) then ((some (l0.take t3.toNat) : Option (List Int)).bind fun y4 => ((c52 l1).bind fun t5 => (if 0 ≤ t5 then (if t5 ≤ (ln l1) then ((some (l1.take t5.toNat) : Option (List Int)).bind fun y6 => (if (ln y4) < (ln y6) then k31 y6 y4 else k31 y4 y6)) else none) else none))) else none) else none))))))
noncomputable def nat_Add.b31 (c52 : List Int → Option (Int)) (c81 : List Int → Option (Bool)) (c83 : Int → Int → Int → Option (Int × Int)) (c84 : List Int → Option (List Int × Int)) (k2037 : List Int → List Int → Int → Int → Int → List Int → Option (List Int × Int)) (x0 : List Int) (x1 : List Int) : Option (List Int × Int) := (if 0 ≤ (wrap64 ((ln x0) + 1)) then (if (wrap64 ((ln x0) + 1)).toNat ≤ 35184372088832 then k2037 x0 x1 0 0 (ln x0) (List.replicate (wrap64 ((ln x0) + 1)).toNat 0) else none) else none)
noncomputable def nat_Add.b255 (c52 : List Int → Option (Int)) (c81 : List Int → Option (Bool)) (c83 : Int → Int → Int → Option (Int × Int)) (c84 : List Int → Option (List Int × Int)) (x0 : List Int) (x1 : Int) (x2 : List Int) : Option (List Int × Int) := (if 0 ≤ (ln x0) then (if (ln x0) < (ln x2) then ((c84 (x2.set ((ln x0) : Int).toNat x1)).bind fun t1 => some (t1.1, t1.2)) else none) else none)
noncomputable def nat_Add.b2037 (c52 : List Int → Option (Int)) (c81 : List Int → Option (Bool)) (c83 : Int → Int → Int → Option (Int × Int)) (c84 : List Int → Option (List Int × Int)) (k255 : List Int → Int → List Int → Option (List Int × Int)) (k260711 : List Int → List Int → Int → Int → Int → Int → Int → List Int → Option (List Int × Int)) (x0 : List Int) (x1 : List Int) (x2 : Int) (x3 : Int) (x4 : Int) (x5 : List Int) : Option (List Int × Int) := (if x3 < x4 then (if 0 ≤ x3 then (if x3 < (ln x0) then (if x3 < (ln x1) then (if 0 ≤ x3 then (if x3 < (ln x1) then k260711 x0 x1 x2 x3 (rd x0 x3) (rd x1 x3) x4 x5 else none) else none) else k260711 x0 x1 x2 x3 (rd x0 x3) 0 x4 x5) else none) else none) else k255 x0 x2 x5)
noncomputable def nat_Add.b260711 (c52 : List Int → Option (Int)) (c81 : List Int → Option (Bool)) (c83 : Int → Int → Int → Option (Int × Int)) (c84 : List Int → Option (List Int × Int)) (k2037 : List Int → List Int → Int → Int → Int → List Int → Option (List Int × Int)) (x0 : List Int) (x1 : List Int) (x2 : Int) (x3 : Int) (x4 : Int) (x5 : Int) (x6 : Int) (x7 : List Int) : Option (List Int × Int) := ((c83 x4 x5 x2).bind fun t1 => (if 0 ≤ x3 then (if x3 < (ln x7) then k2037 x0 x1 t1.2 (wrap64 (x3 + 1)) x6 (x7.set (x3 : Int).toNat t1.1) else none) else none))
noncomputable def nat_Add.l255 (n : Nat) (x0 : List Int) (x1 : Int) (x2 : List Int) : Option (List Int × Int) := nat_Add.b255 (nat_size.f n) (nat_big.f n) bits_Add64.f (nat_cut.f n) x0 x1 x2
noncomputable def nat_Add.l260711 (n : Nat) (k2037 : List Int → List Int → Int → Int → Int → List Int → Option (List Int × Int)) (x0 : List Int) (x1 : List Int) (x2 : Int) (x3 : Int) (x4 : Int) (x5 : Int) (x6 : Int) (x7 : List Int) : Option (List Int × Int) := nat_Add.b260711 (nat_size.f n) (nat_big.f n) bits_Add64.f (nat_cut.f n) k2037 x0 x1 x2 x3 x4 x5 x6 x7
noncomputable def nat_Add.l2037 (n : Nat) : Nat → List Int → List Int → Int → Int → Int → List Int → Option (List Int × Int)
  | 0, _, _, _, _, _, _ => none
  | m + 1, x0, x1, x2, x3, x4, x5 => nat_Add.b2037 (nat_size.f n) (nat_big.f n) bits_Add64.f (nat_cut.f n) (nat_Add.l255 n) (nat_Add.l260711 n (nat_Add.l2037 n m)) x0 x1 x2 x3 x4 x5
noncomputable def nat_Add.l31 (n : Nat) (x0 : List Int) (x1 : List Int) : Option (List Int × Int) := nat_Add.b31 (nat_size.f n) (nat_big.f n) bits_Add64.f (nat_cut.f n) (nat_Add.l2037 n n) x0 x1
noncomputable def nat_Add.f (n : Nat) (l0 : List Int) (l1 : List Int) : Option (List Int × Int) := nat_Add.b0 (nat_size.f n) (nat_big.f n) bits_Add64.f (nat_cut.f n) (nat_Add.l31 n) l0 l1
noncomputable def nat_Add.sg : Sig (List Int × Int) := s2 (sRow .u64) (s1 (sInt .i64))
noncomputable def nat_Add.code : Code := (Tryd.f55.body).getD .skip
noncomputable def nat_Add.cfg (c52 : List Int → Option (Int)) (c81 : List Int → Option (Bool)) (c83 : Int → Int → Int → Option (Int × Int)) (c84 : List Int → Option (List Int × Int)) : Cfg (List Int × Int) := ⟨tys, orCall 52 (nat_size.call c52) (orCall 81 (nat_big.call c81) (orCall 83 (bits_Add64.call c83) (orCall 84 (nat_cut.call c84) (noCall))))⟩
noncomputable def nat_Add.cuts : List (Nat × List (Nat × Want)) := [(31, [(0, .keep), (1, .keep)]), (255, [(0, .keep), (6, .keep), (7, .keep)]), (2037, [(0, .keep), (1, .keep), (6, .keep), (7, .keep), (36, .keep), (37, .keep), (38, .keep)]), (260711, [(0, .keep), (1, .keep), (6, .keep), (7, .keep), (8, .keep), (9, .keep), (10, .keep), (36, .keep), (37, .keep), (38, .keep)])]
noncomputable def nat_Add.s31 (x0 : List Int) (x1 : List Int) : ASt := ⟨[(0, .ro .u64 x0), (1, .ro .u64 x1)], []⟩
noncomputable def nat_Add.s255 (x0 : List Int) (x1 : Int) (x2 : List Int) : ASt := ⟨[(0, .ro .u64 x0), (6, .own 0), (7, .int .u64 x1)], [.ints 22 .u64 x2]⟩
noncomputable def nat_Add.s2037 (x0 : List Int) (x1 : List Int) (x2 : Int) (x3 : Int) (x4 : Int) (x5 : List Int) : ASt := ⟨[(0, .ro .u64 x0), (1, .ro .u64 x1), (6, .own 0), (7, .int .u64 x2), (36, .ro .u64 x0), (37, .int .i64 x4), (38, .int .i64 x3)], [.ints 22 .u64 x5]⟩
noncomputable def nat_Add.s260711 (x0 : List Int) (x1 : List Int) (x2 : Int) (x3 : Int) (x4 : Int) (x5 : Int) (x6 : Int) (x7 : List Int) : ASt := ⟨[(0, .ro .u64 x0), (1, .ro .u64 x1), (6, .own 0), (7, .int .u64 x2), (8, .int .i64 x3), (9, .int .u64 x4), (10, .int .u64 x5), (36, .ro .u64 x0), (37, .int .i64 x6), (38, .int .i64 x3)], [.ints 22 .u64 x7]⟩
noncomputable def nat_Add.A (c52 : List Int → Option (Int)) (c81 : List Int → Option (Bool)) (c83 : Int → Int → Int → Option (Int × Int)) (c84 : List Int → Option (List Int × Int)) (n : Nat) (J : Nat → (ASt → Option (List Int × Int)) → ASt → Option (List Int × Int)) (q : Nat) (ms : List Nat) : ASt → Option (List Int × Int) := acont (nat_Add.cfg c52 c81 c83 c84) J nat_Add.cuts n q nat_Add.code 1 ms (aend (nat_Add.cfg c52 c81 c83 c84) Tryd.f55.results.toList [false, false] nat_Add.sg.out)
theorem nat_Add.e0 (c52 : List Int → Option (Int)) (c81 : List Int → Option (Bool)) (c83 : Int → Int → Int → Option (Int × Int)) (c84 : List Int → Option (List Int × Int)) (n : Nat) (J : Nat → (ASt → Option (List Int × Int)) → ASt → Option (List Int × Int)) (l0 : List Int) (l1 : List Int) : afun (nat_Add.cfg c52 c81 c83 c84) J nat_Add.cuts n nat_Add.code Tryd.f55.results.toList [false, false] [.ro .u64 l0, .ro .u64 l1] nat_Add.sg.out = nat_Add.b0 c52 c81 c83 c84 (fun y0 y1 => J 31 (nat_Add.A c52 c81 c83 c84 n J 31 []) (nat_Add.s31 y0 y1)) l0 l1 := by kernel_rfl
theorem nat_Add.e31 (c52 : List Int → Option (Int)) (c81 : List Int → Option (Bool)) (c83 : Int → Int → Int → Option (Int × Int)) (c84 : List Int → Option (List Int × Int)) (n : Nat) (J : Nat → (ASt → Option (List Int × Int)) → ASt → Option (List Int × Int)) (x0 : List Int) (x1 : List Int) : nat_Add.A c52 c81 c83 c84 n J 31 [] (nat_Add.s31 x0 x1) = nat_Add.b31 c52 c81 c83 c84 (fun y0 y1 y2 y3 y4 y5 => J 2037 (nat_Add.A c52 c81 c83 c84 n J 2037 [n]) (nat_Add.s2037 y0 y1 y2 y3 y4 y5)) x0 x1 := by kernel_rfl
theorem nat_Add.e255 (c52 : List Int → Option (Int)) (c81 : List Int → Option (Bool)) (c83 : Int → Int → Int → Option (Int × Int)) (c84 : List Int → Option (List Int × Int)) (n : Nat) (J : Nat → (ASt → Option (List Int × Int)) → ASt → Option (List Int × Int)) (x0 : List Int) (x1 : Int) (x2 : List Int) : nat_Add.A c52 c81 c83 c84 n J 255 [] (nat_Add.s255 x0 x1 x2) = nat_Add.b255 c52 c81 c83 c84 x0 x1 x2 := by kernel_rfl
theorem nat_Add.e2037 (c52 : List Int → Option (Int)) (c81 : List Int → Option (Bool)) (c83 : Int → Int → Int → Option (Int × Int)) (c84 : List Int → Option (List Int × Int)) (n : Nat) (J : Nat → (ASt → Option (List Int × Int)) → ASt → Option (List Int × Int)) (m : Nat) (x0 : List Int) (x1 : List Int) (x2 : Int) (x3 : Int) (x4 : Int) (x5 : List Int) : nat_Add.A c52 c81 c83 c84 n J 2037 [m + 1] (nat_Add.s2037 x0 x1 x2 x3 x4 x5) = nat_Add.b2037 c52 c81 c83 c84 (fun y0 y1 y2 => J 255 (nat_Add.A c52 c81 c83 c84 n J 255 []) (nat_Add.s255 y0 y1 y2)) (fun y0 y1 y2 y3 y4 y5 y6 y7 => J 260711 (nat_Add.A c52 c81 c83 c84 n J 260711 [m]) (nat_Add.s260711 y0 y1 y2 y3 y4 y5 y6 y7)) x0 x1 x2 x3 x4 x5 := by kernel_rfl
theorem nat_Add.e260711 (c52 : List Int → Option (Int)) (c81 : List Int → Option (Bool)) (c83 : Int → Int → Int → Option (Int × Int)) (c84 : List Int → Option (List Int × Int)) (n : Nat) (J : Nat → (ASt → Option (List Int × Int)) → ASt → Option (List Int × Int)) (m2037 : Nat) (x0 : List Int) (x1 : List Int) (x2 : Int) (x3 : Int) (x4 : Int) (x5 : Int) (x6 : Int) (x7 : List Int) : nat_Add.A c52 c81 c83 c84 n J 260711 [m2037] (nat_Add.s260711 x0 x1 x2 x3 x4 x5 x6 x7) = nat_Add.b260711 c52 c81 c83 c84 (fun y0 y1 y2 y3 y4 y5 => J 2037 (nat_Add.A c52 c81 c83 c84 n J 2037 [m2037]) (nat_Add.s2037 y0 y1 y2 y3 y4 y5)) x0 x1 x2 x3 x4 x5 x6 x7 := by kernel_rfl
theorem nat_Add.q255 (n : Nat) (x0 : List Int) (x1 : Int) (x2 : List Int) : nat_Add.A (nat_size.f n) (nat_big.f n) bits_Add64.f (nat_cut.f n) n idJ 255 [] (nat_Add.s255 x0 x1 x2) = nat_Add.l255 n x0 x1 x2 := (nat_Add.e255 (nat_size.f n) (nat_big.f n) bits_Add64.f (nat_cut.f n) n idJ x0 x1 x2).trans (rfl)
theorem nat_Add.q260711 (n : Nat) (m2037 : Nat) (x0 : List Int) (x1 : List Int) (x2 : Int) (x3 : Int) (x4 : Int) (x5 : Int) (x6 : Int) (x7 : List Int) : nat_Add.A (nat_size.f n) (nat_big.f n) bits_Add64.f (nat_cut.f n) n idJ 260711 [m2037] (nat_Add.s260711 x0 x1 x2 x3 x4 x5 x6 x7) = nat_Add.l260711 n (fun y0 y1 y2 y3 y4 y5 => nat_Add.A (nat_size.f n) (nat_big.f n) bits_Add64.f (nat_cut.f n) n idJ 2037 [m2037] (nat_Add.s2037 y0 y1 y2 y3 y4 y5)) x0 x1 x2 x3 x4 x5 x6 x7 := (nat_Add.e260711 (nat_size.f n) (nat_big.f n) bits_Add64.f (nat_cut.f n) n idJ m2037 x0 x1 x2 x3 x4 x5 x6 x7).trans (rfl)
theorem nat_Add.q2037 (n : Nat) (m : Nat) : ∀ (x0 : List Int) (x1 : List Int) (x2 : Int) (x3 : Int) (x4 : Int) (x5 : List Int), nat_Add.A (nat_size.f n) (nat_big.f n) bits_Add64.f (nat_cut.f n) n idJ 2037 [m] (nat_Add.s2037 x0 x1 x2 x3 x4 x5) = nat_Add.l2037 n m x0 x1 x2 x3 x4 x5 := by
  induction m with
  | zero => intros; rfl
  | succ m ih =>
    intro x0 x1 x2 x3 x4 x5
    refine (nat_Add.e2037 (nat_size.f n) (nat_big.f n) bits_Add64.f (nat_cut.f n) n idJ m x0 x1 x2 x3 x4 x5).trans ?_
    exact congrFun (congrFun (congrFun (congrFun (congrFun (congrFun (congr (congrArg (nat_Add.b2037 (nat_size.f n) (nat_big.f n) bits_Add64.f (nat_cut.f n)) (funext fun y0 => (funext fun y1 => (funext fun y2 => nat_Add.q255 n y0 y1 y2)))) ((funext fun y0 => (funext fun y1 => (funext fun y2 => (funext fun y3 => (funext fun y4 => (funext fun y5 => (funext fun y6 => (funext fun y7 => nat_Add.q260711 n m y0 y1 y2 y3 y4 y5 y6 y7)))))))).trans (by rw [show (fun y0 y1 y2 y3 y4 y5 => nat_Add.A (nat_size.f n) (nat_big.f n) bits_Add64.f (nat_cut.f n) n idJ 2037 [m] (nat_Add.s2037 y0 y1 y2 y3 y4 y5)) = _ from (funext fun y0 => (funext fun y1 => (funext fun y2 => (funext fun y3 => (funext fun y4 => (funext fun y5 => ih y0 y1 y2 y3 y4 y5))))))]))) x0) x1) x2) x3) x4) x5
theorem nat_Add.q31 (n : Nat) (x0 : List Int) (x1 : List Int) : nat_Add.A (nat_size.f n) (nat_big.f n) bits_Add64.f (nat_cut.f n) n idJ 31 [] (nat_Add.s31 x0 x1) = nat_Add.l31 n x0 x1 := (nat_Add.e31 (nat_size.f n) (nat_big.f n) bits_Add64.f (nat_cut.f n) n idJ x0 x1).trans (congrFun (congrFun (congrArg (nat_Add.b31 (nat_size.f n) (nat_big.f n) bits_Add64.f (nat_cut.f n)) (funext fun y0 => (funext fun y1 => (funext fun y2 => (funext fun y3 => (funext fun y4 => (funext fun y5 => nat_Add.q2037 n n y0 y1 y2 y3 y4 y5))))))) x0) x1)
theorem nat_Add.eq (n : Nat) (l0 : List Int) (l1 : List Int) : afun (nat_Add.cfg (nat_size.f n) (nat_big.f n) bits_Add64.f (nat_cut.f n)) idJ nat_Add.cuts n nat_Add.code Tryd.f55.results.toList [false, false] [.ro .u64 l0, .ro .u64 l1] nat_Add.sg.out = nat_Add.f n l0 l1 := (nat_Add.e0 (nat_size.f n) (nat_big.f n) bits_Add64.f (nat_cut.f n) n idJ l0 l1).trans (congrFun (congrFun (congrArg (nat_Add.b0 (nat_size.f n) (nat_big.f n) bits_Add64.f (nat_cut.f n)) (funext fun y0 => (funext fun y1 => nat_Add.q31 n y0 y1))) l0) l1)
theorem nat_Add.ok {n : Nat} {l0 : List Int} {l1 : List Int} {r : List Int × Int} (h : nat_Add.f n l0 l1 = some r) : CallD Tryd.prog HW 55 [.ro .u64 l0, .ro .u64 l1] (nat_Add.sg.enc r) :=
  fun_some hwS Tryd.func55 (by kernel_rfl) (body := nat_Add.code) (by kernel_rfl) tys_ok (c := nat_Add.cfg (nat_size.f n) (nat_big.f n) bits_Add64.f (nat_cut.f n)) (orCall_ok (nat_size.call_ok (n := n)) (orCall_ok (nat_big.call_ok (n := n)) (orCall_ok (bits_Add64.call_ok (n := n)) (orCall_ok (nat_cut.call_ok (n := n)) noCall_ok)))) (by kernel_rfl) (by kernel_rfl) (Nat.le_of_ble_eq_true (by kernel_rfl)) ((nat_Add.eq n l0 l1).trans h)
noncomputable def nat_Add.call {α : Type} (g : List Int → List Int → Option (List Int × Int)) (ds : List D) (K : List D → Option α) : Option α := match ds with
  | [.ro .u64 l0, .ro .u64 l1] => (g l0 l1).bind fun r => K (nat_Add.sg.enc r)
  | _ => none
theorem nat_Add.call_ok {α : Type} {n : Nat} (ds : List D) (K : List D → Option α) (r : α) (h : nat_Add.call (nat_Add.f n) ds K = some r) : ∃ rs, K rs = some r ∧ CallD Tryd.prog HW 55 ds rs := by
  unfold nat_Add.call at h
  split at h
  · obtain ⟨x, hx, hk⟩ := Option.bind_eq_some_iff.1 h
    exact ⟨_, hk, nat_Add.ok (n := n) hx⟩
  · cases h
/-! ### bits_Sub64: function 85 -/
def bits_Sub64.f (a0 : Int) (a1 : Int) (a2 : Int) : Option (Int × Int) := if 0 ≤ a0 ∧ 0 ≤ a1 ∧ a1 < 18446744073709551616 ∧ 0 ≤ a2 ∧ a2 ≤ 1 then some ((a0 - a1 - a2) % 18446744073709551616, if a0 < a1 + a2 then 1 else 0) else none
def bits_Sub64.sg : Sig (Int × Int) := s2 (sInt .u64) (s1 (sInt .u64))
theorem bits_Sub64.ok {a0 a1 a2 : Int} {r : Int × Int} (h : bits_Sub64.f a0 a1 a2 = some r) : CallD Tryd.prog HW 85 [.int .u64 a0, .int .u64 a1, .int .u64 a2] (bits_Sub64.sg.enc r) := by
  unfold bits_Sub64.f at h
  split at h
  · rename_i hh
    obtain rfl := Option.some.inj h
    exact calld_scal rfl rfl fun w _ => .inr ⟨_, _, run_sub64' Tryd.func85 (by kernel_rfl) (by kernel_rfl) (by kernel_rfl) (by kernel_rfl) a0 a1 a2 hh.1 hh.2.1 hh.2.2.1 hh.2.2.2.1 hh.2.2.2.2 w, rfl, rfl⟩
  · cases h
noncomputable def bits_Sub64.call {α : Type} (g : Int → Int → Int → Option (Int × Int)) (ds : List D) (K : List D → Option α) : Option α := match ds with
  | [.int .u64 a0, .int .u64 a1, .int .u64 a2] => (g a0 a1 a2).bind fun r => K (bits_Sub64.sg.enc r)
  | _ => none
theorem bits_Sub64.call_ok {α : Type} {n : Nat} (ds : List D) (K : List D → Option α) (r : α) (h : bits_Sub64.call bits_Sub64.f ds K = some r) : ∃ rs, K rs = some r ∧ CallD Tryd.prog HW 85 ds rs := by
  unfold bits_Sub64.call at h
  split at h
  · obtain ⟨x, hx, hk⟩ := Option.bind_eq_some_iff.1 h
    exact ⟨_, hk, bits_Sub64.ok hx⟩
  · cases h
/-! ### nat_Sub: function 56 -/
noncomputable def nat_Sub.b0 (c18 : List Int → List Int → Option (Int)) (c52 : List Int → Option (Int)) (c81 : List Int → Option (Bool)) (c84 : List Int → Option (List Int × Int)) (c85 : Int → Int → Int → Option (Int × Int)) (k2037 : List Int → Int → Int → List Int → Int → List Int → Option (List Int × Int)) (l0 : List Int) (l1 : List Int) : Option (List Int × Int) := ((c81 l0).bind fun t1 => (if t1 = true then some (([] : List Int), 2) else ((c81 l1).bind fun t2 => (if t2 = true then some (([] : List Int), 2) else ((c18 l0 l1).bind fun t3 => (if t3 < 0 then some (([] : List Int), 10) else ((c52 l0).bind fun t4 => (if 0 ≤ t4 then (if t4 ≤ (ln l0) then ((some (l0.take t4.toNat) : Option (List Int)).bind fun y5 => ((c52 l1).bind fun t6 => (if 0 ≤ t6 then (if t6 ≤ (ln l1) then ((some (l1.take t6.toNat) : Option (List Int)).bind fun y7 => (if 0 ≤ (ln y5) then (if (ln y5).toNat ≤ 35184372088832 then k2037 y7 0 0 y5 (ln y5) (List.replicate (ln y5).toNat 0) else none) else none)) else none) else none))) else none) else none))))))))
noncomputable def nat_Sub.b255 (c18 : List Int → List Int → Option (Int)) (c52 : List Int → Option (Int)) (c81 : List Int → Option (Bool)) (c84 : List Int → Option (List Int × Int)) (c85 : Int → Int → Int → Option (Int × Int)) (x0 : List Int) : Option (List Int × Int) := ((c84 x0).bind fun t1 => some (t1.1, t1.2))
noncomputable def nat_Sub.b2037 (c18 : List Int → List Int → Option (Int)) (c52 : List Int → Option (Int)) (c81 : List Int → Option (Bool)) (c84 : List Int → Option (List Int × Int)) (c85 : Int → Int → Int → Option (Int × Int)) (k255 : List Int → Option (List Int × Int)) (k260711 : List Int → Int → Int → Int → Int → List Int → Int → List Int → Option (List Int × Int)) (x0 : List Int) (x1 : Int) (x2 : Int) (x3 : List Int) (x4 : Int) (x5 : List Int) : Option (List Int × Int) := (if x2 < x4 then (if 0 ≤ x2 then (if x2 < (ln x3) then (if x2 < (ln x0) then (if 0 ≤ x2 then (if x2 < (ln x0) then k260711 x0 x1 x2 (rd x3 x2) (rd x0 x2) x3 x4 x5 else none) else none) else k260711 x0 x1 x2 (rd x3 x2) 0 x3 x4 x5) else none) else none) else k255 x5)
noncomputable def nat_Sub.b260711 (c18 : List Int → List Int → Option (Int)) (c52 : List Int → Option (Int)) (c81 : List Int → Option (Bool)) (c84 : List Int → Option (List Int × Int)) (c85 : Int → Int → Int → Option (Int × Int)) (k2037 : List Int → Int → Int → List Int → Int → List Int → Option (List Int × Int)) (x0 : List Int) (x1 : Int) (x2 : Int) (x3 : Int) (x4 : Int) (x5 : List Int) (x6 : Int) (x7 : List Int) : Option (List Int × Int) := ((c85 x3 x4 x1).bind fun t1 => (if 0 ≤ x2 then (if x2 < (ln x7) then k2037 x0 t1.2 (wrap64 (x2 + 1)) x5 x6 (x7.set (x2 : Int).toNat t1.1) else none) else none))
noncomputable def nat_Sub.l255 (n : Nat) (x0 : List Int) : Option (List Int × Int) := nat_Sub.b255 (nat_Cmp.f n) (nat_size.f n) (nat_big.f n) (nat_cut.f n) bits_Sub64.f x0
noncomputable def nat_Sub.l260711 (n : Nat) (k2037 : List Int → Int → Int → List Int → Int → List Int → Option (List Int × Int)) (x0 : List Int) (x1 : Int) (x2 : Int) (x3 : Int) (x4 : Int) (x5 : List Int) (x6 : Int) (x7 : List Int) : Option (List Int × Int) := nat_Sub.b260711 (nat_Cmp.f n) (nat_size.f n) (nat_big.f n) (nat_cut.f n) bits_Sub64.f k2037 x0 x1 x2 x3 x4 x5 x6 x7
noncomputable def nat_Sub.l2037 (n : Nat) : Nat → List Int → Int → Int → List Int → Int → List Int → Option (List Int × Int)
  | 0, _, _, _, _, _, _ => none
  | m + 1, x0, x1, x2, x3, x4, x5 => nat_Sub.b2037 (nat_Cmp.f n) (nat_size.f n) (nat_big.f n) (nat_cut.f n) bits_Sub64.f (nat_Sub.l255 n) (nat_Sub.l260711 n (nat_Sub.l2037 n m)) x0 x1 x2 x3 x4 x5
noncomputable def nat_Sub.f (n : Nat) (l0 : List Int) (l1 : List Int) : Option (List Int × Int) := nat_Sub.b0 (nat_Cmp.f n) (nat_size.f n) (nat_big.f n) (nat_cut.f n) bits_Sub64.f (nat_Sub.l2037 n n) l0 l1
noncomputable def nat_Sub.sg : Sig (List Int × Int) := s2 (sRow .u64) (s1 (sInt .i64))
noncomputable def nat_Sub.code : Code := (Tryd.f56.body).getD .skip
noncomputable def nat_Sub.cfg (c18 : List Int → List Int → Option (Int)) (c52 : List Int → Option (Int)) (c81 : List Int → Option (Bool)) (c84 : List Int → Option (List Int × Int)) (c85 : Int → Int → Int → Option (Int × Int)) : Cfg (List Int × Int) := ⟨tys, orCall 18 (nat_Cmp.call c18) (orCall 52 (nat_size.call c52) (orCall 81 (nat_big.call c81) (orCall 84 (nat_cut.call c84) (orCall 85 (bits_Sub64.call c85) (noCall)))))⟩
noncomputable def nat_Sub.cuts : List (Nat × List (Nat × Want)) := [(255, [(6, .keep)]), (2037, [(1, .keep), (6, .keep), (7, .keep), (32, .keep), (33, .keep), (34, .keep)]), (260711, [(1, .keep), (6, .keep), (7, .keep), (8, .keep), (9, .keep), (10, .keep), (32, .keep), (33, .keep), (34, .keep)])]
noncomputable def nat_Sub.s255 (x0 : List Int) : ASt := ⟨[(6, .own 0)], [.ints 22 .u64 x0]⟩
noncomputable def nat_Sub.s2037 (x0 : List Int) (x1 : Int) (x2 : Int) (x3 : List Int) (x4 : Int) (x5 : List Int) : ASt := ⟨[(1, .ro .u64 x0), (6, .own 0), (7, .int .u64 x1), (32, .ro .u64 x3), (33, .int .i64 x4), (34, .int .i64 x2)], [.ints 22 .u64 x5]⟩
noncomputable def nat_Sub.s260711 (x0 : List Int) (x1 : Int) (x2 : Int) (x3 : Int) (x4 : Int) (x5 : List Int) (x6 : Int) (x7 : List Int) : ASt := ⟨[(1, .ro .u64 x0), (6, .own 0), (7, .int .u64 x1), (8, .int .i64 x2), (9, .int .u64 x3), (10, .int .u64 x4), (32, .ro .u64 x5), (33, .int .i64 x6), (34, .int .i64 x2)], [.ints 22 .u64 x7]⟩
noncomputable def nat_Sub.A (c18 : List Int → List Int → Option (Int)) (c52 : List Int → Option (Int)) (c81 : List Int → Option (Bool)) (c84 : List Int → Option (List Int × Int)) (c85 : Int → Int → Int → Option (Int × Int)) (n : Nat) (J : Nat → (ASt → Option (List Int × Int)) → ASt → Option (List Int × Int)) (q : Nat) (ms : List Nat) : ASt → Option (List Int × Int) := acont (nat_Sub.cfg c18 c52 c81 c84 c85) J nat_Sub.cuts n q nat_Sub.code 1 ms (aend (nat_Sub.cfg c18 c52 c81 c84 c85) Tryd.f56.results.toList [false, false] nat_Sub.sg.out)
theorem nat_Sub.e0 (c18 : List Int → List Int → Option (Int)) (c52 : List Int → Option (Int)) (c81 : List Int → Option (Bool)) (c84 : List Int → Option (List Int × Int)) (c85 : Int → Int → Int → Option (Int × Int)) (n : Nat) (J : Nat → (ASt → Option (List Int × Int)) → ASt → Option (List Int × Int)) (l0 : List Int) (l1 : List Int) : afun (nat_Sub.cfg c18 c52 c81 c84 c85) J nat_Sub.cuts n nat_Sub.code Tryd.f56.results.toList [false, false] [.ro .u64 l0, .ro .u64 l1] nat_Sub.sg.out = nat_Sub.b0 c18 c52 c81 c84 c85 (fun y0 y1 y2 y3 y4 y5 => J 2037 (nat_Sub.A c18 c52 c81 c84 c85 n J 2037 [n]) (nat_Sub.s2037 y0 y1 y2 y3 y4 y5)) l0 l1 := by kernel_rfl
theorem nat_Sub.e255 (c18 : List Int → List Int → Option (Int)) (c52 : List Int → Option (Int)) (c81 : List Int → Option (Bool)) (c84 : List Int → Option (List Int × Int)) (c85 : Int → Int → Int → Option (Int × Int)) (n : Nat) (J : Nat → (ASt → Option (List Int × Int)) → ASt → Option (List Int × Int)) (x0 : List Int) : nat_Sub.A c18 c52 c81 c84 c85 n J 255 [] (nat_Sub.s255 x0) = nat_Sub.b255 c18 c52 c81 c84 c85 x0 := by kernel_rfl
theorem nat_Sub.e2037 (c18 : List Int → List Int → Option (Int)) (c52 : List Int → Option (Int)) (c81 : List Int → Option (Bool)) (c84 : List Int → Option (List Int × Int)) (c85 : Int → Int → Int → Option (Int × Int)) (n : Nat) (J : Nat → (ASt → Option (List Int × Int)) → ASt → Option (List Int × Int)) (m : Nat) (x0 : List Int) (x1 : Int) (x2 : Int) (x3 : List Int) (x4 : Int) (x5 : List Int) : nat_Sub.A c18 c52 c81 c84 c85 n J 2037 [m + 1] (nat_Sub.s2037 x0 x1 x2 x3 x4 x5) = nat_Sub.b2037 c18 c52 c81 c84 c85 (fun y0 => J 255 (nat_Sub.A c18 c52 c81 c84 c85 n J 255 []) (nat_Sub.s255 y0)) (fun y0 y1 y2 y3 y4 y5 y6 y7 => J 260711 (nat_Sub.A c18 c52 c81 c84 c85 n J 260711 [m]) (nat_Sub.s260711 y0 y1 y2 y3 y4 y5 y6 y7)) x0 x1 x2 x3 x4 x5 := by kernel_rfl
theorem nat_Sub.e260711 (c18 : List Int → List Int → Option (Int)) (c52 : List Int → Option (Int)) (c81 : List Int → Option (Bool)) (c84 : List Int → Option (List Int × Int)) (c85 : Int → Int → Int → Option (Int × Int)) (n : Nat) (J : Nat → (ASt → Option (List Int × Int)) → ASt → Option (List Int × Int)) (m2037 : Nat) (x0 : List Int) (x1 : Int) (x2 : Int) (x3 : Int) (x4 : Int) (x5 : List Int) (x6 : Int) (x7 : List Int) : nat_Sub.A c18 c52 c81 c84 c85 n J 260711 [m2037] (nat_Sub.s260711 x0 x1 x2 x3 x4 x5 x6 x7) = nat_Sub.b260711 c18 c52 c81 c84 c85 (fun y0 y1 y2 y3 y4 y5 => J 2037 (nat_Sub.A c18 c52 c81 c84 c85 n J 2037 [m2037]) (nat_Sub.s2037 y0 y1 y2 y3 y4 y5)) x0 x1 x2 x3 x4 x5 x6 x7 := by kernel_rfl
theorem nat_Sub.q255 (n : Nat) (x0 : List Int) : nat_Sub.A (nat_Cmp.f n) (nat_size.f n) (nat_big.f n) (nat_cut.f n) bits_Sub64.f n idJ 255 [] (nat_Sub.s255 x0) = nat_Sub.l255 n x0 := (nat_Sub.e255 (nat_Cmp.f n) (nat_size.f n) (nat_big.f n) (nat_cut.f n) bits_Sub64.f n idJ x0).trans (rfl)
theorem nat_Sub.q260711 (n : Nat) (m2037 : Nat) (x0 : List Int) (x1 : Int) (x2 : Int) (x3 : Int) (x4 : Int) (x5 : List Int) (x6 : Int) (x7 : List Int) : nat_Sub.A (nat_Cmp.f n) (nat_size.f n) (nat_big.f n) (nat_cut.f n) bits_Sub64.f n idJ 260711 [m2037] (nat_Sub.s260711 x0 x1 x2 x3 x4 x5 x6 x7) = nat_Sub.l260711 n (fun y0 y1 y2 y3 y4 y5 => nat_Sub.A (nat_Cmp.f n) (nat_size.f n) (nat_big.f n) (nat_cut.f n) bits_Sub64.f n idJ 2037 [m2037] (nat_Sub.s2037 y0 y1 y2 y3 y4 y5)) x0 x1 x2 x3 x4 x5 x6 x7 := (nat_Sub.e260711 (nat_Cmp.f n) (nat_size.f n) (nat_big.f n) (nat_cut.f n) bits_Sub64.f n idJ m2037 x0 x1 x2 x3 x4 x5 x6 x7).trans (rfl)
theorem nat_Sub.q2037 (n : Nat) (m : Nat) : ∀ (x0 : List Int) (x1 : Int) (x2 : Int) (x3 : List Int) (x4 : Int) (x5 : List Int), nat_Sub.A (nat_Cmp.f n) (nat_size.f n) (nat_big.f n) (nat_cut.f n) bits_Sub64.f n idJ 2037 [m] (nat_Sub.s2037 x0 x1 x2 x3 x4 x5) = nat_Sub.l2037 n m x0 x1 x2 x3 x4 x5 := by
  induction m with
  | zero => intros; rfl
  | succ m ih =>
    intro x0 x1 x2 x3 x4 x5
    refine (nat_Sub.e2037 (nat_Cmp.f n) (nat_size.f n) (nat_big.f n) (nat_cut.f n) bits_Sub64.f n idJ m x0 x1 x2 x3 x4 x5).trans ?_
    exact congrFun (congrFun (congrFun (congrFun (congrFun (congrFun (congr (congrArg (nat_Sub.b2037 (nat_Cmp.f n) (nat_size.f n) (nat_big.f n) (nat_cut.f n) bits_Sub64.f) (funext fun y0 => nat_Sub.q255 n y0)) ((funext fun y0 => (funext fun y1 => (funext fun y2 => (funext fun y3 => (funext fun y4 => (funext fun y5 => (funext fun y6 => (funext fun y7 => nat_Sub.q260711 n m y0 y1 y2 y3 y4 y5 y6 y7)))))))).trans (by rw [show (fun y0 y1 y2 y3 y4 y5 => nat_Sub.A (nat_Cmp.f n) (nat_size.f n) (nat_big.f n) (nat_cut.f n) bits_Sub64.f n idJ 2037 [m] (nat_Sub.s2037 y0 y1 y2 y3 y4 y5)) = _ from (funext fun y0 => (funext fun y1 => (funext fun y2 => (funext fun y3 => (funext fun y4 => (funext fun y5 => ih y0 y1 y2 y3 y4 y5))))))]))) x0) x1) x2) x3) x4) x5
theorem nat_Sub.eq (n : Nat) (l0 : List Int) (l1 : List Int) : afun (nat_Sub.cfg (nat_Cmp.f n) (nat_size.f n) (nat_big.f n) (nat_cut.f n) bits_Sub64.f) idJ nat_Sub.cuts n nat_Sub.code Tryd.f56.results.toList [false, false] [.ro .u64 l0, .ro .u64 l1] nat_Sub.sg.out = nat_Sub.f n l0 l1 := (nat_Sub.e0 (nat_Cmp.f n) (nat_size.f n) (nat_big.f n) (nat_cut.f n) bits_Sub64.f n idJ l0 l1).trans (congrFun (congrFun (congrArg (nat_Sub.b0 (nat_Cmp.f n) (nat_size.f n) (nat_big.f n) (nat_cut.f n) bits_Sub64.f) (funext fun y0 => (funext fun y1 => (funext fun y2 => (funext fun y3 => (funext fun y4 => (funext fun y5 => nat_Sub.q2037 n n y0 y1 y2 y3 y4 y5))))))) l0) l1)
theorem nat_Sub.ok {n : Nat} {l0 : List Int} {l1 : List Int} {r : List Int × Int} (h : nat_Sub.f n l0 l1 = some r) : CallD Tryd.prog HW 56 [.ro .u64 l0, .ro .u64 l1] (nat_Sub.sg.enc r) :=
  fun_some hwS Tryd.func56 (by kernel_rfl) (body := nat_Sub.code) (by kernel_rfl) tys_ok (c := nat_Sub.cfg (nat_Cmp.f n) (nat_size.f n) (nat_big.f n) (nat_cut.f n) bits_Sub64.f) (orCall_ok (nat_Cmp.call_ok (n := n)) (orCall_ok (nat_size.call_ok (n := n)) (orCall_ok (nat_big.call_ok (n := n)) (orCall_ok (nat_cut.call_ok (n := n)) (orCall_ok (bits_Sub64.call_ok (n := n)) noCall_ok))))) (by kernel_rfl) (by kernel_rfl) (Nat.le_of_ble_eq_true (by kernel_rfl)) ((nat_Sub.eq n l0 l1).trans h)
noncomputable def nat_Sub.call {α : Type} (g : List Int → List Int → Option (List Int × Int)) (ds : List D) (K : List D → Option α) : Option α := match ds with
  | [.ro .u64 l0, .ro .u64 l1] => (g l0 l1).bind fun r => K (nat_Sub.sg.enc r)
  | _ => none
theorem nat_Sub.call_ok {α : Type} {n : Nat} (ds : List D) (K : List D → Option α) (r : α) (h : nat_Sub.call (nat_Sub.f n) ds K = some r) : ∃ rs, K rs = some r ∧ CallD Tryd.prog HW 56 ds rs := by
  unfold nat_Sub.call at h
  split at h
  · obtain ⟨x, hx, hk⟩ := Option.bind_eq_some_iff.1 h
    exact ⟨_, hk, nat_Sub.ok (n := n) hx⟩
  · cases h
/-! ### soft_term_plus: function 88 -/
noncomputable def soft_term_plus.b0 (c18 : List Int → List Int → Option (Int)) (c55 : List Int → List Int → Option (List Int × Int)) (c56 : List Int → List Int → Option (List Int × Int)) (c119 : List Int → Int → List Int → Int → Option (List Int × List Int × Int)) (a0 : Bool) (l1 : List Int) (a2 : Int) (a3 : Bool) (l4 : List Int) (a5 : Int) : Option (Bool × List Int × Int) := ((c119 l1 a2 l4 a5).bind fun t1 => (if (a0 == a3) = true then ((c55 t1.1 t1.2.1).bind fun t2 => some (a0, t2.1, t1.2.2)) else ((c18 t1.1 t1.2.1).bind fun t3 => (if t3 = 0 then some (false, ([] : List Int), 0) else (if t3 = 1 then ((c56 t1.1 t1.2.1).bind fun t4 => some (a0, t4.1, t1.2.2)) else ((c56 t1.2.1 t1.1).bind fun t5 => some (a3, t5.1, t1.2.2)))))))
noncomputable def soft_term_plus.f (n : Nat) (a0 : Bool) (l1 : List Int) (a2 : Int) (a3 : Bool) (l4 : List Int) (a5 : Int) : Option (Bool × List Int × Int) := soft_term_plus.b0 (nat_Cmp.f n) (nat_Add.f n) (nat_Sub.f n) (soft_aligned.f n) a0 l1 a2 a3 l4 a5
noncomputable def soft_term_plus.sg : Sig (Bool × List Int × Int) := s1 (sAgg (s2 (sBool) (s2 (sRow .u64) (s1 (sInt .i64)))))
noncomputable def soft_term_plus.code : Code := (Tryd.f88.body).getD .skip
noncomputable def soft_term_plus.cfg (c18 : List Int → List Int → Option (Int)) (c55 : List Int → List Int → Option (List Int × Int)) (c56 : List Int → List Int → Option (List Int × Int)) (c119 : List Int → Int → List Int → Int → Option (List Int × List Int × Int)) : Cfg (Bool × List Int × Int) := ⟨tys, orCall 18 (nat_Cmp.call c18) (orCall 55 (nat_Add.call c55) (orCall 56 (nat_Sub.call c56) (orCall 119 (soft_aligned.call c119) (noCall))))⟩
noncomputable def soft_term_plus.cuts : List (Nat × List (Nat × Want)) := []
theorem soft_term_plus.e0 (c18 : List Int → List Int → Option (Int)) (c55 : List Int → List Int → Option (List Int × Int)) (c56 : List Int → List Int → Option (List Int × Int)) (c119 : List Int → Int → List Int → Int → Option (List Int × List Int × Int)) (n : Nat) (J : Nat → (ASt → Option (Bool × List Int × Int)) → ASt → Option (Bool × List Int × Int)) (a0 : Bool) (l1 : List Int) (a2 : Int) (a3 : Bool) (l4 : List Int) (a5 : Int) : afun (soft_term_plus.cfg c18 c55 c56 c119) J soft_term_plus.cuts n soft_term_plus.code Tryd.f88.results.toList [false] [.agg [.bool a0, .ro .u64 l1, .int .i64 a2], .agg [.bool a3, .ro .u64 l4, .int .i64 a5]] soft_term_plus.sg.out = soft_term_plus.b0 c18 c55 c56 c119 a0 l1 a2 a3 l4 a5 := by kernel_rfl
theorem soft_term_plus.eq (n : Nat) (a0 : Bool) (l1 : List Int) (a2 : Int) (a3 : Bool) (l4 : List Int) (a5 : Int) : afun (soft_term_plus.cfg (nat_Cmp.f n) (nat_Add.f n) (nat_Sub.f n) (soft_aligned.f n)) idJ soft_term_plus.cuts n soft_term_plus.code Tryd.f88.results.toList [false] [.agg [.bool a0, .ro .u64 l1, .int .i64 a2], .agg [.bool a3, .ro .u64 l4, .int .i64 a5]] soft_term_plus.sg.out = soft_term_plus.f n a0 l1 a2 a3 l4 a5 := (soft_term_plus.e0 (nat_Cmp.f n) (nat_Add.f n) (nat_Sub.f n) (soft_aligned.f n) n idJ a0 l1 a2 a3 l4 a5).trans (rfl)
theorem soft_term_plus.ok {n : Nat} {a0 : Bool} {l1 : List Int} {a2 : Int} {a3 : Bool} {l4 : List Int} {a5 : Int} {r : Bool × List Int × Int} (h : soft_term_plus.f n a0 l1 a2 a3 l4 a5 = some r) : CallD Tryd.prog HW 88 [.agg [.bool a0, .ro .u64 l1, .int .i64 a2], .agg [.bool a3, .ro .u64 l4, .int .i64 a5]] (soft_term_plus.sg.enc r) :=
  fun_some hwS Tryd.func88 (by kernel_rfl) (body := soft_term_plus.code) (by kernel_rfl) tys_ok (c := soft_term_plus.cfg (nat_Cmp.f n) (nat_Add.f n) (nat_Sub.f n) (soft_aligned.f n)) (orCall_ok (nat_Cmp.call_ok (n := n)) (orCall_ok (nat_Add.call_ok (n := n)) (orCall_ok (nat_Sub.call_ok (n := n)) (orCall_ok (soft_aligned.call_ok (n := n)) noCall_ok)))) (by kernel_rfl) (by kernel_rfl) (Nat.le_of_ble_eq_true (by kernel_rfl)) ((soft_term_plus.eq n a0 l1 a2 a3 l4 a5).trans h)
noncomputable def soft_term_plus.call {α : Type} (g : Bool → List Int → Int → Bool → List Int → Int → Option (Bool × List Int × Int)) (ds : List D) (K : List D → Option α) : Option α := match ds with
  | [.agg [.bool a0, .ro .u64 l1, .int .i64 a2], .agg [.bool a3, .ro .u64 l4, .int .i64 a5]] => (g a0 l1 a2 a3 l4 a5).bind fun r => K (soft_term_plus.sg.enc r)
  | _ => none
theorem soft_term_plus.call_ok {α : Type} {n : Nat} (ds : List D) (K : List D → Option α) (r : α) (h : soft_term_plus.call (soft_term_plus.f n) ds K = some r) : ∃ rs, K rs = some r ∧ CallD Tryd.prog HW 88 ds rs := by
  unfold soft_term_plus.call at h
  split at h
  · obtain ⟨x, hx, hk⟩ := Option.bind_eq_some_iff.1 h
    exact ⟨_, hk, soft_term_plus.ok (n := n) hx⟩
  · cases h
/-! ### soft_fma: function 59 -/
noncomputable def soft_fma.b0 (c29 : Int → Option (Bool × Int × Int × Int)) (c86 : Option (Int × Int)) (c87 : Bool → Int → Int → Int → Option (Bool × List Int × Int)) (c88 : Bool → List Int → Int → Bool → List Int → Int → Option (Bool × List Int × Int)) (c89 : Bool → List Int → Int → Option (Int × Int)) (c90 : Bool → Int → Option (Int)) (c91 : Bool → Int → Int → Int → Bool → Int → Int → Int → Option (Bool × List Int × Int)) (k15 : Int → Bool → Bool → Int → Int → Int → Bool → Int → Int → Int → Bool → Int → Int → Int → Option (Int × Int)) (a0 : Int) (a1 : Int) (a2 : Int) : Option (Int × Int) := ((c29 a0).bind fun t1 => ((c29 a1).bind fun t2 => ((c29 a2).bind fun t3 => (if t1.2.1 = 3 then k15 a2 true t1.1 t1.2.1 t1.2.2.1 t1.2.2.2 t2.1 t2.2.1 t2.2.2.1 t2.2.2.2 t3.1 t3.2.1 t3.2.2.1 t3.2.2.2 else k15 a2 (decide (t2.2.1 = 3)) t1.1 t1.2.1 t1.2.2.1 t1.2.2.2 t2.1 t2.2.1 t2.2.2.1 t2.2.2.2 t3.1 t3.2.1 t3.2.2.1 t3.2.2.2))))
noncomputable def soft_fma.b15 (c29 : Int → Option (Bool × Int × Int × Int)) (c86 : Option (Int × Int)) (c87 : Bool → Int → Int → Int → Option (Bool × List Int × Int)) (c88 : Bool → List Int → Int → Bool → List Int → Int → Option (Bool × List Int × Int)) (c89 : Bool → List Int → Int → Option (Int × Int)) (c90 : Bool → Int → Option (Int)) (c91 : Bool → Int → Int → Int → Bool → Int → Int → Int → Option (Bool × List Int × Int)) (k3999 : Int → Bool → Bool → Bool → Bool → Int → Int → Int → Bool → Int → Int → Int → Bool → Int → Int → Int → Option (Int × Int)) (x0 : Int) (x1 : Bool) (x2 : Bool) (x3 : Int) (x4 : Int) (x5 : Int) (x6 : Bool) (x7 : Int) (x8 : Int) (x9 : Int) (x10 : Bool) (x11 : Int) (x12 : Int) (x13 : Int) : Option (Int × Int) := (if x3 = 4 then some (9221120237041090560, 0) else (if x7 = 4 then some (9221120237041090560, 0) else (if x11 = 4 then some (9221120237041090560, 0) else (if x1 = true then (if x3 = 0 then ((c86).bind fun t1 => some (t1.1, t1.2)) else (if x7 = 0 then ((c86).bind fun t2 => some (t2.1, t2.2)) else (if x1 = true then (if x11 = 3 then k3999 x0 x1 (x2 != x6) (x10 != (x2 != x6)) x2 x3 x4 x5 x6 x7 x8 x9 x10 x11 x12 x13 else k3999 x0 x1 (x2 != x6) false x2 x3 x4 x5 x6 x7 x8 x9 x10 x11 x12 x13) else k3999 x0 x1 (x2 != x6) false x2 x3 x4 x5 x6 x7 x8 x9 x10 x11 x12 x13))) else (if x1 = true then (if x11 = 3 then k3999 x0 x1 (x2 != x6) (x10 != (x2 != x6)) x2 x3 x4 x5 x6 x7 x8 x9 x10 x11 x12 x13 else k3999 x0 x1 (x2 != x6) false x2 x3 x4 x5 x6 x7 x8 x9 x10 x11 x12 x13) else k3999 x0 x1 (x2 != x6) false x2 x3 x4 x5 x6 x7 x8 x9 x10 x11 x12 x13)))))
noncomputable def soft_fma.b3999 (c29 : Int → Option (Bool × Int × Int × Int)) (c86 : Option (Int × Int)) (c87 : Bool → Int → Int → Int → Option (Bool × List Int × Int)) (c88 : Bool → List Int → Int → Bool → List Int → Int → Option (Bool × List Int × Int)) (c89 : Bool → List Int → Int → Option (Int × Int)) (c90 : Bool → Int → Option (Int)) (c91 : Bool → Int → Int → Int → Bool → Int → Int → Int → Option (Bool × List Int × Int)) (x0 : Int) (x1 : Bool) (x2 : Bool) (x3 : Bool) (x4 : Bool) (x5 : Int) (x6 : Int) (x7 : Int) (x8 : Bool) (x9 : Int) (x10 : Int) (x11 : Int) (x12 : Bool) (x13 : Int) (x14 : Int) (x15 : Int) : Option (Int × Int) := (if x3 = true then ((c86).bind fun t1 => some (t1.1, t1.2)) else (if x1 = true then ((c90 x2 9218868437227405312).bind fun t2 => some (t2, 0)) else (if x13 = 3 then some (x0, 0) else ((c91 x4 x5 x6 x7 x8 x9 x10 x11).bind fun t3 => ((c87 x12 x13 x14 x15).bind fun t4 => ((c88 t3.1 t3.2.1 t3.2.2 t4.1 t4.2.1 t4.2.2).bind fun t5 => ((c89 t5.1 t5.2.1 t5.2.2).bind fun t6 => some (t6.1, t6.2))))))))
noncomputable def soft_fma.l3999 (n : Nat) (x0 : Int) (x1 : Bool) (x2 : Bool) (x3 : Bool) (x4 : Bool) (x5 : Int) (x6 : Int) (x7 : Int) (x8 : Bool) (x9 : Int) (x10 : Int) (x11 : Int) (x12 : Bool) (x13 : Int) (x14 : Int) (x15 : Int) : Option (Int × Int) := soft_fma.b3999 ieee_Decode.f soft_invalid.f soft_termOf.f (soft_term_plus.f n) (soft_term_rounded.f n) soft_withSign.f (soft_product.f n) x0 x1 x2 x3 x4 x5 x6 x7 x8 x9 x10 x11 x12 x13 x14 x15
noncomputable def soft_fma.l15 (n : Nat) (x0 : Int) (x1 : Bool) (x2 : Bool) (x3 : Int) (x4 : Int) (x5 : Int) (x6 : Bool) (x7 : Int) (x8 : Int) (x9 : Int) (x10 : Bool) (x11 : Int) (x12 : Int) (x13 : Int) : Option (Int × Int) := soft_fma.b15 ieee_Decode.f soft_invalid.f soft_termOf.f (soft_term_plus.f n) (soft_term_rounded.f n) soft_withSign.f (soft_product.f n) (soft_fma.l3999 n) x0 x1 x2 x3 x4 x5 x6 x7 x8 x9 x10 x11 x12 x13
noncomputable def soft_fma.f (n : Nat) (a0 : Int) (a1 : Int) (a2 : Int) : Option (Int × Int) := soft_fma.b0 ieee_Decode.f soft_invalid.f soft_termOf.f (soft_term_plus.f n) (soft_term_rounded.f n) soft_withSign.f (soft_product.f n) (soft_fma.l15 n) a0 a1 a2
noncomputable def soft_fma.sg : Sig (Int × Int) := s2 (sInt .u64) (s1 (sInt .i64))
noncomputable def soft_fma.code : Code := (Tryd.f59.body).getD .skip
noncomputable def soft_fma.cfg (c29 : Int → Option (Bool × Int × Int × Int)) (c86 : Option (Int × Int)) (c87 : Bool → Int → Int → Int → Option (Bool × List Int × Int)) (c88 : Bool → List Int → Int → Bool → List Int → Int → Option (Bool × List Int × Int)) (c89 : Bool → List Int → Int → Option (Int × Int)) (c90 : Bool → Int → Option (Int)) (c91 : Bool → Int → Int → Int → Bool → Int → Int → Int → Option (Bool × List Int × Int)) : Cfg (Int × Int) := ⟨tys, orCall 29 (ieee_Decode.call c29) (orCall 86 (soft_invalid.call c86) (orCall 87 (soft_termOf.call c87) (orCall 88 (soft_term_plus.call c88) (orCall 89 (soft_term_rounded.call c89) (orCall 90 (soft_withSign.call c90) (orCall 91 (soft_product.call c91) (noCall)))))))⟩
noncomputable def soft_fma.cuts : List (Nat × List (Nat × Want)) := [(15, [(2, .keep), (8, .keep), (9, .keep), (10, .keep), (11, .keep)]), (3999, [(2, .keep), (8, .keep), (9, .keep), (10, .keep), (11, .keep), (12, .keep), (61, .keep)])]
noncomputable def soft_fma.s15 (x0 : Int) (x1 : Bool) (x2 : Bool) (x3 : Int) (x4 : Int) (x5 : Int) (x6 : Bool) (x7 : Int) (x8 : Int) (x9 : Int) (x10 : Bool) (x11 : Int) (x12 : Int) (x13 : Int) : ASt := ⟨[(2, .int .u64 x0), (8, .ptr 0 0), (9, .ptr 1 0), (10, .ptr 2 0), (11, .bool x1)], [.cells 39 [.bool x2, .int .i64 x3, .int .u64 x4, .int .i64 x5], .cells 39 [.bool x6, .int .i64 x7, .int .u64 x8, .int .i64 x9], .cells 39 [.bool x10, .int .i64 x11, .int .u64 x12, .int .i64 x13]]⟩
noncomputable def soft_fma.s3999 (x0 : Int) (x1 : Bool) (x2 : Bool) (x3 : Bool) (x4 : Bool) (x5 : Int) (x6 : Int) (x7 : Int) (x8 : Bool) (x9 : Int) (x10 : Int) (x11 : Int) (x12 : Bool) (x13 : Int) (x14 : Int) (x15 : Int) : ASt := ⟨[(2, .int .u64 x0), (8, .ptr 0 0), (9, .ptr 1 0), (10, .ptr 2 0), (11, .bool x1), (12, .bool x2), (61, .bool x3)], [.cells 39 [.bool x4, .int .i64 x5, .int .u64 x6, .int .i64 x7], .cells 39 [.bool x8, .int .i64 x9, .int .u64 x10, .int .i64 x11], .cells 39 [.bool x12, .int .i64 x13, .int .u64 x14, .int .i64 x15]]⟩
noncomputable def soft_fma.A (c29 : Int → Option (Bool × Int × Int × Int)) (c86 : Option (Int × Int)) (c87 : Bool → Int → Int → Int → Option (Bool × List Int × Int)) (c88 : Bool → List Int → Int → Bool → List Int → Int → Option (Bool × List Int × Int)) (c89 : Bool → List Int → Int → Option (Int × Int)) (c90 : Bool → Int → Option (Int)) (c91 : Bool → Int → Int → Int → Bool → Int → Int → Int → Option (Bool × List Int × Int)) (n : Nat) (J : Nat → (ASt → Option (Int × Int)) → ASt → Option (Int × Int)) (q : Nat) (ms : List Nat) : ASt → Option (Int × Int) := acont (soft_fma.cfg c29 c86 c87 c88 c89 c90 c91) J soft_fma.cuts n q soft_fma.code 1 ms (aend (soft_fma.cfg c29 c86 c87 c88 c89 c90 c91) Tryd.f59.results.toList [false, false] soft_fma.sg.out)
theorem soft_fma.e0 (c29 : Int → Option (Bool × Int × Int × Int)) (c86 : Option (Int × Int)) (c87 : Bool → Int → Int → Int → Option (Bool × List Int × Int)) (c88 : Bool → List Int → Int → Bool → List Int → Int → Option (Bool × List Int × Int)) (c89 : Bool → List Int → Int → Option (Int × Int)) (c90 : Bool → Int → Option (Int)) (c91 : Bool → Int → Int → Int → Bool → Int → Int → Int → Option (Bool × List Int × Int)) (n : Nat) (J : Nat → (ASt → Option (Int × Int)) → ASt → Option (Int × Int)) (a0 : Int) (a1 : Int) (a2 : Int) : afun (soft_fma.cfg c29 c86 c87 c88 c89 c90 c91) J soft_fma.cuts n soft_fma.code Tryd.f59.results.toList [false, false] [.int .u64 a0, .int .u64 a1, .int .u64 a2] soft_fma.sg.out = soft_fma.b0 c29 c86 c87 c88 c89 c90 c91 (fun y0 y1 y2 y3 y4 y5 y6 y7 y8 y9 y10 y11 y12 y13 => J 15 (soft_fma.A c29 c86 c87 c88 c89 c90 c91 n J 15 []) (soft_fma.s15 y0 y1 y2 y3 y4 y5 y6 y7 y8 y9 y10 y11 y12 y13)) a0 a1 a2 := by kernel_rfl
theorem soft_fma.e15 (c29 : Int → Option (Bool × Int × Int × Int)) (c86 : Option (Int × Int)) (c87 : Bool → Int → Int → Int → Option (Bool × List Int × Int)) (c88 : Bool → List Int → Int → Bool → List Int → Int → Option (Bool × List Int × Int)) (c89 : Bool → List Int → Int → Option (Int × Int)) (c90 : Bool → Int → Option (Int)) (c91 : Bool → Int → Int → Int → Bool → Int → Int → Int → Option (Bool × List Int × Int)) (n : Nat) (J : Nat → (ASt → Option (Int × Int)) → ASt → Option (Int × Int)) (x0 : Int) (x1 : Bool) (x2 : Bool) (x3 : Int) (x4 : Int) (x5 : Int) (x6 : Bool) (x7 : Int) (x8 : Int) (x9 : Int) (x10 : Bool) (x11 : Int) (x12 : Int) (x13 : Int) : soft_fma.A c29 c86 c87 c88 c89 c90 c91 n J 15 [] (soft_fma.s15 x0 x1 x2 x3 x4 x5 x6 x7 x8 x9 x10 x11 x12 x13) = soft_fma.b15 c29 c86 c87 c88 c89 c90 c91 (fun y0 y1 y2 y3 y4 y5 y6 y7 y8 y9 y10 y11 y12 y13 y14 y15 => J 3999 (soft_fma.A c29 c86 c87 c88 c89 c90 c91 n J 3999 []) (soft_fma.s3999 y0 y1 y2 y3 y4 y5 y6 y7 y8 y9 y10 y11 y12 y13 y14 y15)) x0 x1 x2 x3 x4 x5 x6 x7 x8 x9 x10 x11 x12 x13 := by kernel_rfl
theorem soft_fma.e3999 (c29 : Int → Option (Bool × Int × Int × Int)) (c86 : Option (Int × Int)) (c87 : Bool → Int → Int → Int → Option (Bool × List Int × Int)) (c88 : Bool → List Int → Int → Bool → List Int → Int → Option (Bool × List Int × Int)) (c89 : Bool → List Int → Int → Option (Int × Int)) (c90 : Bool → Int → Option (Int)) (c91 : Bool → Int → Int → Int → Bool → Int → Int → Int → Option (Bool × List Int × Int)) (n : Nat) (J : Nat → (ASt → Option (Int × Int)) → ASt → Option (Int × Int)) (x0 : Int) (x1 : Bool) (x2 : Bool) (x3 : Bool) (x4 : Bool) (x5 : Int) (x6 : Int) (x7 : Int) (x8 : Bool) (x9 : Int) (x10 : Int) (x11 : Int) (x12 : Bool) (x13 : Int) (x14 : Int) (x15 : Int) : soft_fma.A c29 c86 c87 c88 c89 c90 c91 n J 3999 [] (soft_fma.s3999 x0 x1 x2 x3 x4 x5 x6 x7 x8 x9 x10 x11 x12 x13 x14 x15) = soft_fma.b3999 c29 c86 c87 c88 c89 c90 c91 x0 x1 x2 x3 x4 x5 x6 x7 x8 x9 x10 x11 x12 x13 x14 x15 := by kernel_rfl
theorem soft_fma.q3999 (n : Nat) (x0 : Int) (x1 : Bool) (x2 : Bool) (x3 : Bool) (x4 : Bool) (x5 : Int) (x6 : Int) (x7 : Int) (x8 : Bool) (x9 : Int) (x10 : Int) (x11 : Int) (x12 : Bool) (x13 : Int) (x14 : Int) (x15 : Int) : soft_fma.A ieee_Decode.f soft_invalid.f soft_termOf.f (soft_term_plus.f n) (soft_term_rounded.f n) soft_withSign.f (soft_product.f n) n idJ 3999 [] (soft_fma.s3999 x0 x1 x2 x3 x4 x5 x6 x7 x8 x9 x10 x11 x12 x13 x14 x15) = soft_fma.l3999 n x0 x1 x2 x3 x4 x5 x6 x7 x8 x9 x10 x11 x12 x13 x14 x15 := (soft_fma.e3999 ieee_Decode.f soft_invalid.f soft_termOf.f (soft_term_plus.f n) (soft_term_rounded.f n) soft_withSign.f (soft_product.f n) n idJ x0 x1 x2 x3 x4 x5 x6 x7 x8 x9 x10 x11 x12 x13 x14 x15).trans (rfl)
theorem soft_fma.q15 (n : Nat) (x0 : Int) (x1 : Bool) (x2 : Bool) (x3 : Int) (x4 : Int) (x5 : Int) (x6 : Bool) (x7 : Int) (x8 : Int) (x9 : Int) (x10 : Bool) (x11 : Int) (x12 : Int) (x13 : Int) : soft_fma.A ieee_Decode.f soft_invalid.f soft_termOf.f (soft_term_plus.f n) (soft_term_rounded.f n) soft_withSign.f (soft_product.f n) n idJ 15 [] (soft_fma.s15 x0 x1 x2 x3 x4 x5 x6 x7 x8 x9 x10 x11 x12 x13) = soft_fma.l15 n x0 x1 x2 x3 x4 x5 x6 x7 x8 x9 x10 x11 x12 x13 := (soft_fma.e15 ieee_Decode.f soft_invalid.f soft_termOf.f (soft_term_plus.f n) (soft_term_rounded.f n) soft_withSign.f (soft_product.f n) n idJ x0 x1 x2 x3 x4 x5 x6 x7 x8 x9 x10 x11 x12 x13).trans (congrFun (congrFun (congrFun (congrFun (congrFun (congrFun (congrFun (congrFun (congrFun (congrFun (congrFun (congrFun (congrFun (congrFun (congrArg (soft_fma.b15 ieee_Decode.f soft_invalid.f soft_termOf.f (soft_term_plus.f n) (soft_term_rounded.f n) soft_withSign.f (soft_product.f n)) (funext fun y0 => (funext fun y1 => (funext fun y2 => (funext fun y3 => (funext fun y4 => (funext fun y5 => (funext fun y6 => (funext fun y7 => (funext fun y8 => (funext fun y9 => (funext fun y10 => (funext fun y11 => (funext fun y12 => (funext fun y13 => (funext fun y14 => (funext fun y15 => soft_fma.q3999 n y0 y1 y2 y3 y4 y5 y6 y7 y8 y9 y10 y11 y12 y13 y14 y15))))))))))))))))) x0) x1) x2) x3) x4) x5) x6) x7) x8) x9) x10) x11) x12) x13)
theorem soft_fma.eq (n : Nat) (a0 : Int) (a1 : Int) (a2 : Int) : afun (soft_fma.cfg ieee_Decode.f soft_invalid.f soft_termOf.f (soft_term_plus.f n) (soft_term_rounded.f n) soft_withSign.f (soft_product.f n)) idJ soft_fma.cuts n soft_fma.code Tryd.f59.results.toList [false, false] [.int .u64 a0, .int .u64 a1, .int .u64 a2] soft_fma.sg.out = soft_fma.f n a0 a1 a2 := (soft_fma.e0 ieee_Decode.f soft_invalid.f soft_termOf.f (soft_term_plus.f n) (soft_term_rounded.f n) soft_withSign.f (soft_product.f n) n idJ a0 a1 a2).trans (congrFun (congrFun (congrFun (congrArg (soft_fma.b0 ieee_Decode.f soft_invalid.f soft_termOf.f (soft_term_plus.f n) (soft_term_rounded.f n) soft_withSign.f (soft_product.f n)) (funext fun y0 => (funext fun y1 => (funext fun y2 => (funext fun y3 => (funext fun y4 => (funext fun y5 => (funext fun y6 => (funext fun y7 => (funext fun y8 => (funext fun y9 => (funext fun y10 => (funext fun y11 => (funext fun y12 => (funext fun y13 => soft_fma.q15 n y0 y1 y2 y3 y4 y5 y6 y7 y8 y9 y10 y11 y12 y13))))))))))))))) a0) a1) a2)
theorem soft_fma.ok {n : Nat} {a0 : Int} {a1 : Int} {a2 : Int} {r : Int × Int} (h : soft_fma.f n a0 a1 a2 = some r) : CallD Tryd.prog HW 59 [.int .u64 a0, .int .u64 a1, .int .u64 a2] (soft_fma.sg.enc r) :=
  fun_some hwS Tryd.func59 (by kernel_rfl) (body := soft_fma.code) (by kernel_rfl) tys_ok (c := soft_fma.cfg ieee_Decode.f soft_invalid.f soft_termOf.f (soft_term_plus.f n) (soft_term_rounded.f n) soft_withSign.f (soft_product.f n)) (orCall_ok (ieee_Decode.call_ok (n := n)) (orCall_ok (soft_invalid.call_ok (n := n)) (orCall_ok (soft_termOf.call_ok (n := n)) (orCall_ok (soft_term_plus.call_ok (n := n)) (orCall_ok (soft_term_rounded.call_ok (n := n)) (orCall_ok (soft_withSign.call_ok (n := n)) (orCall_ok (soft_product.call_ok (n := n)) noCall_ok))))))) (by kernel_rfl) (by kernel_rfl) (Nat.le_of_ble_eq_true (by kernel_rfl)) ((soft_fma.eq n a0 a1 a2).trans h)
noncomputable def soft_fma.call {α : Type} (g : Int → Int → Int → Option (Int × Int)) (ds : List D) (K : List D → Option α) : Option α := match ds with
  | [.int .u64 a0, .int .u64 a1, .int .u64 a2] => (g a0 a1 a2).bind fun r => K (soft_fma.sg.enc r)
  | _ => none
theorem soft_fma.call_ok {α : Type} {n : Nat} (ds : List D) (K : List D → Option α) (r : α) (h : soft_fma.call (soft_fma.f n) ds K = some r) : ∃ rs, K rs = some r ∧ CallD Tryd.prog HW 59 ds rs := by
  unfold soft_fma.call at h
  split at h
  · obtain ⟨x, hx, hk⟩ := Option.bind_eq_some_iff.1 h
    exact ⟨_, hk, soft_fma.ok (n := n) hx⟩
  · cases h
/-! ### soft_Fma: function 28 -/
noncomputable def soft_Fma.b0 (c59 : Int → Int → Int → Option (Int × Int)) (a0 : Int) (a1 : Int) (a2 : Int) : Option (Int) := ((c59 a0 a1 a2).bind fun t1 => some t1.1)
noncomputable def soft_Fma.f (n : Nat) (a0 : Int) (a1 : Int) (a2 : Int) : Option (Int) := soft_Fma.b0 (soft_fma.f n) a0 a1 a2
noncomputable def soft_Fma.sg : Sig (Int) := s1 (sInt .u64)
noncomputable def soft_Fma.code : Code := (Tryd.f28.body).getD .skip
noncomputable def soft_Fma.cfg (c59 : Int → Int → Int → Option (Int × Int)) : Cfg (Int) := ⟨tys, orCall 59 (soft_fma.call c59) (noCall)⟩
noncomputable def soft_Fma.cuts : List (Nat × List (Nat × Want)) := []
theorem soft_Fma.e0 (c59 : Int → Int → Int → Option (Int × Int)) (n : Nat) (J : Nat → (ASt → Option (Int)) → ASt → Option (Int)) (a0 : Int) (a1 : Int) (a2 : Int) : afun (soft_Fma.cfg c59) J soft_Fma.cuts n soft_Fma.code Tryd.f28.results.toList [false] [.int .u64 a0, .int .u64 a1, .int .u64 a2] soft_Fma.sg.out = soft_Fma.b0 c59 a0 a1 a2 := by kernel_rfl
theorem soft_Fma.eq (n : Nat) (a0 : Int) (a1 : Int) (a2 : Int) : afun (soft_Fma.cfg (soft_fma.f n)) idJ soft_Fma.cuts n soft_Fma.code Tryd.f28.results.toList [false] [.int .u64 a0, .int .u64 a1, .int .u64 a2] soft_Fma.sg.out = soft_Fma.f n a0 a1 a2 := (soft_Fma.e0 (soft_fma.f n) n idJ a0 a1 a2).trans (rfl)
theorem soft_Fma.ok {n : Nat} {a0 : Int} {a1 : Int} {a2 : Int} {r : Int} (h : soft_Fma.f n a0 a1 a2 = some r) : CallD Tryd.prog HW 28 [.int .u64 a0, .int .u64 a1, .int .u64 a2] (soft_Fma.sg.enc r) :=
  fun_some hwS Tryd.func28 (by kernel_rfl) (body := soft_Fma.code) (by kernel_rfl) tys_ok (c := soft_Fma.cfg (soft_fma.f n)) (orCall_ok (soft_fma.call_ok (n := n)) noCall_ok) (by kernel_rfl) (by kernel_rfl) (Nat.le_of_ble_eq_true (by kernel_rfl)) ((soft_Fma.eq n a0 a1 a2).trans h)
noncomputable def soft_Fma.call {α : Type} (g : Int → Int → Int → Option (Int)) (ds : List D) (K : List D → Option α) : Option α := match ds with
  | [.int .u64 a0, .int .u64 a1, .int .u64 a2] => (g a0 a1 a2).bind fun r => K (soft_Fma.sg.enc r)
  | _ => none
theorem soft_Fma.call_ok {α : Type} {n : Nat} (ds : List D) (K : List D → Option α) (r : α) (h : soft_Fma.call (soft_Fma.f n) ds K = some r) : ∃ rs, K rs = some r ∧ CallD Tryd.prog HW 28 ds rs := by
  unfold soft_Fma.call at h
  split at h
  · obtain ⟨x, hx, hk⟩ := Option.bind_eq_some_iff.1 h
    exact ⟨_, hk, soft_Fma.ok (n := n) hx⟩
  · cases h
/-! ### abacuslaw05_finite: function 16 -/
noncomputable def abacuslaw05_finite.b0 (a0 : Int) : Option (Bool) := some (decide ((Go.bits .andNot .u64 a0 9223372036854775808) < 9218868437227405312))
noncomputable def abacuslaw05_finite.f (a0 : Int) : Option (Bool) := abacuslaw05_finite.b0 a0
noncomputable def abacuslaw05_finite.sg : Sig (Bool) := s1 (sBool)
noncomputable def abacuslaw05_finite.code : Code := (Tryd.f16.body).getD .skip
noncomputable def abacuslaw05_finite.cfg : Cfg (Bool) := ⟨tys, noCall⟩
noncomputable def abacuslaw05_finite.cuts : List (Nat × List (Nat × Want)) := []
theorem abacuslaw05_finite.e0 (n : Nat) (J : Nat → (ASt → Option (Bool)) → ASt → Option (Bool)) (a0 : Int) : afun (abacuslaw05_finite.cfg) J abacuslaw05_finite.cuts n abacuslaw05_finite.code Tryd.f16.results.toList [false] [.int .u64 a0] abacuslaw05_finite.sg.out = abacuslaw05_finite.b0 a0 := by kernel_rfl
theorem abacuslaw05_finite.eq (n : Nat) (a0 : Int) : afun (abacuslaw05_finite.cfg) idJ abacuslaw05_finite.cuts n abacuslaw05_finite.code Tryd.f16.results.toList [false] [.int .u64 a0] abacuslaw05_finite.sg.out = abacuslaw05_finite.f a0 := (abacuslaw05_finite.e0 n idJ a0).trans (rfl)
theorem abacuslaw05_finite.ok {n : Nat} {a0 : Int} {r : Bool} (h : abacuslaw05_finite.f a0 = some r) : CallD Tryd.prog HW 16 [.int .u64 a0] (abacuslaw05_finite.sg.enc r) :=
  fun_some hwS Tryd.func16 (by kernel_rfl) (body := abacuslaw05_finite.code) (by kernel_rfl) tys_ok (c := abacuslaw05_finite.cfg) noCall_ok (by kernel_rfl) (by kernel_rfl) (Nat.le_of_ble_eq_true (by kernel_rfl)) ((abacuslaw05_finite.eq n a0).trans h)
noncomputable def abacuslaw05_finite.call {α : Type} (g : Int → Option (Bool)) (ds : List D) (K : List D → Option α) : Option α := match ds with
  | [.int .u64 a0] => (g a0).bind fun r => K (abacuslaw05_finite.sg.enc r)
  | _ => none
theorem abacuslaw05_finite.call_ok {α : Type} {n : Nat} (ds : List D) (K : List D → Option α) (r : α) (h : abacuslaw05_finite.call abacuslaw05_finite.f ds K = some r) : ∃ rs, K rs = some r ∧ CallD Tryd.prog HW 16 ds rs := by
  unfold abacuslaw05_finite.call at h
  split at h
  · obtain ⟨x, hx, hk⟩ := Option.bind_eq_some_iff.1 h
    exact ⟨_, hk, abacuslaw05_finite.ok (n := n) hx⟩
  · cases h
/-! ### abacuslaw05_units: function 17 -/
noncomputable def abacuslaw05_units.b0 (c29 : Int → Option (Bool × Int × Int × Int)) (c50 : Int → Option (List Int)) (c51 : List Int → Int → Option (List Int × Int)) (k63 : List Int → Int → Bool → Int → Int → Int → Option (Bool × List Int)) (a0 : Int) : Option (Bool × List Int) := ((c29 a0).bind fun t1 => ((c50 t1.2.2.1).bind fun t2 => (if t1.2.1 = 3 then ((c50 1).bind fun t3 => k63 t3 1024 t1.1 t1.2.1 t1.2.2.1 t1.2.2.2) else k63 t2 t1.2.2.2 t1.1 t1.2.1 t1.2.2.1 t1.2.2.2)))
noncomputable def abacuslaw05_units.b63 (c29 : Int → Option (Bool × Int × Int × Int)) (c50 : Int → Option (List Int)) (c51 : List Int → Int → Option (List Int × Int)) (x0 : List Int) (x1 : Int) (x2 : Bool) (x3 : Int) (x4 : Int) (x5 : Int) : Option (Bool × List Int) := ((c51 x0 (wrap64 (x1 + 1074))).bind fun t1 => some (x2, t1.1))
noncomputable def abacuslaw05_units.l63 (n : Nat) (x0 : List Int) (x1 : Int) (x2 : Bool) (x3 : Int) (x4 : Int) (x5 : Int) : Option (Bool × List Int) := abacuslaw05_units.b63 ieee_Decode.f nat_FromUint.f (nat_Shl.f n) x0 x1 x2 x3 x4 x5
noncomputable def abacuslaw05_units.f (n : Nat) (a0 : Int) : Option (Bool × List Int) := abacuslaw05_units.b0 ieee_Decode.f nat_FromUint.f (nat_Shl.f n) (abacuslaw05_units.l63 n) a0
noncomputable def abacuslaw05_units.sg : Sig (Bool × List Int) := s1 (sAgg (s2 (sBool) (s1 (sRow .u64))))
noncomputable def abacuslaw05_units.code : Code := (Tryd.f17.body).getD .skip
noncomputable def abacuslaw05_units.cfg (c29 : Int → Option (Bool × Int × Int × Int)) (c50 : Int → Option (List Int)) (c51 : List Int → Int → Option (List Int × Int)) : Cfg (Bool × List Int) := ⟨tys, orCall 29 (ieee_Decode.call c29) (orCall 50 (nat_FromUint.call c50) (orCall 51 (nat_Shl.call c51) (noCall)))⟩
noncomputable def abacuslaw05_units.cuts : List (Nat × List (Nat × Want)) := [(63, [(2, .keep), (3, .keep), (4, .keep), (5, .keep)])]
noncomputable def abacuslaw05_units.s63 (x0 : List Int) (x1 : Int) (x2 : Bool) (x3 : Int) (x4 : Int) (x5 : Int) : ASt := ⟨[(2, .ptr 0 0), (3, .ptr 1 0), (4, .ro .u64 x0), (5, .int .i64 x1)], [.cells 27 [.bool false, .nil], .cells 39 [.bool x2, .int .i64 x3, .int .u64 x4, .int .i64 x5]]⟩
noncomputable def abacuslaw05_units.A (c29 : Int → Option (Bool × Int × Int × Int)) (c50 : Int → Option (List Int)) (c51 : List Int → Int → Option (List Int × Int)) (n : Nat) (J : Nat → (ASt → Option (Bool × List Int)) → ASt → Option (Bool × List Int)) (q : Nat) (ms : List Nat) : ASt → Option (Bool × List Int) := acont (abacuslaw05_units.cfg c29 c50 c51) J abacuslaw05_units.cuts n q abacuslaw05_units.code 1 ms (aend (abacuslaw05_units.cfg c29 c50 c51) Tryd.f17.results.toList [false] abacuslaw05_units.sg.out)
theorem abacuslaw05_units.e0 (c29 : Int → Option (Bool × Int × Int × Int)) (c50 : Int → Option (List Int)) (c51 : List Int → Int → Option (List Int × Int)) (n : Nat) (J : Nat → (ASt → Option (Bool × List Int)) → ASt → Option (Bool × List Int)) (a0 : Int) : afun (abacuslaw05_units.cfg c29 c50 c51) J abacuslaw05_units.cuts n abacuslaw05_units.code Tryd.f17.results.toList [false] [.int .u64 a0] abacuslaw05_units.sg.out = abacuslaw05_units.b0 c29 c50 c51 (fun y0 y1 y2 y3 y4 y5 => J 63 (abacuslaw05_units.A c29 c50 c51 n J 63 []) (abacuslaw05_units.s63 y0 y1 y2 y3 y4 y5)) a0 := by kernel_rfl
theorem abacuslaw05_units.e63 (c29 : Int → Option (Bool × Int × Int × Int)) (c50 : Int → Option (List Int)) (c51 : List Int → Int → Option (List Int × Int)) (n : Nat) (J : Nat → (ASt → Option (Bool × List Int)) → ASt → Option (Bool × List Int)) (x0 : List Int) (x1 : Int) (x2 : Bool) (x3 : Int) (x4 : Int) (x5 : Int) : abacuslaw05_units.A c29 c50 c51 n J 63 [] (abacuslaw05_units.s63 x0 x1 x2 x3 x4 x5) = abacuslaw05_units.b63 c29 c50 c51 x0 x1 x2 x3 x4 x5 := by kernel_rfl
theorem abacuslaw05_units.q63 (n : Nat) (x0 : List Int) (x1 : Int) (x2 : Bool) (x3 : Int) (x4 : Int) (x5 : Int) : abacuslaw05_units.A ieee_Decode.f nat_FromUint.f (nat_Shl.f n) n idJ 63 [] (abacuslaw05_units.s63 x0 x1 x2 x3 x4 x5) = abacuslaw05_units.l63 n x0 x1 x2 x3 x4 x5 := (abacuslaw05_units.e63 ieee_Decode.f nat_FromUint.f (nat_Shl.f n) n idJ x0 x1 x2 x3 x4 x5).trans (rfl)
theorem abacuslaw05_units.eq (n : Nat) (a0 : Int) : afun (abacuslaw05_units.cfg ieee_Decode.f nat_FromUint.f (nat_Shl.f n)) idJ abacuslaw05_units.cuts n abacuslaw05_units.code Tryd.f17.results.toList [false] [.int .u64 a0] abacuslaw05_units.sg.out = abacuslaw05_units.f n a0 := (abacuslaw05_units.e0 ieee_Decode.f nat_FromUint.f (nat_Shl.f n) n idJ a0).trans (congrFun (congrArg (abacuslaw05_units.b0 ieee_Decode.f nat_FromUint.f (nat_Shl.f n)) (funext fun y0 => (funext fun y1 => (funext fun y2 => (funext fun y3 => (funext fun y4 => (funext fun y5 => abacuslaw05_units.q63 n y0 y1 y2 y3 y4 y5))))))) a0)
theorem abacuslaw05_units.ok {n : Nat} {a0 : Int} {r : Bool × List Int} (h : abacuslaw05_units.f n a0 = some r) : CallD Tryd.prog HW 17 [.int .u64 a0] (abacuslaw05_units.sg.enc r) :=
  fun_some hwS Tryd.func17 (by kernel_rfl) (body := abacuslaw05_units.code) (by kernel_rfl) tys_ok (c := abacuslaw05_units.cfg ieee_Decode.f nat_FromUint.f (nat_Shl.f n)) (orCall_ok (ieee_Decode.call_ok (n := n)) (orCall_ok (nat_FromUint.call_ok (n := n)) (orCall_ok (nat_Shl.call_ok (n := n)) noCall_ok))) (by kernel_rfl) (by kernel_rfl) (Nat.le_of_ble_eq_true (by kernel_rfl)) ((abacuslaw05_units.eq n a0).trans h)
noncomputable def abacuslaw05_units.call {α : Type} (g : Int → Option (Bool × List Int)) (ds : List D) (K : List D → Option α) : Option α := match ds with
  | [.int .u64 a0] => (g a0).bind fun r => K (abacuslaw05_units.sg.enc r)
  | _ => none
theorem abacuslaw05_units.call_ok {α : Type} {n : Nat} (ds : List D) (K : List D → Option α) (r : α) (h : abacuslaw05_units.call (abacuslaw05_units.f n) ds K = some r) : ∃ rs, K rs = some r ∧ CallD Tryd.prog HW 17 ds rs := by
  unfold abacuslaw05_units.call at h
  split at h
  · obtain ⟨x, hx, hk⟩ := Option.bind_eq_some_iff.1 h
    exact ⟨_, hk, abacuslaw05_units.ok (n := n) hx⟩
  · cases h
/-! ### abacuslaw05_times: function 31 -/
noncomputable def abacuslaw05_times.b0 (c49 : List Int → List Int → Option (List Int × Int)) (a0 : Bool) (l1 : List Int) (a2 : Bool) (l3 : List Int) : Option (Bool × List Int) := ((c49 l1 l3).bind fun t1 => some (a0 != a2, t1.1))
noncomputable def abacuslaw05_times.f (n : Nat) (a0 : Bool) (l1 : List Int) (a2 : Bool) (l3 : List Int) : Option (Bool × List Int) := abacuslaw05_times.b0 (nat_Mul.f n) a0 l1 a2 l3
noncomputable def abacuslaw05_times.sg : Sig (Bool × List Int) := s1 (sAgg (s2 (sBool) (s1 (sRow .u64))))
noncomputable def abacuslaw05_times.code : Code := (Tryd.f31.body).getD .skip
noncomputable def abacuslaw05_times.cfg (c49 : List Int → List Int → Option (List Int × Int)) : Cfg (Bool × List Int) := ⟨tys, orCall 49 (nat_Mul.call c49) (noCall)⟩
noncomputable def abacuslaw05_times.cuts : List (Nat × List (Nat × Want)) := []
theorem abacuslaw05_times.e0 (c49 : List Int → List Int → Option (List Int × Int)) (n : Nat) (J : Nat → (ASt → Option (Bool × List Int)) → ASt → Option (Bool × List Int)) (a0 : Bool) (l1 : List Int) (a2 : Bool) (l3 : List Int) : afun (abacuslaw05_times.cfg c49) J abacuslaw05_times.cuts n abacuslaw05_times.code Tryd.f31.results.toList [false] [.agg [.bool a0, .ro .u64 l1], .agg [.bool a2, .ro .u64 l3]] abacuslaw05_times.sg.out = abacuslaw05_times.b0 c49 a0 l1 a2 l3 := by kernel_rfl
theorem abacuslaw05_times.eq (n : Nat) (a0 : Bool) (l1 : List Int) (a2 : Bool) (l3 : List Int) : afun (abacuslaw05_times.cfg (nat_Mul.f n)) idJ abacuslaw05_times.cuts n abacuslaw05_times.code Tryd.f31.results.toList [false] [.agg [.bool a0, .ro .u64 l1], .agg [.bool a2, .ro .u64 l3]] abacuslaw05_times.sg.out = abacuslaw05_times.f n a0 l1 a2 l3 := (abacuslaw05_times.e0 (nat_Mul.f n) n idJ a0 l1 a2 l3).trans (rfl)
theorem abacuslaw05_times.ok {n : Nat} {a0 : Bool} {l1 : List Int} {a2 : Bool} {l3 : List Int} {r : Bool × List Int} (h : abacuslaw05_times.f n a0 l1 a2 l3 = some r) : CallD Tryd.prog HW 31 [.agg [.bool a0, .ro .u64 l1], .agg [.bool a2, .ro .u64 l3]] (abacuslaw05_times.sg.enc r) :=
  fun_some hwS Tryd.func31 (by kernel_rfl) (body := abacuslaw05_times.code) (by kernel_rfl) tys_ok (c := abacuslaw05_times.cfg (nat_Mul.f n)) (orCall_ok (nat_Mul.call_ok (n := n)) noCall_ok) (by kernel_rfl) (by kernel_rfl) (Nat.le_of_ble_eq_true (by kernel_rfl)) ((abacuslaw05_times.eq n a0 l1 a2 l3).trans h)
noncomputable def abacuslaw05_times.call {α : Type} (g : Bool → List Int → Bool → List Int → Option (Bool × List Int)) (ds : List D) (K : List D → Option α) : Option α := match ds with
  | [.agg [.bool a0, .ro .u64 l1], .agg [.bool a2, .ro .u64 l3]] => (g a0 l1 a2 l3).bind fun r => K (abacuslaw05_times.sg.enc r)
  | _ => none
theorem abacuslaw05_times.call_ok {α : Type} {n : Nat} (ds : List D) (K : List D → Option α) (r : α) (h : abacuslaw05_times.call (abacuslaw05_times.f n) ds K = some r) : ∃ rs, K rs = some r ∧ CallD Tryd.prog HW 31 ds rs := by
  unfold abacuslaw05_times.call at h
  split at h
  · obtain ⟨x, hx, hk⟩ := Option.bind_eq_some_iff.1 h
    exact ⟨_, hk, abacuslaw05_times.ok (n := n) hx⟩
  · cases h
/-! ### abacuslaw05_lifted: function 19 -/
noncomputable def abacuslaw05_lifted.b0 (c51 : List Int → Int → Option (List Int × Int)) (a0 : Bool) (l1 : List Int) (a2 : Int) : Option (Bool × List Int) := ((c51 l1 a2).bind fun t1 => some (a0, t1.1))
noncomputable def abacuslaw05_lifted.f (n : Nat) (a0 : Bool) (l1 : List Int) (a2 : Int) : Option (Bool × List Int) := abacuslaw05_lifted.b0 (nat_Shl.f n) a0 l1 a2
noncomputable def abacuslaw05_lifted.sg : Sig (Bool × List Int) := s1 (sAgg (s2 (sBool) (s1 (sRow .u64))))
noncomputable def abacuslaw05_lifted.code : Code := (Tryd.f19.body).getD .skip
noncomputable def abacuslaw05_lifted.cfg (c51 : List Int → Int → Option (List Int × Int)) : Cfg (Bool × List Int) := ⟨tys, orCall 51 (nat_Shl.call c51) (noCall)⟩
noncomputable def abacuslaw05_lifted.cuts : List (Nat × List (Nat × Want)) := []
theorem abacuslaw05_lifted.e0 (c51 : List Int → Int → Option (List Int × Int)) (n : Nat) (J : Nat → (ASt → Option (Bool × List Int)) → ASt → Option (Bool × List Int)) (a0 : Bool) (l1 : List Int) (a2 : Int) : afun (abacuslaw05_lifted.cfg c51) J abacuslaw05_lifted.cuts n abacuslaw05_lifted.code Tryd.f19.results.toList [false] [.agg [.bool a0, .ro .u64 l1], .int .i64 a2] abacuslaw05_lifted.sg.out = abacuslaw05_lifted.b0 c51 a0 l1 a2 := by kernel_rfl
theorem abacuslaw05_lifted.eq (n : Nat) (a0 : Bool) (l1 : List Int) (a2 : Int) : afun (abacuslaw05_lifted.cfg (nat_Shl.f n)) idJ abacuslaw05_lifted.cuts n abacuslaw05_lifted.code Tryd.f19.results.toList [false] [.agg [.bool a0, .ro .u64 l1], .int .i64 a2] abacuslaw05_lifted.sg.out = abacuslaw05_lifted.f n a0 l1 a2 := (abacuslaw05_lifted.e0 (nat_Shl.f n) n idJ a0 l1 a2).trans (rfl)
theorem abacuslaw05_lifted.ok {n : Nat} {a0 : Bool} {l1 : List Int} {a2 : Int} {r : Bool × List Int} (h : abacuslaw05_lifted.f n a0 l1 a2 = some r) : CallD Tryd.prog HW 19 [.agg [.bool a0, .ro .u64 l1], .int .i64 a2] (abacuslaw05_lifted.sg.enc r) :=
  fun_some hwS Tryd.func19 (by kernel_rfl) (body := abacuslaw05_lifted.code) (by kernel_rfl) tys_ok (c := abacuslaw05_lifted.cfg (nat_Shl.f n)) (orCall_ok (nat_Shl.call_ok (n := n)) noCall_ok) (by kernel_rfl) (by kernel_rfl) (Nat.le_of_ble_eq_true (by kernel_rfl)) ((abacuslaw05_lifted.eq n a0 l1 a2).trans h)
noncomputable def abacuslaw05_lifted.call {α : Type} (g : Bool → List Int → Int → Option (Bool × List Int)) (ds : List D) (K : List D → Option α) : Option α := match ds with
  | [.agg [.bool a0, .ro .u64 l1], .int .i64 a2] => (g a0 l1 a2).bind fun r => K (abacuslaw05_lifted.sg.enc r)
  | _ => none
theorem abacuslaw05_lifted.call_ok {α : Type} {n : Nat} (ds : List D) (K : List D → Option α) (r : α) (h : abacuslaw05_lifted.call (abacuslaw05_lifted.f n) ds K = some r) : ∃ rs, K rs = some r ∧ CallD Tryd.prog HW 19 ds rs := by
  unfold abacuslaw05_lifted.call at h
  split at h
  · obtain ⟨x, hx, hk⟩ := Option.bind_eq_some_iff.1 h
    exact ⟨_, hk, abacuslaw05_lifted.ok (n := n) hx⟩
  · cases h
/-! ### abacuslaw05_plus: function 22 -/
noncomputable def abacuslaw05_plus.b0 (c18 : List Int → List Int → Option (Int)) (c55 : List Int → List Int → Option (List Int × Int)) (c56 : List Int → List Int → Option (List Int × Int)) (a0 : Bool) (l1 : List Int) (a2 : Bool) (l3 : List Int) : Option (Bool × List Int) := (if (a0 == a2) = true then ((c55 l1 l3).bind fun t1 => some (a0, t1.1)) else ((c18 l1 l3).bind fun t2 => (if t2 ≥ 0 then ((c56 l1 l3).bind fun t3 => some (a0, t3.1)) else ((c56 l3 l1).bind fun t4 => some (a2, t4.1)))))
noncomputable def abacuslaw05_plus.f (n : Nat) (a0 : Bool) (l1 : List Int) (a2 : Bool) (l3 : List Int) : Option (Bool × List Int) := abacuslaw05_plus.b0 (nat_Cmp.f n) (nat_Add.f n) (nat_Sub.f n) a0 l1 a2 l3
noncomputable def abacuslaw05_plus.sg : Sig (Bool × List Int) := s1 (sAgg (s2 (sBool) (s1 (sRow .u64))))
noncomputable def abacuslaw05_plus.code : Code := (Tryd.f22.body).getD .skip
noncomputable def abacuslaw05_plus.cfg (c18 : List Int → List Int → Option (Int)) (c55 : List Int → List Int → Option (List Int × Int)) (c56 : List Int → List Int → Option (List Int × Int)) : Cfg (Bool × List Int) := ⟨tys, orCall 18 (nat_Cmp.call c18) (orCall 55 (nat_Add.call c55) (orCall 56 (nat_Sub.call c56) (noCall)))⟩
noncomputable def abacuslaw05_plus.cuts : List (Nat × List (Nat × Want)) := []
theorem abacuslaw05_plus.e0 (c18 : List Int → List Int → Option (Int)) (c55 : List Int → List Int → Option (List Int × Int)) (c56 : List Int → List Int → Option (List Int × Int)) (n : Nat) (J : Nat → (ASt → Option (Bool × List Int)) → ASt → Option (Bool × List Int)) (a0 : Bool) (l1 : List Int) (a2 : Bool) (l3 : List Int) : afun (abacuslaw05_plus.cfg c18 c55 c56) J abacuslaw05_plus.cuts n abacuslaw05_plus.code Tryd.f22.results.toList [false] [.agg [.bool a0, .ro .u64 l1], .agg [.bool a2, .ro .u64 l3]] abacuslaw05_plus.sg.out = abacuslaw05_plus.b0 c18 c55 c56 a0 l1 a2 l3 := by kernel_rfl
theorem abacuslaw05_plus.eq (n : Nat) (a0 : Bool) (l1 : List Int) (a2 : Bool) (l3 : List Int) : afun (abacuslaw05_plus.cfg (nat_Cmp.f n) (nat_Add.f n) (nat_Sub.f n)) idJ abacuslaw05_plus.cuts n abacuslaw05_plus.code Tryd.f22.results.toList [false] [.agg [.bool a0, .ro .u64 l1], .agg [.bool a2, .ro .u64 l3]] abacuslaw05_plus.sg.out = abacuslaw05_plus.f n a0 l1 a2 l3 := (abacuslaw05_plus.e0 (nat_Cmp.f n) (nat_Add.f n) (nat_Sub.f n) n idJ a0 l1 a2 l3).trans (rfl)
theorem abacuslaw05_plus.ok {n : Nat} {a0 : Bool} {l1 : List Int} {a2 : Bool} {l3 : List Int} {r : Bool × List Int} (h : abacuslaw05_plus.f n a0 l1 a2 l3 = some r) : CallD Tryd.prog HW 22 [.agg [.bool a0, .ro .u64 l1], .agg [.bool a2, .ro .u64 l3]] (abacuslaw05_plus.sg.enc r) :=
  fun_some hwS Tryd.func22 (by kernel_rfl) (body := abacuslaw05_plus.code) (by kernel_rfl) tys_ok (c := abacuslaw05_plus.cfg (nat_Cmp.f n) (nat_Add.f n) (nat_Sub.f n)) (orCall_ok (nat_Cmp.call_ok (n := n)) (orCall_ok (nat_Add.call_ok (n := n)) (orCall_ok (nat_Sub.call_ok (n := n)) noCall_ok))) (by kernel_rfl) (by kernel_rfl) (Nat.le_of_ble_eq_true (by kernel_rfl)) ((abacuslaw05_plus.eq n a0 l1 a2 l3).trans h)
noncomputable def abacuslaw05_plus.call {α : Type} (g : Bool → List Int → Bool → List Int → Option (Bool × List Int)) (ds : List D) (K : List D → Option α) : Option α := match ds with
  | [.agg [.bool a0, .ro .u64 l1], .agg [.bool a2, .ro .u64 l3]] => (g a0 l1 a2 l3).bind fun r => K (abacuslaw05_plus.sg.enc r)
  | _ => none
theorem abacuslaw05_plus.call_ok {α : Type} {n : Nat} (ds : List D) (K : List D → Option α) (r : α) (h : abacuslaw05_plus.call (abacuslaw05_plus.f n) ds K = some r) : ∃ rs, K rs = some r ∧ CallD Tryd.prog HW 22 ds rs := by
  unfold abacuslaw05_plus.call at h
  split at h
  · obtain ⟨x, hx, hk⟩ := Option.bind_eq_some_iff.1 h
    exact ⟨_, hk, abacuslaw05_plus.ok (n := n) hx⟩
  · cases h
/-! ### abacuslaw05_one: function 26 -/
noncomputable def abacuslaw05_one.b0 : Option (Bool × List Int) := some (false, [1])
noncomputable def abacuslaw05_one.f : Option (Bool × List Int) := abacuslaw05_one.b0
noncomputable def abacuslaw05_one.sg : Sig (Bool × List Int) := s1 (sAgg (s2 (sBool) (s1 (sRow .u64))))
noncomputable def abacuslaw05_one.code : Code := (Tryd.f26.body).getD .skip
noncomputable def abacuslaw05_one.cfg : Cfg (Bool × List Int) := ⟨tys, noCall⟩
noncomputable def abacuslaw05_one.cuts : List (Nat × List (Nat × Want)) := []
theorem abacuslaw05_one.e0 (n : Nat) (J : Nat → (ASt → Option (Bool × List Int)) → ASt → Option (Bool × List Int)) : afun (abacuslaw05_one.cfg) J abacuslaw05_one.cuts n abacuslaw05_one.code Tryd.f26.results.toList [false] [] abacuslaw05_one.sg.out = abacuslaw05_one.b0 := by kernel_rfl
theorem abacuslaw05_one.eq (n : Nat) : afun (abacuslaw05_one.cfg) idJ abacuslaw05_one.cuts n abacuslaw05_one.code Tryd.f26.results.toList [false] [] abacuslaw05_one.sg.out = abacuslaw05_one.f := (abacuslaw05_one.e0 n idJ).trans (rfl)
theorem abacuslaw05_one.ok {n : Nat} {r : Bool × List Int} (h : abacuslaw05_one.f = some r) : CallD Tryd.prog HW 26 [] (abacuslaw05_one.sg.enc r) :=
  fun_some hwS Tryd.func26 (by kernel_rfl) (body := abacuslaw05_one.code) (by kernel_rfl) tys_ok (c := abacuslaw05_one.cfg) noCall_ok (by kernel_rfl) (by kernel_rfl) (Nat.le_of_ble_eq_true (by kernel_rfl)) ((abacuslaw05_one.eq n).trans h)
noncomputable def abacuslaw05_one.call {α : Type} (g : Option (Bool × List Int)) (ds : List D) (K : List D → Option α) : Option α := match ds with
  | [] => (g).bind fun r => K (abacuslaw05_one.sg.enc r)
  | _ :: _ => none
theorem abacuslaw05_one.call_ok {α : Type} {n : Nat} (ds : List D) (K : List D → Option α) (r : α) (h : abacuslaw05_one.call abacuslaw05_one.f ds K = some r) : ∃ rs, K rs = some r ∧ CallD Tryd.prog HW 26 ds rs := by
  unfold abacuslaw05_one.call at h
  split at h
  · obtain ⟨x, hx, hk⟩ := Option.bind_eq_some_iff.1 h
    exact ⟨_, hk, abacuslaw05_one.ok (n := n) hx⟩
  · cases h
/-! ### abacuslaw05_unit: function 32 -/
noncomputable def abacuslaw05_unit.b0 (c19 : Bool → List Int → Int → Option (Bool × List Int)) (c26 : Option (Bool × List Int)) : Option (Bool × List Int) := ((c26).bind fun t1 => ((c19 t1.1 t1.2 1074).bind fun t2 => some (t2.1, t2.2)))
noncomputable def abacuslaw05_unit.f (n : Nat) : Option (Bool × List Int) := abacuslaw05_unit.b0 (abacuslaw05_lifted.f n) abacuslaw05_one.f
noncomputable def abacuslaw05_unit.sg : Sig (Bool × List Int) := s1 (sAgg (s2 (sBool) (s1 (sRow .u64))))
noncomputable def abacuslaw05_unit.code : Code := (Tryd.f32.body).getD .skip
noncomputable def abacuslaw05_unit.cfg (c19 : Bool → List Int → Int → Option (Bool × List Int)) (c26 : Option (Bool × List Int)) : Cfg (Bool × List Int) := ⟨tys, orCall 19 (abacuslaw05_lifted.call c19) (orCall 26 (abacuslaw05_one.call c26) (noCall))⟩
noncomputable def abacuslaw05_unit.cuts : List (Nat × List (Nat × Want)) := []
theorem abacuslaw05_unit.e0 (c19 : Bool → List Int → Int → Option (Bool × List Int)) (c26 : Option (Bool × List Int)) (n : Nat) (J : Nat → (ASt → Option (Bool × List Int)) → ASt → Option (Bool × List Int)) : afun (abacuslaw05_unit.cfg c19 c26) J abacuslaw05_unit.cuts n abacuslaw05_unit.code Tryd.f32.results.toList [false] [] abacuslaw05_unit.sg.out = abacuslaw05_unit.b0 c19 c26 := by kernel_rfl
theorem abacuslaw05_unit.eq (n : Nat) : afun (abacuslaw05_unit.cfg (abacuslaw05_lifted.f n) abacuslaw05_one.f) idJ abacuslaw05_unit.cuts n abacuslaw05_unit.code Tryd.f32.results.toList [false] [] abacuslaw05_unit.sg.out = abacuslaw05_unit.f n := (abacuslaw05_unit.e0 (abacuslaw05_lifted.f n) abacuslaw05_one.f n idJ).trans (rfl)
theorem abacuslaw05_unit.ok {n : Nat} {r : Bool × List Int} (h : abacuslaw05_unit.f n = some r) : CallD Tryd.prog HW 32 [] (abacuslaw05_unit.sg.enc r) :=
  fun_some hwS Tryd.func32 (by kernel_rfl) (body := abacuslaw05_unit.code) (by kernel_rfl) tys_ok (c := abacuslaw05_unit.cfg (abacuslaw05_lifted.f n) abacuslaw05_one.f) (orCall_ok (abacuslaw05_lifted.call_ok (n := n)) (orCall_ok (abacuslaw05_one.call_ok (n := n)) noCall_ok)) (by kernel_rfl) (by kernel_rfl) (Nat.le_of_ble_eq_true (by kernel_rfl)) ((abacuslaw05_unit.eq n).trans h)
noncomputable def abacuslaw05_unit.call {α : Type} (g : Option (Bool × List Int)) (ds : List D) (K : List D → Option α) : Option α := match ds with
  | [] => (g).bind fun r => K (abacuslaw05_unit.sg.enc r)
  | _ :: _ => none
theorem abacuslaw05_unit.call_ok {α : Type} {n : Nat} (ds : List D) (K : List D → Option α) (r : α) (h : abacuslaw05_unit.call (abacuslaw05_unit.f n) ds K = some r) : ∃ rs, K rs = some r ∧ CallD Tryd.prog HW 32 ds rs := by
  unfold abacuslaw05_unit.call at h
  split at h
  · obtain ⟨x, hx, hk⟩ := Option.bind_eq_some_iff.1 h
    exact ⟨_, hk, abacuslaw05_unit.ok (n := n) hx⟩
  · cases h
/-! ### abacuslaw05_apart: function 54 -/
noncomputable def abacuslaw05_apart.b0 (c22 : Bool → List Int → Bool → List Int → Option (Bool × List Int)) (a0 : Bool) (l1 : List Int) (a2 : Bool) (l3 : List Int) : Option (List Int) := ((c22 a0 l1 (!a2) l3).bind fun t1 => some t1.2)
noncomputable def abacuslaw05_apart.f (n : Nat) (a0 : Bool) (l1 : List Int) (a2 : Bool) (l3 : List Int) : Option (List Int) := abacuslaw05_apart.b0 (abacuslaw05_plus.f n) a0 l1 a2 l3
noncomputable def abacuslaw05_apart.sg : Sig (List Int) := s1 (sRow .u64)
noncomputable def abacuslaw05_apart.code : Code := (Tryd.f54.body).getD .skip
noncomputable def abacuslaw05_apart.cfg (c22 : Bool → List Int → Bool → List Int → Option (Bool × List Int)) : Cfg (List Int) := ⟨tys, orCall 22 (abacuslaw05_plus.call c22) (noCall)⟩
noncomputable def abacuslaw05_apart.cuts : List (Nat × List (Nat × Want)) := []
theorem abacuslaw05_apart.e0 (c22 : Bool → List Int → Bool → List Int → Option (Bool × List Int)) (n : Nat) (J : Nat → (ASt → Option (List Int)) → ASt → Option (List Int)) (a0 : Bool) (l1 : List Int) (a2 : Bool) (l3 : List Int) : afun (abacuslaw05_apart.cfg c22) J abacuslaw05_apart.cuts n abacuslaw05_apart.code Tryd.f54.results.toList [false] [.agg [.bool a0, .ro .u64 l1], .agg [.bool a2, .ro .u64 l3]] abacuslaw05_apart.sg.out = abacuslaw05_apart.b0 c22 a0 l1 a2 l3 := by kernel_rfl
theorem abacuslaw05_apart.eq (n : Nat) (a0 : Bool) (l1 : List Int) (a2 : Bool) (l3 : List Int) : afun (abacuslaw05_apart.cfg (abacuslaw05_plus.f n)) idJ abacuslaw05_apart.cuts n abacuslaw05_apart.code Tryd.f54.results.toList [false] [.agg [.bool a0, .ro .u64 l1], .agg [.bool a2, .ro .u64 l3]] abacuslaw05_apart.sg.out = abacuslaw05_apart.f n a0 l1 a2 l3 := (abacuslaw05_apart.e0 (abacuslaw05_plus.f n) n idJ a0 l1 a2 l3).trans (rfl)
theorem abacuslaw05_apart.ok {n : Nat} {a0 : Bool} {l1 : List Int} {a2 : Bool} {l3 : List Int} {r : List Int} (h : abacuslaw05_apart.f n a0 l1 a2 l3 = some r) : CallD Tryd.prog HW 54 [.agg [.bool a0, .ro .u64 l1], .agg [.bool a2, .ro .u64 l3]] (abacuslaw05_apart.sg.enc r) :=
  fun_some hwS Tryd.func54 (by kernel_rfl) (body := abacuslaw05_apart.code) (by kernel_rfl) tys_ok (c := abacuslaw05_apart.cfg (abacuslaw05_plus.f n)) (orCall_ok (abacuslaw05_plus.call_ok (n := n)) noCall_ok) (by kernel_rfl) (by kernel_rfl) (Nat.le_of_ble_eq_true (by kernel_rfl)) ((abacuslaw05_apart.eq n a0 l1 a2 l3).trans h)
noncomputable def abacuslaw05_apart.call {α : Type} (g : Bool → List Int → Bool → List Int → Option (List Int)) (ds : List D) (K : List D → Option α) : Option α := match ds with
  | [.agg [.bool a0, .ro .u64 l1], .agg [.bool a2, .ro .u64 l3]] => (g a0 l1 a2 l3).bind fun r => K (abacuslaw05_apart.sg.enc r)
  | _ => none
theorem abacuslaw05_apart.call_ok {α : Type} {n : Nat} (ds : List D) (K : List D → Option α) (r : α) (h : abacuslaw05_apart.call (abacuslaw05_apart.f n) ds K = some r) : ∃ rs, K rs = some r ∧ CallD Tryd.prog HW 54 ds rs := by
  unfold abacuslaw05_apart.call at h
  split at h
  · obtain ⟨x, hx, hk⟩ := Option.bind_eq_some_iff.1 h
    exact ⟨_, hk, abacuslaw05_apart.ok (n := n) hx⟩
  · cases h
/-! ### ieee_Down: function 35 -/
noncomputable def ieee_Down.b0 (c30 : Int → Option (Int)) (c34 : Int → Option (Int)) (c60 : Int → Option (Int)) (a0 : Int) : Option (Int) := ((c60 a0).bind fun t1 => (if t1 = 4 then some 9221120237041090560 else ((c30 a0).bind fun t2 => ((c34 t2).bind fun t3 => ((c30 t3).bind fun t4 => some t4)))))
noncomputable def ieee_Down.f (a0 : Int) : Option (Int) := ieee_Down.b0 ieee_Neg.f ieee_Up.f ieee_Class.f a0
noncomputable def ieee_Down.sg : Sig (Int) := s1 (sInt .u64)
noncomputable def ieee_Down.code : Code := (Tryd.f35.body).getD .skip
noncomputable def ieee_Down.cfg (c30 : Int → Option (Int)) (c34 : Int → Option (Int)) (c60 : Int → Option (Int)) : Cfg (Int) := ⟨tys, orCall 30 (ieee_Neg.call c30) (orCall 34 (ieee_Up.call c34) (orCall 60 (ieee_Class.call c60) (noCall)))⟩
noncomputable def ieee_Down.cuts : List (Nat × List (Nat × Want)) := []
theorem ieee_Down.e0 (c30 : Int → Option (Int)) (c34 : Int → Option (Int)) (c60 : Int → Option (Int)) (n : Nat) (J : Nat → (ASt → Option (Int)) → ASt → Option (Int)) (a0 : Int) : afun (ieee_Down.cfg c30 c34 c60) J ieee_Down.cuts n ieee_Down.code Tryd.f35.results.toList [false] [.int .u64 a0] ieee_Down.sg.out = ieee_Down.b0 c30 c34 c60 a0 := by kernel_rfl
theorem ieee_Down.eq (n : Nat) (a0 : Int) : afun (ieee_Down.cfg ieee_Neg.f ieee_Up.f ieee_Class.f) idJ ieee_Down.cuts n ieee_Down.code Tryd.f35.results.toList [false] [.int .u64 a0] ieee_Down.sg.out = ieee_Down.f a0 := (ieee_Down.e0 ieee_Neg.f ieee_Up.f ieee_Class.f n idJ a0).trans (rfl)
theorem ieee_Down.ok {n : Nat} {a0 : Int} {r : Int} (h : ieee_Down.f a0 = some r) : CallD Tryd.prog HW 35 [.int .u64 a0] (ieee_Down.sg.enc r) :=
  fun_some hwS Tryd.func35 (by kernel_rfl) (body := ieee_Down.code) (by kernel_rfl) tys_ok (c := ieee_Down.cfg ieee_Neg.f ieee_Up.f ieee_Class.f) (orCall_ok (ieee_Neg.call_ok (n := n)) (orCall_ok (ieee_Up.call_ok (n := n)) (orCall_ok (ieee_Class.call_ok (n := n)) noCall_ok))) (by kernel_rfl) (by kernel_rfl) (Nat.le_of_ble_eq_true (by kernel_rfl)) ((ieee_Down.eq n a0).trans h)
noncomputable def ieee_Down.call {α : Type} (g : Int → Option (Int)) (ds : List D) (K : List D → Option α) : Option α := match ds with
  | [.int .u64 a0] => (g a0).bind fun r => K (ieee_Down.sg.enc r)
  | _ => none
theorem ieee_Down.call_ok {α : Type} {n : Nat} (ds : List D) (K : List D → Option α) (r : α) (h : ieee_Down.call ieee_Down.f ds K = some r) : ∃ rs, K rs = some r ∧ CallD Tryd.prog HW 35 ds rs := by
  unfold ieee_Down.call at h
  split at h
  · obtain ⟨x, hx, hk⟩ := Option.bind_eq_some_iff.1 h
    exact ⟨_, hk, ieee_Down.ok (n := n) hx⟩
  · cases h
/-! ### abacuslaw05_nearest: function 25 -/
noncomputable def abacuslaw05_nearest.b0 (c17 : Int → Option (Bool × List Int)) (c18 : List Int → List Int → Option (Int)) (c31 : Bool → List Int → Bool → List Int → Option (Bool × List Int)) (c34 : Int → Option (Int)) (c35 : Int → Option (Int)) (c54 : Bool → List Int → Bool → List Int → Option (List Int)) (k127 : Int → List Int → List Int → Int → Option (Bool)) (a0 : Bool) (l1 : List Int) (a2 : Int) (a3 : Bool) (l4 : List Int) : Option (Bool) := (if (Go.bits .andNot .u64 a2 9223372036854775808) > 9218868437227405312 then some false else ((c17 a2).bind fun t1 => ((c31 t1.1 t1.2 a3 l4).bind fun t2 => ((c54 a0 l1 t2.1 t2.2).bind fun t3 => ((c34 a2).bind fun t4 => ((c17 t4).bind fun t5 => ((c31 t5.1 t5.2 a3 l4).bind fun t6 => ((c54 a0 l1 t6.1 t6.2).bind fun t7 => ((c35 a2).bind fun t8 => ((c17 t8).bind fun t9 => ((c31 t9.1 t9.2 a3 l4).bind fun t10 => ((c54 a0 l1 t10.1 t10.2).bind fun t11 => ((c18 t3 t7).bind fun t12 => k127 a2 t3 t11 t12)))))))))))))
noncomputable def abacuslaw05_nearest.b127 (c17 : Int → Option (Bool × List Int)) (c18 : List Int → List Int → Option (Int)) (c31 : Bool → List Int → Bool → List Int → Option (Bool × List Int)) (c34 : Int → Option (Int)) (c35 : Int → Option (Int)) (c54 : Bool → List Int → Bool → List Int → Option (List Int)) (x0 : Int) (x1 : List Int) (x2 : List Int) (x3 : Int) : Option (Bool) := ((c18 x1 x2).bind fun t1 => (if x3 > 0 then some false else (if t1 > 0 then some false else (if x3 < 0 then (if t1 < 0 then some true else some (decide ((Go.bits .and .u64 x0 1) = 0))) else some (decide ((Go.bits .and .u64 x0 1) = 0))))))
noncomputable def abacuslaw05_nearest.l127 (n : Nat) (x0 : Int) (x1 : List Int) (x2 : List Int) (x3 : Int) : Option (Bool) := abacuslaw05_nearest.b127 (abacuslaw05_units.f n) (nat_Cmp.f n) (abacuslaw05_times.f n) ieee_Up.f ieee_Down.f (abacuslaw05_apart.f n) x0 x1 x2 x3
noncomputable def abacuslaw05_nearest.f (n : Nat) (a0 : Bool) (l1 : List Int) (a2 : Int) (a3 : Bool) (l4 : List Int) : Option (Bool) := abacuslaw05_nearest.b0 (abacuslaw05_units.f n) (nat_Cmp.f n) (abacuslaw05_times.f n) ieee_Up.f ieee_Down.f (abacuslaw05_apart.f n) (abacuslaw05_nearest.l127 n) a0 l1 a2 a3 l4
noncomputable def abacuslaw05_nearest.sg : Sig (Bool) := s1 (sBool)
noncomputable def abacuslaw05_nearest.code : Code := (Tryd.f25.body).getD .skip
noncomputable def abacuslaw05_nearest.cfg (c17 : Int → Option (Bool × List Int)) (c18 : List Int → List Int → Option (Int)) (c31 : Bool → List Int → Bool → List Int → Option (Bool × List Int)) (c34 : Int → Option (Int)) (c35 : Int → Option (Int)) (c54 : Bool → List Int → Bool → List Int → Option (List Int)) : Cfg (Bool) := ⟨tys, orCall 17 (abacuslaw05_units.call c17) (orCall 18 (nat_Cmp.call c18) (orCall 31 (abacuslaw05_times.call c31) (orCall 34 (ieee_Up.call c34) (orCall 35 (ieee_Down.call c35) (orCall 54 (abacuslaw05_apart.call c54) (noCall))))))⟩
noncomputable def abacuslaw05_nearest.cuts : List (Nat × List (Nat × Want)) := [(127, [(1, .keep), (7, .keep), (9, .keep), (10, .keep)])]
noncomputable def abacuslaw05_nearest.s127 (x0 : Int) (x1 : List Int) (x2 : List Int) (x3 : Int) : ASt := ⟨[(1, .int .u64 x0), (7, .ro .u64 x1), (9, .ro .u64 x2), (10, .int .i64 x3)], []⟩
noncomputable def abacuslaw05_nearest.A (c17 : Int → Option (Bool × List Int)) (c18 : List Int → List Int → Option (Int)) (c31 : Bool → List Int → Bool → List Int → Option (Bool × List Int)) (c34 : Int → Option (Int)) (c35 : Int → Option (Int)) (c54 : Bool → List Int → Bool → List Int → Option (List Int)) (n : Nat) (J : Nat → (ASt → Option (Bool)) → ASt → Option (Bool)) (q : Nat) (ms : List Nat) : ASt → Option (Bool) := acont (abacuslaw05_nearest.cfg c17 c18 c31 c34 c35 c54) J abacuslaw05_nearest.cuts n q abacuslaw05_nearest.code 1 ms (aend (abacuslaw05_nearest.cfg c17 c18 c31 c34 c35 c54) Tryd.f25.results.toList [false] abacuslaw05_nearest.sg.out)
theorem abacuslaw05_nearest.e0 (c17 : Int → Option (Bool × List Int)) (c18 : List Int → List Int → Option (Int)) (c31 : Bool → List Int → Bool → List Int → Option (Bool × List Int)) (c34 : Int → Option (Int)) (c35 : Int → Option (Int)) (c54 : Bool → List Int → Bool → List Int → Option (List Int)) (n : Nat) (J : Nat → (ASt → Option (Bool)) → ASt → Option (Bool)) (a0 : Bool) (l1 : List Int) (a2 : Int) (a3 : Bool) (l4 : List Int) : afun (abacuslaw05_nearest.cfg c17 c18 c31 c34 c35 c54) J abacuslaw05_nearest.cuts n abacuslaw05_nearest.code Tryd.f25.results.toList [false] [.agg [.bool a0, .ro .u64 l1], .int .u64 a2, .agg [.bool a3, .ro .u64 l4]] abacuslaw05_nearest.sg.out = abacuslaw05_nearest.b0 c17 c18 c31 c34 c35 c54 (fun y0 y1 y2 y3 => J 127 (abacuslaw05_nearest.A c17 c18 c31 c34 c35 c54 n J 127 []) (abacuslaw05_nearest.s127 y0 y1 y2 y3)) a0 l1 a2 a3 l4 := by kernel_rfl
theorem abacuslaw05_nearest.e127 (c17 : Int → Option (Bool × List Int)) (c18 : List Int → List Int → Option (Int)) (c31 : Bool → List Int → Bool → List Int → Option (Bool × List Int)) (c34 : Int → Option (Int)) (c35 : Int → Option (Int)) (c54 : Bool → List Int → Bool → List Int → Option (List Int)) (n : Nat) (J : Nat → (ASt → Option (Bool)) → ASt → Option (Bool)) (x0 : Int) (x1 : List Int) (x2 : List Int) (x3 : Int) : abacuslaw05_nearest.A c17 c18 c31 c34 c35 c54 n J 127 [] (abacuslaw05_nearest.s127 x0 x1 x2 x3) = abacuslaw05_nearest.b127 c17 c18 c31 c34 c35 c54 x0 x1 x2 x3 := by kernel_rfl
theorem abacuslaw05_nearest.q127 (n : Nat) (x0 : Int) (x1 : List Int) (x2 : List Int) (x3 : Int) : abacuslaw05_nearest.A (abacuslaw05_units.f n) (nat_Cmp.f n) (abacuslaw05_times.f n) ieee_Up.f ieee_Down.f (abacuslaw05_apart.f n) n idJ 127 [] (abacuslaw05_nearest.s127 x0 x1 x2 x3) = abacuslaw05_nearest.l127 n x0 x1 x2 x3 := (abacuslaw05_nearest.e127 (abacuslaw05_units.f n) (nat_Cmp.f n) (abacuslaw05_times.f n) ieee_Up.f ieee_Down.f (abacuslaw05_apart.f n) n idJ x0 x1 x2 x3).trans (rfl)
theorem abacuslaw05_nearest.eq (n : Nat) (a0 : Bool) (l1 : List Int) (a2 : Int) (a3 : Bool) (l4 : List Int) : afun (abacuslaw05_nearest.cfg (abacuslaw05_units.f n) (nat_Cmp.f n) (abacuslaw05_times.f n) ieee_Up.f ieee_Down.f (abacuslaw05_apart.f n)) idJ abacuslaw05_nearest.cuts n abacuslaw05_nearest.code Tryd.f25.results.toList [false] [.agg [.bool a0, .ro .u64 l1], .int .u64 a2, .agg [.bool a3, .ro .u64 l4]] abacuslaw05_nearest.sg.out = abacuslaw05_nearest.f n a0 l1 a2 a3 l4 := (abacuslaw05_nearest.e0 (abacuslaw05_units.f n) (nat_Cmp.f n) (abacuslaw05_times.f n) ieee_Up.f ieee_Down.f (abacuslaw05_apart.f n) n idJ a0 l1 a2 a3 l4).trans (congrFun (congrFun (congrFun (congrFun (congrFun (congrArg (abacuslaw05_nearest.b0 (abacuslaw05_units.f n) (nat_Cmp.f n) (abacuslaw05_times.f n) ieee_Up.f ieee_Down.f (abacuslaw05_apart.f n)) (funext fun y0 => (funext fun y1 => (funext fun y2 => (funext fun y3 => abacuslaw05_nearest.q127 n y0 y1 y2 y3))))) a0) l1) a2) a3) l4)
theorem abacuslaw05_nearest.ok {n : Nat} {a0 : Bool} {l1 : List Int} {a2 : Int} {a3 : Bool} {l4 : List Int} {r : Bool} (h : abacuslaw05_nearest.f n a0 l1 a2 a3 l4 = some r) : CallD Tryd.prog HW 25 [.agg [.bool a0, .ro .u64 l1], .int .u64 a2, .agg [.bool a3, .ro .u64 l4]] (abacuslaw05_nearest.sg.enc r) :=
  fun_some hwS Tryd.func25 (by kernel_rfl) (body := abacuslaw05_nearest.code) (by kernel_rfl) tys_ok (c := abacuslaw05_nearest.cfg (abacuslaw05_units.f n) (nat_Cmp.f n) (abacuslaw05_times.f n) ieee_Up.f ieee_Down.f (abacuslaw05_apart.f n)) (orCall_ok (abacuslaw05_units.call_ok (n := n)) (orCall_ok (nat_Cmp.call_ok (n := n)) (orCall_ok (abacuslaw05_times.call_ok (n := n)) (orCall_ok (ieee_Up.call_ok (n := n)) (orCall_ok (ieee_Down.call_ok (n := n)) (orCall_ok (abacuslaw05_apart.call_ok (n := n)) noCall_ok)))))) (by kernel_rfl) (by kernel_rfl) (Nat.le_of_ble_eq_true (by kernel_rfl)) ((abacuslaw05_nearest.eq n a0 l1 a2 a3 l4).trans h)
noncomputable def abacuslaw05_nearest.call {α : Type} (g : Bool → List Int → Int → Bool → List Int → Option (Bool)) (ds : List D) (K : List D → Option α) : Option α := match ds with
  | [.agg [.bool a0, .ro .u64 l1], .int .u64 a2, .agg [.bool a3, .ro .u64 l4]] => (g a0 l1 a2 a3 l4).bind fun r => K (abacuslaw05_nearest.sg.enc r)
  | _ => none
theorem abacuslaw05_nearest.call_ok {α : Type} {n : Nat} (ds : List D) (K : List D → Option α) (r : α) (h : abacuslaw05_nearest.call (abacuslaw05_nearest.f n) ds K = some r) : ∃ rs, K rs = some r ∧ CallD Tryd.prog HW 25 ds rs := by
  unfold abacuslaw05_nearest.call at h
  split at h
  · obtain ⟨x, hx, hk⟩ := Option.bind_eq_some_iff.1 h
    exact ⟨_, hk, abacuslaw05_nearest.ok (n := n) hx⟩
  · cases h
/-! ### abacuslaw05_SoftNearProduct: function 7 -/
noncomputable def abacuslaw05_SoftNearProduct.b0 (c14 : Option (Bool)) (c16 : Int → Option (Bool)) (c17 : Int → Option (Bool × List Int)) (c19 : Bool → List Int → Int → Option (Bool × List Int)) (c22 : Bool → List Int → Bool → List Int → Option (Bool × List Int)) (c25 : Bool → List Int → Int → Bool → List Int → Option (Bool)) (c27 : Int → Int → Option (Int)) (c28 : Int → Int → Int → Option (Int)) (c31 : Bool → List Int → Bool → List Int → Option (Bool × List Int)) (c32 : Option (Bool × List Int)) (k63 : Int → Int → Int → Bool → List Int → Bool → List Int → Option (Bool)) (a0 : Int) (a1 : Int) (a2 : Int) : Option (Bool) := ((c14).bind fun t1 => (if (!t1) = true then some false else ((c27 4613937818241073152 4611686018427387904).bind fun t2 => (if ¬ t2 = 4618441417868443648 then some false else ((c28 4611686018427387904 4613937818241073152 4613937818241073152).bind fun t3 => (if ¬ t3 = 4621256167635550208 then some false else ((c16 a0).bind fun t4 => (if (!t4) = true then some true else ((c16 a1).bind fun t5 => (if (!t5) = true then some true else ((c16 a2).bind fun t6 => (if (!t6) = true then some true else ((c17 a0).bind fun t7 => ((c17 a1).bind fun t8 => ((c31 t7.1 t7.2 t8.1 t8.2).bind fun t9 => ((c17 a2).bind fun t10 => ((c19 t10.1 t10.2 1074).bind fun t11 => ((c22 t9.1 t9.2 t11.1 t11.2).bind fun t12 => k63 a0 a1 a2 t9.1 t9.2 t12.1 t12.2))))))))))))))))))
noncomputable def abacuslaw05_SoftNearProduct.b63 (c14 : Option (Bool)) (c16 : Int → Option (Bool)) (c17 : Int → Option (Bool × List Int)) (c19 : Bool → List Int → Int → Option (Bool × List Int)) (c22 : Bool → List Int → Bool → List Int → Option (Bool × List Int)) (c25 : Bool → List Int → Int → Bool → List Int → Option (Bool)) (c27 : Int → Int → Option (Int)) (c28 : Int → Int → Int → Option (Int)) (c31 : Bool → List Int → Bool → List Int → Option (Bool × List Int)) (c32 : Option (Bool × List Int)) (x0 : Int) (x1 : Int) (x2 : Int) (x3 : Bool) (x4 : List Int) (x5 : Bool) (x6 : List Int) : Option (Bool) := ((c27 x0 x1).bind fun t1 => ((c32).bind fun t2 => ((c25 x3 x4 t1 t2.1 t2.2).bind fun t3 => (if t3 = true then ((c28 x0 x1 x2).bind fun t4 => ((c32).bind fun t5 => ((c25 x5 x6 t4 t5.1 t5.2).bind fun t6 => some t6))) else some false))))
noncomputable def abacuslaw05_SoftNearProduct.l63 (n : Nat) (x0 : Int) (x1 : Int) (x2 : Int) (x3 : Bool) (x4 : List Int) (x5 : Bool) (x6 : List Int) : Option (Bool) := abacuslaw05_SoftNearProduct.b63 (abacuslaw05_works.f n) abacuslaw05_finite.f (abacuslaw05_units.f n) (abacuslaw05_lifted.f n) (abacuslaw05_plus.f n) (abacuslaw05_nearest.f n) (soft_Mul.f n) (soft_Fma.f n) (abacuslaw05_times.f n) (abacuslaw05_unit.f n) x0 x1 x2 x3 x4 x5 x6
noncomputable def abacuslaw05_SoftNearProduct.f (n : Nat) (a0 : Int) (a1 : Int) (a2 : Int) : Option (Bool) := abacuslaw05_SoftNearProduct.b0 (abacuslaw05_works.f n) abacuslaw05_finite.f (abacuslaw05_units.f n) (abacuslaw05_lifted.f n) (abacuslaw05_plus.f n) (abacuslaw05_nearest.f n) (soft_Mul.f n) (soft_Fma.f n) (abacuslaw05_times.f n) (abacuslaw05_unit.f n) (abacuslaw05_SoftNearProduct.l63 n) a0 a1 a2
noncomputable def abacuslaw05_SoftNearProduct.sg : Sig (Bool) := s1 (sBool)
noncomputable def abacuslaw05_SoftNearProduct.code : Code := (Tryd.f7.body).getD .skip
noncomputable def abacuslaw05_SoftNearProduct.cfg (c14 : Option (Bool)) (c16 : Int → Option (Bool)) (c17 : Int → Option (Bool × List Int)) (c19 : Bool → List Int → Int → Option (Bool × List Int)) (c22 : Bool → List Int → Bool → List Int → Option (Bool × List Int)) (c25 : Bool → List Int → Int → Bool → List Int → Option (Bool)) (c27 : Int → Int → Option (Int)) (c28 : Int → Int → Int → Option (Int)) (c31 : Bool → List Int → Bool → List Int → Option (Bool × List Int)) (c32 : Option (Bool × List Int)) : Cfg (Bool) := ⟨tys, orCall 14 (abacuslaw05_works.call c14) (orCall 16 (abacuslaw05_finite.call c16) (orCall 17 (abacuslaw05_units.call c17) (orCall 19 (abacuslaw05_lifted.call c19) (orCall 22 (abacuslaw05_plus.call c22) (orCall 25 (abacuslaw05_nearest.call c25) (orCall 27 (soft_Mul.call c27) (orCall 28 (soft_Fma.call c28) (orCall 31 (abacuslaw05_times.call c31) (orCall 32 (abacuslaw05_unit.call c32) (noCall))))))))))⟩
noncomputable def abacuslaw05_SoftNearProduct.cuts : List (Nat × List (Nat × Want)) := [(63, [(0, .keep), (1, .keep), (2, .keep), (7, .keep), (8, .keep)])]
noncomputable def abacuslaw05_SoftNearProduct.s63 (x0 : Int) (x1 : Int) (x2 : Int) (x3 : Bool) (x4 : List Int) (x5 : Bool) (x6 : List Int) : ASt := ⟨[(0, .int .u64 x0), (1, .int .u64 x1), (2, .int .u64 x2), (7, .ptr 0 0), (8, .ptr 1 0)], [.cells 27 [.bool x3, .ro .u64 x4], .cells 27 [.bool x5, .ro .u64 x6]]⟩
noncomputable def abacuslaw05_SoftNearProduct.A (c14 : Option (Bool)) (c16 : Int → Option (Bool)) (c17 : Int → Option (Bool × List Int)) (c19 : Bool → List Int → Int → Option (Bool × List Int)) (c22 : Bool → List Int → Bool → List Int → Option (Bool × List Int)) (c25 : Bool → List Int → Int → Bool → List Int → Option (Bool)) (c27 : Int → Int → Option (Int)) (c28 : Int → Int → Int → Option (Int)) (c31 : Bool → List Int → Bool → List Int → Option (Bool × List Int)) (c32 : Option (Bool × List Int)) (n : Nat) (J : Nat → (ASt → Option (Bool)) → ASt → Option (Bool)) (q : Nat) (ms : List Nat) : ASt → Option (Bool) := acont (abacuslaw05_SoftNearProduct.cfg c14 c16 c17 c19 c22 c25 c27 c28 c31 c32) J abacuslaw05_SoftNearProduct.cuts n q abacuslaw05_SoftNearProduct.code 1 ms (aend (abacuslaw05_SoftNearProduct.cfg c14 c16 c17 c19 c22 c25 c27 c28 c31 c32) Tryd.f7.results.toList [false] abacuslaw05_SoftNearProduct.sg.out)
theorem abacuslaw05_SoftNearProduct.e0 (c14 : Option (Bool)) (c16 : Int → Option (Bool)) (c17 : Int → Option (Bool × List Int)) (c19 : Bool → List Int → Int → Option (Bool × List Int)) (c22 : Bool → List Int → Bool → List Int → Option (Bool × List Int)) (c25 : Bool → List Int → Int → Bool → List Int → Option (Bool)) (c27 : Int → Int → Option (Int)) (c28 : Int → Int → Int → Option (Int)) (c31 : Bool → List Int → Bool → List Int → Option (Bool × List Int)) (c32 : Option (Bool × List Int)) (n : Nat) (J : Nat → (ASt → Option (Bool)) → ASt → Option (Bool)) (a0 : Int) (a1 : Int) (a2 : Int) : afun (abacuslaw05_SoftNearProduct.cfg c14 c16 c17 c19 c22 c25 c27 c28 c31 c32) J abacuslaw05_SoftNearProduct.cuts n abacuslaw05_SoftNearProduct.code Tryd.f7.results.toList [false] [.int .u64 a0, .int .u64 a1, .int .u64 a2] abacuslaw05_SoftNearProduct.sg.out = abacuslaw05_SoftNearProduct.b0 c14 c16 c17 c19 c22 c25 c27 c28 c31 c32 (fun y0 y1 y2 y3 y4 y5 y6 => J 63 (abacuslaw05_SoftNearProduct.A c14 c16 c17 c19 c22 c25 c27 c28 c31 c32 n J 63 []) (abacuslaw05_SoftNearProduct.s63 y0 y1 y2 y3 y4 y5 y6)) a0 a1 a2 := by kernel_rfl
theorem abacuslaw05_SoftNearProduct.e63 (c14 : Option (Bool)) (c16 : Int → Option (Bool)) (c17 : Int → Option (Bool × List Int)) (c19 : Bool → List Int → Int → Option (Bool × List Int)) (c22 : Bool → List Int → Bool → List Int → Option (Bool × List Int)) (c25 : Bool → List Int → Int → Bool → List Int → Option (Bool)) (c27 : Int → Int → Option (Int)) (c28 : Int → Int → Int → Option (Int)) (c31 : Bool → List Int → Bool → List Int → Option (Bool × List Int)) (c32 : Option (Bool × List Int)) (n : Nat) (J : Nat → (ASt → Option (Bool)) → ASt → Option (Bool)) (x0 : Int) (x1 : Int) (x2 : Int) (x3 : Bool) (x4 : List Int) (x5 : Bool) (x6 : List Int) : abacuslaw05_SoftNearProduct.A c14 c16 c17 c19 c22 c25 c27 c28 c31 c32 n J 63 [] (abacuslaw05_SoftNearProduct.s63 x0 x1 x2 x3 x4 x5 x6) = abacuslaw05_SoftNearProduct.b63 c14 c16 c17 c19 c22 c25 c27 c28 c31 c32 x0 x1 x2 x3 x4 x5 x6 := by kernel_rfl
theorem abacuslaw05_SoftNearProduct.q63 (n : Nat) (x0 : Int) (x1 : Int) (x2 : Int) (x3 : Bool) (x4 : List Int) (x5 : Bool) (x6 : List Int) : abacuslaw05_SoftNearProduct.A (abacuslaw05_works.f n) abacuslaw05_finite.f (abacuslaw05_units.f n) (abacuslaw05_lifted.f n) (abacuslaw05_plus.f n) (abacuslaw05_nearest.f n) (soft_Mul.f n) (soft_Fma.f n) (abacuslaw05_times.f n) (abacuslaw05_unit.f n) n idJ 63 [] (abacuslaw05_SoftNearProduct.s63 x0 x1 x2 x3 x4 x5 x6) = abacuslaw05_SoftNearProduct.l63 n x0 x1 x2 x3 x4 x5 x6 := (abacuslaw05_SoftNearProduct.e63 (abacuslaw05_works.f n) abacuslaw05_finite.f (abacuslaw05_units.f n) (abacuslaw05_lifted.f n) (abacuslaw05_plus.f n) (abacuslaw05_nearest.f n) (soft_Mul.f n) (soft_Fma.f n) (abacuslaw05_times.f n) (abacuslaw05_unit.f n) n idJ x0 x1 x2 x3 x4 x5 x6).trans (rfl)
theorem abacuslaw05_SoftNearProduct.eq (n : Nat) (a0 : Int) (a1 : Int) (a2 : Int) : afun (abacuslaw05_SoftNearProduct.cfg (abacuslaw05_works.f n) abacuslaw05_finite.f (abacuslaw05_units.f n) (abacuslaw05_lifted.f n) (abacuslaw05_plus.f n) (abacuslaw05_nearest.f n) (soft_Mul.f n) (soft_Fma.f n) (abacuslaw05_times.f n) (abacuslaw05_unit.f n)) idJ abacuslaw05_SoftNearProduct.cuts n abacuslaw05_SoftNearProduct.code Tryd.f7.results.toList [false] [.int .u64 a0, .int .u64 a1, .int .u64 a2] abacuslaw05_SoftNearProduct.sg.out = abacuslaw05_SoftNearProduct.f n a0 a1 a2 := (abacuslaw05_SoftNearProduct.e0 (abacuslaw05_works.f n) abacuslaw05_finite.f (abacuslaw05_units.f n) (abacuslaw05_lifted.f n) (abacuslaw05_plus.f n) (abacuslaw05_nearest.f n) (soft_Mul.f n) (soft_Fma.f n) (abacuslaw05_times.f n) (abacuslaw05_unit.f n) n idJ a0 a1 a2).trans (congrFun (congrFun (congrFun (congrArg (abacuslaw05_SoftNearProduct.b0 (abacuslaw05_works.f n) abacuslaw05_finite.f (abacuslaw05_units.f n) (abacuslaw05_lifted.f n) (abacuslaw05_plus.f n) (abacuslaw05_nearest.f n) (soft_Mul.f n) (soft_Fma.f n) (abacuslaw05_times.f n) (abacuslaw05_unit.f n)) (funext fun y0 => (funext fun y1 => (funext fun y2 => (funext fun y3 => (funext fun y4 => (funext fun y5 => (funext fun y6 => abacuslaw05_SoftNearProduct.q63 n y0 y1 y2 y3 y4 y5 y6)))))))) a0) a1) a2)
theorem abacuslaw05_SoftNearProduct.ok {n : Nat} {a0 : Int} {a1 : Int} {a2 : Int} {r : Bool} (h : abacuslaw05_SoftNearProduct.f n a0 a1 a2 = some r) : CallD Tryd.prog HW 7 [.int .u64 a0, .int .u64 a1, .int .u64 a2] (abacuslaw05_SoftNearProduct.sg.enc r) :=
  fun_some hwS Tryd.func7 (by kernel_rfl) (body := abacuslaw05_SoftNearProduct.code) (by kernel_rfl) tys_ok (c := abacuslaw05_SoftNearProduct.cfg (abacuslaw05_works.f n) abacuslaw05_finite.f (abacuslaw05_units.f n) (abacuslaw05_lifted.f n) (abacuslaw05_plus.f n) (abacuslaw05_nearest.f n) (soft_Mul.f n) (soft_Fma.f n) (abacuslaw05_times.f n) (abacuslaw05_unit.f n)) (orCall_ok (abacuslaw05_works.call_ok (n := n)) (orCall_ok (abacuslaw05_finite.call_ok (n := n)) (orCall_ok (abacuslaw05_units.call_ok (n := n)) (orCall_ok (abacuslaw05_lifted.call_ok (n := n)) (orCall_ok (abacuslaw05_plus.call_ok (n := n)) (orCall_ok (abacuslaw05_nearest.call_ok (n := n)) (orCall_ok (soft_Mul.call_ok (n := n)) (orCall_ok (soft_Fma.call_ok (n := n)) (orCall_ok (abacuslaw05_times.call_ok (n := n)) (orCall_ok (abacuslaw05_unit.call_ok (n := n)) noCall_ok)))))))))) (by kernel_rfl) (by kernel_rfl) (Nat.le_of_ble_eq_true (by kernel_rfl)) ((abacuslaw05_SoftNearProduct.eq n a0 a1 a2).trans h)
theorem abacuslaw05_SoftNearProduct.walk {n : Nat} {a0 : Int} {a1 : Int} {a2 : Int} {r : Bool} (h : abacuslaw05_SoftNearProduct.f n a0 a1 a2 = some r) {w : World} (hw : HW w) : Calls Tryd.prog 7 (([.int .u64 a0, .int .u64 a1, .int .u64 a2] : List D).map D.val).toArray w fun e w' => e = .returned (packV (abacuslaw05_SoftNearProduct.sg.enc r)) ∧ Below w.heap.size w w' :=
  walk_scal (H := HW) rfl rfl (fun_calls hwS Tryd.func7 (by kernel_rfl) (body := abacuslaw05_SoftNearProduct.code) (by kernel_rfl) tys_ok (c := abacuslaw05_SoftNearProduct.cfg (abacuslaw05_works.f n) abacuslaw05_finite.f (abacuslaw05_units.f n) (abacuslaw05_lifted.f n) (abacuslaw05_plus.f n) (abacuslaw05_nearest.f n) (soft_Mul.f n) (soft_Fma.f n) (abacuslaw05_times.f n) (abacuslaw05_unit.f n)) (orCall_ok (abacuslaw05_works.call_ok (n := n)) (orCall_ok (abacuslaw05_finite.call_ok (n := n)) (orCall_ok (abacuslaw05_units.call_ok (n := n)) (orCall_ok (abacuslaw05_lifted.call_ok (n := n)) (orCall_ok (abacuslaw05_plus.call_ok (n := n)) (orCall_ok (abacuslaw05_nearest.call_ok (n := n)) (orCall_ok (soft_Mul.call_ok (n := n)) (orCall_ok (soft_Fma.call_ok (n := n)) (orCall_ok (abacuslaw05_times.call_ok (n := n)) (orCall_ok (abacuslaw05_unit.call_ok (n := n)) noCall_ok)))))))))) (by kernel_rfl) (by kernel_rfl) (Nat.le_of_ble_eq_true (by kernel_rfl)) ((abacuslaw05_SoftNearProduct.eq n a0 a1 a2).trans h)) hw
noncomputable def abacuslaw05_SoftNearProduct.call {α : Type} (g : Int → Int → Int → Option (Bool)) (ds : List D) (K : List D → Option α) : Option α := match ds with
  | [.int .u64 a0, .int .u64 a1, .int .u64 a2] => (g a0 a1 a2).bind fun r => K (abacuslaw05_SoftNearProduct.sg.enc r)
  | _ => none
theorem abacuslaw05_SoftNearProduct.call_ok {α : Type} {n : Nat} (ds : List D) (K : List D → Option α) (r : α) (h : abacuslaw05_SoftNearProduct.call (abacuslaw05_SoftNearProduct.f n) ds K = some r) : ∃ rs, K rs = some r ∧ CallD Tryd.prog HW 7 ds rs := by
  unfold abacuslaw05_SoftNearProduct.call at h
  split at h
  · obtain ⟨x, hx, hk⟩ := Option.bind_eq_some_iff.1 h
    exact ⟨_, hk, abacuslaw05_SoftNearProduct.ok (n := n) hx⟩
  · cases h
end Go.Proofs.YtcdnoklokoplaaaDoor.F
