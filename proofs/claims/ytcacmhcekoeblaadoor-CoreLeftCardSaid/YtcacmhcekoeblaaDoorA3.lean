/- Each light operation does what the abstract evaluator says. No conditions. -/
import Derived.Test.YtcacmhcekoeblaaDoorA2
import Derived.Laws.StructEq
import Derived.Laws.Pointers
namespace Go.Proofs.YtcacmhcekoeblaaDoorA
open Go.RowKit
set_option linter.unusedVariables false
set_option linter.unusedSimpArgs false
set_option linter.unusedSectionVars false
/-- What is new behind an operation: rows and boxes from number hp.length on. -/
structure Grow (B : Bd) (n : Nat) (ρ : Nat → Option Value) (N : Nat → Prop) (w : World) (nb : List Blk) (ρ' : Nat → Option Value) (N' : Nat → Prop) (w' : World) : Prop where
  ext : ∀ i u, ρ i = some u → ρ' i = some u
  dom : ∀ i u, ρ' i = some u → ρ i = some u ∨ (n ≤ i ∧ i < n + nb.length)
  blk : ∀ k b, nb[k]? = some b → ∃ u, ρ' (n + k) = some u ∧ BR B ρ' N' w' u b ∧ ∀ g, hand u = some g → w.heap.size ≤ g ∧ ¬ N' g
  dis : ∀ j k u v g, j < nb.length → k < nb.length → j ≠ k → ρ' (n + j) = some u → ρ' (n + k) = some v → hand u = some g → hand v ≠ some g
  inn : ∀ g, N g → N' g
  out : ∀ g, N' g → N g ∨ (w.heap.size ≤ g ∧ g < w'.heap.size)
  bel : Below w.heap.size w w'
theorem Grow.refl {B : Bd} {n : Nat} {ρ : Nat → Option Value} {N : Nat → Prop} {w : World} : Grow B n ρ N w [] ρ N w where
  ext _ _ h := h
  dom _ _ h := .inl h
  blk _ _ h := by simp at h
  dis _ _ _ _ _ h := by simp at h
  inn _ h := h
  out _ h := .inl h
  bel := Below.refl _ _
/-- What is known before an operation. -/
structure Pre (B : Bd) (S : ASt) (op : Op) (ρ : Nat → Option Value) (N : Nat → Prop) (a : Act) (w : World) : Prop where
  ops : ∀ x, x ∈ op.operands → VR ρ N w (S.ev x) (a.eval x)
  bl : ∀ i b u, S.hp[i]? = some b → ρ i = some u → BR B ρ N w u b
  nw : ∀ g, N g → g < w.heap.size
  hb : B.lo ≤ w.heap.size
def HB (H : World → Prop) (B : Bd) (w : World) : Prop := H w ∧ ∀ g w', (B.lo ≤ g ∨ B.bor.map Bor.g = some g) → w.grownBy w' (some g) → H w'
def Told (P : Program) (H : World → Prop) (B : Bd) (S : ASt) (op : Op) (v : AV) (nb : List Blk) : Prop :=
  ∀ (o : Oper) ρ N a w, o.op = op → HB H B w → Pre B S op ρ N a w → (∀ i, S.hp.length ≤ i → i < S.hp.length + nb.length → ρ i = none) →
    ∀ (next : Act → World → Prop) Q, (∀ val ρ' N' w', Grow B S.hp.length ρ N w nb ρ' N' w' → VR ρ' N' w' v val → next (a.put o.dst val) w') → o.wp P a w next Q
theorem Told.pure {P : Program} {H : World → Prop} {B : Bd} {S : ASt} {op : Op} {v : AV}
    (h : ∀ (o : Oper) ρ N a w, o.op = op → Pre B S op ρ N a w → ∃ val, (execOp a.eval o).run P w = .ok (.value val) w ∧ VR ρ N w v val) : Told P H B S op v [] := by
  intro o ρ N a w ho hH hp hf next Q hn
  obtain ⟨val, hr, hv⟩ := h o ρ N a w ho hp
  unfold Oper.wp
  rw [hr]
  exact hn val ρ N w Grow.refl hv
/-- One new block at hand. -/
def ins (ρ : Nat → Option Value) (n : Nat) (u : Value) : Nat → Option Value := fun i => if i = n then some u else ρ i
theorem Told.new {P : Program} {H : World → Prop} {B : Bd} {S : ASt} {op : Op} {v : AV} {b : Blk}
    (h : ∀ (o : Oper) ρ N a w, o.op = op → Pre B S op ρ N a w → ∃ val obj u, (execOp a.eval o).run P w = .ok (.value val) (w.alloc obj) ∧
      (∀ ρ' : Nat → Option Value, (∀ i x, ρ i = some x → ρ' i = some x) → ρ' S.hp.length = some u → VR ρ' N (w.alloc obj) v val ∧ BR B ρ' N (w.alloc obj) u b) ∧ (∀ g, hand u = some g → g = w.heap.size)) : Told P H B S op v [b] := by
  intro o ρ N a w ho hH hp hf next Q hn
  obtain ⟨val, obj, u, hr, hv, hu⟩ := h o ρ N a w ho hp
  have h0 : ρ S.hp.length = none := hf _ (Nat.le_refl _) (by simp)
  have hext : ∀ i x, ρ i = some x → ins ρ S.hp.length u i = some x := by
    intro i x hi
    unfold ins
    split
    · rename_i e; subst e; rw [h0] at hi; cases hi
    · exact hi
  have hself : ins ρ S.hp.length u S.hp.length = some u := by simp [ins]
  unfold Oper.wp
  rw [hr]
  refine hn val (ins ρ S.hp.length u) N (w.alloc obj) ⟨hext, ?_, ?_, ?_, fun _ h => h, fun _ h => .inl h, (Below.refl _ _).alloc (Nat.le_refl _) _⟩ (hv _ hext hself).1
  · intro i x hi
    unfold ins at hi
    split at hi
    · rename_i e; subst e; exact .inr ⟨Nat.le_refl _, by simp⟩
    · exact .inl hi
  · intro k b' hk
    cases k with
    | zero =>
      simp only [List.getElem?_cons_zero, Option.some.injEq] at hk
      subst hk
      refine ⟨u, hself, (hv _ hext hself).2, fun g hg => ?_⟩
      have := hu g hg
      subst this
      exact ⟨Nat.le_refl _, fun hN => absurd (hp.nw _ hN) (Nat.lt_irrefl _)⟩
    | succ k => simp at hk
  · intro j k _ _ _ hj hk hjk
    simp only [List.length_cons, List.length_nil] at hj hk
    omega
section
variable {ρ : Nat → Option Value} {N : Nat → Prop} {w : World}
theorem VR_const (v : Value) : VR ρ N w (ofConst v) v := by
  unfold ofConst
  split <;> simp [VR]
theorem VR_int {k : IntKind} {n : Int} {v : Value} (h : VR ρ N w (.int k n) v) : v = .int k n := h
end
section
variable {α : Type} {P : Program} {H : World → Prop} {B : Bd} {S : ASt} {r : α}
theorem abool_some {v : AV} {K : Bool → Option α} (h : abool v K = some r) : ∃ b, K b = some r ∧ ∀ ρ N w u, VR ρ N w v u → u = .bool b := by
  unfold abool at h
  split at h
  · exact ⟨_, h, fun _ _ _ _ h => h⟩
  · exact ⟨_, h, fun _ _ _ _ h => h⟩
  · cases h
theorem aif_some {v : AV} {x y : Option α} (h : aif v x y = some r) : ∃ b, (if b = true then x else y) = some r ∧ ∀ ρ N w u, VR ρ N w v u → u = .bool b := by
  unfold aif at h
  split at h
  · rename_i c
    refine ⟨c, ?_, fun _ _ _ _ h => h⟩
    cases c <;> exact h
  · rename_i p d
    refine ⟨@decide p d, ?_, fun _ _ _ _ h => h⟩
    split at h
    · rename_i hp; simp [hp, h]
    · rename_i hp; simp [hp, h]
  · cases h
/-- Arithmetic. -/
theorem abin_some {op : BinOp} {x y : AV} {K : AV → Option α} (h : abin op x y K = some r) (T : Nat) :
    ∃ v, K v = some r ∧ ∀ ρ N w u u', VR ρ N w x u → VR ρ N w y u' → ∃ val, (binOp op T u u').run P w = .ok val w ∧ VR ρ N w v val ∧ ∀ e e', (eqGuard op T e e' u u').run P w = .ok () w := by
  unfold abin at h
  split at h
  case h_18 => cases h
  case h_4 =>
    split at h
    · rename_i hk
      obtain rfl := kEq_eq hk
      split at h
      · cases h
      · rename_i hb0 _
        refine ⟨_, h, fun ρ N w u u' hu hu' => ?_⟩
        obtain rfl := VR_int hu
        obtain rfl := VR_int hu'
        exact ⟨_, by simp [binOp, Op.intDiv, hb0, wr_eq], rfl, fun _ _ => by simp [eqGuard]⟩
    · cases h
  case h_5 =>
    split at h
    · rename_i hk
      obtain rfl := kEq_eq hk
      split at h
      · cases h
      · rename_i hb0 _
        refine ⟨_, h, fun ρ N w u u' hu hu' => ?_⟩
        obtain rfl := VR_int hu
        obtain rfl := VR_int hu'
        exact ⟨_, by simp [binOp, Op.intDiv, hb0, wr_eq], rfl, fun _ _ => by simp [eqGuard]⟩
    · cases h
  case h_10 =>
    split at h
    · rename_i k a k' b _ hb0 _
      refine ⟨_, h, fun ρ N w u u' hu hu' => ?_⟩
      obtain rfl := VR_int hu
      obtain rfl := VR_int hu'
      exact ⟨.int k (k.wrap (a * 2 ^ min b.toNat k.bits)), by simp [binOp, Op.shift, show ¬ b < (0 : Int) from by omega], by simp [VR, shl, wr_eq], fun _ _ => by simp [eqGuard]⟩
    · cases h
  case h_11 =>
    split at h
    · rename_i k a k' b _ hb0 _
      refine ⟨_, h, fun ρ N w u u' hu hu' => ?_⟩
      obtain rfl := VR_int hu
      obtain rfl := VR_int hu'
      refine ⟨.int k (a.fdiv (2 ^ min b.toNat k.bits)), by simp [binOp, Op.shift, show ¬ b < (0 : Int) from by omega], ?_, fun _ _ => by simp [eqGuard]⟩
      show _ = Value.int k (shr k a b)
      unfold shr
      rw [Int.fdiv_eq_ediv_of_nonneg _ (Int.le_of_lt (Int.pow_pos (by decide)))]
    · cases h
  case h_1 | h_2 | h_3 =>
    split at h
    · rename_i hk
      obtain rfl := kEq_eq hk
      refine ⟨_, h, fun ρ N w u u' hu hu' => ?_⟩
      obtain rfl := VR_int hu
      obtain rfl := VR_int hu'
      exact ⟨_, by simp [binOp, Op.intArith, wr_eq], rfl, fun _ _ => by simp [eqGuard]⟩
    · cases h
  case h_6 | h_7 | h_8 | h_9 =>
    split at h
    · rename_i hk
      obtain rfl := kEq_eq hk
      refine ⟨_, h, fun ρ N w u u' hu hu' => ?_⟩
      obtain rfl := VR_int hu
      obtain rfl := VR_int hu'
      exact ⟨_, by first | (rw [binOp_and]; rfl) | (rw [binOp_or]; rfl) | (rw [binOp_xor]; rfl) | (rw [binOp_andNot]; rfl), rfl, fun _ _ => by simp [eqGuard]⟩
    · cases h
  case h_13 =>
    split at h
    · rename_i k a k' b _ hk
      obtain rfl := kEq_eq hk
      refine ⟨_, h, fun ρ N w u u' hu hu' => ?_⟩
      obtain rfl := VR_int hu
      obtain rfl := VR_int hu'
      refine ⟨.bool (a != b), by simp [binOp, Op.intCmp], ?_, fun _ _ => by simp [eqGuard]⟩
      show _ = Value.bool (decide _)
      congr 1
      by_cases hh : a = b <;> simp [hh]
    · cases h
  all_goals
    split at h
    · rename_i hk
      obtain rfl := kEq_eq hk
      refine ⟨_, h, fun ρ N w u u' hu hu' => ?_⟩
      obtain rfl := VR_int hu
      obtain rfl := VR_int hu'
      exact ⟨_, by simp [binOp, Op.intCmp] <;> rfl, rfl, fun _ _ => by simp [eqGuard]⟩
    · cases h
theorem aun_some {op : UnOp} {x : AV} {K : AV → Option α} (h : aun op x K = some r) :
    ∃ v, K v = some r ∧ ∀ ρ N w u, VR ρ N w x u → ∃ val, (Op.unary op u).run P w = .ok val w ∧ VR ρ N w v val := by
  unfold aun at h
  split at h
  · refine ⟨_, h, fun ρ N w u hu => ?_⟩
    obtain rfl := VR_int hu
    exact ⟨_, by simp [Op.unary, Op.intArith, wr_eq], rfl⟩
  · refine ⟨_, h, fun ρ N w u hu => ?_⟩
    obtain rfl : u = .bool _ := hu
    exact ⟨_, by simp [Op.unary], rfl⟩
  · rename_i p d
    refine ⟨_, h, fun ρ N w u hu => ?_⟩
    obtain rfl : u = .bool _ := hu
    exact ⟨.bool (!(@decide p d)), by simp [Op.unary], by simp [VR]⟩
  · cases h
theorem told_move {op : Op} {x : Operand} (hop : op = .move x ∨ op = .assign x) : Told P H B S op (S.ev x) [] :=
  Told.pure fun o ρ N a w ho hp => by
    rcases hop with rfl | rfl
    · exact ⟨a.eval x, by simp [execOp, ho], hp.ops x (by simp [Op.operands])⟩
    · exact ⟨a.eval x, by simp [execOp, ho], hp.ops x (by simp [Op.operands])⟩
theorem told_pick {x y z : Operand} {b : Bool} (hb : ∀ ρ N w u, VR ρ N w (S.ev x) u → u = .bool b) : Told P H B S (.pick x y z) (if b = true then S.ev y else S.ev z) [] :=
  Told.pure fun o ρ N a w ho hp => by
    have h1 := hb _ _ _ _ (hp.ops x (by simp [Op.operands]))
    refine ⟨if b = true then a.eval y else a.eval z, by simp [execOp, ho, h1, asBool], ?_⟩
    cases b
    · exact hp.ops z (by simp [Op.operands])
    · exact hp.ops y (by simp [Op.operands])
theorem VRs.new {ρ ρ' : Nat → Option Value} {N : Nat → Prop} {w : World} {o : Obj} {cs : List AV} {vs : List Value} (hN : ∀ g, N g → g < w.heap.size) (hρ : ∀ i u, ρ i = some u → ρ' i = some u) (h : VRs ρ N w cs vs) : VRs ρ' N (w.alloc o) cs vs :=
  VRs.keep (fun _ h => h) (fun g hg => Below.heap_alloc w o g (hN g hg)) hρ cs vs h
theorem VR.new {ρ ρ' : Nat → Option Value} {N : Nat → Prop} {w : World} {o : Obj} {c : AV} {v : Value} (hN : ∀ g, N g → g < w.heap.size) (hρ : ∀ i u, ρ i = some u → ρ' i = some u) (h : VR ρ N w c v) : VR ρ' N (w.alloc o) c v :=
  VR.keep (fun _ h => h) (fun g hg => Below.heap_alloc w o g (hN g hg)) hρ c v h
theorem told_alloc {t : Nat} {ti : TI} (ht : TyOK P t ti) : Told P H B S (.alloc t) (.ptr S.hp.length 0) [.cells t ti.zero] :=
  Told.new fun o ρ N a w ho hp => by
    refine ⟨.pointer (some ⟨w.heap.size, 0, none⟩), .cells (zeroOf ti).cells t, .pointer (some ⟨w.heap.size, 0, none⟩), ?_, fun ρ' hext hself => ⟨⟨_, hself, rfl⟩, _, _, rfl, hp.hb, heap_alloc_new w _, ht.zero_cells⟩, fun g hg => by simpa [hand] using hg.symm⟩
    simp only [execOp, ho, Instr.alloc, Sem.run_bind, ht.run_zero, Result.andThen_ok]
    simp [newVar, newRow, newObj, Sem.run]
theorem cellsOf_VR {ρ : Nat → Option Value} {N : Nat → Prop} {w : World} {v : AV} {u : Value} (hk : okCells (cellsOf v) = true) (h : VR ρ N w v u) : VRs ρ N w (cellsOf v) u.cells.toList := by
  have one : ∀ {c : AV}, VR ρ N w c u → u.cells = #[u] → VRs ρ N w [c] u.cells.toList := by
    intro c hc he
    rw [he]
    exact ⟨u, [], rfl, hc, rfl⟩
  cases v with
  | agg cs => obtain ⟨vs, rfl, h2⟩ := h; exact h2
  | tup cs => simp [cellsOf, okCells, okCell] at hk
  | unk => simp [cellsOf, okCells, okCell] at hk
  | und => simp [cellsOf, okCells, okCell] at hk
  | int k n => exact one h (by obtain rfl : u = _ := h; rfl)
  | bool b => exact one h (by obtain rfl : u = _ := h; rfl)
  | prop p d => exact one h (by obtain rfl : u = _ := h; rfl)
  | ro k l => exact one h (by obtain ⟨A, c, rfl, _⟩ := h; rfl)
  | nil => exact one h (by obtain rfl : u = _ := h; rfl)
  | own i => exact one h (by obtain ⟨_, A, n, c, rfl⟩ := h; rfl)
  | ptr i o => exact one h (by obtain ⟨g, _, rfl⟩ := h; rfl)
  | pro k n => exact one h (by obtain ⟨ad, rfl, _⟩ := h; rfl)
  | pown i j => exact one h (by obtain ⟨g, o, n, c, _, _, _, rfl⟩ := h; rfl)
  | win i b e => exact one h (by obtain ⟨A, n, c, _, _, _, _, rfl⟩ := h; rfl)
  | fn f => exact one h (by obtain rfl : u = _ := h; rfl)
  | recs n cols => exact one h (by obtain ⟨A, c, rfl, _⟩ := h; rfl)
  | prec cs => exact one h (by obtain ⟨ad, rfl, _⟩ := h; rfl)
  | nilp => exact one h (by obtain rfl : u = _ := h; rfl)
  | nilf => exact one h (by obtain rfl : u = _ := h; rfl)
  | sg ss => simp [cellsOf, okCells, okCell] at hk
  | rp i o => exact one h (by obtain ⟨g, b, _, rfl⟩ := h; rfl)
  | pel i o n j => exact one h (by obtain ⟨g, b, _, _, _, rfl⟩ := h; rfl)
  | pseg ss => exact one h (by obtain ⟨g, o, mid, rfl, _⟩ := h; rfl)
theorem told_box {t : Nat} {x : Operand} (hk : okCells (cellsOf (S.ev x)) = true) : Told P H B S (.box t x) (.ptr S.hp.length 0) [.cells t (cellsOf (S.ev x))] :=
  Told.new fun o ρ N a w ho hp => by
    have h1 := cellsOf_VR hk (hp.ops x (by simp [Op.operands]))
    refine ⟨.pointer (some ⟨w.heap.size, 0, none⟩), .cells (a.eval x).cells t, .pointer (some ⟨w.heap.size, 0, none⟩), ?_, fun ρ' hext hself => ⟨⟨_, hself, rfl⟩, _, _, rfl, hp.hb, heap_alloc_new w _, VRs.new hp.nw hext h1⟩, fun g hg => by simpa [hand] using hg.symm⟩
    simp [execOp, ho, Instr.box, newVar, newRow, newObj, Sem.run]
/-! ### blocks by parts -/
theorem avSeg_VR {ρ : Nat → Option Value} {N : Nat → Prop} {lo : Nat} {w : World} {v : AV} {s : Seg} {u : Value} {r : List Seg} {us : List Value} (h : avSeg v = some s) (hv : VR ρ N w v u) (hr : SegsV N lo w r us) : SegsV N lo w (s :: r) (u :: us) := by
  unfold avSeg at h
  split at h
  · simp only [Option.some.injEq] at h; subst h
    obtain rfl : u = _ := hv
    exact ⟨us, rfl, hr⟩
  · simp only [Option.some.injEq] at h; subst h
    obtain rfl : u = _ := hv
    exact ⟨us, rfl, hr⟩
  · simp only [Option.some.injEq] at h; subst h
    obtain rfl : u = _ := hv
    exact ⟨us, rfl, hr⟩
  · simp only [Option.some.injEq] at h; subst h
    exact ⟨u, us, rfl, RoV.keep hv (fun g hg => ⟨hg, fun h => by cases h⟩) (fun _ _ => rfl), hr⟩
  · simp only [Option.some.injEq] at h; subst h
    obtain rfl : u = _ := hv
    exact ⟨_, us, rfl, ⟨none, 0, rfl, Nat.le_refl _, fun h => by simp at h⟩, hr⟩
  · cases h
theorem takeInts_VR {ρ : Nat → Option Value} {N : Nat → Prop} {w : World} {k : IntKind} : ∀ {n : Nat} {cs : List AV} {us : List Value} {l : List Int} {r : List AV}, takeInts k n cs = some (l, r) → VRs ρ N w cs us → ∃ us', us = l.map (Value.int k) ++ us' ∧ VRs ρ N w r us' ∧ l.length = n
  | 0, cs, us, l, r, h, hv => by
    simp only [takeInts, Option.some.injEq, Prod.mk.injEq] at h
    obtain ⟨rfl, rfl⟩ := h
    exact ⟨us, rfl, hv, rfl⟩
  | n + 1, [], us, l, r, h, hv => by simp [takeInts] at h
  | n + 1, c :: cs, us, l, r, h, hv => by
    cases c with
    | int k' x =>
      simp only [takeInts] at h
      split at h
      · rename_i l0 r0 hk hr
        simp only [Option.some.injEq, Prod.mk.injEq] at h
        obtain ⟨rfl, rfl⟩ := h
        obtain rfl := kEq_eq hk
        obtain ⟨u, us', rfl, h1, h2⟩ := hv
        obtain ⟨us2, rfl, h3, h4⟩ := takeInts_VR hr h2
        obtain rfl : u = _ := h1
        exact ⟨us2, rfl, h3, by simp [h4]⟩
      · cases h
    | _ => simp [takeInts] at h
theorem segOf_VR {ρ : Nat → Option Value} {N : Nat → Prop} {lo : Nat} {w : World} : ∀ {ws : Lay} {cs : List AV} {us : List Value} {ss : List Seg}, segOf ws cs = some ss → VRs ρ N w cs us → SegsV N lo w ss us
  | [], [], us, ss, h, hv => by
    simp only [segOf, Option.some.injEq] at h; subst h
    exact hv
  | [], _ :: _, us, ss, h, hv => by simp [segOf] at h
  | none :: ws, [], us, ss, h, hv => by simp [segOf] at h
  | none :: ws, c :: cs, us, ss, h, hv => by
    simp only [segOf] at h
    split at h
    · rename_i s ss' hs hss
      simp only [Option.some.injEq] at h; subst h
      obtain ⟨u, us', rfl, h1, h2⟩ := hv
      exact avSeg_VR hs h1 (segOf_VR hss h2)
    · cases h
  | some (k, n) :: ws, cs, us, ss, h, hv => by
    simp only [segOf] at h
    split at h
    · rename_i l r hl
      split at h
      · rename_i ss' hss
        simp only [Option.some.injEq] at h; subst h
        obtain ⟨us', rfl, h1, h2⟩ := takeInts_VR hl hv
        exact ⟨us', rfl, h2, segOf_VR hss h1⟩
      · cases h
    · cases h
theorem valSegs_VR {ρ : Nat → Option Value} {N : Nat → Prop} {lo : Nat} {w : World} {ws : Option Lay} {v : AV} {ss : List Seg} {u : Value} (h : valSegs ws v = some ss) (hv : VR ρ N w v u) : SegsV N lo w (dull ss) u.cells.toList := by
  have one {v : AV} {u : Value} (h : (match avSeg v with | some s => some [s] | none => none) = some ss) (hv : VR ρ N w v u) : SegsV N lo w (dull ss) u.cells.toList := by
    split at h
    · rename_i s hs
      simp only [Option.some.injEq] at h; subst h
      have h1 := avSeg_VR (lo := lo) (r := []) (us := []) hs hv rfl
      have hc : u.cells.toList = [u] := by
        unfold avSeg at hs
        split at hs
        · obtain rfl : u = _ := hv; rfl
        · obtain rfl : u = _ := hv; rfl
        · obtain rfl : u = _ := hv; rfl
        · obtain ⟨A, c, rfl, _⟩ := hv; rfl
        · obtain rfl : u = _ := hv; rfl
        · cases hs
      rw [hc]
      exact SegsV.dull h1
    · cases h
  unfold valSegs at h
  split at h
  · simp only [Option.some.injEq] at h; subst h
    obtain ⟨vs, rfl, h2⟩ := hv
    exact SegsV.dull h2
  · split at h
    · obtain ⟨vs, rfl, h2⟩ := hv
      exact SegsV.dull (segOf_VR (lo := lo) h h2)
    · cases h
  · exact one h hv
theorem told_alloc_part {t : Nat} {ti : TI} {ws : Lay} {ss : List Seg} (ht : TyOK P t ti) (hs : segOf ws ti.zero = some ss) : Told P H B S (.alloc t) (.rp S.hp.length 0) [.part t ss] :=
  Told.new fun o ρ N a w ho hp => by
    have e1 := segOf_VR (lo := B.lo) hs (ht.zero_cells (ρ := ρ) (N := N) (w := w))
    refine ⟨.pointer (some ⟨w.heap.size, 0, none⟩), .cells (zeroOf ti).cells t, .pointer (some ⟨w.heap.size, 0, none⟩), ?_, fun ρ' hext hself => ⟨⟨_, 0, hself, rfl⟩, _, _, rfl, hp.hb, heap_alloc_new w _, SegsV.keep (fun _ h => h) (Nat.le_refl _) (fun g hg => Below.heap_alloc w _ g (hp.nw g hg)) e1⟩, fun g hg => by simpa [hand] using hg.symm⟩
    simp only [execOp, ho, Instr.alloc, Sem.run_bind, ht.run_zero, Result.andThen_ok]
    simp [newVar, newRow, newObj, Sem.run]
theorem told_box_part {t : Nat} {x : Operand} {ws : Option Lay} {ss : List Seg} (hx : valSegs ws (S.ev x) = some ss) : Told P H B S (.box t x) (.rp S.hp.length 0) [.part t (dull ss)] :=
  Told.new fun o ρ N a w ho hp => by
    have h1 := valSegs_VR (lo := B.lo) hx (hp.ops x (by simp [Op.operands]))
    refine ⟨.pointer (some ⟨w.heap.size, 0, none⟩), .cells (a.eval x).cells t, .pointer (some ⟨w.heap.size, 0, none⟩), ?_, fun ρ' hext hself => ⟨⟨_, 0, hself, rfl⟩, _, _, rfl, hp.hb, heap_alloc_new w _, SegsV.keep (fun _ h => h) (Nat.le_refl _) (fun g hg => Below.heap_alloc w _ g (hp.nw g hg)) h1⟩, fun g hg => by simpa [hand] using hg.symm⟩
    simp [execOp, ho, Instr.box, newVar, newRow, newObj, Sem.run]
theorem told_nilCheck2 {x : Operand} (hx : (∃ i o, S.ev x = .rp i o) ∨ (∃ i o n j, S.ev x = .pel i o n j) ∨ ∃ ss, S.ev x = .pseg ss) : Told P H B S (.nilCheck x) (S.ev x) [] :=
  Told.pure fun o ρ N a w ho hp => by
    have h1 : VR ρ N w (S.ev x) (a.eval x) := hp.ops x (by simp [Op.operands])
    have : ∃ ad, a.eval x = .pointer (some ad) := by
      rcases hx with ⟨i, j, e⟩ | ⟨i, o', n, j, e⟩ | ⟨ss, e⟩
      · rw [e] at h1; obtain ⟨g, b, _, h⟩ := h1; exact ⟨_, h⟩
      · rw [e] at h1; obtain ⟨g, b, _, _, _, h⟩ := h1; exact ⟨_, h⟩
      · rw [e] at h1; obtain ⟨g, o', mid, h, _⟩ := h1; exact ⟨_, h⟩
    obtain ⟨ad, he⟩ := this
    exact ⟨a.eval x, by simp [execOp, ho, he], h1⟩
theorem anil_some {op : BinOp} {x y : AV} {K : Bool → Option α} (h : anil op x y K = some r) {t e : Nat} (ht : P.underlying t = some (.pointer e)) :
    ∃ b, K b = some r ∧ ∀ ρ N w u u', VR ρ N w x u → VR ρ N w y u' → (binOp op t u u').run P w = .ok (.bool b) w ∧ ∀ e1 e2, (eqGuard op t e1 e2 u u').run P w = .ok () w := by
  have hp : P.underlying t = some (.pointer (P.pointee t)) := by rw [ht]; simp [Program.pointee, ht]
  unfold anil at h
  split at h
  · refine ⟨_, h, fun ρ N w u u' hu hu' => ?_⟩
    obtain ⟨g, b, _, rfl⟩ := hu
    obtain rfl : u' = _ := hu'
    exact ⟨run_eql_pointer_nil w t _ hp, fun _ _ => by simp [eqGuard]⟩
  · refine ⟨_, h, fun ρ N w u u' hu hu' => ?_⟩
    obtain ⟨g, o, mid, rfl, _⟩ := hu
    obtain rfl : u' = _ := hu'
    exact ⟨run_eql_pointer_nil w t _ hp, fun _ _ => by simp [eqGuard]⟩
  · refine ⟨_, h, fun ρ N w u u' hu hu' => ?_⟩
    obtain rfl : u = _ := hu
    obtain rfl : u' = _ := hu'
    exact ⟨run_eql_pointer_nil w t _ hp, fun _ _ => by simp [eqGuard]⟩
  · refine ⟨_, h, fun ρ N w u u' hu hu' => ?_⟩
    obtain ⟨g, b, _, rfl⟩ := hu
    obtain rfl : u' = _ := hu'
    exact ⟨run_neq_pointer_nil w t _ hp, fun _ _ => by simp [eqGuard]⟩
  · refine ⟨_, h, fun ρ N w u u' hu hu' => ?_⟩
    obtain ⟨g, o, mid, rfl, _⟩ := hu
    obtain rfl : u' = _ := hu'
    exact ⟨run_neq_pointer_nil w t _ hp, fun _ _ => by simp [eqGuard]⟩
  · refine ⟨_, h, fun ρ N w u u' hu hu' => ?_⟩
    obtain rfl : u = _ := hu
    obtain rfl : u' = _ := hu'
    exact ⟨run_neq_pointer_nil w t _ hp, fun _ _ => by simp [eqGuard]⟩
  · cases h
theorem told_un {op : UnOp} {t : Nat} {x : Operand} {v : AV} (h : ∀ ρ N w u, VR ρ N w (S.ev x) u → ∃ val, (Op.unary op u).run P w = .ok val w ∧ VR ρ N w v val) : Told P H B S (.unOp op t x) v [] :=
  Told.pure fun o ρ N a w ho hp => by
    obtain ⟨val, h1, h2⟩ := h _ _ _ _ (hp.ops x (by simp [Op.operands]))
    exact ⟨val, by simp [execOp, ho, h1], h2⟩
theorem told_bin {op : BinOp} {t ty : Nat} {x y : Operand} {v : AV} (h : ∀ ρ N w u u', VR ρ N w (S.ev x) u → VR ρ N w (S.ev y) u' → ∃ val, (binOp op t u u').run P w = .ok val w ∧ VR ρ N w v val ∧ ∀ e e', (eqGuard op t e e' u u').run P w = .ok () w) : Told P H B S (.binOp op t x y ty) v [] :=
  Told.pure fun o ρ N a w ho hp => by
    obtain ⟨val, h1, h2, h3⟩ := h _ _ _ _ _ (hp.ops x (by simp [Op.operands])) (hp.ops y (by simp [Op.operands]))
    exact ⟨val, by simp [execOp, ho, h1, h3], h2⟩
theorem told_convert {s d : Nat} {x : Operand} {k k' : IntKind} {n : Int} {ti tj : TI} (hs : TyOK P s ti) (hd : TyOK P d tj) (hk : tj.d = .int k) (hx : S.ev x = .int k' n) : Told P H B S (.convert s d x) (.int k (wr k n)) [] :=
  Told.pure fun o ρ N a w ho hp => by
    have h1 : VR ρ N w (S.ev x) (a.eval x) := hp.ops x (by simp [Op.operands])
    rw [hx] at h1
    have e1 := VR_int h1
    have hu := hd.desc
    rw [hk] at hu
    have hu' : P.underlying d = some (.int k) := hu
    have hus : ∃ q, P.underlying s = some q := by
      have := hs.desc
      revert this
      cases ti.d <;> simp only [TDOK] <;> intro this
      · exact ⟨_, this⟩
      · exact ⟨_, this⟩
      · exact ⟨_, this⟩
      · exact ⟨_, this.choose_spec.1⟩
      · exact ⟨_, this⟩
      · exact ⟨_, this⟩
      · exact ⟨_, (Option.map_eq_some_iff.1 this).choose_spec.1⟩
    obtain ⟨q, hq⟩ := hus
    refine ⟨.int k (k.wrap n), ?_, by simp [VR, wr_eq]⟩
    simp [execOp, ho, e1, convert, run_underlying hu', run_underlying hq, Conv.intToInt]
theorem told_extract {x : Operand} {i : Nat} {vs : List AV} {v : AV} (hx : S.ev x = .tup vs) (hv : nth vs i = some v) : Told P H B S (.extract x i) v [] :=
  Told.pure fun o ρ N a w ho hp => by
    have h1 : VR ρ N w (S.ev x) (a.eval x) := hp.ops x (by simp [Op.operands])
    rw [hx] at h1
    obtain ⟨us, e, h2⟩ := h1
    obtain ⟨u, hu, h3⟩ := VRs.get h2 i v hv
    rw [Array.getElem?_toList] at hu
    exact ⟨u, by simp [execOp, ho, e, Instr.extract, hu], h3⟩
theorem told_nilCheck {x : Operand} (hx : (∃ i o, S.ev x = .ptr i o) ∨ (∃ k n, S.ev x = .pro k n) ∨ (∃ i j, S.ev x = .pown i j) ∨ ∃ cs, S.ev x = .prec cs) : Told P H B S (.nilCheck x) (S.ev x) [] :=
  Told.pure fun o ρ N a w ho hp => by
    have h1 : VR ρ N w (S.ev x) (a.eval x) := hp.ops x (by simp [Op.operands])
    have : ∃ ad, a.eval x = .pointer (some ad) := by
      rcases hx with ⟨i, j, e⟩ | ⟨k, n, e⟩ | ⟨i, j, e⟩ | ⟨cs, e⟩
      · rw [e] at h1; obtain ⟨g, _, h⟩ := h1; exact ⟨_, h⟩
      · rw [e] at h1; obtain ⟨g, h, _⟩ := h1; exact ⟨_, h⟩
      · rw [e] at h1; obtain ⟨g, _, _, _, _, _, _, h⟩ := h1; exact ⟨_, h⟩
      · rw [e] at h1; obtain ⟨g, h, _⟩ := h1; exact ⟨_, h⟩
    obtain ⟨ad, he⟩ := this
    exact ⟨a.eval x, by simp [execOp, ho, he], h1⟩
/-! ### structs held against each other -/
theorem part_flat {t : Nat} {cs : Array Value} {i : Nat} {v : Value} {w : World} (ht : P.underlying t = some .bool ∨ ∃ k, P.underlying t = some (.int k)) (hv : cs[i]? = some v) : (part t cs i).run P w = .ok v w := by
  rcases ht with ht | ⟨k, ht⟩ <;> simp [part, isAgg, Sem.run_bind, run_underlying ht, Result.andThen, hv]
theorem eq_fields {ρ : Nat → Option Value} {N : Nat → Prop} {w : World} {d : Nat} {xs ys : Array Value} : ∀ (fs : List Field) (i : Nat) (zs cs ds : List AV) (b : Bool), EqFs P fs zs i → VRs ρ N w cs (xs.toList.drop i) → VRs ρ N w ds (ys.toList.drop i) → eqList zs cs ds = some b → (Op.eqFields (d + 1) xs ys fs).run P w = .ok b w
  | [], i, zs, cs, ds, b, hz, _, _, h => by
    obtain rfl : zs = [] := hz
    unfold eqList at h
    split at h
    · simp only [Option.some.injEq] at h; subst h; rfl
    · rename_i hh _ _; cases hh
    · rename_i hh _ _; cases hh
    · cases h
  | f :: fs, i, zs, cs, ds, b, ⟨z, zr, hzs, hn, ho, hu, hf⟩, h1, h2, h => by
    have hn' : f.name ≠ "_" := by simpa using hn
    subst hzs
    have key : ∀ (c e : AV) (cs' ds' : List AV) (r s : Bool), cs = c :: cs' → ds = e :: ds' → (∀ u v, VR ρ N w c u → VR ρ N w e v → (Op.equalIn (d + 1) f.type u v).run P w = .ok r w) → eqList zr cs' ds' = some s → (Op.eqFields (d + 1) xs ys (f :: fs)).run P w = .ok (r && s) w := by
      intro c e cs' ds' r s hc he hr hs
      subst hc; subst he
      obtain ⟨u, us, hx, a1, a2⟩ := h1
      obtain ⟨v, vs, hy, b1, b2⟩ := h2
      have hxi : xs[i]? = some u := by rw [← Array.getElem?_toList, ← List.head?_drop, hx]; rfl
      have hyi : ys[i]? = some v := by rw [← Array.getElem?_toList, ← List.head?_drop, hy]; rfl
      have hx' : VRs ρ N w cs' (xs.toList.drop (i + 1)) := by rw [← List.drop_drop, hx]; exact a2
      have hy' : VRs ρ N w ds' (ys.toList.drop (i + 1)) := by rw [← List.drop_drop, hy]; exact b2
      have ih := eq_fields (d := d) fs (i + 1) zr cs' ds' s hf hx' hy' hs
      have hu' : P.underlying f.type = some .bool ∨ ∃ k, P.underlying f.type = some (.int k) := by rcases hu with ⟨_, hu⟩ | ⟨_, hu⟩; exact .inr hu; exact .inl hu
      have pa : (part f.type xs f.offset).run P w = .ok u w := by rw [ho]; exact part_flat hu' hxi
      have pb : (part f.type ys f.offset).run P w = .ok v w := by rw [ho]; exact part_flat hu' hyi
      rw [Op.eqFields]
      simp only [if_pos hn', Sem.run_bind, pa, pb, hr u v a1 b1, Result.andThen_ok]
      cases r
      · simp
      · simpa using ih
    unfold eqList at h
    split at h
    · exact absurd ‹z :: zr = []› (by simp)
    · rename_i k0 n0 zs' k a cs' k' a' ds' hz
      injection hz with hz1 hz2; subst hz1; subst hz2
      split at h
      · rename_i s hk hs
        simp only [Option.some.injEq] at h; subst h
        obtain rfl := kEq_eq hk
        refine key _ _ _ _ _ _ rfl rfl (fun u v hu1 hv1 => ?_) hs
        obtain rfl : u = .int k a := hu1
        obtain rfl : v = .int k a' := hv1
        rcases hu with ⟨_, q, hu⟩ | ⟨⟨_, hb⟩, _⟩
        · have : (a == a') = decide (a = a') := by by_cases h : a = a' <;> simp [h]
          simp [Op.equalIn, Sem.run_bind, run_underlying hu, Result.andThen_ok, this]
        · cases hb
      · cases h
    · rename_i b0 zs' a cs' a' ds' hz
      injection hz with hz1 hz2; subst hz1; subst hz2
      split at h
      · rename_i s hs
        simp only [Option.some.injEq] at h; subst h
        refine key _ _ _ _ _ _ rfl rfl (fun u v hu1 hv1 => ?_) hs
        obtain rfl : u = .bool a := hu1
        obtain rfl : v = .bool a' := hv1
        rcases hu with ⟨⟨_, _, hb⟩, _⟩ | ⟨_, hu⟩
        · cases hb
        · simp [Op.equalIn, Sem.run_bind, run_underlying hu, Result.andThen_ok]
      · cases h
    · cases h
theorem told_eqs {op : BinOp} {t ty : Nat} {x y : Operand} {ti : TI} {cs ds : List AV} {b : Bool} (ht : TyOK P t ti) (he : ti.eq = true) (hx : S.ev x = .agg cs) (hy : S.ev y = .agg ds) (hb : eqList ti.zero cs ds = some b) (hop : op = .eql ∨ op = .neq) :
    Told P H B S (.binOp op t x y ty) (.bool (if op = .eql then b else !b)) [] :=
  told_bin fun ρ N w u u' hu hu' => by
    rw [hx] at hu
    rw [hy] at hu'
    obtain ⟨xs, rfl, h1⟩ := hu
    obtain ⟨ys, rfl, h2⟩ := hu'
    obtain ⟨fields, e1, e2, e3, e4⟩ := ht.eq he
    have hf : P.fieldsOf t = fields := by simp [Program.fieldsOf, e1]
    have hr := eq_fields (d := 9998) (xs := xs) (ys := ys) fields.toList 0 ti.zero cs ds b e4 (by simpa using h1) (by simpa using h2) hb
    have hq : (Op.equal t (.agg xs) (.agg ys)).run P w = .ok b w := by
      show (Op.equalIn (9999 + 1) t (.agg xs) (.agg ys)).run P w = _
      rw [run_equalIn_struct (P := P) w 9999 t xs ys (by rw [hf]; exact e1) e2, hf]
      exact hr
    rcases hop with rfl | rfl
    · exact ⟨.bool b, by simp [binOp, hq], rfl, fun _ _ => by simp [eqGuard, e3]⟩
    · exact ⟨.bool (!b), by simp [binOp, hq], rfl, fun _ _ => by simp [eqGuard, e3]⟩
end
end Go.Proofs.YtcacmhcekoeblaaDoorA
