/- Light operations over rows and structs. No conditions. -/
import Derived.Test.YtcacmhcekoeblaaDoorA3
namespace Go.Proofs.YtcacmhcekoeblaaDoorA
open Go.RowKit
set_option linter.unusedVariables false
set_option linter.unusedSimpArgs false
set_option linter.unusedSectionVars false
theorem add_plain (g j : Nat) : (⟨g, 0, none⟩ : Addr).add j = ⟨g, j, none⟩ := by unfold Addr.add; split <;> simp_all
theorem add_add (ad : Addr) (i j : Nat) : (ad.add i).add j = ad.add (i + j) := by
  unfold Addr.add
  by_cases hi : i = 0
  · subst hi; simp
  · by_cases hj : j = 0
    · subst hj; simp [hi]
    · rw [if_neg hi, if_neg hj, if_neg (by omega)]
      simp [Nat.add_assoc]
theorem add_block (ad : Addr) (i : Nat) : (ad.add i).block = ad.block := by unfold Addr.add; split <;> rfl
structure IntRow (P : Program) (t e : Nat) (k : IntKind) (b : Nat) : Prop where
  row : P.underlying t = some (.slice e)
  elem : P.underlying e = some (.int k)
  info : ∃ i, P.info? e = some i ∧ i.size = 1 ∧ i.bytes = b ∧ i.zero = some (.int k 0)
theorem IntRow.el {P : Program} {t e b : Nat} {k : IntKind} (h : IntRow P t e k b) : P.elem t = e ∧ P.underlying t = some (.slice (P.elem t)) := by
  have : P.elem t = e := by simp [Program.elem, h.row]
  exact ⟨this, by rw [this]; exact h.row⟩
theorem IntRow.run_sizeOf {P : Program} {t e b : Nat} {k : IntKind} (h : IntRow P t e k b) (w : World) : (sizeOf e).run P w = .ok 1 w := by
  obtain ⟨i, hi, hs, _⟩ := h.info
  simp [sizeOf, typeInfo, hi, hs]
/-- A slice of slices. -/
structure RowRow (P : Program) (t e b : Nat) : Prop where
  row : P.underlying t = some (.slice e)
  info : ∃ i, P.info? e = some i ∧ i.size = 1 ∧ i.bytes = b ∧ i.zero = some (.slice none 0 0)
theorem RowRow.run_sizeOf {P : Program} {t e b : Nat} (h : RowRow P t e b) (w : World) : (sizeOf e).run P w = .ok 1 w := by
  obtain ⟨i, hi, hs, _⟩ := h.info
  simp [sizeOf, typeInfo, hi, hs]
/-- A slice of functions. -/
structure FnRow (P : Program) (t e b : Nat) : Prop where
  row : P.underlying t = some (.slice e)
  info : ∃ i, P.info? e = some i ∧ i.size = 1 ∧ i.bytes = b ∧ i.zero = some .nilFunc
theorem FnRow.run_sizeOf {P : Program} {t e b : Nat} (h : FnRow P t e b) (w : World) : (sizeOf e).run P w = .ok 1 w := by
  obtain ⟨i, hi, hs, _⟩ := h.info
  simp [sizeOf, typeInfo, hi, hs]
section
variable {α : Type} {P : Program} {H : World → Prop} {B : Bd} {S : ASt} {r : α} {c : Cfg α}
theorem fnElem_some (hT : TOK P c.T) {t e b : Nat} (h : fnElem c t = some (e, b)) : FnRow P t e b := by
  unfold fnElem at h
  split at h
  · rename_i h1
    split at h
    · rename_i h2
      simp only [Option.some.injEq, Prod.mk.injEq] at h
      obtain ⟨rfl, rfl⟩ := h
      have T1 := hT _ _ h1
      have T2 := hT _ _ h2
      obtain ⟨i, hi, e1, e2, e3⟩ := T2.get_info
      exact ⟨T1.desc, i, hi, e1, e2, e3⟩
    · cases h
  · cases h
theorem rowElem_some (hT : TOK P c.T) {t e b : Nat} {k : IntKind} (h : rowElem c t = some (e, k, b)) : RowRow P t e b := by
  unfold rowElem at h
  split at h
  · rename_i h1
    split at h
    · rename_i h2
      split at h
      · simp only [Option.some.injEq, Prod.mk.injEq] at h
        obtain ⟨rfl, rfl, rfl⟩ := h
        have T1 := hT _ _ h1
        have T2 := hT _ _ h2
        obtain ⟨i, hi, e1, e2, e3⟩ := T2.get_info
        exact ⟨T1.desc, i, hi, e1, e2, e3⟩
      · cases h
    · cases h
  · cases h
theorem intElem_some (hT : TOK P c.T) {t e b : Nat} {k : IntKind} (h : intElem c t = some (e, k, b)) : IntRow P t e k b := by
  unfold intElem at h
  split at h
  · rename_i e' _ _ _ h1
    split at h
    · rename_i k0 b' k' z h2
      split at h
      · rename_i hk
        simp only [Option.some.injEq, Prod.mk.injEq] at h
        obtain ⟨rfl, rfl, rfl⟩ := h
        obtain rfl := kEq_eq hk
        have T1 := hT _ _ h1
        have T2 := hT _ _ h2
        obtain ⟨i, hi, e1, e2, e3⟩ := T2.get_info
        exact ⟨T1.desc, T2.desc, i, hi, e1, e2, e3⟩
      · cases h
    · cases h
  · cases h
/-- Rows as the machine holds them. -/
structure RowAt (P : Program) (w : World) (v : Value) (k : IntKind) (l : List Int) : Prop where
  sh : ∃ A c, v = .slice A l.length c ∧ l.length ≤ c ∧ (0 < l.length → ∃ ad, A = some ad ∧ ∀ j, j < l.length → w.cell? (ad.add j) = some (.int k (l.getD j 0)))
theorem RoV.at {N : Nat → Prop} {w : World} {k : IntKind} {l : List Int} {v : Value} (h : RoV N w k l v) : RowAt P w v k l := by
  obtain ⟨A, c, h1, h2, h3⟩ := h
  exact ⟨A, c, h1, h2, fun hl => by obtain ⟨ad, e, _, hc⟩ := h3 hl; exact ⟨ad, e, hc⟩⟩
theorem own_cell {w : World} {e : Nat} {v : Value} {k : IntKind} {l : List Int} {g n cp : Nat} (h : w.ownsRow B.lo e 1 v l.length (l.map (Value.int k))) (hv : v = .slice (some ⟨g, 0, none⟩) n cp) (j : Nat) (hj : j < l.length) :
    w.cell? ⟨g, j, none⟩ = some (.int k (l.getD j 0)) := by
  have h1 := h.cells (g := g) (by rw [hv]; rfl) j (.int k (l.getD j 0)) (by simp [List.getElem?_map, List.getElem?_eq_getElem hj, List.getD_eq_getElem?_getD])
  rwa [add_plain] at h1
theorem own_at {w : World} {e : Nat} {v : Value} {k : IntKind} {l : List Int} (h : w.ownsRow B.lo e 1 v l.length (l.map (Value.int k))) : RowAt P w v k l := by
  have h0 := h
  rcases h.2 with ⟨rfl, hl⟩ | ⟨g, cap, cur, rfl, _, _, hc, _⟩
  · exact ⟨none, 0, by rw [hl], by omega, fun h => by omega⟩
  · exact ⟨_, cap, rfl, hc, fun hl => ⟨_, rfl, fun j hj => by rw [add_plain]; exact own_cell h0 rfl j hj⟩⟩
theorem bor_at {w : World} {g e c : Nat} {k : IntKind} {pre post : List Value} {l : List Int} (hc : l.length ≤ c) (h : w.heap[g]? = some (.cells (pre ++ l.map (Value.int k) ++ post).toArray e (0, 0))) : RowAt P w (.slice (some ⟨g, pre.length, none⟩) l.length c) k l := by
  refine ⟨_, c, rfl, hc, fun _ => ⟨_, rfl, fun j hj => ?_⟩⟩
  have h1 : (⟨g, pre.length, none⟩ : Addr).add j = ⟨g, pre.length + j, none⟩ := by unfold Addr.add; split <;> simp_all
  rw [h1, cell_of_row w g (pre.length + j) _ e (0, 0) h]
  rw [List.getElem?_toArray, List.append_assoc, List.getElem?_append_right (by omega), Nat.add_sub_cancel_left, List.getElem?_append_left (by simpa using hj)]
  simp [List.getD_eq_getElem?_getD, List.getElem?_eq_getElem hj]
theorem RowAt.ro {w : World} {v : Value} {k : IntKind} {l : List Int} (h : RowAt P w v k l) : RoV (fun g => ∃ A n c, v = .slice (some A) n c ∧ A.block = g) w k l v := by
  obtain ⟨A, c, rfl, h2, h3⟩ := h.sh
  refine ⟨A, c, rfl, h2, fun hl => ?_⟩
  obtain ⟨ad, rfl, h4⟩ := h3 hl
  exact ⟨ad, rfl, ⟨ad, _, _, rfl, rfl⟩, h4⟩
/-- The cut row. -/
theorem RoV.cut {N : Nat → Prop} {w : World} {k : IntKind} {l : List Int} {A : Option Addr} {cp b e m : Nat} (h : RoV N w k l (.slice A l.length cp)) (hbe : b ≤ e) (hel : e ≤ l.length) (hem : e ≤ m) (s : Nat) (hs : s = 1) : RoV N w k ((l.take e).drop b) (sliced A b e m s) := by
  subst hs
  obtain ⟨A', c', h1, h2, h3⟩ := h
  injection h1 with e1 _ e2
  subst e1
  have hlen : ((l.take e).drop b).length = e - b := by simp; omega
  refine ⟨_, m - b, by unfold sliced; rw [hlen], by rw [hlen]; omega, fun hp => ?_⟩
  rw [hlen] at hp
  obtain ⟨ad, rfl, hN, hc⟩ := h3 (by omega)
  refine ⟨ad.add b, ?_, by rw [add_block]; exact hN, fun j hj => ?_⟩
  · rw [if_neg (by omega)]; simp
  · rw [hlen] at hj
    rw [add_add, hc (b + j) (by omega)]
    simp only [List.getD_eq_getElem?_getD, List.getElem?_drop, List.getElem?_take]
    rw [if_pos (by omega)]
/-- A window of a row of the call's own. -/
theorem win_at {ρ : Nat → Option Value} {N : Nat → Prop} {w : World} {i e' : Nat} {b e : Int} {u : Value} {k : IntKind} {l : List Int} (hbl : ∀ i b u, S.hp[i]? = some b → ρ i = some u → BR B ρ N w u b) (hb : S.hp[i]? = some (.ints e' k l)) (hv : VR ρ N w (.win i b e) u) :
    RowAt P w u k ((l.take e.toNat).drop b.toNat) ∧ 0 ≤ b ∧ b ≤ e ∧ e.toNat ≤ l.length ∧ (∀ q, hand u = some q → ∃ x, ρ i = some x ∧ hand x = some q) ∧
      (b < e → ∃ g c, ρ i = some (.slice (some ⟨g, 0, none⟩) l.length c) ∧ e.toNat ≤ c ∧ u = .slice (some ⟨g, b.toNat, none⟩) (e.toNat - b.toNat) (c - b.toNat)) := by
  obtain ⟨A, n, c, h1, h2, h3, h4, rfl⟩ := hv
  have ho : w.ownsRow B.lo e' 1 (.slice A n c) l.length (l.map (Value.int k)) := hbl _ _ _ hb h1
  have hat := own_at (P := P) ho
  obtain ⟨A', c', e1, e2, e3⟩ := id hat.sh
  injection e1 with e1 e4 e5
  subst e1 e4 e5
  refine ⟨RoV.at (P := P) (RoV.cut hat.ro (b := b.toNat) (e := e.toNat) (m := c) (by omega) h4 (by omega) 1 rfl), h2, h3, h4, fun q hq => ⟨_, h1, ?_⟩, fun hbe => ?_⟩
  · unfold sliced at hq
    cases A with
    | none => split at hq <;> simp [hand] at hq
    | some ad =>
      split at hq
      · exact hq
      · simpa [hand, add_block] using hq
  · obtain ⟨g, cap, hf, _, _⟩ := ho.form (by omega)
    injection hf with f1 f2 f3
    subst f1 f3
    refine ⟨g, c, h1, by omega, ?_⟩
    unfold sliced
    rw [if_neg (by omega)]
    simp [add_plain]
theorem win_fz {ρ : Nat → Option Value} {N : Nat → Prop} {w : World} {i : Nat} {b e : Int} {u : Value} {k : IntKind} {l : List Int} (hbl : ∀ i b u, S.hp[i]? = some b → ρ i = some u → BR B ρ N w u b) (hb : S.hp[i]? = some (.froz k l)) (hv : VR ρ N w (.win i b e) u) : RoV N w k ((l.take e.toNat).drop b.toNat) u := by
  obtain ⟨A, n, c, h1, h2, h3, h4, rfl⟩ := hv
  have ho : RoV N w k l (.slice A n c) := hbl _ _ _ hb h1
  obtain ⟨A', c', e1, e2, e3⟩ := id ho
  injection e1 with e1 e4 e5
  subst e1 e4 e5
  exact RoV.cut ho (by omega) h4 (by omega) 1 rfl
theorem rowOf_at {ρ : Nat → Option Value} {N : Nat → Prop} {w : World} {v : AV} {u : Value} {k : IntKind} {l : List Int} (hbl : ∀ i b u, S.hp[i]? = some b → ρ i = some u → BR B ρ N w u b) (h : rowOf S.hp v = some (k, l)) (hv : VR ρ N w v u) : RowAt P w u k l := by
  unfold rowOf at h
  split at h
  · simp only [Option.some.injEq, Prod.mk.injEq] at h
    obtain ⟨rfl, rfl⟩ := h
    exact RoV.at hv
  · simp only [Option.some.injEq, Prod.mk.injEq] at h
    obtain ⟨rfl, rfl⟩ := h
    obtain rfl : u = _ := hv
    exact ⟨none, 0, rfl, Nat.le_refl _, fun h => by simp at h⟩
  · rename_i i
    split at h
    · rename_i e k' l' hb
      simp only [Option.some.injEq, Prod.mk.injEq] at h
      obtain ⟨rfl, rfl⟩ := h
      rw [nth_eq] at hb
      exact own_at (hbl _ _ _ hb hv.1)
    · rename_i k' l' hb
      simp only [Option.some.injEq, Prod.mk.injEq] at h
      obtain ⟨rfl, rfl⟩ := h
      rw [nth_eq] at hb
      exact RoV.at (hbl _ _ _ hb hv.1)
    · rename_i hb
      simp only [Option.some.injEq, Prod.mk.injEq] at h
      obtain ⟨rfl, rfl⟩ := h
      rw [nth_eq] at hb
      obtain ⟨d, c, _, _, rfl, h2, _, h3⟩ := hbl _ _ _ hb hv.1
      exact bor_at h2 h3
    · rename_i hb
      simp only [Option.some.injEq, Prod.mk.injEq] at h
      obtain ⟨rfl, rfl⟩ := h
      rw [nth_eq] at hb
      exact own_at (hbl _ _ _ hb hv.1).1
    · cases h
  · rename_i i b e
    split at h
    · rename_i e' k' l' hb
      simp only [Option.some.injEq, Prod.mk.injEq] at h
      obtain ⟨rfl, rfl⟩ := h
      rw [nth_eq] at hb
      exact (win_at hbl hb hv).1
    · rename_i k' l' hb
      simp only [Option.some.injEq, Prod.mk.injEq] at h
      obtain ⟨rfl, rfl⟩ := h
      rw [nth_eq] at hb
      exact RoV.at (win_fz hbl hb hv)
    · cases h
  · cases h
theorem told_len {as : Array Operand} {ts : Array TypeId} {x : Operand} {t : Nat} {k : IntKind} {l : List Int} (ha : as.toList = [x]) (ht : ts.toList = [t]) {e b : Nat} {k' : IntKind} (hr : IntRow P t e k' b) (hx : rowOf S.hp (S.ev x) = some (k, l)) :
    Told P H B S (.call ⟨.builtin .len, as, ts⟩) (.int .i64 (l.length : Int)) [] :=
  Told.pure fun o ρ N a w ho hp => by
    obtain rfl : as = #[x] := by cases as; simp_all
    obtain rfl : ts = #[t] := by cases ts; simp_all
    obtain ⟨A, cp, h1, _, _⟩ := (rowOf_at (P := P) hp.bl hx (hp.ops x (by simp [Op.operands, Call.operands]))).sh
    refine ⟨.int .i64 (l.length : Int), ?_, rfl⟩
    simp [execOp, ho, resolve, invoke, builtin, h1, Builtin.len_, run_underlying hr.row, goInt]
theorem told_lenrec {as : Array Operand} {ts : Array TypeId} {x : Operand} {t e : Nat} {n : Int} {cols : List Col} (ha : as.toList = [x]) (ht : ts.toList = [t]) (hu : P.underlying t = some (.slice e)) (hx : S.ev x = .recs n cols) :
    Told P H B S (.call ⟨.builtin .len, as, ts⟩) (.int .i64 n) [] :=
  Told.pure fun o ρ N a w ho hp => by
    obtain rfl : as = #[x] := by cases as; simp_all
    obtain rfl : ts = #[t] := by cases ts; simp_all
    have h1 := hp.ops x (by simp [Op.operands, Call.operands])
    rw [hx] at h1
    obtain ⟨A, cp, h1, h0, _, _⟩ := h1
    refine ⟨.int .i64 n, ?_, rfl⟩
    have e : ((n.toNat : Nat) : Int) = n := by omega
    simp [execOp, ho, resolve, invoke, builtin, h1, Builtin.len_, run_underlying hu, goInt, e]
/-- A row of the call's own, as a slice. -/
theorem ownsRow_slice {w : World} {lo e n : Nat} {v : Value} {xs : List Value} (h : w.ownsRow lo e 1 v n xs) : ∃ A c, v = .slice A n c ∧ (0 < n → ∃ g, A = some ⟨g, 0, none⟩) ∧ ∀ ad, A = some ad → ∀ j u, xs[j]? = some u → w.cell? (ad.add j) = some u := by
  have h0 := h
  rcases h.2 with ⟨rfl, hl⟩ | ⟨g, cap, cur, rfl, _, _, hc, _⟩
  · exact ⟨none, 0, by rw [hl], fun h => by omega, fun ad h => by cases h⟩
  · refine ⟨_, cap, rfl, fun _ => ⟨g, rfl⟩, fun ad h j u hj => ?_⟩
    injection h with h
    subst h
    have hjl := (List.getElem?_eq_some_iff.1 hj).1
    have hlen := h0.1
    rw [add_plain, h0.cellAt j (by omega)]
    exact hj
theorem told_lenrws {as : Array Operand} {ts : Array TypeId} {x : Operand} {t e i e' : Nat} {k : IntKind} {ls : List (List Int)} (ha : as.toList = [x]) (ht : ts.toList = [t]) (hu : P.underlying t = some (.slice e)) (hx : S.ev x = .own i) (hb : nth S.hp i = some (.rws e' k ls)) :
    Told P H B S (.call ⟨.builtin .len, as, ts⟩) (.int .i64 (ls.length : Int)) [] :=
  Told.pure fun o ρ N a w ho hp => by
    obtain rfl : as = #[x] := by cases as; simp_all
    obtain rfl : ts = #[t] := by cases ts; simp_all
    have h1 := hp.ops x (by simp [Op.operands, Call.operands])
    rw [hx] at h1
    rw [nth_eq] at hb
    obtain ⟨vs, hown, _⟩ := hp.bl _ _ _ hb h1.1
    obtain ⟨A, cp, ev, _, _⟩ := ownsRow_slice hown
    refine ⟨.int .i64 (ls.length : Int), ?_, rfl⟩
    simp [execOp, ho, resolve, invoke, builtin, ev, Builtin.len_, run_underlying hu, goInt]
theorem told_lenfns {as : Array Operand} {ts : Array TypeId} {x : Operand} {t e i e' : Nat} {fs : List (Option Nat)} (ha : as.toList = [x]) (ht : ts.toList = [t]) (hu : P.underlying t = some (.slice e)) (hx : S.ev x = .own i) (hb : nth S.hp i = some (.fns e' fs)) :
    Told P H B S (.call ⟨.builtin .len, as, ts⟩) (.int .i64 (fs.length : Int)) [] :=
  Told.pure fun o ρ N a w ho hp => by
    obtain rfl : as = #[x] := by cases as; simp_all
    obtain rfl : ts = #[t] := by cases ts; simp_all
    have h1 := hp.ops x (by simp [Op.operands, Call.operands])
    rw [hx] at h1
    rw [nth_eq] at hb
    obtain ⟨vs, hown, _⟩ := hp.bl _ _ _ hb h1.1
    obtain ⟨A, cp, ev, _, _⟩ := ownsRow_slice hown
    refine ⟨.int .i64 (fs.length : Int), ?_, rfl⟩
    simp [execOp, ho, resolve, invoke, builtin, ev, Builtin.len_, run_underlying hu, goInt]
theorem told_max {as : Array Operand} {ts : Array TypeId} {x y : Operand} {k k' : IntKind} {m n : Int} (ha : as.toList = [x, y]) (hx : S.ev x = .int k m) (hy : S.ev y = .int k' n) :
    Told P H B S (.call ⟨.builtin .max, as, ts⟩) (.int k (mx m n)) [] :=
  Told.pure fun o ρ N a w ho hp => by
    obtain rfl : as = #[x, y] := by cases as; simp_all
    have h1 := hp.ops x (by simp [Op.operands, Call.operands])
    have h2 := hp.ops y (by simp [Op.operands, Call.operands])
    rw [hx] at h1; rw [hy] at h2
    have e1 := VR_int h1
    have e2 := VR_int h2
    refine ⟨.int k (mx m n), ?_, rfl⟩
    simp [execOp, ho, resolve, invoke, builtin, e1, e2, Builtin.max_, Builtin.max2, mx]
theorem told_min {as : Array Operand} {ts : Array TypeId} {x y : Operand} {k k' : IntKind} {m n : Int} (ha : as.toList = [x, y]) (hx : S.ev x = .int k m) (hy : S.ev y = .int k' n) :
    Told P H B S (.call ⟨.builtin .min, as, ts⟩) (.int k (mn m n)) [] :=
  Told.pure fun o ρ N a w ho hp => by
    obtain rfl : as = #[x, y] := by cases as; simp_all
    have h1 := hp.ops x (by simp [Op.operands, Call.operands])
    have h2 := hp.ops y (by simp [Op.operands, Call.operands])
    rw [hx] at h1; rw [hy] at h2
    have e1 := VR_int h1
    have e2 := VR_int h2
    refine ⟨.int k (mn m n), ?_, rfl⟩
    simp [execOp, ho, resolve, invoke, builtin, e1, e2, Builtin.min_, Builtin.min2, mn]
theorem told_min3 {as : Array Operand} {ts : Array TypeId} {x y z : Operand} {k k' k'' : IntKind} {m n l : Int} (ha : as.toList = [x, y, z]) (hx : S.ev x = .int k m) (hy : S.ev y = .int k' n) (hz : S.ev z = .int k'' l) :
    Told P H B S (.call ⟨.builtin .min, as, ts⟩) (.int k (mn (mn m n) l)) [] :=
  Told.pure fun o ρ N a w ho hp => by
    obtain rfl : as = #[x, y, z] := by cases as; simp_all
    have h1 := hp.ops x (by simp [Op.operands, Call.operands])
    have h2 := hp.ops y (by simp [Op.operands, Call.operands])
    have h3 := hp.ops z (by simp [Op.operands, Call.operands])
    rw [hx] at h1; rw [hy] at h2; rw [hz] at h3
    have e1 := VR_int h1
    have e2 := VR_int h2
    have e3 := VR_int h3
    refine ⟨.int k (mn (mn m n) l), ?_, rfl⟩
    simp [execOp, ho, resolve, invoke, builtin, e1, e2, e3, Builtin.min_, Builtin.min2, mn]
    rfl
/-- Loads. -/
theorem told_load_pro {t : Nat} {ti : TI} {x : Operand} {k : IntKind} {n : Int} (ht : TyOK P t ti) (hg : ti.isAgg = false) (hx : S.ev x = .pro k n) : Told P H B S (.load t x) (.int k n) [] :=
  Told.pure fun o ρ N a w ho hp => by
    have h1 := hp.ops x (by simp [Op.operands])
    rw [hx] at h1
    obtain ⟨ad, e, _, hc⟩ := h1
    refine ⟨.int k n, ?_, rfl⟩
    simp [execOp, ho, e, Instr.loadAt, Instr.sureAddr, loadVar, ht.run_isAgg, hg, hc]
theorem told_load_pown {t : Nat} {ti : TI} {x : Operand} {k : IntKind} {l : List Int} {i : Nat} {j : Int} (ht : TyOK P t ti) (hg : ti.isAgg = false) (hx : S.ev x = .pown i j) (hr : rowOf S.hp (.own i) = some (k, l)) : Told P H B S (.load t x) (.int k (rd l j)) [] :=
  Told.pure fun o ρ N a w ho hp => by
    have h1 := hp.ops x (by simp [Op.operands])
    rw [hx] at h1
    obtain ⟨g, of, n, cp, hρ, h0, hn, e⟩ := h1
    obtain ⟨A, c', h2, _, h3⟩ := (rowOf_at (P := P) (v := .own i) hp.bl hr ⟨hρ, _, _, _, rfl⟩).sh
    injection h2 with e1 e2 e3
    subst e2
    obtain ⟨ad, e4, hc⟩ := h3 (by omega)
    subst e1
    injection e4 with e4
    subst e4
    have h4 := hc j.toNat hn
    rw [show (⟨g, of, none⟩ : Addr).add j.toNat = ⟨g, of + j.toNat, none⟩ from by unfold Addr.add; split <;> simp_all] at h4
    refine ⟨.int k (rd l j), ?_, rfl⟩
    simp [execOp, ho, e, Instr.loadAt, Instr.sureAddr, loadVar, ht.run_isAgg, hg, h4, rd]
theorem told_load_rws {t e : Nat} {ti : TI} {x : Operand} {k : IntKind} {ls : List (List Int)} {i : Nat} {j : Int} (ht : TyOK P t ti) (hg : ti.isAgg = false) (hx : S.ev x = .pown i j) (hb : nth S.hp i = some (.rws e k ls)) : Told P H B S (.load t x) (.ro k (rdr ls j)) [] :=
  Told.pure fun o ρ N a w ho hp => by
    have h1 := hp.ops x (by simp [Op.operands])
    rw [hx] at h1
    obtain ⟨g, of, n, cp, hρ, h0, hn, e⟩ := h1
    rw [nth_eq] at hb
    obtain ⟨vs, hown, hvs⟩ := hp.bl _ _ _ hb hρ
    obtain ⟨A, c', h2, _, h3⟩ := ownsRow_slice hown
    injection h2 with e1 e2 e3
    subst e2
    have hj : j.toNat < ls.length := hn
    obtain ⟨u, hu, hv⟩ := hvs.get j.toNat _ (ros_nth hj)
    have h4 := h3 ⟨g, of, none⟩ e1.symm j.toNat u hu
    rw [show (⟨g, of, none⟩ : Addr).add j.toNat = ⟨g, of + j.toNat, none⟩ from by unfold Addr.add; split <;> simp_all] at h4
    refine ⟨u, ?_, hv⟩
    simp [execOp, ho, e, Instr.loadAt, Instr.sureAddr, loadVar, ht.run_isAgg, hg, h4]
theorem fns_nth {fs : List (Option Nat)} {j : Nat} {f : Nat} (h : fs[j]? = some (some f)) : nth (fs.map fav) j = some (.fn f) := by
  rw [nth_eq, List.getElem?_map, h]; rfl
theorem forkFn_some {β : Type} {j : Int} {K : Nat → Option β} {r : β} : ∀ {fs : List (Option Nat)} {o : Int}, forkFn j K fs o = some r → ∃ (f i : Nat), fs[i]? = some (some f) ∧ j = o + (i : Int) ∧ K f = some r
  | [], o, h => by cases h
  | some f :: fs, o, h => by
    simp only [forkFn] at h
    split at h
    · rename_i he
      exact ⟨f, 0, rfl, by rw [he]; simp, h⟩
    · obtain ⟨g, i, h1, h2, h3⟩ := forkFn_some h
      exact ⟨g, i + 1, by simpa using h1, by rw [h2]; omega, h3⟩
  | none :: fs, o, h => by
    simp only [forkFn] at h
    split at h
    · cases h
    · obtain ⟨g, i, h1, h2, h3⟩ := forkFn_some h
      exact ⟨g, i + 1, by simpa using h1, by rw [h2]; omega, h3⟩
theorem told_load_fns {t e : Nat} {ti : TI} {x : Operand} {fs : List (Option Nat)} {i f m : Nat} {j : Int} (ht : TyOK P t ti) (hg : ti.isAgg = false) (hx : S.ev x = .pown i j) (hb : nth S.hp i = some (.fns e fs)) (hf : fs[m]? = some (some f)) (hm : j = 0 + (m : Int)) : Told P H B S (.load t x) (.fn f) [] :=
  Told.pure fun o ρ N a w ho hp => by
    have h1 := hp.ops x (by simp [Op.operands])
    rw [hx] at h1
    obtain ⟨g, of, n, cp, hρ, h0, hn, e⟩ := h1
    rw [nth_eq] at hb
    obtain ⟨vs, hown, hvs⟩ := hp.bl _ _ _ hb hρ
    obtain ⟨A, c', h2, _, h3⟩ := ownsRow_slice hown
    injection h2 with e1 e2 e3
    subst e2
    obtain ⟨u, hu, hv⟩ := hvs.get m _ (fns_nth hf)
    obtain rfl : j.toNat = m := by omega
    clear hm
    have h4 := h3 ⟨g, of, none⟩ e1.symm j.toNat u hu
    rw [show (⟨g, of, none⟩ : Addr).add j.toNat = ⟨g, of + j.toNat, none⟩ from by unfold Addr.add; split <;> simp_all] at h4
    refine ⟨u, ?_, hv⟩
    simp [execOp, ho, e, Instr.loadAt, Instr.sureAddr, loadVar, ht.run_isAgg, hg, h4]
theorem cell_av {ρ : Nat → Option Value} {N : Nat → Prop} {w : World} {c : Cell} {u : Value} (h : CellV N w c u) : VR ρ N w c.av u := by
  cases c <;> exact h
theorem cells_list {ρ : Nat → Option Value} {N : Nat → Prop} {w : World} {ad : Addr} : ∀ (cs : List Cell) (o : Nat), (∀ i c, nth cs i = some c → ∃ u, w.cell? (ad.add (o + i)) = some u ∧ CellV N w c u) →
    ∃ vs : List Value, VRs ρ N w (cavs cs) vs ∧ vs.length = cs.length ∧ ∀ j u, vs[j]? = some u → w.cell? (ad.add (o + j)) = some u
  | [], o, h => ⟨[], rfl, rfl, fun j u hj => by simp at hj⟩
  | c :: cs, o, h => by
    obtain ⟨u, h1, h2⟩ := h 0 c rfl
    obtain ⟨vs, h3, h4, h5⟩ := cells_list cs (o + 1) (fun i d hd => by
      have := h (i + 1) d hd
      rwa [show o + (i + 1) = o + 1 + i by omega] at this)
    refine ⟨u :: vs, ⟨u, vs, rfl, cell_av h2, h3⟩, by simp [h4], fun j v hj => ?_⟩
    cases j with
    | zero => simp only [List.getElem?_cons_zero, Option.some.injEq] at hj; subst hj; exact h1
    | succ j =>
      have := h5 j v (by simpa using hj)
      rwa [show o + (j + 1) = o + 1 + j by omega]
theorem nth_take : ∀ (cs : List Cell) (n i : Nat) (c : Cell), nth (cs.take n) i = some c → nth cs i = some c := by
  intro cs n i c h
  rw [nth_eq] at h ⊢
  rw [List.getElem?_take] at h
  split at h
  · exact h
  · cases h
theorem add_nought (ad : Addr) : ad.add 0 = ad := by simp [Addr.add]
theorem told_load_prec {t : Nat} {ti : TI} {x : Operand} {c : Cell} {cs : List Cell} (ht : TyOK P t ti) (hg : ti.isAgg = false) (hx : S.ev x = .prec (c :: cs)) : Told P H B S (.load t x) c.av [] :=
  Told.pure fun o ρ N a w ho hp => by
    have h1 := hp.ops x (by simp [Op.operands])
    rw [hx] at h1
    obtain ⟨ad, e, _, hc⟩ := h1
    obtain ⟨u, h2, h3⟩ := hc 0 c rfl
    rw [add_nought] at h2
    refine ⟨u, ?_, cell_av h3⟩
    simp [execOp, ho, e, Instr.loadAt, Instr.sureAddr, loadVar, ht.run_isAgg, hg, h2]
theorem told_load_precs {t : Nat} {ti : TI} {x : Operand} {cs : List Cell} (ht : TyOK P t ti) (hg : ti.isAgg = true) (hx : S.ev x = .prec cs) (hl : Nat.ble ti.size cs.length = true) : Told P H B S (.load t x) (.agg (cavs (cs.take ti.size))) [] :=
  Told.pure fun o ρ N a w ho hp => by
    have h1 := hp.ops x (by simp [Op.operands])
    rw [hx] at h1
    obtain ⟨ad, e, _, hc⟩ := h1
    have hl' := Nat.le_of_ble_eq_true hl
    obtain ⟨vs, h2, h3, h4⟩ := cells_list (ρ := ρ) (N := N) (w := w) (ad := ad) (cs.take ti.size) 0 (fun i c hi => by rw [Nat.zero_add]; exact hc i c (nth_take _ _ _ _ hi))
    have hlen : vs.length = ti.size := by rw [h3, List.length_take]; omega
    have hrun := run_loadCells_list (P := P) w ad vs (fun j u hj => by have := h4 j u hj; rwa [Nat.zero_add] at this)
    rw [hlen] at hrun
    refine ⟨.agg vs.toArray, ?_, _, rfl, h2⟩
    simp [execOp, ho, e, Instr.loadAt, Instr.sureAddr, loadVar, ht.run_isAgg, hg, ht.run_sizeOf, hrun]
theorem told_load_cell {t : Nat} {ti : TI} {x : Operand} {i off bt : Nat} {cs : List AV} {v : AV} (ht : TyOK P t ti) (hg : ti.isAgg = false) (hx : S.ev x = .ptr i off) (hb : nth S.hp i = some (.cells bt cs)) (hv : nth cs off = some v) : Told P H B S (.load t x) v [] :=
  Told.pure fun o ρ N a w ho hp => by
    have h1 := hp.ops x (by simp [Op.operands])
    rw [hx] at h1
    obtain ⟨g, hρ, e⟩ := h1
    rw [nth_eq] at hb
    obtain ⟨g', arr, e1, _, hh, hvs⟩ := hp.bl _ _ _ hb hρ
    simp only [Value.pointer.injEq, Option.some.injEq, Addr.mk.injEq, and_true] at e1
    subst e1
    obtain ⟨u, hu, hvu⟩ := VRs.get hvs off v hv
    rw [Array.getElem?_toList] at hu
    have hc : w.cell? ⟨g, off, none⟩ = some u := (cell_of_row w g off arr bt (0, 0) hh).trans hu
    exact ⟨u, by simp [execOp, ho, e, Instr.loadAt, Instr.sureAddr, loadVar, ht.run_isAgg, hg, hc], hvu⟩
theorem told_load_agg {t : Nat} {ti : TI} {x : Operand} {i off bt : Nat} {cs : List AV} (ht : TyOK P t ti) (hg : ti.isAgg = true) (hx : S.ev x = .ptr i off) (hb : nth S.hp i = some (.cells bt cs)) (hl : Nat.ble (off + ti.size) cs.length = true) : Told P H B S (.load t x) (.agg ((cs.drop off).take ti.size)) [] :=
  Told.pure fun o ρ N a w ho hp => by
    have h1 := hp.ops x (by simp [Op.operands])
    rw [hx] at h1
    obtain ⟨g, hρ, e⟩ := h1
    rw [nth_eq] at hb
    obtain ⟨g', arr, e1, _, hh, hvs⟩ := hp.bl _ _ _ hb hρ
    simp only [Value.pointer.injEq, Option.some.injEq, Addr.mk.injEq, and_true] at e1
    subst e1
    have hl' := Nat.le_of_ble_eq_true hl
    have hal : cs.length = arr.size := by rw [hvs.length, Array.length_toList]
    have hlen : ((arr.toList.drop off).take ti.size).length = ti.size := by simp; omega
    have hrun := run_loadCells_list (P := P) w ⟨g, off, none⟩ ((arr.toList.drop off).take ti.size) (fun j u hj => by
      have hjl := (List.getElem?_eq_some_iff.1 hj).1
      rw [List.getElem?_take, if_pos (by omega), List.getElem?_drop, Array.getElem?_toList] at hj
      have : (⟨g, off, none⟩ : Addr).add j = ⟨g, off + j, none⟩ := by unfold Addr.add; split <;> simp_all
      rw [this]
      exact (cell_of_row w g (off + j) arr bt (0, 0) hh).trans hj)
    rw [hlen] at hrun
    refine ⟨.agg ((arr.toList.drop off).take ti.size).toArray, ?_, _, rfl, VRs.take _ (VRs.drop _ hvs)⟩
    simp [execOp, ho, e, Instr.loadAt, Instr.sureAddr, loadVar, ht.run_isAgg, hg, ht.run_sizeOf, hrun]
theorem FieldsOK.get {P : Program} : ∀ {fs : List Field} {xs : List (Nat × Nat × Bool)} (h : FieldsOK P fs xs) (i : Nat) {x : Nat × Nat × Bool}, nth xs i = some x → ∃ f, fs[i]? = some f ∧ FieldOK P f x
  | [], _, h, i, x, hx => by simp only [FieldsOK] at h; subst h; simp [nth] at hx
  | f :: fs, _, h, 0, x, hx => by
    simp only [FieldsOK] at h; obtain ⟨y, ys, rfl, h1, h2⟩ := h
    simp only [nth, Option.some.injEq] at hx; subst hx; exact ⟨f, rfl, h1⟩
  | f :: fs, _, h, i + 1, x, hx => by
    simp only [FieldsOK] at h; obtain ⟨y, ys, rfl, h1, h2⟩ := h
    simp only [nth] at hx
    simpa using FieldsOK.get h2 i hx
theorem FieldOK.run_sizeOf {f : Field} {x : Nat × Nat × Bool} (h : FieldOK P f x) (w : World) : (sizeOf f.type).run P w = .ok x.2.1 w := by
  obtain ⟨_, h2, _⟩ := h
  obtain ⟨i, hi, hs⟩ := Option.map_eq_some_iff.1 h2
  simp [sizeOf, typeInfo, hi, hs]
theorem FieldOK.run_isAgg {f : Field} {x : Nat × Nat × Bool} (h : FieldOK P f x) (w : World) : (isAgg f.type).run P w = .ok x.2.2 w := by
  obtain ⟨_, _, h3⟩ := h
  obtain ⟨d, hd, hs⟩ := Option.map_eq_some_iff.1 h3
  simp only [isAgg, Sem.run_bind, run_underlying hd, Result.andThen]
  rw [← hs]
  cases d <;> rfl
theorem told_fieldAddr {t f i off fo s : Nat} {x : Operand} {fs : List (Nat × Nat × Bool)} {g : Bool} {ti : TI} (ht : TyOK P t ti) (hd : ti.d = .struct fs) (hx : S.ev x = .ptr i off) (hf : nth fs f = some (fo, s, g)) (hs : Nat.ble 1 s = true) : Told P H B S (.fieldAddr t x f) (.ptr i (off + fo)) [] :=
  Told.pure fun o ρ N a w ho hp => by
    have h1 := hp.ops x (by simp [Op.operands])
    rw [hx] at h1
    obtain ⟨g', hρ, e⟩ := h1
    have hde := ht.desc
    rw [hd] at hde
    obtain ⟨fields, hu, hfs⟩ := hde
    obtain ⟨fl, hfl, hok⟩ := hfs.get f hf
    rw [Array.getElem?_toList] at hfl
    have hs' := Nat.le_of_ble_eq_true hs
    have hsz := hok.run_sizeOf w
    have hoff := hok.1
    simp only at hsz hoff
    refine ⟨.pointer (some ⟨g', off + fo, none⟩), ?_, g', hρ, rfl⟩
    have hadd : (⟨g', off, none⟩ : Addr).add fl.offset = ⟨g', off + fo, none⟩ := by rw [hoff]; unfold Addr.add; split <;> simp_all
    simp [execOp, ho, e, Instr.fieldAt, run_underlying hu, hfl, Instr.sureAddr, fieldPlace, hsz, show s ≠ 0 from by omega, hadd]
theorem nth_drop : ∀ (cs : List Cell) (n i : Nat), nth (cs.drop n) i = nth cs (n + i) := by
  intro cs n i
  rw [nth_eq, nth_eq, List.getElem?_drop]
theorem told_fieldAddr_prec {t f fo s : Nat} {x : Operand} {fs : List (Nat × Nat × Bool)} {g : Bool} {cs : List Cell} {ti : TI} (ht : TyOK P t ti) (hd : ti.d = .struct fs) (hx : S.ev x = .prec cs) (hf : nth fs f = some (fo, s, g)) (hs : Nat.ble 1 s = true) : Told P H B S (.fieldAddr t x f) (.prec (cs.drop fo)) [] :=
  Told.pure fun o ρ N a w ho hp => by
    have h1 := hp.ops x (by simp [Op.operands])
    rw [hx] at h1
    obtain ⟨ad, e, hN, hc⟩ := h1
    have hde := ht.desc
    rw [hd] at hde
    obtain ⟨fields, hu, hfs⟩ := hde
    obtain ⟨fl, hfl, hok⟩ := hfs.get f hf
    rw [Array.getElem?_toList] at hfl
    have hs' := Nat.le_of_ble_eq_true hs
    have hsz := hok.run_sizeOf w
    have hoff := hok.1
    simp only at hsz hoff
    refine ⟨.pointer (some (ad.add fo)), ?_, ad.add fo, rfl, by rw [add_block]; exact hN, fun i c hi => ?_⟩
    · simp [execOp, ho, e, Instr.fieldAt, run_underlying hu, hfl, Instr.sureAddr, fieldPlace, hsz, show s ≠ 0 from by omega, hoff]
    · rw [nth_drop] at hi
      rw [add_add]
      exact hc _ c hi
theorem told_field_cell {t f fo s : Nat} {x : Operand} {fs : List (Nat × Nat × Bool)} {cs : List AV} {v : AV} {ti : TI} (ht : TyOK P t ti) (hd : ti.d = .struct fs) (hx : S.ev x = .agg cs) (hf : nth fs f = some (fo, s, false)) (hv : nth cs fo = some v) : Told P H B S (.field t x f) v [] :=
  Told.pure fun o ρ N a w ho hp => by
    have h1 := hp.ops x (by simp [Op.operands])
    rw [hx] at h1
    obtain ⟨vs, e, hvs⟩ := h1
    have hde := ht.desc
    rw [hd] at hde
    obtain ⟨fields, hu, hfs⟩ := hde
    obtain ⟨fl, hfl, hok⟩ := hfs.get f hf
    rw [Array.getElem?_toList] at hfl
    obtain ⟨u, hu', hvu⟩ := VRs.get hvs fo v hv
    rw [Array.getElem?_toList] at hu'
    have hg := hok.run_isAgg w
    have hoff := hok.1
    simp only at hg hoff
    exact ⟨u, by simp [execOp, ho, e, Instr.field, run_underlying hu, hfl, asAgg, part, hg, hoff, hu'], hvu⟩
theorem told_field_agg {t f fo s : Nat} {x : Operand} {fs : List (Nat × Nat × Bool)} {cs : List AV} {ti : TI} (ht : TyOK P t ti) (hd : ti.d = .struct fs) (hx : S.ev x = .agg cs) (hf : nth fs f = some (fo, s, true)) (hl : Nat.ble (fo + s) cs.length = true) : Told P H B S (.field t x f) (.agg ((cs.drop fo).take s)) [] :=
  Told.pure fun o ρ N a w ho hp => by
    have h1 := hp.ops x (by simp [Op.operands])
    rw [hx] at h1
    obtain ⟨vs, e, hvs⟩ := h1
    have hde := ht.desc
    rw [hd] at hde
    obtain ⟨fields, hu, hfs⟩ := hde
    obtain ⟨fl, hfl, hok⟩ := hfs.get f hf
    rw [Array.getElem?_toList] at hfl
    have hg := hok.run_isAgg w
    have hoff := hok.1
    have hsz := hok.run_sizeOf w
    simp only at hg hoff hsz
    refine ⟨.agg (vs.extract fo (fo + s)), by simp [execOp, ho, e, Instr.field, run_underlying hu, hfl, asAgg, part, hg, hoff, hsz], _, rfl, ?_⟩
    have : (vs.extract fo (fo + s)).toList = (vs.toList.drop fo).take s := by
      rw [Array.toList_extract]
      simp [List.extract]
    rw [this]
    exact VRs.take _ (VRs.drop _ hvs)
theorem told_index_ro {t e b : Nat} {k k' : IntKind} {x y : Operand} {l : List Int} {n : Int} (hr : IntRow P t e k b) (hx : S.ev x = .ro k' l) {ky : IntKind} (hy : S.ev y = .int ky n) (h0 : 0 ≤ n) (h1 : n < (l.length : Int)) : Told P H B S (.indexAddr t x y) (.pro k' (rd l n)) [] :=
  Told.pure fun o ρ N a w ho hp => by
    have hv := hp.ops x (by simp [Op.operands])
    have hi := hp.ops y (by simp [Op.operands])
    rw [hx] at hv; rw [hy] at hi
    have ei := VR_int hi
    obtain ⟨A, cp, e1, _, hrd⟩ := hv
    obtain ⟨ad, rfl, hN, hc⟩ := hrd (by omega)
    have hcell := hc n.toNat (by omega)
    refine ⟨.pointer (some (ad.add n.toNat)), ?_, _, rfl, by rw [add_block]; exact hN, hcell⟩
    simp [execOp, ho, e1, ei, Instr.indexAt, asIntOf, run_underlying hr.row, h0, h1, hr.run_sizeOf]
theorem recElem_some (hT : TOK P c.T) {t s : Nat} (h : recElem c t s = true) : ∃ e, P.underlying t = some (.slice e) ∧ (∀ w : World, (sizeOf e).run P w = .ok s w) ∧ 1 ≤ s := by
  unfold recElem at h
  split at h
  · rename_i e _ _ _ _ hf
    split at h
    · rename_i ti he
      simp only [Bool.and_eq_true] at h
      have h1 := Nat.eq_of_beq_eq_true h.1
      refine ⟨e, (hT _ _ hf).desc, fun w => ?_, Nat.le_of_ble_eq_true h.2⟩
      rw [← h1]
      exact (hT _ _ he).run_sizeOf w
    · cases h
  · cases h
theorem isSlice_some (hT : TOK P c.T) {t : Nat} (h : isSlice c t = true) : ∃ e, P.underlying t = some (.slice e) := by
  unfold isSlice at h
  split at h
  · rename_i hf
    exact ⟨_, (hT _ _ hf).desc⟩
  · cases h
theorem told_index_recs {t e s : Nat} {x y : Operand} {m n : Int} {cols : List Col} (hu : P.underlying t = some (.slice e)) (hs : ∀ w : World, (sizeOf e).run P w = .ok s w) (hl : s = cols.length) (hx : S.ev x = .recs m cols) {ky : IntKind} (hy : S.ev y = .int ky n) (h0 : 0 ≤ n) (h1 : n < m) : Told P H B S (.indexAddr t x y) (.prec (colsAt n cols)) [] :=
  Told.pure fun o ρ N a w ho hp => by
    have hv := hp.ops x (by simp [Op.operands])
    have hi := hp.ops y (by simp [Op.operands])
    rw [hx] at hv; rw [hy] at hi
    have ei := VR_int hi
    obtain ⟨A, cp, e1, hm0, _, hrd⟩ := hv
    obtain ⟨ad, rfl, hN, hc⟩ := hrd (by omega)
    refine ⟨.pointer (some (ad.add (n.toNat * s))), ?_, _, rfl, by rw [add_block]; exact hN, hl ▸ hc n h0 h1⟩
    obtain ⟨M, rfl⟩ := Int.eq_ofNat_of_zero_le hm0
    rw [Int.toNat_natCast] at e1
    simp [execOp, ho, e1, ei, Instr.indexAt, asIntOf, run_underlying hu, h0, h1, hs]
theorem told_index_froz {t e b i : Nat} {k k' ky : IntKind} {x y : Operand} {l : List Int} {n : Int} (hr : IntRow P t e k b) (hx : S.ev x = .own i) (hfz : nth S.hp i = some (.froz k' l)) (hy : S.ev y = .int ky n) (h0 : 0 ≤ n) (h1 : n < (l.length : Int)) : Told P H B S (.indexAddr t x y) (.pro k' (rd l n)) [] :=
  Told.pure fun o ρ N a w ho hp => by
    have hv := hp.ops x (by simp [Op.operands])
    have hi := hp.ops y (by simp [Op.operands])
    rw [hx] at hv; rw [hy] at hi
    have ei := VR_int hi
    rw [nth_eq] at hfz
    obtain ⟨A, cp, e1, _, hrd⟩ := hp.bl _ _ _ hfz hv.1
    obtain ⟨ad, rfl, hN, hc⟩ := hrd (by omega)
    have hcell := hc n.toNat (by omega)
    refine ⟨.pointer (some (ad.add n.toNat)), ?_, _, rfl, by rw [add_block]; exact hN, hcell⟩
    simp [execOp, ho, e1, ei, Instr.indexAt, asIntOf, run_underlying hr.row, h0, h1, hr.run_sizeOf]
theorem told_index_own {t e b i e' : Nat} {k k' ky : IntKind} {x y : Operand} {l : List Int} {n : Int} (hr : IntRow P t e k b) (hx : S.ev x = .own i) (hb : nth S.hp i = some (.ints e' k' l)) (hy : S.ev y = .int ky n) (h0 : 0 ≤ n) (h1 : n < (l.length : Int)) : Told P H B S (.indexAddr t x y) (.pown i n) [] :=
  Told.pure fun o ρ N a w ho hp => by
    have hv := hp.ops x (by simp [Op.operands])
    have hi := hp.ops y (by simp [Op.operands])
    rw [hx] at hv; rw [hy] at hi
    have ei := VR_int hi
    rw [nth_eq] at hb
    have hown : w.ownsRow B.lo e' 1 (a.eval x) l.length (l.map (Value.int k')) := hp.bl _ _ _ hb hv.1
    obtain ⟨g, cap, ev, _, _⟩ := hown.form (by omega)
    refine ⟨.pointer (some ⟨g, n.toNat, none⟩), ?_, g, 0, l.length, cap, by rw [← ev]; exact hv.1, h0, by omega, by rw [Nat.zero_add]⟩
    simp [execOp, ho, ev, ei, Instr.indexAt, asIntOf, run_underlying hr.row, h0, h1, hr.run_sizeOf, add_plain]
theorem told_index_rws {t e b i e' : Nat} {k ky : IntKind} {x y : Operand} {ls : List (List Int)} {n : Int} (hr : RowRow P t e b) (hx : S.ev x = .own i) (hb : nth S.hp i = some (.rws e' k ls)) (hy : S.ev y = .int ky n) (h0 : 0 ≤ n) (h1 : n < (ls.length : Int)) : Told P H B S (.indexAddr t x y) (.pown i n) [] :=
  Told.pure fun o ρ N a w ho hp => by
    have hv := hp.ops x (by simp [Op.operands])
    have hi := hp.ops y (by simp [Op.operands])
    rw [hx] at hv; rw [hy] at hi
    have ei := VR_int hi
    rw [nth_eq] at hb
    obtain ⟨vs, hown, _⟩ := hp.bl _ _ _ hb hv.1
    obtain ⟨g, cap, ev, _, _⟩ := hown.form (by omega)
    refine ⟨.pointer (some ⟨g, n.toNat, none⟩), ?_, g, 0, ls.length, cap, by rw [← ev]; exact hv.1, h0, by omega, by rw [Nat.zero_add]⟩
    simp [execOp, ho, ev, ei, Instr.indexAt, asIntOf, run_underlying hr.row, h0, h1, hr.run_sizeOf, add_plain]
theorem told_index_fns {t e b i e' : Nat} {ky : IntKind} {x y : Operand} {fs : List (Option Nat)} {n : Int} (hr : FnRow P t e b) (hx : S.ev x = .own i) (hb : nth S.hp i = some (.fns e' fs)) (hy : S.ev y = .int ky n) (h0 : 0 ≤ n) (h1 : n < (fs.length : Int)) : Told P H B S (.indexAddr t x y) (.pown i n) [] :=
  Told.pure fun o ρ N a w ho hp => by
    have hv := hp.ops x (by simp [Op.operands])
    have hi := hp.ops y (by simp [Op.operands])
    rw [hx] at hv; rw [hy] at hi
    have ei := VR_int hi
    rw [nth_eq] at hb
    obtain ⟨vs, hown, _⟩ := hp.bl _ _ _ hb hv.1
    obtain ⟨g, cap, ev, _, _⟩ := hown.form (by omega)
    refine ⟨.pointer (some ⟨g, n.toNat, none⟩), ?_, g, 0, fs.length, cap, by rw [← ev]; exact hv.1, h0, by omega, by rw [Nat.zero_add]⟩
    simp [execOp, ho, ev, ei, Instr.indexAt, asIntOf, run_underlying hr.row, h0, h1, hr.run_sizeOf, add_plain]
theorem told_index_room {t e b i e' : Nat} {k k' ky : IntKind} {x y : Operand} {l : List Int} {n c' : Int} (hr : IntRow P t e k b) (hx : S.ev x = .own i) (hb : nth S.hp i = some (.room e' k' l c')) (hy : S.ev y = .int ky n) (h0 : 0 ≤ n) (h1 : n < (l.length : Int)) : Told P H B S (.indexAddr t x y) (.pown i n) [] :=
  Told.pure fun o ρ N a w ho hp => by
    have hv := hp.ops x (by simp [Op.operands])
    have hi := hp.ops y (by simp [Op.operands])
    rw [hx] at hv; rw [hy] at hi
    have ei := VR_int hi
    rw [nth_eq] at hb
    have hown : w.ownsRow B.lo e' 1 (a.eval x) l.length (l.map (Value.int k')) := (hp.bl _ _ _ hb hv.1).1
    obtain ⟨g, cap, ev, _, _⟩ := hown.form (by omega)
    refine ⟨.pointer (some ⟨g, n.toNat, none⟩), ?_, g, 0, l.length, cap, by rw [← ev]; exact hv.1, h0, by omega, by rw [Nat.zero_add]⟩
    simp [execOp, ho, ev, ei, Instr.indexAt, asIntOf, run_underlying hr.row, h0, h1, hr.run_sizeOf, add_plain]
theorem told_index_bor {t e b i : Nat} {k k' ky : IntKind} {x y : Operand} {l : List Int} {n : Int} (hr : IntRow P t e k b) (hx : S.ev x = .own i) (hb : nth S.hp i = some (.bor k' l)) (hy : S.ev y = .int ky n) (h0 : 0 ≤ n) (h1 : n < (l.length : Int)) : Told P H B S (.indexAddr t x y) (.pown i n) [] :=
  Told.pure fun o ρ N a w ho hp => by
    have hv := hp.ops x (by simp [Op.operands])
    have hi := hp.ops y (by simp [Op.operands])
    rw [hx] at hv; rw [hy] at hi
    have ei := VR_int hi
    rw [nth_eq] at hb
    obtain ⟨⟨g, _, _, _, pre, _⟩, c, _, _, ev, hc, _, hh⟩ := hp.bl _ _ _ hb hv.1
    dsimp only at ev hh
    have hadd : (⟨g, pre.length, none⟩ : Addr).add n.toNat = ⟨g, pre.length + n.toNat, none⟩ := by unfold Addr.add; split <;> simp_all
    refine ⟨.pointer (some ⟨g, pre.length + n.toNat, none⟩), ?_, g, pre.length, l.length, c, by rw [← ev]; exact hv.1, h0, by omega, rfl⟩
    simp [execOp, ho, ev, ei, Instr.indexAt, asIntOf, run_underlying hr.row, h0, h1, hr.run_sizeOf, hadd]
theorem told_make {t e b : Nat} {k : IntKind} {x y : Operand} {n m : Int} (hr : IntRow P t e k b) (hx : S.ev x = .int .i64 n) (hy : S.ev y = .int .i64 m) (hb : 1 ≤ b) (h0 : 0 ≤ n) (h1 : n ≤ m) (h2 : m.toNat ≤ lim b) : Told P H B S (.makeSlice t x y) (.own S.hp.length) [.ints e k (List.replicate n.toNat 0)] :=
  Told.new fun o ρ N a w ho hp => by
    have hv := hp.ops x (by simp [Op.operands])
    have hi := hp.ops y (by simp [Op.operands])
    rw [hx] at hv; rw [hy] at hi
    have ev := VR_int hv
    have ei := VR_int hi
    obtain ⟨i, hinfo, hs1, hs2, hs3⟩ := hr.info
    have hlim : b * m.toNat ≤ 281474976710656 := by
      have := Nat.mul_le_mul_left b h2
      exact Nat.le_trans this (by unfold lim; rw [Nat.mul_comm]; exact Nat.div_mul_le_self _ _)
    have hm : m.toNat ≤ 281474976710656 := Nat.le_trans (Nat.le_mul_of_pos_left _ hb) hlim
    have hmm : (m.toNat : Int) = m := Int.toNat_of_nonneg (by omega)
    have hrun := run_make (P := P) w t e i (.int k 0) hr.row hinfo hs3 .i64 .i64 n m h0 h1 (by rw [hs2, ← hmm, ← Int.natCast_mul]; omega) (by omega)
    rw [hs1, Nat.mul_one] at hrun
    refine ⟨.slice (some ⟨w.heap.size, 0, none⟩) n.toNat m.toNat, .cells (madeCells #[.int k 0] m.toNat) e, .slice (some ⟨w.heap.size, 0, none⟩) n.toNat m.toNat, ?_, fun ρ' hext hself => ⟨⟨hself, _, _, _, rfl⟩, ?_⟩, fun g hg => by simpa [hand] using hg.symm⟩
    · simp [execOp, ho, ev, ei, hrun, Value.cells]
    · show World.ownsRow _ _ _ _ _ _ _
      have hcs : (madeCells #[.int k 0] m.toNat).toList = List.replicate m.toNat (.int k 0) := toList_madeCells_one _ _
      have hsz : (madeCells #[.int k 0] m.toNat).size = m.toNat := by rw [← Array.length_toList, hcs, List.length_replicate]
      refine ⟨by simp, .inr ⟨w.heap.size, m.toNat, madeCells #[.int k 0] m.toNat, by simp, hp.hb, heap_alloc_new w _, ?_, ?_, ?_, ?_⟩⟩
      · simp; omega
      · unfold maxLen; omega
      · rw [hsz, Nat.mul_one]
      · rw [hcs]
        simp [List.take_replicate]
        omega
theorem told_room {t e b : Nat} {k : IntKind} {x y : Operand} {n m : Int} (hr : IntRow P t e k b) (hx : S.ev x = .int .i64 n) (hy : S.ev y = .int .i64 m) (hb : 1 ≤ b) (h0 : 0 ≤ n) (h1 : n ≤ m) (h2 : m.toNat ≤ lim b) : Told P H B S (.makeSlice t x y) (.own S.hp.length) [.room e k (List.replicate n.toNat 0) m] :=
  Told.new fun o ρ N a w ho hp => by
    have hv := hp.ops x (by simp [Op.operands])
    have hi := hp.ops y (by simp [Op.operands])
    rw [hx] at hv; rw [hy] at hi
    have ev := VR_int hv
    have ei := VR_int hi
    obtain ⟨i, hinfo, hs1, hs2, hs3⟩ := hr.info
    have hlim : b * m.toNat ≤ 281474976710656 := by
      have := Nat.mul_le_mul_left b h2
      exact Nat.le_trans this (by unfold lim; rw [Nat.mul_comm]; exact Nat.div_mul_le_self _ _)
    have hm : m.toNat ≤ 281474976710656 := Nat.le_trans (Nat.le_mul_of_pos_left _ hb) hlim
    have hmm : (m.toNat : Int) = m := Int.toNat_of_nonneg (by omega)
    have hrun := run_make (P := P) w t e i (.int k 0) hr.row hinfo hs3 .i64 .i64 n m h0 h1 (by rw [hs2, ← hmm, ← Int.natCast_mul]; omega) (by omega)
    rw [hs1, Nat.mul_one] at hrun
    refine ⟨.slice (some ⟨w.heap.size, 0, none⟩) n.toNat m.toNat, .cells (madeCells #[.int k 0] m.toNat) e, .slice (some ⟨w.heap.size, 0, none⟩) n.toNat m.toNat, ?_, fun ρ' hext hself => ⟨⟨hself, _, _, _, rfl⟩, ?_, _, _, by rw [List.length_replicate], Int.le_of_eq hmm.symm⟩, fun g hg => by simpa [hand] using hg.symm⟩
    · simp [execOp, ho, ev, ei, hrun, Value.cells]
    · have hcs : (madeCells #[.int k 0] m.toNat).toList = List.replicate m.toNat (.int k 0) := toList_madeCells_one _ _
      have hsz : (madeCells #[.int k 0] m.toNat).size = m.toNat := by rw [← Array.length_toList, hcs, List.length_replicate]
      refine ⟨by simp, .inr ⟨w.heap.size, m.toNat, madeCells #[.int k 0] m.toNat, by simp, hp.hb, heap_alloc_new w _, ?_, ?_, ?_, ?_⟩⟩
      · simp; omega
      · unfold maxLen; omega
      · rw [hsz, Nat.mul_one]
      · rw [hcs]
        simp [List.take_replicate]
        omega
/-- Rows of the call's own, as records that are read. -/
theorem rws_rec {ρ : Nat → Option Value} {N : Nat → Prop} {w : World} {u : Value} {e : Nat} {k : IntKind} {ls : List (List Int)} (h : BR B ρ N w u (.rws e k ls)) : RecV (fun g => N g ∨ hand u = some g) w (lnr ls) [.row k ls] u := by
  obtain ⟨vs, hown, hvs⟩ := h
  have hlen : lnr ls = (ls.length : Int) := lnr_eq ls
  obtain ⟨A, c, rfl, hA, hc⟩ := ownsRow_slice hown
  have hcap : ls.length ≤ c := by
    rcases hown.2 with ⟨hv, hl⟩ | ⟨g, cap, cur, hv, _, _, hnc, _⟩
    · omega
    · injection hv with _ _ hv; subst hv; exact hnc
  refine ⟨A, c, by rw [hlen, Int.toNat_natCast], by omega, by omega, fun h0 => ?_⟩
  obtain ⟨g, rfl⟩ := hA (by omega)
  refine ⟨_, rfl, .inr rfl, fun j hj0 hj => ?_⟩
  intro i c' hc'
  have hi : i = 0 ∧ c' = .row k (rdr ls j) := by
    cases i with
    | zero => simp only [colsAt, nth, Option.some.injEq] at hc'; exact ⟨rfl, hc'.symm⟩
    | succ i => simp [colsAt, nth] at hc'
  obtain ⟨rfl, rfl⟩ := hi
  have hjl : j.toNat < ls.length := by omega
  obtain ⟨v, hv, hvr⟩ := VRs.get hvs j.toNat _ (ros_nth (k := k) hjl)
  refine ⟨v, ?_, ?_⟩
  · rw [add_add]
    have := hc _ rfl j.toNat v hv
    simpa using this
  · exact RoV.keep (N' := fun q => N q ∨ hand (.slice (some ⟨g, 0, none⟩) ls.length c) = some q) hvr (fun _ h => Or.inl h) (fun _ _ => rfl)
/-- A cut. -/
theorem acut_some {l : List Int} {lo hi : Option AV} {K : List Int → Option α} (h : acut l lo hi K = some r) : ∃ b e, b ≤ e ∧ e ≤ l.length ∧ K ((l.take e).drop b) = some r ∧
    (lo = none ∧ b = 0 ∨ ∃ k, lo = some (.int k (b : Int))) ∧ (hi = none ∧ e = l.length ∨ ∃ k, hi = some (.int k (e : Int))) := by
  unfold acut at h
  simp only [ln_eq] at h
  split at h
  · exact ⟨0, l.length, Nat.zero_le _, Nat.le_refl _, by simpa using h, .inl ⟨rfl, rfl⟩, .inl ⟨rfl, rfl⟩⟩
  · rename_i k e
    split at h
    · rename_i h0
      split at h
      · rename_i h1
        exact ⟨0, e.toNat, Nat.zero_le _, by omega, by simpa using h, .inl ⟨rfl, rfl⟩, .inr ⟨k, by rw [Int.toNat_of_nonneg h0]⟩⟩
      · cases h
    · cases h
  · rename_i k b
    split at h
    · rename_i h0
      split at h
      · rename_i h1
        exact ⟨b.toNat, l.length, by omega, Nat.le_refl _, by simpa using h, .inr ⟨k, by rw [Int.toNat_of_nonneg h0]⟩, .inl ⟨rfl, rfl⟩⟩
      · cases h
    · cases h
  · rename_i k b k' e
    split at h
    · rename_i h0
      split at h
      · rename_i h1
        split at h
        · rename_i h2
          split at h
          · rename_i h3
            exact ⟨b.toNat, e.toNat, by omega, by omega, h, .inr ⟨k, by rw [Int.toNat_of_nonneg h2]⟩, .inr ⟨k', by rw [Int.toNat_of_nonneg h0]⟩⟩
          · cases h
        · cases h
      · cases h
    · cases h
  · cases h
theorem VR_of_ev {ρ : Nat → Option Value} {N : Nat → Prop} {w : World} {a : Act} {x : Option Operand} {k : IntKind} {n : Int} (hv : ∀ z, x = some z → VR ρ N w (S.ev z) (a.eval z)) (h : evo S x = some (.int k n)) : x.map a.eval = some (.int k n) := by
  cases x with
  | none => cases h
  | some z =>
    simp only [evo, Option.some.injEq] at h
    have := hv z rfl
    rw [h] at this
    rw [Option.map_some, VR_int this]
theorem evo_none {x : Option Operand} {a : Act} (h : evo S x = none) : x.map a.eval = none := by
  cases x with
  | none => rfl
  | some z => cases h
theorem slice_run {t e b : Nat} {k : IntKind} (hr : IntRow P t e k b) {w : World} {l : List Int} {A : Option Addr} {cp : Nat} {lo hi : Option Value} {bg en : Nat} (hbe : bg ≤ en) (hel : en ≤ l.length) (hlc : l.length ≤ cp)
    (hlo : lo = none ∧ bg = 0 ∨ ∃ k, lo = some (.int k (bg : Int))) (hhi : hi = none ∧ en = l.length ∨ ∃ k, hi = some (.int k (en : Int))) :
    (Instr.sliceAt t (.slice A l.length cp) lo hi none).run P w = .ok (sliced A bg en cp 1) w := by
  obtain ⟨he, hrow⟩ := hr.el
  rw [run_sliceAt_slice w t _ _ _ _ hrow]
  have hsz : (sizeOf (P.elem t)).run P w = .ok 1 w := by rw [he]; exact hr.run_sizeOf w
  rcases hlo with ⟨rfl, rfl⟩ | ⟨kl, rfl⟩
  · rcases hhi with ⟨rfl, rfl⟩ | ⟨kh, rfl⟩
    · rw [run_slice_all w t A _ cp hrow, hsz]; rfl
    · rw [run_slice_h w t A _ cp hrow kh en (by omega) (by omega), hsz]; simp
  · rcases hhi with ⟨rfl, rfl⟩ | ⟨kh, rfl⟩
    · rw [run_slice_l w t A _ cp hrow kl bg (by omega) (by omega), hsz]; simp
    · rw [run_slice_lh w t A _ cp hrow kl kh bg en (by omega) (by omega) (by omega), hsz]; simp
theorem told_slice {t e b : Nat} {k k' : IntKind} {x : Operand} {lo hi : Option Operand} {l : List Int} {bg en : Nat} (hr : IntRow P t e k b) (hx : S.ev x = .ro k' l ∨ (S.ev x = .nil ∧ l = []) ∨ ∃ i, S.ev x = .own i ∧ nth S.hp i = some (.froz k' l)) (hbe : bg ≤ en) (hel : en ≤ l.length)
    (hlo : evo S lo = none ∧ bg = 0 ∨ ∃ k, evo S lo = some (.int k (bg : Int))) (hhi : evo S hi = none ∧ en = l.length ∨ ∃ k, evo S hi = some (.int k (en : Int))) :
    Told P H B S (.slice t x lo hi none) (.ro k' ((l.take en).drop bg)) [] :=
  Told.pure fun o ρ N a w ho hp => by
    have hv := hp.ops x (by simp [Op.operands])
    have hv' : RoV N w k' l (a.eval x) := by
      rcases hx with hx | ⟨hx, rfl⟩ | ⟨i, hx, hb⟩
      · rw [hx] at hv; exact hv
      rotate_left
      · rw [hx] at hv; rw [nth_eq] at hb; exact hp.bl _ _ _ hb hv.1
      · rw [hx] at hv
        have : a.eval x = .slice none 0 0 := hv
        rw [this]
        exact ⟨none, 0, rfl, Nat.le_refl _, fun h => by simp at h⟩
    obtain ⟨A, cp, e1, hc, h3⟩ := id hv'
    rw [e1] at hv'
    refine ⟨sliced A bg en cp 1, ?_, RoV.cut hv' hbe hel (by omega) 1 rfl⟩
    have hl : lo.map a.eval = none ∧ bg = 0 ∨ ∃ k, lo.map a.eval = some (.int k (bg : Int)) := by
      rcases hlo with ⟨h, h'⟩ | ⟨k, h⟩
      · exact .inl ⟨evo_none h, h'⟩
      · exact .inr ⟨k, VR_of_ev (ρ := ρ) (N := N) (w := w) (fun z hz => hp.ops z (by subst hz; simp [Op.operands])) h⟩
    have hh : hi.map a.eval = none ∧ en = l.length ∨ ∃ k, hi.map a.eval = some (.int k (en : Int)) := by
      rcases hhi with ⟨h, h'⟩ | ⟨k, h⟩
      · exact .inl ⟨evo_none h, h'⟩
      · exact .inr ⟨k, VR_of_ev (ρ := ρ) (N := N) (w := w) (fun z hz => hp.ops z (by subst hz; simp [Op.operands])) h⟩
    simp [execOp, ho, e1, slice_run (P := P) hr (w := w) (A := A) hbe hel hc hl hh]
/-- Where a window stands. -/
theorem awin_some {l : List Int} {lo hi : Option AV} {K : Int → Int → Option α} (h : awin l lo hi K = some r) : ∃ b e : Nat, b ≤ e ∧ e ≤ l.length ∧ K b e = some r ∧
    (lo = none ∧ b = 0 ∨ ∃ k, lo = some (.int k (b : Int))) ∧ (hi = none ∧ e = l.length ∨ ∃ k, hi = some (.int k (e : Int))) := by
  unfold awin at h
  simp only [ln_eq] at h
  split at h
  · exact ⟨0, l.length, Nat.zero_le _, Nat.le_refl _, h, .inl ⟨rfl, rfl⟩, .inl ⟨rfl, rfl⟩⟩
  · rename_i k e
    split at h
    · rename_i h0
      split at h
      · rename_i h1
        exact ⟨0, e.toNat, Nat.zero_le _, by omega, by rw [Int.toNat_of_nonneg h0]; exact h, .inl ⟨rfl, rfl⟩, .inr ⟨k, by rw [Int.toNat_of_nonneg h0]⟩⟩
      · cases h
    · cases h
  · rename_i k b
    split at h
    · rename_i h0
      split at h
      · rename_i h1
        exact ⟨b.toNat, l.length, by omega, Nat.le_refl _, by rw [Int.toNat_of_nonneg h0]; exact h, .inr ⟨k, by rw [Int.toNat_of_nonneg h0]⟩, .inl ⟨rfl, rfl⟩⟩
      · cases h
    · cases h
  · rename_i k b k' e
    split at h
    · rename_i h0
      split at h
      · rename_i h1
        split at h
        · rename_i h2
          split at h
          · rename_i h3
            exact ⟨b.toNat, e.toNat, by omega, by omega, by rw [Int.toNat_of_nonneg h0, Int.toNat_of_nonneg h2]; exact h, .inr ⟨k, by rw [Int.toNat_of_nonneg h2]⟩, .inr ⟨k', by rw [Int.toNat_of_nonneg h0]⟩⟩
          · cases h
        · cases h
      · cases h
    · cases h
  · cases h
theorem told_win {t e b i e' : Nat} {k k' : IntKind} {x : Operand} {lo hi : Option Operand} {l : List Int} {bg en : Nat} (hr : IntRow P t e k b) (hx : S.ev x = .own i) (hb : nth S.hp i = some (.ints e' k' l)) (hbe : bg ≤ en) (hel : en ≤ l.length)
    (hlo : evo S lo = none ∧ bg = 0 ∨ ∃ k, evo S lo = some (.int k (bg : Int))) (hhi : evo S hi = none ∧ en = l.length ∨ ∃ k, evo S hi = some (.int k (en : Int))) :
    Told P H B S (.slice t x lo hi none) (.win i bg en) [] :=
  Told.pure fun o ρ N a w ho hp => by
    have hv := hp.ops x (by simp [Op.operands])
    rw [hx] at hv
    rw [nth_eq] at hb
    have hown : w.ownsRow B.lo e' 1 (a.eval x) l.length (l.map (Value.int k')) := hp.bl _ _ _ hb hv.1
    obtain ⟨A, cp, e1, hc, _⟩ := (own_at (P := P) hown).sh
    refine ⟨sliced A bg en cp 1, ?_, A, l.length, cp, by rw [← e1]; exact hv.1, by omega, by omega, by omega, by simp⟩
    have hl : lo.map a.eval = none ∧ bg = 0 ∨ ∃ k, lo.map a.eval = some (.int k (bg : Int)) := by
      rcases hlo with ⟨h, h'⟩ | ⟨k, h⟩
      · exact .inl ⟨evo_none h, h'⟩
      · exact .inr ⟨k, VR_of_ev (ρ := ρ) (N := N) (w := w) (fun z hz => hp.ops z (by subst hz; simp [Op.operands])) h⟩
    have hh : hi.map a.eval = none ∧ en = l.length ∨ ∃ k, hi.map a.eval = some (.int k (en : Int)) := by
      rcases hhi with ⟨h, h'⟩ | ⟨k, h⟩
      · exact .inl ⟨evo_none h, h'⟩
      · exact .inr ⟨k, VR_of_ev (ρ := ρ) (N := N) (w := w) (fun z hz => hp.ops z (by subst hz; simp [Op.operands])) h⟩
    simp [execOp, ho, e1, slice_run (P := P) hr (w := w) (A := A) hbe hel hc hl hh]
theorem told_slice3 {t e b : Nat} {k k' kh km : IntKind} {x : Operand} {hi mx : Option Operand} {l : List Int} {h m : Int} (hr : IntRow P t e k b) (hx : S.ev x = .ro k' l) (h0 : 0 ≤ h) (h1 : h ≤ m) (h2 : m ≤ (l.length : Int)) (hh : evo S hi = some (.int kh h)) (hm : evo S mx = some (.int km m)) :
    Told P H B S (.slice t x none hi mx) (.ro k' (l.take h.toNat)) [] :=
  Told.pure fun o ρ N a w ho hp => by
    have hv := hp.ops x (by simp [Op.operands])
    rw [hx] at hv
    obtain ⟨A, cp, e1, hc, h3⟩ := id hv
    rw [e1] at hv
    have eh := VR_of_ev (ρ := ρ) (N := N) (w := w) (a := a) (fun z hz => hp.ops z (by subst hz; simp [Op.operands])) hh
    have em := VR_of_ev (ρ := ρ) (N := N) (w := w) (a := a) (fun z hz => hp.ops z (by subst hz; simp [Op.operands])) hm
    obtain ⟨he, hrow⟩ := hr.el
    have hsz : (sizeOf (P.elem t)).run P w = .ok 1 w := by rw [he]; exact hr.run_sizeOf w
    have hcut := RoV.cut (b := 0) (e := h.toNat) (m := m.toNat) hv (Nat.zero_le _) (by omega) (by omega) 1 rfl
    rw [List.drop_zero] at hcut
    refine ⟨sliced A 0 h.toNat m.toNat 1, ?_, hcut⟩
    simp [execOp, ho, e1, eh, em, run_sliceAt_slice w t _ _ _ _ hrow, run_slice_hm w t A _ cp hrow kh km h m h0 h1 (by omega), hsz]
/-! ### blocks by parts -/
/-- The address of parts that may be read. -/
def SA (N : Nat → Prop) (w : World) (ss : List Seg) (v : Value) : Prop := ∃ g b0 mid, v = .pointer (some ⟨g, b0, none⟩) ∧ SegsV N 0 w ss mid ∧ ∀ j u, mid[j]? = some u → w.cell? ⟨g, b0 + j, none⟩ = some u
theorem rp_SA {ρ : Nat → Option Value} {N : Nat → Prop} {w : World} {i o : Nat} {b : Blk} {ss rs : List Seg} {v : Value} (hbl : ∀ i b u, S.hp[i]? = some b → ρ i = some u → BR B ρ N w u b) (hb : nth S.hp i = some b) (hi : isBlk b = some ss) (hd : segDrop ss o = some rs) (hv : VR ρ N w (.rp i o) v) : SA N w rs v := by
  rw [nth_eq] at hb
  obtain ⟨g, b0, h1, rfl⟩ := hv
  obtain ⟨g', b1, mid, h2, h3, h4, _⟩ := part_at (hbl i b _ hb h1) hi
  simp only [Value.pointer.injEq, Option.some.injEq, Addr.mk.injEq, and_true] at h2
  obtain ⟨rfl, rfl⟩ := h2
  refine ⟨g, b0 + o, mid.drop o, rfl, (h3.drop hd).1, fun j u hj => ?_⟩
  rw [List.getElem?_drop] at hj
  rw [Nat.add_assoc]
  exact h4 _ u hj
theorem pseg_SA {ρ : Nat → Option Value} {N : Nat → Prop} {w : World} {ss : List Seg} {v : Value} (hv : VR ρ N w (.pseg ss) v) : SA N w ss v := by
  obtain ⟨g, o, mid, h1, _, h3, h4⟩ := hv
  exact ⟨g, o, mid, h1, h3, h4⟩
theorem segAV_VR {ρ : Nat → Option Value} {N : Nat → Prop} {w : World} {s : Seg} {v : AV} {r : List Seg} {us : List Value} (h : segAV s = some v) (hs : SegsV N 0 w (s :: r) us) : ∃ u us', us = u :: us' ∧ VR ρ N w v u ∧ SegsV N 0 w r us' := by
  cases s with
  | int k n =>
    simp only [segAV, Option.some.injEq] at h; subst h
    obtain ⟨us', h1, h2⟩ := hs
    exact ⟨_, us', h1, rfl, h2⟩
  | bool b =>
    simp only [segAV, Option.some.injEq] at h; subst h
    obtain ⟨us', h1, h2⟩ := hs
    exact ⟨_, us', h1, rfl, h2⟩
  | row nw k l =>
    simp only [segAV, Option.some.injEq] at h; subst h
    obtain ⟨u, us', h1, h3, h2⟩ := hs
    exact ⟨u, us', h1, RoV.keep h3 (fun g hg => hg.1) (fun _ _ => rfl), h2⟩
  | arr k n l => cases h
theorem segAVs_VR {ρ : Nat → Option Value} {N : Nat → Prop} {w : World} : ∀ {ss : List Seg} {vs : List AV} {us : List Value}, segAVs ss = some vs → SegsV N 0 w ss us → VRs ρ N w vs us
  | [], vs, us, h, hs => by
    simp only [segAVs, Option.some.injEq] at h; subst h
    exact hs
  | s :: r, vs, us, h, hs => by
    simp only [segAVs] at h
    split at h
    · rename_i v vs' h1 h2
      simp only [Option.some.injEq] at h; subst h
      obtain ⟨u, us', e, h3, h4⟩ := segAV_VR (ρ := ρ) h1 hs
      exact ⟨u, us', e, h3, segAVs_VR h2 h4⟩
    · cases h
theorem sgAV_VR {ρ : Nat → Option Value} {N : Nat → Prop} {w : World} {ss : List Seg} {us : List Value} (hs : SegsV N 0 w ss us) : VR ρ N w (sgAV ss) (.agg us.toArray) := by
  unfold sgAV
  split
  · rename_i vs h
    exact ⟨_, rfl, by simpa using segAVs_VR h hs⟩
  · exact ⟨_, rfl, by simpa using hs⟩
theorem aseg_some {ss : List Seg} {g : Bool} {n : Nat} {K : AV → Option α} (h : aseg ss g n K = some r) : ∃ v, K v = some r ∧
    ((g = false ∧ ∀ ρ N w mid, SegsV N 0 w ss mid → ∃ u, mid[0]? = some u ∧ VR ρ N w v u) ∨ (g = true ∧ ∀ ρ N w mid, SegsV N 0 w ss mid → (mid.take n).length = n ∧ VR ρ N w v (.agg (mid.take n).toArray))) := by
  unfold aseg at h
  split at h
  · split at h
    · split at h
      · rename_i hv
        refine ⟨_, h, .inl ⟨rfl, fun ρ N w mid hm => ?_⟩⟩
        obtain ⟨u, us', e, h3, _⟩ := segAV_VR (ρ := ρ) hv hm
        exact ⟨u, by rw [e]; rfl, h3⟩
      · cases h
    · cases h
  · split at h
    · rename_i hv
      refine ⟨_, h, .inr ⟨rfl, fun ρ N w mid hm => ?_⟩⟩
      obtain ⟨h1, h2⟩ := hm.take hv
      exact ⟨by rw [List.length_take]; omega, sgAV_VR h1⟩
    · cases h
theorem told_load_seg {t : Nat} {ti : TI} {x : Operand} {ss : List Seg} {K : AV → List Blk → Option α} (ht : TyOK P t ti) (hx : ∀ ρ N a w, Pre B S (.load t x) ρ N a w → SA N w ss (a.eval x)) (h : aseg ss ti.isAgg ti.size (fun v => K v []) = some r) : ∃ v nb, K v nb = some r ∧ Told P H B S (.load t x) v nb := by
  obtain ⟨v, hk, hv⟩ := aseg_some h
  refine ⟨v, [], hk, Told.pure fun o ρ N a w ho hp => ?_⟩
  obtain ⟨g, b0, mid, e, h1, h2⟩ := hx ρ N a w hp
  rcases hv with ⟨hg, hv⟩ | ⟨hg, hv⟩
  · obtain ⟨u, h3, h4⟩ := hv ρ N w mid h1
    have h5 := h2 0 u h3
    rw [Nat.add_zero] at h5
    exact ⟨u, by simp [execOp, ho, e, Instr.loadAt, Instr.sureAddr, loadVar, ht.run_isAgg, hg, h5], h4⟩
  · obtain ⟨h3, h4⟩ := hv ρ N w mid h1
    have hrun := run_loadCells_list (P := P) w ⟨g, b0, none⟩ (mid.take ti.size) (fun j u hj => by
      have hjl := (List.getElem?_eq_some_iff.1 hj).1
      rw [List.getElem?_take, if_pos (by omega)] at hj
      have : (⟨g, b0, none⟩ : Addr).add j = ⟨g, b0 + j, none⟩ := by unfold Addr.add; split <;> simp_all
      rw [this]
      exact h2 j u hj)
    rw [h3] at hrun
    exact ⟨_, by simp [execOp, ho, e, Instr.loadAt, Instr.sureAddr, loadVar, ht.run_isAgg, hg, ht.run_sizeOf, hrun], h4⟩
theorem arr_cell {N : Nat → Prop} {w : World} {k : IntKind} {n : Nat} {l : List Int} {rest : List Seg} {mid : List Value} (h : SegsV N 0 w (.arr k n l :: rest) mid) {j : Nat} (hj : j < n) : mid[j]? = some (.int k (l.getD j 0)) ∧ l.length = n := by
  obtain ⟨us, rfl, hl, _⟩ := h
  refine ⟨?_, hl⟩
  rw [List.getElem?_append_left (by rw [List.length_map]; omega), List.getElem?_map, List.getElem?_eq_getElem (by omega)]
  simp [List.getD_eq_getElem?_getD, List.getElem?_eq_getElem (show j < l.length by omega)]
theorem told_load_pel {t : Nat} {ti : TI} {x : Operand} {i o n : Nat} {j : Int} {b : Blk} {ss rest : List Seg} {k : IntKind} {l : List Int} (ht : TyOK P t ti) (hg : ti.isAgg = false) (hx : S.ev x = .pel i o n j) (hb : nth S.hp i = some b) (hi : isBlk b = some ss) (hd : segDrop ss o = some (.arr k n l :: rest)) : Told P H B S (.load t x) (.int k (rd l j)) [] :=
  Told.pure fun op ρ N a w ho hp => by
    have h1 := hp.ops x (by simp [Op.operands])
    rw [hx] at h1
    obtain ⟨g, b0, hρ, h0, hj, e⟩ := h1
    obtain ⟨g', b1, mid, e1, h3, h4⟩ := rp_SA (B := B) (v := .pointer (some ⟨g, b0 + o, none⟩)) hp.bl hb hi hd ⟨g, b0, hρ, rfl⟩
    simp only [Value.pointer.injEq, Option.some.injEq, Addr.mk.injEq, and_true] at e1
    obtain ⟨rfl, rfl⟩ := e1
    have h5 := h4 j.toNat _ (arr_cell h3 hj).1
    refine ⟨.int k (rd l j), ?_, rfl⟩
    simp [execOp, ho, e, Instr.loadAt, Instr.sureAddr, loadVar, ht.run_isAgg, hg, h5, rd]
theorem told_fieldAddr_rp {t f i off fo s : Nat} {x : Operand} {fs : List (Nat × Nat × Bool)} {g : Bool} {ti : TI} (ht : TyOK P t ti) (hd : ti.d = .struct fs) (hx : S.ev x = .rp i off) (hf : nth fs f = some (fo, s, g)) (hs : Nat.ble 1 s = true) : Told P H B S (.fieldAddr t x f) (.rp i (off + fo)) [] :=
  Told.pure fun o ρ N a w ho hp => by
    have h1 := hp.ops x (by simp [Op.operands])
    rw [hx] at h1
    obtain ⟨g', b0, hρ, e⟩ := h1
    have hde := ht.desc
    rw [hd] at hde
    obtain ⟨fields, hu, hfs⟩ := hde
    obtain ⟨fl, hfl, hok⟩ := hfs.get f hf
    rw [Array.getElem?_toList] at hfl
    have hs' := Nat.le_of_ble_eq_true hs
    have hsz := hok.run_sizeOf w
    have hoff := hok.1
    simp only at hsz hoff
    refine ⟨.pointer (some ⟨g', b0 + (off + fo), none⟩), ?_, g', b0, hρ, rfl⟩
    have hadd : (⟨g', b0 + off, none⟩ : Addr).add fl.offset = ⟨g', b0 + (off + fo), none⟩ := by rw [hoff, ← Nat.add_assoc]; unfold Addr.add; split <;> simp_all
    simp [execOp, ho, e, Instr.fieldAt, run_underlying hu, hfl, Instr.sureAddr, fieldPlace, hsz, show s ≠ 0 from by omega, hadd]
theorem told_fieldAddr_pseg {t f fo s : Nat} {x : Operand} {fs : List (Nat × Nat × Bool)} {g : Bool} {ss rs : List Seg} {ti : TI} (ht : TyOK P t ti) (hd : ti.d = .struct fs) (hx : S.ev x = .pseg ss) (hf : nth fs f = some (fo, s, g)) (hs : Nat.ble 1 s = true) (hr : segDrop ss fo = some rs) : Told P H B S (.fieldAddr t x f) (.pseg rs) [] :=
  Told.pure fun o ρ N a w ho hp => by
    have h1 := hp.ops x (by simp [Op.operands])
    rw [hx] at h1
    obtain ⟨g', b0, mid, e, hN, hm, hc⟩ := h1
    have hde := ht.desc
    rw [hd] at hde
    obtain ⟨fields, hu, hfs⟩ := hde
    obtain ⟨fl, hfl, hok⟩ := hfs.get f hf
    rw [Array.getElem?_toList] at hfl
    have hs' := Nat.le_of_ble_eq_true hs
    have hsz := hok.run_sizeOf w
    have hoff := hok.1
    simp only at hsz hoff
    refine ⟨.pointer (some ⟨g', b0 + fo, none⟩), ?_, g', b0 + fo, mid.drop fo, rfl, hN, (hm.drop hr).1, fun j u hj => ?_⟩
    · have hadd : (⟨g', b0, none⟩ : Addr).add fl.offset = ⟨g', b0 + fo, none⟩ := by rw [hoff]; unfold Addr.add; split <;> simp_all
      simp [execOp, ho, e, Instr.fieldAt, run_underlying hu, hfl, Instr.sureAddr, fieldPlace, hsz, show s ≠ 0 from by omega, hadd]
    · rw [List.getElem?_drop] at hj
      rw [Nat.add_assoc]
      exact hc _ u hj
theorem told_field_sg {t f fo s : Nat} {x : Operand} {fs : List (Nat × Nat × Bool)} {g : Bool} {ss rs : List Seg} {ti : TI} {K : AV → List Blk → Option α} (ht : TyOK P t ti) (hd : ti.d = .struct fs) (hx : S.ev x = .sg ss) (hf : nth fs f = some (fo, s, g)) (hr : segDrop ss fo = some rs) (h : aseg rs g s (fun v => K v []) = some r) : ∃ v nb, K v nb = some r ∧ Told P H B S (.field t x f) v nb := by
  obtain ⟨v, hk, hv⟩ := aseg_some h
  refine ⟨v, [], hk, Told.pure fun o ρ N a w ho hp => ?_⟩
  have h1 := hp.ops x (by simp [Op.operands])
  rw [hx] at h1
  obtain ⟨vs, e, hvs⟩ := h1
  have hde := ht.desc
  rw [hd] at hde
  obtain ⟨fields, hu, hfs⟩ := hde
  obtain ⟨fl, hfl, hok⟩ := hfs.get f hf
  rw [Array.getElem?_toList] at hfl
  have hag := hok.run_isAgg w
  have hoff := hok.1
  have hsz := hok.run_sizeOf w
  simp only at hag hoff hsz
  have hm := (hvs.drop hr).1
  rcases hv with ⟨hg, hv⟩ | ⟨hg, hv⟩
  · obtain ⟨u, h3, h4⟩ := hv ρ N w _ hm
    rw [List.getElem?_drop, Nat.add_zero, Array.getElem?_toList] at h3
    subst hg
    exact ⟨u, by simp [execOp, ho, e, Instr.field, run_underlying hu, hfl, asAgg, part, hag, hoff, h3], h4⟩
  · obtain ⟨h3, h4⟩ := hv ρ N w _ hm
    subst hg
    refine ⟨.agg (vs.extract fo (fo + s)), by simp [execOp, ho, e, Instr.field, run_underlying hu, hfl, asAgg, part, hag, hoff, hsz], ?_⟩
    have : vs.extract fo (fo + s) = ((vs.toList.drop fo).take s).toArray := by
      apply Array.ext'
      rw [Array.toList_extract]
      simp [List.extract]
    rw [this]
    exact h4
/-- An array of numbers. -/
structure ArrT (P : Program) (t n e : Nat) : Prop where
  arr : P.underlying t = some (.array n e)
  size : ∀ w, (sizeOf e).run P w = .ok 1 w
theorem arrElem_some (hT : TOK P c.T) {t n : Nat} (h : arrElem c t = some n) : ∃ e, ArrT P t n e := by
  unfold arrElem at h
  split at h
  · rename_i e _ _ _ _ h1
    split at h
    · rename_i h2
      simp only [Option.some.injEq] at h; subst h
      exact ⟨e, (hT _ _ h1).desc, fun w => (hT _ _ h2).run_sizeOf w⟩
    · cases h
  · cases h
theorem told_index_rp {t n e i o : Nat} {j : Int} {ky : IntKind} {x y : Operand} (ha : ArrT P t n e) (hx : S.ev x = .rp i o) (hy : S.ev y = .int ky j) (h0 : 0 ≤ j) (h1 : j < (n : Int)) : Told P H B S (.indexAddr t x y) (.pel i o n j) [] :=
  Told.pure fun op ρ N a w ho hp => by
    have hv := hp.ops x (by simp [Op.operands])
    have hi := hp.ops y (by simp [Op.operands])
    rw [hx] at hv; rw [hy] at hi
    have ei := VR_int hi
    obtain ⟨g, b0, hρ, ev⟩ := hv
    refine ⟨.pointer (some ⟨g, b0 + o + j.toNat, none⟩), ?_, g, b0, hρ, h0, by omega, rfl⟩
    have hadd : (⟨g, b0 + o, none⟩ : Addr).add (j.toNat * 1) = ⟨g, b0 + o + j.toNat, none⟩ := by rw [Nat.mul_one]; unfold Addr.add; split <;> simp_all
    simp [execOp, ho, ev, ei, Instr.indexAt, Instr.sureAddr, asIntOf, run_underlying ha.arr, h0, h1, ha.size, hadd]
    simpa using hadd
theorem told_index_pseg {t n e : Nat} {j : Int} {k ky : IntKind} {l : List Int} {rest : List Seg} {x y : Operand} (ha : ArrT P t n e) (hx : S.ev x = .pseg (.arr k n l :: rest)) (hy : S.ev y = .int ky j) (h0 : 0 ≤ j) (h1 : j < (n : Int)) : Told P H B S (.indexAddr t x y) (.pro k (rd l j)) [] :=
  Told.pure fun op ρ N a w ho hp => by
    have hv := hp.ops x (by simp [Op.operands])
    have hi := hp.ops y (by simp [Op.operands])
    rw [hx] at hv; rw [hy] at hi
    have ei := VR_int hi
    obtain ⟨g, b0, mid, ev, hN, hm, hc⟩ := hv
    have h5 := hc j.toNat _ (arr_cell hm (show j.toNat < n by omega)).1
    refine ⟨.pointer (some ⟨g, b0 + j.toNat, none⟩), ?_, _, rfl, hN, h5⟩
    have hadd : (⟨g, b0, none⟩ : Addr).add (j.toNat * 1) = ⟨g, b0 + j.toNat, none⟩ := by rw [Nat.mul_one]; unfold Addr.add; split <;> simp_all
    simp [execOp, ho, ev, ei, Instr.indexAt, Instr.sureAddr, asIntOf, run_underlying ha.arr, h0, h1, ha.size, hadd]
    simpa using hadd
theorem told_slice_pseg {t n e : Nat} {k : IntKind} {l : List Int} {rest : List Seg} {x : Operand} (ha : ArrT P t n e) (hn : 1 ≤ n) (hx : S.ev x = .pseg (.arr k n l :: rest)) : Told P H B S (.slice t x none none none) (.ro k l) [] :=
  Told.pure fun op ρ N a w ho hp => by
    have hv := hp.ops x (by simp [Op.operands])
    rw [hx] at hv
    obtain ⟨g, b0, mid, ev, hN, hm, hc⟩ := hv
    have hl : l.length = n := (arr_cell hm (show 0 < n by omega)).2
    have hlen : P.arrayLen t = n := by simp [Program.arrayLen, ha.arr]
    have hel : P.elem t = e := by simp [Program.elem, ha.arr]
    have hrun := run_sliceAt_array_all (P := P) w t ⟨g, b0, none⟩ (by rw [hlen, hel]; exact ha.arr)
    rw [hel, ha.size, hlen] at hrun
    refine ⟨slicedAt ⟨g, b0, none⟩ 0 n n 1, by simp only [execOp, ho, ev, Option.map_none, Sem.run_bind, hrun, Result.andThen, Result.andThen_ok, Sem.run_pure], ?_⟩
    have hs : slicedAt ⟨g, b0, none⟩ 0 n n 1 = .slice (some ⟨g, b0, none⟩) l.length n := by
      unfold slicedAt
      rw [if_neg (by omega), hl]
      simp [Addr.add]
    rw [hs]
    refine ⟨_, n, rfl, by omega, fun h0 => ⟨_, rfl, hN, fun j hj => ?_⟩⟩
    have : (⟨g, b0, none⟩ : Addr).add j = ⟨g, b0 + j, none⟩ := by unfold Addr.add; split <;> simp_all
    rw [this]
    exact hc j _ (arr_cell hm (by omega)).1
end
end Go.Proofs.YtcacmhcekoeblaaDoorA
