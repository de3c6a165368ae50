/- Regions whose order is open. No conditions. -/
import Derived.Test.YtcacmhcekoeblaaDoorA10
namespace Go.Proofs.YtcacmhcekoeblaaDoorA
open Go.RowKit
set_option linter.unusedVariables false
set_option linter.unusedSimpArgs false
set_option linter.unusedSectionVars false
def Ref (x y : AV) : Prop := ∀ ρ N w u, VR ρ N w x u → VR ρ N w y u
theorem Ref.refl (x : AV) : Ref x x := fun _ _ _ _ h => h
theorem Ref.trans {x y z : AV} (h : Ref x y) (k : Ref y z) : Ref x z := fun _ _ _ _ hx => k _ _ _ _ (h _ _ _ _ hx)
section
variable {E : Env} {tm : Nat → AV} {hp : List Blk} {ρ ρ' : Nat → Option Value} {N N' : Nat → Prop} {a : Act} {w w' : World}
/-- New rows at places that the list already has. -/
theorem G.grow2 (h : G E tm hp ρ N a w) {m : Nat} {nb : List Blk} {d : Option Tmp} {v : AV} {u : Value} (hd : ∀ t, d = some t → t < E.nt) (hm : ∀ k b, nb[k]? = some b → hp[m + k]? = some b) (hfree : ∀ i, m ≤ i → i < m + nb.length → ρ i = none) (hg : Grow E.B m ρ N w nb ρ' N' w') (hv : VR ρ' N' w' v u) :
    G E (fun t => if d = some t then v else tm t) hp ρ' N' (a.put d u) w' := by
  have hN : ∀ g, N g → w'.heap[g]? = w.heap[g]? := fun g hN => hg.bel.block g (h.nw g hN)
  have hnew : ∀ i b x, hp[i]? = some b → ρ' i = some x → ρ i = none → BR E.B ρ' N' w' x b ∧ (∀ g, hand x = some g → w.heap.size ≤ g ∧ ¬ N' g) ∧ m ≤ i ∧ i < m + nb.length := by
    intro i b x hb hx hn
    rcases hg.dom i x hx with h1 | ⟨h1, h2⟩
    · rw [hn] at h1; cases h1
    · obtain ⟨x', h3, h4, h5⟩ := hg.blk (i - m) _ (List.getElem?_eq_getElem (by omega))
      have h6 := hm (i - m) _ (List.getElem?_eq_getElem (by omega))
      rw [show m + (i - m) = i from by omega] at h3 h6
      rw [hx] at h3; injection h3 with h3; subst h3
      rw [hb] at h6; injection h6 with h6
      rw [← h6] at h4
      exact ⟨h4, h5, h1, h2⟩
  have hcase : ∀ i x, ρ' i = some x → ρ i = some x ∨ ρ i = none := by
    intro i x hx
    rcases hg.dom i x hx with h1 | ⟨h1, h2⟩
    · exact .inl h1
    · exact .inr (hfree i h1 h2)
  refine ⟨by rw [defers_put]; exact h.df, by rw [size_put]; exact h.sz, G.tmput h hd hv hg.inn hN hg.ext, ?_, ?_, ?_, ?_, ?_, ?_, ?_, fun g hg' => ⟨hg.inn g (h.kp g hg').1, (hN g (h.kp g hg').1).trans (h.kp g hg').2⟩⟩
  · intro i b x hb hx
    rcases hcase i x hx with hx' | hx'
    · have h1 := h.bl i b x hb hx'
      exact BR.keep hg.inn hN hg.ext (fun hlv g hgg => hg.bel.block g (live_lt h1 hlv g hgg).2) h1
    · exact (hnew i b x hb hx hx').1
  · intro i x hx
    rcases hg.dom i x hx with h1 | ⟨h1, h2⟩
    · exact h.lo i x h1
    · have h6 := hm (i - m) _ (List.getElem?_eq_getElem (by omega))
      rw [show m + (i - m) = i from by omega] at h6
      exact (List.getElem?_eq_some_iff.1 h6).1
  · intro i j b b' x y g hb hb' hl hl' hij hx hy hgx
    rcases hcase i x hx with hx' | hx'
    · rcases hcase j y hy with hy' | hy'
      · exact h.ds i j b b' x y g hb hb' hl hl' hij hx' hy' hgx
      · have h1 := (live_lt (h.bl i b x hb hx') hl g hgx).2
        intro e
        have := ((hnew j b' y hb' hy hy').2.1 g e).1
        omega
    · rcases hcase j y hy with hy' | hy'
      · have h1 := ((hnew i b x hb hx hx').2.1 g hgx).1
        intro e
        have := (live_lt (h.bl j b' y hb' hy') hl' g e).2
        omega
      · obtain ⟨_, _, i1, i2⟩ := hnew i b x hb hx hx'
        obtain ⟨_, _, j1, j2⟩ := hnew j b' y hb' hy hy'
        exact hg.dis (i - m) (j - m) x y g (by omega) (by omega) (by omega) (by rw [show m + (i - m) = i from by omega]; exact hx) (by rw [show m + (j - m) = j from by omega]; exact hy) hgx
  · intro i b x g hb hl hx hgx
    rcases hcase i x hx with hx' | hx'
    · intro hN'
      rcases hg.out g hN' with h1 | ⟨h1, _⟩
      · exact h.nn i b x g hb hl hx' hgx h1
      · have := (live_lt (h.bl i b x hb hx') hl g hgx).2
        omega
    · exact ((hnew i b x hb hx hx').2.1 g hgx).2
  · intro g hg'
    rcases hg.out g hg' with h1 | h1
    · exact Nat.lt_of_lt_of_le (h.nw g h1) hg.bel.size
    · exact h1.2
  · intro g hg'
    rcases hg.out g hg' with h1 | h1
    · exact h.na g h1
    · exact .inr (Nat.le_trans h.size h1.1)
  · exact grown_below h.fr hg.bel
end
/-- One operation in the text's order. -/
def StepOK (E : Env) (all : List Oper) (S S' S2 : ASt) (v : AV) (nb : List Blk) (o : Oper) : Prop :=
  S2.hp = S.hp ++ nb ∧ S'.hp = S.hp ∧ (∀ t, Ref (S.get t) (S'.get t)) ∧ (∀ t, S2.get t = if o.dst = some t then v else S'.get t) ∧
  ((o.guard = none ∧ Told E.P E.H E.B S' o.op v nb) ∨ (∃ j want oj d b, o.guard = some (j, want) ∧ all[j]? = some oj ∧ oj.dst = some d ∧ (∀ ρ N w u, VR ρ N w (S.get d) u → u = .bool b) ∧
    ((b = want ∧ Told E.P E.H E.B S' o.op v nb) ∨ (b ≠ want ∧ v = .und ∧ nb = []))) ∨
    ∃ j want oj d, o.guard = some (j, want) ∧ all[j]? = some oj ∧ oj.dst = some d ∧ (∀ ρ N w u, VR ρ N w (S.get d) u → u = undef) ∧ v = .und ∧ nb = [])
section
variable {α : Type} {E : Env} {r : α} {c : Cfg α}
theorem ref_told {S : ASt} {d : Nat} {b : Bool} (hb : ∀ ρ N w u, VR ρ N w (S.get d) u → u = .bool b) (t : Nat) : Ref (S.get t) ((S.put (some d) (.bool b)).get t) := by
  intro ρ N w u h
  rw [get_put]
  split
  · rename_i e
    injection e with e
    subst e
    exact hb _ _ _ _ h
  · exact h
theorem alights_tr (hT : TOK E.P c.T) (hC : CallOK E.P E.H c) {all : List Oper} {K : ASt → Option α} : ∀ (L : List Oper) (S : ASt), alights c all L S K = some r →
    ∃ (st sr : Nat → ASt) (sv : Nat → AV) (nb : Nat → List Blk), st 0 = S ∧ K (st L.length) = some r ∧ ∀ i o, L[i]? = some o → StepOK E all (st i) (sr i) (st (i + 1)) (sv i) (nb i) o
  | [], S, h => ⟨fun _ => S, fun _ => S, fun _ => .unk, fun _ => [], rfl, h, fun i o ho => by simp at ho⟩
  | o :: L, S, h => by
    have key : ∃ S' S2 v nb, StepOK E all S S' S2 v nb o ∧ alights c all L S2 K = some r := by
      simp only [alights] at h
      rcases aguard_some h with ⟨hg, h⟩ | ⟨j, want, oj, d, b, hg, hj, hdj, hb, h⟩ | ⟨j, want, oj, d, hg, hj, hdj, hb, h⟩
      · obtain ⟨v, nb, h, ht⟩ := alight_some (B := E.B) (H := E.H) hT hC h
        exact ⟨S, _, v, nb, ⟨rfl, rfl, fun t => Ref.refl _, fun t => put_tm t, .inl ⟨hg, ht⟩⟩, h⟩
      · rcases h with ⟨rfl, h⟩ | ⟨hne, h⟩
        · obtain ⟨v, nb, h, ht⟩ := alight_some (B := E.B) (H := E.H) hT hC h
          exact ⟨S.put (some d) (.bool b), _, v, nb, ⟨rfl, rfl, ref_told hb, fun t => put_tm t, .inr (.inl ⟨j, _, oj, d, b, hg, hj, hdj, hb, .inl ⟨rfl, ht⟩⟩)⟩, h⟩
        · refine ⟨S.put (some d) (.bool b), _, .und, [], ⟨?_, rfl, ref_told hb, fun t => get_put _ _ _ t, .inr (.inl ⟨j, _, oj, d, b, hg, hj, hdj, hb, .inr ⟨hne, rfl, rfl⟩⟩)⟩, h⟩
          rw [List.append_nil]
          cases o.dst <;> rfl
      · refine ⟨S, _, .und, [], ⟨?_, rfl, fun t => Ref.refl _, fun t => get_put _ _ _ t, .inr (.inr ⟨j, _, oj, d, hg, hj, hdj, hb, rfl, rfl⟩)⟩, h⟩
        rw [List.append_nil]
        cases o.dst <;> rfl
    obtain ⟨S', S2, v, nb, hs, h⟩ := key
    obtain ⟨st, sr, sv, nbs, h0, hK, hst⟩ := alights_tr hT hC L S2 h
    refine ⟨fun | 0 => S | k + 1 => st k, fun | 0 => S' | k + 1 => sr k, fun | 0 => v | k + 1 => sv k, fun | 0 => nb | k + 1 => nbs k, rfl, hK, ?_⟩
    intro i o' ho'
    cases i with
    | zero =>
      simp only [List.getElem?_cons_zero, Option.some.injEq] at ho'
      subst ho'
      show StepOK E all S S' (st 0) v nb o
      rw [h0]; exact hs
    | succ i => exact hst i o' (by simpa using ho')
end
end Go.Proofs.YtcacmhcekoeblaaDoorA
