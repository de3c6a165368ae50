/- Code: where the abstract evaluator answers, the machine comes to an end that it tells. No conditions. -/
import Derived.Test.YtcacmhcekoeblaaDoorA13
import Derived.Scope
namespace Go.Proofs.YtcacmhcekoeblaaDoorA
open Go.RowKit
set_option linter.unusedVariables false
set_option linter.unusedSimpArgs false
set_option linter.unusedSectionVars false
section
variable {E : Env} {S : ASt} {a : Act} {w : World}
theorem rel_same {t : Nat} {v : AV} (h : Rel E S a w) (hv : ∀ ρ N u, VR ρ N w (S.get t) u → VR ρ N w v u) : Rel E (S.put (some t) v) a w := by
  obtain ⟨ρ, N, hG, hT⟩ := h
  refine ⟨ρ, N, ⟨hG.df, hG.sz, fun t' => ?_, hG.bl, hG.lo, hG.ds, hG.nn, hG.nw, hG.na, hG.fr, hG.kp⟩, hT⟩
  rw [get_put]
  split
  · rename_i e
    injection e with e
    subst e
    exact hv _ _ _ (hG.tm t)
  · exact hG.tm t'
theorem rel_nilBlk {t : Nat} {nb : Blk} (hbr : ∀ ρ N, BR E.B ρ N w (.slice none 0 0) nb) (h : Rel E S a w) (hv : S.get t = .nil) : Rel E { tm := (S.put (some t) (.own S.hp.length)).tm, hp := S.hp ++ [nb] } a w := by
  obtain ⟨ρ, N, hG, hT⟩ := h
  have h0 : ρ S.hp.length = none := by
    cases hq : ρ S.hp.length with
    | none => rfl
    | some u => exact absurd (hG.lo _ _ hq) (Nat.lt_irrefl _)
  have hext : ∀ i x, ρ i = some x → ins ρ S.hp.length (.slice none 0 0) i = some x := by
    intro i x hi
    unfold ins
    split
    · rename_i e; subst e; rw [h0] at hi; cases hi
    · exact hi
  have hself : ins ρ S.hp.length (.slice none 0 0) S.hp.length = some (.slice none 0 0) := by simp [ins]
  have hdom : ∀ i x, ins ρ S.hp.length (.slice none 0 0) i = some x → (i < S.hp.length ∧ ρ i = some x) ∨ (i = S.hp.length ∧ x = .slice none 0 0) := by
    intro i x hi
    unfold ins at hi
    split at hi
    · rename_i e; injection hi with hi; exact .inr ⟨e, hi.symm⟩
    · exact .inl ⟨hG.lo i x hi, hi⟩
  have hget : ∀ i b, (S.hp ++ [nb])[i]? = some b → i < S.hp.length → S.hp[i]? = some b := fun i b hb hi => by rwa [List.getElem?_append_left hi] at hb
  refine ⟨ins ρ S.hp.length (.slice none 0 0), N, ⟨hG.df, hG.sz, fun t' => ?_, ?_, ?_, ?_, ?_, hG.nw, hG.na, hG.fr, hG.kp⟩, ?_⟩
  · rw [put_tm]
    split
    · rename_i e
      injection e with e
      subst e
      have h1 := hG.tm t
      rw [hv] at h1
      have h2 : a.tmps.getD t undef = .slice none 0 0 := h1
      rw [h2]
      exact ⟨hself, _, _, _, rfl⟩
    · exact VR.keep (fun _ h => h) (fun _ _ => rfl) hext _ _ (hG.tm t')
  · intro i b u hb hu
    rcases hdom i u hu with ⟨h1, h2⟩ | ⟨h1, h2⟩
    · exact BR.keep (fun _ h => h) (fun _ _ => rfl) hext (fun _ _ _ => rfl) (hG.bl i b u (hget i b hb h1) h2)
    · subst h1 h2
      simp only [List.getElem?_append_right (Nat.le_refl _), Nat.sub_self, List.getElem?_cons_zero, Option.some.injEq] at hb
      subst hb
      exact hbr _ _
  · intro i u hu
    rw [List.length_append]
    rcases hdom i u hu with ⟨h1, _⟩ | ⟨h1, _⟩
    · omega
    · simp; omega
  · intro i j b b' u v g hb hb' hl hl' hij hu hv' hg
    rcases hdom i u hu with ⟨h1, h2⟩ | ⟨h1, h2⟩
    · rcases hdom j v hv' with ⟨h3, h4⟩ | ⟨h3, h4⟩
      · exact hG.ds i j b b' u v g (hget i b hb h1) (hget j b' hb' h3) hl hl' hij h2 h4 hg
      · subst h4; intro h; cases h
    · subst h2; cases hg
  · intro i b u g hb hl hu hg
    rcases hdom i u hu with ⟨h1, h2⟩ | ⟨h1, h2⟩
    · exact hG.nn i b u g (hget i b hb h1) hl h2 hg
    · subst h2; cases hg
  · intro i hi
    simp only [List.length_append, List.length_cons, List.length_nil] at hi
    by_cases h1 : i < S.hp.length
    · obtain ⟨u, hu⟩ := hT i h1
      exact ⟨u, hext i u hu⟩
    · exact ⟨_, by rw [show i = S.hp.length from by omega]; exact hself⟩
theorem rel_nilOwn {t e : Nat} {k : IntKind} (h : Rel E S a w) (hv : S.get t = .nil) : Rel E { tm := (S.put (some t) (.own S.hp.length)).tm, hp := S.hp ++ [.ints e k []] } a w :=
  rel_nilBlk (fun _ _ => World.ownsRow_nil _ _ _ _) h hv
theorem rel_nilRws {t e : Nat} {k : IntKind} (h : Rel E S a w) (hv : S.get t = .nil) : Rel E { tm := (S.put (some t) (.own S.hp.length)).tm, hp := S.hp ++ [.rws e k []] } a w :=
  rel_nilBlk (fun _ _ => ⟨[], World.ownsRow_nil _ _ _ _, rfl⟩) h hv
theorem rel_sameG {t : Nat} {v : AV} (h : Rel E S a w) (hv : ∀ ρ N u, G E S.get S.hp ρ N a w → VR ρ N w (S.get t) u → VR ρ N w v u) : Rel E (S.put (some t) v) a w := by
  obtain ⟨ρ, N, hG, hT⟩ := h
  refine ⟨ρ, N, ⟨hG.df, hG.sz, fun t' => ?_, hG.bl, hG.lo, hG.ds, hG.nn, hG.nw, hG.na, hG.fr, hG.kp⟩, hT⟩
  rw [get_put]
  split
  · rename_i e
    injection e with e
    subst e
    exact hv _ _ _ hG (hG.tm t)
  · exact hG.tm t'
theorem nilRo_VRs {ρ : Nat → Option Value} {N : Nat → Prop} {w : World} : ∀ {cs : List AV} {us : List Value}, VRs ρ N w cs us → VRs ρ N w (nilRo cs) us
  | [], _, h => h
  | c :: cs, _, ⟨u, us, h1, h2, h3⟩ => by
    unfold nilRo
    split
    · rename_i heq
      cases heq
    · rename_i r heq
      injection heq with e1 e2
      subst e1 e2
      refine ⟨u, us, h1, ?_, nilRo_VRs h3⟩
      obtain rfl : u = _ := h2
      exact ⟨none, 0, rfl, Nat.le_refl _, fun h => by simp at h⟩
    · rename_i v r _ heq
      injection heq with e1 e2
      subst e1 e2
      exact ⟨u, us, h1, h2, nilRo_VRs h3⟩
theorem rel_box {i bt : Nat} {cs : List AV} (h : Rel E S a w) (hb : S.hp[i]? = some (.cells bt cs)) : Rel E { tm := S.tm, hp := setNth S.hp i (.cells bt (nilRo cs)) } a w := by
  obtain ⟨ρ, N, hG, hT⟩ := h
  have hi := (List.getElem?_eq_some_iff.1 hb).1
  have hget : ∀ {j : Nat} {b : Blk}, (setNth S.hp i (.cells bt (nilRo cs)))[j]? = some b → ∃ b0 : Blk, S.hp[j]? = some b0 ∧ b0.live = b.live ∧ ∀ u, BR E.B ρ N w u b0 → BR E.B ρ N w u b := by
    intro j b hj
    rw [setNth_eq, List.getElem?_set] at hj
    split at hj
    · rename_i e
      subst e
      simp only [Option.some.injEq] at hj
      subst hj
      refine ⟨_, hb, rfl, fun u hu => ?_⟩
      obtain ⟨g, arr, e1, e2, e3, e4⟩ := hu
      exact ⟨g, arr, e1, e2, e3, nilRo_VRs e4⟩
    · exact ⟨b, hj, rfl, fun u hu => hu⟩
  refine ⟨ρ, N, ⟨hG.df, hG.sz, hG.tm, ?_, ?_, ?_, ?_, hG.nw, hG.na, hG.fr, hG.kp⟩, ?_⟩
  · intro j b u hj hu
    obtain ⟨b0, h1, _, h3⟩ := hget hj
    exact h3 u (hG.bl j b0 u h1 hu)
  · intro j u hu
    have := hG.lo j u hu
    rw [setNth_eq, List.length_set]
    exact this
  · intro j k b b' u v g hj hk hl hl' hne hu hv hg
    obtain ⟨b0, h1, h2, _⟩ := hget hj
    obtain ⟨b1, k1, k2, _⟩ := hget hk
    exact hG.ds j k b0 b1 u v g h1 k1 (h2.trans hl) (k2.trans hl') hne hu hv hg
  · intro j b u g hj hl hu hg
    obtain ⟨b0, h1, h2, _⟩ := hget hj
    exact hG.nn j b0 u g h1 (h2.trans hl) hu hg
  · intro j hj
    rw [setNth_eq, List.length_set] at hj
    exact hT j hj
theorem rel_coerce {t : Nat} {wt : Want} {S' : ASt} (h : Rel E S a w) (hc : coerce t S wt = some S') : Rel E S' a w := by
  cases wt with
  | keep =>
    simp only [coerce] at hc
    split at hc
    · rename_i p d hg
      simp only [Option.some.injEq] at hc; subst hc
      exact rel_same h (fun ρ N u hu => by rw [hg] at hu; exact hu)
    · simp only [Option.some.injEq] at hc; subst hc; exact h
  | row =>
    simp only [coerce] at hc
    split at hc
    · simp only [Option.some.injEq] at hc; subst hc; exact h
    · rename_i hg
      simp only [Option.some.injEq] at hc; subst hc
      exact rel_same h (fun ρ N u hu => by
        rw [hg] at hu
        obtain rfl : u = _ := hu
        exact ⟨none, 0, rfl, Nat.le_refl _, fun h => by simp at h⟩)
    · rename_i i hg
      have go : ∀ {S'}, some ({ tm := (S.put (some t) (.own i)).tm, hp := freeze [i] S.hp 0 } : ASt) = some S' → Rel E S' a w := by
        intro S' hc
        simp only [Option.some.injEq] at hc; subst hc
        have h2 := rel_freeze h [i]
        exact rel_same h2 (t := t) (fun ρ N u hu => by
          have : ({ tm := S.tm, hp := freeze [i] S.hp 0 } : ASt).get t = S.get t := rfl
          rw [this, hg] at hu; exact hu)
      split at hc
      · exact go hc
      · exact go hc
      · cases hc
    · cases hc
  | cast =>
    simp only [coerce] at hc
    split at hc
    · simp only [Option.some.injEq] at hc; subst hc; exact h
    · rename_i hg
      simp only [Option.some.injEq] at hc; subst hc
      exact rel_same h (fun ρ N u hu => by
        rw [hg] at hu
        obtain rfl : u = _ := hu
        exact ⟨none, 0, rfl, Nat.le_refl _, fun h => by simp at h⟩)
    · rename_i i hg
      have go : ∀ {k l S'}, (freeze [i] S.hp 0)[i]? = some (.froz k l) → some ({ tm := (S.put (some t) (.ro k l)).tm, hp := freeze [i] S.hp 0 } : ASt) = some S' → Rel E S' a w := by
        intro k l S' hf hc
        simp only [Option.some.injEq] at hc; subst hc
        have h2 := rel_freeze h [i]
        exact rel_sameG h2 (t := t) (v := .ro k l) (fun ρ N u hG hu => by
          have : ({ tm := S.tm, hp := freeze [i] S.hp 0 } : ASt).get t = S.get t := rfl
          rw [this, hg] at hu
          exact hG.bl i _ u hf hu.1)
      split at hc
      · rename_i e k l hb
        refine go ?_ hc
        rw [nth_eq] at hb
        rw [freeze_get, Nat.zero_add, hb]
        simp [frz, has]
      · rename_i k l hb
        refine go ?_ hc
        rw [nth_eq] at hb
        rw [freeze_get, Nat.zero_add, hb]
        simp [frz, has]
      · cases hc
    · cases hc
  | own e k =>
    simp only [coerce] at hc
    split at hc
    · simp only [Option.some.injEq] at hc; subst hc; exact h
    · rename_i hg
      simp only [Option.some.injEq] at hc; subst hc
      exact rel_nilOwn h hg
    · cases hc
  | rws e k =>
    simp only [coerce] at hc
    split at hc
    · simp only [Option.some.injEq] at hc; subst hc; exact h
    · rename_i hg
      simp only [Option.some.injEq] at hc; subst hc
      exact rel_nilRws h hg
    · cases hc
  | box =>
    simp only [coerce] at hc
    split at hc
    · split at hc
      · rename_i hb
        simp only [Option.some.injEq] at hc; subst hc
        rw [nth_eq] at hb
        exact rel_box h hb
      · cases hc
    · cases hc
theorem rel_coerces : ∀ {ws : List (Nat × Want)} {S S' : ASt}, Rel E S a w → coerces ws S = some S' → Rel E S' a w
  | [], S, S', h, hc => by simp only [coerces, Option.some.injEq] at hc; subst hc; exact h
  | (t, wt) :: r, S, S', h, hc => by
    simp only [coerces] at hc
    split at hc
    · rename_i S2 h2
      exact rel_coerces (rel_coerce h h2) hc
    · cases hc
theorem idx_some : ∀ {m : List Nat} {i j : Nat}, idx m i = some j → m[j]? = some i
  | [], i, j, h => by cases h
  | a :: r, i, j, h => by
    simp only [idx] at h
    split at h
    · rename_i he
      simp only [Option.some.injEq] at h; subst h
      simp [Nat.eq_of_beq_eq_true he]
    · split at h
      · rename_i j' hj
        simp only [Option.some.injEq] at h; subst h
        simpa using idx_some hj
      · cases h
theorem nodupB_nodup : ∀ {m : List Nat}, nodupB m = true → m.Nodup
  | [], _ => List.nodup_nil
  | a :: r, h => by
    simp only [nodupB] at h
    split at h
    · cases h
    · rename_i hn
      refine List.nodup_cons.2 ⟨fun hm => ?_, nodupB_nodup h⟩
      rw [(has_iff r a).2 hm] at hn; cases hn
def through (m : List Nat) (ρ : Nat → Option Value) : Nat → Option Value := fun j => (m[j]?).bind ρ
mutual
theorem ren_VR {ρ : Nat → Option Value} {N : Nat → Prop} (m : List Nat) : ∀ (v : AV) (u : Value), VR ρ N w v u → VR (through m ρ) N w (ren m v) u
  | .unk, _, h => trivial
  | .und, _, h => h
  | .int _ _, _, h => h
  | .bool _, _, h => h
  | .prop _ _, _, h => h
  | .ro _ _, _, h => h
  | .nil, _, h => h
  | .pro _ _, _, h => h
  | .fn _, _, h => h
  | .recs _ _, _, h => h
  | .prec _, _, h => h
  | .nilp, _, h => h
  | .nilf, _, h => h
  | .sg _, _, h => h
  | .pseg _, _, h => h
  | .rp i o, u, h => by
    simp only [ren]
    split
    · rename_i j hj
      obtain ⟨g, b, h1, h2⟩ := h
      exact ⟨g, b, by simp [through, idx_some hj, h1], h2⟩
    · trivial
  | .pel i o n x, u, h => by
    simp only [ren]
    split
    · rename_i j hj
      obtain ⟨g, b, h1, h2⟩ := h
      exact ⟨g, b, by simp [through, idx_some hj, h1], h2⟩
    · trivial
  | .own i, u, h => by
    simp only [ren]
    split
    · rename_i j hj
      exact ⟨by simp [through, idx_some hj, h.1], h.2⟩
    · trivial
  | .ptr i o, u, h => by
    simp only [ren]
    split
    · rename_i j hj
      obtain ⟨g, h1, h2⟩ := h
      exact ⟨g, by simp [through, idx_some hj, h1], h2⟩
    · trivial
  | .pown i o, u, h => by
    simp only [ren]
    split
    · rename_i j hj
      obtain ⟨g, o, n, c, h1, h2⟩ := h
      exact ⟨g, o, n, c, by simp [through, idx_some hj, h1], h2⟩
    · trivial
  | .win i b e, u, h => by
    simp only [ren]
    split
    · rename_i j hj
      obtain ⟨A, n, c, h1, h2⟩ := h
      exact ⟨A, n, c, by simp [through, idx_some hj, h1], h2⟩
    · trivial
  | .agg cs, u, ⟨vs, h1, h2⟩ => ⟨vs, h1, rens_VR m cs _ h2⟩
  | .tup cs, u, ⟨vs, h1, h2⟩ => ⟨vs, h1, rens_VR m cs _ h2⟩
theorem rens_VR {ρ : Nat → Option Value} {N : Nat → Prop} (m : List Nat) : ∀ (vs : List AV) (us : List Value), VRs ρ N w vs us → VRs (through m ρ) N w (rens m vs) us
  | [], _, h => h
  | v :: vs, _, ⟨u, us, h1, h2, h3⟩ => ⟨u, us, h1, ren_VR m v u h2, rens_VR m vs us h3⟩
end
theorem pickBlk_get {m : List Nat} {hp : List Blk} : ∀ {l : List Nat} {bs : List Blk}, pickBlk m hp l = some bs → bs.length = l.length ∧ ∀ (j : Nat) (b : Blk), bs[j]? = some b → ∃ (i : Nat) (b0 : Blk), l[j]? = some i ∧ hp[i]? = some b0 ∧ b = renBlk m b0
  | [], bs, h => by simp only [pickBlk, Option.some.injEq] at h; subst h; exact ⟨rfl, fun j b hb => by simp at hb⟩
  | i :: r, bs, h => by
    simp only [pickBlk] at h
    split at h
    · rename_i b bs' hb hbs
      simp only [Option.some.injEq] at h; subst h
      obtain ⟨h1, h2⟩ := pickBlk_get hbs
      refine ⟨by simp [h1], fun j b' hj => ?_⟩
      cases j with
      | zero => simp only [List.getElem?_cons_zero, Option.some.injEq] at hj; subst hj; exact ⟨i, b, rfl, by rw [← nth_eq]; exact hb, rfl⟩
      | succ j => simpa using h2 j b' (by simpa using hj)
    · cases h
theorem renTm_VR {ρ : Nat → Option Value} {N : Nat → Prop} {m : List Nat} (hv : ∀ t, VR ρ N w (S.get t) (a.tmps.getD t undef)) : ∀ (ws : List (Nat × Want)) (t : Nat), VR (through m ρ) N w (look (renTm m S ws) t) (a.tmps.getD t undef)
  | [], t => trivial
  | (s, _) :: r, t => by
    simp only [renTm]
    rw [look_cons]
    split
    · rename_i e; subst e; exact ren_VR m _ _ (hv s)
    · exact renTm_VR hv r t
theorem ros_any {ρ ρ' : Nat → Option Value} {N : Nat → Prop} {w : World} {k : IntKind} : ∀ {ls : List (List Int)} {us : List Value}, VRs ρ N w (ros k ls) us → VRs ρ' N w (ros k ls) us
  | [], _, h => h
  | _ :: _, _, ⟨v, vs, h1, h2, h3⟩ => ⟨v, vs, h1, h2, ros_any h3⟩
theorem fns_any {ρ ρ' : Nat → Option Value} {N : Nat → Prop} {w : World} : ∀ {fs : List (Option Nat)} {us : List Value}, VRs ρ N w (fs.map fav) us → VRs ρ' N w (fs.map fav) us
  | [], _, h => h
  | some _ :: _, _, ⟨v, vs, h1, h2, h3⟩ => ⟨v, vs, h1, h2, fns_any h3⟩
  | none :: _, _, ⟨v, vs, h1, h2, h3⟩ => ⟨v, vs, h1, h2, fns_any h3⟩
theorem renBlk_live (m : List Nat) (b : Blk) : (renBlk m b).live = b.live := by cases b <;> rfl
theorem rel_norm {ws : List (Nat × Want)} {S' : ASt} (h : Rel E S a w) (hn : anorm ws S = some S') : Rel E S' a w := by
  simp only [anorm] at hn
  split at hn
  · rename_i S2 hc
    have h2 := rel_coerces h hc
    revert hn
    generalize collect S2.hp 200 (slotIds S2 ws) [] = m
    intro hn
    split at hn
    · rename_i hp hnd hpk
      simp only [Option.some.injEq] at hn; subst hn
      obtain ⟨ρ, N, hG, hT⟩ := h2
      obtain ⟨hlen, hget⟩ := pickBlk_get hpk
      have hnd' := nodupB_nodup hnd
      have hth : ∀ {j u}, through m ρ j = some u → ∃ i, m[j]? = some i ∧ ρ i = some u := by
        intro j u hj
        obtain ⟨i, h1, h2⟩ := Option.bind_eq_some_iff.1 hj
        exact ⟨i, h1, h2⟩
      have hne : ∀ {j k i i' : Nat}, m[j]? = some i → m[k]? = some i' → j ≠ k → i ≠ i' := by
        intro j k i i' hj hk hjk e
        subst e
        have h1 := (List.getElem?_eq_some_iff.1 hj).1
        exact hjk ((List.getElem?_inj h1 hnd').1 (hj.trans hk.symm))
      refine ⟨through m ρ, N, ⟨hG.df, hG.sz, renTm_VR hG.tm ws, ?_, ?_, ?_, ?_, hG.nw, hG.na, hG.fr, hG.kp⟩, ?_⟩
      · intro j b u hb hu
        obtain ⟨i, b0, h1, h3, rfl⟩ := hget j b hb
        obtain ⟨i', h4, h5⟩ := hth hu
        rw [h1] at h4; injection h4 with h4; subst h4
        have h6 := hG.bl i b0 u h3 h5
        cases b0 with
        | ints e k l => exact h6
        | froz k l => exact h6
        | dead => trivial
        | bor k l => exact h6
        | room e k l c => exact h6
        | frws k ls => exact h6
        | part t ss => exact h6
        | bpart ss => exact h6
        | fpart ss => exact h6
        | rws e k ls =>
          obtain ⟨vs, h7, h8⟩ := h6
          exact ⟨vs, h7, ros_any h8⟩
        | fns e fs =>
          obtain ⟨vs, h7, h8⟩ := h6
          exact ⟨vs, h7, fns_any h8⟩
        | cells t cs =>
          obtain ⟨g, arr, e1, e2, e3, e4⟩ := h6
          exact ⟨g, arr, e1, e2, e3, rens_VR m _ _ e4⟩
      · intro j u hu
        obtain ⟨i, h1, _⟩ := hth hu
        rw [hlen]
        exact (List.getElem?_eq_some_iff.1 h1).1
      · intro j k b b' u v g hb hb' hl hl' hjk hu hv hg
        obtain ⟨i, b0, h1, h3, rfl⟩ := hget j b hb
        obtain ⟨i', b0', h1', h3', rfl⟩ := hget k b' hb'
        obtain ⟨i2, h4, h5⟩ := hth hu
        obtain ⟨i2', h4', h5'⟩ := hth hv
        rw [h1] at h4; injection h4 with h4; subst h4
        rw [h1'] at h4'; injection h4' with h4'; subst h4'
        rw [renBlk_live] at hl hl'
        exact hG.ds i i' b0 b0' u v g h3 h3' hl hl' (hne h1 h1' hjk) h5 h5' hg
      · intro j b u g hb hl hu hg
        obtain ⟨i, b0, h1, h3, rfl⟩ := hget j b hb
        obtain ⟨i2, h4, h5⟩ := hth hu
        rw [h1] at h4; injection h4 with h4; subst h4
        rw [renBlk_live] at hl
        exact hG.nn i b0 u g h3 hl h5 hg
      · intro j hj
        obtain ⟨i, b0, h1, h3, _⟩ := hget j _ (List.getElem?_eq_getElem hj)
        obtain ⟨u, hu⟩ := hT i (List.getElem?_eq_some_iff.1 h3).1
        exact ⟨u, by simp [through, h1, hu]⟩
    · cases hn
  · cases hn
end
def toExit : Ex → Exit
  | .norm => .normal
  | .exit id => .exit id
  | .ret => .ret
theorem wp_loop_m {P : Program} {Q : Exit → Act → World → Prop} {c : Code} (I : Nat → Act → World → Prop)
    (round : ∀ m a w, I m a w → c.wp P (Exit.then (fun a' w' => ∃ m', m' < m ∧ I m' a' w') Q) a w) {m : Nat} {a : Act} {w : World} (h₀ : I m a w) : (Code.loop c).wp P Q a w := by
  intro b k cs
  have key : ∀ n a w, I n a w → ∃ e a' w', Q e a' w' ∧ Arrives P (lone (b.at a (.code c :: .inLoop c :: k)) cs w) b k cs e a' w' := by
    intro n
    induction n using Nat.strongRecOn with
    | _ n ih =>
      intro a w hI
      obtain ⟨e, a₁, w₁, hq, harr⟩ := round n a w hI b (.inLoop c :: k) cs
      cases e with
      | normal =>
        obtain ⟨m', hlt, hI₁⟩ := hq
        obtain ⟨e₂, a₂, w₂, hq₂, harr₂⟩ := ih m' hlt a₁ w₁ hI₁
        exact ⟨e₂, a₂, w₂, hq₂, .of_steps (Steps.trans harr (.one step_inLoop)) harr₂⟩
      | exit id => exact ⟨_, a₁, w₁, hq, .pass (x := .inLoop c) rfl (fun _ _ => .inl (by simp)) harr⟩
      | goto l => exact ⟨_, a₁, w₁, hq, .pass (x := .inLoop c) rfl (fun _ _ => .inl (by simp)) harr⟩
      | ret => exact ⟨_, a₁, w₁, hq, .pass (x := .inLoop c) rfl (fun _ _ => .inl (by simp)) harr⟩
      | panic ch => exact ⟨_, a₁, w₁, hq, .pass (x := .inLoop c) rfl (fun _ _ => .inl (by simp)) harr⟩
      | outgrown => exact ⟨_, a₁, w₁, hq, .pass (x := .inLoop c) rfl (fun _ _ => .inl (by simp)) harr⟩
  obtain ⟨e, a', w', hq, harr⟩ := key m a w h₀
  exact ⟨e, a', w', hq, .of_steps (.one step_loop) harr⟩
section
variable {α : Type} {E : Env} {r : α} {c : Cfg α}
theorem cut_some {cuts : List (Nat × List (Nat × Want))} {q : Nat} {F : ASt → Option α} {S : ASt} {a : Act} {w : World} (h : cutAt idJ cuts q F S = some r) (hR : Rel E S a w) : ∃ S', F S' = some r ∧ Rel E S' a w := by
  unfold cutAt at h
  split at h
  · split at h
    · rename_i S' hn
      exact ⟨S', h, rel_norm hR hn⟩
    · cases h
  · exact ⟨S, h, hR⟩
theorem code_some (hT : TOK E.P c.T) (hC : CallOK E.P E.H c) (hW : CallWOK E.P E.H c) (hm : E.P.follows .mixedOrders = true) {cuts : List (Nat × List (Nat × Want))} {n : Nat} : ∀ (x : Code) (p : Nat) (S : ASt) (K : Ex → ASt → Option α) (Q : Exit → Act → World → Prop) (a : Act) (w : World),
    codeOk E.nt x = true → acode c idJ cuts n x p S K = some r → Rel E S a w → (∀ e S' a' w', K e S' = some r → Rel E S' a' w' → Q (toExit e) a' w') → x.wp E.P Q a w
  | .skip, p, S, K, Q, a, w, _, h, hR, hQ => wp_skip (hQ .norm S a w h hR)
  | .label l, p, S, K, Q, a, w, _, h, hR, hQ => wp_label (hQ .norm S a w h hR)
  | .region id ops dr, p, S, K, Q, a, w, hk, h, hR, hQ => region_some hT hC hW hm (by exact hk) h hR (hQ .norm)
  | .seq x y, p, S, K, Q, a, w, hk, h, hR, hQ => by
    simp only [codeOk, Bool.and_eq_true] at hk
    refine wp_seq (code_some hT hC hW hm x (2 * p) S _ _ a w hk.1 h hR fun e S' a' w' h' hR' => ?_)
    cases e with
    | norm =>
      obtain ⟨S2, h2, hR2⟩ := cut_some h' hR'
      exact code_some hT hC hW hm y (2 * p + 1) S2 K Q a' w' hk.2 h2 hR2 hQ
    | exit id => exact hQ (.exit id) S' a' w' h' hR'
    | ret => exact hQ .ret S' a' w' h' hR'
  | .cond x y z, p, S, K, Q, a, w, hk, h, hR, hQ => by
    simp only [codeOk, Bool.and_eq_true] at hk
    simp only [acode] at h
    split at h
    · rename_i t
      obtain ⟨b, h, hb⟩ := aif_some h
      have hv := rel_bool hR hb
      have hev : a.eval (.tmp t) = .bool b := hv
      cases b with
      | true => exact wp_cond hev (code_some hT hC hW hm y (2 * p) _ K Q a w hk.1 (by simpa using h) (rel_told hR hb) hQ)
      | false => exact wp_cond hev (code_some hT hC hW hm z (2 * p + 1) _ K Q a w hk.2 (by simpa using h) (rel_told hR hb) hQ)
    · rename_i b
      have hev : a.eval (.const (.bool b)) = .bool b := rfl
      cases b with
      | true => exact wp_cond hev (code_some hT hC hW hm y (2 * p) _ K Q a w hk.1 (by simpa using h) hR hQ)
      | false => exact wp_cond hev (code_some hT hC hW hm z (2 * p + 1) _ K Q a w hk.2 (by simpa using h) hR hQ)
    · cases h
  | .block id y, p, S, K, Q, a, w, hk, h, hR, hQ => by
    refine wp_block (code_some hT hC hW hm y (2 * p) S _ _ a w hk h hR fun e S' a' w' h' hR' => ?_)
    cases e with
    | norm => exact hQ .norm S' a' w' h' hR'
    | ret => exact hQ .ret S' a' w' h' hR'
    | exit j =>
      simp only at h'
      show Exit.inBlock id Q (.exit j) a' w'
      simp only [Exit.inBlock]
      split at h'
      · rename_i he
        rw [if_pos (Nat.eq_of_beq_eq_true he)]
        exact hQ .norm S' a' w' h' hR'
      · rename_i he
        rw [if_neg (fun e => by subst e; simp at he)]
        exact hQ (.exit j) S' a' w' h' hR'
  | .loop y, p, S, K, Q, a, w, hk, h, hR, hQ => by
    obtain ⟨S1, h1, hR1⟩ := cut_some (E := E) h hR
    refine wp_loop_m (fun m a w => ∃ S, Rel E S a w ∧ aloop (fun S K => acode c idJ cuts n y (2 * p) S K) (cutAt idJ cuts (2 * p + 1)) m S K = some r) ?_ (m := n) ⟨S1, hR1, h1⟩
    rintro m a w ⟨S, hR, h⟩
    cases m with
    | zero => cases h
    | succ m =>
      simp only [aloop] at h
      refine code_some hT hC hW hm y (2 * p) S _ _ a w hk h hR fun e S' a' w' h' hR' => ?_
      cases e with
      | norm =>
        obtain ⟨S2, h2, hR2⟩ := cut_some h' hR'
        exact ⟨m, Nat.lt_succ_self m, S2, hR2, h2⟩
      | exit id => exact hQ (.exit id) S' a' w' h' hR'
      | ret => exact hQ .ret S' a' w' h' hR'
  | .exit id, p, S, K, Q, a, w, _, h, hR, hQ => wp_exit (hQ (.exit id) S a w h hR)
  | .ret, p, S, K, Q, a, w, _, h, hR, hQ => wp_ret (hQ .ret S a w h hR)
  | .goto l, p, S, K, Q, a, w, _, h, hR, hQ => by cases h
  | .scope y, p, S, K, Q, a, w, hk, h, hR, hQ => wp_scope_straight (code_some hT hC hW hm y (2 * p) S K _ a w hk h hR fun e S' a' w' h' hR' => by cases e <;> exact hQ _ S' a' w' h' hR')
  | .rangeFunc _ _ _ _, p, S, K, Q, a, w, _, h, hR, hQ => by cases h
  | .refuse _, p, S, K, Q, a, w, _, h, hR, hQ => by cases h
end
end Go.Proofs.YtcacmhcekoeblaaDoorA
