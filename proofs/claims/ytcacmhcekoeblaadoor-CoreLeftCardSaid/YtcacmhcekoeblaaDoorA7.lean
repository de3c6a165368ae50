/- The machine's state as the abstract evaluator knows it, and operations that write. No conditions. -/
import Derived.Test.YtcacmhcekoeblaaDoorA6
namespace Go.Proofs.YtcacmhcekoeblaaDoorA
open Go.RowKit
set_option linter.unusedVariables false
set_option linter.unusedSimpArgs false
set_option linter.unusedSectionVars false
/-- A call: the program, what is known of the world's tables, the world it began in, the blocks of its arguments, its slots. -/
structure Env where
  P : Program
  H : World → Prop
  w0 : World
  AB : Nat → Prop
  nt : Nat
  bor : Option Bor
  hH : ∀ w, w0.grownBy w (bor.map Bor.g) → H w
def Env.B (E : Env) : Bd := ⟨E.w0.heap.size, E.bor⟩
def Env.bg (E : Env) : Option Nat := E.bor.map Bor.g
structure G (E : Env) (tm : Nat → AV) (hp : List Blk) (ρ : Nat → Option Value) (N : Nat → Prop) (a : Act) (w : World) : Prop where
  df : a.defers = []
  sz : a.tmps.size = E.nt
  tm : ∀ t, VR ρ N w (tm t) (a.tmps.getD t undef)
  bl : ∀ i b u, hp[i]? = some b → ρ i = some u → BR E.B ρ N w u b
  lo : ∀ i u, ρ i = some u → i < hp.length
  ds : ∀ i j b b' u v g, hp[i]? = some b → hp[j]? = some b' → b.live = true → b'.live = true → i ≠ j → ρ i = some u → ρ j = some v → hand u = some g → hand v ≠ some g
  nn : ∀ i b u g, hp[i]? = some b → b.live = true → ρ i = some u → hand u = some g → ¬ N g
  nw : ∀ g, N g → g < w.heap.size
  na : ∀ g, N g → E.AB g ∨ E.w0.heap.size ≤ g
  fr : E.w0.grownBy w E.bg
  kp : ∀ g, E.AB g → N g ∧ w.heap[g]? = E.w0.heap[g]?
def Tot (ρ : Nat → Option Value) (n : Nat) : Prop := ∀ i, i < n → ∃ u, ρ i = some u
def Rel (E : Env) (S : ASt) (a : Act) (w : World) : Prop := ∃ ρ N, G E S.get S.hp ρ N a w ∧ Tot ρ S.hp.length
theorem G.size {E : Env} {tm : Nat → AV} {hp : List Blk} {ρ : Nat → Option Value} {N : Nat → Prop} {a : Act} {w : World} (h : G E tm hp ρ N a w) : E.w0.heap.size ≤ w.heap.size := h.fr.size
def okDst (nt : Nat) (o : Oper) : Bool := match o.dst with
  | some d => Nat.blt d nt
  | none => true
theorem getD_put {a : Act} {d : Option Tmp} {v : Value} (t : Nat) : (a.put d v).tmps.getD t undef = if d = some t ∧ t < a.tmps.size then v else a.tmps.getD t undef := by
  cases d with
  | none => simp [Act.put]
  | some d =>
    simp only [Act.put, Array.getD_eq_getD_getElem?, Array.getElem?_setIfInBounds]
    by_cases h : d = t
    · subst h
      by_cases h2 : d < a.tmps.size
      · simp [h2]
      · simp [h2, Array.getElem?_eq_none (Nat.le_of_not_lt h2)]
    · simp [h]
theorem size_put (a : Act) (d : Option Tmp) (v : Value) : (a.put d v).tmps.size = a.tmps.size := by cases d <;> simp [Act.put]
theorem defers_put (a : Act) (d : Option Tmp) (v : Value) : (a.put d v).defers = a.defers := by cases d <;> rfl
theorem get_put (S : ASt) (d : Option Nat) (v : AV) (t : Nat) : (S.put d v).get t = if d = some t then v else S.get t := by
  cases d with
  | none => simp [ASt.put]
  | some d => simp only [ASt.put, ASt.get, look_cons]; simp
theorem put_tm {S : ASt} {d : Option Nat} {v : AV} {hp : List Blk} (t : Nat) : ({ tm := (S.put d v).tm, hp := hp } : ASt).get t = if d = some t then v else S.get t := get_put S d v t
section
variable {E : Env} {tm : Nat → AV} {hp : List Blk} {ρ ρ' : Nat → Option Value} {N N' : Nat → Prop} {a : Act} {w w' : World}
/-- A slot that gets a value. -/
theorem G.tmput (h : G E tm hp ρ N a w) {d : Option Tmp} {v : AV} {u : Value} (hd : ∀ t, d = some t → t < E.nt) (hv : VR ρ' N' w' v u) (hN : ∀ g, N g → N' g) (hw : ∀ g, N g → w'.heap[g]? = w.heap[g]?) (hρ : ∀ i x, ρ i = some x → ρ' i = some x) (t : Nat) :
    VR ρ' N' w' (if d = some t then v else tm t) ((a.put d u).tmps.getD t undef) := by
  rw [getD_put]
  by_cases hdt : d = some t
  · rw [if_pos hdt, if_pos ⟨hdt, by rw [h.sz]; exact hd t hdt⟩]
    exact hv
  · rw [if_neg hdt, if_neg (fun hh => hdt hh.1)]
    exact VR.keep hN hw hρ _ _ (h.tm t)
theorem BR.keep {B : Bd} (hN : ∀ g, N g → N' g) (hw : ∀ g, N g → w'.heap[g]? = w.heap[g]?) (hρ : ∀ i x, ρ i = some x → ρ' i = some x) {u : Value} {b : Blk} (hg : b.live = true → ∀ g, hand u = some g → w'.heap[g]? = w.heap[g]?) (h : BR B ρ N w u b) : BR B ρ' N' w' u b := by
  cases b with
  | dead => trivial
  | froz k l => exact RoV.keep h hN hw
  | ints e k l =>
    obtain ⟨h1, h2⟩ := h
    refine ⟨h1, ?_⟩
    rcases h2 with h2 | ⟨g, cap, cur, hv, hb, hh, r⟩
    · exact .inl h2
    · exact .inr ⟨g, cap, cur, hv, hb, by rw [hg rfl g (by rw [hv]; rfl)]; exact hh, r⟩
  | cells t cs =>
    obtain ⟨g, arr, hv, hb, hh, r⟩ := h
    exact ⟨g, arr, hv, hb, by rw [hg rfl g (by rw [hv]; rfl)]; exact hh, VRs.keep hN hw hρ _ _ r⟩
  | bor k l =>
    obtain ⟨d, c, h1, h4, hv, h2, h3, hh⟩ := h
    exact ⟨d, c, h1, h4, hv, h2, h3, by rw [hg rfl d.g (by rw [hv]; rfl)]; exact hh⟩
  | room e k l c =>
    obtain ⟨⟨h1, h2⟩, h3⟩ := h
    refine ⟨⟨h1, ?_⟩, h3⟩
    rcases h2 with h2 | ⟨g, cap, cur, hv, hb, hh, r⟩
    · exact .inl h2
    · exact .inr ⟨g, cap, cur, hv, hb, by rw [hg rfl g (by rw [hv]; rfl)]; exact hh, r⟩
  | frws k ls => exact RecV.keep h hN hw
  | part t ss =>
    obtain ⟨g, arr, hv, hb, hh, r⟩ := h
    exact ⟨g, arr, hv, hb, by rw [hg rfl g (by rw [hv]; rfl)]; exact hh, SegsV.keep hN (Nat.le_refl _) hw r⟩
  | bpart ss =>
    obtain ⟨d, mid, h1, hv, hh, r⟩ := h
    exact ⟨d, mid, h1, hv, by rw [hg rfl d.g (by rw [hv]; rfl)]; exact hh, SegsV.keep hN (Nat.le_refl _) hw r⟩
  | fpart ss =>
    obtain ⟨g, mid, hv, hn, r, hc⟩ := h
    exact ⟨g, mid, hv, hN g hn, SegsV.keep hN (Nat.le_refl _) hw r, fun j u hj => (World.cell?_of_block (hw _ hn)).trans (hc j u hj)⟩
  | rws e k ls =>
    obtain ⟨vs, ⟨h1, h2⟩, h3⟩ := h
    refine ⟨vs, ⟨h1, ?_⟩, VRs.keep hN hw hρ _ _ h3⟩
    rcases h2 with h2 | ⟨g, cap, cur, hv, hb, hh, r⟩
    · exact .inl h2
    · exact .inr ⟨g, cap, cur, hv, hb, by rw [hg rfl g (by rw [hv]; rfl)]; exact hh, r⟩
  | fns e fs =>
    obtain ⟨vs, ⟨h1, h2⟩, h3⟩ := h
    refine ⟨vs, ⟨h1, ?_⟩, VRs.keep hN hw hρ _ _ h3⟩
    rcases h2 with h2 | ⟨g, cap, cur, hv, hb, hh, r⟩
    · exact .inl h2
    · exact .inr ⟨g, cap, cur, hv, hb, by rw [hg rfl g (by rw [hv]; rfl)]; exact hh, r⟩
theorem own_lo {lo e n : Nat} {u : Value} {xs : List Value} (h : w.ownsRow lo e 1 u n xs) : ∀ g, hand u = some g → lo ≤ g ∧ g < w.heap.size := by
  intro g hg
  rcases h.2 with ⟨hv, _⟩ | ⟨g', cap, cur, hv, hb, hh, _⟩
  · rw [hv] at hg; cases hg
  · rw [hv] at hg
    simp only [hand, Option.some.injEq] at hg
    subst hg
    exact ⟨hb, (Array.getElem?_eq_some_iff.1 hh).1⟩
theorem live_lt {B : Bd} {u : Value} {b : Blk} (h : BR B ρ N w u b) (hl : b.live = true) : ∀ g, hand u = some g → (B.lo ≤ g ∨ B.bor.map Bor.g = some g) ∧ g < w.heap.size := by
  intro g hg
  cases b with
  | dead => cases hl
  | froz k l => cases hl
  | ints e k l =>
    rcases h.2 with ⟨hv, _⟩ | ⟨g', cap, cur, hv, hb, hh, _⟩
    · rw [hv] at hg; cases hg
    · rw [hv] at hg
      simp only [hand, Option.some.injEq] at hg
      subst hg
      exact ⟨.inl hb, (Array.getElem?_eq_some_iff.1 hh).1⟩
  | cells t cs =>
    obtain ⟨g', arr, hv, hb, hh, _⟩ := h
    rw [hv] at hg
    simp only [hand, Option.some.injEq] at hg
    subst hg
    exact ⟨.inl hb, (Array.getElem?_eq_some_iff.1 hh).1⟩
  | bor k l =>
    obtain ⟨d, c, h1, h4, hv, h2, h3, hh⟩ := h
    rw [hv] at hg
    simp only [hand, Option.some.injEq] at hg
    subst hg
    exact ⟨.inr (by rw [h1]; rfl), (Array.getElem?_eq_some_iff.1 hh).1⟩
  | frws k ls => cases hl
  | part t ss =>
    obtain ⟨g', arr, hv, hb, hh, _⟩ := h
    rw [hv] at hg
    simp only [hand, Option.some.injEq] at hg
    subst hg
    exact ⟨.inl hb, (Array.getElem?_eq_some_iff.1 hh).1⟩
  | bpart ss =>
    obtain ⟨d, mid, h1, hv, hh, _⟩ := h
    rw [hv] at hg
    simp only [hand, Option.some.injEq] at hg
    subst hg
    exact ⟨.inr (by rw [h1]; rfl), (Array.getElem?_eq_some_iff.1 hh).1⟩
  | fpart ss => cases hl
  | room e k l c => exact ⟨.inl (own_lo h.1 g hg).1, (own_lo h.1 g hg).2⟩
  | rws e k ls =>
    obtain ⟨vs, h1, _⟩ := h
    exact ⟨.inl (own_lo h1 g hg).1, (own_lo h1 g hg).2⟩
  | fns e fs =>
    obtain ⟨vs, h1, _⟩ := h
    exact ⟨.inl (own_lo h1 g hg).1, (own_lo h1 g hg).2⟩
/-- A row of the call's own stands above what there was. -/
theorem ints_lo {B : Bd} {u : Value} {e : Nat} {k : IntKind} {l : List Int} (h : BR B ρ N w u (.ints e k l)) : ∀ g, hand u = some g → B.lo ≤ g := by
  intro g hg
  rcases h.2 with ⟨hv, _⟩ | ⟨g', cap, cur, hv, hb, hh, _⟩
  · rw [hv] at hg; cases hg
  · rw [hv] at hg
    simp only [hand, Option.some.injEq] at hg
    subst hg
    exact hb
theorem new_lo {B : Bd} {u : Value} {b : Blk} (hb : NewB b) (h : BR B ρ N w u b) : ∀ g, hand u = some g → B.lo ≤ g := by
  rcases hb with ⟨_, _, _, rfl⟩ | ⟨_, _, rfl⟩ | ⟨_, _, rfl⟩
  · exact ints_lo h
  · obtain ⟨vs, h1, _⟩ := h
    exact fun g hg => (own_lo h1 g hg).1
  · obtain ⟨g', arr, hv, hb, hh, _⟩ := h
    intro g hg
    rw [hv] at hg
    simp only [hand, Option.some.injEq] at hg
    subst hg
    exact hb
theorem grown_below {w0 w w' : World} {x : Option Nat} (h : w0.grownBy w x) (h2 : Below w.heap.size w w') : w0.grownBy w' x :=
  ⟨h2.os.trans h.os, h2.tape.trans h.tape, h2.output.trans h.output, Nat.le_trans h.size h2.size, fun k hk hx => (h2.block k (Nat.lt_of_lt_of_le hk h.size)).trans (h.block k hk hx)⟩
theorem grown_one {w0 w w' : World} {x : Option Nat} {g : Nat} (h : w0.grownBy w x) (h2 : w.grownBy w' (some g)) (hg : w0.heap.size ≤ g ∨ x = some g) : w0.grownBy w' x :=
  ⟨h2.os.trans h.os, h2.tape.trans h.tape, h2.output.trans h.output, Nat.le_trans h.size h2.size, fun k hk hx => (h2.block k (Nat.lt_of_lt_of_le hk h.size) (fun e => by
    injection e with e
    subst e
    rcases hg with hg | hg
    · omega
    · exact hx hg.symm)).trans (h.block k hk hx)⟩
/-- New rows. -/
theorem G.grow (h : G E tm hp ρ N a w) {nb : List Blk} {d : Option Tmp} {v : AV} {u : Value} (hd : ∀ t, d = some t → t < E.nt) (hg : Grow E.B hp.length ρ N w nb ρ' N' w') (hv : VR ρ' N' w' v u) :
    G E (fun t => if d = some t then v else tm t) (hp ++ nb) ρ' N' (a.put d u) w' := by
  have hN : ∀ g, N g → w'.heap[g]? = w.heap[g]? := fun g hN => hg.bel.block g (h.nw g hN)
  have hdom : ∀ i x, ρ' i = some x → i < hp.length → ρ i = some x := by
    intro i x hi hl
    rcases hg.dom i x hi with h1 | ⟨h1, _⟩
    · exact h1
    · omega
  have hnew : ∀ i b x, (hp ++ nb)[i]? = some b → ρ' i = some x → ¬ i < hp.length → BR E.B ρ' N' w' x b ∧ ∀ g, hand x = some g → w.heap.size ≤ g ∧ ¬ N' g := by
    intro i b x hb hx hl
    rw [List.getElem?_append_right (by omega)] at hb
    obtain ⟨x', h1, h2, h3⟩ := hg.blk _ _ hb
    rw [show hp.length + (i - hp.length) = i from by omega, hx] at h1
    injection h1 with h1
    subst h1
    exact ⟨h2, h3⟩
  refine ⟨by rw [defers_put]; exact h.df, by rw [size_put]; exact h.sz, G.tmput h hd hv hg.inn hN hg.ext, ?_, ?_, ?_, ?_, ?_, ?_, ?_, fun g hg' => ⟨hg.inn g (h.kp g hg').1, (hN g (h.kp g hg').1).trans (h.kp g hg').2⟩⟩
  · intro i b x hb hx
    by_cases hl : i < hp.length
    · rw [List.getElem?_append_left hl] at hb
      have h1 := h.bl i b x hb (hdom i x hx hl)
      exact BR.keep hg.inn hN hg.ext (fun hlv g hgg => hg.bel.block g (live_lt h1 hlv g hgg).2) h1
    · exact (hnew i b x hb hx hl).1
  · intro i x hx
    rw [List.length_append]
    rcases hg.dom i x hx with h1 | ⟨_, h1⟩
    · have := h.lo i x h1; omega
    · exact h1
  · intro i j b b' x y g hb hb' hl hl' hij hx hy hgx
    by_cases hi : i < hp.length
    · by_cases hj : j < hp.length
      · rw [List.getElem?_append_left hi] at hb
        rw [List.getElem?_append_left hj] at hb'
        exact h.ds i j b b' x y g hb hb' hl hl' hij (hdom i x hx hi) (hdom j y hy hj) hgx
      · rw [List.getElem?_append_left hi] at hb
        have h1 := (live_lt (h.bl i b x hb (hdom i x hx hi)) hl g hgx).2
        intro e
        have := ((hnew j b' y hb' hy hj).2 g e).1
        omega
    · by_cases hj : j < hp.length
      · rw [List.getElem?_append_left hj] at hb'
        have h1 := ((hnew i b x hb hx hi).2 g hgx).1
        intro e
        have := (live_lt (h.bl j b' y hb' (hdom j y hy hj)) hl' g e).2
        omega
      · have hil : i < (hp ++ nb).length := (List.getElem?_eq_some_iff.1 hb).1
        have hjl : j < (hp ++ nb).length := (List.getElem?_eq_some_iff.1 hb').1
        rw [List.length_append] at hil hjl
        exact hg.dis (i - hp.length) (j - hp.length) x y g (by omega) (by omega) (by omega) (by rw [show hp.length + (i - hp.length) = i from by omega]; exact hx) (by rw [show hp.length + (j - hp.length) = j from by omega]; exact hy) hgx
  · intro i b x g hb hl hx hgx
    by_cases hi : i < hp.length
    · rw [List.getElem?_append_left hi] at hb
      have hx' := hdom i x hx hi
      intro hN'
      rcases hg.out g hN' with h1 | ⟨h1, _⟩
      · exact h.nn i b x g hb hl hx' hgx h1
      · have := (live_lt (h.bl i b x hb hx') hl g hgx).2
        omega
    · exact ((hnew i b x hb hx hi).2 g hgx).2
  · intro g hg'
    rcases hg.out g hg' with h1 | h1
    · exact Nat.lt_of_lt_of_le (h.nw g h1) hg.bel.size
    · exact h1.2
  · intro g hg'
    rcases hg.out g hg' with h1 | h1
    · exact h.na g h1
    · exact .inr (Nat.le_trans h.size h1.1)
  · exact grown_below h.fr hg.bel
/-- A block of the call's own is written. -/
theorem G.write (h : G E tm hp ρ N a w) {i : Nat} {b b' : Blk} {x : Value} {g : Nat} (hb : hp[i]? = some b) (hl : b.live = true) (hl' : b'.live = true) (hx : ρ i = some x) (hgx : hand x = some g)
    (hgr : w.grownBy w' (some g)) (hBR : BR E.B ρ N w' x b')
    {d : Option Tmp} {v : AV} {u : Value} (hd : ∀ t, d = some t → t < E.nt) (hv : VR ρ N w v u) : G E (fun t => if d = some t then v else tm t) (hp.set i b') ρ N (a.put d u) w' := by
  have hgN := h.nn i b x g hb hl hx hgx
  have hgB := live_lt (h.bl i b x hb hx) hl g hgx
  have hw : ∀ k, k < w.heap.size → k ≠ g → w'.heap[k]? = w.heap[k]? := fun k hk hne => hgr.block k hk (fun e => hne (by injection e))
  have hN : ∀ k, N k → w'.heap[k]? = w.heap[k]? := fun k hk => hw k (h.nw k hk) (fun e => hgN (e ▸ hk))
  have hget : ∀ j c, (hp.set i b')[j]? = some c → (j = i ∧ c = b') ∨ (j ≠ i ∧ hp[j]? = some c) := by
    intro j c hc
    rw [List.getElem?_set] at hc
    by_cases e : i = j
    · subst e
      rw [if_pos rfl] at hc
      split at hc
      · injection hc with hc; exact .inl ⟨rfl, hc.symm⟩
      · cases hc
    · rw [if_neg e] at hc
      exact .inr ⟨fun e' => e e'.symm, hc⟩
  refine ⟨by rw [defers_put]; exact h.df, by rw [size_put]; exact h.sz, fun t => G.tmput h hd (VR.keep (fun _ h => h) hN (fun _ _ h => h) _ _ hv) (fun _ h => h) hN (fun _ _ h => h) t, ?_, ?_, ?_, ?_, ?_, h.na, ?_, fun g hg' => ⟨(h.kp g hg').1, (hN g (h.kp g hg').1).trans (h.kp g hg').2⟩⟩
  · intro j c y hc hy
    rcases hget j c hc with ⟨rfl, rfl⟩ | ⟨hji, hc⟩
    · rw [hx] at hy; injection hy with hy; subst hy; exact hBR
    · have h1 := h.bl j c y hc hy
      refine BR.keep (fun _ h => h) hN (fun _ _ h => h) (fun hlv k hk => hw k (live_lt h1 hlv k hk).2 ?_) h1
      rintro rfl
      exact h.ds i j b c x y k hb hc hl hlv (fun e => hji e.symm) hx hy hgx hk
  · intro j y hy; rw [List.length_set]; exact h.lo j y hy
  · intro j k c c' y z g' hc hc' hlc hlc' hjk hy hz hg'
    rcases hget j c hc with ⟨e1, e2⟩ | ⟨hji, hc2⟩
    · rcases hget k c' hc' with ⟨e3, e4⟩ | ⟨hki, hc3⟩
      · exact absurd (e1.trans e3.symm) hjk
      · exact h.ds j k b c' y z g' (e1 ▸ hb) hc3 hl hlc' hjk hy hz hg'
    · rcases hget k c' hc' with ⟨e3, e4⟩ | ⟨hki, hc3⟩
      · exact h.ds j k c b y z g' hc2 (e3 ▸ hb) hlc hl hjk hy hz hg'
      · exact h.ds j k c c' y z g' hc2 hc3 hlc hlc' hjk hy hz hg'
  · intro j c y g' hc hlc hy hg'
    rcases hget j c hc with ⟨rfl, rfl⟩ | ⟨hji, hc⟩
    · exact h.nn j b y g' hb hl hy hg'
    · exact h.nn j c y g' hc hlc hy hg'
  · intro k hk; exact Nat.lt_of_lt_of_le (h.nw k hk) hgr.size
  · exact grown_one h.fr hgr hgB.1
end
section
variable {E : Env} {S : ASt} {a : Act} {w : World}
theorem ev_VR {ρ : Nat → Option Value} {N : Nat → Prop} (h : G E S.get S.hp ρ N a w) (x : Operand) : VR ρ N w (S.ev x) (a.eval x) := by
  cases x with
  | tmp t => exact h.tm t
  | const v => exact VR_const v
  | func f => exact rfl
  | global g => trivial
theorem G.pre {ρ : Nat → Option Value} {N : Nat → Prop} (h : G E S.get S.hp ρ N a w) (op : Op) : Pre E.B S op ρ N a w := ⟨fun x _ => ev_VR h x, h.bl, h.nw, h.size⟩
theorem okDst_lt {nt : Nat} {o : Oper} (h : okDst nt o = true) : ∀ t, o.dst = some t → t < nt := by
  intro t ht
  unfold okDst at h
  rw [ht] at h
  exact Nat.le_of_ble_eq_true h
/-- A light operation. -/
theorem rel_light {o : Oper} {v : AV} {nb : List Blk} (h : Rel E S a w) (hd : okDst E.nt o = true) (ht : Told E.P E.H E.B S o.op v nb) (Q : Exit → Act → World → Prop) :
    o.wp E.P a w (fun a' w' => Rel E { tm := (S.put o.dst v).tm, hp := S.hp ++ nb } a' w') Q := by
  obtain ⟨ρ, N, hG, hT⟩ := h
  refine ht o ρ N a w rfl ⟨E.hH w hG.fr, fun g w' hg hgr => E.hH w' (grown_one hG.fr hgr hg)⟩ (hG.pre _) ?_ _ Q ?_
  · intro i h1 _
    cases hr : ρ i with
    | none => rfl
    | some u => exact absurd (hG.lo i u hr) (by omega)
  · intro val ρ' N' w' hg hv
    have h2 := hG.grow (d := o.dst) (okDst_lt hd) hg hv
    refine ⟨ρ', N', ?_, ?_⟩
    · have e : (fun t => if o.dst = some t then v else S.get t) = ({ tm := (S.put o.dst v).tm, hp := S.hp ++ nb } : ASt).get := funext fun t => (put_tm t).symm
      rw [← e]
      exact h2
    · intro i hi
      simp only [List.length_append] at hi
      by_cases hl : i < S.hp.length
      · obtain ⟨u, hu⟩ := hT i hl
        exact ⟨u, hg.ext i u hu⟩
      · obtain ⟨u, h3, _⟩ := hg.blk (i - S.hp.length) _ (List.getElem?_eq_getElem (by omega))
        rw [show S.hp.length + (i - S.hp.length) = i from by omega] at h3
        exact ⟨u, h3⟩
end
end Go.Proofs.YtcacmhcekoeblaaDoorA
