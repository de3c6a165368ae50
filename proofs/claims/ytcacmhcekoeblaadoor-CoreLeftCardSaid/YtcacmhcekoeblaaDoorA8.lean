/- Operations that write or share: where the abstract evaluator answers, the machine does what it says. No conditions. -/
import Derived.Test.YtcacmhcekoeblaaDoorA7
import Derived.Maps.AppendAt
namespace Go.Proofs.YtcacmhcekoeblaaDoorA
open Go.RowKit
set_option linter.unusedVariables false
set_option linter.unusedSimpArgs false
set_option linter.unusedSectionVars false
theorem has_iff : ∀ (is : List Nat) (i : Nat), has is i = true ↔ i ∈ is
  | [], i => by simp [has]
  | a :: r, i => by
    simp only [has, List.mem_cons]
    by_cases h : a = i
    · subst h; simp
    · have : Nat.beq a i = false := by rw [← Bool.not_eq_true]; exact fun e => h (Nat.eq_of_beq_eq_true e)
      rw [this, has_iff r i]
      exact ⟨.inr, fun hh => hh.resolve_left fun e => h e.symm⟩
theorem freeze_get (is : List Nat) : ∀ (hp : List Blk) (n i : Nat), (freeze is hp n)[i]? = (hp[i]?).map (frz is (n + i))
  | [], n, i => by simp [freeze]
  | b :: r, n, 0 => by simp [freeze]
  | b :: r, n, i + 1 => by
    simp only [freeze, List.getElem?_cons_succ]
    rw [freeze_get is r (n + 1) i, show n + 1 + i = n + (i + 1) from by omega]
theorem freeze_length (is : List Nat) : ∀ (hp : List Blk) (n : Nat), (freeze is hp n).length = hp.length
  | [], n => rfl
  | b :: r, n => by simp [freeze, freeze_length is r]
theorem frz_cases (is : List Nat) (i : Nat) (b : Blk) : (∃ e k l, b = .ints e k l ∧ frz is i b = .froz k l ∧ i ∈ is) ∨ (∃ e k ls, b = .rws e k ls ∧ frz is i b = .frws k ls ∧ i ∈ is) ∨ (∃ t ss, b = .part t ss ∧ frz is i b = .fpart ss ∧ i ∈ is) ∨ frz is i b = b := by
  unfold frz
  split
  · rename_i e k l hh
    exact .inl ⟨e, k, l, rfl, rfl, (has_iff _ _).1 hh⟩
  · rename_i e k l hh
    exact .inr (.inl ⟨e, k, l, rfl, rfl, (has_iff _ _).1 hh⟩)
  · rename_i t ss hh
    exact .inr (.inr (.inl ⟨t, ss, rfl, rfl, (has_iff _ _).1 hh⟩))
  · exact .inr (.inr (.inr rfl))
/-- Blocks that are frozen. -/
def frzB : Blk → Bool
  | .ints _ _ _ => true
  | .rws _ _ _ => true
  | .part _ _ => true
  | _ => false
theorem frzB_live {b : Blk} (h : frzB b = true) : b.live = true := by cases b <;> first | rfl | cases h
section
variable {E : Env} {tm : Nat → AV} {hp : List Blk} {ρ : Nat → Option Value} {N : Nat → Prop} {a : Act} {w : World}
/-- Rows that are written no more. -/
theorem G.freeze (h : G E tm hp ρ N a w) (is : List Nat) : ∃ N', (∀ g, N g → N' g) ∧ G E tm (freeze is hp 0) ρ N' a w := by
  let N' : Nat → Prop := fun g => N g ∨ ∃ j b u, j ∈ is ∧ hp[j]? = some b ∧ frzB b = true ∧ ρ j = some u ∧ hand u = some g
  have hget : ∀ {i b}, (Go.Proofs.YtcacmhcekoeblaaDoorA.freeze is hp 0)[i]? = some b → ∃ b0, hp[i]? = some b0 ∧ b = frz is i b0 := by
    intro i b hb
    rw [freeze_get, Nat.zero_add] at hb
    obtain ⟨b0, h1, h2⟩ := Option.map_eq_some_iff.1 hb
    exact ⟨b0, h1, h2.symm⟩
  have hinn : ∀ g, N g → N' g := fun g h => .inl h
  refine ⟨N', hinn, h.df, h.sz, fun t => VR.keep hinn (fun _ _ => rfl) (fun _ _ h => h) _ _ (h.tm t), ?_, ?_, ?_, ?_, ?_, ?_, h.fr, fun g hg' => ⟨hinn g (h.kp g hg').1, (h.kp g hg').2⟩⟩
  · intro i b u hb hu
    obtain ⟨b0, h0, rfl⟩ := hget hb
    have h1 := h.bl i b0 u h0 hu
    rcases frz_cases is i b0 with ⟨e, k, l, rfl, h2, hi⟩ | ⟨e, k, ls, rfl, h2, hi⟩ | ⟨t, ss, rfl, h2, hi⟩ | h2
    · rw [h2]
      have ho : w.ownsRow E.B.lo e 1 u l.length (l.map (Value.int k)) := h1
      obtain ⟨A, c, e1, e2, e3⟩ := (own_at (P := default) ho).sh
      refine ⟨A, c, e1, e2, fun hl => ?_⟩
      obtain ⟨ad, ea, hc⟩ := e3 hl
      exact ⟨ad, ea, .inr ⟨i, _, u, hi, h0, rfl, hu, by rw [e1, ea]; rfl⟩, hc⟩
    · rw [h2]
      refine RecV.keep (rws_rec h1) (fun g hg => ?_) (fun _ _ => rfl)
      rcases hg with hg | hg
      · exact .inl hg
      · exact .inr ⟨i, _, u, hi, h0, rfl, hu, hg⟩
    · rw [h2]
      obtain ⟨g, arr, hv, hb1, hh, hs⟩ := h1
      refine ⟨g, arr.toList, hv, .inr ⟨i, _, u, hi, h0, rfl, hu, by rw [hv]; rfl⟩, SegsV.keep hinn (Nat.zero_le _) (fun _ _ => rfl) hs, fun j x hj => ?_⟩
      rw [cell_of_row w g j arr t (0, 0) hh, ← Array.getElem?_toList]
      exact hj
    · rw [h2]
      exact BR.keep hinn (fun _ _ => rfl) (fun _ _ h => h) (fun _ _ _ => rfl) h1
  · intro i u hu; rw [freeze_length]; exact h.lo i u hu
  · intro i j b b' u v g hb hb' hl hl' hij hu hv hg
    obtain ⟨b0, h0, rfl⟩ := hget hb
    obtain ⟨b0', h0', rfl⟩ := hget hb'
    have hlive : ∀ {i b0}, (frz is i b0).live = true → frz is i b0 = b0 := by
      intro i b0 hl
      rcases frz_cases is i b0 with ⟨e, k, l, rfl, h2, _⟩ | ⟨e, k, l, rfl, h2, _⟩ | ⟨t, ss, rfl, h2, _⟩ | h2
      · rw [h2] at hl; cases hl
      · rw [h2] at hl; cases hl
      · rw [h2] at hl; cases hl
      · exact h2
    rw [hlive hl] at hl
    rw [hlive hl'] at hl'
    exact h.ds i j b0 b0' u v g h0 h0' hl hl' hij hu hv hg
  · intro i b u g hb hl hu hg
    obtain ⟨b0, h0, rfl⟩ := hget hb
    rcases frz_cases is i b0 with ⟨e, k, l, rfl, h2, _⟩ | ⟨e, k, l, rfl, h2, _⟩ | ⟨t, ss, rfl, h2, _⟩ | h2
    · rw [h2] at hl; cases hl
    · rw [h2] at hl; cases hl
    · rw [h2] at hl; cases hl
    · rw [h2] at hl
      rintro (hN | ⟨j, b1, x, hj, hjb, hb1, hx, hxg⟩)
      · exact h.nn i b0 u g h0 hl hu hg hN
      · by_cases hij : i = j
        · subst hij
          rw [hjb] at h0
          injection h0 with h0
          subst h0
          have : has is i = true := (has_iff _ _).2 hj
          unfold frz at h2
          rw [this] at h2
          cases b1 <;> first | (cases hb1; done) | (simp at h2; done)
        · exact h.ds i j b0 _ u x g h0 hjb hl (frzB_live hb1) hij hu hx hg hxg
  · rintro g (hN | ⟨j, b1, x, hj, hjb, hb1, hx, hxg⟩)
    · exact h.nw g hN
    · exact (live_lt (h.bl j _ x hjb hx) (frzB_live hb1) g hxg).2
  · rintro g (hN | ⟨j, b1, x, hj, hjb, hb1, hx, hxg⟩)
    · exact h.na g hN
    · refine .inr ?_
      have h3 := h.bl j _ x hjb hx
      cases b1 with
      | ints e k l => exact ints_lo h3 g hxg
      | rws e k ls => obtain ⟨vs, h4, _⟩ := h3; exact (own_lo h4 g hxg).1
      | part t ss =>
        obtain ⟨g', arr, hv, hb, _⟩ := h3
        rw [hv] at hxg
        simp only [hand, Option.some.injEq] at hxg
        subst hxg
        exact hb
      | _ => cases hb1
/-- Rows that are appended to: the old name is dead. -/
theorem G.append0 (h : G E tm hp ρ N a w) {i : Nat} {b0 b1 : Blk} {x x' : Value} {w' : World} (hb : hp[i]? = some b0) (hlb : b0.live = true) (hlo : ∀ g, hand x = some g → E.B.lo ≤ g) (hsx : ∃ A n c, x = .slice A n c) (hsl : ∃ A n c, x' = .slice A n c) (hx : ρ i = some x) (hg : w.grownBy w' x.ownBlock)
    (hown : (∀ g, N g → w'.heap[g]? = w.heap[g]?) → (∀ j y, ρ j = some y → ins ρ hp.length x' j = some y) → BR E.B (ins ρ hp.length x') N w' x' b1) (hx' : x'.ownBlock = x.ownBlock ∨ x'.ownBlock = some w.heap.size) (hT : ρ hp.length = none) {d : Option Tmp} (hd : ∀ t, d = some t → t < E.nt) :
    G E (fun t => if d = some t then .own hp.length else tm t) (hp.set i .dead ++ [b1]) (ins ρ hp.length x') N (a.put d x') w' := by
  have hhx : hand x = x.ownBlock := by obtain ⟨A, n, c, rfl⟩ := hsx; cases A <;> rfl
  have hhx' : hand x' = x'.ownBlock := by obtain ⟨A, n, c, rfl⟩ := hsl; cases A <;> rfl
  have hN : ∀ g, N g → w'.heap[g]? = w.heap[g]? := fun g hN => hg.block g (h.nw g hN) (fun e' => h.nn i _ x g hb hlb hx (hhx.trans e'.symm) hN)
  have hext : ∀ j y, ρ j = some y → ins ρ hp.length x' j = some y := by
    intro j y hy
    unfold ins
    split
    · rename_i ej; subst ej; rw [hT] at hy; cases hy
    · exact hy
  have hdom : ∀ j y, ins ρ hp.length x' j = some y → j < hp.length → ρ j = some y := by
    intro j y hy hj
    unfold ins at hy
    rw [if_neg (by omega)] at hy
    exact hy
  have hil : i < hp.length := (List.getElem?_eq_some_iff.1 hb).1
  have hold : ∀ j b, (hp.set i .dead ++ [b1])[j]? = some b → j < hp.length → b.live = true → j ≠ i ∧ hp[j]? = some b := by
    intro j b hj hjl hl
    rw [List.getElem?_append_left (by simpa using hjl)] at hj
    by_cases eij : i = j
    · subst eij
      rw [List.getElem?_set_self hil] at hj
      injection hj with hj; subst hj; cases hl
    · rw [List.getElem?_set_ne eij] at hj
      exact ⟨fun e => eij e.symm, hj⟩
  have hnewb : ∀ j b, (hp.set i .dead ++ [b1])[j]? = some b → ¬ j < hp.length → j = hp.length ∧ b = b1 := by
    intro j b hj hjl
    rw [List.getElem?_append_right (by simpa using Nat.le_of_not_lt hjl), List.length_set] at hj
    have hj0 : j - hp.length = 0 := by
      have := (List.getElem?_eq_some_iff.1 hj).1
      simp at this; omega
    rw [hj0] at hj
    simp only [List.getElem?_cons_zero, Option.some.injEq] at hj
    exact ⟨by omega, hj.symm⟩
  have hnewx : ∀ y, ins ρ hp.length x' hp.length = some y → y = x' := by
    intro y hy; simp only [ins, if_pos] at hy; injection hy with hy; exact hy.symm
  have hfar : ∀ j b y g, hp[j]? = some b → b.live = true → j ≠ i → ρ j = some y → hand y = some g → hand x' ≠ some g := by
    intro j b y g hj hl hji hy hgy e'
    rcases hx' with h1 | h1
    · exact h.ds j i b _ y x g hj hb hl hlb hji hy hx hgy ((hhx.trans h1.symm).trans (hhx'.symm.trans e'))
    · have := (live_lt (h.bl j b y hj hy) hl g hgy).2
      rw [hhx', h1] at e'
      injection e' with e'
      omega
  refine ⟨by rw [defers_put]; exact h.df, by rw [size_put]; exact h.sz, G.tmput h hd ⟨by simp [ins], hsl⟩ (fun _ h => h) hN hext, ?_, ?_, ?_, ?_, ?_, h.na, ?_, fun g hg' => ⟨(h.kp g hg').1, (hN g (h.kp g hg').1).trans (h.kp g hg').2⟩⟩
  · intro j b y hj hy
    by_cases hjl : j < hp.length
    · rw [List.getElem?_append_left (by simpa using hjl)] at hj
      by_cases eij : i = j
      · subst eij
        rw [List.getElem?_set_self hil] at hj
        injection hj with hj; subst hj; trivial
      · rw [List.getElem?_set_ne eij] at hj
        have hy' := hdom j y hy hjl
        have h1 := h.bl j b y hj hy'
        refine BR.keep (fun _ h => h) hN hext (fun hl g hgy => ?_) h1
        refine hg.block g (live_lt h1 hl g hgy).2 (fun e' => ?_)
        exact h.ds j i b _ y x g hj hb hl hlb (fun e => eij e.symm) hy' hx hgy (hhx.trans e'.symm)
    · obtain ⟨rfl, rfl⟩ := hnewb j b hj hjl
      obtain rfl := hnewx y hy
      exact hown hN hext
  · intro j y hy
    simp only [List.length_append, List.length_set, List.length_cons, List.length_nil]
    unfold ins at hy
    split at hy
    · omega
    · have := h.lo j y hy; omega
  · intro j m b b' y z g hj hm hl hl' hjm hy hz hgy
    by_cases hjl : j < hp.length
    · obtain ⟨hji, hj0⟩ := hold j b hj hjl hl
      by_cases hml : m < hp.length
      · obtain ⟨hmi, hm0⟩ := hold m b' hm hml hl'
        exact h.ds j m b b' y z g hj0 hm0 hl hl' hjm (hdom j y hy hjl) (hdom m z hz hml) hgy
      · obtain ⟨rfl, rfl⟩ := hnewb m b' hm hml
        obtain rfl := hnewx z hz
        exact hfar j b y g hj0 hl hji (hdom j y hy hjl) hgy
    · obtain ⟨rfl, rfl⟩ := hnewb j b hj hjl
      obtain rfl := hnewx y hy
      by_cases hml : m < hp.length
      · obtain ⟨hmi, hm0⟩ := hold m b' hm hml hl'
        intro e'
        exact hfar m b' z g hm0 hl' hmi (hdom m z hz hml) e' hgy
      · obtain ⟨rfl, rfl⟩ := hnewb m b' hm hml
        exact absurd rfl hjm
  · intro j b y g hj hl hy hgy hNg
    by_cases hjl : j < hp.length
    · obtain ⟨hji, hj0⟩ := hold j b hj hjl hl
      exact h.nn j b y g hj0 hl (hdom j y hy hjl) hgy hNg
    · obtain ⟨rfl, rfl⟩ := hnewb j b hj hjl
      obtain rfl := hnewx y hy
      rcases hx' with h1 | h1
      · exact h.nn i _ x g hb hlb hx ((hhx.trans h1.symm).trans (hhx'.symm.trans hgy)) hNg
      · have := h.nw g hNg
        rw [hhx', h1] at hgy
        injection hgy with hgy
        omega
  · intro g hg'; exact Nat.lt_of_lt_of_le (h.nw g hg') hg.size
  · refine ⟨hg.os.trans h.fr.os, hg.tape.trans h.fr.tape, hg.output.trans h.fr.output, Nat.le_trans h.fr.size hg.size, fun j hj hx' => (hg.block j (by have := h.size; omega) (fun e' => ?_)).trans (h.fr.block j hj hx')⟩
    have : E.w0.heap.size ≤ j := hlo j (hhx.trans e'.symm)
    omega
/-- A block that is told less. -/
theorem G.sub (h : G E tm hp ρ N a w) {i : Nat} {b b' : Blk} (hb : hp[i]? = some b) (hl : b.live = true) (hbr : ∀ u, BR E.B ρ N w u b → BR E.B ρ N w u b') : G E tm (hp.set i b') ρ N a w := by
  have hget : ∀ {j : Nat} {b2 : Blk}, (hp.set i b')[j]? = some b2 → ∃ b0, hp[j]? = some b0 ∧ (b2.live = true → b0.live = true) ∧ ∀ u, BR E.B ρ N w u b0 → BR E.B ρ N w u b2 := by
    intro j b2 hj
    rw [List.getElem?_set] at hj
    split at hj
    · rename_i e
      subst e
      split at hj
      · injection hj with hj; subst hj; exact ⟨b, hb, fun _ => hl, hbr⟩
      · cases hj
    · exact ⟨b2, hj, fun h => h, fun _ h => h⟩
  refine ⟨h.df, h.sz, h.tm, ?_, ?_, ?_, ?_, h.nw, h.na, h.fr, h.kp⟩
  · intro j b2 u hj hu
    obtain ⟨b0, h1, _, h2⟩ := hget hj
    exact h2 u (h.bl j b0 u h1 hu)
  · intro j u hu; rw [List.length_set]; exact h.lo j u hu
  · intro j k b2 b3 u v g hj hk hl2 hl3 hjk hu hv hg
    obtain ⟨b0, h1, h2, _⟩ := hget hj
    obtain ⟨b0', h1', h2', _⟩ := hget hk
    exact h.ds j k b0 b0' u v g h1 h1' (h2 hl2) (h2' hl3) hjk hu hv hg
  · intro j b2 u g hj hl2 hu hg
    obtain ⟨b0, h1, h2, _⟩ := hget hj
    exact h.nn j b0 u g h1 (h2 hl2) hu hg
/-- A row that is appended to: the old name is dead. -/
theorem G.append (h : G E tm hp ρ N a w) {i e : Nat} {k : IntKind} {l l' : List Int} {x x' : Value} {w' : World} (hb : hp[i]? = some (.ints e k l)) (hx : ρ i = some x) (hg : w.grownBy w' x.ownBlock)
    (hown : w'.ownsRow E.B.lo e 1 x' l'.length (l'.map (Value.int k))) (hx' : x'.ownBlock = x.ownBlock ∨ x'.ownBlock = some w.heap.size) (hT : ρ hp.length = none) {d : Option Tmp} (hd : ∀ t, d = some t → t < E.nt) :
    G E (fun t => if d = some t then .own hp.length else tm t) (hp.set i .dead ++ [.ints e k l']) (ins ρ hp.length x') N (a.put d x') w' := by
  have hsl : ∃ A n c, x' = .slice A n c := by
    rcases hown.2 with ⟨hv, _⟩ | ⟨g, cap, cur, hv, _⟩
    · exact ⟨_, _, _, hv⟩
    · exact ⟨_, _, _, hv⟩
  have hsx : ∃ A n c, x = .slice A n c := by
    have ho : w.ownsRow E.B.lo e 1 x l.length (l.map (Value.int k)) := h.bl i _ x hb hx
    rcases ho.2 with ⟨hv, _⟩ | ⟨g, cap, cur, hv, _⟩
    · exact ⟨_, _, _, hv⟩
    · exact ⟨_, _, _, hv⟩
  exact h.append0 (b1 := .ints e k l') hb rfl (ints_lo (h.bl i _ x hb hx)) hsx hsl hx hg (fun _ _ => hown) hx' hT hd
end
theorem foldl_seg : ∀ (us l : List Value) (o : Nat), o + us.length ≤ l.length → (us.zipIdx 0).foldl (fun (l : List Value) p => l.set (o + p.2) p.1) l = l.take o ++ us ++ l.drop (o + us.length)
  | [], l, o, _ => by simp
  | u :: us, l, o, h => by
    simp only [List.length_cons] at h
    simp only [List.zipIdx_cons, List.foldl_cons, Nat.add_zero]
    have e : ((us.zipIdx (0 + 1)).foldl (fun (l : List Value) p => l.set (o + p.2) p.1) (l.set o u)) = ((us.zipIdx 0).foldl (fun (l : List Value) p => l.set (o + 1 + p.2) p.1) (l.set o u)) := by
      rw [show us.zipIdx (0 + 1) = (us.zipIdx 0).map (fun p => (p.1, p.2 + 1)) from by simp [List.zipIdx_eq_map_add (i := 1)]; intros; omega]
      rw [List.foldl_map]
      congr 1
      funext l p
      congr 1
      omega
    rw [e, foldl_seg us (l.set o u) (o + 1) (by simp; omega)]
    exact list_seg_step l o u us (by omega)
theorem okCells_one {ρ : Nat → Option Value} {N : Nat → Prop} {w : World} : ∀ {cs : List AV} {us : List Value}, okCells cs = true → VRs ρ N w cs us → ∀ u ∈ us, u.oneCell' = true
  | [], us, _, h, u, hu => by simp only [VRs] at h; subst h; cases hu
  | c :: cs, _, hk, h, u, hu => by
    simp only [VRs] at h
    obtain ⟨v, vs, rfl, h1, h2⟩ := h
    simp only [okCells] at hk
    split at hk
    · rename_i hc
      rcases List.mem_cons.1 hu with rfl | hu
      · cases c with
        | agg cs => cases hc
        | tup cs => cases hc
        | unk => cases hc
        | und => cases hc
        | int k n => obtain rfl : u = _ := h1; rfl
        | bool b => obtain rfl : u = _ := h1; rfl
        | prop p d => obtain rfl : u = _ := h1; rfl
        | ro k l => obtain ⟨A, c, rfl, _⟩ := h1; rfl
        | nil => obtain rfl : u = _ := h1; rfl
        | own i => obtain ⟨_, A, n, c, rfl⟩ := h1; rfl
        | ptr i o => obtain ⟨g, _, rfl⟩ := h1; rfl
        | pro k n => obtain ⟨ad, rfl, _⟩ := h1; rfl
        | pown i j => obtain ⟨g, o, n, c, _, _, _, rfl⟩ := h1; rfl
        | win i b e => obtain ⟨A, n, c, _, _, _, _, rfl⟩ := h1; rfl
        | fn f => obtain rfl : u = _ := h1; rfl
        | recs n cols => obtain ⟨A, c, rfl, _⟩ := h1; rfl
        | prec cs => obtain ⟨ad, rfl, _⟩ := h1; rfl
        | nilp => obtain rfl : u = _ := h1; rfl
        | nilf => obtain rfl : u = _ := h1; rfl
        | sg ss => cases hc
        | rp i o => obtain ⟨g, b0, _, rfl⟩ := h1; rfl
        | pel i o n j => obtain ⟨g, b0, _, _, _, rfl⟩ := h1; rfl
        | pseg ss => obtain ⟨g, o, mid, rfl, _⟩ := h1; rfl
      · exact okCells_one hk h2 u hu
    · cases hk
end Go.Proofs.YtcacmhcekoeblaaDoorA
