/- What the abstract evaluator's values say of the machine's memory, and how that is kept. No conditions. -/
import Derived.Test.YtcacmhcekoeblaaDoorA1
namespace Go.Proofs.YtcacmhcekoeblaaDoorA
open Go.RowKit
set_option linter.unusedVariables false
set_option linter.unusedSimpArgs false
/-- A row of numbers that is read; its block is one of N. -/
def RoV (N : Nat → Prop) (w : World) (k : IntKind) (l : List Int) (v : Value) : Prop :=
  ∃ A c, v = .slice A l.length c ∧ l.length ≤ c ∧ (0 < l.length → ∃ ad, A = some ad ∧ N ad.block ∧ ∀ j, j < l.length → w.cell? (ad.add j) = some (.int k (l.getD j 0)))
def CellV (N : Nat → Prop) (w : World) : Cell → Value → Prop
  | .int k n, v => v = .int k n
  | .bool b, v => v = .bool b
  | .row k l, v => RoV N w k l v
/-- Cells that are read, from an address on. -/
def CellsV (N : Nat → Prop) (w : World) (ad : Addr) (cs : List Cell) : Prop := ∀ i c, nth cs i = some c → ∃ u, w.cell? (ad.add i) = some u ∧ CellV N w c u
/-- Records that are read; their block is one of N. -/
def RecV (N : Nat → Prop) (w : World) (n : Int) (cols : List Col) (v : Value) : Prop :=
  ∃ A c, v = .slice A n.toNat c ∧ 0 ≤ n ∧ n.toNat ≤ c ∧ (0 < n → ∃ ad, A = some ad ∧ N ad.block ∧ ∀ j : Int, 0 ≤ j → j < n → CellsV N w (ad.add (j.toNat * cols.length)) (colsAt j cols))
/-- Parts, as cells (rows that are told new stand in blocks from lo on). -/
def SegsV (N : Nat → Prop) (lo : Nat) (w : World) : List Seg → List Value → Prop
  | [], vs => vs = []
  | .int k n :: r, vs => ∃ us, vs = .int k n :: us ∧ SegsV N lo w r us
  | .bool b :: r, vs => ∃ us, vs = .bool b :: us ∧ SegsV N lo w r us
  | .arr k n l :: r, vs => ∃ us, vs = l.map (Value.int k) ++ us ∧ l.length = n ∧ SegsV N lo w r us
  | .row nw k l :: r, vs => ∃ u us, vs = u :: us ∧ RoV (fun g => N g ∧ (nw = true → lo ≤ g)) w k l u ∧ SegsV N lo w r us
mutual
def VR (ρ : Nat → Option Value) (N : Nat → Prop) (w : World) : AV → Value → Prop
  | .unk, _ => True
  | .und, v => v = undef
  | .int k n, v => v = .int k n
  | .bool b, v => v = .bool b
  | .prop p d, v => v = .bool (@decide p d)
  | .ro k l, v => RoV N w k l v
  | .nil, v => v = .slice none 0 0
  | .own i, v => ρ i = some v ∧ ∃ A n c, v = .slice A n c
  | .ptr i o, v => ∃ g, ρ i = some (.pointer (some ⟨g, 0, none⟩)) ∧ v = .pointer (some ⟨g, o, none⟩)
  | .pro k n, v => ∃ ad, v = .pointer (some ad) ∧ N ad.block ∧ w.cell? ad = some (.int k n)
  | .pown i j, v => ∃ g o n c, ρ i = some (.slice (some ⟨g, o, none⟩) n c) ∧ 0 ≤ j ∧ j.toNat < n ∧ v = .pointer (some ⟨g, o + j.toNat, none⟩)
  | .win i b e, v => ∃ A n c, ρ i = some (.slice A n c) ∧ 0 ≤ b ∧ b ≤ e ∧ e.toNat ≤ n ∧ v = sliced A b.toNat e.toNat c 1
  | .fn f, v => v = .func (.func f) #[] #[]
  | .agg cs, v => ∃ vs, v = .agg vs ∧ VRs ρ N w cs vs.toList
  | .tup cs, v => ∃ vs, v = .tuple vs ∧ VRs ρ N w cs vs.toList
  | .recs n cols, v => RecV N w n cols v
  | .prec cs, v => ∃ ad, v = .pointer (some ad) ∧ N ad.block ∧ CellsV N w ad cs
  | .nilp, v => v = .pointer none
  | .sg ss, v => ∃ vs, v = .agg vs ∧ SegsV N 0 w ss vs.toList
  | .rp i o, v => ∃ g b, ρ i = some (.pointer (some ⟨g, b, none⟩)) ∧ v = .pointer (some ⟨g, b + o, none⟩)
  | .pel i o n j, v => ∃ g b, ρ i = some (.pointer (some ⟨g, b, none⟩)) ∧ 0 ≤ j ∧ j.toNat < n ∧ v = .pointer (some ⟨g, b + o + j.toNat, none⟩)
  | .pseg ss, v => ∃ g o mid, v = .pointer (some ⟨g, o, none⟩) ∧ N g ∧ SegsV N 0 w ss mid ∧ ∀ j u, mid[j]? = some u → w.cell? ⟨g, o + j, none⟩ = some u
  | .nilf, v => v = .nilFunc
def VRs (ρ : Nat → Option Value) (N : Nat → Prop) (w : World) : List AV → List Value → Prop
  | [], vs => vs = []
  | c :: cs, vs => ∃ u us, vs = u :: us ∧ VR ρ N w c u ∧ VRs ρ N w cs us
end
/-- The block that a handle names. -/
def hand : Value → Option Nat
  | .slice (some a) _ _ => some a.block
  | .pointer (some a) => some a.block
  | _ => none
def Blk.live : Blk → Bool
  | .ints _ _ _ => true
  | .cells _ _ => true
  | .bor _ _ => true
  | .rws _ _ _ => true
  | .fns _ _ => true
  | .room _ _ _ _ => true
  | .part _ _ => true
  | .bpart _ => true
  | _ => false
/-- A borrowed row: its block, its length, the block's element type, its elements' kind, what stands ahead of it and behind it. -/
structure Bor where
  g : Nat
  n : Nat
  e : Nat
  k : IntKind
  pre : List Value
  post : List Value
/-- Own blocks: from lo on; bor: the borrowed row. -/
structure Bd where
  lo : Nat
  bor : Option Bor
def BR (B : Bd) (ρ : Nat → Option Value) (N : Nat → Prop) (w : World) (v : Value) : Blk → Prop
  | .ints e k l => w.ownsRow B.lo e 1 v l.length (l.map (Value.int k))
  | .froz k l => RoV N w k l v
  | .cells t cs => ∃ g arr, v = .pointer (some ⟨g, 0, none⟩) ∧ B.lo ≤ g ∧ w.heap[g]? = some (.cells arr t (0, 0)) ∧ VRs ρ N w cs arr.toList
  | .bor k l => ∃ (d : Bor) (c : Nat), B.bor = some d ∧ (d.n = l.length ∧ d.k = k) ∧ v = .slice (some ⟨d.g, d.pre.length, none⟩) l.length c ∧ l.length ≤ c ∧ 0 < l.length ∧ w.heap[d.g]? = some (.cells (d.pre ++ l.map (Value.int k) ++ d.post).toArray d.e (0, 0))
  | .rws e k ls => ∃ vs, w.ownsRow B.lo e 1 v ls.length vs ∧ VRs ρ N w (ros k ls) vs
  | .fns e fs => ∃ vs, w.ownsRow B.lo e 1 v fs.length vs ∧ VRs ρ N w (fs.map fav) vs
  | .room e k l c => w.ownsRow B.lo e 1 v l.length (l.map (Value.int k)) ∧ ∃ g cp, v = .slice (some ⟨g, 0, none⟩) l.length cp ∧ c ≤ (cp : Int)
  | .frws k ls => RecV N w (lnr ls) [.row k ls] v
  | .part t ss => ∃ g arr, v = .pointer (some ⟨g, 0, none⟩) ∧ B.lo ≤ g ∧ w.heap[g]? = some (.cells arr t (0, 0)) ∧ SegsV N B.lo w ss arr.toList
  | .bpart ss => ∃ (d : Bor) (mid : List Value), B.bor = some d ∧ v = .pointer (some ⟨d.g, d.pre.length, none⟩) ∧ w.heap[d.g]? = some (.cells (d.pre ++ mid ++ d.post).toArray d.e (0, 0)) ∧ SegsV N B.lo w ss mid
  | .fpart ss => ∃ g mid, v = .pointer (some ⟨g, 0, none⟩) ∧ N g ∧ SegsV N 0 w ss mid ∧ ∀ j u, mid[j]? = some u → w.cell? ⟨g, j, none⟩ = some u
  | .dead => True
theorem own_weaken {w : World} {base base' : Nat} {e : TypeId} {size n : Nat} {v : Value} {xs : List Value} (h : w.ownsRow base e size v n xs) (hb : base' ≤ base) : w.ownsRow base' e size v n xs := by
  obtain ⟨h1, h2⟩ := h
  refine ⟨h1, ?_⟩
  rcases h2 with h2 | ⟨g, cap, cur, rfl, hg, r⟩
  · exact .inl h2
  · exact .inr ⟨g, cap, cur, rfl, Nat.le_trans hb hg, r⟩
theorem RoV.keep {N N' : Nat → Prop} {w w' : World} {k : IntKind} {l : List Int} {v : Value} (h : RoV N w k l v) (hN : ∀ g, N g → N' g) (hw : ∀ g, N g → w'.heap[g]? = w.heap[g]?) : RoV N' w' k l v := by
  obtain ⟨A, c, e, hc, hr⟩ := h
  refine ⟨A, c, e, hc, fun hl => ?_⟩
  obtain ⟨ad, ea, hn, hcell⟩ := hr hl
  refine ⟨ad, ea, hN _ hn, fun j hj => ?_⟩
  have hb : (ad.add j).block = ad.block := by unfold Addr.add; split <;> rfl
  exact (World.cell?_of_block (by rw [hb]; exact hw _ hn)).trans (hcell j hj)
theorem CellV.keep {N N' : Nat → Prop} {w w' : World} {c : Cell} {v : Value} (h : CellV N w c v) (hN : ∀ g, N g → N' g) (hw : ∀ g, N g → w'.heap[g]? = w.heap[g]?) : CellV N' w' c v := by
  cases c with
  | int k n => exact h
  | bool b => exact h
  | row k l => exact RoV.keep h hN hw
theorem CellsV.keep {N N' : Nat → Prop} {w w' : World} {ad : Addr} {cs : List Cell} (h : CellsV N w ad cs) (hb : N ad.block) (hN : ∀ g, N g → N' g) (hw : ∀ g, N g → w'.heap[g]? = w.heap[g]?) : CellsV N' w' ad cs := by
  intro i c hc
  obtain ⟨u, h1, h2⟩ := h i c hc
  have hb' : (ad.add i).block = ad.block := by unfold Addr.add; split <;> rfl
  exact ⟨u, (World.cell?_of_block (by rw [hb']; exact hw _ hb)).trans h1, h2.keep hN hw⟩
theorem RecV.keep {N N' : Nat → Prop} {w w' : World} {n : Int} {cols : List Col} {v : Value} (h : RecV N w n cols v) (hN : ∀ g, N g → N' g) (hw : ∀ g, N g → w'.heap[g]? = w.heap[g]?) : RecV N' w' n cols v := by
  obtain ⟨A, c, e, h0, hc, hr⟩ := h
  refine ⟨A, c, e, h0, hc, fun hl => ?_⟩
  obtain ⟨ad, ea, hn, hcell⟩ := hr hl
  have hb (j : Nat) : (ad.add j).block = ad.block := by unfold Addr.add; split <;> rfl
  exact ⟨ad, ea, hN _ hn, fun j h0 hj => (hcell j h0 hj).keep (by rw [hb]; exact hn) hN hw⟩
theorem SegsV.keep {N N' : Nat → Prop} {lo lo' : Nat} {w w' : World} (hN : ∀ g, N g → N' g) (hlo : lo' ≤ lo) (hw : ∀ g, N g → w'.heap[g]? = w.heap[g]?) : ∀ {ss : List Seg} {vs : List Value}, SegsV N lo w ss vs → SegsV N' lo' w' ss vs
  | [], _, h => h
  | .int _ _ :: _, _, ⟨us, h1, h2⟩ => ⟨us, h1, SegsV.keep hN hlo hw h2⟩
  | .bool _ :: _, _, ⟨us, h1, h2⟩ => ⟨us, h1, SegsV.keep hN hlo hw h2⟩
  | .arr _ _ _ :: _, _, ⟨us, h1, h3, h2⟩ => ⟨us, h1, h3, SegsV.keep hN hlo hw h2⟩
  | .row _ _ _ :: _, _, ⟨u, us, h1, h3, h2⟩ => ⟨u, us, h1, RoV.keep h3 (fun g hg => ⟨hN g hg.1, fun h => Nat.le_trans hlo (hg.2 h)⟩) (fun g hg => hw g hg.1), SegsV.keep hN hlo hw h2⟩
theorem SegsV.dull {N : Nat → Prop} {lo lo' : Nat} {w : World} : ∀ {ss : List Seg} {vs : List Value}, SegsV N lo w ss vs → SegsV N lo' w (dull ss) vs
  | [], _, h => h
  | .int _ _ :: _, _, ⟨us, h1, h2⟩ => ⟨us, h1, SegsV.dull h2⟩
  | .bool _ :: _, _, ⟨us, h1, h2⟩ => ⟨us, h1, SegsV.dull h2⟩
  | .arr _ _ _ :: _, _, ⟨us, h1, h3, h2⟩ => ⟨us, h1, h3, SegsV.dull h2⟩
  | .row _ _ _ :: _, _, ⟨u, us, h1, h3, h2⟩ => ⟨u, us, h1, RoV.keep h3 (fun g hg => ⟨hg.1, fun h => by cases h⟩) (fun g hg => rfl), SegsV.dull h2⟩
theorem SegsV.append {N : Nat → Prop} {lo : Nat} {w : World} : ∀ {a b : List Seg} {vs : List Value}, SegsV N lo w (a ++ b) vs ↔ ∃ us ws, vs = us ++ ws ∧ SegsV N lo w a us ∧ SegsV N lo w b ws
  | [], b, vs => ⟨fun h => ⟨[], vs, rfl, rfl, h⟩, fun ⟨us, ws, h1, h2, h3⟩ => by
    have h2 : us = [] := h2
    subst h2; rw [h1]; exact h3⟩
  | .int k n :: a, b, vs => by
    show (∃ us, vs = _ ∧ SegsV N lo w (a ++ b) us) ↔ _
    constructor
    · rintro ⟨us, rfl, h⟩
      obtain ⟨x, y, rfl, h1, h2⟩ := SegsV.append.1 h
      exact ⟨_, y, rfl, ⟨x, rfl, h1⟩, h2⟩
    · rintro ⟨_, y, rfl, ⟨x, rfl, h1⟩, h2⟩
      exact ⟨x ++ y, rfl, SegsV.append.2 ⟨x, y, rfl, h1, h2⟩⟩
  | .bool q :: a, b, vs => by
    show (∃ us, vs = _ ∧ SegsV N lo w (a ++ b) us) ↔ _
    constructor
    · rintro ⟨us, rfl, h⟩
      obtain ⟨x, y, rfl, h1, h2⟩ := SegsV.append.1 h
      exact ⟨_, y, rfl, ⟨x, rfl, h1⟩, h2⟩
    · rintro ⟨_, y, rfl, ⟨x, rfl, h1⟩, h2⟩
      exact ⟨x ++ y, rfl, SegsV.append.2 ⟨x, y, rfl, h1, h2⟩⟩
  | .arr k n l :: a, b, vs => by
    show (∃ us, vs = _ ∧ l.length = n ∧ SegsV N lo w (a ++ b) us) ↔ _
    constructor
    · rintro ⟨us, rfl, h0, h⟩
      obtain ⟨x, y, rfl, h1, h2⟩ := SegsV.append.1 h
      exact ⟨_, y, by rw [List.append_assoc], ⟨x, rfl, h0, h1⟩, h2⟩
    · rintro ⟨_, y, rfl, ⟨x, rfl, h0, h1⟩, h2⟩
      exact ⟨x ++ y, by rw [List.append_assoc], h0, SegsV.append.2 ⟨x, y, rfl, h1, h2⟩⟩
  | .row nw k l :: a, b, vs => by
    show (∃ u us, vs = _ ∧ _ ∧ SegsV N lo w (a ++ b) us) ↔ _
    constructor
    · rintro ⟨u, us, rfl, h0, h⟩
      obtain ⟨x, y, rfl, h1, h2⟩ := SegsV.append.1 h
      exact ⟨_, y, rfl, ⟨u, x, rfl, h0, h1⟩, h2⟩
    · rintro ⟨_, y, rfl, ⟨u, x, rfl, h0, h1⟩, h2⟩
      exact ⟨u, x ++ y, rfl, h0, SegsV.append.2 ⟨x, y, rfl, h1, h2⟩⟩
theorem SegsV.length {N : Nat → Prop} {lo : Nat} {w : World} : ∀ {ss : List Seg} {vs : List Value}, SegsV N lo w ss vs → vs.length = segsSize ss
  | [], _, h => by have h : _ = [] := h; subst h; rfl
  | .int _ _ :: _, _, ⟨us, h1, h2⟩ => by subst h1; have := SegsV.length h2; simp only [List.length_cons, segsSize, segSize]; omega
  | .bool _ :: _, _, ⟨us, h1, h2⟩ => by subst h1; have := SegsV.length h2; simp only [List.length_cons, segsSize, segSize]; omega
  | .arr _ _ _ :: _, _, ⟨us, h1, h3, h2⟩ => by subst h1; have := SegsV.length h2; simp only [List.length_append, List.length_map, segsSize, segSize]; omega
  | .row _ _ _ :: _, _, ⟨u, us, h1, h3, h2⟩ => by subst h1; have := SegsV.length h2; simp only [List.length_cons, segsSize, segSize]; omega
mutual
theorem VR.keep {ρ ρ' : Nat → Option Value} {N N' : Nat → Prop} {w w' : World} (hN : ∀ g, N g → N' g) (hw : ∀ g, N g → w'.heap[g]? = w.heap[g]?) (hρ : ∀ i u, ρ i = some u → ρ' i = some u) : ∀ (c : AV) (v : Value), VR ρ N w c v → VR ρ' N' w' c v
  | .unk, _, _ => trivial
  | .und, _, h => h
  | .int _ _, _, h => h
  | .bool _, _, h => h
  | .prop _ _, _, h => h
  | .ro _ _, _, h => RoV.keep h hN hw
  | .nil, _, h => h
  | .own _, _, ⟨h1, h2⟩ => ⟨hρ _ _ h1, h2⟩
  | .ptr _ _, _, ⟨g, h1, h2⟩ => ⟨g, hρ _ _ h1, h2⟩
  | .pro _ _, _, ⟨ad, h1, h2, h3⟩ => ⟨ad, h1, hN _ h2, (World.cell?_of_block (hw _ h2)).trans h3⟩
  | .pown _ _, _, ⟨g, o, n, c, h1, h2, h3, h4⟩ => ⟨g, o, n, c, hρ _ _ h1, h2, h3, h4⟩
  | .win _ _ _, _, ⟨A, n, c, h1, h2⟩ => ⟨A, n, c, hρ _ _ h1, h2⟩
  | .fn _, _, h => h
  | .agg cs, _, ⟨vs, h1, h2⟩ => ⟨vs, h1, VRs.keep hN hw hρ cs _ h2⟩
  | .tup cs, _, ⟨vs, h1, h2⟩ => ⟨vs, h1, VRs.keep hN hw hρ cs _ h2⟩
  | .recs _ _, _, h => RecV.keep h hN hw
  | .prec _, _, ⟨ad, h1, h2, h3⟩ => ⟨ad, h1, hN _ h2, CellsV.keep h3 h2 hN hw⟩
  | .nilp, _, h => h
  | .sg _, _, ⟨vs, h1, h2⟩ => ⟨vs, h1, SegsV.keep hN (Nat.le_refl _) hw h2⟩
  | .rp _ _, _, ⟨g, b, h1, h2⟩ => ⟨g, b, hρ _ _ h1, h2⟩
  | .pel _ _ _ _, _, ⟨g, b, h1, h2⟩ => ⟨g, b, hρ _ _ h1, h2⟩
  | .pseg _, _, ⟨g, o, mid, h1, h2, h3, h4⟩ => ⟨g, o, mid, h1, hN _ h2, SegsV.keep hN (Nat.le_refl _) hw h3, fun j u hj => (World.cell?_of_block (hw _ h2)).trans (h4 j u hj)⟩
  | .nilf, _, h => h
theorem VRs.keep {ρ ρ' : Nat → Option Value} {N N' : Nat → Prop} {w w' : World} (hN : ∀ g, N g → N' g) (hw : ∀ g, N g → w'.heap[g]? = w.heap[g]?) (hρ : ∀ i u, ρ i = some u → ρ' i = some u) : ∀ (cs : List AV) (vs : List Value), VRs ρ N w cs vs → VRs ρ' N' w' cs vs
  | [], _, h => h
  | c :: cs, _, ⟨u, us, h1, h2, h3⟩ => ⟨u, us, h1, VR.keep hN hw hρ c u h2, VRs.keep hN hw hρ cs us h3⟩
end
theorem VRs.length {ρ : Nat → Option Value} {N : Nat → Prop} {w : World} : ∀ {cs : List AV} {vs : List Value}, VRs ρ N w cs vs → cs.length = vs.length
  | [], _, h => by simp only [VRs] at h; subst h; rfl
  | c :: cs, _, h => by simp only [VRs] at h; obtain ⟨u, us, rfl, _, h3⟩ := h; simp [VRs.length h3]
theorem VRs.get {ρ : Nat → Option Value} {N : Nat → Prop} {w : World} : ∀ {cs : List AV} {vs : List Value}, VRs ρ N w cs vs → ∀ (i : Nat) (c : AV), nth cs i = some c → ∃ u, vs[i]? = some u ∧ VR ρ N w c u
  | [], _, _, i, c, hc => by simp [nth] at hc
  | c :: cs, _, h, 0, d, hc => by
    simp only [VRs] at h; obtain ⟨u, us, rfl, h2, h3⟩ := h
    simp only [nth, Option.some.injEq] at hc; subst hc
    exact ⟨u, rfl, h2⟩
  | c :: cs, _, h, i + 1, d, hc => by
    simp only [VRs] at h; obtain ⟨u, us, rfl, h2, h3⟩ := h
    simp only [nth] at hc
    simpa using VRs.get h3 i d hc
theorem VRs.append {ρ : Nat → Option Value} {N : Nat → Prop} {w : World} : ∀ {cs cs' : List AV} {vs vs' : List Value}, VRs ρ N w cs vs → VRs ρ N w cs' vs' → VRs ρ N w (cs ++ cs') (vs ++ vs')
  | [], _, _, _, h, h' => by simp only [VRs] at h; subst h; exact h'
  | c :: cs, _, _, _, h, h' => by simp only [VRs] at h; obtain ⟨u, us, rfl, h2, h3⟩ := h; exact ⟨u, _, rfl, h2, VRs.append h3 h'⟩
theorem VRs.drop {ρ : Nat → Option Value} {N : Nat → Prop} {w : World} : ∀ {cs : List AV} {vs : List Value} (n : Nat), VRs ρ N w cs vs → VRs ρ N w (cs.drop n) (vs.drop n)
  | _, _, 0, h => h
  | [], _, n + 1, h => by simp only [VRs] at h; subst h; rfl
  | c :: cs, _, n + 1, h => by simp only [VRs] at h; obtain ⟨u, us, rfl, h2, h3⟩ := h; exact VRs.drop n h3
theorem VRs.take {ρ : Nat → Option Value} {N : Nat → Prop} {w : World} : ∀ {cs : List AV} {vs : List Value} (n : Nat), VRs ρ N w cs vs → VRs ρ N w (cs.take n) (vs.take n)
  | _, _, 0, h => by simp [VRs]
  | [], _, n + 1, h => by simp only [VRs] at h; subst h; rfl
  | c :: cs, _, n + 1, h => by simp only [VRs] at h; obtain ⟨u, us, rfl, h2, h3⟩ := h; exact ⟨u, _, rfl, h2, VRs.take n h3⟩
theorem VRs.set {ρ : Nat → Option Value} {N : Nat → Prop} {w : World} {x : AV} {y : Value} (hx : VR ρ N w x y) : ∀ {cs : List AV} {vs : List Value} (n : Nat), VRs ρ N w cs vs → VRs ρ N w (setNth cs n x) (vs.set n y)
  | [], _, n, h => by simp only [VRs] at h; subst h; simp [setNth, VRs]
  | c :: cs, _, 0, h => by simp only [VRs] at h; obtain ⟨u, us, rfl, h2, h3⟩ := h; exact ⟨y, us, rfl, hx, h3⟩
  | c :: cs, _, n + 1, h => by simp only [VRs] at h; obtain ⟨u, us, rfl, h2, h3⟩ := h; exact ⟨u, us.set n y, rfl, h2, VRs.set hx n h3⟩
theorem ros_append (k : IntKind) (ls ms : List (List Int)) : ros k (ls ++ ms) = ros k ls ++ ros k ms := List.map_append ..
theorem setNth_eq {β : Type} : ∀ (l : List β) (n : Nat) (x : β), setNth l n x = l.set n x
  | [], _, _ => by simp [setNth]
  | _ :: _, 0, _ => rfl
  | _ :: r, n + 1, x => by simp [setNth, setNth_eq r n x]
theorem nth_eq {β : Type} : ∀ (l : List β) (n : Nat), nth l n = l[n]?
  | [], _ => by simp [nth]
  | _ :: _, 0 => rfl
  | _ :: r, n + 1 => by simp [nth, nth_eq r n]
theorem look_cons (s : Nat) (v : AV) (r : List (Nat × AV)) (t : Nat) : look ((s, v) :: r) t = if s = t then v else look r t := by
  simp only [look]
  by_cases h : s = t
  · subst h; simp
  · simp only [if_neg h]; rw [show Nat.beq s t = false from by rw [← Bool.not_eq_true]; exact fun e => h (Nat.eq_of_beq_eq_true e)]
/-- Types as the evaluator knows them. -/
def unAV : AV → Value
  | .int k n => .int k n
  | .bool b => .bool b
  | .nil => .slice none 0 0
  | .nilp => .pointer none
  | .nilf => .nilFunc
  | _ => undef
def zeroOf (ti : TI) : Value := if ti.isAgg then .agg (ti.zero.map unAV).toArray else unAV (ti.zero.headD .unk)
def plainAV : AV → Bool
  | .int _ _ => true
  | .bool _ => true
  | .nil => true
  | .nilp => true
  | .nilf => true
  | _ => false
def aggD : TypeDesc → Bool
  | .struct _ => true
  | .array _ _ => true
  | _ => false
def FieldOK (P : Program) (f : Field) (x : Nat × Nat × Bool) : Prop := f.offset = x.1 ∧ (P.info? f.type).map (·.size) = some x.2.1 ∧ (P.underlying f.type).map aggD = some x.2.2
def FieldsOK (P : Program) : List Field → List (Nat × Nat × Bool) → Prop
  | [], xs => xs = []
  | f :: fs, xs => ∃ y ys, xs = y :: ys ∧ FieldOK P f y ∧ FieldsOK P fs ys
def TDOK (P : Program) (t : Nat) : TD → Prop
  | .int k => P.underlying t = some (.int k)
  | .bool => P.underlying t = some .bool
  | .slice e => P.underlying t = some (.slice e)
  | .struct fs => ∃ fields, P.underlying t = some (.struct fields) ∧ FieldsOK P fields.toList fs
  | .array n e => P.underlying t = some (.array n e)
  | .ptr e => P.underlying t = some (.pointer e)
  | .other => (P.underlying t).map aggD = some false
def EqFs (P : Program) : List Field → List AV → Nat → Prop
  | [], zs, _ => zs = []
  | f :: fs, zs, i => ∃ z zr, zs = z :: zr ∧ (f.name == "_") = false ∧ f.offset = i ∧ ((∃ k n, z = .int k n) ∧ (∃ k, P.underlying f.type = some (.int k)) ∨ (∃ b, z = .bool b) ∧ P.underlying f.type = some .bool) ∧ EqFs P fs zr (i + 1)
def EqOK (P : Program) (t : Nat) (zs : List AV) : Prop := ∃ fields, P.underlying t = some (.struct fields) ∧ P.stoodInHeld t = false ∧ P.eqGuardType P.depth t = false ∧ EqFs P fields.toList zs 0
structure TyOK (P : Program) (t : Nat) (ti : TI) : Prop where
  info : (P.info? t).map (fun i => (i.size, i.bytes)) = some (ti.size, ti.bytes)
  zero : (P.info? t).bind (·.zero) = some (zeroOf ti)
  plain : ti.zero.all plainAV = true
  len : ti.zero.length = ti.size
  one : ti.isAgg = false → ti.size = 1
  desc : TDOK P t ti.d
  eq : ti.eq = true → EqOK P t ti.zero
def TOK (P : Program) (T : List (Nat × TI)) : Prop := ∀ t ti, find T t = some ti → TyOK P t ti
theorem VRs.plain {ρ : Nat → Option Value} {N : Nat → Prop} {w : World} : ∀ {cs : List AV}, cs.all plainAV = true → VRs ρ N w cs (cs.map unAV)
  | [], _ => by simp [VRs]
  | c :: cs, h => by
    simp only [List.all_cons, Bool.and_eq_true] at h
    refine ⟨_, _, rfl, ?_, VRs.plain h.2⟩
    cases c <;> first | (simp [plainAV] at h; done) | rfl
section
variable {P : Program} {t : Nat} {ti : TI} (h : TyOK P t ti)
include h
theorem TyOK.run_isAgg (w : World) : (isAgg t).run P w = .ok ti.isAgg w := by
  have hd := h.desc
  unfold TI.isAgg
  cases hti : ti.d with
  | other =>
    rw [hti] at hd
    simp only [TDOK, Option.map_eq_some_iff] at hd
    obtain ⟨d, hu, hd⟩ := hd
    simp only [isAgg, Sem.run_bind, run_underlying hu, Result.andThen]
    cases d <;> first | (simp [aggD] at hd; done) | rfl
  | struct fs =>
    rw [hti] at hd
    obtain ⟨fields, hu, _⟩ := hd
    simp [isAgg, Sem.run_bind, run_underlying hu, Result.andThen]
  | int k => rw [hti] at hd; simp only [TDOK] at hd; simp [isAgg, Sem.run_bind, run_underlying hd, Result.andThen]
  | bool => rw [hti] at hd; simp only [TDOK] at hd; simp [isAgg, Sem.run_bind, run_underlying hd, Result.andThen]
  | slice e => rw [hti] at hd; simp only [TDOK] at hd; simp [isAgg, Sem.run_bind, run_underlying hd, Result.andThen]
  | array n e => rw [hti] at hd; simp only [TDOK] at hd; simp [isAgg, Sem.run_bind, run_underlying hd, Result.andThen]
  | ptr e => rw [hti] at hd; simp only [TDOK] at hd; simp [isAgg, Sem.run_bind, run_underlying hd, Result.andThen]
theorem TyOK.get_info : ∃ i, P.info? t = some i ∧ i.size = ti.size ∧ i.bytes = ti.bytes ∧ i.zero = some (zeroOf ti) := by
  obtain ⟨i, hi, he⟩ := Option.map_eq_some_iff.1 h.info
  have hz := h.zero
  rw [hi] at hz
  simp only [Option.bind_some] at hz
  injection he with e1 e2
  exact ⟨i, hi, e1, e2, hz⟩
theorem TyOK.run_sizeOf (w : World) : (sizeOf t).run P w = .ok ti.size w := by
  obtain ⟨i, hi, hs, _⟩ := h.get_info
  simp [sizeOf, typeInfo, hi, hs]
theorem TyOK.run_zero (w : World) : (zeroValue t).run P w = .ok (zeroOf ti) w := by
  obtain ⟨i, hi, _, _, hz⟩ := h.get_info
  simp [zeroValue, typeInfo, hi, hz]
theorem TyOK.zero_cells {ρ : Nat → Option Value} {N : Nat → Prop} {w : World} : VRs ρ N w ti.zero (zeroOf ti).cells.toList := by
  unfold zeroOf
  have hp := h.plain
  cases ha : ti.isAgg with
  | true => simp only [if_true, Value.cells]; exact VRs.plain hp
  | false =>
    have h1 := h.one ha
    have hl := h.len
    rw [h1] at hl
    obtain ⟨c, hc⟩ := List.length_eq_one_iff.1 hl
    rw [hc] at hp ⊢
    simp only [List.all_cons, List.all_nil, Bool.and_true] at hp
    cases c <;> first | (simp [plainAV] at hp; done) | simp [unAV, Value.cells, VRs, VR]
end
theorem ros_nth {k : IntKind} {ls : List (List Int)} {j : Nat} (h : j < ls.length) : nth (ros k ls) j = some (.ro k (ls.getD j [])) := by
  rw [nth_eq, ros, List.getElem?_map, List.getElem?_eq_getElem h, List.getD_eq_getElem?_getD, List.getElem?_eq_getElem h]; rfl
/-! ### blocks by parts -/
theorem segDrop_some : ∀ {ss : List Seg} {o : Nat} {r : List Seg}, segDrop ss o = some r → ∃ a, ss = a ++ r ∧ segsSize a = o
  | ss, 0, r, h => by
    have : segDrop ss 0 = some ss := by cases ss <;> rfl
    rw [this] at h
    simp only [Option.some.injEq] at h; subst h
    exact ⟨[], rfl, rfl⟩
  | [], o + 1, r, h => by cases h
  | s :: ss, o + 1, r, h => by
    simp only [segDrop] at h
    split at h
    · rename_i h1 h2
      obtain ⟨a, ha, hs⟩ := segDrop_some h
      have h1 := Nat.le_of_ble_eq_true h1
      exact ⟨s :: a, by rw [ha]; rfl, by simp only [segsSize, hs]; omega⟩
    · cases h
theorem segTake_some : ∀ {ss : List Seg} {n : Nat} {t : List Seg}, segTake ss n = some t → ∃ r, ss = t ++ r ∧ segsSize t = n
  | ss, 0, t, h => by
    have : segTake ss 0 = some [] := by cases ss <;> rfl
    rw [this] at h
    simp only [Option.some.injEq] at h; subst h
    exact ⟨ss, rfl, rfl⟩
  | [], n + 1, t, h => by cases h
  | s :: ss, n + 1, t, h => by
    simp only [segTake] at h
    split at h
    · rename_i h1 h2
      split at h
      · rename_i t' ht
        simp only [Option.some.injEq] at h; subst h
        obtain ⟨r, hr, hs⟩ := segTake_some ht
        have h1 := Nat.le_of_ble_eq_true h1
        exact ⟨r, by rw [hr]; rfl, by simp only [segsSize, hs]; omega⟩
      · cases h
    · cases h
theorem SegsV.drop {N : Nat → Prop} {lo : Nat} {w : World} {ss r : List Seg} {o : Nat} {vs : List Value} (h : SegsV N lo w ss vs) (hd : segDrop ss o = some r) : SegsV N lo w r (vs.drop o) ∧ o ≤ vs.length := by
  obtain ⟨a, rfl, rfl⟩ := segDrop_some hd
  obtain ⟨us, ws, rfl, h1, h2⟩ := SegsV.append.1 h
  have := h1.length
  rw [← this]
  exact ⟨by rw [List.drop_left]; exact h2, by simp⟩
theorem SegsV.take {N : Nat → Prop} {lo : Nat} {w : World} {ss t : List Seg} {n : Nat} {vs : List Value} (h : SegsV N lo w ss vs) (hd : segTake ss n = some t) : SegsV N lo w t (vs.take n) ∧ n ≤ vs.length := by
  obtain ⟨a, rfl, rfl⟩ := segTake_some hd
  obtain ⟨us, ws, rfl, h1, h2⟩ := SegsV.append.1 h
  have := h1.length
  rw [← this]
  exact ⟨by rw [List.take_left]; exact h1, by simp⟩
/-- Parts written over. -/
theorem SegsV.put {N : Nat → Prop} {lo : Nat} {w : World} {ss ns ss' : List Seg} {o : Nat} {vs us : List Value} (h : SegsV N lo w ss vs) (hn : SegsV N lo w ns us) (hd : segPut ss o ns = some ss') : SegsV N lo w ss' (vs.take o ++ us ++ vs.drop (o + us.length)) ∧ o + us.length ≤ vs.length := by
  unfold segPut at hd
  split at hd
  · rename_i a b ha hb
    simp only [Option.some.injEq] at hd; subst hd
    obtain ⟨h1, h2⟩ := h.take ha
    obtain ⟨h3, h4⟩ := h.drop hb
    rw [← hn.length] at h3 h4
    exact ⟨SegsV.append.2 ⟨_, _, rfl, SegsV.append.2 ⟨_, _, rfl, h1, hn⟩, h3⟩, h4⟩
  · cases hd
/-- Where a block by parts stands, as it is read. -/
theorem part_at {B : Bd} {ρ : Nat → Option Value} {N : Nat → Prop} {w : World} {u : Value} {b : Blk} {ss : List Seg} (h : BR B ρ N w u b) (hb : isBlk b = some ss) :
    ∃ (g b0 : Nat) (mid : List Value), u = .pointer (some ⟨g, b0, none⟩) ∧ SegsV N 0 w ss mid ∧ (∀ j v, mid[j]? = some v → w.cell? ⟨g, b0 + j, none⟩ = some v) ∧ ((b.live = true ∧ g < w.heap.size) ∨ N g) := by
  have cell {g b0 t : Nat} {arr : Array Value} (hh : w.heap[g]? = some (.cells arr t (0, 0))) (j : Nat) : w.cell? ⟨g, b0 + j, none⟩ = arr[b0 + j]? := cell_of_row w g (b0 + j) arr t (0, 0) hh
  cases b with
  | part t ss0 =>
    simp only [isBlk, Option.some.injEq] at hb; subst hb
    obtain ⟨g, arr, h1, h2, h3, h4⟩ := h
    refine ⟨g, 0, arr.toList, h1, SegsV.keep (fun _ h => h) (Nat.zero_le _) (fun _ _ => rfl) h4, fun j v hj => ?_, .inl ⟨rfl, (Array.getElem?_eq_some_iff.1 h3).1⟩⟩
    rw [cell h3, Nat.zero_add]
    rw [Array.getElem?_toList] at hj
    exact hj
  | bpart ss0 =>
    simp only [isBlk, Option.some.injEq] at hb; subst hb
    obtain ⟨d, mid, h1, h2, h3, h4⟩ := h
    refine ⟨d.g, d.pre.length, mid, h2, SegsV.keep (fun _ h => h) (Nat.zero_le _) (fun _ _ => rfl) h4, fun j v hj => ?_, .inl ⟨rfl, (Array.getElem?_eq_some_iff.1 h3).1⟩⟩
    have hlt := (List.getElem?_eq_some_iff.1 hj).1
    rw [cell h3, List.getElem?_toArray, List.append_assoc, List.getElem?_append_right (by omega), Nat.add_sub_cancel_left, List.getElem?_append_left hlt]
    exact hj
  | fpart ss0 =>
    simp only [isBlk, Option.some.injEq] at hb; subst hb
    obtain ⟨g, mid, h1, h2, h3, h4⟩ := h
    exact ⟨g, 0, mid, h1, h3, fun j v hj => by rw [Nat.zero_add]; exact h4 j v hj, .inr h2⟩
  | _ => simp [isBlk] at hb
end Go.Proofs.YtcacmhcekoeblaaDoorA
