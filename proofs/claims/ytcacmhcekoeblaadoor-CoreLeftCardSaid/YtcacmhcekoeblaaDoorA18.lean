/- Arguments opened: structs of numbers, truths and rows, and slices of such structs, by their columns. No conditions. -/
import Derived.Test.YtcacmhcekoeblaaDoorA17
import Derived.SizedLaws
import Derived.ChangeSlices
import Derived.ChangeArms
import Derived.Deep.Slices
import Derived.Carry
import Derived.OpenShut
namespace Go.Proofs.YtcacmhcekoeblaaDoorA
open Go.RowKit Go.ChangeShapes Go.WideShapes Go.Deep
set_option linter.unusedVariables false
set_option linter.unusedSimpArgs false
inductive Kd where
  | int (k : IntKind)
  | bool
  | row (k : IntKind)
def Cell.kd : Cell → Kd
  | .int k _ => .int k
  | .bool _ => .bool
  | .row k _ => .row k
def Col.kd : Col → Kd
  | .int k _ => .int k
  | .bool _ => .bool
  | .row k _ => .row k
/-- Numbers within their kinds; rows of a size that there is. -/
def Cell.wf : Cell → Prop
  | .int k n => (Lit.int k n).wf = true
  | .bool _ => True
  | .row k l => (∀ x ∈ l, (Lit.int k x).wf = true) ∧ l.length * 8 ≤ reachBytes
theorem row_wf {k : IntKind} {l : List Int} (h1 : ∀ x ∈ l, (Lit.int k x).wf = true) (h2 : l.length * 8 ≤ reachBytes) : (Cell.row k l).wf := by unfold Cell.wf; exact ⟨h1, h2⟩
def flatFs (P : Program) (g : TypeId → Option (List Kd)) : List Field → Nat → Option (List Kd)
  | [], _ => some []
  | f :: r, o => match g f.type with
    | some ks => if f.offset = o ∧ P.cellsOf f.type = ks.length then (match flatFs P g r (o + ks.length) with
      | some rs => some (ks ++ rs)
      | none => none) else none
    | none => none
/-- The kinds of a type's cells. -/
def flatB (P : Program) : Nat → TypeId → Option (List Kd)
  | 0, _ => none
  | n + 1, t => match P.underlying t with
    | some (.int k) => some [.int k]
    | some .bool => some [.bool]
    | some (.slice e) => match P.underlying e with
      | some (.int k) => if P.cellsOf e = 1 ∧ P.bytesOf e = 8 then some [.row k] else none
      | _ => none
    | some (.struct fs) => match flatFs P (flatB P n) fs.toList 0 with
      | some ks => if P.cellsOf t = ks.length then some ks else none
      | none => none
    | _ => none
theorem lt_of_cell {w : World} {a : Addr} {v : Value} (h : w.cell? a = some v) : a.block < w.heap.size :=
  Nat.lt_of_not_le fun hn => by simp [World.cell?, Array.getElem?_eq_none hn] at h
section
variable {H : Type} {enc : TypeId × Value → H} {P : Program} {w : World} {spare : Nat → Bool} {held : Bool}
def CellsAt (w : World) (cs : List Value) (o : Nat) (cells : List Cell) : Prop := ∀ i c, nth cells i = some c → (∃ u, cs[o + i]? = some u ∧ CellV (fun g => g < w.heap.size) w c u) ∧ c.wf
theorem CellsAt.append {cs : List Value} : ∀ {xs ys : List Cell} {o : Nat}, CellsAt w cs o xs → CellsAt w cs (o + xs.length) ys → CellsAt w cs o (xs ++ ys) := by
  intro xs ys o hx hy i c hi
  rw [nth_eq, List.getElem?_append] at hi
  split at hi
  · exact hx i c (by rw [nth_eq]; exact hi)
  · rename_i hl
    have := hy (i - xs.length) c (by rw [nth_eq]; exact hi)
    rwa [show o + xs.length + (i - xs.length) = o + i by omega] at this
theorem flat_ints {t e : TypeId} {k : IntKind} {fuel : Nat} {cs : List Value} {x : DataW H × List MemPlace} (ht : P.underlying t = some (.slice e)) (he : P.underlying e = some (.int k)) (hc : P.cellsOf e = 1) (hb : P.bytesOf e = 8)
    (h : DataW.trod enc P w 0 spare held fuel t cs = some x) (hw : (x.1.weights P t).all (· ≤ reachBytes) = true) :
    ∃ l, cs.length = 1 ∧ CellsAt w cs 0 [.row k l] := by
  rcases open_ints ht he hc h with ⟨rfl, rfl⟩ | ⟨a, len, cap, zs, rfl, _, hl, hm, hz, rfl, hcell, hwz⟩
  · refine ⟨[], rfl, fun i c hi => ?_⟩
    cases i with
    | zero =>
      simp only [nth, Option.some.injEq] at hi; subst hi
      exact ⟨⟨_, rfl, none, 0, rfl, Nat.le_refl _, fun h => by simp at h⟩, row_wf (fun x hx => by cases hx) (by simp)⟩
    | succ i => simp [nth] at hi
  · have hlz : len ≤ zs.length := by rw [hz]; split <;> omega
    have htl : (zs.take len).length = len := by rw [List.length_take]; omega
    have hsz : len * 8 ≤ reachBytes := by
      have h1 := List.all_eq_true.1 hw _ (by simp only [DataW.weights, ht]; exact List.mem_cons_self ..)
      have h2 : ((lits k (zs.take len) : List (DataW H)).length + (lits k (zs.drop len) : List (DataW H)).length) * P.bytesOf e ≤ reachBytes := by simpa using h1
      rw [hb] at h2
      have h3 : (lits k (zs.take len) : List (DataW H)).length = len := by simp [lits, hlz]
      rw [h3] at h2
      exact Nat.le_trans (Nat.mul_le_mul_right _ (Nat.le_add_right _ _)) h2
    refine ⟨zs.take len, rfl, fun i c hi => ?_⟩
    cases i with
    | zero =>
      simp only [nth, Option.some.injEq] at hi; subst hi
      refine ⟨⟨_, rfl, some a, cap, by rw [htl], by rw [htl]; exact hl, fun h => ⟨a, rfl, ?_, fun j hj => ?_⟩⟩, row_wf (fun x hx => hwz x (List.mem_of_mem_take hx)) (by rw [htl]; exact hsz)⟩
      · have := hcell 0 (by omega)
        have := lt_of_cell this
        rwa [add_block] at this
      · rw [htl] at hj
        rw [hcell j (by omega)]
        congr 2
        rw [List.getD_eq_getElem?_getD, List.getD_eq_getElem?_getD, List.getElem?_take, if_pos hj]
    | succ i => simp [nth] at hi
/-- The cells of a value are of its type's kinds. -/
theorem flat_cells : ∀ (n : Nat) (t : TypeId) (ks : List Kd) (fuel : Nat) (cs : List Value) (x : DataW H × List MemPlace), flatB P n t = some ks → DataW.trod enc P w 0 spare held fuel t cs = some x → (x.1.weights P t).all (· ≤ reachBytes) = true →
    ∃ cells : List Cell, cells.map Cell.kd = ks ∧ cs.length = ks.length ∧ CellsAt w cs 0 cells := by
  intro n
  induction n with
  | zero => intro t ks fuel cs x h; simp [flatB] at h
  | succ n ih =>
    intro t ks fuel cs x hk h hw
    simp only [flatB] at hk
    split at hk
    · rename_i k hu
      simp only [Option.some.injEq] at hk; subst hk
      obtain ⟨m, rfl, rfl, hwf⟩ := DataW.trod_int hu h
      refine ⟨[.int k m], rfl, rfl, fun i c hi => ?_⟩
      cases i with
      | zero => simp only [nth, Option.some.injEq] at hi; subst hi; exact ⟨⟨_, rfl, rfl⟩, hwf⟩
      | succ i => simp [nth] at hi
    · rename_i hu
      simp only [Option.some.injEq] at hk; subst hk
      obtain ⟨b, rfl, rfl⟩ := DataW.trod_bool hu h
      refine ⟨[.bool b], rfl, rfl, fun i c hi => ?_⟩
      cases i with
      | zero => simp only [nth, Option.some.injEq] at hi; subst hi; exact ⟨⟨_, rfl, rfl⟩, trivial⟩
      | succ i => simp [nth] at hi
    · rename_i e hu
      split at hk
      · rename_i k he
        split at hk
        · rename_i hc
          simp only [Option.some.injEq] at hk; subst hk
          obtain ⟨l, h1, h2⟩ := flat_ints hu he hc.1 hc.2 h hw
          exact ⟨[.row k l], rfl, h1, h2⟩
        · cases hk
      · cases hk
    · rename_i fs hu
      split at hk
      · rename_i ks' hf
        split at hk
        · rename_i hC
          simp only [Option.some.injEq] at hk; subst hk
          obtain ⟨xs, n', _, rfl, hlen, hxl, hg⟩ := DataW.trod_struct hu h
          have key : ∀ (L : List Field) (o b : Nat) (rs : List Kd) (ys : List (DataW H × List MemPlace)), flatFs P (flatB P n) L o = some rs → ys.length = L.length →
              (∀ (i : Nat) (f : Field), L[i]? = some f → DataW.trod enc P w 0 spare held n' f.type ((cs.drop f.offset).take (P.cellsOf f.type)) = ys[i]?) →
              (DataW.weightsEach P (L.map (·.type)) (ys.map (·.1))).all (· ≤ reachBytes) = true → ∃ cells : List Cell, cells.map Cell.kd = rs ∧ CellsAt w cs o cells := by
            intro L
            induction L with
            | nil =>
              intro o b rs ys hr _ _ _
              simp only [flatFs, Option.some.injEq] at hr; subst hr
              exact ⟨[], rfl, fun i c hi => by simp [nth] at hi⟩
            | cons f L ihL =>
              intro o b rs ys hr hl hy hws
              simp only [flatFs] at hr
              split at hr
              · rename_i k1 hk1
                split at hr
                · rename_i ho
                  split at hr
                  · rename_i r1 hr1
                    simp only [Option.some.injEq] at hr; subst hr
                    match ys, hl with
                    | y :: ys, hl =>
                      have h0 := hy 0 f rfl
                      simp only [List.getElem?_cons_zero] at h0
                      simp only [List.map_cons, DataW.weightsEach, List.all_append, Bool.and_eq_true] at hws
                      obtain ⟨c1, e1, e2, e3⟩ := ih f.type k1 n' _ y hk1 h0 hws.1
                      obtain ⟨c2, e4, e5⟩ := ihL (o + k1.length) 0 r1 ys hr1 (by simpa using hl) (fun i f' hi => by simpa using hy (i + 1) f' (by simpa using hi)) hws.2
                      have hlc : c1.length = k1.length := by rw [← e1, List.length_map]
                      refine ⟨c1 ++ c2, by rw [List.map_append, e1, e4], CellsAt.append (fun i c hi => ?_) (by rw [hlc]; exact e5)⟩
                      obtain ⟨⟨u, h6, h7⟩, h8⟩ := e3 i c hi
                      rw [Nat.zero_add, List.getElem?_take] at h6
                      split at h6
                      · rw [List.getElem?_drop, ho.1] at h6
                        exact ⟨⟨u, h6, h7⟩, h8⟩
                      · cases h6
                  · cases hr
                · cases hr
              · cases hr
          simp only [DataW.weights, hu] at hw
          obtain ⟨cells, h1, h2⟩ := key fs.toList 0 0 ks' xs hf (by simpa using hxl) (fun i f hi => hg i f (by rwa [Array.getElem?_toList] at hi)) hw
          exact ⟨cells, h1, by rw [hlen, hC], h2⟩
        · cases hk
      · cases hk
    · cases hk
/-- Cells that are told one by one are a value's. -/
theorem cells_VRs {ρ : Nat → Option Value} : ∀ (cells : List Cell) (cs : List Value) (o : Nat), CellsAt w cs o cells → cs.length = o + cells.length → VRs ρ (fun g => g < w.heap.size) w (cavs cells) (cs.drop o)
  | [], cs, o, _, hl => by
    have : cs.drop o = [] := List.drop_eq_nil_of_le (by simp at hl; omega)
    rw [this]; rfl
  | c :: cells, cs, o, h, hl => by
    obtain ⟨⟨u, h1, h2⟩, _⟩ := h 0 c rfl
    rw [Nat.add_zero] at h1
    have hlt : o < cs.length := by simp at hl; omega
    have hd : cs.drop o = u :: cs.drop (o + 1) := by
      rw [List.drop_eq_getElem_cons hlt]
      congr 1
      have := List.getElem?_eq_getElem hlt
      rw [this] at h1
      exact Option.some.inj h1
    rw [hd]
    refine ⟨u, _, rfl, cell_av h2, cells_VRs cells cs (o + 1) (fun i d hi => ?_) (by simp at hl; omega)⟩
    have := h (i + 1) d hi
    rwa [show o + (i + 1) = o + 1 + i by omega] at this
/-- A struct by value. -/
theorem arg_agg {t : TypeId} {n : Nat} {ks : List Kd} {fs : Array Field} {r : Reach} {b0 : Nat} {v : Value} {d : DataW H} {p : List MemPlace} (hu : P.underlying t = some (.struct fs)) (hk : flatB P n t = some ks) (hv : Value.okWide P w r b0 t v)
    (h : DataW.Trod enc P w 0 spare held t v d p) (hw : (d.weights P t).all (· ≤ reachBytes) = true) :
    ∃ cells : List Cell, cells.map Cell.kd = ks ∧ (∀ ρ, VR ρ (fun g => g < w.heap.size) w (.agg (cavs cells)) v) ∧ ∀ c ∈ cells, c.wf := by
  obtain ⟨cs, rfl, hsz⟩ := okWide_struct hu hv
  obtain ⟨fuel, hf⟩ := h
  obtain ⟨cells, h1, h2, h3⟩ := flat_cells n t ks fuel _ _ hk hf hw
  have hlc : cells.length = ks.length := by rw [← h1, List.length_map]
  refine ⟨cells, h1, fun ρ => ⟨cs, rfl, ?_⟩, fun c hc => ?_⟩
  · have := cells_VRs (ρ := ρ) cells _ 0 h3 (by rw [h2, hlc, Nat.zero_add])
    simpa [Value.cells] using this
  · obtain ⟨i, hi, rfl⟩ := List.getElem_of_mem hc
    exact (h3 i _ (by rw [nth_eq]; exact List.getElem?_eq_getElem hi)).2
/-! ### columns -/
def Cell.toI : Cell → Int
  | .int _ n => n
  | _ => 0
def Cell.toB : Cell → Bool
  | .bool b => b
  | _ => false
def Cell.toL : Cell → List Int
  | .row _ l => l
  | _ => []
def colOf (k : Kd) (m : Nat) (f : Nat → Cell) : Col := match k with
  | .int k => .int k ((List.range m).map fun i => (f i).toI)
  | .bool => .bool ((List.range m).map fun i => (f i).toB)
  | .row k => .row k ((List.range m).map fun i => (f i).toL)
theorem colOf_at {k : Kd} {m : Nat} {f : Nat → Cell} {i : Nat} (hi : i < m) (h : (f i).kd = k) : (colOf k m f).at (i : Int) = f i := by
  have e : ∀ {α : Type} (g : Nat → α) (d : α), ((List.range m).map g).getD i d = g i := by
    intro α g d
    rw [List.getD_eq_getElem?_getD, List.getElem?_map, List.getElem?_range hi]; rfl
  subst h
  cases hc : f i with
  | int k n => simp only [Cell.kd, colOf, Col.at, rd, Int.toNat_natCast, e, hc, Cell.toI]
  | bool b => simp only [Cell.kd, colOf, Col.at, rdb, Int.toNat_natCast, e, hc, Cell.toB]
  | row k l => simp only [Cell.kd, colOf, Col.at, rdr, Int.toNat_natCast, e, hc, Cell.toL]
theorem colOf_kd (k : Kd) (m : Nat) (f : Nat → Cell) : (colOf k m f).kd = k := by cases k <;> rfl
theorem cols_of : ∀ (ks : List Kd) (m : Nat) (f : Nat → List Cell), (∀ i, i < m → (f i).map Cell.kd = ks) → ∃ cols : List Col, cols.map Col.kd = ks ∧ ∀ i, i < m → colsAt (i : Int) cols = f i
  | [], m, f, h => ⟨[], rfl, fun i hi => by have := h i hi; simp at this; rw [this]; rfl⟩
  | k :: ks, m, f, h => by
    obtain ⟨cols, h1, h2⟩ := cols_of ks m (fun i => (f i).tail) (fun i hi => by
      have := h i hi
      cases hf : f i with
      | nil => rw [hf] at this; simp at this
      | cons c cs => rw [hf] at this; simp at this; simp [this.2])
    refine ⟨colOf k m (fun i => (f i).headD (.bool false)) :: cols, by rw [List.map_cons, colOf_kd, h1], fun i hi => ?_⟩
    have hk := h i hi
    rw [colsAt, h2 i hi]
    cases hf : f i with
    | nil => rw [hf] at hk; simp at hk
    | cons c cs =>
      rw [hf] at hk
      simp only [List.map_cons, List.cons.injEq] at hk
      rw [colOf_at hi (by rw [hf]; exact hk.1), hf]
      rfl
/-- A slice of structs. -/
theorem arg_recs {t e : TypeId} {n : Nat} {ks : List Kd} {v : Value} {d : DataW H} {p : List MemPlace} (hu : P.underlying t = some (.slice e)) (hk : flatB P n e = some ks) (hC : P.cellsOf e = ks.length) (hks : ks ≠ [])
    (h : DataW.Trod enc P w 0 spare held t v d p) (hw : (d.weights P t).all (· ≤ reachBytes) = true) (hb : 1 ≤ P.bytesOf e) (hv : ∀ x, v.cells = #[x] → v = x) :
    ∃ (m : Int) (cols : List Col), cols.map Col.kd = ks ∧ RecV (fun g => g < w.heap.size) w m cols v ∧ (0 ≤ m ∧ m ≤ reachBytes) ∧ ∀ j, 0 ≤ j → j < m → ∀ c ∈ colsAt j cols, c.wf := by
  obtain ⟨fuel, hf⟩ := h
  rcases open_slice hu hf with ⟨hcs, hx⟩ | ⟨a, len, cap, m, n', D, Pl, hcs, _, hl, hm, hmm, hx, hi⟩
  · obtain rfl : v = .slice none 0 0 := hv _ (by have := congrArg List.toArray hcs; simpa using this)
    obtain ⟨cols, h1, _⟩ := cols_of ks 0 (fun _ => []) (fun i hi => by omega)
    exact ⟨0, cols, h1, ⟨none, 0, rfl, by omega, by simp, fun h => by omega⟩, ⟨by omega, by omega⟩, fun j h0 h1 => by omega⟩
  · obtain rfl : v = .slice (some a) len cap := hv _ (by have := congrArg List.toArray hcs; simpa using this)
    simp only [Prod.mk.injEq] at hx
    obtain ⟨rfl, rfl⟩ := hx
    have hlm : len ≤ m := by rw [hmm]; split <;> omega
    simp only [DataW.weights, hu, List.all_cons, List.all_append, Bool.and_eq_true] at hw
    have hsz : len ≤ reachBytes := by
      have h1 := of_decide_eq_true hw.1
      simp only [List.length_map, List.length_range] at h1
      have h2 : len * 1 ≤ (len + (m - len)) * P.bytesOf e := Nat.mul_le_mul (Nat.le_add_right _ _) hb
      omega
    have hall : ∀ i, i < len → ((D i).weights P e).all (· ≤ reachBytes) = true := by
      intro i hil
      have h1 := hw.2.1
      have key : ∀ (L : List (DataW H)) (j : Nat) (x : DataW H), L[j]? = some x → (DataW.weightsAll P e L).all (· ≤ reachBytes) = true → (x.weights P e).all (· ≤ reachBytes) = true := by
        intro L
        induction L with
        | nil => intro j x hj; simp at hj
        | cons y L ih =>
          intro j x hj hL
          simp only [DataW.weightsAll, List.all_append, Bool.and_eq_true] at hL
          cases j with
          | zero => simp only [List.getElem?_cons_zero, Option.some.injEq] at hj; subst hj; exact hL.1
          | succ j => exact ih j x (by simpa using hj) hL.2
      exact key _ i _ (by rw [List.getElem?_map, List.getElem?_range hil]; rfl) h1
    have each : ∀ i, i < len → ∃ cells : List Cell, cells.map Cell.kd = ks ∧ CellsV (fun g => g < w.heap.size) w (a.add (i * ks.length)) cells ∧ ∀ c ∈ cells, c.wf := by
      intro i hil
      obtain ⟨cs', h1, h2⟩ := hi i (by omega)
      rw [hC] at h1
      obtain ⟨_, h3, h4⟩ := World.cells?_some h1
      obtain ⟨cells, h5, h6, h7⟩ := flat_cells n e ks n' cs' _ hk h2 (hall i hil)
      have hlc : cells.length = ks.length := by rw [← h5, List.length_map]
      refine ⟨cells, h5, fun q c hq => ?_, fun c hc => ?_⟩
      · obtain ⟨⟨u, h8, h9⟩, _⟩ := h7 q c hq
        rw [Nat.zero_add] at h8
        have hql : q < ks.length := by rw [← hlc]; rw [nth_eq] at hq; exact (List.getElem?_eq_some_iff.1 hq).1
        exact ⟨u, (h4 q hql).trans h8, h9⟩
      · obtain ⟨q, hq, rfl⟩ := List.getElem_of_mem hc
        exact (h7 q _ (by rw [nth_eq]; exact List.getElem?_eq_getElem hq)).2
    obtain ⟨f, hf'⟩ := choose_lt each
    obtain ⟨cols, h1, h2⟩ := cols_of ks len f (fun i hi => (hf' i hi).1)
    have hcl : cols.length = ks.length := by rw [← h1, List.length_map]
    refine ⟨(len : Int), cols, h1, ⟨some a, cap, by rw [Int.toNat_natCast], by omega, by omega, fun h0 => ⟨a, rfl, ?_, fun j h3 h4 => ?_⟩⟩, ⟨by omega, by omega⟩, fun j h3 h4 => ?_⟩
    · obtain ⟨g1, g2, _⟩ := hf' 0 (by omega)
      obtain ⟨c, cs, hc⟩ : ∃ c cs, f 0 = c :: cs := by
        cases hf0 : f 0 with
        | nil => rw [hf0] at g1; simp at g1; exact absurd g1 hks
        | cons c cs => exact ⟨c, cs, rfl⟩
      obtain ⟨u, h5, _⟩ := g2 0 c (by rw [hc]; rfl)
      have := lt_of_cell h5
      rwa [add_block, add_block] at this
    · obtain ⟨i, rfl⟩ := Int.eq_ofNat_of_zero_le h3
      rw [Int.toNat_natCast, h2 i (by omega), hcl]
      exact (hf' i (by omega)).2.1
    · obtain ⟨i, rfl⟩ := Int.eq_ofNat_of_zero_le h3
      rw [h2 i (by omega)]
      exact (hf' i (by omega)).2.2
/-- A slice of numbers of 64 bits. -/
theorem arg_row {t e : TypeId} {k : IntKind} {v : Value} {d : DataW H} {p : List MemPlace} (hu : P.underlying t = some (.slice e)) (he : P.underlying e = some (.int k)) (hc : P.cellsOf e = 1) (hb : P.bytesOf e = 8)
    (h : DataW.Trod enc P w 0 spare held t v d p) (hw : (d.weights P t).all (· ≤ reachBytes) = true) (hv : ∀ x, v.cells = #[x] → v = x) :
    ∃ l, RoV (fun g => g < w.heap.size) w k l v ∧ (Cell.row k l).wf := by
  obtain ⟨fuel, hf⟩ := h
  obtain ⟨l, h1, h2⟩ := flat_ints hu he hc hb hf hw
  obtain ⟨⟨u, h3, h4⟩, h5⟩ := h2 0 (.row k l) rfl
  obtain ⟨y, hy⟩ := List.length_eq_one_iff.1 h1
  rw [hy] at h3
  simp at h3
  subst h3
  have := hv y (by have := congrArg List.toArray hy; simpa using this)
  exact ⟨l, this ▸ h4, h5⟩
end
/-! ### kinds taken apart -/
theorem kds_cons {α β : Type} {f : α → β} {l : List α} {k : β} {ks : List β} (h : l.map f = k :: ks) : ∃ c r, l = c :: r ∧ f c = k ∧ r.map f = ks := by
  cases l with
  | nil => simp at h
  | cons c r => simp only [List.map_cons, List.cons.injEq] at h; exact ⟨c, r, rfl, h.1, h.2⟩
theorem kds_nil {α β : Type} {f : α → β} {l : List α} (h : l.map f = []) : l = [] := by simpa using h
theorem cell_int {c : Cell} {k : IntKind} (h : c.kd = .int k) : ∃ n, c = .int k n := by
  cases c <;> simp [Cell.kd] at h; subst h; exact ⟨_, rfl⟩
theorem cell_bool {c : Cell} (h : c.kd = .bool) : ∃ b, c = .bool b := by
  cases c <;> simp [Cell.kd] at h; exact ⟨_, rfl⟩
theorem cell_row {c : Cell} {k : IntKind} (h : c.kd = .row k) : ∃ l, c = .row k l := by
  cases c <;> simp [Cell.kd] at h; subst h; exact ⟨_, rfl⟩
theorem col_int {c : Col} {k : IntKind} (h : c.kd = .int k) : ∃ l, c = .int k l := by
  cases c <;> simp [Col.kd] at h; subst h; exact ⟨_, rfl⟩
theorem col_bool {c : Col} (h : c.kd = .bool) : ∃ l, c = .bool l := by
  cases c <;> simp [Col.kd] at h; exact ⟨_, rfl⟩
theorem col_row {c : Col} {k : IntKind} (h : c.kd = .row k) : ∃ l, c = .row k l := by
  cases c <;> simp [Col.kd] at h; subst h; exact ⟨_, rfl⟩
theorem row_u64 {l : List Int} (h : (Cell.row .u64 l).wf) : (∀ x ∈ l, 0 ≤ x ∧ x < 18446744073709551616) ∧ l.length * 8 ≤ 140737488351232 := by
  refine ⟨fun x hx => ?_, h.2⟩
  have w := h.1 x hx
  simp [Lit.wf] at w
  have h1 : IntKind.u64.min = 0 := rfl
  have h2 : IntKind.u64.max = 18446744073709551615 := rfl
  omega
theorem one_cell {a : Option Addr} {n c : Nat} {x : Value} (h : (Value.slice a n c).cells = #[x]) : Value.slice a n c = x := by simpa [Value.cells] using h
end Go.Proofs.YtcacmhcekoeblaaDoorA
