/- Literals of structs and rows, calls, and every light operation together. No conditions. -/
import Derived.Test.YtcacmhcekoeblaaDoorA4
namespace Go.Proofs.YtcacmhcekoeblaaDoorA
open Go.RowKit
set_option linter.unusedVariables false
set_option linter.unusedSimpArgs false
set_option linter.unusedSectionVars false
theorem putAll_VRs {ρ : Nat → Option Value} {N : Nat → Prop} {w : World} : ∀ (vs : List AV) (us : List Value) (o : Nat) (cs : List AV) (ys : List Value), VRs ρ N w cs ys → VRs ρ N w vs us → VRs ρ N w (putAll cs o vs) ((us.zipIdx 0).foldl (fun (l : List Value) p => l.set (o + p.2) p.1) ys)
  | [], us, o, cs, ys, h, h' => by simp only [VRs] at h'; subst h'; simpa [putAll] using h
  | v :: vs, us, o, cs, ys, h, h' => by
    simp only [VRs] at h'
    obtain ⟨u, us', rfl, h1, h2⟩ := h'
    simp only [putAll, List.zipIdx_cons, List.foldl_cons, Nat.add_zero]
    have ih := putAll_VRs vs us' (o + 1) (setNth cs o v) (ys.set o u) (VRs.set h1 o h) h2
    have e : ((us'.zipIdx (0 + 1)).foldl (fun (l : List Value) p => l.set (o + p.2) p.1) (ys.set o u)) = ((us'.zipIdx 0).foldl (fun (l : List Value) p => l.set (o + 1 + p.2) p.1) (ys.set o u)) := by
      rw [show us'.zipIdx (0 + 1) = (us'.zipIdx 0).map (fun p => (p.1, p.2 + 1)) from by simp [List.zipIdx_eq_map_add (i := 1)]; intros; omega]
      rw [List.foldl_map]
      congr 1
      funext l p
      congr 1
      omega
    rw [e]
    exact ih
theorem foldl_set (arr us : Array Value) (o : Nat) : (us.zipIdx.foldl (fun (cs : Array Value) (p : Value × Nat) => cs.setIfInBounds (o + p.2) p.1) arr).toList = (us.toList.zipIdx 0).foldl (fun (l : List Value) p => l.set (o + p.2) p.1) arr.toList := by
  rw [← Array.foldl_toList]
  rw [Array.toList_zipIdx]
  generalize us.toList.zipIdx 0 = ps
  induction ps generalizing arr with
  | nil => rfl
  | cons p ps ih => simp only [List.foldl_cons]; rw [ih]; simp
theorem fill_cons {place : Nat → Option (Nat × Nat)} {i : Nat} {v : Value} {rest : List (Nat × Value)} {arr : Array Value} {off size : Nat} (h : place i = some (off, size)) (h1 : v.cells.size = size) (h2 : off + size ≤ arr.size) :
    Instr.fill place arr ((i, v) :: rest) = Instr.fill place (v.cells.zipIdx.foldl (fun (cs : Array Value) (p : Value × Nat) => cs.setIfInBounds (off + p.2) p.1) arr) rest := by
  simp only [Instr.fill, h]
  subst h1
  have e1 : decide (v.cells.size ≠ v.cells.size) = false := by simp
  have e2 : decide (off + v.cells.size > arr.size) = false := by simp; omega
  rw [e1, e2]
  rfl
section
variable {α : Type} {P : Program} {H : World → Prop} {B : Bd} {S : ASt} {r : α} {c : Cfg α}
theorem run_places {w : World} : ∀ {fs : List Field} {xs : List (Nat × Nat × Bool)}, FieldsOK P fs xs → (fs.mapM (m := Sem) (fun f => do pure (f.offset, ← sizeOf f.type))).run P w = .ok (xs.map fun x => (x.1, x.2.1)) w
  | [], _, h => by simp only [FieldsOK] at h; subst h; simp
  | f :: fs, _, h => by
    simp only [FieldsOK] at h; obtain ⟨y, ys, rfl, h1, h2⟩ := h
    have ih := run_places (w := w) h2
    have hs := h1.run_sizeOf w
    simp only [List.mapM_cons, Sem.run_bind, hs, Result.andThen, Sem.run_pure, ih, List.map_cons, h1.1]
theorem fill_parts {ρ : Nat → Option Value} {N : Nat → Prop} {w : World} {a : Act} {fs : List (Nat × Nat × Bool)} {place : Nat → Option (Nat × Nat)} (hpl : ∀ i x, nth fs i = some x → place i = some (x.1, x.2.1)) :
    ∀ (ps : List (Nat × Operand)) (cs : List AV) (arr : Array Value) {cs' : List AV}, (∀ p ∈ ps, VR ρ N w (S.ev p.2) (a.eval p.2)) → VRs ρ N w cs arr.toList → fillParts S fs cs ps = some cs' →
      ∃ arr', Instr.fill place arr (ps.map fun p => (p.1, a.eval p.2)) = some arr' ∧ VRs ρ N w cs' arr'.toList
  | [], cs, arr, cs', _, h, he => by
    simp only [fillParts, Option.some.injEq] at he; subst he
    exact ⟨arr, by simp [Instr.fill], h⟩
  | (i, x) :: ps, cs, arr, cs', hv, h, he => by
    simp only [fillParts] at he
    split at he
    · rename_i o s g hf
      split at he
      · rename_i hb
        simp only [Bool.and_eq_true] at hb
        obtain ⟨⟨h1, h2⟩, h3⟩ := hb
        have h2' : (cellsOf (S.ev x)).length = s := Nat.eq_of_beq_eq_true h2
        have h3' := Nat.le_of_ble_eq_true h3
        have hx : VR ρ N w (S.ev x) (a.eval x) := hv (i, x) (List.mem_cons_self ..)
        have hc := cellsOf_VR h1 hx
        have hlen : (cellsOf (S.ev x)).length = (a.eval x).cells.size := by have := hc.length; simpa using this
        have hal : cs.length = arr.size := by have := h.length; simpa using this
        have hput := putAll_VRs (cellsOf (S.ev x)) (a.eval x).cells.toList o cs arr.toList h hc
        rw [← foldl_set] at hput
        obtain ⟨arr', ha, hr⟩ := fill_parts hpl ps _ _ (fun p hp => hv p (List.mem_cons_of_mem _ hp)) hput he
        refine ⟨arr', ?_, hr⟩
        rw [List.map_cons, fill_cons (hpl i _ hf) (by simp only; omega) (by simp only; omega)]
        exact ha
      · cases he
    · cases he
theorem told_build {t : Nat} {ps : Array (Nat × Operand)} {fs : List (Nat × Nat × Bool)} {ti : TI} {cs : List AV} (ht : TyOK P t ti) (hd : ti.d = .struct fs) (hf : fillParts S fs ti.zero ps.toList = some cs) : Told P H B S (.build t ps) (.agg cs) [] :=
  Told.pure fun o ρ N a w ho hp => by
    have hde := ht.desc
    rw [hd] at hde
    obtain ⟨fields, hu, hfs⟩ := hde
    have hz := ht.zero_cells (ρ := ρ) (N := N) (w := w)
    obtain ⟨arr', h1, h2⟩ := fill_parts (S := S) (a := a) (place := fun i => (fields.map fun f => (f.offset, ((P.info? f.type).map (·.size)).getD 0))[i]?) (fun i x hx => by
      obtain ⟨fl, hfl, hok⟩ := hfs.get i hx
      rw [Array.getElem?_toList] at hfl
      simp [hfl, hok.1, hok.2.1]) ps.toList ti.zero (zeroOf ti).cells (fun p hpm => hp.ops p.2 (by simp only [Op.operands, List.mem_toArray, List.mem_map]; exact ⟨p, hpm, rfl⟩)) hz hf
    refine ⟨.agg arr', ?_, arr', rfl, h2⟩
    have hpl : ((fields.mapM (m := Sem) fun f => do pure (f.offset, ← sizeOf f.type)).run P w) = .ok (fields.map fun f => (f.offset, ((P.info? f.type).map (·.size)).getD 0)) w := by
      have hl : ∀ {l : List Field} {xs : List (Nat × Nat × Bool)}, FieldsOK P l xs → (xs.map fun x => (x.1, x.2.1)) = l.map fun f => (f.offset, ((P.info? f.type).map (·.size)).getD 0) := by
        intro l
        induction l with
        | nil => intro xs h; simp only [FieldsOK] at h; subst h; rfl
        | cons f l ih =>
          intro xs h
          simp only [FieldsOK] at h; obtain ⟨y, ys, rfl, g1, g2⟩ := h
          simp only [List.map_cons]
          rw [ih g2]
          simp [g1.1, g1.2.1]
      rw [Array.mapM_eq_mapM_toList]
      simp only [Sem.run_map, run_places hfs, Result.andThen, hl hfs]
      congr 1
      apply Array.ext'
      simp
    have hm : (ps.map fun (p : Nat × Operand) => (p.1, a.eval p.2)).toList = ps.toList.map fun p => (p.1, a.eval p.2) := by simp
    simp only [execOp, ho, Instr.build, Sem.run_bind, ht.run_zero, Result.andThen_ok, run_underlying hu, hpl, hm, h1, Sem.run_pure]
theorem lit_row {ρ : Nat → Option Value} {N : Nat → Prop} {w : World} {a : Act} {k : IntKind} :
    ∀ (ps : List (Nat × Operand)) (j : Nat) (arr : Array Value) {l : List Int}, (∀ p ∈ ps, VR ρ N w (S.ev p.2) (a.eval p.2)) → litRow S k ps j = some l → j + l.length ≤ arr.size →
      l.length = ps.length ∧ ∃ arr', Instr.fill (fun i => some (i * 1, 1)) arr (ps.map fun p => (p.1, a.eval p.2)) = some arr' ∧ arr'.toList = arr.toList.take j ++ (l.map (Value.int k) ++ arr.toList.drop (j + l.length))
  | [], j, arr, l, _, he, hl => by
    simp only [litRow, Option.some.injEq] at he; subst he
    exact ⟨rfl, arr, by simp [Instr.fill], by simp⟩
  | (i, x) :: ps, j, arr, l, hv, he, hl => by
    simp only [litRow] at he
    split at he
    · rename_i n l' hij hx hl'
      simp only [Option.some.injEq] at he; subst he
      obtain rfl := Nat.eq_of_beq_eq_true hij
      have hxe : a.eval x = .int k n := by
        have h0 := hv (i, x) (List.mem_cons_self ..)
        simp only at h0
        unfold asInt at hx
        split at hx
        · rename_i k1 n1 k2 heq
          split at hx
          · rename_i hk
            obtain rfl := kEq_eq hk
            simp only [Option.some.injEq] at hx; subst hx
            rw [heq] at h0
            exact VR_int h0
          · cases hx
        · cases hx
      simp only [List.length_cons] at hl
      obtain ⟨hlen, arr', h1, h2⟩ := lit_row ps (i + 1) (arr.setIfInBounds i (.int k n)) (fun p hp => hv p (List.mem_cons_of_mem _ hp)) hl' (by simp; omega)
      refine ⟨by simp [hlen], arr', ?_, ?_⟩
      · have e0 : ((#[Value.int k n] : Array Value).zipIdx.foldl (fun (cs : Array Value) (p : Value × Nat) => cs.setIfInBounds (i * 1 + p.2) p.1) arr) = arr.setIfInBounds i (.int k n) := by simp
        rw [List.map_cons, fill_cons (off := i * 1) (size := 1) rfl (by simp only [hxe]; rfl) (by omega)]
        simp only [hxe]
        exact (congrArg (fun z => Instr.fill (fun i => some (i * 1, 1)) z _) e0).trans h1
      · rw [h2]
        simp only [Array.toList_setIfInBounds, List.length_cons, List.map_cons]
        have hi : i < arr.toList.length := by rw [Array.length_toList]; omega
        rw [List.take_set, List.drop_set]
        rw [if_pos (by omega)]
        rw [List.take_add_one, List.getElem?_eq_getElem hi]
        simp only [Option.toList_some]
        rw [List.set_append_right _ _ (by simp; omega)]
        simp only [List.length_take]
        rw [show i - min i arr.toList.length = 0 from by omega]
        simp only [List.set_cons_zero, List.append_assoc, List.cons_append, List.nil_append]
        rw [show i + 1 + l'.length = i + (l'.length + 1) from by omega]
    · cases he
theorem told_buildSlice {t e b n : Nat} {k : IntKind} {ps : Array (Nat × Operand)} {l : List Int} (hr : IntRow P t e k b) (hn : n = ps.toList.length) (hm : n ≤ 16777216) (hl : litRow S k ps.toList 0 = some l) : Told P H B S (.buildSlice t n ps) (.own S.hp.length) [.ints e k l] :=
  Told.new fun o ρ N a w ho hp => by
    obtain ⟨i, hinfo, hs1, hs2, hs3⟩ := hr.info
    have hlen0 : l.length = ps.toList.length := by
      obtain ⟨h, _⟩ := lit_row (ρ := ρ) (N := N) (w := w) (a := a) ps.toList 0 (Array.replicate (l.length) undef) (fun p hpm => hp.ops p.2 (by simp only [Op.operands, List.mem_toArray, List.mem_map]; exact ⟨p, hpm, rfl⟩)) hl (by simp)
      exact h
    obtain ⟨_, arr', h1, h2⟩ := lit_row (ρ := ρ) (N := N) (w := w) (a := a) ps.toList 0 ((Array.range (n * 1)).map fun j => (if n * 1 = 0 then (#[] : Array Value) else #[Value.int k 0])[j % (if n * 1 = 0 then (#[] : Array Value) else #[Value.int k 0]).size]!) (fun p hpm => hp.ops p.2 (by simp only [Op.operands, List.mem_toArray, List.mem_map]; exact ⟨p, hpm, rfl⟩)) hl (by simp; omega)
    have harr : arr'.toList = l.map (Value.int k) := by
      rw [h2]
      simp only [List.take_zero, List.nil_append, Nat.zero_add]
      rw [List.drop_eq_nil_of_le (by simp; omega), List.append_nil]
    refine ⟨.slice (some ⟨w.heap.size, 0, none⟩) n n, .cells arr' e, .slice (some ⟨w.heap.size, 0, none⟩) n n, ?_, fun ρ' hext hself => ⟨⟨hself, _, _, _, rfl⟩, ?_⟩, fun g hg => by simpa [hand] using hg.symm⟩
    · have hm' : (ps.map fun (p : Nat × Operand) => (p.1, a.eval p.2)).toList = ps.toList.map fun p => (p.1, a.eval p.2) := by simp
      simp only [execOp, ho, Instr.buildSlice, Sem.run_bind, run_underlying hr.row, Result.andThen_ok, hr.run_sizeOf]
      rw [if_neg (by omega)]
      have hz : (zeroValue e).run P w = .ok (.int k 0) w := by simp [zeroValue, typeInfo, hinfo, hs3]
      split
      · rename_i hn0
        simp only [if_pos hn0] at h1
        simp at h1
        simp [newRow, newObj, Sem.run, h1]
      · rename_i hn0
        simp only [if_neg hn0] at h1
        simp at h1
        simp [newRow, newObj, Sem.run, hz, Value.cells, h1]
    · show World.ownsRow _ _ _ _ _ _ _
      have := World.ownsRow_lit (base := B.lo) (e := e) (size := 1) w arr' n hp.hb (by unfold maxLen; omega) (by rw [← Array.length_toList, harr, List.length_map, Nat.mul_one]; omega)
      rw [harr] at this
      rw [show l.length = n from by omega]
      exact this
theorem asRow_VR {ρ : Nat → Option Value} {N : Nat → Prop} {w : World} {v : AV} {k : IntKind} {l : List Int} {u : Value} (h : asRow v k = some l) (hv : VR ρ N w v u) : VR ρ N w (.ro k l) u := by
  unfold asRow at h
  split at h
  · split at h
    · rename_i hk
      obtain rfl := kEq_eq hk
      simp only [Option.some.injEq] at h; subst h
      exact hv
    · cases h
  · simp only [Option.some.injEq] at h; subst h
    obtain rfl : u = _ := hv
    exact ⟨none, 0, rfl, Nat.le_refl _, fun h => by simp at h⟩
  · cases h
theorem lit_rows {ρ : Nat → Option Value} {N : Nat → Prop} {w : World} {a : Act} {k : IntKind} :
    ∀ (ps : List (Nat × Operand)) (j : Nat) (arr : Array Value) {ls : List (List Int)}, (∀ p ∈ ps, VR ρ N w (S.ev p.2) (a.eval p.2)) → litRows S k ps j = some ls → j + ls.length ≤ arr.size →
      ls.length = ps.length ∧ ∃ us arr', VRs ρ N w (ros k ls) us ∧ us.length = ls.length ∧ Instr.fill (fun i => some (i * 1, 1)) arr (ps.map fun p => (p.1, a.eval p.2)) = some arr' ∧ arr'.toList = arr.toList.take j ++ (us ++ arr.toList.drop (j + ls.length))
  | [], j, arr, ls, _, he, hl => by
    simp only [litRows, Option.some.injEq] at he; subst he
    exact ⟨rfl, [], arr, rfl, rfl, by simp [Instr.fill], by simp⟩
  | (i, x) :: ps, j, arr, ls, hv, he, hl => by
    simp only [litRows] at he
    split at he
    · rename_i l ls' hij hx hl'
      simp only [Option.some.injEq] at he; subst he
      obtain rfl := Nat.eq_of_beq_eq_true hij
      have hu := asRow_VR hx (hv (i, x) (List.mem_cons_self ..))
      obtain ⟨A, cp, hxe, _⟩ := id hu
      simp only at hxe
      simp only [List.length_cons] at hl
      obtain ⟨hlen, us, arr', h0, hul, h1, h2⟩ := lit_rows ps (i + 1) (arr.setIfInBounds i (.slice A l.length cp)) (fun p hp => hv p (List.mem_cons_of_mem _ hp)) hl' (by simp; omega)
      refine ⟨by simp [hlen], .slice A l.length cp :: us, arr', ⟨_, _, rfl, by rw [← hxe]; exact hu, h0⟩, by simp [hul], ?_, ?_⟩
      · have e0 : ((#[Value.slice A l.length cp] : Array Value).zipIdx.foldl (fun (cs : Array Value) (p : Value × Nat) => cs.setIfInBounds (i * 1 + p.2) p.1) arr) = arr.setIfInBounds i (.slice A l.length cp) := by simp
        rw [List.map_cons, fill_cons (off := i * 1) (size := 1) rfl (by simp only [hxe]; rfl) (by omega)]
        simp only [hxe]
        exact (congrArg (fun z => Instr.fill (fun i => some (i * 1, 1)) z _) e0).trans h1
      · rw [h2]
        simp only [Array.toList_setIfInBounds, List.length_cons]
        have hi : i < arr.toList.length := by rw [Array.length_toList]; omega
        rw [List.take_set, List.drop_set]
        rw [if_pos (by omega)]
        rw [List.take_add_one, List.getElem?_eq_getElem hi]
        simp only [Option.toList_some]
        rw [List.set_append_right _ _ (by simp; omega)]
        simp only [List.length_take]
        rw [show i - min i arr.toList.length = 0 from by omega]
        simp only [List.set_cons_zero, List.append_assoc, List.cons_append, List.nil_append]
        rw [show i + 1 + ls'.length = i + (ls'.length + 1) from by omega]
    · cases he
theorem told_buildRows {t e b n : Nat} {k : IntKind} {ps : Array (Nat × Operand)} {ls : List (List Int)} (hr : RowRow P t e b) (hn : n = ps.toList.length) (hm : n ≤ 16777216) (hl : litRows S k ps.toList 0 = some ls) : Told P H B S (.buildSlice t n ps) (.own S.hp.length) [.rws e k ls] :=
  Told.new fun o ρ N a w ho hp => by
    obtain ⟨i, hinfo, hs1, hs2, hs3⟩ := hr.info
    have hops : ∀ p ∈ ps.toList, VR ρ N w (S.ev p.2) (a.eval p.2) := fun p hpm => hp.ops p.2 (by simp only [Op.operands, List.mem_toArray, List.mem_map]; exact ⟨p, hpm, rfl⟩)
    have hlen0 : ls.length = ps.toList.length := (lit_rows (ρ := ρ) (N := N) (w := w) (a := a) ps.toList 0 (Array.replicate (ls.length) undef) hops hl (by simp)).1
    obtain ⟨_, us, arr', hus, hul, h1, h2⟩ := lit_rows (ρ := ρ) (N := N) (w := w) (a := a) ps.toList 0 ((Array.range (n * 1)).map fun j => (if n * 1 = 0 then (#[] : Array Value) else #[Value.slice none 0 0])[j % (if n * 1 = 0 then (#[] : Array Value) else #[Value.slice none 0 0]).size]!) hops hl (by simp; omega)
    have harr : arr'.toList = us := by
      rw [h2]
      simp only [List.take_zero, List.nil_append, Nat.zero_add]
      rw [List.drop_eq_nil_of_le (by simp; omega), List.append_nil]
    refine ⟨.slice (some ⟨w.heap.size, 0, none⟩) n n, .cells arr' e, .slice (some ⟨w.heap.size, 0, none⟩) n n, ?_, fun ρ' hext hself => ⟨⟨hself, _, _, _, rfl⟩, us, ?_, VRs.new hp.nw hext hus⟩, fun g hg => by simpa [hand] using hg.symm⟩
    · have hm' : (ps.map fun (p : Nat × Operand) => (p.1, a.eval p.2)).toList = ps.toList.map fun p => (p.1, a.eval p.2) := by simp
      simp only [execOp, ho, Instr.buildSlice, Sem.run_bind, run_underlying hr.row, Result.andThen_ok, hr.run_sizeOf]
      rw [if_neg (by omega)]
      have hz : (zeroValue e).run P w = .ok (.slice none 0 0) w := by simp [zeroValue, typeInfo, hinfo, hs3]
      split
      · rename_i hn0
        simp only [if_pos hn0] at h1
        simp at h1
        simp [newRow, newObj, Sem.run, h1]
      · rename_i hn0
        simp only [if_neg hn0] at h1
        simp at h1
        simp [newRow, newObj, Sem.run, hz, Value.cells, h1]
    · have := World.ownsRow_lit (base := B.lo) (e := e) (size := 1) w arr' n hp.hb (by unfold maxLen; omega) (by rw [← Array.length_toList, harr, hul, Nat.mul_one]; omega)
      rw [harr] at this
      rw [show ls.length = n from by omega]
      exact this
theorem asFn_VR {ρ : Nat → Option Value} {N : Nat → Prop} {w : World} {v : AV} {f : Nat} {u : Value} (h : asFn v = some f) (hv : VR ρ N w v u) : VR ρ N w (.fn f) u := by
  unfold asFn at h
  split at h
  · simp only [Option.some.injEq] at h; subst h
    exact hv
  · cases h
theorem lit_fns {ρ : Nat → Option Value} {N : Nat → Prop} {w : World} {a : Act} :
    ∀ (ps : List (Nat × Operand)) (j : Nat) (arr : Array Value) {ls : List Nat}, (∀ p ∈ ps, VR ρ N w (S.ev p.2) (a.eval p.2)) → litFns S ps j = some ls → j + ls.length ≤ arr.size →
      ls.length = ps.length ∧ ∃ us arr', VRs ρ N w (ls.map AV.fn) us ∧ us.length = ls.length ∧ Instr.fill (fun i => some (i * 1, 1)) arr (ps.map fun p => (p.1, a.eval p.2)) = some arr' ∧ arr'.toList = arr.toList.take j ++ (us ++ arr.toList.drop (j + ls.length))
  | [], j, arr, ls, _, he, hl => by
    simp only [litFns, Option.some.injEq] at he; subst he
    exact ⟨rfl, [], arr, rfl, rfl, by simp [Instr.fill], by simp⟩
  | (i, x) :: ps, j, arr, ls, hv, he, hl => by
    simp only [litFns] at he
    split at he
    · rename_i l ls' hij hx hl'
      simp only [Option.some.injEq] at he; subst he
      obtain rfl := Nat.eq_of_beq_eq_true hij
      have hu := asFn_VR hx (hv (i, x) (List.mem_cons_self ..))
      have hxe := id hu
      simp only [VR] at hxe
      simp only [List.length_cons] at hl
      obtain ⟨hlen, us, arr', h0, hul, h1, h2⟩ := lit_fns ps (i + 1) (arr.setIfInBounds i (.func (.func l) #[] #[])) (fun p hp => hv p (List.mem_cons_of_mem _ hp)) hl' (by simp; omega)
      refine ⟨by simp [hlen], .func (.func l) #[] #[] :: us, arr', ⟨_, _, rfl, by rw [← hxe]; exact hu, h0⟩, by simp [hul], ?_, ?_⟩
      · have e0 : ((#[Value.func (.func l) #[] #[]] : Array Value).zipIdx.foldl (fun (cs : Array Value) (p : Value × Nat) => cs.setIfInBounds (i * 1 + p.2) p.1) arr) = arr.setIfInBounds i (.func (.func l) #[] #[]) := by simp
        rw [List.map_cons, fill_cons (off := i * 1) (size := 1) rfl (by simp only [hxe]; rfl) (by omega)]
        simp only [hxe]
        exact (congrArg (fun z => Instr.fill (fun i => some (i * 1, 1)) z _) e0).trans h1
      · rw [h2]
        simp only [Array.toList_setIfInBounds, List.length_cons]
        have hi : i < arr.toList.length := by rw [Array.length_toList]; omega
        rw [List.take_set, List.drop_set]
        rw [if_pos (by omega)]
        rw [List.take_add_one, List.getElem?_eq_getElem hi]
        simp only [Option.toList_some]
        rw [List.set_append_right _ _ (by simp; omega)]
        simp only [List.length_take]
        rw [show i - min i arr.toList.length = 0 from by omega]
        simp only [List.set_cons_zero, List.append_assoc, List.cons_append, List.nil_append]
        rw [show i + 1 + ls'.length = i + (ls'.length + 1) from by omega]
    · cases he
theorem someFns_VRs {ρ : Nat → Option Value} {N : Nat → Prop} {w : World} : ∀ (fs : List Nat) (us : List Value), VRs ρ N w (fs.map AV.fn) us → VRs ρ N w ((someFns fs).map fav) us
  | [], us, h => h
  | f :: fs, _, ⟨u, us, h1, h2, h3⟩ => ⟨u, us, h1, h2, someFns_VRs fs us h3⟩
theorem gapFns_VRs {ρ : Nat → Option Value} {N : Nat → Prop} {w : World} (fs : List Nat) (us : List Value) (h : VRs ρ N w (fs.map AV.fn) us) : ∀ (g : Nat), VRs ρ N w ((gapFns g fs).map fav) (List.replicate g .nilFunc ++ us)
  | 0 => someFns_VRs fs us h
  | g + 1 => ⟨_, _, rfl, rfl, gapFns_VRs fs us h g⟩
theorem someFns_length : ∀ (fs : List Nat), (someFns fs).length = fs.length
  | [] => rfl
  | f :: fs => by simp [someFns, someFns_length fs]
theorem gapFns_length (fs : List Nat) : ∀ (g : Nat), (gapFns g fs).length = g + fs.length
  | 0 => by simp [gapFns, someFns_length fs]
  | g + 1 => by simp [gapFns, gapFns_length fs g]; omega
theorem told_buildFns {t e b n g : Nat} {ps : Array (Nat × Operand)} {ls : List Nat} (hr : FnRow P t e b) (hn : n = g + ps.toList.length) (hps : 0 < ps.toList.length) (hm : n ≤ 16777216) (hl : litFns S ps.toList g = some ls) : Told P H B S (.buildSlice t n ps) (.own S.hp.length) [.fns e (gapFns g ls)] :=
  Told.new fun o ρ N a w ho hp => by
    obtain ⟨i, hinfo, hs1, hs2, hs3⟩ := hr.info
    have hops : ∀ p ∈ ps.toList, VR ρ N w (S.ev p.2) (a.eval p.2) := fun p hpm => hp.ops p.2 (by simp only [Op.operands, List.mem_toArray, List.mem_map]; exact ⟨p, hpm, rfl⟩)
    have hlen0 : ls.length = ps.toList.length := (lit_fns (ρ := ρ) (N := N) (w := w) (a := a) ps.toList g (Array.replicate (g + ls.length) undef) hops hl (by simp)).1
    have hn0 : ¬ n * 1 = 0 := by omega
    obtain ⟨_, us, arr', hus, hul, h1, h2⟩ := lit_fns (ρ := ρ) (N := N) (w := w) (a := a) ps.toList g ((Array.range (n * 1)).map fun j => (if n * 1 = 0 then (#[] : Array Value) else #[Value.nilFunc])[j % (if n * 1 = 0 then (#[] : Array Value) else #[Value.nilFunc]).size]!) hops hl (by simp; omega)
    have harr : arr'.toList = List.replicate g .nilFunc ++ us := by
      rw [h2, if_neg hn0]
      rw [List.drop_eq_nil_of_le (by simp; omega), List.append_nil]
      congr 1
      apply List.ext_getElem?
      intro j
      rw [List.getElem?_take, List.getElem?_replicate]
      by_cases hj : j < g
      · rw [if_pos hj, if_pos hj, Array.getElem?_toList, Array.getElem?_map, Array.getElem?_range, if_pos (by omega)]
        simp [Nat.mod_one]
      · rw [if_neg hj, if_neg hj]
    refine ⟨.slice (some ⟨w.heap.size, 0, none⟩) n n, .cells arr' e, .slice (some ⟨w.heap.size, 0, none⟩) n n, ?_, fun ρ' hext hself => ⟨⟨hself, _, _, _, rfl⟩, _, ?_, VRs.new hp.nw hext (gapFns_VRs ls us hus g)⟩, fun g hg => by simpa [hand] using hg.symm⟩
    · have hm' : (ps.map fun (p : Nat × Operand) => (p.1, a.eval p.2)).toList = ps.toList.map fun p => (p.1, a.eval p.2) := by simp
      simp only [execOp, ho, Instr.buildSlice, Sem.run_bind, run_underlying hr.row, Result.andThen_ok, hr.run_sizeOf]
      rw [if_neg (by omega)]
      have hz : (zeroValue e).run P w = .ok .nilFunc w := by simp [zeroValue, typeInfo, hinfo, hs3]
      simp only [if_neg hn0] at h1
      simp at h1
      simp [newRow, newObj, Sem.run, hz, Value.cells, h1, hn0]
      omega
    · have := World.ownsRow_lit (base := B.lo) (e := e) (size := 1) w arr' n hp.hb (by unfold maxLen; omega) (by rw [← Array.length_toList, harr, List.length_append, List.length_replicate, hul, Nat.mul_one]; omega)
      rw [harr] at this
      rw [gapFns_length, show g + ls.length = n from by omega]
      exact this
/-- What a call answers, as the caller may use it: its own rows get numbers from m on. -/
def ResV (m : Nat) (w : World) (AB : Nat → Prop) (w' : World) (rs : List D) (val : Value) : Prop :=
  ∃ (ρ : Nat → Option Value) (N : Nat → Prop), VR ρ N w' (packD rs m) val ∧ (∀ i u, ρ i = some u → m ≤ i ∧ i < m + (blkDs rs).length) ∧
    (∀ k b, (blkDs rs)[k]? = some b → ∃ u, ρ (m + k) = some u ∧ BR ⟨w.heap.size, none⟩ ρ N w' u b ∧ ∀ g, hand u = some g → w.heap.size ≤ g ∧ ¬ N g) ∧
    (∀ j k u v g, j < (blkDs rs).length → k < (blkDs rs).length → j ≠ k → ρ (m + j) = some u → ρ (m + k) = some v → hand u = some g → hand v ≠ some g) ∧
    (∀ g, N g → (AB g ∨ w.heap.size ≤ g) ∧ g < w'.heap.size) ∧ (D.hasRos rs = false → ∀ g, N g → w.heap.size ≤ g)
def CallsE (P : Program) (f : FuncId) (args : Array Value) (w : World) (R : Value → World → Prop) : Prop :=
  (∃ fn, P.funcs[f]? = some fn ∧ (fn.name == "runtime.NumGoroutine") = false ∧ fn.body.isNone = false ∧ Calls P f args w fun e w' => ∃ v, e = .returned v ∧ R v w') ∨
  (∃ v w', (callFunc f args).run P w = .ok (.value v) w' ∧ R v w')
def CallD (P : Program) (H : World → Prop) (f : FuncId) (ds rs : List D) : Prop :=
  ∀ (w : World) (vals : List Value) (AB : Nat → Prop), H w → VRs (fun _ => none) AB w (ofDs ds 0) vals → (∀ g, AB g → g < w.heap.size) →
    CallsE P f vals.toArray w fun val w' => Below w.heap.size w w' ∧ ∀ m, ResV m w AB w' rs val
def CallOK0 {α : Type} (P : Program) (H : World → Prop) (c : Cfg α) : Prop := ∀ f ds K r, c.call f ds K = some r → ∃ rs, K rs = some r ∧ CallD P H f ds rs
def D.val : D → Value
  | .int k n => .int k n
  | .bool b => .bool b
  | _ => .bool false
theorem scal_ofD {d : D} (h : d.scal = true) (m : Nat) {ρ : Nat → Option Value} {N : Nat → Prop} {w : World} {v : Value} : VR ρ N w (ofD d m) v ↔ v = d.val := by
  cases d <;> first | (cases h; done) | exact Iff.rfl
theorem scal_blk {d : D} (h : d.scal = true) : blkD d = [] := by
  cases d <;> first | (cases h; done) | rfl
theorem scal_ofDs {ρ : Nat → Option Value} {N : Nat → Prop} {w : World} : ∀ {ds : List D} (h : ds.all D.scal = true) (m : Nat) {vs : List Value}, VRs ρ N w (ofDs ds m) vs ↔ vs = ds.map D.val
  | [], _, m, vs => by simp [ofDs, VRs]
  | d :: ds, h, m, vs => by
    simp only [List.all_cons, Bool.and_eq_true] at h
    simp only [ofDs, VRs, List.map_cons]
    constructor
    · rintro ⟨u, us, rfl, h1, h2⟩
      rw [(scal_ofD h.1 m).1 h1, (scal_ofDs h.2 _).1 h2]
    · rintro rfl
      exact ⟨_, _, rfl, (scal_ofD h.1 m).2 rfl, (scal_ofDs h.2 _).2 rfl⟩
theorem scal_blks : ∀ {ds : List D}, ds.all D.scal = true → blkDs ds = []
  | [], _ => rfl
  | d :: ds, h => by
    simp only [List.all_cons, Bool.and_eq_true] at h
    rw [blkDs, scal_blk h.1, scal_blks h.2]; rfl
def packV : List D → Value
  | [d] => d.val
  | ds => .tuple (ds.map D.val).toArray
theorem scals_all : ∀ {ds : List D}, scals ds = true → ds.all D.scal = true
  | [], _ => rfl
  | d :: r, h => by
    simp only [scals] at h
    split at h
    · rename_i hd
      simp only [List.all_cons, Bool.and_eq_true]
      exact ⟨hd, scals_all h⟩
    · cases h
/-- A call that writes its first argument: a row of block g, with pre ahead of it and post behind it. -/
def CallW (P : Program) (H : World → Prop) (f : FuncId) (l : List Int) (ds : List D) (l' : List Int) (rs : List D) : Prop :=
  ∀ (w : World) (e g cap : Nat) (pre post : List Value) (vals : List Value) (AB : Nat → Prop), (∀ w', w.grownBy w' (some g) → H w') → w.heap[g]? = some (.cells (pre ++ l.map (Value.int .u64) ++ post).toArray e (0, 0)) → 0 < l.length → l.length ≤ cap →
    VRs (fun _ => none) AB w (ofDs ds 0) vals → (∀ x, AB x → x < w.heap.size ∧ x ≠ g) →
    CallsE P f (.slice (some ⟨g, pre.length, none⟩) l.length cap :: vals).toArray w fun val w' => w.grownBy w' (some g) ∧ l'.length = l.length ∧ w'.heap[g]? = some (.cells (pre ++ l'.map (Value.int .u64) ++ post).toArray e (0, 0)) ∧ val = packV rs
def CallWOK0 {α : Type} (P : Program) (H : World → Prop) (c : Cfg α) : Prop := ∀ f l ds K r, c.callw f l ds K = some r → ∃ l' rs, K l' rs = some r ∧ CallW P H f l ds l' rs
/-- A call that writes through its first argument, a pointer into block g (al: its second argument is the same pointer). -/
def CallP (P : Program) (H : World → Prop) (f : FuncId) (al : Bool) (ss : List Seg) (ds : List D) (ss' : List Seg) (rs : List D) : Prop :=
  ∀ (w : World) (e g : Nat) (pre mid post : List Value) (vals : List Value) (AB : Nat → Prop), (∀ w', w.grownBy w' (some g) → H w') → w.heap[g]? = some (.cells (pre ++ mid ++ post).toArray e (0, 0)) → SegsV AB 0 w ss mid →
    VRs (fun _ => none) AB w (ofDs ds 0) vals → (∀ x, AB x → x < w.heap.size ∧ x ≠ g) →
    CallsE P f ((Value.pointer (some ⟨g, pre.length, none⟩) :: (if al = true then [Value.pointer (some ⟨g, pre.length, none⟩)] else [])) ++ vals).toArray w fun val w' => w.grownBy w' (some g) ∧ val = packV rs ∧
      ∃ (mid' : List Value) (N : Nat → Prop), w'.heap[g]? = some (.cells (pre ++ mid' ++ post).toArray e (0, 0)) ∧ SegsV N 0 w' ss' mid'
def CallPOK {α : Type} (P : Program) (H : World → Prop) (c : Cfg α) : Prop := ∀ f al ss ds K r, c.callp f al ss ds K = some r → ∃ ss' rs, K ss' rs = some r ∧ CallP P H f al ss ds ss' rs
/-- A call that answers a pointer into what its first argument points to. -/
def CallQ (P : Program) (H : World → Prop) (f : FuncId) (ds : List D) (off : Int) : Prop :=
  ∀ (w : World) (g b0 e : Nat) (arr : Array Value) (vals : List Value), (∀ w', w.grownBy w' (some g) → H w') → w.heap[g]? = some (.cells arr e (0, 0)) → b0 ≤ arr.size → VRs (fun _ => none) (fun _ => False) w (ofDs ds 0) vals →
    CallsE P f (.pointer (some ⟨g, b0, none⟩) :: vals).toArray w fun val w' => Below w.heap.size w w' ∧ 0 ≤ off ∧ val = .pointer (some ⟨g, b0 + off.toNat, none⟩)
def CallQOK {α : Type} (P : Program) (H : World → Prop) (c : Cfg α) : Prop := ∀ f ds K r, c.callq f ds K = some r → ∃ off, K off = some r ∧ CallQ P H f ds off
def CallOK {α : Type} (P : Program) (H : World → Prop) (c : Cfg α) : Prop := CallOK0 P H c ∧ CallQOK P H c
def CallWOK {α : Type} (P : Program) (H : World → Prop) (c : Cfg α) : Prop := CallWOK0 P H c ∧ CallPOK P H c
theorem wp_callE {o : Oper} {a : Act} {w : World} {x : Operand} {f : FuncId} {as : Array Operand} {ts : Array TypeId} {R : Value → World → Prop} {next : Act → World → Prop} {Q : Exit → Act → World → Prop}
    (ho : o.op = .call ⟨.value x, as, ts⟩) (hx : a.eval x = .func (.func f) #[] #[]) (h : CallsE P f (as.map a.eval) w R) (hn : ∀ v w', R v w' → next (a.put o.dst v) w') : o.wp P a w next Q := by
  have he : execOp a.eval o = callFunc f (as.map a.eval) := by
    unfold execOp
    simp [ho, resolve, Deferred.ofValue, invoke, hx]
  unfold Oper.wp
  rw [he]
  rcases h with ⟨fn, hf, hname, hb, hc⟩ | ⟨v, w', hr, hR⟩
  · have hr : (callFunc f (as.map a.eval)).run P w = .ok (.enter f (as.map a.eval)) w := by
      have h1 : ¬ fn.name = "runtime.NumGoroutine" := by simpa using hname
      have h2 : ¬ fn.body = none := fun e => by simp [e] at hb
      simp [callFunc, program, Sem.run, hf, h1, h2]
    rw [hr, Oper.upon_enter]
    exact hc.mono fun e w' ⟨v, hv, hR⟩ => by subst hv; exact hn v w' hR
  · rw [hr]
    exact hn v w' hR
mutual
theorem toD_VR {ρ : Nat → Option Value} {N AB : Nat → Prop} {w : World} (hbl : ∀ i b u, S.hp[i]? = some b → ρ i = some u → BR B ρ N w u b) (hN : ∀ g, N g → AB g) :
    ∀ (v : AV) (u : Value) (d : D) (m : Nat), VR ρ N w v u → toD S.hp v = some d → (∀ i x g b, i ∈ owns v → S.hp[i]? = some b → b.live = true → ρ i = some x → hand x = some g → g < w.heap.size → AB g) → VR (fun _ => none) AB w (ofD d m) u
  | .int k n, u, d, m, h, he, _ => by simp only [toD, Option.some.injEq] at he; subst he; exact h
  | .bool b, u, d, m, h, he, _ => by simp only [toD, Option.some.injEq] at he; subst he; exact h
  | .prop p q, u, d, m, h, he, _ => by simp only [toD, Option.some.injEq] at he; subst he; exact h
  | .ro k l, u, d, m, h, he, _ => by
    simp only [toD, Option.some.injEq] at he; subst he
    exact RoV.keep h hN (fun _ _ => rfl)
  | .nil, u, d, m, h, he, _ => by
    simp only [toD, Option.some.injEq] at he; subst he
    obtain rfl : u = _ := h
    exact ⟨none, 0, rfl, Nat.le_refl _, fun h => by simp at h⟩
  | .fn f, u, d, m, h, he, _ => by simp only [toD, Option.some.injEq] at he; subst he; exact h
  | .recs n cs, u, d, m, h, he, _ => by
    simp only [toD, Option.some.injEq] at he; subst he
    exact RecV.keep h hN (fun _ _ => rfl)
  | .own i, u, d, m, h, he, hb => by
    simp only [toD] at he
    split at he
    · rename_i e k l hi
      simp only [Option.some.injEq] at he; subst he
      rw [nth_eq] at hi
      have ho : w.ownsRow B.lo e 1 u l.length (l.map (Value.int k)) := hbl _ _ _ hi h.1
      obtain ⟨A, cp, e1, e2, e3⟩ := (own_at (P := default) ho).sh
      refine ⟨A, cp, e1, e2, fun hl => ?_⟩
      obtain ⟨ad, ea, hc⟩ := e3 hl
      exact ⟨ad, ea, hb i u _ _ (by simp [owns]) hi rfl h.1 (by rw [e1, ea]; rfl) (ho.lt _ (by rw [e1, ea]; rfl)).2, hc⟩
    · rename_i k l hi
      simp only [Option.some.injEq] at he; subst he
      rw [nth_eq] at hi
      exact RoV.keep (hbl _ _ _ hi h.1) hN (fun _ _ => rfl)
    · rename_i k l hi
      simp only [Option.some.injEq] at he; subst he
      rw [nth_eq] at hi
      obtain ⟨g, c, _, _, e1, e2, _, e3⟩ := hbl _ _ _ hi h.1
      obtain ⟨A, cp, f1, f2, f3⟩ := (bor_at (P := default) e2 e3).sh
      refine ⟨A, cp, e1.trans f1, f2, fun hl => ?_⟩
      obtain ⟨ad, ea, hc⟩ := f3 hl
      have e4 := e1.trans f1
      exact ⟨ad, ea, hb i u _ _ (by simp [owns]) hi rfl h.1 (by rw [e4, ea]; rfl) (by
        rw [ea] at f1
        injection f1 with f1
        injection f1 with f1
        rw [← f1]
        exact (Array.getElem?_eq_some_iff.1 e3).1), hc⟩
    · rename_i e k ls hi
      simp only [Option.some.injEq] at he; subst he
      rw [nth_eq] at hi
      have h0 := hbl _ _ _ hi h.1
      refine RecV.keep (rws_rec h0) (fun g hg => ?_) (fun _ _ => rfl)
      rcases hg with hg | hg
      · exact hN g hg
      · obtain ⟨vs, ho, _⟩ := h0
        have hg' : u.ownBlock = some g := by rcases ho.2 with ⟨hv, _⟩ | ⟨g', cap, cur, hv, _⟩ <;> rw [hv] at hg ⊢ <;> first | (cases hg; done) | exact hg
        exact hb i u g _ (by simp [owns]) hi rfl h.1 hg (ho.lt _ hg').2
    · rename_i k ls hi
      simp only [Option.some.injEq] at he; subst he
      rw [nth_eq] at hi
      exact RecV.keep (hbl _ _ _ hi h.1) hN (fun _ _ => rfl)
    · cases he
  | .win i b e, u, d, m, h, he, hb => by
    simp only [toD] at he
    split at he
    · rename_i e' k l hi
      simp only [Option.some.injEq] at he; subst he
      rw [nth_eq] at hi
      obtain ⟨h1, _, _, _, h2, _⟩ := win_at (P := default) hbl hi h
      obtain ⟨A, cp, e1, e2, e3⟩ := h1.sh
      refine ⟨A, cp, e1, e2, fun hl => ?_⟩
      obtain ⟨ad, ea, hc⟩ := e3 hl
      obtain ⟨x, hx, hxg⟩ := h2 ad.block (by rw [e1, ea]; rfl)
      have ho : w.ownsRow B.lo e' 1 x l.length (l.map (Value.int k)) := hbl _ _ _ hi hx
      exact ⟨ad, ea, hb i x _ _ (by simp [owns]) hi rfl hx hxg (ho.lt _ (by
        rcases ho.2 with ⟨rfl, _⟩ | ⟨g, cap, cur, rfl, _⟩
        · cases hxg
        · exact hxg)).2, hc⟩
    · rename_i k l hi
      simp only [Option.some.injEq] at he; subst he
      rw [nth_eq] at hi
      exact RoV.keep (win_fz hbl hi h) hN (fun _ _ => rfl)
    · cases he
  | .agg cs, u, d, m, ⟨vs, e, h⟩, he, hb => by
    simp only [toD] at he
    split at he
    · rename_i ds hds
      simp only [Option.some.injEq] at he; subst he
      exact ⟨vs, e, toDs_VR hbl hN cs vs.toList ds m h hds (fun i x g b hi => hb i x g b (by simpa [owns] using hi))⟩
    · cases he
  | .unk, _, _, _, _, he, _ => by simp [toD] at he
  | .und, _, _, _, _, he, _ => by simp [toD] at he
  | .ptr _ _, _, _, _, _, he, _ => by simp [toD] at he
  | .pro _ _, _, _, _, _, he, _ => by simp [toD] at he
  | .pown _ _, _, _, _, _, he, _ => by simp [toD] at he
  | .prec _, _, _, _, _, he, _ => by simp [toD] at he
  | .tup _, _, _, _, _, he, _ => by simp [toD] at he
  | .nilp, u, d, m, h, he, _ => by simp only [toD, Option.some.injEq] at he; subst he; exact h
  | .sg ss, u, d, m, h, he, _ => by
    simp only [toD, Option.some.injEq] at he; subst he
    obtain ⟨vs, e, h2⟩ := h
    exact ⟨vs, e, SegsV.keep hN (Nat.le_refl _) (fun _ _ => rfl) (SegsV.dull h2)⟩
  | .pseg ss, u, d, m, h, he, _ => by
    simp only [toD, Option.some.injEq] at he; subst he
    obtain ⟨g, o, mid, e, h2, h3, h4⟩ := h
    exact ⟨g, o, mid, e, hN g h2, SegsV.keep hN (Nat.le_refl _) (fun _ _ => rfl) (SegsV.dull h3), h4⟩
  | .pel _ _ _ _, _, _, _, _, he, _ => by simp [toD] at he
  | .rp i o, u, d, m, h, he, hb => by
    have go : ∀ (b : Blk) (ss rs : List Seg), nth S.hp i = some b → isBlk b = some ss → segDrop ss o = some rs → VR (fun _ => none) AB w (.pseg (dull rs)) u := by
      intro b ss rs hb1 hb2 hd
      have hb1' := hb1
      rw [nth_eq] at hb1'
      obtain ⟨g, b0, h1, e⟩ := id h
      obtain ⟨g', b1, mid, h2, h3, h4, h5⟩ := part_at (hbl i b _ hb1' h1) hb2
      simp only [Value.pointer.injEq, Option.some.injEq, Addr.mk.injEq, and_true] at h2
      obtain ⟨rfl, rfl⟩ := h2
      refine ⟨g, b0 + o, mid.drop o, e, ?_, SegsV.keep hN (Nat.le_refl _) (fun _ _ => rfl) (SegsV.dull (h3.drop hd).1), fun j u hj => ?_⟩
      · rcases h5 with ⟨h5, h6⟩ | h5
        · exact hb i _ g b (by simp [owns]) hb1' h5 h1 rfl h6
        · exact hN g h5
      · rw [List.getElem?_drop] at hj
        rw [Nat.add_assoc]
        exact h4 _ u hj
    simp only [toD] at he
    split at he
    · rename_i hb1
      split at he
      · rename_i hd
        simp only [Option.some.injEq] at he; subst he
        exact go _ _ _ hb1 rfl hd
      · cases he
    · rename_i hb1
      split at he
      · rename_i hd
        simp only [Option.some.injEq] at he; subst he
        exact go _ _ _ hb1 rfl hd
      · cases he
    · rename_i hb1
      split at he
      · rename_i hd
        simp only [Option.some.injEq] at he; subst he
        exact go _ _ _ hb1 rfl hd
      · cases he
    · cases he
  | .nilf, _, _, _, _, he, _ => by simp [toD] at he
theorem toDs_VR {ρ : Nat → Option Value} {N AB : Nat → Prop} {w : World} (hbl : ∀ i b u, S.hp[i]? = some b → ρ i = some u → BR B ρ N w u b) (hN : ∀ g, N g → AB g) :
    ∀ (vs : List AV) (us : List Value) (ds : List D) (m : Nat), VRs ρ N w vs us → toDs S.hp vs = some ds → (∀ i x g b, i ∈ ownss vs → S.hp[i]? = some b → b.live = true → ρ i = some x → hand x = some g → g < w.heap.size → AB g) → VRs (fun _ => none) AB w (ofDs ds m) us
  | [], us, ds, m, h, he, _ => by simp only [toDs, Option.some.injEq] at he; subst he; exact h
  | v :: vs, us, ds, m, ⟨u, us', e, h1, h2⟩, he, hb => by
    simp only [toDs] at he
    split at he
    · rename_i d hd
      split at he
      · rename_i ds' hds
        simp only [Option.some.injEq] at he; subst he
        exact ⟨u, us', e, toD_VR hbl hN v u d m h1 hd (fun i x g b hi => hb i x g b (by simp [ownss, hi])), toDs_VR hbl hN vs us' ds' _ h2 hds (fun i x g b hi => hb i x g b (by simp [ownss, hi]))⟩
      · cases he
    · cases he
end
/-- A block that a callee hands over. -/
def NewB (b : Blk) : Prop := (∃ e q l, b = .ints e q l) ∨ (∃ e fs, b = .fns e fs) ∨ ∃ t ss, b = .part t ss
theorem NewB.live {b : Blk} (h : NewB b) : b.live = true := by
  rcases h with ⟨_, _, _, rfl⟩ | ⟨_, _, rfl⟩ | ⟨_, _, rfl⟩ <;> rfl
theorem NewB.weaken {b : Blk} (h : NewB b) {lo : Nat} {ρ ρ' : Nat → Option Value} {N N' : Nat → Prop} {w : World} {u : Value} (hN : ∀ g, N g → N' g) (hρ : ∀ i x, ρ i = some x → ρ' i = some x) (hb : BR ⟨lo, none⟩ ρ N w u b) (hl : B.lo ≤ lo) : BR B ρ' N' w u b := by
  rcases h with ⟨_, _, _, rfl⟩ | ⟨_, _, rfl⟩ | ⟨_, _, rfl⟩
  · exact own_weaken hb hl
  · obtain ⟨vs, h1, h2⟩ := hb
    exact ⟨vs, own_weaken h1 hl, VRs.keep hN (fun _ _ => rfl) hρ _ _ h2⟩
  · obtain ⟨g, arr, h1, h2, h3, h4⟩ := hb
    exact ⟨g, arr, h1, Nat.le_trans hl h2, h3, SegsV.keep hN hl (fun _ _ => rfl) h4⟩
mutual
theorem blkD_ints : ∀ (d : D) (k : Nat) (b : Blk), (blkD d)[k]? = some b → NewB b
  | .own e q l, 0, b, h => by simp only [blkD, List.getElem?_cons_zero, Option.some.injEq] at h; exact .inl ⟨e, q, l, h.symm⟩
  | .fns e fs, 0, b, h => by simp only [blkD, List.getElem?_cons_zero, Option.some.injEq] at h; exact .inr (.inl ⟨e, fs, h.symm⟩)
  | .box t ss, 0, b, h => by simp only [blkD, List.getElem?_cons_zero, Option.some.injEq] at h; exact .inr (.inr ⟨t, ss, h.symm⟩)
  | .box t ss, k + 1, b, h => by simp [blkD] at h
  | .sg _, _, _, h => by simp [blkD] at h
  | .pseg _, _, _, h => by simp [blkD] at h
  | .nilp, _, _, h => by simp [blkD] at h
  | .fns e fs, k + 1, b, h => by simp [blkD] at h
  | .own e q l, k + 1, b, h => by simp [blkD] at h
  | .agg ds, k, b, h => blkDs_ints ds k b (by simpa [blkD] using h)
  | .int _ _, _, _, h => by simp [blkD] at h
  | .bool _, _, _, h => by simp [blkD] at h
  | .ro _ _, _, _, h => by simp [blkD] at h
  | .fn _, _, _, h => by simp [blkD] at h
  | .recs _ _, _, _, h => by simp [blkD] at h
theorem blkDs_ints : ∀ (ds : List D) (k : Nat) (b : Blk), (blkDs ds)[k]? = some b → NewB b
  | [], _, _, h => by simp [blkDs] at h
  | d :: ds, k, b, h => by
    simp only [blkDs, List.getElem?_append] at h
    split at h
    · exact blkD_ints d k b h
    · exact blkDs_ints ds _ b h
end
theorem evs_VRs {ρ : Nat → Option Value} {N : Nat → Prop} {w : World} {a : Act} : ∀ (xs : List Operand), (∀ x ∈ xs, VR ρ N w (S.ev x) (a.eval x)) → VRs ρ N w (evs S xs) (xs.map a.eval)
  | [], _ => rfl
  | x :: xs, h => ⟨_, _, rfl, h x (List.mem_cons_self ..), evs_VRs xs fun y hy => h y (List.mem_cons_of_mem _ hy)⟩
/-- A call that leaves no row of the caller's shared. -/
theorem told_call {x : Operand} {as : Array Operand} {ts : Array TypeId} {f : Nat} {ds rs : List D} (hf : fnOf S x = some f) (hd : toDs S.hp (evs S as.toList) = some ds) (hc : CallD P H f ds rs) (hfz : D.hasRos rs = false ∨ ∀ i, i ∈ ownss (evs S as.toList) → ∀ b, S.hp[i]? = some b → b.live = false) :
    Told P H B S (.call ⟨.value x, as, ts⟩) (packD rs S.hp.length) (blkDs rs) := by
  intro o ρ N a w ho hH hp hfree next Q hn
  have hx : a.eval x = .func (.func f) #[] #[] := by
    have := hp.ops x (by simp [Op.operands, Call.operands])
    unfold fnOf at hf
    split at hf
    · rename_i g hg
      simp only [Option.some.injEq] at hf; subst hf
      rw [hg] at this
      exact this
    · cases hf
  have hargs : VRs ρ N w (evs S as.toList) (as.toList.map a.eval) := evs_VRs _ fun y hy => hp.ops y (by simp only [Op.operands, Call.operands]; simp at hy; simp [hy])
  let AB : Nat → Prop := fun g => N g ∨ ∃ i u b, i ∈ ownss (evs S as.toList) ∧ S.hp[i]? = some b ∧ b.live = true ∧ ρ i = some u ∧ hand u = some g ∧ g < w.heap.size
  have hAB : ∀ g, AB g → g < w.heap.size := by
    rintro g (hg | ⟨_, _, _, _, _, _, _, _, h⟩)
    · exact hp.nw g hg
    · exact h
  have hds := toDs_VR (AB := AB) hp.bl (fun g h => .inl h) _ _ _ 0 hargs hd (fun i u g b h1 h2 h3 h4 h5 h6 => .inr ⟨i, u, b, h1, h2, h3, h4, h5, h6⟩)
  have he : (as.toList.map a.eval).toArray = as.map a.eval := Array.ext' (by simp)
  refine wp_callE ho hx (R := fun val w' => Below w.heap.size w w' ∧ ∀ m, ResV m w AB w' rs val) (he ▸ hc w _ AB hH.1 hds hAB) ?_
  rintro val w' ⟨hbel, hres⟩
  obtain ⟨ρc, Nc, hv, hdom, hblk, hdis, hNc, hro⟩ := hres S.hp.length
  have hk : ∀ i u, ρc i = some u → (fun i => (ρc i).or (ρ i)) i = some u := fun i u h => by simp [h]
  have hk2 : ∀ i u, ρ i = some u → (fun i => (ρc i).or (ρ i)) i = some u := fun i u h => by
    cases hc' : ρc i with
    | none => simp [hc', h]
    | some x =>
      obtain ⟨h1, h2⟩ := hdom i x hc'
      rw [hfree i h1 h2] at h
      cases h
  have hkm : ∀ k u, k < (blkDs rs).length → (fun i => (ρc i).or (ρ i)) (S.hp.length + k) = some u → ρc (S.hp.length + k) = some u := fun k u hk' h => by
    simp only at h
    cases hc' : ρc (S.hp.length + k) with
    | none => rw [hc', hfree _ (by omega) (by omega)] at h; cases h
    | some x => rw [hc'] at h; exact h
  refine hn val (fun i => (ρc i).or (ρ i)) (fun g => N g ∨ Nc g) w' ⟨hk2, ?_, ?_, ?_, fun g h => .inl h, ?_, hbel⟩ (VR.keep (fun g h => .inr h) (fun _ _ => rfl) hk _ _ hv)
  · intro i u h
    cases hc' : ρc i with
    | none => simp only [hc', Option.none_or] at h; exact .inl h
    | some x => exact .inr (hdom i x hc')
  · intro k b hb
    obtain ⟨u, h1, h2, h3⟩ := hblk k b hb
    refine ⟨u, hk _ _ h1, ?_, fun g hg => ?_⟩
    · exact (blkDs_ints rs k b hb).weaken (fun g h => .inr h) hk h2 hp.hb
    · obtain ⟨h4, h5⟩ := h3 g hg
      refine ⟨h4, ?_⟩
      rintro (h6 | h6)
      · exact absurd (hp.nw g h6) (by omega)
      · exact h5 h6
  · intro j k u v g hj hk' hjk hu hv'
    exact hdis j k u v g hj hk' hjk (hkm j u hj hu) (hkm k v hk' hv')
  · rintro g (h | h)
    · exact .inl h
    · obtain ⟨h1, h2⟩ := hNc g h
      rcases h1 with (h1 | ⟨i, u, b, h1, h1', h1'', _⟩) | h1
      · exact .inl h1
      · rcases hfz with hfz | hfz
        · exact .inr ⟨hro hfz g h, h2⟩
        · have := hfz i h1 b h1'; rw [h1''] at this; cases this
      · exact .inr ⟨h1, h2⟩
theorem forkOff_some {β : Type} {o : Int} {K : Nat → Option β} {r : β} : ∀ {l : List Nat}, forkOff o K l = some r → ∃ a : Nat, o = (a : Int) ∧ K a = some r
  | [], h => by cases h
  | a :: l, h => by
    simp only [forkOff] at h
    split at h
    · rename_i he
      exact ⟨a, he, h⟩
    · exact forkOff_some h
/-- Parts that may be written, where they stand. -/
theorem wr_at {B : Bd} {w : World} {ρ : Nat → Option Value} {N : Nat → Prop} {u : Value} {b : Blk} {ss : List Seg} (h : BR B ρ N w u b) (hw : isWr b = some ss) :
    ∃ (g e : Nat) (pre mid post : List Value), u = .pointer (some ⟨g, pre.length, none⟩) ∧ (B.lo ≤ g ∨ B.bor.map Bor.g = some g) ∧ w.heap[g]? = some (.cells (pre ++ mid ++ post).toArray e (0, 0)) ∧ SegsV N B.lo w ss mid ∧ b.live = true ∧ (∀ ss', (putBlk b ss').live = true) ∧
      ∀ (ρ' : Nat → Option Value) (N' : Nat → Prop) (w' : World) (ss' : List Seg) (mid' : List Value), w'.heap[g]? = some (.cells (pre ++ mid' ++ post).toArray e (0, 0)) → SegsV N' B.lo w' ss' mid' → BR B ρ' N' w' u (putBlk b ss') := by
  cases b with
  | part t ss0 =>
    simp only [isWr, Option.some.injEq] at hw; subst hw
    obtain ⟨g, arr, rfl, hb, hh, hs⟩ := h
    refine ⟨g, t, [], arr.toList, [], rfl, .inl hb, by simpa using hh, hs, rfl, fun _ => rfl, fun ρ' N' w' ss' mid' hh' hs' => ⟨g, mid'.toArray, rfl, hb, by simpa using hh', by simpa using hs'⟩⟩
  | bpart ss0 =>
    simp only [isWr, Option.some.injEq] at hw; subst hw
    obtain ⟨d, mid, h1, rfl, hh, hs⟩ := h
    exact ⟨d.g, d.e, d.pre, mid, d.post, rfl, .inr (by rw [h1]; rfl), hh, hs, rfl, fun _ => rfl, fun ρ' N' w' ss' mid' hh' hs' => ⟨d, mid', h1, rfl, hh', hs'⟩⟩
  | _ => cases hw
/-- A call that answers a pointer. -/
theorem told_callq {x : Operand} {as : Array Operand} {ts : Array TypeId} {f i o a : Nat} {vs : List AV} {ds : List D} (hf : fnOf S x = some f) (hev : evs S as.toList = .rp i o :: vs) (hd : toDs S.hp vs = some ds) (hs : scals ds = true) {b : Blk} {ss zs : List Seg} (hb : nth S.hp i = some b) (hw : isWr b = some ss) (hdr : segDrop ss o = some zs) (hc : CallQ P H f ds (a : Int)) :
    Told P H B S (.call ⟨.value x, as, ts⟩) (.rp i (o + a)) [] := by
  intro op ρ N act w ho hH hp hfree next Q hn
  have hx : act.eval x = .func (.func f) #[] #[] := by
    have := hp.ops x (by simp [Op.operands, Call.operands])
    unfold fnOf at hf
    split at hf
    · rename_i g hg
      simp only [Option.some.injEq] at hf; subst hf
      rw [hg] at this
      exact this
    · cases hf
  have hargs : VRs ρ N w (evs S as.toList) (as.toList.map act.eval) := evs_VRs _ fun y hy => hp.ops y (by simp only [Op.operands, Call.operands]; simp at hy; simp [hy])
  rw [hev] at hargs
  obtain ⟨u, us, hvs, ⟨g, b0, hρ, rfl⟩, hus⟩ := hargs
  have hsc := scals_all hs
  have hds : VRs (fun _ => none) (fun _ => False) w (ofDs ds 0) us := by
    have h1 := toDs_VR (AB := fun g => N g ∨ ∃ i u b, i ∈ ownss vs ∧ S.hp[i]? = some b ∧ b.live = true ∧ ρ i = some u ∧ hand u = some g ∧ g < w.heap.size) hp.bl (fun g h => .inl h) _ _ _ 0 hus hd (fun i u g b h1 h2 h3 h4 h5 h6 => .inr ⟨i, u, b, h1, h2, h3, h4, h5, h6⟩)
    exact (scal_ofDs hsc 0).2 ((scal_ofDs hsc 0).1 h1)
  have he : (Value.pointer (some ⟨g, b0 + o, none⟩) :: us).toArray = as.map act.eval := by rw [← hvs]; exact Array.ext' (by simp)
  rw [nth_eq] at hb
  obtain ⟨g', e', pre, mid, post, e1, hgB, hh, hss, _⟩ := wr_at (hp.bl i b _ hb hρ) hw
  simp only [Value.pointer.injEq, Option.some.injEq, Addr.mk.injEq, and_true] at e1
  obtain ⟨rfl, rfl⟩ := e1
  have hle := (hss.drop hdr).2
  refine wp_callE ho hx (he ▸ hc w g (pre.length + o) e' _ us (fun w' hg => hH.2 g w' hgB hg) hh (by simp; omega) hds) ?_
  rintro val w' ⟨hbel, h0, rfl⟩
  refine hn _ ρ N w' ⟨fun _ _ h => h, fun _ _ h => .inl h, fun k b h => by simp at h, fun _ _ _ _ _ h => by simp at h, fun _ h => h, fun _ h => .inl h, hbel⟩ ⟨g, _, hρ, ?_⟩
  rw [Int.toNat_natCast, Nat.add_assoc]
/-- A literal array. -/
theorem told_build_arr {t e n sz : Nat} {k : IntKind} {ps : Array (Nat × Operand)} {l : List Int} {ti tj : TI} (ht : TyOK P t ti) (hd : ti.d = .array n e) (hsz : ti.size = sz) (hn : n = sz) (te : TyOK P e tj) (h1 : tj.size = 1) (hl : litArr S k n ps.toList = some l) : Told P H B S (.build t ps) (.sg [.arr k n l]) [] :=
  Told.pure fun o ρ N a w ho hp => by
    have hde := ht.desc
    rw [hd] at hde
    unfold litArr at hl
    split at hl
    · rename_i hb
      have hnp := Nat.eq_of_beq_eq_true hb
      have hag : ti.isAgg = true := by unfold TI.isAgg; rw [hd]
      have hz : (zeroOf ti).cells.size = n := by
        unfold zeroOf
        rw [hag, if_pos rfl]
        show (ti.zero.map unAV).toArray.size = n
        simp [ht.len, hsz, hn]
      obtain ⟨hlen, arr', h2, h3⟩ := lit_row (ρ := ρ) (N := N) (w := w) (a := a) ps.toList 0 (zeroOf ti).cells (fun p hpm => hp.ops p.2 (by simp only [Op.operands, List.mem_toArray, List.mem_map]; exact ⟨p, hpm, rfl⟩)) hl (by
        have := (lit_row (ρ := ρ) (N := N) (w := w) (a := a) ps.toList 0 (Array.replicate l.length undef) (fun p hpm => hp.ops p.2 (by simp only [Op.operands, List.mem_toArray, List.mem_map]; exact ⟨p, hpm, rfl⟩)) hl (by simp)).1
        omega)
      have harr : arr'.toList = l.map (Value.int k) := by
        rw [h3]
        simp only [List.take_zero, List.nil_append, Nat.zero_add]
        rw [List.drop_eq_nil_of_le (by rw [Array.length_toList]; omega), List.append_nil]
      refine ⟨.agg arr', ?_, arr', rfl, [], by rw [harr, List.append_nil], by omega, rfl⟩
      have hm : (ps.map fun (p : Nat × Operand) => (p.1, a.eval p.2)).toList = ps.toList.map fun p => (p.1, a.eval p.2) := by simp
      simp only [execOp, ho, Instr.build, Sem.run_bind, ht.run_zero, Result.andThen_ok, run_underlying hde, te.run_sizeOf, h1, hm, h2, Sem.run_pure]
    · cases hl
end
end Go.Proofs.YtcacmhcekoeblaaDoorA
