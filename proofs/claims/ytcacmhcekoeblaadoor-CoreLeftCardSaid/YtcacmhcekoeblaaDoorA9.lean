/- Every operation: where the abstract evaluator answers, the machine does what it says. No conditions. -/
import Derived.Test.YtcacmhcekoeblaaDoorA8
namespace Go.Proofs.YtcacmhcekoeblaaDoorA
open Go.RowKit
set_option linter.unusedVariables false
set_option linter.unusedSimpArgs false
set_option linter.unusedSectionVars false
section
variable {α : Type} {E : Env} {S : ASt} {r : α} {c : Cfg α} {o : Oper} {a : Act} {w : World}
theorem rel_freeze (h : Rel E S a w) (is : List Nat) : Rel E { tm := S.tm, hp := freeze is S.hp 0 } a w := by
  obtain ⟨ρ, N, hG, hT⟩ := h
  obtain ⟨N', _, hG'⟩ := hG.freeze is
  exact ⟨ρ, N', hG', fun i hi => hT i (by simpa [freeze_length] using hi)⟩
mutual
theorem toD_freeze (hp : List Blk) (is : List Nat) : ∀ v : AV, toD (freeze is hp 0) v = toD hp v
  | .int _ _ => rfl
  | .bool _ => rfl
  | .prop _ _ => rfl
  | .ro _ _ => rfl
  | .nil => rfl
  | .fn _ => rfl
  | .recs _ _ => rfl
  | .prec _ => rfl
  | .nilp => rfl
  | .nilf => rfl
  | .unk => rfl
  | .und => rfl
  | .ptr _ _ => rfl
  | .pro _ _ => rfl
  | .pown _ _ => rfl
  | .tup _ => rfl
  | .sg _ => rfl
  | .pseg _ => rfl
  | .pel _ _ _ _ => rfl
  | .rp i o => by
    simp only [toD, nth_eq, freeze_get, Nat.zero_add]
    cases hb : hp[i]? with
    | none => rfl
    | some b =>
      simp only [Option.map_some]
      rcases frz_cases is i b with ⟨e, k, l, rfl, h2, _⟩ | ⟨e, k, l, rfl, h2, _⟩ | ⟨t, ss, rfl, h2, _⟩ | h2
      · rw [h2]
      · rw [h2]
      · rw [h2]
      · rw [h2]
  | .win i b e => by
    simp only [toD, nth_eq, freeze_get, Nat.zero_add]
    cases hb : hp[i]? with
    | none => rfl
    | some b =>
      simp only [Option.map_some]
      rcases frz_cases is i b with ⟨e, k, l, rfl, h2, _⟩ | ⟨e, k, l, rfl, h2, _⟩ | ⟨t, ss, rfl, h2, _⟩ | h2
      · rw [h2]
      · rw [h2]
      · rw [h2]
      · rw [h2]
  | .agg cs => by simp only [toD]; rw [toDs_freeze hp is cs]
  | .own i => by
    simp only [toD, nth_eq, freeze_get, Nat.zero_add]
    cases hb : hp[i]? with
    | none => rfl
    | some b =>
      simp only [Option.map_some]
      rcases frz_cases is i b with ⟨e, k, l, rfl, h2, _⟩ | ⟨e, k, l, rfl, h2, _⟩ | ⟨t, ss, rfl, h2, _⟩ | h2
      · rw [h2]
      · rw [h2]
      · rw [h2]
      · rw [h2]
theorem toDs_freeze (hp : List Blk) (is : List Nat) : ∀ vs : List AV, toDs (freeze is hp 0) vs = toDs hp vs
  | [] => rfl
  | v :: vs => by simp only [toDs]; rw [toD_freeze hp is v, toDs_freeze hp is vs]
end
theorem ev_hp (S : ASt) (hp : List Blk) (x : Operand) : ({ tm := S.tm, hp := hp } : ASt).ev x = S.ev x := by cases x <;> rfl
theorem evs_hp (S : ASt) (hp : List Blk) : ∀ xs : List Operand, evs ({ tm := S.tm, hp := hp } : ASt) xs = evs S xs
  | [] => rfl
  | x :: xs => by simp only [evs]; rw [ev_hp, evs_hp S hp xs]
theorem evo_hp (S : ASt) (hp : List Blk) (x : Option Operand) : evo ({ tm := S.tm, hp := hp } : ASt) x = evo S x := by cases x <;> simp [evo, ev_hp]
theorem put_hp (S : ASt) (hp : List Blk) (d : Option Nat) (v : AV) : (({ tm := S.tm, hp := hp } : ASt).put d v).tm = (S.put d v).tm := by cases d <;> rfl
theorem wp_skip_of {P : Program} {w' : World} {next : Act → World → Prop} {Q : Exit → Act → World → Prop} (h : (execOp a.eval o).run P w = .ok .skip w') (hn : next (a.put o.dst undef) w') : o.wp P a w next Q := by
  unfold Oper.wp; rw [h]; exact hn
theorem wp_value_of {P : Program} {w' : World} {v : Value} {next : Act → World → Prop} {Q : Exit → Act → World → Prop} (h : (execOp a.eval o).run P w = .ok (.value v) w') (hn : next (a.put o.dst v) w') : o.wp P a w next Q := by
  unfold Oper.wp; rw [h]; exact hn
theorem mk_rel {ρ : Nat → Option Value} {N : Nat → Prop} {d : Option Tmp} {v : AV} {hp : List Blk} {a' : Act} {w' : World} (h : G E (fun t => if d = some t then v else S.get t) hp ρ N a' w') (hT : Tot ρ hp.length) : Rel E { tm := (S.put d v).tm, hp := hp } a' w' := by
  refine ⟨ρ, N, ?_, hT⟩
  have e : (fun t => if d = some t then v else S.get t) = ({ tm := (S.put d v).tm, hp := hp } : ASt).get := funext fun t => (put_tm t).symm
  rw [← e]; exact h
theorem rel_store_ptr {t i off bt : Nat} {ad x : Operand} {ti : TI} {cs : List AV} (ho : o.op = .store t ad x) (ht : TyOK E.P t ti) (hx : S.ev ad = .ptr i off) (hb : nth S.hp i = some (.cells bt cs)) (hk : okCells (cellsOf (S.ev x)) = true) (hl : (cellsOf (S.ev x)).length = ti.size) (hf : off + ti.size ≤ cs.length)
    (hd : okDst E.nt o = true) (h : Rel E S a w) (Q : Exit → Act → World → Prop) : o.wp E.P a w (fun a' w' => Rel E { tm := (S.put o.dst .unk).tm, hp := setNth S.hp i (.cells bt (putAll cs off (cellsOf (S.ev x)))) } a' w') Q := by
  obtain ⟨ρ, N, hG, hT⟩ := h
  have h1 := ev_VR hG ad
  rw [hx] at h1
  obtain ⟨g, hρ, he⟩ := h1
  rw [nth_eq] at hb
  obtain ⟨g', arr, e1, hgB, hh, hvs⟩ := hG.bl _ _ _ hb hρ
  simp only [Value.pointer.injEq, Option.some.injEq, Addr.mk.injEq, and_true] at e1
  subst e1
  have hc := cellsOf_VR hk (ev_VR hG x)
  have hlen : (a.eval x).cells.size = ti.size := by have := hc.length; simp at this; omega
  have hal : cs.length = arr.size := by have := hvs.length; simpa using this
  have hput := putAll_VRs (cellsOf (S.ev x)) (a.eval x).cells.toList off cs arr.toList hvs hc
  rw [foldl_seg _ _ _ (by simp; omega)] at hput
  have hst := run_storeCells_at E.P g off bt (a.eval x).cells.toList 0 arr w hh (by simp; omega) (okCells_one hk hc)
  simp only [Nat.add_zero] at hst
  have hrun : (execOp a.eval o).run E.P w = .ok .skip (w.setRow g (arr.toList.take off ++ (a.eval x).cells.toList ++ arr.toList.drop (off + (a.eval x).cells.toList.length)).toArray) := by
    simp only [execOp, ho, he, Instr.storeAt, Instr.sureAddr, storeVar, Sem.run_bind, Sem.run_pure, Result.andThen_ok, ht.run_sizeOf]
    rw [if_neg (by omega)]
    simp only [Sem.run_bind, Sem.run_pure, Result.andThen_ok, hst]
  refine wp_skip_of hrun ?_
  rw [setNth_eq]
  have hwr := hG.write (b' := .cells bt (putAll cs off (cellsOf (S.ev x)))) (d := o.dst) (v := .unk) (u := undef) (g := g)
    (w' := w.setRow g (arr.toList.take off ++ (a.eval x).cells.toList ++ arr.toList.drop (off + (a.eval x).cells.toList.length)).toArray)
    hb rfl rfl hρ rfl ⟨rfl, rfl, rfl, by simp [World.setRow], fun k _ hk' => setRow_other w g k _ (fun e => hk' (by rw [e]))⟩ ?_ (okDst_lt hd) trivial
  · exact mk_rel hwr (fun j hj => hT j (by simpa using hj))
  · refine ⟨g, _, rfl, hgB, setRow_heap w g arr _ bt _ hh, ?_⟩
    refine VRs.keep (fun _ h => h) (fun k hk' => setRow_other w g k _ ?_) (fun _ _ h => h) _ _ hput
    exact fun e => hG.nn i _ _ g hb rfl hρ rfl (e ▸ hk')
theorem rel_store_pown {t i e : Nat} {j n : Int} {k : IntKind} {l : List Int} {ad x : Operand} {ti : TI} (ho : o.op = .store t ad x) (ht : TyOK E.P t ti) (h1 : ti.size = 1) (hx : S.ev ad = .pown i j) (hb : nth S.hp i = some (.ints e k l)) (hn : asInt (S.ev x) k = some n)
    (hd : okDst E.nt o = true) (h : Rel E S a w) (Q : Exit → Act → World → Prop) : o.wp E.P a w (fun a' w' => Rel E { tm := (S.put o.dst .unk).tm, hp := setNth S.hp i (.ints e k (l.set j.toNat n)) } a' w') Q := by
  obtain ⟨ρ, N, hG, hT⟩ := h
  have h2 := ev_VR hG ad
  rw [hx] at h2
  obtain ⟨g, of, n', cp, hρ, h0, hj, he⟩ := h2
  rw [nth_eq] at hb
  obtain rfl : of = 0 := by
    have hown : w.ownsRow E.B.lo e 1 (.slice (some ⟨g, of, none⟩) n' cp) l.length (l.map (Value.int k)) := hG.bl _ _ _ hb hρ
    rcases hown.2 with ⟨hv, _⟩ | ⟨g', cap, cur, hv, _⟩
    · cases hv
    · injection hv with hv; injection hv with hv; injection hv
  rw [Nat.zero_add] at he
  have hown : w.ownsRow E.B.lo e 1 (.slice (some ⟨g, 0, none⟩) n' cp) l.length (l.map (Value.int k)) := hG.bl _ _ _ hb hρ
  have hn' : n' = l.length := by
    rcases hown.2 with ⟨hv, _⟩ | ⟨g', cap, cur, hv, _⟩
    · cases hv
    · injection hv
  subst hn'
  have hxe : a.eval x = .int k n := by
    have h3 := ev_VR hG x
    unfold asInt at hn
    split at hn
    · rename_i k1 n1 k2 heq
      split at hn
      · rename_i hk
        obtain rfl := kEq_eq hk
        simp only [Option.some.injEq] at hn; subst hn
        rw [heq] at h3
        exact VR_int h3
      · cases hn
    · cases hn
  have hcell := own_cell hown rfl j.toNat hj
  have hfro := hown.frozenAt j.toNat
  obtain ⟨hs1, hs2⟩ := hown.stored j.toNat (.int k n)
  have hrun : (execOp a.eval o).run E.P w = .ok .skip (w.setCell ⟨g, j.toNat, none⟩ (.int k n)) := by
    have hadd : (⟨g, j.toNat, none⟩ : Addr).add 0 = ⟨g, j.toNat, none⟩ := by simp [Addr.add]
    have hst := run_store E.P w ⟨g, j.toNat, none⟩ (.int k n) .plain rfl
    rw [hcell] at hst
    simp only [hfro, Bool.false_eq_true, if_false] at hst
    simp only [execOp, ho, he, hxe, Instr.storeAt, Instr.sureAddr, storeVar, Value.cells, Sem.run_bind, Sem.run_pure, Result.andThen_ok, ht.run_sizeOf, h1]
    rw [if_neg (by simp)]
    simp [storeCells, hadd, hst]
  refine wp_skip_of hrun ?_
  rw [setNth_eq]
  have hmap : (l.map (Value.int k)).set j.toNat (.int k n) = (l.set j.toNat n).map (Value.int k) := by simp [List.map_set]
  rw [hmap] at hs1
  have hwr := hG.write (b' := .ints e k (l.set j.toNat n)) (d := o.dst) (v := .unk) (u := undef) (g := g) (w' := w.setCell ⟨g, j.toNat, none⟩ (.int k n))
    hb rfl rfl hρ rfl ⟨rfl, rfl, rfl, by simp, fun q _ hq => Below.heap_setCell w _ _ q (fun e => hq (by rw [e]))⟩ (by show World.ownsRow _ _ _ _ _ _ _; rw [List.length_set]; exact hs1) (okDst_lt hd) trivial
  exact mk_rel hwr (fun j hj => hT j (by simpa using hj))
theorem rel_store_bor {t i : Nat} {j n : Int} {k : IntKind} {l : List Int} {ad x : Operand} {ti : TI} (ho : o.op = .store t ad x) (ht : TyOK E.P t ti) (h1 : ti.size = 1) (hx : S.ev ad = .pown i j) (hb : nth S.hp i = some (.bor k l)) (hn : asInt (S.ev x) k = some n)
    (hd : okDst E.nt o = true) (h : Rel E S a w) (Q : Exit → Act → World → Prop) : o.wp E.P a w (fun a' w' => Rel E { tm := (S.put o.dst .unk).tm, hp := setNth S.hp i (.bor k (l.set j.toNat n)) } a' w') Q := by
  obtain ⟨ρ, N, hG, hT⟩ := h
  have h2 := ev_VR hG ad
  rw [hx] at h2
  obtain ⟨g, of, n', cp, hρ, h0, hj, he⟩ := h2
  rw [nth_eq] at hb
  obtain ⟨⟨g', n0, e, k0, pre, post⟩, c', hbo, hn0, hv, hc, hp0, hh⟩ := hG.bl _ _ _ hb hρ
  dsimp only at hv hh hn0
  injection hv with e1 e2 e3
  injection e1 with e1
  injection e1 with e1 e4
  subst e1 e2 e3 e4
  have hxe : a.eval x = .int k n := by
    have h3 := ev_VR hG x
    unfold asInt at hn
    split at hn
    · rename_i k1 n1 k2 heq
      split at hn
      · rename_i hk
        obtain rfl := kEq_eq hk
        simp only [Option.some.injEq] at hn; subst hn
        rw [heq] at h3
        exact VR_int h3
      · cases hn
    · cases hn
  have hcell : w.cell? ⟨g, pre.length + j.toNat, none⟩ = some (.int k (l.getD j.toNat 0)) := by
    obtain ⟨A, c, f1, f2, f3⟩ := (bor_at (P := E.P) hc hh).sh
    obtain ⟨ad', f4, f5⟩ := f3 hp0
    subst f4
    injection f1 with f1
    injection f1 with f1
    subst f1
    have hadd : (⟨g, pre.length, none⟩ : Addr).add j.toNat = ⟨g, pre.length + j.toNat, none⟩ := by unfold Addr.add; split <;> simp_all
    have f6 := f5 j.toNat hj
    rwa [hadd] at f6
  have hfro := frozen_of_row w g (pre.length + j.toNat) _ e hh
  have hrun : (execOp a.eval o).run E.P w = .ok .skip (w.setCell ⟨g, pre.length + j.toNat, none⟩ (.int k n)) := by
    have hadd : (⟨g, pre.length + j.toNat, none⟩ : Addr).add 0 = ⟨g, pre.length + j.toNat, none⟩ := by simp [Addr.add]
    have hst := run_store E.P w ⟨g, pre.length + j.toNat, none⟩ (.int k n) .plain rfl
    rw [hcell] at hst
    simp only [hfro, Bool.false_eq_true, if_false] at hst
    simp only [execOp, ho, he, hxe, Instr.storeAt, Instr.sureAddr, storeVar, Value.cells, Sem.run_bind, Sem.run_pure, Result.andThen_ok, ht.run_sizeOf, h1]
    rw [if_neg (by simp)]
    simp [storeCells, hadd, hst]
  refine wp_skip_of hrun ?_
  rw [setNth_eq]
  have hset := heap_setCell_same w g (pre.length + j.toNat) _ e (.int k n) hh
  have hwr := hG.write (b' := .bor k (l.set j.toNat n)) (d := o.dst) (v := .unk) (u := undef) (g := g) (w' := w.setCell ⟨g, pre.length + j.toNat, none⟩ (.int k n))
    hb rfl rfl hρ rfl ⟨rfl, rfl, rfl, by simp, fun q _ hq => Below.heap_setCell w _ _ q (fun e => hq (by rw [e]))⟩ (by
      refine ⟨⟨g, n0, e, k0, pre, post⟩, cp, hbo, by rw [List.length_set]; exact hn0, by rw [List.length_set], by rw [List.length_set]; exact hc, by rw [List.length_set]; exact hp0, ?_⟩
      dsimp only
      rw [hset]
      congr 2
      apply Array.ext'
      simp only [Array.toList_setIfInBounds, List.append_assoc]
      rw [List.set_append_right _ _ (by omega), Nat.add_sub_cancel_left, List.set_append_left _ _ (by simpa using hj), List.map_set]) (okDst_lt hd) trivial
  exact mk_rel hwr (fun j hj => hT j (by simpa using hj))
theorem packV_VR {ρ : Nat → Option Value} {N : Nat → Prop} {rs : List D} (h : scals rs = true) (m : Nat) : VR ρ N w (packD rs m) (packV rs) := by
  have h' := scals_all h
  match rs, h' with
  | [d], h =>
    simp only [List.all_cons, Bool.and_eq_true] at h
    exact (scal_ofD h.1 m).2 rfl
  | [], h => exact ⟨_, rfl, (scal_ofDs h m).2 rfl⟩
  | d :: e :: r, h => exact ⟨_, rfl, (scal_ofDs h m).2 rfl⟩
theorem dull_size : ∀ ss : List Seg, segsSize (dull ss) = segsSize ss
  | [] => rfl
  | .int _ _ :: r => by simp only [dull, segsSize, dull_size r]
  | .bool _ :: r => by simp only [dull, segsSize, dull_size r]
  | .arr _ _ _ :: r => by simp only [dull, segsSize, dull_size r]
  | .row _ _ _ :: r => by simp only [dull, segsSize, dull_size r, segSize]
theorem SegsV_one {N : Nat → Prop} {lo : Nat} : ∀ {ss : List Seg} {us : List Value}, SegsV N lo w ss us → ∀ u ∈ us, u.oneCell' = true
  | [], _, h, u, hu => by
    have h : _ = [] := h
    subst h; cases hu
  | .int _ _ :: _, _, ⟨us, h1, h2⟩, u, hu => by
    subst h1
    rcases List.mem_cons.1 hu with rfl | hu
    · rfl
    · exact SegsV_one h2 u hu
  | .bool _ :: _, _, ⟨us, h1, h2⟩, u, hu => by
    subst h1
    rcases List.mem_cons.1 hu with rfl | hu
    · rfl
    · exact SegsV_one h2 u hu
  | .arr _ _ _ :: _, _, ⟨us, h1, _, h2⟩, u, hu => by
    subst h1
    rcases List.mem_append.1 hu with hu | hu
    · obtain ⟨_, _, rfl⟩ := List.mem_map.1 hu; rfl
    · exact SegsV_one h2 u hu
  | .row _ _ _ :: _, _, ⟨x, us, h1, h3, h2⟩, u, hu => by
    subst h1
    rcases List.mem_cons.1 hu with rfl | hu
    · obtain ⟨A, c, rfl, _⟩ := h3; rfl
    · exact SegsV_one h2 u hu
theorem SegsV_norow {N N' : Nat → Prop} {lo lo' : Nat} {w w' : World} : ∀ {ss : List Seg} {us : List Value}, anyRow ss = false → SegsV N lo w ss us → SegsV N' lo' w' ss us
  | [], _, _, h => h
  | .int _ _ :: _, _, ha, ⟨us, h1, h2⟩ => ⟨us, h1, SegsV_norow ha h2⟩
  | .bool _ :: _, _, ha, ⟨us, h1, h2⟩ => ⟨us, h1, SegsV_norow ha h2⟩
  | .arr _ _ _ :: _, _, ha, ⟨us, h1, h3, h2⟩ => ⟨us, h1, h3, SegsV_norow ha h2⟩
  | .row _ _ _ :: _, _, ha, _ => by cases ha
theorem seg_store {pre mid post us : List Value} {off : Nat} (h : off + us.length ≤ mid.length) : (pre ++ mid ++ post).take (pre.length + off) ++ us ++ (pre ++ mid ++ post).drop (pre.length + off + us.length) = pre ++ (mid.take off ++ us ++ mid.drop (off + us.length)) ++ post := by
  rw [List.append_assoc pre mid post, List.take_length_add_append, Nat.add_assoc, List.drop_length_add_append, List.take_append_of_le_length (by omega), List.drop_append_of_le_length h]
  simp only [List.append_assoc]
theorem rel_store_rp {t i off : Nat} {ad x : Operand} {ti : TI} {W : Option Lay} {b : Blk} {ss ss' ns : List Seg} (ho : o.op = .store t ad x) (ht : TyOK E.P t ti) (hx : S.ev ad = .rp i off) (hb : nth S.hp i = some b) (hw : isWr b = some ss) (hv : valSegs W (S.ev x) = some ns) (hl : segsSize ns = ti.size) (hp : segPut ss off (dull ns) = some ss')
    (hd : okDst E.nt o = true) (h : Rel E S a w) (Q : Exit → Act → World → Prop) : o.wp E.P a w (fun a' w' => Rel E { tm := (S.put o.dst .unk).tm, hp := setNth S.hp i (putBlk b ss') } a' w') Q := by
  obtain ⟨ρ, N, hG, hT⟩ := h
  have h1 := ev_VR hG ad
  rw [hx] at h1
  obtain ⟨g, b0, hρ, he⟩ := h1
  rw [nth_eq] at hb
  obtain ⟨g', e, pre, mid, post, e1, hgB, hh, hs, hlv, hlv', hfin⟩ := wr_at (hG.bl _ _ _ hb hρ) hw
  simp only [Value.pointer.injEq, Option.some.injEq, Addr.mk.injEq, and_true] at e1
  obtain ⟨rfl, rfl⟩ := e1
  have hc := valSegs_VR (lo := E.B.lo) hv (ev_VR hG x)
  obtain ⟨hput, hle⟩ := hs.put hc hp
  have hlen : (a.eval x).cells.toList.length = ti.size := by rw [hc.length, ← hl]; exact dull_size ns
  have hlen' : (a.eval x).cells.size = ti.size := by rw [← hlen]; simp
  have hst := run_storeCells_at E.P g (pre.length + off) e (a.eval x).cells.toList 0 _ w hh (by simp only [List.size_toArray, List.length_append] ; omega) (SegsV_one hc)
  simp only [Nat.add_zero] at hst
  rw [seg_store hle] at hst
  have hrun : (execOp a.eval o).run E.P w = .ok .skip (w.setRow g (pre ++ (mid.take off ++ (a.eval x).cells.toList ++ mid.drop (off + (a.eval x).cells.toList.length)) ++ post).toArray) := by
    simp only [execOp, ho, he, Instr.storeAt, Instr.sureAddr, storeVar, Sem.run_bind, Sem.run_pure, Result.andThen_ok, ht.run_sizeOf]
    rw [if_neg (by omega)]
    simp only [Sem.run_bind, Sem.run_pure, Result.andThen_ok, hst]
  refine wp_skip_of hrun ?_
  rw [setNth_eq]
  have hout : ∀ q, q ≠ g → (w.setRow g (pre ++ (mid.take off ++ (a.eval x).cells.toList ++ mid.drop (off + (a.eval x).cells.toList.length)) ++ post).toArray).heap[q]? = w.heap[q]? := fun q hq => setRow_other w g q _ hq
  have hwr := hG.write (b' := putBlk b ss') (d := o.dst) (v := .unk) (u := undef) (g := g)
    (w' := w.setRow g (pre ++ (mid.take off ++ (a.eval x).cells.toList ++ mid.drop (off + (a.eval x).cells.toList.length)) ++ post).toArray)
    hb hlv (hlv' _) hρ rfl ⟨rfl, rfl, rfl, by simp [World.setRow], fun k _ hk' => hout k (fun e => hk' (by rw [e]))⟩ ?_ (okDst_lt hd) trivial
  · exact mk_rel hwr (fun j hj => hT j (by simpa using hj))
  · refine hfin _ _ _ _ _ (setRow_heap w g _ _ e _ hh) (SegsV.keep (fun _ h => h) (Nat.le_refl _) (fun k hk' => hout k ?_) hput)
    exact fun e => hG.nn i _ _ g hb hlv hρ rfl (e ▸ hk')
theorem asInt_eval {ρ : Nat → Option Value} {N : Nat → Prop} {v : AV} {u : Value} {k : IntKind} {n : Int} (hn : asInt v k = some n) (h3 : VR ρ N w v u) : u = .int k n := by
  unfold asInt at hn
  split at hn
  · split at hn
    · rename_i hk
      obtain rfl := kEq_eq hk
      simp only [Option.some.injEq] at hn; subst hn
      exact VR_int h3
    · cases hn
  · cases hn
theorem arr_put {mid rest : List Value} {l : List Int} {k : IntKind} {off j : Nat} {m : Int} (he : mid.drop off = l.map (Value.int k) ++ rest) (hj : j < l.length) : mid.take off ++ (l.set j m).map (Value.int k) ++ mid.drop (off + ((l.set j m).map (Value.int k)).length) = mid.set (off + j) (.int k m) := by
  have h1 : mid = mid.take off ++ (l.map (Value.int k) ++ rest) := by rw [← he]; exact (List.take_append_drop _ _).symm
  have h0 : off ≤ mid.length := by
    have := congrArg List.length he
    simp at this
    omega
  have h2 : mid.drop (off + ((l.set j m).map (Value.int k)).length) = rest := by
    rw [← List.drop_drop, he]
    simp
  rw [h2]
  conv => rhs; rw [h1]
  rw [List.set_append_right _ _ (by simp; omega)]
  rw [List.length_take, Nat.min_eq_left h0, Nat.add_sub_cancel_left, List.set_append_left _ _ (by simpa using hj), List.map_set]
  simp only [List.append_assoc]
theorem rel_store_pel {t i off n : Nat} {j m : Int} {k : IntKind} {l : List Int} {ad x : Operand} {ti : TI} {b : Blk} {ss ss' rest : List Seg} (ho : o.op = .store t ad x) (ht : TyOK E.P t ti) (h1 : ti.size = 1) (hx : S.ev ad = .pel i off n j) (hb : nth S.hp i = some b) (hw : isWr b = some ss) (hdr : segDrop ss off = some (.arr k n l :: rest)) (hn : asInt (S.ev x) k = some m) (hp : segPut ss off [.arr k n (l.set j.toNat m)] = some ss')
    (hd : okDst E.nt o = true) (h : Rel E S a w) (Q : Exit → Act → World → Prop) : o.wp E.P a w (fun a' w' => Rel E { tm := (S.put o.dst .unk).tm, hp := setNth S.hp i (putBlk b ss') } a' w') Q := by
  obtain ⟨ρ, N, hG, hT⟩ := h
  have h2 := ev_VR hG ad
  rw [hx] at h2
  obtain ⟨g, b0, hρ, h0, hj, he⟩ := h2
  rw [nth_eq] at hb
  obtain ⟨g', e, pre, mid, post, e1, hgB, hh, hs, hlv, hlv', hfin⟩ := wr_at (hG.bl _ _ _ hb hρ) hw
  simp only [Value.pointer.injEq, Option.some.injEq, Addr.mk.injEq, and_true] at e1
  obtain ⟨rfl, rfl⟩ := e1
  have hxe := asInt_eval hn (ev_VR hG x)
  obtain ⟨⟨us, hmid, hll, hrest⟩, hoff⟩ := hs.drop hdr
  have hns : SegsV N E.B.lo w [.arr k n (l.set j.toNat m)] ((l.set j.toNat m).map (Value.int k)) := ⟨[], by simp, by simpa using hll, rfl⟩
  obtain ⟨hput, hle⟩ := hs.put hns hp
  have hjl : j.toNat < l.length := by omega
  rw [arr_put hmid hjl] at hput
  have hml : off + j.toNat < mid.length := by
    have := congrArg List.length hmid
    simp at this
    omega
  have hcell : w.cell? ⟨g, pre.length + off + j.toNat, none⟩ = some (.int k (l.getD j.toNat 0)) := by
    rw [cell_of_row w g (pre.length + off + j.toNat) _ e (0, 0) hh, ← Array.getElem?_toList]
    simp only [List.append_assoc]
    rw [List.getElem?_append_right (by omega), List.getElem?_append_left (by omega), show pre.length + off + j.toNat - pre.length = off + j.toNat from by omega, ← List.getElem?_drop, hmid, List.getElem?_append_left (by simpa using hjl), List.getElem?_map, List.getElem?_eq_getElem hjl]
    simp [List.getD_eq_getElem?_getD, List.getElem?_eq_getElem hjl]
  have hfro := frozen_of_row w g (pre.length + off + j.toNat) _ e hh
  have hrun : (execOp a.eval o).run E.P w = .ok .skip (w.setCell ⟨g, pre.length + off + j.toNat, none⟩ (.int k m)) := by
    have hadd : (⟨g, pre.length + off + j.toNat, none⟩ : Addr).add 0 = ⟨g, pre.length + off + j.toNat, none⟩ := by simp [Addr.add]
    have hst := run_store E.P w ⟨g, pre.length + off + j.toNat, none⟩ (.int k m) .plain rfl
    rw [hcell] at hst
    simp only [hfro, Bool.false_eq_true, if_false] at hst
    simp only [execOp, ho, he, hxe, Instr.storeAt, Instr.sureAddr, storeVar, Value.cells, Sem.run_bind, Sem.run_pure, Result.andThen_ok, ht.run_sizeOf, h1]
    rw [if_neg (by simp)]
    simp [storeCells, hadd, hst]
  refine wp_skip_of hrun ?_
  rw [setNth_eq]
  have hset := heap_setCell_same w g (pre.length + off + j.toNat) _ e (.int k m) hh
  have hwr := hG.write (b' := putBlk b ss') (d := o.dst) (v := .unk) (u := undef) (g := g) (w' := w.setCell ⟨g, pre.length + off + j.toNat, none⟩ (.int k m))
    hb hlv (hlv' _) hρ rfl ⟨rfl, rfl, rfl, by simp, fun q _ hq => Below.heap_setCell w _ _ q (fun e => hq (by rw [e]))⟩ (by
      refine hfin _ _ _ _ (mid.set (off + j.toNat) (.int k m)) ?_ (SegsV.keep (fun _ h => h) (Nat.le_refl _) (fun q hq => Below.heap_setCell w _ _ q (fun (e : q = g) => hG.nn i _ _ g hb hlv hρ rfl (e ▸ hq))) hput)
      rw [hset]
      congr 2
      apply Array.ext'
      simp only [Array.toList_setIfInBounds, List.append_assoc]
      rw [List.set_append_right _ _ (by omega), show pre.length + off + j.toNat - pre.length = off + j.toNat from by omega, List.set_append_left _ _ hml]) (okDst_lt hd) trivial
  exact mk_rel hwr (fun j hj => hT j (by simpa using hj))
/-- A call that writes a row. -/
theorem rel_callw {x : Operand} {as : Array Operand} {ts : Array TypeId} {f i : Nat} {r : List AV} {v0 : AV} {ds rs : List D} {l0 l' : List Int} {b b' : Blk} (ho : o.op = .call ⟨.value x, as, ts⟩) (hf : fnOf S x = some f) (hevs : evs S as.toList = v0 :: r) (hb : S.hp[i]? = some b) (hl : b.live = true) (hl' : b'.live = true) (hne : has (ownss r) i = false) (hds : toDs S.hp r = some ds) (hc : CallW E.P E.H f l0 ds l' rs) (hrs : scals rs = true) (h0 : 0 < l0.length)
    (hat : ∀ ρ N a w, G E S.get S.hp ρ N a w → ∀ u, VR ρ N w v0 u → ∃ y g e c pre post, ρ i = some y ∧ hand y = some g ∧ (E.w0.heap.size ≤ g ∨ E.bg = some g) ∧ u = .slice (some ⟨g, pre.length, none⟩) l0.length c ∧ l0.length ≤ c ∧ w.heap[g]? = some (.cells (pre ++ l0.map (Value.int .u64) ++ post).toArray e (0, 0)) ∧
      ∀ w', l'.length = l0.length → w'.heap[g]? = some (.cells (pre ++ l'.map (Value.int .u64) ++ post).toArray e (0, 0)) → BR E.B ρ N w' y b')
    (hd : okDst E.nt o = true) (h : Rel E S a w) (Q : Exit → Act → World → Prop) : o.wp E.P a w (fun a' w' => Rel E { tm := (S.put o.dst (packD rs 0)).tm, hp := setNth S.hp i b' } a' w') Q := by
  obtain ⟨ρ, N, hG, hT⟩ := h
  have hx : a.eval x = .func (.func f) #[] #[] := by
    have := ev_VR hG x
    unfold fnOf at hf
    split at hf
    · rename_i g hg
      simp only [Option.some.injEq] at hf; subst hf
      rw [hg] at this
      exact this
    · cases hf
  have hargs : VRs ρ N w (evs S as.toList) (as.toList.map a.eval) := evs_VRs _ fun y hy => ev_VR hG y
  rw [hevs] at hargs
  obtain ⟨u, us, hvs, hu, hus⟩ := hargs
  obtain ⟨y, g, e, c, pre, post, hy, hyg, hgB, hue, hlc, hh, hfin⟩ := hat ρ N a w hG u hu
  let AB : Nat → Prop := fun q => N q ∨ ∃ j z b, j ∈ ownss r ∧ S.hp[j]? = some b ∧ b.live = true ∧ ρ j = some z ∧ hand z = some q ∧ q < w.heap.size
  have hAB : ∀ q, AB q → q < w.heap.size ∧ q ≠ g := by
    rintro q (hq | ⟨j, z, bj, hj, hbj, hlj, hz, hzq, hlt⟩)
    · exact ⟨hG.nw q hq, fun e => hG.nn i b y g hb hl hy hyg (e ▸ hq)⟩
    · refine ⟨hlt, fun e => ?_⟩
      subst e
      refine hG.ds j i bj b z y q hbj hb hlj hl (fun e => ?_) hz hy hzq hyg
      subst e
      rw [(has_iff _ _).2 hj] at hne
      cases hne
  have hds' := toDs_VR (AB := AB) hG.bl (fun g h => .inl h) _ _ _ 0 hus hds (fun i u g b h1 h2 h3 h4 h5 h6 => .inr ⟨i, u, b, h1, h2, h3, h4, h5, h6⟩)
  have he : (u :: us).toArray = as.map a.eval := by rw [← hvs]; exact Array.ext' (by simp)
  subst hue
  refine wp_callE ho hx (he ▸ hc w e g c pre post us AB (fun w' hg => E.hH w' (grown_one hG.fr hg hgB)) hh h0 hlc hds' hAB) ?_
  rintro val w' ⟨hgr, hll, hh', rfl⟩
  rw [setNth_eq]
  exact mk_rel (hG.write hb hl hl' hy hyg hgr (hfin w' hll hh') (okDst_lt hd) (packV_VR hrs 0)) (fun j hj => hT j (by simpa using hj))
/-- A call that writes through a pointer. -/
theorem rel_callp {x : Operand} {as : Array Operand} {ts : Array TypeId} {f i off n : Nat} {al : Bool} {r : List AV} {ds rs : List D} {b : Blk} {ss sa z m e0 m' : List Seg} (ho : o.op = .call ⟨.value x, as, ts⟩) (hf : fnOf S x = some f) (hevs : evs S as.toList = (AV.rp i off :: (if al = true then [AV.rp i off] else [])) ++ r) (hb : nth S.hp i = some b) (hw : isWr b = some ss) (hne : has (ownss r) i = false) (hds : toDs S.hp r = some ds)
    (h1 : segTake ss off = some sa) (h2 : segDrop ss off = some z) (h3 : segTake z n = some m) (h4 : segDrop z n = some e0) (hc : CallP E.P E.H f al (dull m) ds m' rs) (hrs : scals rs = true) (hsz : segsSize m' = n) (hnr : anyRow m' = false)
    (hd : okDst E.nt o = true) (h : Rel E S a w) (Q : Exit → Act → World → Prop) : o.wp E.P a w (fun a' w' => Rel E { tm := (S.put o.dst (packD rs 0)).tm, hp := setNth S.hp i (putBlk b (sa ++ m' ++ e0)) } a' w') Q := by
  obtain ⟨ρ, N, hG, hT⟩ := h
  have hx : a.eval x = .func (.func f) #[] #[] := by
    have := ev_VR hG x
    unfold fnOf at hf
    split at hf
    · rename_i g hg
      simp only [Option.some.injEq] at hf; subst hf
      rw [hg] at this
      exact this
    · cases hf
  have hargs : VRs ρ N w (evs S as.toList) (as.toList.map a.eval) := evs_VRs _ fun y hy => ev_VR hG y
  rw [hevs] at hargs
  rw [nth_eq] at hb
  obtain ⟨u, us, hvs, ⟨g, b0, hρ, hue⟩, hus⟩ := hargs
  obtain ⟨g', e, pre, mid, post, e1, hgB, hh, hs, hlv, hlv', hfin⟩ := wr_at (hG.bl _ _ _ hb hρ) hw
  simp only [Value.pointer.injEq, Option.some.injEq, Addr.mk.injEq, and_true] at e1
  obtain ⟨rfl, rfl⟩ := e1
  obtain ⟨us', hvs', hus'⟩ : ∃ us', us = (if al = true then [Value.pointer (some ⟨g, pre.length + off, none⟩)] else []) ++ us' ∧ VRs ρ N w r us' := by
    cases al with
    | false => exact ⟨us, rfl, hus⟩
    | true =>
      obtain ⟨v, us', h5, ⟨g2, b2, hρ2, hv2⟩, h6⟩ := hus
      rw [hρ] at hρ2
      simp only [Option.some.injEq, Value.pointer.injEq, Addr.mk.injEq, and_true] at hρ2
      obtain ⟨rfl, rfl⟩ := hρ2
      exact ⟨us', by rw [h5, hv2]; rfl, h6⟩
  obtain ⟨hs1, hle1⟩ := hs.take h1
  obtain ⟨hs2, hle2⟩ := hs.drop h2
  obtain ⟨hs3, hle3⟩ := hs2.take h3
  obtain ⟨hs4, hle4⟩ := hs2.drop h4
  let AB : Nat → Prop := fun q => N q ∨ ∃ j z b, j ∈ ownss r ∧ S.hp[j]? = some b ∧ b.live = true ∧ ρ j = some z ∧ hand z = some q ∧ q < w.heap.size
  have hAB : ∀ q, AB q → q < w.heap.size ∧ q ≠ g := by
    rintro q (hq | ⟨j, z, bj, hj, hbj, hlj, hz, hzq, hlt⟩)
    · exact ⟨hG.nw q hq, fun e => hG.nn i b _ g hb hlv hρ rfl (e ▸ hq)⟩
    · refine ⟨hlt, fun e => ?_⟩
      subst e
      refine hG.ds j i bj b z _ q hbj hb hlj hlv (fun e => ?_) hz hρ hzq rfl
      subst e
      rw [(has_iff _ _).2 hj] at hne
      cases hne
  have hds' := toDs_VR (AB := AB) hG.bl (fun g h => .inl h) _ _ _ 0 hus' hds (fun i u g b h1 h2 h3 h4 h5 h6 => .inr ⟨i, u, b, h1, h2, h3, h4, h5, h6⟩)
  have hmid : pre ++ mid ++ post = (pre ++ mid.take off) ++ (mid.drop off).take n ++ ((mid.drop off).drop n ++ post) := by
    have e1 : mid = mid.take off ++ ((mid.drop off).take n ++ (mid.drop off).drop n) := by rw [List.take_append_drop, List.take_append_drop]
    conv => lhs; rw [e1]
    simp only [List.append_assoc]
  have hpl : (pre ++ mid.take off).length = pre.length + off := by simp; omega
  rw [hmid] at hh
  have he : ((Value.pointer (some ⟨g, (pre ++ mid.take off).length, none⟩) :: (if al = true then [Value.pointer (some ⟨g, (pre ++ mid.take off).length, none⟩)] else [])) ++ us').toArray = as.map a.eval := by
    rw [hpl]
    refine Array.ext' ?_
    simp only [Array.toList_map]
    rw [hvs, hue, hvs', List.cons_append]
  refine wp_callE ho hx (he ▸ hc w e g _ _ _ us' AB (fun w' hg => E.hH w' (grown_one hG.fr hg hgB)) hh (SegsV.keep (fun q hq => Or.inl hq) (Nat.zero_le _) (fun _ _ => rfl) (SegsV.dull (lo' := 0) hs3)) hds' hAB) ?_
  rintro val w' ⟨hgr, rfl, mid', N', hh', hs'⟩
  rw [setNth_eq]
  have hout : ∀ q, N q → w'.heap[q]? = w.heap[q]? := fun q hq => hgr.block q (hG.nw q hq) (fun e => by
    injection e with e
    exact (hAB q (.inl hq)).2 e)
  refine mk_rel (hG.write hb hlv (hlv' _) hρ rfl hgr (hfin _ _ _ _ (mid.take off ++ mid' ++ (mid.drop off).drop n) (by rw [hh']; simp only [List.append_assoc]) ?_) (okDst_lt hd) (packV_VR hrs 0)) (fun j hj => hT j (by simpa using hj))
  rw [SegsV.append]
  refine ⟨_, _, rfl, ?_, SegsV.keep (fun _ h => h) (Nat.le_refl _) hout hs4⟩
  rw [SegsV.append]
  exact ⟨_, _, rfl, SegsV.keep (fun _ h => h) (Nat.le_refl _) hout hs1, SegsV_norow hnr hs'⟩
theorem ints_callw {ρ : Nat → Option Value} {N : Nat → Prop} {i et c g bn en : Nat} {l l' : List Int} (hG : G E S.get S.hp ρ N a w) (hb : S.hp[i]? = some (.ints et .u64 l)) (hρ : ρ i = some (.slice (some ⟨g, 0, none⟩) l.length c)) (hbe : bn ≤ en) (hel : en ≤ l.length) :
    ∃ pre post, pre.length = bn ∧ w.heap[g]? = some (.cells (pre ++ ((l.take en).drop bn).map (Value.int .u64) ++ post).toArray et (0, 0)) ∧ l.length ≤ c ∧ E.w0.heap.size ≤ g ∧
      ∀ w', l'.length = ((l.take en).drop bn).length → w'.heap[g]? = some (.cells (pre ++ l'.map (Value.int .u64) ++ post).toArray et (0, 0)) → BR E.B ρ N w' (.slice (some ⟨g, 0, none⟩) l.length c) (.ints et .u64 (l.take bn ++ l' ++ l.drop en)) := by
  have ho : w.ownsRow E.B.lo et 1 (.slice (some ⟨g, 0, none⟩) l.length c) l.length (l.map (Value.int .u64)) := hG.bl _ _ _ hb hρ
  rcases ho.2 with ⟨hv, _⟩ | ⟨g', cap, cur, hv, hB, hh, hlc, hcm, hcs, htake⟩
  · cases hv
  · injection hv with e1 e2 e3
    injection e1 with e1
    injection e1 with e1
    subst e1 e3
    rw [Nat.mul_one] at hcs htake
    have hl3 : l = l.take bn ++ ((l.take en).drop bn) ++ l.drop en := by
      conv => lhs; rw [← List.take_append_drop en l]
      congr 1
      conv => lhs; rw [← List.take_append_drop bn (l.take en)]
      rw [List.take_take, Nat.min_eq_left hbe]
    have hlw : ((l.take en).drop bn).length = en - bn := by simp; omega
    refine ⟨(l.take bn).map (Value.int .u64), (l.drop en).map (Value.int .u64) ++ cur.toList.drop l.length, by simp; omega, ?_, hlc, hB, fun w' hll hh' => ?_⟩
    · rw [hh]
      congr 2
      apply Array.ext'
      show cur.toList = _
      rw [List.toList_toArray, ← List.append_assoc, ← List.map_append, ← List.map_append, ← hl3, ← htake]
      exact (List.take_append_drop _ _).symm
    · have hln : (l.take bn ++ l' ++ l.drop en).length = l.length := by simp only [List.length_append, hll, hlw]; simp; omega
      refine ⟨by simp, .inr ⟨g, c, _, by rw [hln], hB, hh', by rw [hln]; exact hlc, hcm, ?_, ?_⟩⟩
      · have : cur.size = cur.toList.length := by simp
        rw [hcs] at this
        simp only [List.size_toArray, List.length_append, List.length_map, hll, hlw]
        simp
        omega
      · rw [Nat.mul_one, hln]
        simp only [List.map_append, ← List.append_assoc]
        have : ((l.take bn).map (Value.int .u64) ++ l'.map (Value.int .u64) ++ (l.drop en).map (Value.int .u64)).length = l.length := by rw [← hln]; simp
        rw [← this]
        exact List.take_left' rfl
theorem rel_slice_own {t e b i bg en : Nat} {k k' : IntKind} {x : Operand} {lo hi : Option Operand} {l : List Int} (hnb : ∀ k l, nth S.hp i = some (.bor k l) → False) (hnr : ∀ e k l c, nth S.hp i = some (.room e k l c) → False) (ho : o.op = .slice t x lo hi none) (hr : IntRow E.P t e k b) (hx : S.ev x = .own i) (hro : rowOf S.hp (.own i) = some (k', l)) (hbe : bg ≤ en) (hel : en ≤ l.length)
    (hlo : evo S lo = none ∧ bg = 0 ∨ ∃ k, evo S lo = some (.int k (bg : Int))) (hhi : evo S hi = none ∧ en = l.length ∨ ∃ k, evo S hi = some (.int k (en : Int)))
    (hd : okDst E.nt o = true) (h : Rel E S a w) (Q : Exit → Act → World → Prop) : o.wp E.P a w (fun a' w' => Rel E { tm := (S.put o.dst (.ro k' ((l.take en).drop bg))).tm, hp := freeze [i] S.hp 0 } a' w') Q := by
  have hf := rel_freeze h [i]
  have hfz : nth (freeze [i] S.hp 0) i = some (.froz k' l) := by
    rw [nth_eq, freeze_get, Nat.zero_add]
    unfold rowOf at hro
    simp only [nth_eq] at hro
    split at hro
    · rename_i e' k1 l1 hb
      simp only [Option.some.injEq, Prod.mk.injEq] at hro
      obtain ⟨rfl, rfl⟩ := hro
      rw [hb]
      simp [frz, has]
    · rename_i k1 l1 hb
      simp only [Option.some.injEq, Prod.mk.injEq] at hro
      obtain ⟨rfl, rfl⟩ := hro
      rw [hb]
      simp [frz, has]
    · rename_i hb
      exact (hnb _ _ (by rw [nth_eq]; exact hb)).elim
    · rename_i hb
      exact (hnr _ _ _ _ (by rw [nth_eq]; exact hb)).elim
    · cases hro
  have htold : Told E.P E.H E.B { tm := S.tm, hp := freeze [i] S.hp 0 } o.op (.ro k' ((l.take en).drop bg)) [] := by
    rw [ho]
    exact told_slice hr (.inr (.inr ⟨i, by rw [ev_hp]; exact hx, hfz⟩)) hbe hel (by rw [evo_hp]; exact hlo) (by rw [evo_hp]; exact hhi)
  have := rel_light hf hd htold Q
  simp only [put_hp, List.append_nil] at this
  exact this
theorem frzOks_ok {hp : List Blk} : ∀ {is : List Nat}, frzOks hp is = true → ∀ i, i ∈ is → frzOk hp i = true
  | [], _, i, hi => by cases hi
  | a :: r, h, i, hi => by
    simp only [frzOks] at h
    split at h
    · rename_i ha
      rcases List.mem_cons.1 hi with rfl | hi
      · exact ha
      · exact frzOks_ok h i hi
    · cases h
theorem rel_call {x : Operand} {as : Array Operand} {ts : Array TypeId} {f : Nat} {ds rs : List D} (ho : o.op = .call ⟨.value x, as, ts⟩) (hf : fnOf S x = some f) (hds : toDs S.hp (evs S as.toList) = some ds) (hc : CallD E.P E.H f ds rs) (fz : List Nat) (hfz : fz = if D.hasRos rs = true then ownss (evs S as.toList) else []) (hok : frzOks S.hp fz = true)
    (hd : okDst E.nt o = true) (h : Rel E S a w) (Q : Exit → Act → World → Prop) : o.wp E.P a w (fun a' w' => Rel E { tm := (S.put o.dst (packD rs S.hp.length)).tm, hp := freeze fz S.hp 0 ++ blkDs rs } a' w') Q := by
  have hfr := rel_freeze h fz
  have htold : Told E.P E.H E.B { tm := S.tm, hp := freeze fz S.hp 0 } o.op (packD rs (freeze fz S.hp 0).length) (blkDs rs) := by
    rw [ho]
    refine told_call (f := f) (ds := ds) ?_ ?_ hc ?_
    · unfold fnOf at hf ⊢; rw [ev_hp]; exact hf
    · rw [evs_hp]
      exact (toDs_freeze S.hp fz _).trans hds
    · rw [evs_hp]
      cases hro : D.hasRos rs with
      | false => exact .inl rfl
      | true =>
        rw [hro, if_pos rfl] at hfz
        refine .inr fun i hi b hb => ?_
        simp only [freeze_get, Nat.zero_add] at hb
        obtain ⟨b0, h1, h2⟩ := Option.map_eq_some_iff.1 hb
        have hi' : i ∈ fz := hfz ▸ hi
        have : has fz i = true := (has_iff _ _).2 hi'
        unfold frz at h2
        rw [this] at h2
        have h3 := frzOks_ok hok i hi'
        unfold frzOk at h3
        rw [nth_eq, h1] at h3
        subst h2
        cases b0 <;> first | rfl | cases h3
  have := rel_light hfr hd htold Q
  simp only [put_hp, freeze_length] at this
  exact this
theorem run_append_none {P : Program} {w : World} (base : Nat) (t ty e : TypeId) (i : TypeInfo) (size : Nat) (ht : P.underlying t = some (.slice e)) (hi : P.info? e = some i)
    (v : Value) (n : Nat) (xs : List Value) (hown : w.ownsRow base e size v n xs) (cp : Nat) :
    (Builtin.append_ #[t, t] ty #[v, .slice none 0 cp]).run P w = .ok v w := by
  rcases hown.2 with ⟨rfl, rfl⟩ | ⟨g, cap, cur, rfl, _, _, hnc, _⟩
  · simp [Builtin.append_, run_underlying ht, sizeOf, typeInfo, hi, Builtin.lenOf, Builtin.firstCells]
  · simp [Builtin.append_, run_underlying ht, sizeOf, typeInfo, hi, Builtin.lenOf, Builtin.firstCells, hnc, storeCells]
/-- An append, at the machine. -/
theorem append_run {P : Program} {B t e b ty : Nat} {k : IntKind} {l m : List Int} {x y : Value} (hr : IntRow P t e k b) (hb : 1 ≤ b) (hB : B ≤ w.heap.size) (hx : w.ownsRow B e 1 x l.length (l.map (Value.int k))) (hy : RowAt P w y k m) (hlim : l.length + m.length ≤ lim (2 * b)) :
    ∃ x' w', (Builtin.append_ #[t, t] ty #[x, y]).run P w = .ok x' w' ∧ w'.ownsRow B e 1 x' (l ++ m).length ((l ++ m).map (Value.int k)) ∧ w.grownBy w' x.ownBlock ∧ (x'.ownBlock = x.ownBlock ∨ x'.ownBlock = some w.heap.size) := by
  obtain ⟨i, hi, hs1, hs2, hs3⟩ := hr.info
  obtain ⟨A, cp, rfl, hc, h3⟩ := hy.sh
  have hbytes : (l.length + m.length) * b ≤ 140737488355328 := by
    have h1 := Nat.mul_le_mul_right (2 * b) hlim
    have h2 : lim (2 * b) * (2 * b) ≤ 281474976710656 := by unfold lim; exact Nat.div_mul_le_self _ _
    have h4 : (l.length + m.length) * (2 * b) = 2 * ((l.length + m.length) * b) := by rw [Nat.mul_left_comm]
    omega
  have hmax : l.length + m.length ≤ maxLen := by
    have : l.length + m.length ≤ (l.length + m.length) * b := Nat.le_mul_of_pos_right _ hb
    unfold maxLen
    omega
  cases A with
  | none =>
    have hm0 : m = [] := by
      cases m with
      | nil => rfl
      | cons z zs => obtain ⟨ad, h, _⟩ := h3 (by simp); cases h
    subst hm0
    exact ⟨x, w, run_append_none B t ty e i 1 hr.row hi x _ _ hx cp, by simpa using hx, ⟨rfl, rfl, rfl, Nat.le_refl _, fun _ _ _ => rfl⟩, .inl rfl⟩
  | some ad =>
    have hcell : ∀ j u, (m.map (Value.int k))[j]? = some u → w.cell? (ad.add j) = some u := by
      intro j u hj
      rw [List.getElem?_map] at hj
      obtain ⟨z, hz, rfl⟩ := Option.map_eq_some_iff.1 hj
      have hjl := (List.getElem?_eq_some_iff.1 hz).1
      obtain ⟨ad', e1, hc'⟩ := h3 (by omega)
      injection e1 with e1
      subst e1
      rw [hc' j hjl, List.getD_eq_getElem?_getD, hz]
      rfl
    obtain ⟨x', w', h5, h6, h7, _, h9⟩ := run_append_own_at (P := P) w B t ty e i (.int k 0) 1 b hr.row hi hs3 hs1 hs2 rfl (by decide) x l.length (l.map (Value.int k)) hx ad m.length cp (m.map (Value.int k)) (by simp) hcell (fun u hu => by obtain ⟨z, _, rfl⟩ := List.mem_map.1 hu; rfl) hmax hbytes hB
    exact ⟨x', w', h5, by rw [List.length_append, List.map_append]; exact h6, h7, h9⟩
theorem rel_append {t e b i e' : Nat} {k : IntKind} {l m : List Int} {x y : Operand} {ts : Array TypeId} {as : Array Operand} (ho : o.op = .call ⟨.builtin .append, as, ts⟩) (ha : as.toList = [x, y]) (hts : ts.toList = [t, t]) (hr : IntRow E.P t e k b) (hb1 : 1 ≤ b) (hx : S.ev x = .own i) (hb : nth S.hp i = some (.ints e k l)) (hy : rowOf S.hp (S.ev y) = some (k, m)) (hlim : l.length + m.length ≤ lim (2 * b))
    (hd : okDst E.nt o = true) (h : Rel E S a w) (Q : Exit → Act → World → Prop) : o.wp E.P a w (fun a' w' => Rel E { tm := (S.put o.dst (.own S.hp.length)).tm, hp := setNth S.hp i .dead ++ [.ints e k (l ++ m)] } a' w') Q := by
  obtain rfl : as = #[x, y] := by cases as; simp_all
  obtain rfl : ts = #[t, t] := by cases ts; simp_all
  obtain ⟨ρ, N, hG, hT⟩ := h
  have h1 := ev_VR hG x
  rw [hx] at h1
  rw [nth_eq] at hb
  have hrow := rowOf_at (P := E.P) (B := E.B) (S := S) hG.bl hy (ev_VR hG y)
  obtain ⟨x', w', hrun, h2, h3, h4⟩ := append_run (ty := o.type) hr hb1 hG.size (hG.bl _ _ _ hb h1.1) hrow hlim
  refine wp_value_of (v := x') (w' := w') (by simp [execOp, ho, resolve, invoke, builtin, hrun]) ?_
  have hfree : ρ S.hp.length = none := by
    cases hq : ρ S.hp.length with
    | none => rfl
    | some u => exact absurd (hG.lo _ _ hq) (Nat.lt_irrefl _)
  rw [setNth_eq]
  refine mk_rel (hG.append hb h1.1 h3 h2 h4 hfree (okDst_lt hd)) ?_
  intro j hj
  simp only [List.length_append, List.length_set, List.length_cons, List.length_nil] at hj
  by_cases e1 : j = S.hp.length
  · exact ⟨x', by simp [ins, e1]⟩
  · obtain ⟨u, hu⟩ := hT j (by omega)
    exact ⟨u, by simp [ins, e1, hu]⟩
/-- A row with room, as a row. -/
theorem rel_unroom {i e : Nat} {k : IntKind} {l : List Int} {cp : Int} (hb : nth S.hp i = some (.room e k l cp)) (h : Rel E S a w) : Rel E { tm := S.tm, hp := setNth S.hp i (.ints e k l) } a w := by
  obtain ⟨ρ, N, hG, hT⟩ := h
  rw [nth_eq] at hb
  rw [setNth_eq]
  exact ⟨ρ, N, hG.sub (b' := .ints e k l) hb rfl (fun u hu => hu.1), fun j hj => hT j (by simpa using hj)⟩
theorem rel_slice_room {t e b i bg en e' : Nat} {k k' : IntKind} {x : Operand} {lo hi : Option Operand} {l : List Int} {cp : Int} (ho : o.op = .slice t x lo hi none) (hr : IntRow E.P t e k b) (hx : S.ev x = .own i) (hb : nth S.hp i = some (.room e' k' l cp)) (hbe : bg ≤ en) (hel : en ≤ l.length)
    (hlo : evo S lo = none ∧ bg = 0 ∨ ∃ k, evo S lo = some (.int k (bg : Int))) (hhi : evo S hi = none ∧ en = l.length ∨ ∃ k, evo S hi = some (.int k (en : Int)))
    (hd : okDst E.nt o = true) (h : Rel E S a w) (Q : Exit → Act → World → Prop) : o.wp E.P a w (fun a' w' => Rel E { tm := (S.put o.dst (.ro k' ((l.take en).drop bg))).tm, hp := freeze [i] (setNth S.hp i (.ints e' k' l)) 0 } a' w') Q := by
  have hi' : i < S.hp.length := by rw [nth_eq] at hb; exact (List.getElem?_eq_some_iff.1 hb).1
  have hb' : nth (setNth S.hp i (.ints e' k' l)) i = some (.ints e' k' l) := by rw [nth_eq, setNth_eq, List.getElem?_set_self hi']
  have := rel_slice_own (k' := k') (S := { tm := S.tm, hp := setNth S.hp i (.ints e' k' l) }) (fun k l hh => by simp only at hh; rw [hb'] at hh; cases hh) (fun _ _ _ _ hh => by simp only at hh; rw [hb'] at hh; cases hh) ho hr (by rw [ev_hp]; exact hx) (by unfold rowOf; simp only [hb']) hbe hel (by rw [evo_hp]; exact hlo) (by rw [evo_hp]; exact hhi) hd (rel_unroom hb h) Q
  simp only [put_hp] at this
  exact this
/-- An append that has room. -/
theorem append_room {P : Program} {B t e b ty g cp : Nat} {k : IntKind} {l m : List Int} {y : Value} (hr : IntRow P t e k b) (hx : w.ownsRow B e 1 (.slice (some ⟨g, 0, none⟩) l.length cp) l.length (l.map (Value.int k))) (hy : RowAt P w y k m) (hlim : l.length + m.length ≤ cp) :
    ∃ w', (Builtin.append_ #[t, t] ty #[.slice (some ⟨g, 0, none⟩) l.length cp, y]).run P w = .ok (.slice (some ⟨g, 0, none⟩) (l ++ m).length cp) w' ∧ w'.ownsRow B e 1 (.slice (some ⟨g, 0, none⟩) (l ++ m).length cp) (l ++ m).length ((l ++ m).map (Value.int k)) ∧ w.grownBy w' (some g) := by
  obtain ⟨i, hi, hs1, hs2, hs3⟩ := hr.info
  obtain ⟨A, cy, rfl, hc, h3⟩ := hy.sh
  cases A with
  | none =>
    have hm0 : m = [] := by
      cases m with
      | nil => rfl
      | cons z zs => obtain ⟨ad, h, _⟩ := h3 (by simp); cases h
    subst hm0
    exact ⟨w, by simpa using run_append_none B t ty e i 1 hr.row hi _ _ _ hx cy, by simpa using hx, ⟨rfl, rfl, rfl, Nat.le_refl _, fun _ _ _ => rfl⟩⟩
  | some ad =>
    have hcell : ∀ j u, (m.map (Value.int k))[j]? = some u → w.cell? (ad.add j) = some u := by
      intro j u hj
      rw [List.getElem?_map] at hj
      obtain ⟨z, hz, rfl⟩ := Option.map_eq_some_iff.1 hj
      have hjl := (List.getElem?_eq_some_iff.1 hz).1
      obtain ⟨ad', e1, hc'⟩ := h3 (by omega)
      injection e1 with e1
      subst e1
      rw [hc' j hjl, List.getD_eq_getElem?_getD, hz]
      rfl
    obtain ⟨w', h5, h6, h7⟩ := run_append_fits (P := P) w B t ty e i 1 hr.row hi hs1 g l.length cp (l.map (Value.int k)) hx ad m.length cy (m.map (Value.int k)) (by simp) hcell (fun u hu => by obtain ⟨z, _, rfl⟩ := List.mem_map.1 hu; rfl) hlim
    exact ⟨w', by rw [List.length_append]; exact h5, by rw [List.length_append, List.map_append]; exact h6, h7⟩
theorem rel_append_room {t e b i e' : Nat} {k : IntKind} {l m : List Int} {cp : Int} {x y : Operand} {ts : Array TypeId} {as : Array Operand} (ho : o.op = .call ⟨.builtin .append, as, ts⟩) (ha : as.toList = [x, y]) (hts : ts.toList = [t, t]) (hr : IntRow E.P t e k b) (hx : S.ev x = .own i) (hb : nth S.hp i = some (.room e k l cp)) (hy : rowOf S.hp (S.ev y) = some (k, m)) (hlim : ln l + ln m ≤ cp)
    (hd : okDst E.nt o = true) (h : Rel E S a w) (Q : Exit → Act → World → Prop) : o.wp E.P a w (fun a' w' => Rel E { tm := (S.put o.dst (.own S.hp.length)).tm, hp := setNth S.hp i .dead ++ [.room e k (l ++ m) cp] } a' w') Q := by
  obtain rfl : as = #[x, y] := by cases as; simp_all
  obtain rfl : ts = #[t, t] := by cases ts; simp_all
  obtain ⟨ρ, N, hG, hT⟩ := h
  have h1 := ev_VR hG x
  rw [hx] at h1
  rw [nth_eq] at hb
  have hrow := rowOf_at (P := E.P) (B := E.B) (S := S) hG.bl hy (ev_VR hG y)
  obtain ⟨hown, g, cap, hv, hcp⟩ := hG.bl _ _ _ hb h1.1
  rw [hv] at hown
  rw [ln_eq, ln_eq] at hlim
  obtain ⟨w', hrun, h2, h3⟩ := append_room (ty := o.type) hr hown hrow (by omega)
  refine wp_value_of (v := .slice (some ⟨g, 0, none⟩) (l ++ m).length cap) (w' := w') (by simp only [execOp, ho, resolve, invoke, builtin, Sem.run_bind, Sem.run_pure, Result.andThen_ok, List.map_toArray, List.map_cons, List.map_nil, hv, hrun]) ?_
  have hfree : ρ S.hp.length = none := by
    cases hq : ρ S.hp.length with
    | none => rfl
    | some u => exact absurd (hG.lo _ _ hq) (Nat.lt_irrefl _)
  rw [setNth_eq]
  refine mk_rel (hG.append0 (b1 := .room e k (l ++ m) cp) (x' := .slice (some ⟨g, 0, none⟩) (l ++ m).length cap) hb rfl (fun q hq => by rw [hv] at hq; exact (own_lo hown q hq).1) ⟨_, _, _, hv⟩ ⟨_, _, _, rfl⟩ h1.1 (by rw [hv]; exact h3) (fun _ _ => ⟨h2, g, cap, rfl, hcp⟩) (by rw [hv]; exact .inl rfl) hfree (okDst_lt hd)) ?_
  intro j hj
  simp only [List.length_append, List.length_set, List.length_cons, List.length_nil] at hj
  by_cases e1 : j = S.hp.length
  · exact ⟨.slice (some ⟨g, 0, none⟩) (l ++ m).length cap, by simp [ins, e1]⟩
  · obtain ⟨u, hu⟩ := hT j (by omega)
    exact ⟨u, by simp [ins, e1, hu]⟩
theorem sliced0 (A : Option Addr) (en cp : Nat) : sliced A 0 en cp 1 = .slice A en cp := by
  unfold sliced
  cases A with
  | none => simp
  | some a => simp [Addr.add]
theorem own_shorter {base e n m cp : Nat} {A : Option Addr} {xs : List Value} (h : w.ownsRow base e 1 (.slice A n cp) n xs) (hm : m ≤ n) : w.ownsRow base e 1 (.slice A m cp) m (xs.take m) := by
  have h1 := h.1
  rw [Nat.mul_one] at h1
  refine ⟨by rw [List.length_take, h1, Nat.mul_one]; exact Nat.min_eq_left hm, ?_⟩
  rcases h.2 with ⟨hv, hl⟩ | ⟨g, cap, cur, hv, hb, hg, hnc, hcm, hcs, htake⟩
  · injection hv with e1 e2 e3
    subst e1 e3
    exact .inl ⟨by rw [show m = 0 from by omega], by omega⟩
  · injection hv with e1 e2 e3
    subst e1 e3
    exact .inr ⟨g, cp, cur, rfl, hb, hg, Nat.le_trans hm hnc, hcm, hcs, by rw [← htake, List.take_take, Nat.mul_one, Nat.mul_one, Nat.min_eq_left hm]⟩
theorem rel_slice_cut {t e b i en e' : Nat} {k k' kh : IntKind} {x : Operand} {hi : Option Operand} {l : List Int} (ho : o.op = .slice t x none hi none) (hr : IntRow E.P t e k b) (hx : S.ev x = .own i) (hb : nth S.hp i = some (.ints e' k' l)) (hel : en ≤ l.length) (hhi : evo S hi = some (.int kh (en : Int)))
    (hd : okDst E.nt o = true) (h : Rel E S a w) (Q : Exit → Act → World → Prop) : o.wp E.P a w (fun a' w' => Rel E { tm := (S.put o.dst (.own S.hp.length)).tm, hp := setNth S.hp i .dead ++ [.ints e' k' (l.take en)] } a' w') Q := by
  obtain ⟨ρ, N, hG, hT⟩ := h
  have h1 := ev_VR hG x
  rw [hx] at h1
  rw [nth_eq] at hb
  have hown : w.ownsRow E.B.lo e' 1 (a.eval x) l.length (l.map (Value.int k')) := hG.bl _ _ _ hb h1.1
  obtain ⟨A, cp, e1, hc, _⟩ := (own_at (P := E.P) (B := E.B) hown).sh
  rw [e1] at hown
  have hh : hi.map a.eval = some (.int kh (en : Int)) := VR_of_ev (ρ := ρ) (N := N) (w := w) (fun z _ => ev_VR hG z) hhi
  have hrun : (execOp a.eval o).run E.P w = .ok (.value (.slice A en cp)) w := by
    have := slice_run (P := E.P) hr (w := w) (A := A) (lo := none) (hi := some (.int kh (en : Int))) (bg := 0) (Nat.zero_le _) hel hc (.inl ⟨rfl, rfl⟩) (.inr ⟨kh, rfl⟩)
    rw [sliced0] at this
    simp [execOp, ho, e1, hh, this]
  refine wp_value_of (v := .slice A en cp) (w' := w) hrun ?_
  have hfree : ρ S.hp.length = none := by
    cases hq : ρ S.hp.length with
    | none => rfl
    | some u => exact absurd (hG.lo _ _ hq) (Nat.lt_irrefl _)
  rw [setNth_eq]
  refine mk_rel (hG.append0 (b1 := .ints e' k' (l.take en)) (x' := .slice A en cp) hb rfl (fun q hq => by rw [e1] at hq; exact (own_lo hown q hq).1) ⟨_, _, _, e1⟩ ⟨_, _, _, rfl⟩ h1.1 ⟨rfl, rfl, rfl, Nat.le_refl _, fun _ _ _ => rfl⟩ (fun _ _ => by
    show World.ownsRow _ _ _ _ _ _ _
    rw [List.length_take, Nat.min_eq_left hel, List.map_take]
    exact own_shorter hown hel) (.inl (by rw [e1]; cases A <;> rfl)) hfree (okDst_lt hd)) ?_
  intro j hj
  simp only [List.length_append, List.length_set, List.length_cons, List.length_nil] at hj
  by_cases e1 : j = S.hp.length
  · exact ⟨.slice A en cp, by simp [ins, e1]⟩
  · obtain ⟨u, hu⟩ := hT j (by omega)
    exact ⟨u, by simp [ins, e1, hu]⟩
theorem cutKind_some {α : Type} {c : Cfg α} {lo : Option Operand} {hi : Option AV} {b : Option Blk} {e : Nat} {k : IntKind} {l : List Int} {h : Int} (hh : cutKind c lo hi b = some (e, k, l, h)) : lo = none ∧ (∃ kh, hi = some (.int kh h)) ∧ b = some (.ints e k l) := by
  unfold cutKind at hh
  split at hh
  · simp only [Option.some.injEq, Prod.mk.injEq] at hh
    obtain ⟨rfl, rfl, rfl, rfl⟩ := hh
    exact ⟨rfl, ⟨_, rfl⟩, rfl⟩
  · cases hh
/-- An append of rows, at the machine. -/
theorem append_run_rows {P : Program} {B t e b ty n m cp : Nat} {xs us : List Value} {x : Value} {A : Option Addr} (hr : RowRow P t e b) (hb : 1 ≤ b) (hB : B ≤ w.heap.size) (hx : w.ownsRow B e 1 x n xs) (hm : us.length = m) (hA : 0 < m → ∃ ad, A = some ad) (hc : ∀ ad, A = some ad → ∀ j u, us[j]? = some u → w.cell? (ad.add j) = some u) (h1 : ∀ u ∈ us, u.oneCell' = true) (hlim : n + m ≤ lim (2 * b)) :
    ∃ x' w', (Builtin.append_ #[t, t] ty #[x, .slice A m cp]).run P w = .ok x' w' ∧ w'.ownsRow B e 1 x' (n + m) (xs ++ us) ∧ w.grownBy w' x.ownBlock ∧ (x'.ownBlock = x.ownBlock ∨ x'.ownBlock = some w.heap.size) := by
  obtain ⟨i, hi, hs1, hs2, hs3⟩ := hr.info
  have hbytes : (n + m) * b ≤ 140737488355328 := by
    have h1 := Nat.mul_le_mul_right (2 * b) hlim
    have h2 : lim (2 * b) * (2 * b) ≤ 281474976710656 := by unfold lim; exact Nat.div_mul_le_self _ _
    have h4 : (n + m) * (2 * b) = 2 * ((n + m) * b) := by rw [Nat.mul_left_comm]
    omega
  have hmax : n + m ≤ maxLen := by
    have : n + m ≤ (n + m) * b := Nat.le_mul_of_pos_right _ hb
    unfold maxLen
    omega
  cases A with
  | none =>
    have hm0 : m = 0 := by
      rcases Nat.eq_zero_or_pos m with h | h
      · exact h
      · obtain ⟨ad, h⟩ := hA h; cases h
    subst hm0
    have hu0 : us = [] := List.length_eq_zero_iff.1 hm
    subst hu0
    exact ⟨x, w, run_append_none B t ty e i 1 hr.row hi x _ _ hx cp, by simpa using hx, ⟨rfl, rfl, rfl, Nat.le_refl _, fun _ _ _ => rfl⟩, .inl rfl⟩
  | some ad =>
    obtain ⟨x', w', h5, h6, h7, _, h9⟩ := run_append_own_at (P := P) w B t ty e i (.slice none 0 0) 1 b hr.row hi hs3 hs1 hs2 rfl (by decide) x n xs hx ad m cp us (by rw [hm, Nat.mul_one]) (hc ad rfl) h1 hmax hbytes hB
    exact ⟨x', w', h5, h6, h7, h9⟩
theorem ros_one {ρ : Nat → Option Value} {N : Nat → Prop} {k : IntKind} : ∀ {ls : List (List Int)} {us : List Value}, VRs ρ N w (ros k ls) us → ∀ u ∈ us, u.oneCell' = true
  | [], us, h, u, hu => by
    have h' : us = [] := h
    subst h'; cases hu
  | l :: ls, us, h, u, hu => by
    obtain ⟨v, vs, rfl, h1, h2⟩ := h
    rcases List.mem_cons.1 hu with rfl | hu
    · obtain ⟨A, c, rfl, _⟩ := h1; rfl
    · exact ros_one h2 u hu
theorem rel_append_rows {t e b i j e' e2 : Nat} {k : IntKind} {ls ms : List (List Int)} {x y : Operand} {ts : Array TypeId} {as : Array Operand} (ho : o.op = .call ⟨.builtin .append, as, ts⟩) (ha : as.toList = [x, y]) (hts : ts.toList = [t, t]) (hr : RowRow E.P t e b) (hb1 : 1 ≤ b) (hx : S.ev x = .own i) (hb : nth S.hp i = some (.rws e k ls)) (hy : S.ev y = .own j) (hbj : nth S.hp j = some (.rws e2 k ms)) (hlim : ls.length + ms.length ≤ lim (2 * b))
    (hd : okDst E.nt o = true) (h : Rel E S a w) (Q : Exit → Act → World → Prop) : o.wp E.P a w (fun a' w' => Rel E { tm := (S.put o.dst (.own S.hp.length)).tm, hp := setNth S.hp i .dead ++ [.rws e k (ls ++ ms)] } a' w') Q := by
  obtain rfl : as = #[x, y] := by cases as; simp_all
  obtain rfl : ts = #[t, t] := by cases ts; simp_all
  obtain ⟨ρ, N, hG, hT⟩ := h
  have h1 := ev_VR hG x
  have h2 := ev_VR hG y
  rw [hx] at h1
  rw [hy] at h2
  rw [nth_eq] at hb hbj
  obtain ⟨xs, ownx, hxs⟩ := hG.bl _ _ _ hb h1.1
  obtain ⟨us, owny, hus⟩ := hG.bl _ _ _ hbj h2.1
  obtain ⟨A, cp, ey, hA, hc⟩ := ownsRow_slice owny
  have hul : us.length = ms.length := by have := hus.length; rw [ros, List.length_map] at this; exact this.symm
  obtain ⟨x', w', hrun, g2, g3, g4⟩ := append_run_rows (ty := o.type) (cp := cp) (A := A) hr hb1 hG.size ownx hul (fun hm => by obtain ⟨g, hg⟩ := hA hm; exact ⟨_, hg⟩) hc (ros_one hus) hlim
  refine wp_value_of (v := x') (w' := w') (by simp [execOp, ho, resolve, invoke, builtin, ey, hrun]) ?_
  have hfree : ρ S.hp.length = none := by
    cases hq : ρ S.hp.length with
    | none => rfl
    | some u => exact absurd (hG.lo _ _ hq) (Nat.lt_irrefl _)
  obtain ⟨Ax, cx, ex, _⟩ := ownsRow_slice ownx
  obtain ⟨Ax', cx', ex', _⟩ := ownsRow_slice g2
  rw [setNth_eq]
  refine mk_rel (hG.append0 (b1 := .rws e k (ls ++ ms)) hb rfl (fun g hg => (own_lo ownx g hg).1) ⟨_, _, _, ex⟩ ⟨_, _, _, ex'⟩ h1.1 g3 (fun hN hext => ⟨xs ++ us, by rw [List.length_append]; exact g2, ?_⟩) g4 hfree (okDst_lt hd)) ?_
  · rw [ros_append]
    exact VRs.append (VRs.keep (fun _ h => h) hN hext _ _ hxs) (VRs.keep (fun _ h => h) hN hext _ _ hus)
  · intro j hj
    simp only [List.length_append, List.length_set, List.length_cons, List.length_nil] at hj
    by_cases e1 : j = S.hp.length
    · exact ⟨x', by simp [ins, e1]⟩
    · obtain ⟨u, hu⟩ := hT j (by omega)
      exact ⟨u, by simp [ins, e1, hu]⟩
theorem rel_append_nil {t e b : Nat} {k : IntKind} {m : List Int} {x y : Operand} {ts : Array TypeId} {as : Array Operand} (ho : o.op = .call ⟨.builtin .append, as, ts⟩) (ha : as.toList = [x, y]) (hts : ts.toList = [t, t]) (hr : IntRow E.P t e k b) (hb1 : 1 ≤ b) (hx : S.ev x = .nil) (hy : rowOf S.hp (S.ev y) = some (k, m)) (hlim : m.length ≤ lim (2 * b))
    (hd : okDst E.nt o = true) (h : Rel E S a w) (Q : Exit → Act → World → Prop) : o.wp E.P a w (fun a' w' => Rel E { tm := (S.put o.dst (.own S.hp.length)).tm, hp := S.hp ++ [.ints e k m] } a' w') Q := by
  obtain rfl : as = #[x, y] := by cases as; simp_all
  obtain rfl : ts = #[t, t] := by cases ts; simp_all
  refine rel_light (v := .own S.hp.length) (nb := [.ints e k m]) h hd ?_ Q
  intro o' ρ N a w ho' hH hp hfree next Q' hn
  have h1 := hp.ops x (by rw [ho]; simp [Op.operands, Call.operands])
  rw [hx] at h1
  have hxe : a.eval x = .slice none 0 0 := h1
  have hrow := rowOf_at (P := E.P) (B := E.B) (S := S) hp.bl hy (hp.ops y (by rw [ho]; simp [Op.operands, Call.operands]))
  obtain ⟨x', w', hrun, h2, h3, h4⟩ := append_run (B := E.B.lo) (w := w) (ty := o'.type) (l := []) hr hb1 hp.hb (World.ownsRow_nil w E.B.lo e 1) hrow (by simpa using hlim)
  have ho2 : o'.op = .call ⟨.builtin .append, #[x, y], #[t, t]⟩ := ho'.trans ho
  refine wp_value_of (v := x') (w' := w') (by simp [execOp, ho2, resolve, invoke, builtin, hxe, hrun]) ?_
  simp only [List.nil_append] at h2
  have hsl : ∃ A n c, x' = .slice A n c := by
    rcases h2.2 with ⟨hv, _⟩ | ⟨g, cap, cur, hv, _⟩
    · exact ⟨_, _, _, hv⟩
    · exact ⟨_, _, _, hv⟩
  have hhx' : hand x' = x'.ownBlock := by obtain ⟨A, n, c, rfl⟩ := hsl; cases A <;> rfl
  have h0 : ρ S.hp.length = none := hfree _ (Nat.le_refl _) (by simp)
  refine hn x' (ins ρ S.hp.length x') N w' ⟨?_, ?_, ?_, ?_, fun _ h => h, fun _ h => .inl h, ⟨h3.os, h3.tape, h3.output, h3.size, fun j hj => h3.block j hj (by simp [Value.ownBlock])⟩⟩ ⟨by simp [ins], hsl⟩
  · intro i u hi
    unfold ins
    split
    · rename_i e1; subst e1; rw [h0] at hi; cases hi
    · exact hi
  · intro i u hi
    unfold ins at hi
    split at hi
    · rename_i e1; subst e1; exact .inr ⟨Nat.le_refl _, by simp⟩
    · exact .inl hi
  · intro j b' hj
    cases j with
    | zero =>
      simp only [List.getElem?_cons_zero, Option.some.injEq] at hj
      subst hj
      refine ⟨x', by simp [ins], h2, fun g hg => ?_⟩
      rw [hhx'] at hg
      rcases h4 with h4 | h4
      · rw [h4] at hg; simp [Value.ownBlock] at hg
      · rw [h4] at hg
        injection hg with hg
        exact ⟨by omega, fun hN => by have := hp.nw g hN; omega⟩
    | succ j => simp at hj
  · intro j q _ _ _ hj hq hjq
    simp only [List.length_cons, List.length_nil] at hj hq
    omega
theorem rel_copy {t u e b i e' eu bu : Nat} {k ku : IntKind} {l m : List Int} {x y : Operand} {ts : Array TypeId} {as : Array Operand} (ho : o.op = .call ⟨.builtin .copy, as, ts⟩) (ha : as.toList = [x, y]) (hts : ts.toList = [t, u]) (hr : IntRow E.P t e k b) (hx : S.ev x = .own i) (hb : nth S.hp i = some (.ints e' k l)) (hy : rowOf S.hp (S.ev y) = some (k, m)) (hlen : m.length = l.length)
    (hd : okDst E.nt o = true) (h : Rel E S a w) (Q : Exit → Act → World → Prop) : o.wp E.P a w (fun a' w' => Rel E { tm := (S.put o.dst (.int .i64 (m.length : Int))).tm, hp := setNth S.hp i (.ints e' k m) } a' w') Q := by
  obtain rfl : as = #[x, y] := by cases as; simp_all
  obtain rfl : ts = #[t, u] := by cases ts; simp_all
  obtain ⟨ρ, N, hG, hT⟩ := h
  have h1 := ev_VR hG x
  rw [hx] at h1
  rw [nth_eq] at hb
  obtain ⟨hρ, _⟩ := h1
  have hown : w.ownsRow E.B.lo e' 1 (a.eval x) l.length (l.map (Value.int k)) := hG.bl _ _ _ hb hρ
  obtain ⟨A, cp, hye, hc, h3⟩ := (rowOf_at (P := E.P) (B := E.B) (S := S) hG.bl hy (ev_VR hG y)).sh
  obtain ⟨i0, hi0, hs1, _, _⟩ := hr.info
  have hszs : (E.P.info? e).map (·.size) = some 1 := by rw [hi0]; simp [hs1]
  rw [setNth_eq]
  rcases Nat.eq_zero_or_pos m.length with hz | hp
  · have hm0 : m = [] := List.eq_nil_of_length_eq_zero hz
    have hl0 : l = [] := List.eq_nil_of_length_eq_zero (by omega)
    subst hm0 hl0
    have hxs : ∃ A' c', a.eval x = .slice A' 0 c' := by
      rcases hown.2 with ⟨hv, _⟩ | ⟨g, cap, cur, hv, _⟩
      · exact ⟨_, _, hv⟩
      · exact ⟨_, _, hv⟩
    obtain ⟨A', c', hxe⟩ := hxs
    have hrun := run_copy_none (P := E.P) w t u o.type e A' A 0 c' 0 cp hr.row hszs (by simp)
    have hye' : a.eval y = .slice A 0 cp := hye
    refine wp_value_of (v := goInt 0) (w' := w) (by simp [execOp, ho, resolve, invoke, builtin, hxe, hye', hrun]) ?_
    have hset : S.hp.set i (.ints e' k []) = S.hp := by
      apply List.ext_getElem?
      intro j
      rw [List.getElem?_set]
      split
      · rename_i e1; subst e1
        rw [hb]
        rw [if_pos (List.getElem?_eq_some_iff.1 hb).1]
      · rfl
    rw [hset]
    refine mk_rel (ρ := ρ) (N := N) ⟨by rw [defers_put]; exact hG.df, by rw [size_put]; exact hG.sz, hG.tmput (okDst_lt hd) rfl (fun _ h => h) (fun _ _ => rfl) (fun _ _ h => h), hG.bl, hG.lo, hG.ds, hG.nn, hG.nw, hG.na, hG.fr, hG.kp⟩ hT
  · obtain ⟨g, cap, hxe, hBg, hgl⟩ := hown.form (by omega)
    obtain ⟨ad, rfl, hcell⟩ := h3 hp
    rw [hxe] at hown hρ
    rcases hown.2 with ⟨hv, _⟩ | ⟨g', cap', cur, hv, _, hh, hnc, hcm, hcs, _⟩
    · cases hv
    · injection hv with e1 e2 e3
      injection e1 with e1
      injection e1 with e1
      subst e1 e3
      rw [Nat.mul_one] at hcs
      have hrun := run_copy_row E.P w t u o.type e g 0 l.length cap ad m.length cp cur e' (m.map (Value.int k)) hr.row hszs hh (by simp [hlen]) (fun j v hj => by
        rw [List.getElem?_map] at hj
        obtain ⟨z, hz, rfl⟩ := Option.map_eq_some_iff.1 hj
        have hjl := (List.getElem?_eq_some_iff.1 hz).1
        rw [hcell j hjl, List.getD_eq_getElem?_getD, hz]
        rfl) (by simp; omega) (fun v hv => by obtain ⟨z, _, rfl⟩ := List.mem_map.1 hv; rfl)
      refine wp_value_of (v := goInt m.length) (w' := w.setRow g (cur.toList.take 0 ++ m.map (Value.int k) ++ cur.toList.drop (0 + (m.map (Value.int k)).length)).toArray) (by simp [execOp, ho, resolve, invoke, builtin, hxe, hye] at hrun ⊢; simp [hrun]) ?_
      refine mk_rel (hG.write (w' := w.setRow g (cur.toList.take 0 ++ m.map (Value.int k) ++ cur.toList.drop (0 + (m.map (Value.int k)).length)).toArray) (b' := .ints e' k m) (v := .int .i64 (m.length : Int)) (u := goInt m.length) hb rfl rfl hρ rfl ⟨rfl, rfl, rfl, by simp [World.setRow], fun k _ hk' => setRow_other w g k _ (fun e => hk' (by rw [e]))⟩ ?_ (okDst_lt hd) rfl) (fun j hj => hT j (by simpa using hj))
      refine ⟨by simp, .inr ⟨g, cap, _, by rw [hlen], hBg, setRow_heap w g cur _ e' _ hh, by omega, hcm, ?_, ?_⟩⟩
      · simp; omega
      · simp
end
end Go.Proofs.YtcacmhcekoeblaaDoorA
