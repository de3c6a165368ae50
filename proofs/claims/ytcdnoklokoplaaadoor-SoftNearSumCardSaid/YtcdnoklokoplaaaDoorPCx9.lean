-- printed by a program
import Derived.Test.YtcdnoklokoplaaaDoorPCx0
import Derived.Test.YtcdnoklokoplaaaDoorPCx1
import Derived.Test.YtcdnoklokoplaaaDoorPCx3
import Derived.Test.YtcdnoklokoplaaaDoorPCx5
import Derived.Test.YtcdnoklokoplaaaDoorPCx8
namespace Go.Proofs.YtcdnoklokoplaaaDoor.PC
open Go.Proofs.YtcdnoklokoplaaaDoorX
open Go.RowKit Go.Proofs.YtcdnoklokoplaaaDoorW.PrintWords Go.Proofs.YtcdnoklokoplaaaDoorW.PrintLast Go.Proofs.YtcdnoklokoplaaaDoorW.PrintMore
attribute [local go_sem] max2_int min2_int max_two min_two max_three min_three max_four min_four   -- for this text's walks alone
set_option linter.unusedVariables false
set_option linter.unusedSimpArgs false

/-! ### soft_add: function 57 -/
mutual
def soft_add.j0 : Nat → Int → Int → Bool → Bool → Int → Int → Int → Bool → Int → Int → Int → Option (Int × Int)
 | 0, _, _, _, _, _, _, _, _, _, _, _ => none
 | k + 1, x0, x1, x14, x400000, x400001, x400002, x400003, x401000, x401001, x401002, x401003 => if x14 = true then (some (9221120237041090560, 0)) else (if x400001 = 3 then (if x401001 = 3 then (soft_add.j1 k x0 x1 (x400000 != x401000) x400000 x400001 x400002 x400003 x401000 x401001 x401002 x401003) else (soft_add.j1 k x0 x1 false x400000 x400001 x400002 x400003 x401000 x401001 x401002 x401003)) else (soft_add.j1 k x0 x1 false x400000 x400001 x400002 x400003 x401000 x401001 x401002 x401003))
def soft_add.j1 : Nat → Int → Int → Bool → Bool → Int → Int → Int → Bool → Int → Int → Int → Option (Int × Int)
 | 0, _, _, _, _, _, _, _, _, _, _, _ => none
 | k + 1, x0, x1, x23, x400000, x400001, x400002, x400003, x401000, x401001, x401002, x401003 => if x23 = true then ((soft_invalid.f).bind fun bt401 => (some (bt401.1, bt401.2))) else (if x400001 = 3 then (some (x0, 0)) else (if x401001 = 3 then (some (x1, 0)) else ((soft_termOf.f x400000 x400001 x400002 x400003).bind fun bt403 => ((soft_termOf.f x401000 x401001 x401002 x401003).bind fun bt408 => ((soft_term_plus.f k bt403.1 bt403.2.1 bt403.2.2 bt408.1 bt408.2.1 bt408.2.2).bind fun bt413 => ((soft_term_rounded.f k bt413.1 bt413.2.1 bt413.2.2).bind fun bt418 => (some (bt418.1, bt418.2))))))))
end
def soft_add.f (k : Nat) (a0 : Int) (a1 : Int) (a2 : Int) : Option (Int × Int) := (ieee_Decode.f a0).bind fun bt391 => ((ieee_Decode.f a1).bind fun bt395 => (if bt391.2.1 = 4 then (soft_add.j0 k a0 a1 true bt391.1 bt391.2.1 bt391.2.2.1 bt391.2.2.2 bt395.1 bt395.2.1 bt395.2.2.1 bt395.2.2.2) else (soft_add.j0 k a0 a1 (bt395.2.1 == 4) bt391.1 bt391.2.1 bt391.2.2.1 bt391.2.2.2 bt395.1 bt395.2.1 bt395.2.2.1 bt395.2.2.2)))
theorem soft_add.mono_l : ∀ k, (∀ y0 y1 y2 y3 y4 y5 y6 y7 y8 y9 y10, LeO (soft_add.j0 k y0 y1 y2 y3 y4 y5 y6 y7 y8 y9 y10) (soft_add.j0 (k + 1) y0 y1 y2 y3 y4 y5 y6 y7 y8 y9 y10)) ∧ (∀ y0 y1 y2 y3 y4 y5 y6 y7 y8 y9 y10, LeO (soft_add.j1 k y0 y1 y2 y3 y4 y5 y6 y7 y8 y9 y10) (soft_add.j1 (k + 1) y0 y1 y2 y3 y4 y5 y6 y7 y8 y9 y10))
 | 0 => ⟨fun _ _ _ _ _ _ _ _ _ _ _ r h => by simp [soft_add.j0] at h, fun _ _ _ _ _ _ _ _ _ _ _ r h => by simp [soft_add.j1] at h⟩
 | k + 1 => by
  obtain ⟨ih0, ih1⟩ := soft_add.mono_l k
  refine ⟨?_, ?_⟩
  ·intro y0 y1 y2 y3 y4 y5 y6 y7 y8 y9 y10
   unfold soft_add.j0
   repeat' first
   | (with_reducible exact ih0 _ _ _ _ _ _ _ _ _ _ _)
   | (with_reducible exact ih1 _ _ _ _ _ _ _ _ _ _ _)
   | (with_reducible exact soft_term_plus.mono _ _ _ _ _ _ _)
   | (with_reducible exact soft_term_rounded.mono _ _ _ _)
   | (with_reducible exact LeO.refl _)
   | (with_reducible exact LeO.none _)
   | (with_reducible refine LeO.ite ?_ ?_)
   | (with_reducible refine LeO.bind ?_ (fun _ => ?_))
   | exact ih0 _ _ _ _ _ _ _ _ _ _ _
   | exact ih1 _ _ _ _ _ _ _ _ _ _ _
   | exact soft_term_plus.mono _ _ _ _ _ _ _
   | exact soft_term_rounded.mono _ _ _ _
   | exact LeO.none _
   | refine LeO.ite ?_ ?_
   | refine LeO.bind ?_ (fun _ => ?_)
  ·intro y0 y1 y2 y3 y4 y5 y6 y7 y8 y9 y10
   unfold soft_add.j1
   repeat' first
   | (with_reducible exact ih0 _ _ _ _ _ _ _ _ _ _ _)
   | (with_reducible exact ih1 _ _ _ _ _ _ _ _ _ _ _)
   | (with_reducible exact soft_term_plus.mono _ _ _ _ _ _ _)
   | (with_reducible exact soft_term_rounded.mono _ _ _ _)
   | (with_reducible exact LeO.refl _)
   | (with_reducible exact LeO.none _)
   | (with_reducible refine LeO.ite ?_ ?_)
   | (with_reducible refine LeO.bind ?_ (fun _ => ?_))
   | exact ih0 _ _ _ _ _ _ _ _ _ _ _
   | exact ih1 _ _ _ _ _ _ _ _ _ _ _
   | exact soft_term_plus.mono _ _ _ _ _ _ _
   | exact soft_term_rounded.mono _ _ _ _
   | exact LeO.none _
   | refine LeO.ite ?_ ?_
   | refine LeO.bind ?_ (fun _ => ?_)
theorem soft_add.mono : ∀ a0 a1 a2 k, LeO (soft_add.f k a0 a1 a2) (soft_add.f (k + 1) a0 a1 a2) := by
 intro a0 a1 a2 k
 obtain ⟨ih0, ih1⟩ := soft_add.mono_l k
 unfold soft_add.f
 repeat' first
   | (with_reducible exact ih0 _ _ _ _ _ _ _ _ _ _ _)
   | (with_reducible exact ih1 _ _ _ _ _ _ _ _ _ _ _)
   | (with_reducible exact soft_term_plus.mono _ _ _ _ _ _ _)
   | (with_reducible exact soft_term_rounded.mono _ _ _ _)
   | (with_reducible exact LeO.refl _)
   | (with_reducible exact LeO.none _)
   | (with_reducible refine LeO.ite ?_ ?_)
   | (with_reducible refine LeO.bind ?_ (fun _ => ?_))
   | exact ih0 _ _ _ _ _ _ _ _ _ _ _
   | exact ih1 _ _ _ _ _ _ _ _ _ _ _
   | exact soft_term_plus.mono _ _ _ _ _ _ _
   | exact soft_term_rounded.mono _ _ _ _
   | exact LeO.none _
   | refine LeO.ite ?_ ?_
   | refine LeO.bind ?_ (fun _ => ?_)
def soft_add.T10 : Bool × List (List Nat × List Nat) := (true, [([], []), ([0], [0]), ([], []), ([2, 1], [2]), ([1, 3, 3], [1, 3]), ([4, 4], [4]), ([5], [5]), ([5], [5]), ([6, 5, 0, 1, 2, 3, 4, 5, 6, 7], [6]), ([7, 8, 0, 1, 2, 3, 4, 5, 6, 7, 8], [7])])
def soft_add.B10 : List Nat := [0, 1, 0, 7, 15, 31, 63, 63, 255, 511]
theorem soft_add.tab10 : rtab .any (opsOf Tryd.f57 10) = soft_add.T10 := by kernel_rfl
theorem soft_add.bits10 : waitsOk soft_add.T10.2 soft_add.B10 = true := by kernel_rfl
set_option maxHeartbeats 8000000 in
set_option maxRecDepth 100000 in
theorem soft_add.calls (k : Nat) (a0 : Int) (a1 : Int) (a2 : Int) (r1 : Int) (r2 : Int) (w : World) (hT : Kd.C (Kd.int .u8) w (some ⟨0, 0, none⟩) 64 tabL) (h : soft_add.f k a0 a1 a2 = some (r1, r2)) :
  Calls Tryd.prog 57 #[.int .u64 a0, .int .u64 a1, .int .u64 a2] w fun e w' => e = .returned (.tuple #[.int .u64 r1, .int .i64 r2]) ∧ Below w.heap.size w w' := by
 have hu39 := Tryd.underlying39
 have HT := Aside0.mk hT
 clear hT
 have HB := Aside0.mk (Below.refl w.heap.size w)
 have H : ((ieee_Decode.f a0).bind fun bt391 => ((ieee_Decode.f a1).bind fun bt395 => (if bt391.2.1 = 4 then (soft_add.j0 k a0 a1 true bt391.1 bt391.2.1 bt391.2.2.1 bt391.2.2.2 bt395.1 bt395.2.1 bt395.2.2.1 bt395.2.2.2) else (soft_add.j0 k a0 a1 (bt395.2.1 == 4) bt391.1 bt391.2.1 bt391.2.2.1 bt391.2.2.2 bt395.1 bt395.2.1 bt395.2.2.1 bt395.2.2.2)))) = some (r1, r2) := h
 clear h
 replace H := Option.bind_eq_some_iff.mp H
 obtain ⟨⟨t391, t392, t393, t394⟩, A40, H⟩ := H
 replace H : ((ieee_Decode.f a1).bind fun bt395 => (if t392 = 4 then (soft_add.j0 k a0 a1 true t391 t392 t393 t394 bt395.1 bt395.2.1 bt395.2.2.1 bt395.2.2.2) else (soft_add.j0 k a0 a1 (bt395.2.1 == 4) t391 t392 t393 t394 bt395.1 bt395.2.1 bt395.2.2.1 bt395.2.2.2))) = some (r1, r2) := H
 have A4 := Aside0.mk A40
 clear A40
 replace H := Option.bind_eq_some_iff.mp H
 obtain ⟨⟨t395, t396, t397, t398⟩, A50, H⟩ := H
 replace H : (if t392 = 4 then (soft_add.j0 k a0 a1 true t391 t392 t393 t394 t395 t396 t397 t398) else (soft_add.j0 k a0 a1 (t396 == 4) t391 t392 t393 t394 t395 t396 t397 t398)) = some (r1, r2) := H
 have A5 := Aside0.mk A50
 clear A50
 have HC6 := Aside0.mk H
 clear H
 go_enter Tryd.func57, Tryd.ntmps57
 go_upto_region 2 with (first | ((with_reducible refine gate_callee (f := 29) rfl ?_); refine goesL_ (some 11) rfl rfl Tryd.func29 (by kernel_rfl) rfl #[.int .u64 a0] rfl (by (try simp only [List.map_toArray, List.map_cons, List.map_nil]); first | done | rfl) ?_; (with_reducible refine (ieee_Decode.calls a0 t391 t392 t393 t394 _ A4.out).mono ?_); rintro e w7 ⟨rfl, hb⟩; refine ⟨_, rfl, ?_⟩; replace HB := hB HB hb; (try clear hb); (try clear hb2); (try clear hk); (try clear hi)) | ((with_reducible refine gate_callee (f := 29) rfl ?_); refine goesL_ (some 13) rfl rfl Tryd.func29 (by kernel_rfl) rfl #[.int .u64 a1] rfl (by (try simp only [List.map_toArray, List.map_cons, List.map_nil]); first | done | rfl) ?_; (with_reducible refine (ieee_Decode.calls a1 t395 t396 t397 t398 _ A5.out).mono ?_); rintro e w8 ⟨rfl, hb⟩; refine ⟨_, rfl, ?_⟩; replace HB := hB HB hb; (try clear hb); (try clear hb2); (try clear hk); (try clear hi)) | ((with_reducible refine gate_dst (N := 8) rfl ?_); refine box_event ?hg (N := 8) ?hd (cs := #[.bool false, .int .i64 0, .int .u64 0, .int .i64 0]) (t := 39) ?hr ?_; (case hd => rfl); (case hg => rfl); (case hr => first | (go_simp; done) | (go_simp; rfl)); intro gb399 hg w9 hbox hb; have BK399 := Aside0.mk (hbox); have GW399 := Aside0.mk ((by rw [hg]; exact (below_size (bS HB.out)) : w.heap.size ≤ gb399)); have GE399 := Aside0.mk ((by rw [hg]; exact (below_size (bS HB.out)) : w.heap.size ≤ gb399)); replace HB := hB HB hb; clear hb hbox hg) | ((with_reducible refine gate_dst (N := 9) rfl ?_); refine box_event ?hg (N := 9) ?hd (cs := #[.bool false, .int .i64 0, .int .u64 0, .int .i64 0]) (t := 39) ?hr ?_; (case hd => rfl); (case hg => rfl); (case hr => first | (go_simp; done) | (go_simp; rfl)); intro gb400 hg w10 hbox hb; have BK400 := Aside0.mk (hbox); have GW400 := Aside0.mk ((by rw [hg]; exact (below_size (bG1 HB.out GE399.out)) : w.heap.size ≤ gb400)); have GE400 := Aside0.mk ((by rw [hg]; exact (below_size (bG1 HB.out GE399.out)) : w.heap.size ≤ gb400)); replace HB := Aside0.mk (below_step (bG1 HB.out GE399.out) hb); have NB399_400 := Aside0.mk ((by rw [hg]; exact Nat.ne_of_lt (blk_lt (g := gb399) (o := .cells #[.bool false, .int .i64 0, .int .u64 0, .int .i64 0] 39 (0, 0)) (by exact bkS BK399.out)) : gb399 ≠ gb400)); have NB400_399 := Aside0.mk ((by rw [hg]; exact Nat.ne_of_gt (blk_lt (g := gb399) (o := .cells #[.bool false, .int .i64 0, .int .u64 0, .int .i64 0] 39 (0, 0)) (by exact bkS BK399.out)) : gb400 ≠ gb399)); replace BK399 := bkB BK399 hb; clear hb hbox hg; have hnb11 := NB399_400.out; have hnc11 := NB400_399.out; have hcz12_0 : w10.cell? ⟨gb399, 0, none⟩ = some (.bool false) := (blk_cell BK399.out 0).trans rfl; have hcz12_1 : w10.cell? ⟨gb399, 1, none⟩ = some (.int .i64 0) := (blk_cell BK399.out 1).trans rfl; have hcz12_2 : w10.cell? ⟨gb399, 2, none⟩ = some (.int .u64 0) := (blk_cell BK399.out 2).trans rfl; have hcz12_3 : w10.cell? ⟨gb399, 3, none⟩ = some (.int .i64 0) := (blk_cell BK399.out 3).trans rfl; have hfz12_0 := blk_frozen BK399.out 0; have hfz12_1 := blk_frozen BK399.out 1; have hfz12_2 := blk_frozen BK399.out 2; have hfz12_3 := blk_frozen BK399.out 3; have hcz13_0 : w10.cell? ⟨gb400, 0, none⟩ = some (.bool false) := (blk_cell BK400.out 0).trans rfl; have hcz13_1 : w10.cell? ⟨gb400, 1, none⟩ = some (.int .i64 0) := (blk_cell BK400.out 1).trans rfl; have hcz13_2 : w10.cell? ⟨gb400, 2, none⟩ = some (.int .u64 0) := (blk_cell BK400.out 2).trans rfl; have hcz13_3 : w10.cell? ⟨gb400, 3, none⟩ = some (.int .i64 0) := (blk_cell BK400.out 3).trans rfl; have hfz13_0 := blk_frozen BK400.out 0; have hfz13_1 := blk_frozen BK400.out 1; have hfz13_2 := blk_frozen BK400.out 2; have hfz13_3 := blk_frozen BK400.out 3))
 (try simp only [Act.put, List.setIfInBounds_toArray, List.set_cons_zero, List.set_cons_succ])
 go_cut [14] (fun v14 wc => ∃ (kq : Nat) (x14_5 : Bool), v14 = .bool x14_5 ∧ Aside0 (soft_add.j0 kq a0 a1 x14_5 t391 t392 t393 t394 t395 t396 t397 t398 = some (r1, r2)) ∧ Aside0 (kq ≤ k) ∧ Aside0 (wc.heap[gb399]? = some (.cells #[.bool t391, .int .i64 t392, .int .u64 t393, .int .i64 t394] 39 (0, 0))) ∧ Aside0 (wc.heap[gb400]? = some (.cells #[.bool t395, .int .i64 t396, .int .u64 t397, .int .i64 t398] 39 (0, 0))) ∧ Aside0 (Below w.heap.size w wc))
 case first =>
  have H := HC6.out
  clear HC6
  by_cases c14 : t392 = 4
  ·rw [if_pos c14] at H
   have c14b0 : (t392 == 4) = true := beq_iff_eq.mpr c14
   have c14b1 : (t392 != 4) = false := bne_eq_false_iff_eq.mpr c14
   clear c14
   (first | rw [c14b0] | (simp only [i64_w, i32_w]; rw [c14b0]) | rw [c14b1] | skip)
   have H' := Aside0.mk H
   clear H
   have hnb15 := NB399_400.out
   have hnc15 := NB400_399.out
   have hcz16_0 : w10.cell? ⟨gb399, 0, none⟩ = some (.bool false) := (blk_cell BK399.out 0).trans rfl
   have hcz16_1 : w10.cell? ⟨gb399, 1, none⟩ = some (.int .i64 0) := (blk_cell BK399.out 1).trans rfl
   have hcz16_2 : w10.cell? ⟨gb399, 2, none⟩ = some (.int .u64 0) := (blk_cell BK399.out 2).trans rfl
   have hcz16_3 : w10.cell? ⟨gb399, 3, none⟩ = some (.int .i64 0) := (blk_cell BK399.out 3).trans rfl
   have hfz16_0 := blk_frozen BK399.out 0
   have hfz16_1 := blk_frozen BK399.out 1
   have hfz16_2 := blk_frozen BK399.out 2
   have hfz16_3 := blk_frozen BK399.out 3
   go_wp2
   go_meet
   case rel => exact ⟨_, (true), (by first | rfl | (simp; done) | (simp [*]; done)), H', ⟨by first | omega | exact Nat.le_refl _⟩, ⟨by refine blkF ?_ NB399_400.out _; refine blkF ?_ NB399_400.out _; refine blkF ?_ NB399_400.out _; refine blkF ?_ NB399_400.out _; refine blkP (cs := #[.bool t391, .int .i64 t392, .int .u64 t393, .int .i64 0]) ?_ 3 _ rfl; refine blkP (cs := #[.bool t391, .int .i64 t392, .int .u64 0, .int .i64 0]) ?_ 2 _ rfl; refine blkP (cs := #[.bool t391, .int .i64 0, .int .u64 0, .int .i64 0]) ?_ 1 _ rfl; refine blkP (cs := #[.bool false, .int .i64 0, .int .u64 0, .int .i64 0]) ?_ 0 _ rfl; exact bkS BK399.out⟩, ⟨by refine blkP (cs := #[.bool t395, .int .i64 t396, .int .u64 t397, .int .i64 0]) ?_ 3 _ rfl; refine blkP (cs := #[.bool t395, .int .i64 t396, .int .u64 0, .int .i64 0]) ?_ 2 _ rfl; refine blkP (cs := #[.bool t395, .int .i64 0, .int .u64 0, .int .i64 0]) ?_ 1 _ rfl; refine blkP (cs := #[.bool false, .int .i64 0, .int .u64 0, .int .i64 0]) ?_ 0 _ rfl; refine blkF ?_ NB400_399.out _; refine blkF ?_ NB400_399.out _; refine blkF ?_ NB400_399.out _; refine blkF ?_ NB400_399.out _; exact bkS BK400.out⟩, ⟨bG2 HB.out GE399.out GE400.out⟩⟩
  ·rw [if_neg c14] at H
   have c14b0 : (t392 == 4) = false := beq_eq_false_iff_ne.mpr c14
   have c14b1 : (t392 != 4) = true := bne_iff_ne.mpr c14
   (first | rw [c14b0] | (simp only [i64_w, i32_w]; rw [c14b0]) | rw [c14b1] | skip)
   have H' := Aside0.mk H
   clear H
   have hnb17 := NB399_400.out
   have hnc17 := NB400_399.out
   have hcz18_0 : w10.cell? ⟨gb399, 0, none⟩ = some (.bool false) := (blk_cell BK399.out 0).trans rfl
   have hcz18_1 : w10.cell? ⟨gb399, 1, none⟩ = some (.int .i64 0) := (blk_cell BK399.out 1).trans rfl
   have hcz18_2 : w10.cell? ⟨gb399, 2, none⟩ = some (.int .u64 0) := (blk_cell BK399.out 2).trans rfl
   have hcz18_3 : w10.cell? ⟨gb399, 3, none⟩ = some (.int .i64 0) := (blk_cell BK399.out 3).trans rfl
   have hfz18_0 := blk_frozen BK399.out 0
   have hfz18_1 := blk_frozen BK399.out 1
   have hfz18_2 := blk_frozen BK399.out 2
   have hfz18_3 := blk_frozen BK399.out 3
   have hcz19_0 : w10.cell? ⟨gb400, 0, none⟩ = some (.bool false) := (blk_cell BK400.out 0).trans rfl
   have hcz19_1 : w10.cell? ⟨gb400, 1, none⟩ = some (.int .i64 0) := (blk_cell BK400.out 1).trans rfl
   have hcz19_2 : w10.cell? ⟨gb400, 2, none⟩ = some (.int .u64 0) := (blk_cell BK400.out 2).trans rfl
   have hcz19_3 : w10.cell? ⟨gb400, 3, none⟩ = some (.int .i64 0) := (blk_cell BK400.out 3).trans rfl
   have hfz19_0 := blk_frozen BK400.out 0
   have hfz19_1 := blk_frozen BK400.out 1
   have hfz19_2 := blk_frozen BK400.out 2
   have hfz19_3 := blk_frozen BK400.out 3
   go_wp2
   go_meet
   case rel => exact ⟨_, ((t396 == 4)), (by first | rfl | (simp; done) | (simp [*]; done)), H', ⟨by first | omega | exact Nat.le_refl _⟩, ⟨by refine blkF ?_ NB399_400.out _; refine blkF ?_ NB399_400.out _; refine blkF ?_ NB399_400.out _; refine blkF ?_ NB399_400.out _; refine blkP (cs := #[.bool t391, .int .i64 t392, .int .u64 t393, .int .i64 0]) ?_ 3 _ rfl; refine blkP (cs := #[.bool t391, .int .i64 t392, .int .u64 0, .int .i64 0]) ?_ 2 _ rfl; refine blkP (cs := #[.bool t391, .int .i64 0, .int .u64 0, .int .i64 0]) ?_ 1 _ rfl; refine blkP (cs := #[.bool false, .int .i64 0, .int .u64 0, .int .i64 0]) ?_ 0 _ rfl; exact bkS BK399.out⟩, ⟨by refine blkP (cs := #[.bool t395, .int .i64 t396, .int .u64 t397, .int .i64 0]) ?_ 3 _ rfl; refine blkP (cs := #[.bool t395, .int .i64 t396, .int .u64 0, .int .i64 0]) ?_ 2 _ rfl; refine blkP (cs := #[.bool t395, .int .i64 0, .int .u64 0, .int .i64 0]) ?_ 1 _ rfl; refine blkP (cs := #[.bool false, .int .i64 0, .int .u64 0, .int .i64 0]) ?_ 0 _ rfl; refine blkF ?_ NB400_399.out _; refine blkF ?_ NB400_399.out _; refine blkF ?_ NB400_399.out _; refine blkF ?_ NB400_399.out _; exact bkS BK400.out⟩, ⟨bG2 HB.out GE399.out GE400.out⟩⟩
 case rest =>
  clear HC6
  try clear c1
  try clear c2
  try clear p2
  try clear c5
  try clear c11
  try clear c14
  try clear c14b0
  try clear c14b1
  try clear c15
  try clear c17
  try clear hcz12_0
  try clear hcz12_1
  try clear hcz12_2
  try clear hcz12_3
  try clear hcz13_0
  try clear hcz13_1
  try clear hcz13_2
  try clear hcz13_3
  try clear hcz16_0
  try clear hcz16_1
  try clear hcz16_2
  try clear hcz16_3
  try clear hcz18_0
  try clear hcz18_1
  try clear hcz18_2
  try clear hcz18_3
  try clear hcz19_0
  try clear hcz19_1
  try clear hcz19_2
  try clear hcz19_3
  try clear hfz12_0
  try clear hfz12_1
  try clear hfz12_2
  try clear hfz12_3
  try clear hfz13_0
  try clear hfz13_1
  try clear hfz13_2
  try clear hfz13_3
  try clear hfz16_0
  try clear hfz16_1
  try clear hfz16_2
  try clear hfz16_3
  try clear hfz18_0
  try clear hfz18_1
  try clear hfz18_2
  try clear hfz18_3
  try clear hfz19_0
  try clear hfz19_1
  try clear hfz19_2
  try clear hfz19_3
  obtain ⟨kq, x14_5, rfl, HA, HJ5, BK399, BK400, HB⟩ := hcut
  cases kq with
  | zero => exact absurd HA.out (by simp [soft_add.j0])
  | succ kj5 =>
   have H := HA.out
   clear HA
   simp only [soft_add.j0] at H
   by_cases c20 : x14_5 = true
   ·subst c20
    have H1 : (some (9221120237041090560, 0)) = some (r1, r2) := by rw [if_pos rfl] at H; exact H
    clear H
    have H := H1
    clear H1
    simp only [Option.some.injEq, Prod.mk.injEq] at H
    obtain ⟨rfl, rfl⟩ := H
    go_wp2
    go_ret2
    exact ⟨by first | rfl | (simp [errW_none, errW_some] <;> rfl) | (simp [*, errW_none, errW_some] <;> rfl), bG2 HB.out GE399.out GE400.out⟩
   ·replace c20 := Bool.eq_false_iff.mpr c20
    subst c20
    have H1 : (if t392 = 3 then (if t396 = 3 then (soft_add.j1 kj5 a0 a1 (t391 != t395) t391 t392 t393 t394 t395 t396 t397 t398) else (soft_add.j1 kj5 a0 a1 false t391 t392 t393 t394 t395 t396 t397 t398)) else (soft_add.j1 kj5 a0 a1 false t391 t392 t393 t394 t395 t396 t397 t398)) = some (r1, r2) := by rw [if_neg (show ¬ (false = true) by decide)] at H; exact H
    clear H
    have H := H1
    clear H1
    have HC21 := Aside0.mk H
    clear H
    go_upto_region 4 with (fail)
    go_cut [23] (fun v23 wc => ∃ (kq : Nat) (x23_20 : Bool), v23 = .bool x23_20 ∧ Aside0 (soft_add.j1 kq a0 a1 x23_20 t391 t392 t393 t394 t395 t396 t397 t398 = some (r1, r2)) ∧ Aside0 (kq ≤ kj5) ∧ Aside0 (wc.heap[gb399]? = some (.cells #[.bool t391, .int .i64 t392, .int .u64 t393, .int .i64 t394] 39 (0, 0))) ∧ Aside0 (wc.heap[gb400]? = some (.cells #[.bool t395, .int .i64 t396, .int .u64 t397, .int .i64 t398] 39 (0, 0))) ∧ Aside0 (Below w.heap.size w wc))
    case first =>
     have H := HC21.out
     clear HC21
     by_cases c22 : t392 = 3
     ·rw [if_pos c22] at H
      have c22b0 : (t392 == 3) = true := beq_iff_eq.mpr c22
      have c22b1 : (t392 != 3) = false := bne_eq_false_iff_eq.mpr c22
      clear c22
      (first | rw [c22b0] | (simp only [i64_w, i32_w]; rw [c22b0]) | rw [c22b1] | skip)
      by_cases c23 : t396 = 3
      ·rw [if_pos c23] at H
       have c23b0 : (t396 == 3) = true := beq_iff_eq.mpr c23
       have c23b1 : (t396 != 3) = false := bne_eq_false_iff_eq.mpr c23
       clear c23
       have H' := Aside0.mk H
       clear H
       have hnb24 := NB399_400.out
       have hnc24 := NB400_399.out
       have hcz25_0 : wc.cell? ⟨gb399, 0, none⟩ = some (.bool t391) := (blk_cell BK399.out 0).trans rfl
       have hcz25_1 : wc.cell? ⟨gb399, 1, none⟩ = some (.int .i64 t392) := (blk_cell BK399.out 1).trans rfl
       have hcz25_2 : wc.cell? ⟨gb399, 2, none⟩ = some (.int .u64 t393) := (blk_cell BK399.out 2).trans rfl
       have hcz25_3 : wc.cell? ⟨gb399, 3, none⟩ = some (.int .i64 t394) := (blk_cell BK399.out 3).trans rfl
       have hfz25_0 := blk_frozen BK399.out 0
       have hfz25_1 := blk_frozen BK399.out 1
       have hfz25_2 := blk_frozen BK399.out 2
       have hfz25_3 := blk_frozen BK399.out 3
       have hcz26_0 : wc.cell? ⟨gb400, 0, none⟩ = some (.bool t395) := (blk_cell BK400.out 0).trans rfl
       have hcz26_1 : wc.cell? ⟨gb400, 1, none⟩ = some (.int .i64 t396) := (blk_cell BK400.out 1).trans rfl
       have hcz26_2 : wc.cell? ⟨gb400, 2, none⟩ = some (.int .u64 t397) := (blk_cell BK400.out 2).trans rfl
       have hcz26_3 : wc.cell? ⟨gb400, 3, none⟩ = some (.int .i64 t398) := (blk_cell BK400.out 3).trans rfl
       have hfz26_0 := blk_frozen BK400.out 0
       have hfz26_1 := blk_frozen BK400.out 1
       have hfz26_2 := blk_frozen BK400.out 2
       have hfz26_3 := blk_frozen BK400.out 3
       go_wp2
       go_meet
       case rel => exact ⟨_, ((t391 != t395)), (by first | rfl | (simp; done) | (simp [*]; done)), H', ⟨by have := HJ5.out; first | omega | exact Nat.le_refl _⟩, ⟨by exact bkS BK399.out⟩, ⟨by exact bkS BK400.out⟩, ⟨by repeat (first | (with_reducible first | exact HB.out | apply below_alloc | apply pw_below_drewN | apply below_drew1 | refine below_set ?_ GE399.out | refine below_set ?_ GE400.out) | exact HB.out)⟩⟩
      ·rw [if_neg c23] at H
       have c23b0 : (t396 == 3) = false := beq_eq_false_iff_ne.mpr c23
       have c23b1 : (t396 != 3) = true := bne_iff_ne.mpr c23
       have H' := Aside0.mk H
       clear H
       have hnb27 := NB399_400.out
       have hnc27 := NB400_399.out
       have hcz28_0 : wc.cell? ⟨gb399, 0, none⟩ = some (.bool t391) := (blk_cell BK399.out 0).trans rfl
       have hcz28_1 : wc.cell? ⟨gb399, 1, none⟩ = some (.int .i64 t392) := (blk_cell BK399.out 1).trans rfl
       have hcz28_2 : wc.cell? ⟨gb399, 2, none⟩ = some (.int .u64 t393) := (blk_cell BK399.out 2).trans rfl
       have hcz28_3 : wc.cell? ⟨gb399, 3, none⟩ = some (.int .i64 t394) := (blk_cell BK399.out 3).trans rfl
       have hfz28_0 := blk_frozen BK399.out 0
       have hfz28_1 := blk_frozen BK399.out 1
       have hfz28_2 := blk_frozen BK399.out 2
       have hfz28_3 := blk_frozen BK399.out 3
       have hcz29_0 : wc.cell? ⟨gb400, 0, none⟩ = some (.bool t395) := (blk_cell BK400.out 0).trans rfl
       have hcz29_1 : wc.cell? ⟨gb400, 1, none⟩ = some (.int .i64 t396) := (blk_cell BK400.out 1).trans rfl
       have hcz29_2 : wc.cell? ⟨gb400, 2, none⟩ = some (.int .u64 t397) := (blk_cell BK400.out 2).trans rfl
       have hcz29_3 : wc.cell? ⟨gb400, 3, none⟩ = some (.int .i64 t398) := (blk_cell BK400.out 3).trans rfl
       have hfz29_0 := blk_frozen BK400.out 0
       have hfz29_1 := blk_frozen BK400.out 1
       have hfz29_2 := blk_frozen BK400.out 2
       have hfz29_3 := blk_frozen BK400.out 3
       go_wp2
       go_meet
       case rel => exact ⟨_, (false), (by first | rfl | (simp; done) | (simp [*]; done)), H', ⟨by have := HJ5.out; first | omega | exact Nat.le_refl _⟩, ⟨by exact bkS BK399.out⟩, ⟨by exact bkS BK400.out⟩, ⟨bG2 HB.out GE399.out GE400.out⟩⟩
     ·rw [if_neg c22] at H
      have c22b0 : (t392 == 3) = false := beq_eq_false_iff_ne.mpr c22
      have c22b1 : (t392 != 3) = true := bne_iff_ne.mpr c22
      (first | rw [c22b0] | (simp only [i64_w, i32_w]; rw [c22b0]) | rw [c22b1] | skip)
      have H' := Aside0.mk H
      clear H
      have hnb30 := NB399_400.out
      have hnc30 := NB400_399.out
      have hcz31_0 : wc.cell? ⟨gb399, 0, none⟩ = some (.bool t391) := (blk_cell BK399.out 0).trans rfl
      have hcz31_1 : wc.cell? ⟨gb399, 1, none⟩ = some (.int .i64 t392) := (blk_cell BK399.out 1).trans rfl
      have hcz31_2 : wc.cell? ⟨gb399, 2, none⟩ = some (.int .u64 t393) := (blk_cell BK399.out 2).trans rfl
      have hcz31_3 : wc.cell? ⟨gb399, 3, none⟩ = some (.int .i64 t394) := (blk_cell BK399.out 3).trans rfl
      have hfz31_0 := blk_frozen BK399.out 0
      have hfz31_1 := blk_frozen BK399.out 1
      have hfz31_2 := blk_frozen BK399.out 2
      have hfz31_3 := blk_frozen BK399.out 3
      go_wp2
      go_meet
      case rel => exact ⟨_, (false), (by first | rfl | (simp; done) | (simp [*]; done)), H', ⟨by have := HJ5.out; first | omega | exact Nat.le_refl _⟩, ⟨by exact bkS BK399.out⟩, ⟨by exact bkS BK400.out⟩, ⟨bG2 HB.out GE399.out GE400.out⟩⟩
    case rest =>
     clear HC21
     try clear c1
     try clear c2
     try clear p2
     try clear c3
     try clear c5
     try clear c11
     try clear c14
     try clear c14b0
     try clear c14b1
     try clear c15
     try clear c17
     try clear c20
     try clear c22
     try clear c22b0
     try clear c22b1
     try clear c23
     try clear c23b0
     try clear c23b1
     try clear c24
     try clear c27
     try clear c29
     try clear c30
     try clear hcz12_0
     try clear hcz12_1
     try clear hcz12_2
     try clear hcz12_3
     try clear hcz13_0
     try clear hcz13_1
     try clear hcz13_2
     try clear hcz13_3
     try clear hcz16_0
     try clear hcz16_1
     try clear hcz16_2
     try clear hcz16_3
     try clear hcz18_0
     try clear hcz18_1
     try clear hcz18_2
     try clear hcz18_3
     try clear hcz19_0
     try clear hcz19_1
     try clear hcz19_2
     try clear hcz19_3
     try clear hcz25_0
     try clear hcz25_1
     try clear hcz25_2
     try clear hcz25_3
     try clear hcz26_0
     try clear hcz26_1
     try clear hcz26_2
     try clear hcz26_3
     try clear hcz28_0
     try clear hcz28_1
     try clear hcz28_2
     try clear hcz28_3
     try clear hcz29_0
     try clear hcz29_1
     try clear hcz29_2
     try clear hcz29_3
     try clear hcz31_0
     try clear hcz31_1
     try clear hcz31_2
     try clear hcz31_3
     try clear hfz12_0
     try clear hfz12_1
     try clear hfz12_2
     try clear hfz12_3
     try clear hfz13_0
     try clear hfz13_1
     try clear hfz13_2
     try clear hfz13_3
     try clear hfz16_0
     try clear hfz16_1
     try clear hfz16_2
     try clear hfz16_3
     try clear hfz18_0
     try clear hfz18_1
     try clear hfz18_2
     try clear hfz18_3
     try clear hfz19_0
     try clear hfz19_1
     try clear hfz19_2
     try clear hfz19_3
     try clear hfz25_0
     try clear hfz25_1
     try clear hfz25_2
     try clear hfz25_3
     try clear hfz26_0
     try clear hfz26_1
     try clear hfz26_2
     try clear hfz26_3
     try clear hfz28_0
     try clear hfz28_1
     try clear hfz28_2
     try clear hfz28_3
     try clear hfz29_0
     try clear hfz29_1
     try clear hfz29_2
     try clear hfz29_3
     try clear hfz31_0
     try clear hfz31_1
     try clear hfz31_2
     try clear hfz31_3
     try clear p2
     obtain ⟨kq, x23_20, rfl, HA, HJ20, BK399, BK400, HB⟩ := hcut
     cases kq with
     | zero => exact absurd HA.out (by simp [soft_add.j1])
     | succ kj20 =>
      have H := HA.out
      clear HA
      simp only [soft_add.j1] at H
      by_cases c32 : x23_20 = true
      ·subst c32
       have H1 : ((soft_invalid.f).bind fun bt401 => (some (bt401.1, bt401.2))) = some (r1, r2) := by rw [if_pos rfl] at H; exact H
       clear H
       have H := H1
       clear H1
       replace H := Option.bind_eq_some_iff.mp H
       obtain ⟨⟨t401, t402⟩, A330, H⟩ := H
       replace H : (some (t401, t402)) = some (r1, r2) := H
       have A33 := Aside0.mk A330
       clear A330
       simp only [Option.some.injEq, Prod.mk.injEq] at H
       obtain ⟨rfl, rfl⟩ := H
       go_wp2_with (first | ((with_reducible refine gate_callee (f := 86) rfl ?_); refine goesL_ (some 39) rfl rfl Tryd.func86 (by kernel_rfl) rfl #[] rfl (by (try simp only [List.map_toArray, List.map_cons, List.map_nil]); first | done | rfl) ?_; (with_reducible refine (soft_invalid.calls  t401 t402 _ A33.out).mono ?_); rintro e w' ⟨rfl, ⟨nd, rfl⟩⟩; refine ⟨_, rfl, ?_⟩))
       go_ret2
       exact ⟨by first | rfl | (simp [errW_none, errW_some] <;> rfl) | (simp [*, errW_none, errW_some] <;> rfl), bG2 HB.out GE399.out GE400.out⟩
      ·replace c32 := Bool.eq_false_iff.mpr c32
       subst c32
       have H1 : (if t392 = 3 then (some (a0, 0)) else (if t396 = 3 then (some (a1, 0)) else ((soft_termOf.f t391 t392 t393 t394).bind fun bt403 => ((soft_termOf.f t395 t396 t397 t398).bind fun bt408 => ((soft_term_plus.f kj20 bt403.1 bt403.2.1 bt403.2.2 bt408.1 bt408.2.1 bt408.2.2).bind fun bt413 => ((soft_term_rounded.f kj20 bt413.1 bt413.2.1 bt413.2.2).bind fun bt418 => (some (bt418.1, bt418.2)))))))) = some (r1, r2) := by rw [if_neg (show ¬ (false = true) by decide)] at H; exact H
       clear H
       have H := H1
       clear H1
       by_cases c34 : t392 = 3
       ·rw [if_pos c34] at H
        have c34b0 : (t392 == 3) = true := beq_iff_eq.mpr c34
        have c34b1 : (t392 != 3) = false := bne_eq_false_iff_eq.mpr c34
        clear c34
        simp only [Option.some.injEq, Prod.mk.injEq] at H
        obtain ⟨rfl, rfl⟩ := H
        have hnb35 := NB399_400.out
        have hnc35 := NB400_399.out
        have hcz36_0 : wc.cell? ⟨gb399, 0, none⟩ = some (.bool t391) := (blk_cell BK399.out 0).trans rfl
        have hcz36_1 : wc.cell? ⟨gb399, 1, none⟩ = some (.int .i64 t392) := (blk_cell BK399.out 1).trans rfl
        have hcz36_2 : wc.cell? ⟨gb399, 2, none⟩ = some (.int .u64 t393) := (blk_cell BK399.out 2).trans rfl
        have hcz36_3 : wc.cell? ⟨gb399, 3, none⟩ = some (.int .i64 t394) := (blk_cell BK399.out 3).trans rfl
        have hfz36_0 := blk_frozen BK399.out 0
        have hfz36_1 := blk_frozen BK399.out 1
        have hfz36_2 := blk_frozen BK399.out 2
        have hfz36_3 := blk_frozen BK399.out 3
        go_wp2
        go_ret2
        exact ⟨by first | rfl | (simp [errW_none, errW_some] <;> rfl) | (simp [*, errW_none, errW_some] <;> rfl), bG2 HB.out GE399.out GE400.out⟩
       ·rw [if_neg c34] at H
        have c34b0 : (t392 == 3) = false := beq_eq_false_iff_ne.mpr c34
        have c34b1 : (t392 != 3) = true := bne_iff_ne.mpr c34
        by_cases c37 : t396 = 3
        ·rw [if_pos c37] at H
         have c37b0 : (t396 == 3) = true := beq_iff_eq.mpr c37
         have c37b1 : (t396 != 3) = false := bne_eq_false_iff_eq.mpr c37
         clear c37
         simp only [Option.some.injEq, Prod.mk.injEq] at H
         obtain ⟨rfl, rfl⟩ := H
         have hnb38 := NB399_400.out
         have hnc38 := NB400_399.out
         have hcz39_0 : wc.cell? ⟨gb399, 0, none⟩ = some (.bool t391) := (blk_cell BK399.out 0).trans rfl
         have hcz39_1 : wc.cell? ⟨gb399, 1, none⟩ = some (.int .i64 t392) := (blk_cell BK399.out 1).trans rfl
         have hcz39_2 : wc.cell? ⟨gb399, 2, none⟩ = some (.int .u64 t393) := (blk_cell BK399.out 2).trans rfl
         have hcz39_3 : wc.cell? ⟨gb399, 3, none⟩ = some (.int .i64 t394) := (blk_cell BK399.out 3).trans rfl
         have hfz39_0 := blk_frozen BK399.out 0
         have hfz39_1 := blk_frozen BK399.out 1
         have hfz39_2 := blk_frozen BK399.out 2
         have hfz39_3 := blk_frozen BK399.out 3
         have hcz40_0 : wc.cell? ⟨gb400, 0, none⟩ = some (.bool t395) := (blk_cell BK400.out 0).trans rfl
         have hcz40_1 : wc.cell? ⟨gb400, 1, none⟩ = some (.int .i64 t396) := (blk_cell BK400.out 1).trans rfl
         have hcz40_2 : wc.cell? ⟨gb400, 2, none⟩ = some (.int .u64 t397) := (blk_cell BK400.out 2).trans rfl
         have hcz40_3 : wc.cell? ⟨gb400, 3, none⟩ = some (.int .i64 t398) := (blk_cell BK400.out 3).trans rfl
         have hfz40_0 := blk_frozen BK400.out 0
         have hfz40_1 := blk_frozen BK400.out 1
         have hfz40_2 := blk_frozen BK400.out 2
         have hfz40_3 := blk_frozen BK400.out 3
         go_wp2
         go_ret2
         exact ⟨by first | rfl | (simp [errW_none, errW_some] <;> rfl) | (simp [*, errW_none, errW_some] <;> rfl), bG2 HB.out GE399.out GE400.out⟩
        ·rw [if_neg c37] at H
         have c37b0 : (t396 == 3) = false := beq_eq_false_iff_ne.mpr c37
         have c37b1 : (t396 != 3) = true := bne_iff_ne.mpr c37
         replace H := Option.bind_eq_some_iff.mp H
         obtain ⟨⟨t403, t404, t407⟩, A410, H⟩ := H
         replace H : ((soft_termOf.f t395 t396 t397 t398).bind fun bt408 => ((soft_term_plus.f kj20 t403 t404 t407 bt408.1 bt408.2.1 bt408.2.2).bind fun bt413 => ((soft_term_rounded.f kj20 bt413.1 bt413.2.1 bt413.2.2).bind fun bt418 => (some (bt418.1, bt418.2))))) = some (r1, r2) := H
         have A41 := Aside0.mk A410
         clear A410
         replace H := Option.bind_eq_some_iff.mp H
         obtain ⟨⟨t408, t409, t412⟩, A420, H⟩ := H
         replace H : ((soft_term_plus.f kj20 t403 t404 t407 t408 t409 t412).bind fun bt413 => ((soft_term_rounded.f kj20 bt413.1 bt413.2.1 bt413.2.2).bind fun bt418 => (some (bt418.1, bt418.2)))) = some (r1, r2) := H
         have A42 := Aside0.mk A420
         clear A420
         replace H := Option.bind_eq_some_iff.mp H
         obtain ⟨⟨t413, t414, t417⟩, A430, H⟩ := H
         replace H : ((soft_term_rounded.f kj20 t413 t414 t417).bind fun bt418 => (some (bt418.1, bt418.2))) = some (r1, r2) := H
         have A43 := Aside0.mk A430
         clear A430
         replace H := Option.bind_eq_some_iff.mp H
         obtain ⟨⟨t418, t419⟩, A440, H⟩ := H
         replace H : (some (t418, t419)) = some (r1, r2) := H
         have A44 := Aside0.mk A440
         clear A440
         simp only [Option.some.injEq, Prod.mk.injEq] at H
         obtain ⟨rfl, rfl⟩ := H
         have hnb45 := NB399_400.out
         have hnc45 := NB400_399.out
         have hcz46_0 : wc.cell? ⟨gb399, 0, none⟩ = some (.bool t391) := (blk_cell BK399.out 0).trans rfl
         have hcz46_1 : wc.cell? ⟨gb399, 1, none⟩ = some (.int .i64 t392) := (blk_cell BK399.out 1).trans rfl
         have hcz46_2 : wc.cell? ⟨gb399, 2, none⟩ = some (.int .u64 t393) := (blk_cell BK399.out 2).trans rfl
         have hcz46_3 : wc.cell? ⟨gb399, 3, none⟩ = some (.int .i64 t394) := (blk_cell BK399.out 3).trans rfl
         have hfz46_0 := blk_frozen BK399.out 0
         have hfz46_1 := blk_frozen BK399.out 1
         have hfz46_2 := blk_frozen BK399.out 2
         have hfz46_3 := blk_frozen BK399.out 3
         have hcz47_0 : wc.cell? ⟨gb400, 0, none⟩ = some (.bool t395) := (blk_cell BK400.out 0).trans rfl
         have hcz47_1 : wc.cell? ⟨gb400, 1, none⟩ = some (.int .i64 t396) := (blk_cell BK400.out 1).trans rfl
         have hcz47_2 : wc.cell? ⟨gb400, 2, none⟩ = some (.int .u64 t397) := (blk_cell BK400.out 2).trans rfl
         have hcz47_3 : wc.cell? ⟨gb400, 3, none⟩ = some (.int .i64 t398) := (blk_cell BK400.out 3).trans rfl
         have hfz47_0 := blk_frozen BK400.out 0
         have hfz47_1 := blk_frozen BK400.out 1
         have hfz47_2 := blk_frozen BK400.out 2
         have hfz47_3 := blk_frozen BK400.out 3
         try go_wp2
         have n0_ := Aside0.mk (blk_drew BK399.out)
         have n1_ := Aside0.mk (blk_drew BK400.out)
         have n2_ := Aside0.mk (below_drew1 HB.out)
         clear BK399
         clear BK400
         clear HB
         have BK399 := n0_
         have BK400 := n1_
         have HB := n2_
         clear n0_ n1_ n2_
         refine start_ (n := 10) (S := fun w' => w'.cell? ⟨gb399, 0, none⟩ = some (.bool t391) ∧ w'.cell? ⟨gb399, 1, none⟩ = some (.int .i64 t392) ∧ w'.cell? ⟨gb399, 2, none⟩ = some (.int .u64 t393) ∧ w'.cell? ⟨gb399, 3, none⟩ = some (.int .i64 t394) ∧ w'.cell? ⟨gb400, 0, none⟩ = some (.bool t395) ∧ w'.cell? ⟨gb400, 1, none⟩ = some (.int .i64 t396) ∧ w'.cell? ⟨gb400, 2, none⟩ = some (.int .u64 t397) ∧ w'.cell? ⟨gb400, 3, none⟩ = some (.int .i64 t398)) (ds := []) #[false, false, false, false, false, false, false, false, false, false] (by kernel_rfl) rfl rfl ⟨(blk_cell BK399.out 0).trans rfl, (blk_cell BK399.out 1).trans rfl, (blk_cell BK399.out 2).trans rfl, (blk_cell BK399.out 3).trans rfl, (blk_cell BK400.out 0).trans rfl, (blk_cell BK400.out 1).trans rfl, (blk_cell BK400.out 2).trans rfl, (blk_cell BK400.out 3).trans rfl⟩ (fun hHeld => ?_); refine with_tabW soft_add.tab10 soft_add.bits10 (fun HT_ HW_ => ?_)
         generalize wc.drew = w48 at BK399 BK400 HB hHeld ⊢
         refine take_ (i := 0) (N := some 52) (v := ?_) (a' := ?_) #[true, false, false, false, false, false, false, false, false, false] rfl rfl (take_ofW HT_.out HW_.out (by kernel_rfl)) (fun _ _ _ h => h) (Or.inl ⟨by rfl, ?_⟩) hHeld ?_ ?_
         rotate_left
         ·rintro w' ⟨s0, s1, s2, s3, s4, s5, s6, s7⟩
          go_simp
          with_reducible rfl
         rotate_left
         ·simp only [Act.put, List.setIfInBounds_toArray, List.set_cons_zero, List.set_cons_succ, i64_w, i32_w]
          rfl
         refine take_ (i := 2) (N := some 54) (v := ?_) (a' := ?_) #[true, false, true, false, false, false, false, false, false, false] rfl rfl (take_ofW HT_.out HW_.out (by kernel_rfl)) (fun _ _ _ h => h) (Or.inl ⟨by rfl, ?_⟩) hHeld ?_ ?_
         rotate_left
         ·rintro w' ⟨s0, s1, s2, s3, s4, s5, s6, s7⟩
          go_simp
          with_reducible rfl
         rotate_left
         ·simp only [Act.put, List.setIfInBounds_toArray, List.set_cons_zero, List.set_cons_succ, i64_w, i32_w]
          rfl
         refine one_ (i := 1) (N := some 53) #[true, true, true, false, false, false, false, false, false, false] rfl rfl (one_of HT_.out (by kernel_rfl)) (by decide) (fun K hK => ?_)
         refine goes_ Tryd.func87 (by kernel_rfl) rfl #[.agg #[.bool t391, .int .i64 t392, .int .u64 t393, .int .i64 t394]] (by rfl) rfl rfl (by (try simp only [List.map_toArray, List.map_cons, List.map_nil]); first | done | rfl) ?_
         with_reducible refine (soft_termOf.calls t391 t392 t393 t394 t403 t404 t407 _ A41.out).mono ?_
         rintro e w49 ⟨v405, rfl, ho0, hb⟩
         refine ⟨_, rfl, ?_⟩
         have n0_ := Aside0.mk (Kd.R_lower ho0 (below_size (bG2 HB.out GE399.out GE400.out)))
         have n1_ := Aside0.mk (blk_below (g := gb399) (o := .cells #[.bool t391, .int .i64 t392, .int .u64 t393, .int .i64 t394] 39 (0, 0)) (by exact bkS BK399.out) hb)
         have n2_ := Aside0.mk (blk_below (g := gb400) (o := .cells #[.bool t395, .int .i64 t396, .int .u64 t397, .int .i64 t398] 39 (0, 0)) (by exact bkS BK400.out) hb)
         have n3_ := Aside0.mk (below_step (bG2 HB.out GE399.out GE400.out) hb)
         clear BK399
         clear BK400
         clear HB
         have HO406 := n0_
         have BK399 := n1_
         have BK400 := n2_
         have HB := n3_
         clear n0_ n1_ n2_ n3_
         (try clear hb)
         (try clear hb2)
         (try clear hk)
         (try clear hi)
         (try clear ho0)
         refine hK.out _ _ ⟨(blk_cell BK399.out 0).trans rfl, (blk_cell BK399.out 1).trans rfl, (blk_cell BK399.out 2).trans rfl, (blk_cell BK399.out 3).trans rfl, (blk_cell BK400.out 0).trans rfl, (blk_cell BK400.out 1).trans rfl, (blk_cell BK400.out 2).trans rfl, (blk_cell BK400.out 3).trans rfl⟩ (fun hHeld => ?_)
         clear hK K
         refine norm_ (a' := ?_) ?_ ?_
         rotate_left
         ·show Act.put _ (some 53) _ = _
          simp only [Act.put, List.setIfInBounds_toArray, List.set_cons_zero, List.set_cons_succ, i64_w, i32_w]
          rfl
         refine one_ (i := 3) (N := some 55) #[true, true, true, true, false, false, false, false, false, false] rfl rfl (one_of HT_.out (by kernel_rfl)) (by decide) (fun K hK => ?_)
         refine goes_ Tryd.func87 (by kernel_rfl) rfl #[.agg #[.bool t395, .int .i64 t396, .int .u64 t397, .int .i64 t398]] (by rfl) rfl rfl (by (try simp only [List.map_toArray, List.map_cons, List.map_nil]); first | done | rfl) ?_
         with_reducible refine (soft_termOf.calls t395 t396 t397 t398 t408 t409 t412 _ A42.out).mono ?_
         rintro e w50 ⟨v410, rfl, ho0, hb⟩
         refine ⟨_, rfl, ?_⟩
         have n0_ := Aside0.mk (Kd.R_elder' (rS <| HO406.out) (Kd.R_base ho0) hb)
         have n1_ := Aside0.mk (Kd.R_lower (Kd.R_new' ho0 (Kd.R_lt (rS <| HO406.out))) (below_size (bG2 HB.out GE399.out GE400.out)))
         have n2_ := Aside0.mk (blk_below (g := gb399) (o := .cells #[.bool t391, .int .i64 t392, .int .u64 t393, .int .i64 t394] 39 (0, 0)) (by exact bkS BK399.out) hb)
         have n3_ := Aside0.mk (blk_below (g := gb400) (o := .cells #[.bool t395, .int .i64 t396, .int .u64 t397, .int .i64 t398] 39 (0, 0)) (by exact bkS BK400.out) hb)
         have n4_ := Aside0.mk (below_step (bG2 HB.out GE399.out GE400.out) hb)
         clear HO406
         clear BK399
         clear BK400
         clear HB
         have HO406 := n0_
         have HO411 := n1_
         have BK399 := n2_
         have BK400 := n3_
         have HB := n4_
         clear n0_ n1_ n2_ n3_ n4_
         (try clear hb)
         (try clear hb2)
         (try clear hk)
         (try clear hi)
         (try clear ho0)
         obtain ⟨Ao51, co51, eo51⟩ := Kd.R_slice HO406.out
         (first | subst eo51 | (injection eo51 with f1_ f2_ f3_; have f4_ := f1_.symm; have f5_ := f3_.symm; clear f1_ f2_ f3_; subst f4_; subst f5_))
         obtain ⟨Ao52, co52, eo52⟩ := Kd.R_slice HO411.out
         (first | subst eo52 | (injection eo52 with f1_ f2_ f3_; have f4_ := f1_.symm; have f5_ := f3_.symm; clear f1_ f2_ f3_; subst f4_; subst f5_))
         refine hK.out _ _ ⟨(blk_cell BK399.out 0).trans rfl, (blk_cell BK399.out 1).trans rfl, (blk_cell BK399.out 2).trans rfl, (blk_cell BK399.out 3).trans rfl, (blk_cell BK400.out 0).trans rfl, (blk_cell BK400.out 1).trans rfl, (blk_cell BK400.out 2).trans rfl, (blk_cell BK400.out 3).trans rfl⟩ (fun hHeld => ?_)
         clear hK K
         refine norm_ (a' := ?_) ?_ ?_
         rotate_left
         ·show Act.put _ (some 55) _ = _
          simp only [Act.put, List.setIfInBounds_toArray, List.set_cons_zero, List.set_cons_succ, i64_w, i32_w]
          rfl
         refine one_ (i := 4) (N := some 56) #[true, true, true, true, true, false, false, false, false, false] rfl rfl (one_of HT_.out (by kernel_rfl)) (by decide) (fun K hK => ?_)
         refine goes_ Tryd.func88 (by kernel_rfl) rfl #[.agg #[.bool t403, .slice Ao51 t404.length co51, .int .i64 t407], .agg #[.bool t408, .slice Ao52 t409.length co52, .int .i64 t412]] (by rfl) rfl rfl (by (try simp only [List.map_toArray, List.map_cons, List.map_nil]); first | done | rfl) ?_
         with_reducible refine (soft_term_plus.calls kj20 t403 (fun k_ => some k_ = (.slice Ao51 t404.length co51 : Value).ownBlock) _ _ t404 t407 t408 (fun k_ => some k_ = (.slice Ao52 t409.length co52 : Value).ownBlock) _ _ t409 t412 t413 t414 t417 _ ?side1 ?side2 A43.out).mono ?_
         (case side1 => exact Kd.R_V (Kd.R_tight rfl (Kd.R_types (Kd.R_types (HO406.out) BK399.out (by decide)) BK400.out (by decide))))
         (case side2 => exact Kd.R_V (Kd.R_tight rfl (Kd.R_types (Kd.R_types (HO411.out) BK399.out (by decide)) BK400.out (by decide))))
         rintro e w53 ⟨v415, rfl, ho0, hb⟩
         refine ⟨_, rfl, ?_⟩
         have n0_ := Aside0.mk (Kd.R_below (rS <| HO406.out) hb)
         have n1_ := Aside0.mk (Kd.R_below (rS <| HO411.out) hb)
         have n2_ := Aside0.mk (Kd.V_lower (Kd.V_mono (ok' := fun k_ => k_ ≠ gb399 ∧ k_ ≠ gb400) ho0 (fun k_ hk_ => ⟨Or.elim hk_ (fun hs_ => Or.elim hs_ (fun hs_ => ((Kd.R_types (Kd.R_types (HO406.out) BK399.out (by decide)) BK400.out (by decide)).1 k_ hs_.symm).1.2) (fun hs_ => ((Kd.R_types (Kd.R_types (HO411.out) BK399.out (by decide)) BK400.out (by decide)).1 k_ hs_.symm).1.2)) (fun hn_ => (Kd.freshB (g := gb399) (o := .cells #[.bool t391, .int .i64 t392, .int .u64 t393, .int .i64 t394] 39 (0, 0)) (by exact bkS BK399.out) k_ hn_)), Or.elim hk_ (fun hs_ => Or.elim hs_ (fun hs_ => ((Kd.R_types (Kd.R_types (HO406.out) BK399.out (by decide)) BK400.out (by decide)).1 k_ hs_.symm).2) (fun hs_ => ((Kd.R_types (Kd.R_types (HO411.out) BK399.out (by decide)) BK400.out (by decide)).1 k_ hs_.symm).2)) (fun hn_ => (Kd.freshB (g := gb400) (o := .cells #[.bool t395, .int .i64 t396, .int .u64 t397, .int .i64 t398] 39 (0, 0)) (by exact bkS BK400.out) k_ hn_))⟩)) (below_size (bG2 HB.out GE399.out GE400.out)))
         have n3_ := Aside0.mk (blk_below (g := gb399) (o := .cells #[.bool t391, .int .i64 t392, .int .u64 t393, .int .i64 t394] 39 (0, 0)) (by exact bkS BK399.out) hb)
         have n4_ := Aside0.mk (blk_below (g := gb400) (o := .cells #[.bool t395, .int .i64 t396, .int .u64 t397, .int .i64 t398] 39 (0, 0)) (by exact bkS BK400.out) hb)
         have n5_ := Aside0.mk (below_step (bG2 HB.out GE399.out GE400.out) hb)
         clear HO406
         clear HO411
         clear BK399
         clear BK400
         clear HB
         have HO406 := n0_
         have HO411 := n1_
         have HO416 := n2_
         have BK399 := n3_
         have BK400 := n4_
         have HB := n5_
         clear n0_ n1_ n2_ n3_ n4_ n5_
         (try clear hb)
         (try clear hb2)
         (try clear hk)
         (try clear hi)
         (try clear ho0)
         obtain ⟨Ao54, co54, eo54⟩ := Kd.V_slice HO416.out
         (first | subst eo54 | (injection eo54 with f1_ f2_ f3_; have f4_ := f1_.symm; have f5_ := f3_.symm; clear f1_ f2_ f3_; subst f4_; subst f5_))
         refine hK.out _ _ ⟨(blk_cell BK399.out 0).trans rfl, (blk_cell BK399.out 1).trans rfl, (blk_cell BK399.out 2).trans rfl, (blk_cell BK399.out 3).trans rfl, (blk_cell BK400.out 0).trans rfl, (blk_cell BK400.out 1).trans rfl, (blk_cell BK400.out 2).trans rfl, (blk_cell BK400.out 3).trans rfl⟩ (fun hHeld => ?_)
         clear hK K
         refine norm_ (a' := ?_) ?_ ?_
         rotate_left
         ·show Act.put _ (some 56) _ = _
          simp only [Act.put, List.setIfInBounds_toArray, List.set_cons_zero, List.set_cons_succ, i64_w, i32_w]
          rfl
         refine one_ (i := 5) (N := some 57) #[true, true, true, true, true, true, false, false, false, false] rfl rfl (one_of HT_.out (by kernel_rfl)) (by decide) (fun K hK => ?_)
         refine goes_ Tryd.func89 (by kernel_rfl) rfl #[.agg #[.bool t413, .slice Ao54 t414.length co54, .int .i64 t417]] (by rfl) rfl rfl (by (try simp only [List.map_toArray, List.map_cons, List.map_nil]); first | done | rfl) ?_
         with_reducible refine (soft_term_rounded.calls kj20 t413 _ _ t414 t417 t418 t419 _ ?side3 ?side1 ?side2 A44.out).mono ?_
         (case side1 => exact cS (Kd.V_reads' HO416.out).2.2)
         (case side2 => exact (Kd.V_reads' HO416.out).2.1)
         (case side3 => exact cS (Kd.C_below HT.out HB.out))
         rintro e w55 ⟨rfl, hb⟩
         refine ⟨_, rfl, ?_⟩
         have n0_ := Aside0.mk (Kd.R_below (rS <| HO406.out) hb)
         have n1_ := Aside0.mk (Kd.R_below (rS <| HO411.out) hb)
         have n2_ := Aside0.mk (Kd.V_below (vS <| HO416.out) hb)
         have n3_ := Aside0.mk (blk_below (g := gb399) (o := .cells #[.bool t391, .int .i64 t392, .int .u64 t393, .int .i64 t394] 39 (0, 0)) (by exact bkS BK399.out) hb)
         have n4_ := Aside0.mk (blk_below (g := gb400) (o := .cells #[.bool t395, .int .i64 t396, .int .u64 t397, .int .i64 t398] 39 (0, 0)) (by exact bkS BK400.out) hb)
         have n5_ := Aside0.mk (below_step (bG2 HB.out GE399.out GE400.out) hb)
         clear HO406
         clear HO411
         clear HO416
         clear BK399
         clear BK400
         clear HB
         have HO406 := n0_
         have HO411 := n1_
         have HO416 := n2_
         have BK399 := n3_
         have BK400 := n4_
         have HB := n5_
         clear n0_ n1_ n2_ n3_ n4_ n5_
         (try clear hb)
         (try clear hb2)
         (try clear hk)
         (try clear hi)
         refine hK.out _ _ ⟨(blk_cell BK399.out 0).trans rfl, (blk_cell BK399.out 1).trans rfl, (blk_cell BK399.out 2).trans rfl, (blk_cell BK399.out 3).trans rfl, (blk_cell BK400.out 0).trans rfl, (blk_cell BK400.out 1).trans rfl, (blk_cell BK400.out 2).trans rfl, (blk_cell BK400.out 3).trans rfl⟩ (fun hHeld => ?_)
         clear hK K
         refine norm_ (a' := ?_) ?_ ?_
         rotate_left
         ·show Act.put _ (some 57) _ = _
          simp only [Act.put, List.setIfInBounds_toArray, List.set_cons_zero, List.set_cons_succ, i64_w, i32_w]
          rfl
         refine pure_ (i := 6) (N := some 58) (v := ?_) (a' := ?_) #[true, true, true, true, true, true, true, false, false, false] rfl rfl (any_of HT_.out (by kernel_rfl)) (fun _ _ _ h => h) (Or.inl ⟨by rfl, ?_⟩) ?_ ?_
         rotate_left
         ·intro w'
          go_simp
          with_reducible rfl
         rotate_left
         ·simp only [Act.put, List.setIfInBounds_toArray, List.set_cons_zero, List.set_cons_succ, i64_w, i32_w]
          rfl
         refine pure_ (i := 7) (N := some 59) (v := ?_) (a' := ?_) #[true, true, true, true, true, true, true, true, false, false] rfl rfl (any_of HT_.out (by kernel_rfl)) (fun _ _ _ h => h) (Or.inl ⟨by rfl, ?_⟩) ?_ ?_
         rotate_left
         ·intro w'
          go_simp
          with_reducible rfl
         rotate_left
         ·simp only [Act.put, List.setIfInBounds_toArray, List.set_cons_zero, List.set_cons_succ, i64_w, i32_w]
          rfl
         refine pure_ (i := 8) (N := some 6) (v := ?_) (a' := ?_) #[true, true, true, true, true, true, true, true, true, false] rfl rfl (any_of HT_.out (by kernel_rfl)) (fun _ _ _ h => h) (Or.inl ⟨by rfl, ?_⟩) ?_ ?_
         rotate_left
         ·intro w'
          go_simp
          with_reducible rfl
         rotate_left
         ·simp only [Act.put, List.setIfInBounds_toArray, List.set_cons_zero, List.set_cons_succ, i64_w, i32_w]
          rfl
         refine pure_ (i := 9) (N := some 7) (v := ?_) (a' := ?_) #[true, true, true, true, true, true, true, true, true, true] rfl rfl (any_of HT_.out (by kernel_rfl)) (fun _ _ _ h => h) (Or.inl ⟨by rfl, ?_⟩) ?_ ?_
         rotate_left
         ·intro w'
          go_simp
          with_reducible rfl
         rotate_left
         ·simp only [Act.put, List.setIfInBounds_toArray, List.set_cons_zero, List.set_cons_succ, i64_w, i32_w]
          rfl
         refine done_ (done_of HT_.out (by kernel_rfl)) ?_
         try go_wp2
         go_ret2
         exact ⟨by first | rfl | (simp [errW_none, errW_some] <;> rfl) | (simp [*, errW_none, errW_some] <;> rfl), bG2 HB.out GE399.out GE400.out⟩

/-! ### soft_sub: function 53 -/
def soft_sub.f (k : Nat) (a0 : Int) (a1 : Int) (a2 : Int) : Option (Int × Int) := (ieee_Neg.f a1).bind fun t420 => ((soft_add.f k a0 t420 a2).bind fun bt421 => (some (bt421.1, bt421.2)))
theorem soft_sub.mono : ∀ a0 a1 a2 k, LeO (soft_sub.f k a0 a1 a2) (soft_sub.f (k + 1) a0 a1 a2) := by
 intro a0 a1 a2 k
 unfold soft_sub.f
 repeat' first
   | (with_reducible exact soft_add.mono _ _ _ _)
   | (with_reducible exact LeO.refl _)
   | (with_reducible exact LeO.none _)
   | (with_reducible refine LeO.ite ?_ ?_)
   | (with_reducible refine LeO.bind ?_ (fun _ => ?_))
   | exact soft_add.mono _ _ _ _
   | exact LeO.none _
   | refine LeO.ite ?_ ?_
   | refine LeO.bind ?_ (fun _ => ?_)
set_option maxHeartbeats 8000000 in
set_option maxRecDepth 100000 in
theorem soft_sub.calls (k : Nat) (a0 : Int) (a1 : Int) (a2 : Int) (r1 : Int) (r2 : Int) (w : World) (hT : Kd.C (Kd.int .u8) w (some ⟨0, 0, none⟩) 64 tabL) (h : soft_sub.f k a0 a1 a2 = some (r1, r2)) :
  Calls Tryd.prog 53 #[.int .u64 a0, .int .u64 a1, .int .u64 a2] w fun e w' => e = .returned (.tuple #[.int .u64 r1, .int .i64 r2]) ∧ Below w.heap.size w w' := by
 have HT := Aside0.mk hT
 clear hT
 have HB := Aside0.mk (Below.refl w.heap.size w)
 have H : ((ieee_Neg.f a1).bind fun t420 => ((soft_add.f k a0 t420 a2).bind fun bt421 => (some (bt421.1, bt421.2)))) = some (r1, r2) := h
 clear h
 replace H := Option.bind_eq_some_iff.mp H
 obtain ⟨t420, A40, H⟩ := H
 replace H : ((soft_add.f k a0 t420 a2).bind fun bt421 => (some (bt421.1, bt421.2))) = some (r1, r2) := H
 have A4 := Aside0.mk A40
 clear A40
 replace H := Option.bind_eq_some_iff.mp H
 obtain ⟨⟨t421, t422⟩, A50, H⟩ := H
 replace H : (some (t421, t422)) = some (r1, r2) := H
 have A5 := Aside0.mk A50
 clear A50
 simp only [Option.some.injEq, Prod.mk.injEq] at H
 obtain ⟨rfl, rfl⟩ := H
 go_enter Tryd.func53, Tryd.ntmps53
 go_wp2_with (first | ((with_reducible refine gate_callee (f := 30) rfl ?_); refine goesL_ (some 10) rfl rfl Tryd.func30 (by kernel_rfl) rfl #[.int .u64 a1] rfl (by (try simp only [List.map_toArray, List.map_cons, List.map_nil]); first | done | rfl) ?_; (with_reducible refine (ieee_Neg.calls a1 t420 _ A4.out).mono ?_); rintro e w' ⟨rfl, ⟨nd, rfl⟩⟩; refine ⟨_, rfl, ?_⟩) | ((with_reducible refine gate_callee (f := 57) rfl ?_); refine goesL_ (some 12) rfl rfl Tryd.func57 (by kernel_rfl) rfl #[.int .u64 a0, .int .u64 t420, .int .u64 a2] rfl (by (try simp only [List.map_toArray, List.map_cons, List.map_nil]); first | done | rfl) ?_; (with_reducible refine (soft_add.calls k a0 t420 a2 t421 t422 _ ?side1 A5.out).mono ?_); (case side1 => exact cS HT.out); rintro e w6 ⟨rfl, hb⟩; refine ⟨_, rfl, ?_⟩; replace HB := hB HB hb; (try clear hb); (try clear hb2); (try clear hk); (try clear hi)))
 go_ret2
 exact ⟨by first | rfl | (simp [errW_none, errW_some] <;> rfl) | (simp [*, errW_none, errW_some] <;> rfl), bS HB.out⟩

/-! ### soft_Sub: function 20 -/
def soft_Sub.f (k : Nat) (a0 : Int) (a1 : Int) : Option (Int) := (soft_sub.f k a0 a1 0).bind fun bt423 => (some bt423.1)
theorem soft_Sub.mono : ∀ a0 a1 k, LeO (soft_Sub.f k a0 a1) (soft_Sub.f (k + 1) a0 a1) := by
 intro a0 a1 k
 unfold soft_Sub.f
 repeat' first
   | (with_reducible exact soft_sub.mono _ _ _ _)
   | (with_reducible exact LeO.refl _)
   | (with_reducible exact LeO.none _)
   | (with_reducible refine LeO.ite ?_ ?_)
   | (with_reducible refine LeO.bind ?_ (fun _ => ?_))
   | exact soft_sub.mono _ _ _ _
   | exact LeO.none _
   | refine LeO.ite ?_ ?_
   | refine LeO.bind ?_ (fun _ => ?_)
set_option maxHeartbeats 8000000 in
set_option maxRecDepth 100000 in
theorem soft_Sub.calls (k : Nat) (a0 : Int) (a1 : Int) (r : Int) (w : World) (hT : Kd.C (Kd.int .u8) w (some ⟨0, 0, none⟩) 64 tabL) (h : soft_Sub.f k a0 a1 = some r) :
  Calls Tryd.prog 20 #[.int .u64 a0, .int .u64 a1] w fun e w' => e = .returned (.int .u64 r) ∧ Below w.heap.size w w' := by
 have HT := Aside0.mk hT
 clear hT
 have HB := Aside0.mk (Below.refl w.heap.size w)
 have H : ((soft_sub.f k a0 a1 0).bind fun bt423 => (some bt423.1)) = some r := h
 clear h
 replace H := Option.bind_eq_some_iff.mp H
 obtain ⟨⟨t423, t424⟩, A30, H⟩ := H
 replace H : (some t423) = some r := H
 have A3 := Aside0.mk A30
 clear A30
 obtain rfl := Option.some.inj H
 go_enter Tryd.func20, Tryd.ntmps20
 go_wp2_with (first | ((with_reducible refine gate_callee (f := 53) rfl ?_); refine goesL_ (some 10) rfl rfl Tryd.func53 (by kernel_rfl) rfl #[.int .u64 a0, .int .u64 a1, .int .u64 0] rfl (by (try simp only [List.map_toArray, List.map_cons, List.map_nil]); first | done | rfl) ?_; (with_reducible refine (soft_sub.calls k a0 a1 0 t423 t424 _ ?side1 A3.out).mono ?_); (case side1 => exact cS HT.out); rintro e w4 ⟨rfl, hb⟩; refine ⟨_, rfl, ?_⟩; replace HB := hB HB hb; (try clear hb); (try clear hb2); (try clear hk); (try clear hi)))
 go_ret
 exact ⟨by first | rfl | (simp [errW_none, errW_some] <;> rfl) | (simp [*, errW_none, errW_some] <;> rfl), bS HB.out⟩

end Go.Proofs.YtcdnoklokoplaaaDoor.PC
