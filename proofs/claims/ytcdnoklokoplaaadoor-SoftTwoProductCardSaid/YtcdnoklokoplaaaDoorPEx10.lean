-- printed by a program
import Derived.Test.YtcdnoklokoplaaaDoorPEx0
import Derived.Test.YtcdnoklokoplaaaDoorPEx1
import Derived.Test.YtcdnoklokoplaaaDoorPEx5
import Derived.Test.YtcdnoklokoplaaaDoorPEx8
import Derived.Test.YtcdnoklokoplaaaDoorPEx9
namespace Go.Proofs.YtcdnoklokoplaaaDoor.PE
open Go.Proofs.YtcdnoklokoplaaaDoorX
open Go.RowKit Go.Proofs.YtcdnoklokoplaaaDoorW.PrintWords Go.Proofs.YtcdnoklokoplaaaDoorW.PrintLast Go.Proofs.YtcdnoklokoplaaaDoorW.PrintMore
attribute [local go_sem] max2_int min2_int max_two min_two max_three min_three max_four min_four   -- for this text's walks alone
set_option linter.unusedVariables false
set_option linter.unusedSimpArgs false

/-! ### soft_mul: function 58 -/
mutual
def soft_mul.j0 : Nat → Bool → Bool → Bool → Int → Int → Int → Bool → Int → Int → Int → Option (Int × Int)
 | 0, _, _, _, _, _, _, _, _, _, _ => none
 | k + 1, x10, x20, x419000, x419001, x419002, x419003, x420000, x420001, x420002, x420003 => if x20 = true then (some (9221120237041090560, 0)) else (if x419001 = 3 then (soft_mul.j1 k x10 (x420001 == 0) x419000 x419001 x419002 x419003 x420000 x420001 x420002 x420003) else (soft_mul.j1 k x10 false x419000 x419001 x419002 x419003 x420000 x420001 x420002 x420003))
def soft_mul.j1 : Nat → Bool → Bool → Bool → Int → Int → Int → Bool → Int → Int → Int → Option (Int × Int)
 | 0, _, _, _, _, _, _, _, _, _, _ => none
 | k + 1, x10, x29, x419000, x419001, x419002, x419003, x420000, x420001, x420002, x420003 => if x29 = true then (soft_mul.j2 k x10 x29 x419000 x419001 x419002 x419003 x420000 x420001 x420002 x420003) else (if x419001 = 0 then (soft_mul.j2 k x10 (x420001 == 3) x419000 x419001 x419002 x419003 x420000 x420001 x420002 x420003) else (soft_mul.j2 k x10 false x419000 x419001 x419002 x419003 x420000 x420001 x420002 x420003))
def soft_mul.j2 : Nat → Bool → Bool → Bool → Int → Int → Int → Bool → Int → Int → Int → Option (Int × Int)
 | 0, _, _, _, _, _, _, _, _, _, _ => none
 | k + 1, x10, x29, x419000, x419001, x419002, x419003, x420000, x420001, x420002, x420003 => if x29 = true then ((soft_invalid.f).bind fun bt420 => (some (bt420.1, bt420.2))) else (if x419001 = 3 then (soft_mul.j3 k x10 true x419000 x419001 x419002 x419003 x420000 x420001 x420002 x420003) else (soft_mul.j3 k x10 (x420001 == 3) x419000 x419001 x419002 x419003 x420000 x420001 x420002 x420003))
def soft_mul.j3 : Nat → Bool → Bool → Bool → Int → Int → Int → Bool → Int → Int → Int → Option (Int × Int)
 | 0, _, _, _, _, _, _, _, _, _, _ => none
 | k + 1, x10, x49, x419000, x419001, x419002, x419003, x420000, x420001, x420002, x420003 => if x49 = true then ((soft_withSign.f x10 9218868437227405312).bind fun t422 => (some (t422, 0))) else ((soft_product.f k x419000 x419001 x419002 x419003 x420000 x420001 x420002 x420003).bind fun bt423 => ((soft_term_rounded.f k bt423.1 bt423.2.1 bt423.2.2).bind fun bt428 => (some (bt428.1, bt428.2))))
end
def soft_mul.f (k : Nat) (a0 : Int) (a1 : Int) (a2 : Int) : Option (Int × Int) := (ieee_Decode.f a0).bind fun bt410 => ((ieee_Decode.f a1).bind fun bt414 => (if bt410.2.1 = 4 then (soft_mul.j0 k (bt410.1 != bt414.1) true bt410.1 bt410.2.1 bt410.2.2.1 bt410.2.2.2 bt414.1 bt414.2.1 bt414.2.2.1 bt414.2.2.2) else (soft_mul.j0 k (bt410.1 != bt414.1) (bt414.2.1 == 4) bt410.1 bt410.2.1 bt410.2.2.1 bt410.2.2.2 bt414.1 bt414.2.1 bt414.2.2.1 bt414.2.2.2)))
theorem soft_mul.mono_l : ∀ k, (∀ y0 y1 y2 y3 y4 y5 y6 y7 y8 y9, LeO (soft_mul.j0 k y0 y1 y2 y3 y4 y5 y6 y7 y8 y9) (soft_mul.j0 (k + 1) y0 y1 y2 y3 y4 y5 y6 y7 y8 y9)) ∧ (∀ y0 y1 y2 y3 y4 y5 y6 y7 y8 y9, LeO (soft_mul.j1 k y0 y1 y2 y3 y4 y5 y6 y7 y8 y9) (soft_mul.j1 (k + 1) y0 y1 y2 y3 y4 y5 y6 y7 y8 y9)) ∧ (∀ y0 y1 y2 y3 y4 y5 y6 y7 y8 y9, LeO (soft_mul.j2 k y0 y1 y2 y3 y4 y5 y6 y7 y8 y9) (soft_mul.j2 (k + 1) y0 y1 y2 y3 y4 y5 y6 y7 y8 y9)) ∧ (∀ y0 y1 y2 y3 y4 y5 y6 y7 y8 y9, LeO (soft_mul.j3 k y0 y1 y2 y3 y4 y5 y6 y7 y8 y9) (soft_mul.j3 (k + 1) y0 y1 y2 y3 y4 y5 y6 y7 y8 y9))
 | 0 => ⟨fun _ _ _ _ _ _ _ _ _ _ r h => by simp [soft_mul.j0] at h, fun _ _ _ _ _ _ _ _ _ _ r h => by simp [soft_mul.j1] at h, fun _ _ _ _ _ _ _ _ _ _ r h => by simp [soft_mul.j2] at h, fun _ _ _ _ _ _ _ _ _ _ r h => by simp [soft_mul.j3] at h⟩
 | k + 1 => by
  obtain ⟨ih0, ih1, ih2, ih3⟩ := soft_mul.mono_l k
  refine ⟨?_, ?_, ?_, ?_⟩
  ·intro y0 y1 y2 y3 y4 y5 y6 y7 y8 y9
   unfold soft_mul.j0
   repeat' first
   | (with_reducible exact ih0 _ _ _ _ _ _ _ _ _ _)
   | (with_reducible exact ih1 _ _ _ _ _ _ _ _ _ _)
   | (with_reducible exact ih2 _ _ _ _ _ _ _ _ _ _)
   | (with_reducible exact ih3 _ _ _ _ _ _ _ _ _ _)
   | (with_reducible exact soft_product.mono _ _ _ _ _ _ _ _ _)
   | (with_reducible exact soft_term_rounded.mono _ _ _ _)
   | (with_reducible exact LeO.refl _)
   | (with_reducible exact LeO.none _)
   | (with_reducible refine LeO.ite ?_ ?_)
   | (with_reducible refine LeO.bind ?_ (fun _ => ?_))
   | exact ih0 _ _ _ _ _ _ _ _ _ _
   | exact ih1 _ _ _ _ _ _ _ _ _ _
   | exact ih2 _ _ _ _ _ _ _ _ _ _
   | exact ih3 _ _ _ _ _ _ _ _ _ _
   | exact soft_product.mono _ _ _ _ _ _ _ _ _
   | exact soft_term_rounded.mono _ _ _ _
   | exact LeO.none _
   | refine LeO.ite ?_ ?_
   | refine LeO.bind ?_ (fun _ => ?_)
  ·intro y0 y1 y2 y3 y4 y5 y6 y7 y8 y9
   unfold soft_mul.j1
   repeat' first
   | (with_reducible exact ih0 _ _ _ _ _ _ _ _ _ _)
   | (with_reducible exact ih1 _ _ _ _ _ _ _ _ _ _)
   | (with_reducible exact ih2 _ _ _ _ _ _ _ _ _ _)
   | (with_reducible exact ih3 _ _ _ _ _ _ _ _ _ _)
   | (with_reducible exact soft_product.mono _ _ _ _ _ _ _ _ _)
   | (with_reducible exact soft_term_rounded.mono _ _ _ _)
   | (with_reducible exact LeO.refl _)
   | (with_reducible exact LeO.none _)
   | (with_reducible refine LeO.ite ?_ ?_)
   | (with_reducible refine LeO.bind ?_ (fun _ => ?_))
   | exact ih0 _ _ _ _ _ _ _ _ _ _
   | exact ih1 _ _ _ _ _ _ _ _ _ _
   | exact ih2 _ _ _ _ _ _ _ _ _ _
   | exact ih3 _ _ _ _ _ _ _ _ _ _
   | exact soft_product.mono _ _ _ _ _ _ _ _ _
   | exact soft_term_rounded.mono _ _ _ _
   | exact LeO.none _
   | refine LeO.ite ?_ ?_
   | refine LeO.bind ?_ (fun _ => ?_)
  ·intro y0 y1 y2 y3 y4 y5 y6 y7 y8 y9
   unfold soft_mul.j2
   repeat' first
   | (with_reducible exact ih0 _ _ _ _ _ _ _ _ _ _)
   | (with_reducible exact ih1 _ _ _ _ _ _ _ _ _ _)
   | (with_reducible exact ih2 _ _ _ _ _ _ _ _ _ _)
   | (with_reducible exact ih3 _ _ _ _ _ _ _ _ _ _)
   | (with_reducible exact soft_product.mono _ _ _ _ _ _ _ _ _)
   | (with_reducible exact soft_term_rounded.mono _ _ _ _)
   | (with_reducible exact LeO.refl _)
   | (with_reducible exact LeO.none _)
   | (with_reducible refine LeO.ite ?_ ?_)
   | (with_reducible refine LeO.bind ?_ (fun _ => ?_))
   | exact ih0 _ _ _ _ _ _ _ _ _ _
   | exact ih1 _ _ _ _ _ _ _ _ _ _
   | exact ih2 _ _ _ _ _ _ _ _ _ _
   | exact ih3 _ _ _ _ _ _ _ _ _ _
   | exact soft_product.mono _ _ _ _ _ _ _ _ _
   | exact soft_term_rounded.mono _ _ _ _
   | exact LeO.none _
   | refine LeO.ite ?_ ?_
   | refine LeO.bind ?_ (fun _ => ?_)
  ·intro y0 y1 y2 y3 y4 y5 y6 y7 y8 y9
   unfold soft_mul.j3
   repeat' first
   | (with_reducible exact ih0 _ _ _ _ _ _ _ _ _ _)
   | (with_reducible exact ih1 _ _ _ _ _ _ _ _ _ _)
   | (with_reducible exact ih2 _ _ _ _ _ _ _ _ _ _)
   | (with_reducible exact ih3 _ _ _ _ _ _ _ _ _ _)
   | (with_reducible exact soft_product.mono _ _ _ _ _ _ _ _ _)
   | (with_reducible exact soft_term_rounded.mono _ _ _ _)
   | (with_reducible exact LeO.refl _)
   | (with_reducible exact LeO.none _)
   | (with_reducible refine LeO.ite ?_ ?_)
   | (with_reducible refine LeO.bind ?_ (fun _ => ?_))
   | exact ih0 _ _ _ _ _ _ _ _ _ _
   | exact ih1 _ _ _ _ _ _ _ _ _ _
   | exact ih2 _ _ _ _ _ _ _ _ _ _
   | exact ih3 _ _ _ _ _ _ _ _ _ _
   | exact soft_product.mono _ _ _ _ _ _ _ _ _
   | exact soft_term_rounded.mono _ _ _ _
   | exact LeO.none _
   | refine LeO.ite ?_ ?_
   | refine LeO.bind ?_ (fun _ => ?_)
theorem soft_mul.mono : ∀ a0 a1 a2 k, LeO (soft_mul.f k a0 a1 a2) (soft_mul.f (k + 1) a0 a1 a2) := by
 intro a0 a1 a2 k
 obtain ⟨ih0, ih1, ih2, ih3⟩ := soft_mul.mono_l k
 unfold soft_mul.f
 repeat' first
   | (with_reducible exact ih0 _ _ _ _ _ _ _ _ _ _)
   | (with_reducible exact ih1 _ _ _ _ _ _ _ _ _ _)
   | (with_reducible exact ih2 _ _ _ _ _ _ _ _ _ _)
   | (with_reducible exact ih3 _ _ _ _ _ _ _ _ _ _)
   | (with_reducible exact soft_product.mono _ _ _ _ _ _ _ _ _)
   | (with_reducible exact soft_term_rounded.mono _ _ _ _)
   | (with_reducible exact LeO.refl _)
   | (with_reducible exact LeO.none _)
   | (with_reducible refine LeO.ite ?_ ?_)
   | (with_reducible refine LeO.bind ?_ (fun _ => ?_))
   | exact ih0 _ _ _ _ _ _ _ _ _ _
   | exact ih1 _ _ _ _ _ _ _ _ _ _
   | exact ih2 _ _ _ _ _ _ _ _ _ _
   | exact ih3 _ _ _ _ _ _ _ _ _ _
   | exact soft_product.mono _ _ _ _ _ _ _ _ _
   | exact soft_term_rounded.mono _ _ _ _
   | exact LeO.none _
   | refine LeO.ite ?_ ?_
   | refine LeO.bind ?_ (fun _ => ?_)
set_option maxHeartbeats 8000000 in
set_option maxRecDepth 100000 in
theorem soft_mul.calls (k : Nat) (a0 : Int) (a1 : Int) (a2 : Int) (r1 : Int) (r2 : Int) (w : World) (hT : Kd.C (Kd.int .u8) w (some ⟨0, 0, none⟩) 64 tabL) (h : soft_mul.f k a0 a1 a2 = some (r1, r2)) :
  Calls Tryd.prog 58 #[.int .u64 a0, .int .u64 a1, .int .u64 a2] w fun e w' => e = .returned (.tuple #[.int .u64 r1, .int .i64 r2]) ∧ Below w.heap.size w w' := by
 have hu39 := Tryd.underlying39
 have HT := Aside0.mk hT
 clear hT
 have HB := Aside0.mk (Below.refl w.heap.size w)
 have H : ((ieee_Decode.f a0).bind fun bt410 => ((ieee_Decode.f a1).bind fun bt414 => (if bt410.2.1 = 4 then (soft_mul.j0 k (bt410.1 != bt414.1) true bt410.1 bt410.2.1 bt410.2.2.1 bt410.2.2.2 bt414.1 bt414.2.1 bt414.2.2.1 bt414.2.2.2) else (soft_mul.j0 k (bt410.1 != bt414.1) (bt414.2.1 == 4) bt410.1 bt410.2.1 bt410.2.2.1 bt410.2.2.2 bt414.1 bt414.2.1 bt414.2.2.1 bt414.2.2.2)))) = some (r1, r2) := h
 clear h
 obtain ⟨⟨t410, t411, t412, t413⟩, A40, H⟩ := Option.bind_eq_some_iff.mp H
 dsimp only at H
 have A4 := Aside0.mk A40
 clear A40
 obtain ⟨⟨t414, t415, t416, t417⟩, A50, H⟩ := Option.bind_eq_some_iff.mp H
 dsimp only at H
 have A5 := Aside0.mk A50
 clear A50
 have HC6 := Aside0.mk H
 clear H
 go_enter Tryd.func58, Tryd.ntmps58
 go_upto_region 3 with (first | ((with_reducible refine gate_callee (f := 29) rfl ?_); refine goesL_ (some 12) rfl rfl Tryd.func29 (by kernel_rfl) rfl #[.int .u64 a0] rfl (by (try simp only [List.map_toArray, List.map_cons, List.map_nil]); first | done | rfl) ?_; (with_reducible refine (ieee_Decode.calls a0 t410 t411 t412 t413 _ A4.out).mono ?_); rintro e w7 ⟨rfl, hb⟩; refine ⟨_, rfl, ?_⟩; replace HB := hB HB hb; (try clear hb); (try clear hb2); (try clear hk); (try clear hi)) | ((with_reducible refine gate_callee (f := 29) rfl ?_); refine goesL_ (some 14) rfl rfl Tryd.func29 (by kernel_rfl) rfl #[.int .u64 a1] rfl (by (try simp only [List.map_toArray, List.map_cons, List.map_nil]); first | done | rfl) ?_; (with_reducible refine (ieee_Decode.calls a1 t414 t415 t416 t417 _ A5.out).mono ?_); rintro e w8 ⟨rfl, hb⟩; refine ⟨_, rfl, ?_⟩; replace HB := hB HB hb; (try clear hb); (try clear hb2); (try clear hk); (try clear hi)) | ((with_reducible refine gate_dst (N := 8) rfl ?_); refine box_event ?hg (N := 8) ?hd (cs := #[.bool false, .int .i64 0, .int .u64 0, .int .i64 0]) (t := 39) ?hr ?_; (case hd => rfl); (case hg => rfl); (case hr => first | (go_simp; done) | (go_simp; rfl)); intro gb418 hg w9 hbox hb; have BK418 := Aside0.mk (hbox); have GW418 := Aside0.mk ((by rw [hg]; exact (below_size (bS HB.out)) : w.heap.size ≤ gb418)); have GE418 := Aside0.mk ((by rw [hg]; exact (below_size (bS HB.out)) : w.heap.size ≤ gb418)); replace HB := hB HB hb; clear hb hbox hg) | ((with_reducible refine gate_dst (N := 9) rfl ?_); refine box_event ?hg (N := 9) ?hd (cs := #[.bool false, .int .i64 0, .int .u64 0, .int .i64 0]) (t := 39) ?hr ?_; (case hd => rfl); (case hg => rfl); (case hr => first | (go_simp; done) | (go_simp; rfl)); intro gb419 hg w10 hbox hb; have BK419 := Aside0.mk (hbox); have GW419 := Aside0.mk ((by rw [hg]; exact (below_size (bG1 HB.out GE418.out)) : w.heap.size ≤ gb419)); have GE419 := Aside0.mk ((by rw [hg]; exact (below_size (bG1 HB.out GE418.out)) : w.heap.size ≤ gb419)); replace HB := Aside0.mk (below_step (bG1 HB.out GE418.out) hb); have NB418_419 := Aside0.mk ((by rw [hg]; exact Nat.ne_of_lt (blk_lt (g := gb418) (o := .cells #[.bool false, .int .i64 0, .int .u64 0, .int .i64 0] 39 (0, 0)) (by exact bkS BK418.out)) : gb418 ≠ gb419)); have NB419_418 := Aside0.mk ((by rw [hg]; exact Nat.ne_of_gt (blk_lt (g := gb418) (o := .cells #[.bool false, .int .i64 0, .int .u64 0, .int .i64 0] 39 (0, 0)) (by exact bkS BK418.out)) : gb419 ≠ gb418)); replace BK418 := bkB BK418 hb; clear hb hbox hg; have hnb11 := NB418_419.out; have hnc11 := NB419_418.out; have hcz12_0 : w10.cell? ⟨gb418, 0, none⟩ = some (.bool false) := (blk_cell BK418.out 0).trans rfl; have hcz12_1 : w10.cell? ⟨gb418, 1, none⟩ = some (.int .i64 0) := (blk_cell BK418.out 1).trans rfl; have hcz12_2 : w10.cell? ⟨gb418, 2, none⟩ = some (.int .u64 0) := (blk_cell BK418.out 2).trans rfl; have hcz12_3 : w10.cell? ⟨gb418, 3, none⟩ = some (.int .i64 0) := (blk_cell BK418.out 3).trans rfl; have hfz12_0 := blk_frozen BK418.out 0; have hfz12_1 := blk_frozen BK418.out 1; have hfz12_2 := blk_frozen BK418.out 2; have hfz12_3 := blk_frozen BK418.out 3; have hcz13_0 : w10.cell? ⟨gb419, 0, none⟩ = some (.bool false) := (blk_cell BK419.out 0).trans rfl; have hcz13_1 : w10.cell? ⟨gb419, 1, none⟩ = some (.int .i64 0) := (blk_cell BK419.out 1).trans rfl; have hcz13_2 : w10.cell? ⟨gb419, 2, none⟩ = some (.int .u64 0) := (blk_cell BK419.out 2).trans rfl; have hcz13_3 : w10.cell? ⟨gb419, 3, none⟩ = some (.int .i64 0) := (blk_cell BK419.out 3).trans rfl; have hfz13_0 := blk_frozen BK419.out 0; have hfz13_1 := blk_frozen BK419.out 1; have hfz13_2 := blk_frozen BK419.out 2; have hfz13_3 := blk_frozen BK419.out 3))
 (try simp only [Act.put, List.setIfInBounds_toArray, List.set_cons_zero, List.set_cons_succ])
 go_cut [20] (fun v20 wc => ∃ (kq : Nat) (x20_5 : Bool), v20 = .bool x20_5 ∧ Aside0 (soft_mul.j0 kq (t410 != t414) x20_5 t410 t411 t412 t413 t414 t415 t416 t417 = some (r1, r2)) ∧ Aside0 (kq ≤ k) ∧ Aside0 (wc.heap[gb418]? = some (.cells #[.bool t410, .int .i64 t411, .int .u64 t412, .int .i64 t413] 39 (0, 0))) ∧ Aside0 (wc.heap[gb419]? = some (.cells #[.bool t414, .int .i64 t415, .int .u64 t416, .int .i64 t417] 39 (0, 0))) ∧ Aside0 (Below w.heap.size w wc))
 case first =>
  have H := HC6.out
  clear HC6
  by_cases c14 : t411 = 4
  ·rw [if_pos c14] at H
   have c14b0 : (t411 == 4) = true := beq_iff_eq.mpr c14
   have c14b1 : (t411 != 4) = false := bne_eq_false_iff_eq.mpr c14
   clear c14
   (first | rw [c14b0] | (simp only [i64_w, i32_w]; rw [c14b0]) | rw [c14b1] | skip)
   have H' := Aside0.mk H
   clear H
   have hnb15 := NB418_419.out
   have hnc15 := NB419_418.out
   have hcz16_0 : w10.cell? ⟨gb418, 0, none⟩ = some (.bool false) := (blk_cell BK418.out 0).trans rfl
   have hcz16_1 : w10.cell? ⟨gb418, 1, none⟩ = some (.int .i64 0) := (blk_cell BK418.out 1).trans rfl
   have hcz16_2 : w10.cell? ⟨gb418, 2, none⟩ = some (.int .u64 0) := (blk_cell BK418.out 2).trans rfl
   have hcz16_3 : w10.cell? ⟨gb418, 3, none⟩ = some (.int .i64 0) := (blk_cell BK418.out 3).trans rfl
   have hfz16_0 := blk_frozen BK418.out 0
   have hfz16_1 := blk_frozen BK418.out 1
   have hfz16_2 := blk_frozen BK418.out 2
   have hfz16_3 := blk_frozen BK418.out 3
   go_wp2
   go_meet
   case rel => exact ⟨_, (true), (by first | rfl | (simp; done) | (simp [*]; done)), H', ⟨by first | omega | exact Nat.le_refl _⟩, ⟨by refine blkF ?_ NB418_419.out _; refine blkF ?_ NB418_419.out _; refine blkF ?_ NB418_419.out _; refine blkF ?_ NB418_419.out _; refine blkP (cs := #[.bool t410, .int .i64 t411, .int .u64 t412, .int .i64 0]) ?_ 3 _ rfl; refine blkP (cs := #[.bool t410, .int .i64 t411, .int .u64 0, .int .i64 0]) ?_ 2 _ rfl; refine blkP (cs := #[.bool t410, .int .i64 0, .int .u64 0, .int .i64 0]) ?_ 1 _ rfl; refine blkP (cs := #[.bool false, .int .i64 0, .int .u64 0, .int .i64 0]) ?_ 0 _ rfl; exact bkS BK418.out⟩, ⟨by refine blkP (cs := #[.bool t414, .int .i64 t415, .int .u64 t416, .int .i64 0]) ?_ 3 _ rfl; refine blkP (cs := #[.bool t414, .int .i64 t415, .int .u64 0, .int .i64 0]) ?_ 2 _ rfl; refine blkP (cs := #[.bool t414, .int .i64 0, .int .u64 0, .int .i64 0]) ?_ 1 _ rfl; refine blkP (cs := #[.bool false, .int .i64 0, .int .u64 0, .int .i64 0]) ?_ 0 _ rfl; refine blkF ?_ NB419_418.out _; refine blkF ?_ NB419_418.out _; refine blkF ?_ NB419_418.out _; refine blkF ?_ NB419_418.out _; exact bkS BK419.out⟩, ⟨bG2 HB.out GE418.out GE419.out⟩⟩
  ·rw [if_neg c14] at H
   have c14b0 : (t411 == 4) = false := beq_eq_false_iff_ne.mpr c14
   have c14b1 : (t411 != 4) = true := bne_iff_ne.mpr c14
   (first | rw [c14b0] | (simp only [i64_w, i32_w]; rw [c14b0]) | rw [c14b1] | skip)
   have H' := Aside0.mk H
   clear H
   have hnb17 := NB418_419.out
   have hnc17 := NB419_418.out
   have hcz18_0 : w10.cell? ⟨gb418, 0, none⟩ = some (.bool false) := (blk_cell BK418.out 0).trans rfl
   have hcz18_1 : w10.cell? ⟨gb418, 1, none⟩ = some (.int .i64 0) := (blk_cell BK418.out 1).trans rfl
   have hcz18_2 : w10.cell? ⟨gb418, 2, none⟩ = some (.int .u64 0) := (blk_cell BK418.out 2).trans rfl
   have hcz18_3 : w10.cell? ⟨gb418, 3, none⟩ = some (.int .i64 0) := (blk_cell BK418.out 3).trans rfl
   have hfz18_0 := blk_frozen BK418.out 0
   have hfz18_1 := blk_frozen BK418.out 1
   have hfz18_2 := blk_frozen BK418.out 2
   have hfz18_3 := blk_frozen BK418.out 3
   have hcz19_0 : w10.cell? ⟨gb419, 0, none⟩ = some (.bool false) := (blk_cell BK419.out 0).trans rfl
   have hcz19_1 : w10.cell? ⟨gb419, 1, none⟩ = some (.int .i64 0) := (blk_cell BK419.out 1).trans rfl
   have hcz19_2 : w10.cell? ⟨gb419, 2, none⟩ = some (.int .u64 0) := (blk_cell BK419.out 2).trans rfl
   have hcz19_3 : w10.cell? ⟨gb419, 3, none⟩ = some (.int .i64 0) := (blk_cell BK419.out 3).trans rfl
   have hfz19_0 := blk_frozen BK419.out 0
   have hfz19_1 := blk_frozen BK419.out 1
   have hfz19_2 := blk_frozen BK419.out 2
   have hfz19_3 := blk_frozen BK419.out 3
   go_wp2
   go_meet
   case rel => exact ⟨_, ((t415 == 4)), (by first | rfl | (simp; done) | (simp [*]; done)), H', ⟨by first | omega | exact Nat.le_refl _⟩, ⟨by refine blkF ?_ NB418_419.out _; refine blkF ?_ NB418_419.out _; refine blkF ?_ NB418_419.out _; refine blkF ?_ NB418_419.out _; refine blkP (cs := #[.bool t410, .int .i64 t411, .int .u64 t412, .int .i64 0]) ?_ 3 _ rfl; refine blkP (cs := #[.bool t410, .int .i64 t411, .int .u64 0, .int .i64 0]) ?_ 2 _ rfl; refine blkP (cs := #[.bool t410, .int .i64 0, .int .u64 0, .int .i64 0]) ?_ 1 _ rfl; refine blkP (cs := #[.bool false, .int .i64 0, .int .u64 0, .int .i64 0]) ?_ 0 _ rfl; exact bkS BK418.out⟩, ⟨by refine blkP (cs := #[.bool t414, .int .i64 t415, .int .u64 t416, .int .i64 0]) ?_ 3 _ rfl; refine blkP (cs := #[.bool t414, .int .i64 t415, .int .u64 0, .int .i64 0]) ?_ 2 _ rfl; refine blkP (cs := #[.bool t414, .int .i64 0, .int .u64 0, .int .i64 0]) ?_ 1 _ rfl; refine blkP (cs := #[.bool false, .int .i64 0, .int .u64 0, .int .i64 0]) ?_ 0 _ rfl; refine blkF ?_ NB419_418.out _; refine blkF ?_ NB419_418.out _; refine blkF ?_ NB419_418.out _; refine blkF ?_ NB419_418.out _; exact bkS BK419.out⟩, ⟨bG2 HB.out GE418.out GE419.out⟩⟩
 case rest =>
  clear HC6
  try clear c1
  try clear c2
  try clear p2
  try clear c5
  try clear c11
  try clear c14
  try clear c14b0
  try clear c14b1
  try clear c15
  try clear c17
  try clear hcz12_0
  try clear hcz12_1
  try clear hcz12_2
  try clear hcz12_3
  try clear hcz13_0
  try clear hcz13_1
  try clear hcz13_2
  try clear hcz13_3
  try clear hcz16_0
  try clear hcz16_1
  try clear hcz16_2
  try clear hcz16_3
  try clear hcz18_0
  try clear hcz18_1
  try clear hcz18_2
  try clear hcz18_3
  try clear hcz19_0
  try clear hcz19_1
  try clear hcz19_2
  try clear hcz19_3
  try clear hfz12_0
  try clear hfz12_1
  try clear hfz12_2
  try clear hfz12_3
  try clear hfz13_0
  try clear hfz13_1
  try clear hfz13_2
  try clear hfz13_3
  try clear hfz16_0
  try clear hfz16_1
  try clear hfz16_2
  try clear hfz16_3
  try clear hfz18_0
  try clear hfz18_1
  try clear hfz18_2
  try clear hfz18_3
  try clear hfz19_0
  try clear hfz19_1
  try clear hfz19_2
  try clear hfz19_3
  obtain ⟨kq, x20_5, rfl, HA, HJ5, BK418, BK419, HB⟩ := hcut
  cases kq with
  | zero => exact absurd HA.out (by simp [soft_mul.j0])
  | succ kj5 =>
   have H := HA.out
   clear HA
   simp only [soft_mul.j0] at H
   by_cases c20 : x20_5 = true
   ·subst c20
    have H1 : (some (9221120237041090560, 0)) = some (r1, r2) := by rw [if_pos rfl] at H; exact H
    clear H
    have H := H1
    clear H1
    simp only [Option.some.injEq, Prod.mk.injEq] at H
    obtain ⟨rfl, rfl⟩ := H
    go_wp2
    go_ret2
    exact ⟨by first | rfl | (simp [errW_none, errW_some] <;> rfl) | (simp [*, errW_none, errW_some] <;> rfl), bG2 HB.out GE418.out GE419.out⟩
   ·replace c20 := Bool.eq_false_iff.mpr c20
    subst c20
    have H1 : (if t411 = 3 then (soft_mul.j1 kj5 (t410 != t414) (t415 == 0) t410 t411 t412 t413 t414 t415 t416 t417) else (soft_mul.j1 kj5 (t410 != t414) false t410 t411 t412 t413 t414 t415 t416 t417)) = some (r1, r2) := by rw [if_neg (show ¬ (false = true) by decide)] at H; exact H
    clear H
    have H := H1
    clear H1
    have HC21 := Aside0.mk H
    clear H
    go_upto_region 5 with (fail)
    go_cut [29] (fun v29 wc => ∃ (kq : Nat) (x29_20 : Bool), v29 = .bool x29_20 ∧ Aside0 (soft_mul.j1 kq (t410 != t414) x29_20 t410 t411 t412 t413 t414 t415 t416 t417 = some (r1, r2)) ∧ Aside0 (kq ≤ kj5) ∧ Aside0 (wc.heap[gb418]? = some (.cells #[.bool t410, .int .i64 t411, .int .u64 t412, .int .i64 t413] 39 (0, 0))) ∧ Aside0 (wc.heap[gb419]? = some (.cells #[.bool t414, .int .i64 t415, .int .u64 t416, .int .i64 t417] 39 (0, 0))) ∧ Aside0 (Below w.heap.size w wc))
    case first =>
     have H := HC21.out
     clear HC21
     by_cases c22 : t411 = 3
     ·rw [if_pos c22] at H
      have c22b0 : (t411 == 3) = true := beq_iff_eq.mpr c22
      have c22b1 : (t411 != 3) = false := bne_eq_false_iff_eq.mpr c22
      clear c22
      (first | rw [c22b0] | (simp only [i64_w, i32_w]; rw [c22b0]) | rw [c22b1] | skip)
      have H' := Aside0.mk H
      clear H
      have hnb23 := NB418_419.out
      have hnc23 := NB419_418.out
      have hcz24_0 : wc.cell? ⟨gb418, 0, none⟩ = some (.bool t410) := (blk_cell BK418.out 0).trans rfl
      have hcz24_1 : wc.cell? ⟨gb418, 1, none⟩ = some (.int .i64 t411) := (blk_cell BK418.out 1).trans rfl
      have hcz24_2 : wc.cell? ⟨gb418, 2, none⟩ = some (.int .u64 t412) := (blk_cell BK418.out 2).trans rfl
      have hcz24_3 : wc.cell? ⟨gb418, 3, none⟩ = some (.int .i64 t413) := (blk_cell BK418.out 3).trans rfl
      have hfz24_0 := blk_frozen BK418.out 0
      have hfz24_1 := blk_frozen BK418.out 1
      have hfz24_2 := blk_frozen BK418.out 2
      have hfz24_3 := blk_frozen BK418.out 3
      have hcz25_0 : wc.cell? ⟨gb419, 0, none⟩ = some (.bool t414) := (blk_cell BK419.out 0).trans rfl
      have hcz25_1 : wc.cell? ⟨gb419, 1, none⟩ = some (.int .i64 t415) := (blk_cell BK419.out 1).trans rfl
      have hcz25_2 : wc.cell? ⟨gb419, 2, none⟩ = some (.int .u64 t416) := (blk_cell BK419.out 2).trans rfl
      have hcz25_3 : wc.cell? ⟨gb419, 3, none⟩ = some (.int .i64 t417) := (blk_cell BK419.out 3).trans rfl
      have hfz25_0 := blk_frozen BK419.out 0
      have hfz25_1 := blk_frozen BK419.out 1
      have hfz25_2 := blk_frozen BK419.out 2
      have hfz25_3 := blk_frozen BK419.out 3
      go_wp2
      go_meet
      case rel => exact ⟨_, ((t415 == 0)), (by first | rfl | (simp; done) | (simp [*]; done)), H', ⟨by have := HJ5.out; first | omega | exact Nat.le_refl _⟩, ⟨by exact bkS BK418.out⟩, ⟨by exact bkS BK419.out⟩, ⟨bG2 HB.out GE418.out GE419.out⟩⟩
     ·rw [if_neg c22] at H
      have c22b0 : (t411 == 3) = false := beq_eq_false_iff_ne.mpr c22
      have c22b1 : (t411 != 3) = true := bne_iff_ne.mpr c22
      (first | rw [c22b0] | (simp only [i64_w, i32_w]; rw [c22b0]) | rw [c22b1] | skip)
      have H' := Aside0.mk H
      clear H
      have hnb26 := NB418_419.out
      have hnc26 := NB419_418.out
      have hcz27_0 : wc.cell? ⟨gb418, 0, none⟩ = some (.bool t410) := (blk_cell BK418.out 0).trans rfl
      have hcz27_1 : wc.cell? ⟨gb418, 1, none⟩ = some (.int .i64 t411) := (blk_cell BK418.out 1).trans rfl
      have hcz27_2 : wc.cell? ⟨gb418, 2, none⟩ = some (.int .u64 t412) := (blk_cell BK418.out 2).trans rfl
      have hcz27_3 : wc.cell? ⟨gb418, 3, none⟩ = some (.int .i64 t413) := (blk_cell BK418.out 3).trans rfl
      have hfz27_0 := blk_frozen BK418.out 0
      have hfz27_1 := blk_frozen BK418.out 1
      have hfz27_2 := blk_frozen BK418.out 2
      have hfz27_3 := blk_frozen BK418.out 3
      go_wp2
      go_meet
      case rel => exact ⟨_, (false), (by first | rfl | (simp; done) | (simp [*]; done)), H', ⟨by have := HJ5.out; first | omega | exact Nat.le_refl _⟩, ⟨by exact bkS BK418.out⟩, ⟨by exact bkS BK419.out⟩, ⟨bG2 HB.out GE418.out GE419.out⟩⟩
    case rest =>
     clear HC21
     try clear c1
     try clear c2
     try clear p2
     try clear c5
     try clear c11
     try clear c14
     try clear c14b0
     try clear c14b1
     try clear c15
     try clear c17
     try clear c20
     try clear c22
     try clear c22b0
     try clear c22b1
     try clear c23
     try clear c26
     try clear hcz12_0
     try clear hcz12_1
     try clear hcz12_2
     try clear hcz12_3
     try clear hcz13_0
     try clear hcz13_1
     try clear hcz13_2
     try clear hcz13_3
     try clear hcz16_0
     try clear hcz16_1
     try clear hcz16_2
     try clear hcz16_3
     try clear hcz18_0
     try clear hcz18_1
     try clear hcz18_2
     try clear hcz18_3
     try clear hcz19_0
     try clear hcz19_1
     try clear hcz19_2
     try clear hcz19_3
     try clear hcz24_0
     try clear hcz24_1
     try clear hcz24_2
     try clear hcz24_3
     try clear hcz25_0
     try clear hcz25_1
     try clear hcz25_2
     try clear hcz25_3
     try clear hcz27_0
     try clear hcz27_1
     try clear hcz27_2
     try clear hcz27_3
     try clear hfz12_0
     try clear hfz12_1
     try clear hfz12_2
     try clear hfz12_3
     try clear hfz13_0
     try clear hfz13_1
     try clear hfz13_2
     try clear hfz13_3
     try clear hfz16_0
     try clear hfz16_1
     try clear hfz16_2
     try clear hfz16_3
     try clear hfz18_0
     try clear hfz18_1
     try clear hfz18_2
     try clear hfz18_3
     try clear hfz19_0
     try clear hfz19_1
     try clear hfz19_2
     try clear hfz19_3
     try clear hfz24_0
     try clear hfz24_1
     try clear hfz24_2
     try clear hfz24_3
     try clear hfz25_0
     try clear hfz25_1
     try clear hfz25_2
     try clear hfz25_3
     try clear hfz27_0
     try clear hfz27_1
     try clear hfz27_2
     try clear hfz27_3
     try clear p2
     obtain ⟨kq, x29_20, rfl, HA, HJ20, BK418, BK419, HB⟩ := hcut
     cases kq with
     | zero => exact absurd HA.out (by simp [soft_mul.j1])
     | succ kj20 =>
      have H := HA.out
      clear HA
      simp only [soft_mul.j1] at H
      have HC28 := Aside0.mk H
      clear H
      go_upto_if 29 with (fail)
      go_cut [29] (fun v29 wc => ∃ (kq : Nat) (x29_27 : Bool), v29 = .bool x29_27 ∧ Aside0 (soft_mul.j2 kq (t410 != t414) x29_27 t410 t411 t412 t413 t414 t415 t416 t417 = some (r1, r2)) ∧ Aside0 (kq ≤ kj20) ∧ Aside0 (wc.heap[gb418]? = some (.cells #[.bool t410, .int .i64 t411, .int .u64 t412, .int .i64 t413] 39 (0, 0))) ∧ Aside0 (wc.heap[gb419]? = some (.cells #[.bool t414, .int .i64 t415, .int .u64 t416, .int .i64 t417] 39 (0, 0))) ∧ Aside0 (Below w.heap.size w wc))
      case first =>
       have H := HC28.out
       clear HC28
       by_cases c29 : x29_20 = true
       ·subst c29
        have H1 : (soft_mul.j2 kj20 (t410 != t414) true t410 t411 t412 t413 t414 t415 t416 t417) = some (r1, r2) := by rw [if_pos rfl] at H; exact H
        clear H
        have H := H1
        clear H1
        have H' := Aside0.mk H
        clear H
        go_wp2
        go_meet
        case rel => exact ⟨_, (true), (by first | rfl | (simp; done) | (simp [*]; done)), H', ⟨by have := HJ5.out; have := HJ20.out; first | omega | exact Nat.le_refl _⟩, ⟨by exact bkS BK418.out⟩, ⟨by exact bkS BK419.out⟩, ⟨bG2 HB.out GE418.out GE419.out⟩⟩
       ·replace c29 := Bool.eq_false_iff.mpr c29
        subst c29
        have H1 : (if t411 = 0 then (soft_mul.j2 kj20 (t410 != t414) (t415 == 3) t410 t411 t412 t413 t414 t415 t416 t417) else (soft_mul.j2 kj20 (t410 != t414) false t410 t411 t412 t413 t414 t415 t416 t417)) = some (r1, r2) := by rw [if_neg (show ¬ (false = true) by decide)] at H; exact H
        clear H
        have H := H1
        clear H1
        by_cases c30 : t411 = 0
        ·rw [if_pos c30] at H
         have c30b0 : (t411 == 0) = true := beq_iff_eq.mpr c30
         have c30b1 : (t411 != 0) = false := bne_eq_false_iff_eq.mpr c30
         clear c30
         (first | rw [c30b0] | (simp only [i64_w, i32_w]; rw [c30b0]) | rw [c30b1] | skip)
         have H' := Aside0.mk H
         clear H
         have hnb31 := NB418_419.out
         have hnc31 := NB419_418.out
         have hcz32_0 : wc.cell? ⟨gb418, 0, none⟩ = some (.bool t410) := (blk_cell BK418.out 0).trans rfl
         have hcz32_1 : wc.cell? ⟨gb418, 1, none⟩ = some (.int .i64 t411) := (blk_cell BK418.out 1).trans rfl
         have hcz32_2 : wc.cell? ⟨gb418, 2, none⟩ = some (.int .u64 t412) := (blk_cell BK418.out 2).trans rfl
         have hcz32_3 : wc.cell? ⟨gb418, 3, none⟩ = some (.int .i64 t413) := (blk_cell BK418.out 3).trans rfl
         have hfz32_0 := blk_frozen BK418.out 0
         have hfz32_1 := blk_frozen BK418.out 1
         have hfz32_2 := blk_frozen BK418.out 2
         have hfz32_3 := blk_frozen BK418.out 3
         have hcz33_0 : wc.cell? ⟨gb419, 0, none⟩ = some (.bool t414) := (blk_cell BK419.out 0).trans rfl
         have hcz33_1 : wc.cell? ⟨gb419, 1, none⟩ = some (.int .i64 t415) := (blk_cell BK419.out 1).trans rfl
         have hcz33_2 : wc.cell? ⟨gb419, 2, none⟩ = some (.int .u64 t416) := (blk_cell BK419.out 2).trans rfl
         have hcz33_3 : wc.cell? ⟨gb419, 3, none⟩ = some (.int .i64 t417) := (blk_cell BK419.out 3).trans rfl
         have hfz33_0 := blk_frozen BK419.out 0
         have hfz33_1 := blk_frozen BK419.out 1
         have hfz33_2 := blk_frozen BK419.out 2
         have hfz33_3 := blk_frozen BK419.out 3
         go_wp2
         go_meet
         case rel => exact ⟨_, ((t415 == 3)), (by first | rfl | (simp; done) | (simp [*]; done)), H', ⟨by have := HJ5.out; have := HJ20.out; first | omega | exact Nat.le_refl _⟩, ⟨by exact bkS BK418.out⟩, ⟨by exact bkS BK419.out⟩, ⟨bG2 HB.out GE418.out GE419.out⟩⟩
        ·rw [if_neg c30] at H
         have c30b0 : (t411 == 0) = false := beq_eq_false_iff_ne.mpr c30
         have c30b1 : (t411 != 0) = true := bne_iff_ne.mpr c30
         (first | rw [c30b0] | (simp only [i64_w, i32_w]; rw [c30b0]) | rw [c30b1] | skip)
         have H' := Aside0.mk H
         clear H
         have hnb34 := NB418_419.out
         have hnc34 := NB419_418.out
         have hcz35_0 : wc.cell? ⟨gb418, 0, none⟩ = some (.bool t410) := (blk_cell BK418.out 0).trans rfl
         have hcz35_1 : wc.cell? ⟨gb418, 1, none⟩ = some (.int .i64 t411) := (blk_cell BK418.out 1).trans rfl
         have hcz35_2 : wc.cell? ⟨gb418, 2, none⟩ = some (.int .u64 t412) := (blk_cell BK418.out 2).trans rfl
         have hcz35_3 : wc.cell? ⟨gb418, 3, none⟩ = some (.int .i64 t413) := (blk_cell BK418.out 3).trans rfl
         have hfz35_0 := blk_frozen BK418.out 0
         have hfz35_1 := blk_frozen BK418.out 1
         have hfz35_2 := blk_frozen BK418.out 2
         have hfz35_3 := blk_frozen BK418.out 3
         go_wp2
         go_meet
         case rel => exact ⟨_, (false), (by first | rfl | (simp; done) | (simp [*]; done)), H', ⟨by have := HJ5.out; have := HJ20.out; first | omega | exact Nat.le_refl _⟩, ⟨by exact bkS BK418.out⟩, ⟨by exact bkS BK419.out⟩, ⟨bG2 HB.out GE418.out GE419.out⟩⟩
      case rest =>
       clear HC28
       try clear c1
       try clear c2
       try clear p2
       try clear c3
       try clear c5
       try clear c11
       try clear c14
       try clear c14b0
       try clear c14b1
       try clear c15
       try clear c17
       try clear c20
       try clear c22
       try clear c22b0
       try clear c22b1
       try clear c23
       try clear c26
       try clear c29
       try clear c30
       try clear c30b0
       try clear c30b1
       try clear c31
       try clear c34
       try clear hcz12_0
       try clear hcz12_1
       try clear hcz12_2
       try clear hcz12_3
       try clear hcz13_0
       try clear hcz13_1
       try clear hcz13_2
       try clear hcz13_3
       try clear hcz16_0
       try clear hcz16_1
       try clear hcz16_2
       try clear hcz16_3
       try clear hcz18_0
       try clear hcz18_1
       try clear hcz18_2
       try clear hcz18_3
       try clear hcz19_0
       try clear hcz19_1
       try clear hcz19_2
       try clear hcz19_3
       try clear hcz24_0
       try clear hcz24_1
       try clear hcz24_2
       try clear hcz24_3
       try clear hcz25_0
       try clear hcz25_1
       try clear hcz25_2
       try clear hcz25_3
       try clear hcz27_0
       try clear hcz27_1
       try clear hcz27_2
       try clear hcz27_3
       try clear hcz32_0
       try clear hcz32_1
       try clear hcz32_2
       try clear hcz32_3
       try clear hcz33_0
       try clear hcz33_1
       try clear hcz33_2
       try clear hcz33_3
       try clear hcz35_0
       try clear hcz35_1
       try clear hcz35_2
       try clear hcz35_3
       try clear hfz12_0
       try clear hfz12_1
       try clear hfz12_2
       try clear hfz12_3
       try clear hfz13_0
       try clear hfz13_1
       try clear hfz13_2
       try clear hfz13_3
       try clear hfz16_0
       try clear hfz16_1
       try clear hfz16_2
       try clear hfz16_3
       try clear hfz18_0
       try clear hfz18_1
       try clear hfz18_2
       try clear hfz18_3
       try clear hfz19_0
       try clear hfz19_1
       try clear hfz19_2
       try clear hfz19_3
       try clear hfz24_0
       try clear hfz24_1
       try clear hfz24_2
       try clear hfz24_3
       try clear hfz25_0
       try clear hfz25_1
       try clear hfz25_2
       try clear hfz25_3
       try clear hfz27_0
       try clear hfz27_1
       try clear hfz27_2
       try clear hfz27_3
       try clear hfz32_0
       try clear hfz32_1
       try clear hfz32_2
       try clear hfz32_3
       try clear hfz33_0
       try clear hfz33_1
       try clear hfz33_2
       try clear hfz33_3
       try clear hfz35_0
       try clear hfz35_1
       try clear hfz35_2
       try clear hfz35_3
       try clear p2
       obtain ⟨kq, x29_27, rfl, HA, HJ27, BK418, BK419, HB⟩ := hcut
       cases kq with
       | zero => exact absurd HA.out (by simp [soft_mul.j2])
       | succ kj27 =>
        have H := HA.out
        clear HA
        simp only [soft_mul.j2] at H
        by_cases c36 : x29_27 = true
        ·subst c36
         have H1 : ((soft_invalid.f).bind fun bt420 => (some (bt420.1, bt420.2))) = some (r1, r2) := by rw [if_pos rfl] at H; exact H
         clear H
         have H := H1
         clear H1
         obtain ⟨⟨t420, t421⟩, A370, H⟩ := Option.bind_eq_some_iff.mp H
         dsimp only at H
         have A37 := Aside0.mk A370
         clear A370
         simp only [Option.some.injEq, Prod.mk.injEq] at H
         obtain ⟨rfl, rfl⟩ := H
         go_wp2_with (first | ((with_reducible refine gate_callee (f := 86) rfl ?_); refine goesL_ (some 46) rfl rfl Tryd.func86 (by kernel_rfl) rfl #[] rfl (by (try simp only [List.map_toArray, List.map_cons, List.map_nil]); first | done | rfl) ?_; (with_reducible refine (soft_invalid.calls  t420 t421 _ A37.out).mono ?_); rintro e w' ⟨rfl, ⟨nd, rfl⟩⟩; refine ⟨_, rfl, ?_⟩))
         go_ret2
         exact ⟨by first | rfl | (simp [errW_none, errW_some] <;> rfl) | (simp [*, errW_none, errW_some] <;> rfl), bG2 HB.out GE418.out GE419.out⟩
        ·replace c36 := Bool.eq_false_iff.mpr c36
         subst c36
         have H1 : (if t411 = 3 then (soft_mul.j3 kj27 (t410 != t414) true t410 t411 t412 t413 t414 t415 t416 t417) else (soft_mul.j3 kj27 (t410 != t414) (t415 == 3) t410 t411 t412 t413 t414 t415 t416 t417)) = some (r1, r2) := by rw [if_neg (show ¬ (false = true) by decide)] at H; exact H
         clear H
         have H := H1
         clear H1
         have HC38 := Aside0.mk H
         clear H
         go_upto_region 8 with (fail)
         go_cut [49] (fun v49 wc => ∃ (kq : Nat) (x49_37 : Bool), v49 = .bool x49_37 ∧ Aside0 (soft_mul.j3 kq (t410 != t414) x49_37 t410 t411 t412 t413 t414 t415 t416 t417 = some (r1, r2)) ∧ Aside0 (kq ≤ kj27) ∧ Aside0 (wc.heap[gb418]? = some (.cells #[.bool t410, .int .i64 t411, .int .u64 t412, .int .i64 t413] 39 (0, 0))) ∧ Aside0 (wc.heap[gb419]? = some (.cells #[.bool t414, .int .i64 t415, .int .u64 t416, .int .i64 t417] 39 (0, 0))) ∧ Aside0 (Below w.heap.size w wc))
         case first =>
          have H := HC38.out
          clear HC38
          by_cases c39 : t411 = 3
          ·rw [if_pos c39] at H
           have c39b0 : (t411 == 3) = true := beq_iff_eq.mpr c39
           have c39b1 : (t411 != 3) = false := bne_eq_false_iff_eq.mpr c39
           clear c39
           (first | rw [c39b0] | (simp only [i64_w, i32_w]; rw [c39b0]) | rw [c39b1] | skip)
           have H' := Aside0.mk H
           clear H
           have hnb40 := NB418_419.out
           have hnc40 := NB419_418.out
           have hcz41_0 : wc.cell? ⟨gb418, 0, none⟩ = some (.bool t410) := (blk_cell BK418.out 0).trans rfl
           have hcz41_1 : wc.cell? ⟨gb418, 1, none⟩ = some (.int .i64 t411) := (blk_cell BK418.out 1).trans rfl
           have hcz41_2 : wc.cell? ⟨gb418, 2, none⟩ = some (.int .u64 t412) := (blk_cell BK418.out 2).trans rfl
           have hcz41_3 : wc.cell? ⟨gb418, 3, none⟩ = some (.int .i64 t413) := (blk_cell BK418.out 3).trans rfl
           have hfz41_0 := blk_frozen BK418.out 0
           have hfz41_1 := blk_frozen BK418.out 1
           have hfz41_2 := blk_frozen BK418.out 2
           have hfz41_3 := blk_frozen BK418.out 3
           go_wp2
           go_meet
           case rel => exact ⟨_, (true), (by first | rfl | (simp; done) | (simp [*]; done)), H', ⟨by have := HJ5.out; have := HJ20.out; have := HJ27.out; first | omega | exact Nat.le_refl _⟩, ⟨by exact bkS BK418.out⟩, ⟨by exact bkS BK419.out⟩, ⟨bG2 HB.out GE418.out GE419.out⟩⟩
          ·rw [if_neg c39] at H
           have c39b0 : (t411 == 3) = false := beq_eq_false_iff_ne.mpr c39
           have c39b1 : (t411 != 3) = true := bne_iff_ne.mpr c39
           (first | rw [c39b0] | (simp only [i64_w, i32_w]; rw [c39b0]) | rw [c39b1] | skip)
           have H' := Aside0.mk H
           clear H
           have hnb42 := NB418_419.out
           have hnc42 := NB419_418.out
           have hcz43_0 : wc.cell? ⟨gb418, 0, none⟩ = some (.bool t410) := (blk_cell BK418.out 0).trans rfl
           have hcz43_1 : wc.cell? ⟨gb418, 1, none⟩ = some (.int .i64 t411) := (blk_cell BK418.out 1).trans rfl
           have hcz43_2 : wc.cell? ⟨gb418, 2, none⟩ = some (.int .u64 t412) := (blk_cell BK418.out 2).trans rfl
           have hcz43_3 : wc.cell? ⟨gb418, 3, none⟩ = some (.int .i64 t413) := (blk_cell BK418.out 3).trans rfl
           have hfz43_0 := blk_frozen BK418.out 0
           have hfz43_1 := blk_frozen BK418.out 1
           have hfz43_2 := blk_frozen BK418.out 2
           have hfz43_3 := blk_frozen BK418.out 3
           have hcz44_0 : wc.cell? ⟨gb419, 0, none⟩ = some (.bool t414) := (blk_cell BK419.out 0).trans rfl
           have hcz44_1 : wc.cell? ⟨gb419, 1, none⟩ = some (.int .i64 t415) := (blk_cell BK419.out 1).trans rfl
           have hcz44_2 : wc.cell? ⟨gb419, 2, none⟩ = some (.int .u64 t416) := (blk_cell BK419.out 2).trans rfl
           have hcz44_3 : wc.cell? ⟨gb419, 3, none⟩ = some (.int .i64 t417) := (blk_cell BK419.out 3).trans rfl
           have hfz44_0 := blk_frozen BK419.out 0
           have hfz44_1 := blk_frozen BK419.out 1
           have hfz44_2 := blk_frozen BK419.out 2
           have hfz44_3 := blk_frozen BK419.out 3
           go_wp2
           go_meet
           case rel => exact ⟨_, ((t415 == 3)), (by first | rfl | (simp; done) | (simp [*]; done)), H', ⟨by have := HJ5.out; have := HJ20.out; have := HJ27.out; first | omega | exact Nat.le_refl _⟩, ⟨by exact bkS BK418.out⟩, ⟨by exact bkS BK419.out⟩, ⟨bG2 HB.out GE418.out GE419.out⟩⟩
         case rest =>
          clear HC38
          try clear c1
          try clear c2
          try clear p2
          try clear c3
          try clear c4
          try clear c5
          try clear c8
          try clear c11
          try clear c14
          try clear c14b0
          try clear c14b1
          try clear c15
          try clear c17
          try clear c20
          try clear c22
          try clear c22b0
          try clear c22b1
          try clear c23
          try clear c26
          try clear c29
          try clear c30
          try clear c30b0
          try clear c30b1
          try clear c31
          try clear c34
          try clear c36
          try clear c39
          try clear c39b0
          try clear c39b1
          try clear c40
          try clear c42
          try clear hcz12_0
          try clear hcz12_1
          try clear hcz12_2
          try clear hcz12_3
          try clear hcz13_0
          try clear hcz13_1
          try clear hcz13_2
          try clear hcz13_3
          try clear hcz16_0
          try clear hcz16_1
          try clear hcz16_2
          try clear hcz16_3
          try clear hcz18_0
          try clear hcz18_1
          try clear hcz18_2
          try clear hcz18_3
          try clear hcz19_0
          try clear hcz19_1
          try clear hcz19_2
          try clear hcz19_3
          try clear hcz24_0
          try clear hcz24_1
          try clear hcz24_2
          try clear hcz24_3
          try clear hcz25_0
          try clear hcz25_1
          try clear hcz25_2
          try clear hcz25_3
          try clear hcz27_0
          try clear hcz27_1
          try clear hcz27_2
          try clear hcz27_3
          try clear hcz32_0
          try clear hcz32_1
          try clear hcz32_2
          try clear hcz32_3
          try clear hcz33_0
          try clear hcz33_1
          try clear hcz33_2
          try clear hcz33_3
          try clear hcz35_0
          try clear hcz35_1
          try clear hcz35_2
          try clear hcz35_3
          try clear hcz41_0
          try clear hcz41_1
          try clear hcz41_2
          try clear hcz41_3
          try clear hcz43_0
          try clear hcz43_1
          try clear hcz43_2
          try clear hcz43_3
          try clear hcz44_0
          try clear hcz44_1
          try clear hcz44_2
          try clear hcz44_3
          try clear hfz12_0
          try clear hfz12_1
          try clear hfz12_2
          try clear hfz12_3
          try clear hfz13_0
          try clear hfz13_1
          try clear hfz13_2
          try clear hfz13_3
          try clear hfz16_0
          try clear hfz16_1
          try clear hfz16_2
          try clear hfz16_3
          try clear hfz18_0
          try clear hfz18_1
          try clear hfz18_2
          try clear hfz18_3
          try clear hfz19_0
          try clear hfz19_1
          try clear hfz19_2
          try clear hfz19_3
          try clear hfz24_0
          try clear hfz24_1
          try clear hfz24_2
          try clear hfz24_3
          try clear hfz25_0
          try clear hfz25_1
          try clear hfz25_2
          try clear hfz25_3
          try clear hfz27_0
          try clear hfz27_1
          try clear hfz27_2
          try clear hfz27_3
          try clear hfz32_0
          try clear hfz32_1
          try clear hfz32_2
          try clear hfz32_3
          try clear hfz33_0
          try clear hfz33_1
          try clear hfz33_2
          try clear hfz33_3
          try clear hfz35_0
          try clear hfz35_1
          try clear hfz35_2
          try clear hfz35_3
          try clear hfz41_0
          try clear hfz41_1
          try clear hfz41_2
          try clear hfz41_3
          try clear hfz43_0
          try clear hfz43_1
          try clear hfz43_2
          try clear hfz43_3
          try clear hfz44_0
          try clear hfz44_1
          try clear hfz44_2
          try clear hfz44_3
          try clear p2
          obtain ⟨kq, x49_37, rfl, HA, HJ37, BK418, BK419, HB⟩ := hcut
          cases kq with
          | zero => exact absurd HA.out (by simp [soft_mul.j3])
          | succ kj37 =>
           have H := HA.out
           clear HA
           simp only [soft_mul.j3] at H
           by_cases c45 : x49_37 = true
           ·subst c45
            have H1 : ((soft_withSign.f (t410 != t414) 9218868437227405312).bind fun t422 => (some (t422, 0))) = some (r1, r2) := by rw [if_pos rfl] at H; exact H
            clear H
            have H := H1
            clear H1
            obtain ⟨t422, A460, H⟩ := Option.bind_eq_some_iff.mp H
            have A46 := Aside0.mk A460
            clear A460
            simp only [Option.some.injEq, Prod.mk.injEq] at H
            obtain ⟨rfl, rfl⟩ := H
            go_wp2_with (first | ((with_reducible refine gate_callee (f := 90) rfl ?_); refine goesL_ (some 59) rfl rfl Tryd.func90 (by kernel_rfl) rfl #[.bool (t410 != t414), .int .u64 9218868437227405312] rfl (by (try simp only [List.map_toArray, List.map_cons, List.map_nil]); first | done | rfl) ?_; (with_reducible refine (soft_withSign.calls (t410 != t414) 9218868437227405312 t422 _ A46.out).mono ?_); rintro e w' ⟨rfl, ⟨nd, rfl⟩⟩; refine ⟨_, rfl, ?_⟩))
            go_ret2
            exact ⟨by first | rfl | (simp [errW_none, errW_some] <;> rfl) | (simp [*, errW_none, errW_some] <;> rfl), bG2 HB.out GE418.out GE419.out⟩
           ·replace c45 := Bool.eq_false_iff.mpr c45
            subst c45
            have H1 : ((soft_product.f kj37 t410 t411 t412 t413 t414 t415 t416 t417).bind fun bt423 => ((soft_term_rounded.f kj37 bt423.1 bt423.2.1 bt423.2.2).bind fun bt428 => (some (bt428.1, bt428.2)))) = some (r1, r2) := by rw [if_neg (show ¬ (false = true) by decide)] at H; exact H
            clear H
            have H := H1
            clear H1
            obtain ⟨⟨t423, t424, t427⟩, A470, H⟩ := Option.bind_eq_some_iff.mp H
            dsimp only at H
            have A47 := Aside0.mk A470
            clear A470
            obtain ⟨⟨t428, t429⟩, A480, H⟩ := Option.bind_eq_some_iff.mp H
            dsimp only at H
            have A48 := Aside0.mk A480
            clear A480
            simp only [Option.some.injEq, Prod.mk.injEq] at H
            obtain ⟨rfl, rfl⟩ := H
            have hnb49 := NB418_419.out
            have hnc49 := NB419_418.out
            have hcz50_0 : wc.cell? ⟨gb418, 0, none⟩ = some (.bool t410) := (blk_cell BK418.out 0).trans rfl
            have hcz50_1 : wc.cell? ⟨gb418, 1, none⟩ = some (.int .i64 t411) := (blk_cell BK418.out 1).trans rfl
            have hcz50_2 : wc.cell? ⟨gb418, 2, none⟩ = some (.int .u64 t412) := (blk_cell BK418.out 2).trans rfl
            have hcz50_3 : wc.cell? ⟨gb418, 3, none⟩ = some (.int .i64 t413) := (blk_cell BK418.out 3).trans rfl
            have hfz50_0 := blk_frozen BK418.out 0
            have hfz50_1 := blk_frozen BK418.out 1
            have hfz50_2 := blk_frozen BK418.out 2
            have hfz50_3 := blk_frozen BK418.out 3
            have hcz51_0 : wc.cell? ⟨gb419, 0, none⟩ = some (.bool t414) := (blk_cell BK419.out 0).trans rfl
            have hcz51_1 : wc.cell? ⟨gb419, 1, none⟩ = some (.int .i64 t415) := (blk_cell BK419.out 1).trans rfl
            have hcz51_2 : wc.cell? ⟨gb419, 2, none⟩ = some (.int .u64 t416) := (blk_cell BK419.out 2).trans rfl
            have hcz51_3 : wc.cell? ⟨gb419, 3, none⟩ = some (.int .i64 t417) := (blk_cell BK419.out 3).trans rfl
            have hfz51_0 := blk_frozen BK419.out 0
            have hfz51_1 := blk_frozen BK419.out 1
            have hfz51_2 := blk_frozen BK419.out 2
            have hfz51_3 := blk_frozen BK419.out 3
            go_wp2_with (first | ((with_reducible refine gate_callee (f := 91) rfl ?_); refine goesL_ (some 62) rfl rfl Tryd.func91 (by kernel_rfl) rfl #[.agg #[.bool t410, .int .i64 t411, .int .u64 t412, .int .i64 t413], .agg #[.bool t414, .int .i64 t415, .int .u64 t416, .int .i64 t417]] rfl (by (try simp only [List.map_toArray, List.map_cons, List.map_nil]); first | done | rfl) ?_; (with_reducible refine (soft_product.calls kj37 t410 t411 t412 t413 t414 t415 t416 t417 t423 t424 t427 _ A47.out).mono ?_); rintro e w52 ⟨v425, rfl, ho0, hb⟩; refine ⟨_, rfl, ?_⟩; have HO426 := Aside0.mk (Kd.V_lower (Kd.V_mono (ok' := fun k_ => k_ ≠ gb418 ∧ k_ ≠ gb419) ho0 (fun k_ hk_ => ⟨(Kd.freshB (g := gb418) (o := .cells #[.bool t410, .int .i64 t411, .int .u64 t412, .int .i64 t413] 39 (0, 0)) (by exact bkS BK418.out) k_ hk_), (Kd.freshB (g := gb419) (o := .cells #[.bool t414, .int .i64 t415, .int .u64 t416, .int .i64 t417] 39 (0, 0)) (by exact bkS BK419.out) k_ hk_)⟩)) (below_size (bG2 HB.out GE418.out GE419.out))); replace BK418 := bkB BK418 hb; replace BK419 := bkB BK419 hb; replace HB := Aside0.mk (below_step (bG2 HB.out GE418.out GE419.out) hb); (try clear hb); (try clear hb2); (try clear hk); (try clear hi); (try clear ho0); obtain ⟨Ao53, co53, eo53⟩ := Kd.V_slice HO426.out; subst eo53) | ((with_reducible refine gate_callee (f := 89) rfl ?_); refine goesL_ (some 63) rfl rfl Tryd.func89 (by kernel_rfl) rfl #[.agg #[.bool t423, .slice Ao53 t424.length co53, .int .i64 t427]] rfl (by (try simp only [List.map_toArray, List.map_cons, List.map_nil]); first | done | rfl) ?_; (with_reducible refine (soft_term_rounded.calls kj37 t423 _ _ t424 t427 t428 t429 _ ?side3 ?side1 ?side2 A48.out).mono ?_); (case side1 => exact cS (Kd.V_reads' HO426.out).2.2); (case side2 => exact (Kd.V_reads' HO426.out).2.1); (case side3 => exact cS (Kd.C_below HT.out HB.out)); rintro e w54 ⟨rfl, hb⟩; refine ⟨_, rfl, ?_⟩; replace HO426 := vB HO426 hb; replace BK418 := bkB BK418 hb; replace BK419 := bkB BK419 hb; replace HB := Aside0.mk (below_step (bG2 HB.out GE418.out GE419.out) hb); (try clear hb); (try clear hb2); (try clear hk); (try clear hi)))
            go_ret2
            exact ⟨by first | rfl | (simp [errW_none, errW_some] <;> rfl) | (simp [*, errW_none, errW_some] <;> rfl), bG2 HB.out GE418.out GE419.out⟩

end Go.Proofs.YtcdnoklokoplaaaDoor.PE
