-- printed by a program
import Derived.Test.YtcdnoklokoplaaaDoorPCx0
import Derived.Test.YtcdnoklokoplaaaDoorPCx2
import Derived.Test.YtcdnoklokoplaaaDoorPCx3
import Derived.Test.YtcdnoklokoplaaaDoorPCx9
import Derived.Test.YtcdnoklokoplaaaDoorPCx10
import Derived.Test.YtcdnoklokoplaaaDoorPCx11
namespace Go.Proofs.YtcdnoklokoplaaaDoor.PC
open Go.Proofs.YtcdnoklokoplaaaDoorX
open Go.RowKit Go.Proofs.YtcdnoklokoplaaaDoorW.PrintWords Go.Proofs.YtcdnoklokoplaaaDoorW.PrintLast Go.Proofs.YtcdnoklokoplaaaDoorW.PrintMore
attribute [local go_sem] max2_int min2_int max_two min_two max_three min_three max_four min_four   -- for this text's walks alone
set_option linter.unusedVariables false
set_option linter.unusedSimpArgs false

/-! ### abacuslaw05_one: function 26 -/
def abacuslaw05_one.f  : Option (Bool × List Int) := some (false, (([1] : List Int)))
set_option maxHeartbeats 8000000 in
set_option maxRecDepth 100000 in
theorem abacuslaw05_one.calls  (r1 : Bool) (r2 : List Int) (w : World) (h : abacuslaw05_one.f  = some (r1, r2)) :
  Calls Tryd.prog 26 #[] w fun e w' => ∃ v1_ : Value, e = .returned (.agg #[.bool r1, v1_]) ∧ Kd.R (Kd.int .u64) 22 w' w.heap.size (fun _ => True) v1_ r2 ∧ Below w.heap.size w w' := by
 have hu27 := Tryd.underlying27
 have HB := Aside0.mk (Below.refl w.heap.size w)
 have H : (some (false, (([1] : List Int)))) = some (r1, r2) := h
 clear h
 obtain ⟨y501, hy501⟩ : ∃ y_ : List Int, y_ = (([1] : List Int)) := ⟨_, rfl⟩
 replace H : (some (false, y501)) = some (r1, r2) := by first | (rw [hy501]; with_reducible exact H) | (have H2_ := (Option.bind_some _ _).symm.trans H; rw [hy501]; with_reducible exact H2_) | (have H2_ := (Option.bind_some _ _).symm.trans H; with_reducible exact H2_) | with_reducible exact H | (rw [hy501]; exact H) | exact H
 have Ny501 := Aside0.mk hy501
 clear hy501
 simp only [Option.some.injEq, Prod.mk.injEq] at H
 obtain ⟨rfl, rfl⟩ := H
 go_enter Tryd.func26, Tryd.ntmps26
 go_wp2_with (first | ((with_reducible refine gate_dst (N := 0) rfl ?_); refine box_event ?hg (N := 0) ?hd (cs := #[.bool false, .slice none 0 0]) (t := 27) ?hr ?_; (case hd => rfl); (case hg => rfl); (case hr => first | (go_simp; done) | (go_simp; rfl)); intro gb500 hg w1 hbox hb; have BK500 := Aside0.mk (hbox); have GW500 := Aside0.mk ((by rw [hg]; exact (below_size (bS HB.out)) : w.heap.size ≤ gb500)); have GE500 := Aside0.mk ((by rw [hg]; exact (below_size (bS HB.out)) : w.heap.size ≤ gb500)); replace HB := hB HB hb; clear hb hbox hg) | ((with_reducible refine gate_dst (N := 1) rfl ?_); refine Kd.R_lit (Kd.int .u64) _ 22 ?hg (N := 1) ?hd (xs := ([1] : List Int)) (inner := [.int .u64 1]) (ok := fun _ => True) (okp := fun _ => True) ?hr ?hp (fun _ hk => hk) trivial (Below.refl _ _) (Nat.le_refl _) (by simp) ?_; (case hd => rfl); (case hg => rfl); (case hr => first | (go_simp; done) | (go_simp; rfl)); (case hp => exact (Reps.one (show Kd.M (Kd.int .u64) _ _ _ 1 [.int .u64 1] from rfl) (Reps.none _ _))); intro v502 w2 ho3 hb hg_ hnew_; clear hg_ hnew_; (first | rw [← Ny501.out] at ho3 | (simp only [Int.reduceToNat] at ho3; rw [← Ny501.out] at ho3)); have HO503 := Aside0.mk (Kd.R_lower ho3 (below_size (bG1 HB.out GE500.out))); replace BK500 := bkB BK500 hb; replace HB := Aside0.mk (below_step (bG1 HB.out GE500.out) hb); clear hb ho3; obtain ⟨Ao4, co4, eo4⟩ := Kd.R_slice HO503.out; subst eo4; have hcz5_0 : w2.cell? ⟨gb500, 0, none⟩ = some (.bool false) := (blk_cell BK500.out 0).trans rfl; have hcz5_1 : w2.cell? ⟨gb500, 1, none⟩ = some (.slice none 0 0) := (blk_cell BK500.out 1).trans rfl; have hfz5_0 := blk_frozen BK500.out 0; have hfz5_1 := blk_frozen BK500.out 1))
 refine bodyPost_ret (results_cell_row rfl _ _ gb500 27 #[.bool false, .slice Ao4 y501.length co4] (0, 0) _ rfl (by refine blkP (cs := #[.bool false, .slice none 0 0]) ?_ 1 _ rfl; refine blkP (cs := #[.bool false, .slice none 0 0]) ?_ 0 _ rfl; exact bkS BK500.out) Tryd.underlying27 rfl (by kernel_rfl)) rfl ?_
 exact ⟨_, by first | rfl | (simp [errW_none, errW_some] <;> rfl) | (simp [*, errW_none, errW_some] <;> rfl), rS <| Kd.R_mono (Kd.R_far (p := ⟨gb500, 1, none⟩) (Kd.R_far (p := ⟨gb500, 0, none⟩) (Kd.R_types HO503.out BK500.out (by decide)) (fun _ hk => hk.2) (.bool false)) (fun _ hk => hk.2) (.slice Ao4 y501.length co4)) (fun _ hk => trivial), bG1 HB.out GE500.out⟩

/-! ### abacuslaw05_SoftNearSum: function 5 -/
mutual
def abacuslaw05_SoftNearSum.j0 : Nat → Int → Int → Bool → Option (Bool)
 | 0, _, _, _ => none
 | k + 1, x0, x1, x16 => if x16 = true then (some false) else ((abacuslaw05_finite.f x0).bind fun t507 => (if t507 = true then ((abacuslaw05_finite.f x1).bind fun t508 => (abacuslaw05_SoftNearSum.j1 k x0 x1 (!t508))) else (abacuslaw05_SoftNearSum.j1 k x0 x1 true)))
def abacuslaw05_SoftNearSum.j1 : Nat → Int → Int → Bool → Option (Bool)
 | 0, _, _, _ => none
 | k + 1, x0, x1, x24 => if x24 = true then (some true) else ((abacuslaw05_units.f k x0).bind fun bt509 => ((abacuslaw05_units.f k x1).bind fun bt514 => ((abacuslaw05_plus.f k bt509.1 bt509.2 bt514.1 bt514.2).bind fun bt519 => ((soft_Add.f k x0 x1).bind fun t523 => ((abacuslaw05_one.f).bind fun bt524 => ((abacuslaw05_nearest.f k bt519.1 bt519.2 t523 bt524.1 bt524.2).bind fun t528 => (if t528 = true then ((abacuslaw05_plus.f k bt509.1 bt509.2 (!bt514.1) bt514.2).bind fun bt529 => ((soft_Sub.f k x0 x1).bind fun t533 => ((abacuslaw05_one.f).bind fun bt534 => ((abacuslaw05_nearest.f k bt529.1 bt529.2 t533 bt534.1 bt534.2).bind fun t538 => (some t538))))) else (some false))))))))
end
def abacuslaw05_SoftNearSum.f (k : Nat) (a0 : Int) (a1 : Int) : Option (Bool) := (abacuslaw05_works.f k).bind fun t504 => (if t504 = true then ((soft_Add.f k 4607182418800017408 4611686018427387904).bind fun t505 => (if t505 = 4613937818241073152 then ((soft_Sub.f k 4613937818241073152 4611686018427387904).bind fun t506 => (abacuslaw05_SoftNearSum.j0 k a0 a1 (t506 != 4607182418800017408))) else (abacuslaw05_SoftNearSum.j0 k a0 a1 true))) else (abacuslaw05_SoftNearSum.j0 k a0 a1 true))
theorem abacuslaw05_SoftNearSum.mono_l : ∀ k, (∀ y0 y1 y2, LeO (abacuslaw05_SoftNearSum.j0 k y0 y1 y2) (abacuslaw05_SoftNearSum.j0 (k + 1) y0 y1 y2)) ∧ (∀ y0 y1 y2, LeO (abacuslaw05_SoftNearSum.j1 k y0 y1 y2) (abacuslaw05_SoftNearSum.j1 (k + 1) y0 y1 y2))
 | 0 => ⟨fun _ _ _ r h => by simp [abacuslaw05_SoftNearSum.j0] at h, fun _ _ _ r h => by simp [abacuslaw05_SoftNearSum.j1] at h⟩
 | k + 1 => by
  obtain ⟨ih0, ih1⟩ := abacuslaw05_SoftNearSum.mono_l k
  refine ⟨?_, ?_⟩
  ·intro y0 y1 y2
   unfold abacuslaw05_SoftNearSum.j0
   repeat' first
   | (with_reducible exact ih0 _ _ _)
   | (with_reducible exact ih1 _ _ _)
   | (with_reducible exact abacuslaw05_nearest.mono _ _ _ _ _ _)
   | (with_reducible exact abacuslaw05_plus.mono _ _ _ _ _)
   | (with_reducible exact abacuslaw05_units.mono _ _)
   | (with_reducible exact abacuslaw05_works.mono _)
   | (with_reducible exact soft_Add.mono _ _ _)
   | (with_reducible exact soft_Sub.mono _ _ _)
   | (with_reducible exact LeO.refl _)
   | (with_reducible exact LeO.none _)
   | (with_reducible refine LeO.ite ?_ ?_)
   | (with_reducible refine LeO.bind ?_ (fun _ => ?_))
   | exact ih0 _ _ _
   | exact ih1 _ _ _
   | exact abacuslaw05_nearest.mono _ _ _ _ _ _
   | exact abacuslaw05_plus.mono _ _ _ _ _
   | exact abacuslaw05_units.mono _ _
   | exact abacuslaw05_works.mono _
   | exact soft_Add.mono _ _ _
   | exact soft_Sub.mono _ _ _
   | exact LeO.none _
   | refine LeO.ite ?_ ?_
   | refine LeO.bind ?_ (fun _ => ?_)
  ·intro y0 y1 y2
   unfold abacuslaw05_SoftNearSum.j1
   repeat' first
   | (with_reducible exact ih0 _ _ _)
   | (with_reducible exact ih1 _ _ _)
   | (with_reducible exact abacuslaw05_nearest.mono _ _ _ _ _ _)
   | (with_reducible exact abacuslaw05_plus.mono _ _ _ _ _)
   | (with_reducible exact abacuslaw05_units.mono _ _)
   | (with_reducible exact abacuslaw05_works.mono _)
   | (with_reducible exact soft_Add.mono _ _ _)
   | (with_reducible exact soft_Sub.mono _ _ _)
   | (with_reducible exact LeO.refl _)
   | (with_reducible exact LeO.none _)
   | (with_reducible refine LeO.ite ?_ ?_)
   | (with_reducible refine LeO.bind ?_ (fun _ => ?_))
   | exact ih0 _ _ _
   | exact ih1 _ _ _
   | exact abacuslaw05_nearest.mono _ _ _ _ _ _
   | exact abacuslaw05_plus.mono _ _ _ _ _
   | exact abacuslaw05_units.mono _ _
   | exact abacuslaw05_works.mono _
   | exact soft_Add.mono _ _ _
   | exact soft_Sub.mono _ _ _
   | exact LeO.none _
   | refine LeO.ite ?_ ?_
   | refine LeO.bind ?_ (fun _ => ?_)
theorem abacuslaw05_SoftNearSum.mono : ∀ a0 a1 k, LeO (abacuslaw05_SoftNearSum.f k a0 a1) (abacuslaw05_SoftNearSum.f (k + 1) a0 a1) := by
 intro a0 a1 k
 obtain ⟨ih0, ih1⟩ := abacuslaw05_SoftNearSum.mono_l k
 unfold abacuslaw05_SoftNearSum.f
 repeat' first
   | (with_reducible exact ih0 _ _ _)
   | (with_reducible exact ih1 _ _ _)
   | (with_reducible exact abacuslaw05_nearest.mono _ _ _ _ _ _)
   | (with_reducible exact abacuslaw05_plus.mono _ _ _ _ _)
   | (with_reducible exact abacuslaw05_units.mono _ _)
   | (with_reducible exact abacuslaw05_works.mono _)
   | (with_reducible exact soft_Add.mono _ _ _)
   | (with_reducible exact soft_Sub.mono _ _ _)
   | (with_reducible exact LeO.refl _)
   | (with_reducible exact LeO.none _)
   | (with_reducible refine LeO.ite ?_ ?_)
   | (with_reducible refine LeO.bind ?_ (fun _ => ?_))
   | exact ih0 _ _ _
   | exact ih1 _ _ _
   | exact abacuslaw05_nearest.mono _ _ _ _ _ _
   | exact abacuslaw05_plus.mono _ _ _ _ _
   | exact abacuslaw05_units.mono _ _
   | exact abacuslaw05_works.mono _
   | exact soft_Add.mono _ _ _
   | exact soft_Sub.mono _ _ _
   | exact LeO.none _
   | refine LeO.ite ?_ ?_
   | refine LeO.bind ?_ (fun _ => ?_)
set_option maxHeartbeats 8000000 in
set_option maxRecDepth 100000 in
theorem abacuslaw05_SoftNearSum.calls (k : Nat) (a0 : Int) (a1 : Int) (r : Bool) (w : World) (hT : Kd.C (Kd.int .u8) w (some ⟨0, 0, none⟩) 64 tabL) (h : abacuslaw05_SoftNearSum.f k a0 a1 = some r) :
  Calls Tryd.prog 5 #[.int .u64 a0, .int .u64 a1] w fun e w' => e = .returned (.bool r) ∧ Below w.heap.size w w' := by
 have hu27 := Tryd.underlying27
 have HT := Aside0.mk hT
 clear hT
 have HB := Aside0.mk (Below.refl w.heap.size w)
 have H : ((abacuslaw05_works.f k).bind fun t504 => (if t504 = true then ((soft_Add.f k 4607182418800017408 4611686018427387904).bind fun t505 => (if t505 = 4613937818241073152 then ((soft_Sub.f k 4613937818241073152 4611686018427387904).bind fun t506 => (abacuslaw05_SoftNearSum.j0 k a0 a1 (t506 != 4607182418800017408))) else (abacuslaw05_SoftNearSum.j0 k a0 a1 true))) else (abacuslaw05_SoftNearSum.j0 k a0 a1 true))) = some r := h
 clear h
 have HC3 := Aside0.mk H
 clear H
 go_enter Tryd.func5, Tryd.ntmps5
 go_upto_region 1 with (fail)
 go_cut [16] (fun v16 wc => ∃ (kq : Nat) (x16_2 : Bool), v16 = .bool x16_2 ∧ Aside0 (abacuslaw05_SoftNearSum.j0 kq a0 a1 x16_2 = some r) ∧ Aside0 (kq ≤ k) ∧ Aside0 (Below w.heap.size w wc))
 case first =>
  have H := HC3.out
  clear HC3
  replace H := Option.bind_eq_some_iff.mp H
  obtain ⟨t504, A40, H⟩ := H
  replace H : (if t504 = true then ((soft_Add.f k 4607182418800017408 4611686018427387904).bind fun t505 => (if t505 = 4613937818241073152 then ((soft_Sub.f k 4613937818241073152 4611686018427387904).bind fun t506 => (abacuslaw05_SoftNearSum.j0 k a0 a1 (t506 != 4607182418800017408))) else (abacuslaw05_SoftNearSum.j0 k a0 a1 true))) else (abacuslaw05_SoftNearSum.j0 k a0 a1 true)) = some r := H
  have A4 := Aside0.mk A40
  clear A40
  by_cases c5 : t504 = true
  ·subst c5
   have H1 : ((soft_Add.f k 4607182418800017408 4611686018427387904).bind fun t505 => (if t505 = 4613937818241073152 then ((soft_Sub.f k 4613937818241073152 4611686018427387904).bind fun t506 => (abacuslaw05_SoftNearSum.j0 k a0 a1 (t506 != 4607182418800017408))) else (abacuslaw05_SoftNearSum.j0 k a0 a1 true))) = some r := by rw [if_pos rfl] at H; exact H
   clear H
   have H := H1
   clear H1
   replace H := Option.bind_eq_some_iff.mp H
   obtain ⟨t505, A60, H⟩ := H
   replace H : (if t505 = 4613937818241073152 then ((soft_Sub.f k 4613937818241073152 4611686018427387904).bind fun t506 => (abacuslaw05_SoftNearSum.j0 k a0 a1 (t506 != 4607182418800017408))) else (abacuslaw05_SoftNearSum.j0 k a0 a1 true)) = some r := H
   have A6 := Aside0.mk A60
   clear A60
   by_cases c7 : t505 = 4613937818241073152
   ·rw [if_pos c7] at H
    have c7b0 : (t505 == 4613937818241073152) = true := beq_iff_eq.mpr c7
    have c7b1 : (t505 != 4613937818241073152) = false := bne_eq_false_iff_eq.mpr c7
    clear c7
    (first | rw [c7b0] | (simp only [i64_w, i32_w]; rw [c7b0]) | rw [c7b1] | skip)
    replace H := Option.bind_eq_some_iff.mp H
    obtain ⟨t506, A80, H⟩ := H
    replace H : (abacuslaw05_SoftNearSum.j0 k a0 a1 (t506 != 4607182418800017408)) = some r := H
    have A8 := Aside0.mk A80
    clear A80
    have H' := Aside0.mk H
    clear H
    go_wp2_with (first | ((with_reducible refine gate_callee (f := 14) rfl ?_); refine goesL_ (some 7) rfl rfl Tryd.func14 (by kernel_rfl) rfl #[] rfl (by (try simp only [List.map_toArray, List.map_cons, List.map_nil]); first | done | rfl) ?_; (with_reducible refine (abacuslaw05_works.calls k  true _ A4.out).mono ?_); rintro e w9 ⟨rfl, hb⟩; refine ⟨_, rfl, ?_⟩; replace HB := hB HB hb; (try clear hb); (try clear hb2); (try clear hk); (try clear hi)) | (go_at_call 24; (with_reducible refine (soft_Add.calls k 4607182418800017408 4611686018427387904 t505 _ ?side1 A6.out).mono ?_); (case side1 => exact cS (Kd.C_below HT.out HB.out)); rintro e w10 ⟨rfl, hb⟩; replace HB := hB HB hb; (try clear hb); (try clear hb2); (try clear hk); (try clear hi)) | (go_at_call 20; (with_reducible refine (soft_Sub.calls k 4613937818241073152 4611686018427387904 t506 _ ?side1 A8.out).mono ?_); (case side1 => exact cS (Kd.C_below HT.out HB.out)); rintro e w11 ⟨rfl, hb⟩; replace HB := hB HB hb; (try clear hb); (try clear hb2); (try clear hk); (try clear hi)))
    go_meet
    case rel => exact ⟨_, ((t506 != 4607182418800017408)), (by first | rfl | (simp; done) | (simp [*]; done)), H', ⟨by first | omega | exact Nat.le_refl _⟩, ⟨bS HB.out⟩⟩
   ·rw [if_neg c7] at H
    have c7b0 : (t505 == 4613937818241073152) = false := beq_eq_false_iff_ne.mpr c7
    have c7b1 : (t505 != 4613937818241073152) = true := bne_iff_ne.mpr c7
    (first | rw [c7b0] | (simp only [i64_w, i32_w]; rw [c7b0]) | rw [c7b1] | skip)
    have H' := Aside0.mk H
    clear H
    go_wp2_with (first | ((with_reducible refine gate_callee (f := 14) rfl ?_); refine goesL_ (some 7) rfl rfl Tryd.func14 (by kernel_rfl) rfl #[] rfl (by (try simp only [List.map_toArray, List.map_cons, List.map_nil]); first | done | rfl) ?_; (with_reducible refine (abacuslaw05_works.calls k  true _ A4.out).mono ?_); rintro e w12 ⟨rfl, hb⟩; refine ⟨_, rfl, ?_⟩; replace HB := hB HB hb; (try clear hb); (try clear hb2); (try clear hk); (try clear hi)) | (go_at_call 24; (with_reducible refine (soft_Add.calls k 4607182418800017408 4611686018427387904 t505 _ ?side1 A6.out).mono ?_); (case side1 => exact cS (Kd.C_below HT.out HB.out)); rintro e w13 ⟨rfl, hb⟩; replace HB := hB HB hb; (try clear hb); (try clear hb2); (try clear hk); (try clear hi)))
    go_meet
    case rel => exact ⟨_, (true), (by first | rfl | (simp; done) | (simp [*]; done)), H', ⟨by first | omega | exact Nat.le_refl _⟩, ⟨bS HB.out⟩⟩
  ·replace c5 := Bool.eq_false_iff.mpr c5
   subst c5
   have H1 : (abacuslaw05_SoftNearSum.j0 k a0 a1 true) = some r := by rw [if_neg (show ¬ (false = true) by decide)] at H; exact H
   clear H
   have H := H1
   clear H1
   have H' := Aside0.mk H
   clear H
   go_wp2_with (first | ((with_reducible refine gate_callee (f := 14) rfl ?_); refine goesL_ (some 7) rfl rfl Tryd.func14 (by kernel_rfl) rfl #[] rfl (by (try simp only [List.map_toArray, List.map_cons, List.map_nil]); first | done | rfl) ?_; (with_reducible refine (abacuslaw05_works.calls k  false _ A4.out).mono ?_); rintro e w14 ⟨rfl, hb⟩; refine ⟨_, rfl, ?_⟩; replace HB := hB HB hb; (try clear hb); (try clear hb2); (try clear hk); (try clear hi)))
   go_meet
   case rel => exact ⟨_, (true), (by first | rfl | (simp; done) | (simp [*]; done)), H', ⟨by first | omega | exact Nat.le_refl _⟩, ⟨bS HB.out⟩⟩
 case rest =>
  clear HC3
  try clear c1
  try clear p2
  try clear c5
  try clear c7
  try clear c7b0
  try clear c7b1
  try clear c14
  obtain ⟨kq, x16_2, rfl, HA, HJ2, HB⟩ := hcut
  cases kq with
  | zero => exact absurd HA.out (by simp [abacuslaw05_SoftNearSum.j0])
  | succ kj2 =>
   have H := HA.out
   clear HA
   simp only [abacuslaw05_SoftNearSum.j0] at H
   by_cases c15 : x16_2 = true
   ·subst c15
    have H1 : (some false) = some r := by rw [if_pos rfl] at H; exact H
    clear H
    have H := H1
    clear H1
    obtain rfl := Option.some.inj H
    go_wp2
    go_ret
    exact ⟨by first | rfl | (simp [errW_none, errW_some] <;> rfl) | (simp [*, errW_none, errW_some] <;> rfl), bS HB.out⟩
   ·replace c15 := Bool.eq_false_iff.mpr c15
    subst c15
    have H1 : ((abacuslaw05_finite.f a0).bind fun t507 => (if t507 = true then ((abacuslaw05_finite.f a1).bind fun t508 => (abacuslaw05_SoftNearSum.j1 kj2 a0 a1 (!t508))) else (abacuslaw05_SoftNearSum.j1 kj2 a0 a1 true))) = some r := by rw [if_neg (show ¬ (false = true) by decide)] at H; exact H
    clear H
    have H := H1
    clear H1
    have HC16 := Aside0.mk H
    clear H
    go_upto_region 3 with (fail)
    go_cut [24] (fun v24 wc => ∃ (kq : Nat) (x24_15 : Bool), v24 = .bool x24_15 ∧ Aside0 (abacuslaw05_SoftNearSum.j1 kq a0 a1 x24_15 = some r) ∧ Aside0 (kq ≤ kj2) ∧ Aside0 (Below w.heap.size w wc))
    case first =>
     have H := HC16.out
     clear HC16
     replace H := Option.bind_eq_some_iff.mp H
     obtain ⟨t507, A170, H⟩ := H
     replace H : (if t507 = true then ((abacuslaw05_finite.f a1).bind fun t508 => (abacuslaw05_SoftNearSum.j1 kj2 a0 a1 (!t508))) else (abacuslaw05_SoftNearSum.j1 kj2 a0 a1 true)) = some r := H
     have A17 := Aside0.mk A170
     clear A170
     by_cases c18 : t507 = true
     ·subst c18
      have H1 : ((abacuslaw05_finite.f a1).bind fun t508 => (abacuslaw05_SoftNearSum.j1 kj2 a0 a1 (!t508))) = some r := by rw [if_pos rfl] at H; exact H
      clear H
      have H := H1
      clear H1
      replace H := Option.bind_eq_some_iff.mp H
      obtain ⟨t508, A190, H⟩ := H
      replace H : (abacuslaw05_SoftNearSum.j1 kj2 a0 a1 (!t508)) = some r := H
      have A19 := Aside0.mk A190
      clear A190
      have H' := Aside0.mk H
      clear H
      go_wp2_with (first | ((with_reducible refine gate_callee (f := 16) rfl ?_); refine goesL_ (some 18) rfl rfl Tryd.func16 (by kernel_rfl) rfl #[.int .u64 a0] rfl (by (try simp only [List.map_toArray, List.map_cons, List.map_nil]); first | done | rfl) ?_; (with_reducible refine (abacuslaw05_finite.calls a0 true _ A17.out).mono ?_); rintro e w' ⟨rfl, ⟨nd, rfl⟩⟩; refine ⟨_, rfl, ?_⟩) | (go_at_call 16; (with_reducible refine (abacuslaw05_finite.calls a1 t508 _ A19.out).mono ?_); rintro e w' ⟨rfl, ⟨nd, rfl⟩⟩))
      go_meet
      case rel => exact ⟨_, (!t508), (by first | rfl | (have e_ := Option.some.inj (A17.out.symm.trans A19.out); cases e_; rfl) | (simp; done) | (simp [*]; done)), H', ⟨by have := HJ2.out; first | omega | exact Nat.le_refl _⟩, ⟨bS HB.out⟩⟩
     ·replace c18 := Bool.eq_false_iff.mpr c18
      subst c18
      have H1 : (abacuslaw05_SoftNearSum.j1 kj2 a0 a1 true) = some r := by rw [if_neg (show ¬ (false = true) by decide)] at H; exact H
      clear H
      have H := H1
      clear H1
      have H' := Aside0.mk H
      clear H
      go_wp2_with (first | ((with_reducible refine gate_callee (f := 16) rfl ?_); refine goesL_ (some 18) rfl rfl Tryd.func16 (by kernel_rfl) rfl #[.int .u64 a0] rfl (by (try simp only [List.map_toArray, List.map_cons, List.map_nil]); first | done | rfl) ?_; (with_reducible refine (abacuslaw05_finite.calls a0 false _ A17.out).mono ?_); rintro e w' ⟨rfl, ⟨nd, rfl⟩⟩; refine ⟨_, rfl, ?_⟩))
      go_meet
      case rel => exact ⟨_, (true), (by first | rfl | (simp; done) | (simp [*]; done)), H', ⟨by have := HJ2.out; first | omega | exact Nat.le_refl _⟩, ⟨bS HB.out⟩⟩
    case rest =>
     clear HC16
     try clear c1
     try clear p2
     try clear c5
     try clear c7
     try clear c7b0
     try clear c7b1
     try clear c14
     try clear c15
     try clear c16
     try clear c18
     try clear p2
     obtain ⟨kq, x24_15, rfl, HA, HJ15, HB⟩ := hcut
     cases kq with
     | zero => exact absurd HA.out (by simp [abacuslaw05_SoftNearSum.j1])
     | succ kj15 =>
      have H := HA.out
      clear HA
      simp only [abacuslaw05_SoftNearSum.j1] at H
      by_cases c20 : x24_15 = true
      ·subst c20
       have H1 : (some true) = some r := by rw [if_pos rfl] at H; exact H
       clear H
       have H := H1
       clear H1
       obtain rfl := Option.some.inj H
       go_wp2
       go_ret
       exact ⟨by first | rfl | (simp [errW_none, errW_some] <;> rfl) | (simp [*, errW_none, errW_some] <;> rfl), bS HB.out⟩
      ·replace c20 := Bool.eq_false_iff.mpr c20
       subst c20
       have H1 : ((abacuslaw05_units.f kj15 a0).bind fun bt509 => ((abacuslaw05_units.f kj15 a1).bind fun bt514 => ((abacuslaw05_plus.f kj15 bt509.1 bt509.2 bt514.1 bt514.2).bind fun bt519 => ((soft_Add.f kj15 a0 a1).bind fun t523 => ((abacuslaw05_one.f).bind fun bt524 => ((abacuslaw05_nearest.f kj15 bt519.1 bt519.2 t523 bt524.1 bt524.2).bind fun t528 => (if t528 = true then ((abacuslaw05_plus.f kj15 bt509.1 bt509.2 (!bt514.1) bt514.2).bind fun bt529 => ((soft_Sub.f kj15 a0 a1).bind fun t533 => ((abacuslaw05_one.f).bind fun bt534 => ((abacuslaw05_nearest.f kj15 bt529.1 bt529.2 t533 bt534.1 bt534.2).bind fun t538 => (some t538))))) else (some false)))))))) = some r := by rw [if_neg (show ¬ (false = true) by decide)] at H; exact H
       clear H
       have H := H1
       clear H1
       replace H := Option.bind_eq_some_iff.mp H
       obtain ⟨⟨t509, t510⟩, A210, H⟩ := H
       replace H : ((abacuslaw05_units.f kj15 a1).bind fun bt514 => ((abacuslaw05_plus.f kj15 t509 t510 bt514.1 bt514.2).bind fun bt519 => ((soft_Add.f kj15 a0 a1).bind fun t523 => ((abacuslaw05_one.f).bind fun bt524 => ((abacuslaw05_nearest.f kj15 bt519.1 bt519.2 t523 bt524.1 bt524.2).bind fun t528 => (if t528 = true then ((abacuslaw05_plus.f kj15 t509 t510 (!bt514.1) bt514.2).bind fun bt529 => ((soft_Sub.f kj15 a0 a1).bind fun t533 => ((abacuslaw05_one.f).bind fun bt534 => ((abacuslaw05_nearest.f kj15 bt529.1 bt529.2 t533 bt534.1 bt534.2).bind fun t538 => (some t538))))) else (some false))))))) = some r := H
       have A21 := Aside0.mk A210
       clear A210
       replace H := Option.bind_eq_some_iff.mp H
       obtain ⟨⟨t514, t515⟩, A220, H⟩ := H
       replace H : ((abacuslaw05_plus.f kj15 t509 t510 t514 t515).bind fun bt519 => ((soft_Add.f kj15 a0 a1).bind fun t523 => ((abacuslaw05_one.f).bind fun bt524 => ((abacuslaw05_nearest.f kj15 bt519.1 bt519.2 t523 bt524.1 bt524.2).bind fun t528 => (if t528 = true then ((abacuslaw05_plus.f kj15 t509 t510 (!t514) t515).bind fun bt529 => ((soft_Sub.f kj15 a0 a1).bind fun t533 => ((abacuslaw05_one.f).bind fun bt534 => ((abacuslaw05_nearest.f kj15 bt529.1 bt529.2 t533 bt534.1 bt534.2).bind fun t538 => (some t538))))) else (some false)))))) = some r := H
       have A22 := Aside0.mk A220
       clear A220
       replace H := Option.bind_eq_some_iff.mp H
       obtain ⟨⟨t519, t520⟩, A230, H⟩ := H
       replace H : ((soft_Add.f kj15 a0 a1).bind fun t523 => ((abacuslaw05_one.f).bind fun bt524 => ((abacuslaw05_nearest.f kj15 t519 t520 t523 bt524.1 bt524.2).bind fun t528 => (if t528 = true then ((abacuslaw05_plus.f kj15 t509 t510 (!t514) t515).bind fun bt529 => ((soft_Sub.f kj15 a0 a1).bind fun t533 => ((abacuslaw05_one.f).bind fun bt534 => ((abacuslaw05_nearest.f kj15 bt529.1 bt529.2 t533 bt534.1 bt534.2).bind fun t538 => (some t538))))) else (some false))))) = some r := H
       have A23 := Aside0.mk A230
       clear A230
       replace H := Option.bind_eq_some_iff.mp H
       obtain ⟨t523, A240, H⟩ := H
       replace H : ((abacuslaw05_one.f).bind fun bt524 => ((abacuslaw05_nearest.f kj15 t519 t520 t523 bt524.1 bt524.2).bind fun t528 => (if t528 = true then ((abacuslaw05_plus.f kj15 t509 t510 (!t514) t515).bind fun bt529 => ((soft_Sub.f kj15 a0 a1).bind fun t533 => ((abacuslaw05_one.f).bind fun bt534 => ((abacuslaw05_nearest.f kj15 bt529.1 bt529.2 t533 bt534.1 bt534.2).bind fun t538 => (some t538))))) else (some false)))) = some r := H
       have A24 := Aside0.mk A240
       clear A240
       replace H := Option.bind_eq_some_iff.mp H
       obtain ⟨⟨t524, t525⟩, A250, H⟩ := H
       replace H : ((abacuslaw05_nearest.f kj15 t519 t520 t523 t524 t525).bind fun t528 => (if t528 = true then ((abacuslaw05_plus.f kj15 t509 t510 (!t514) t515).bind fun bt529 => ((soft_Sub.f kj15 a0 a1).bind fun t533 => ((abacuslaw05_one.f).bind fun bt534 => ((abacuslaw05_nearest.f kj15 bt529.1 bt529.2 t533 bt534.1 bt534.2).bind fun t538 => (some t538))))) else (some false))) = some r := H
       have A25 := Aside0.mk A250
       clear A250
       replace H := Option.bind_eq_some_iff.mp H
       obtain ⟨t528, A260, H⟩ := H
       replace H : (if t528 = true then ((abacuslaw05_plus.f kj15 t509 t510 (!t514) t515).bind fun bt529 => ((soft_Sub.f kj15 a0 a1).bind fun t533 => ((abacuslaw05_one.f).bind fun bt534 => ((abacuslaw05_nearest.f kj15 bt529.1 bt529.2 t533 bt534.1 bt534.2).bind fun t538 => (some t538))))) else (some false)) = some r := H
       have A26 := Aside0.mk A260
       clear A260
       by_cases c27 : t528 = true
       ·subst c27
        have H1 : ((abacuslaw05_plus.f kj15 t509 t510 (!t514) t515).bind fun bt529 => ((soft_Sub.f kj15 a0 a1).bind fun t533 => ((abacuslaw05_one.f).bind fun bt534 => ((abacuslaw05_nearest.f kj15 bt529.1 bt529.2 t533 bt534.1 bt534.2).bind fun t538 => (some t538))))) = some r := by rw [if_pos rfl] at H; exact H
        clear H
        have H := H1
        clear H1
        replace H := Option.bind_eq_some_iff.mp H
        obtain ⟨⟨t529, t530⟩, A280, H⟩ := H
        replace H : ((soft_Sub.f kj15 a0 a1).bind fun t533 => ((abacuslaw05_one.f).bind fun bt534 => ((abacuslaw05_nearest.f kj15 t529 t530 t533 bt534.1 bt534.2).bind fun t538 => (some t538)))) = some r := H
        have A28 := Aside0.mk A280
        clear A280
        replace H := Option.bind_eq_some_iff.mp H
        obtain ⟨t533, A290, H⟩ := H
        replace H : ((abacuslaw05_one.f).bind fun bt534 => ((abacuslaw05_nearest.f kj15 t529 t530 t533 bt534.1 bt534.2).bind fun t538 => (some t538))) = some r := H
        have A29 := Aside0.mk A290
        clear A290
        replace H := Option.bind_eq_some_iff.mp H
        obtain ⟨⟨t534, t535⟩, A300, H⟩ := H
        replace H : ((abacuslaw05_nearest.f kj15 t529 t530 t533 t534 t535).bind fun t538 => (some t538)) = some r := H
        have A30 := Aside0.mk A300
        clear A300
        replace H := Option.bind_eq_some_iff.mp H
        obtain ⟨t538, A310, H⟩ := H
        replace H : (some t538) = some r := H
        have A31 := Aside0.mk A310
        clear A310
        obtain rfl := Option.some.inj H
        go_wp2_with (first | ((with_reducible refine gate_callee (f := 17) rfl ?_); refine goesL_ (some 26) rfl rfl Tryd.func17 (by kernel_rfl) rfl #[.int .u64 a0] rfl (by (try simp only [List.map_toArray, List.map_cons, List.map_nil]); first | done | rfl) ?_; (with_reducible refine (abacuslaw05_units.calls kj15 a0 t509 t510 _ A21.out).mono ?_); rintro e w32 ⟨v511, rfl, ho0, hb⟩; refine ⟨_, rfl, ?_⟩; have HO512 := Aside0.mk (Kd.V_lower (Kd.V_mono (ok' := fun k_ => True) ho0 (fun k_ hk_ => trivial)) (below_size (bS HB.out))); replace HB := hB HB hb; (try clear hb); (try clear hb2); (try clear hk); (try clear hi); (try clear ho0)) | ((with_reducible refine gate_dst (N := 5) rfl ?_); refine box_event ?hg (N := 5) ?hd (cs := #[.bool false, .slice none 0 0]) (t := 27) ?hr ?_; (case hd => rfl); (case hg => rfl); (case hr => first | (go_simp; done) | (go_simp; rfl)); intro gb513 hg w33 hbox hb; replace HO512 := Aside0.mk (Kd.V_below (Kd.V_elderB (vS <| HO512.out) gb513 (Nat.le_of_eq hg.symm)) hb); have BK513 := Aside0.mk (hbox); have GW513 := Aside0.mk ((by rw [hg]; exact (below_size (bS HB.out)) : w.heap.size ≤ gb513)); have GE513 := Aside0.mk ((by rw [hg]; exact (below_size (bS HB.out)) : w.heap.size ≤ gb513)); replace HB := hB HB hb; clear hb hbox hg; have hcz34_0 : w33.cell? ⟨gb513, 0, none⟩ = some (.bool false) := (blk_cell BK513.out 0).trans rfl; have hcz34_1 : w33.cell? ⟨gb513, 1, none⟩ = some (.slice none 0 0) := (blk_cell BK513.out 1).trans rfl; have hfz34_0 := blk_frozen BK513.out 0; have hfz34_1 := blk_frozen BK513.out 1; obtain ⟨Ao35, co35, eo35⟩ := Kd.V_slice HO512.out; subst eo35) | ((with_reducible refine gate_callee (f := 17) rfl ?_); refine goesL_ (some 28) rfl rfl Tryd.func17 (by kernel_rfl) rfl #[.int .u64 a1] rfl (by (try simp only [List.map_toArray, List.map_cons, List.map_nil]); first | done | rfl) ?_; (with_reducible refine (abacuslaw05_units.calls kj15 a1 t514 t515 _ A22.out).mono ?_); rintro e w36 ⟨v516, rfl, ho0, hb⟩; refine ⟨_, rfl, ?_⟩; replace HO512 := Aside0.mk (Kd.V_below (vS <| (Kd.V_mono (Kd.V_far (p := ⟨gb513, 1, none⟩) (Kd.V_far (p := ⟨gb513, 0, none⟩) (Kd.V_mono HO512.out (fun k_ hk => (⟨hk, hk.2⟩ : _ ∧ k_ ≠ gb513))) (fun _ hk => hk.2) (.bool t509)) (fun _ hk => hk.2) (.slice Ao35 t510.length co35)) (fun _ h_ => h_.1))) hb); have HO517 := Aside0.mk (Kd.V_lower (Kd.V_mono (ok' := fun k_ => k_ ≠ gb513) ho0 (fun k_ hk_ => (Kd.freshB (g := gb513) (o := .cells #[.bool t509, .slice Ao35 t510.length co35] 27 (0, 0)) (by refine blkP (cs := #[.bool t509, .slice none 0 0]) ?_ 1 _ rfl; refine blkP (cs := #[.bool false, .slice none 0 0]) ?_ 0 _ rfl; exact bkS BK513.out) k_ hk_))) (below_size (bG1 HB.out GE513.out))); replace BK513 := Aside0.mk (blk_below (g := gb513) (o := .cells #[.bool t509, .slice Ao35 t510.length co35] 27 (0, 0)) (by refine blkP (cs := #[.bool t509, .slice none 0 0]) ?_ 1 _ rfl; refine blkP (cs := #[.bool false, .slice none 0 0]) ?_ 0 _ rfl; exact bkS BK513.out) hb); replace HB := Aside0.mk (below_step (bG1 HB.out GE513.out) hb); (try clear hb); (try clear hb2); (try clear hk); (try clear hi); (try clear ho0)) | ((with_reducible refine gate_dst (N := 6) rfl ?_); refine box_event ?hg (N := 6) ?hd (cs := #[.bool false, .slice none 0 0]) (t := 27) ?hr ?_; (case hd => rfl); (case hg => rfl); (case hr => first | (go_simp; done) | (go_simp; rfl)); intro gb518 hg w37 hbox hb; replace HO512 := Aside0.mk (Kd.V_below (Kd.V_elderB (vS <| HO512.out) gb518 (Nat.le_of_eq hg.symm)) hb); replace HO517 := Aside0.mk (Kd.V_below (Kd.V_elderB (vS <| HO517.out) gb518 (Nat.le_of_eq hg.symm)) hb); have BK518 := Aside0.mk (hbox); have GW518 := Aside0.mk ((by rw [hg]; exact (below_size (bG1 HB.out GE513.out)) : w.heap.size ≤ gb518)); have GE518 := Aside0.mk ((by rw [hg]; exact (below_size (bG1 HB.out GE513.out)) : w.heap.size ≤ gb518)); replace HB := Aside0.mk (below_step (bG1 HB.out GE513.out) hb); have NB513_518 := Aside0.mk ((by rw [hg]; exact Nat.ne_of_lt (blk_lt (g := gb513) (o := .cells #[.bool t509, .slice Ao35 t510.length co35] 27 (0, 0)) (by exact bkS BK513.out)) : gb513 ≠ gb518)); have NB518_513 := Aside0.mk ((by rw [hg]; exact Nat.ne_of_gt (blk_lt (g := gb513) (o := .cells #[.bool t509, .slice Ao35 t510.length co35] 27 (0, 0)) (by exact bkS BK513.out)) : gb518 ≠ gb513)); replace BK513 := bkB BK513 hb; clear hb hbox hg; have hnb38 := NB518_513.out; have hnc38 := NB513_518.out; have hcz39_0 : w37.cell? ⟨gb518, 0, none⟩ = some (.bool false) := (blk_cell BK518.out 0).trans rfl; have hcz39_1 : w37.cell? ⟨gb518, 1, none⟩ = some (.slice none 0 0) := (blk_cell BK518.out 1).trans rfl; have hfz39_0 := blk_frozen BK518.out 0; have hfz39_1 := blk_frozen BK518.out 1; obtain ⟨Ao40, co40, eo40⟩ := Kd.V_slice HO517.out; subst eo40) | ((with_reducible refine gate_store (t := 27) (p := 6) rfl ?_); refine store_event (t := 27) (p := 6) (v := ?vo_w41) (w1 := ((w37.setCell ⟨gb518, 0, none⟩ (.bool t514)).setCell ⟨gb518, 1, none⟩ (.slice Ao40 t515.length co40))) ?hg ?ho ?hn ?hr ?_; (case ho => rfl); (case hg => rfl); (case hn => rfl); (case hr => first | (go_simp; done) | (go_simp; rfl)); intro w41 hw; have n0_ : Aside0 (Kd.V (Kd.int .u64) 22 w41 w.heap.size (fun k_ => k_ ≠ gb513 ∧ k_ ≠ gb518) (.slice Ao35 t510.length co35) t510) := ⟨(by rw [hw]; exact (vS <| Kd.V_mono (Kd.V_far (p := ⟨gb518, 1, none⟩) (Kd.V_far (p := ⟨gb518, 0, none⟩) (Kd.V_mono HO512.out (fun k_ hk => (⟨hk, hk.2⟩ : _ ∧ k_ ≠ gb518))) (fun _ hk => hk.2) (.bool t514)) (fun _ hk => hk.2) (.slice Ao40 t515.length co40)) (fun _ hk => ⟨hk.1.1.2, hk.1.2⟩)))⟩; have n1_ : Aside0 (Kd.V (Kd.int .u64) 22 w41 w.heap.size (fun k_ => k_ ≠ gb513 ∧ k_ ≠ gb518) (.slice Ao40 t515.length co40) t515) := ⟨(by rw [hw]; exact (vS <| Kd.V_mono (Kd.V_far (p := ⟨gb518, 1, none⟩) (Kd.V_far (p := ⟨gb518, 0, none⟩) (Kd.V_mono HO517.out (fun k_ hk => (⟨hk, hk.2⟩ : _ ∧ k_ ≠ gb518))) (fun _ hk => hk.2) (.bool t514)) (fun _ hk => hk.2) (.slice Ao40 t515.length co40)) (fun _ hk => ⟨hk.1.1, hk.1.2⟩)))⟩; have n2_ : Aside0 (w41.heap[gb513]? = some (.cells #[.bool t509, .slice Ao35 t510.length co35] 27 (0, 0))) := ⟨(by rw [hw]; exact (by refine blkF ?_ NB513_518.out _; refine blkF ?_ NB513_518.out _; exact bkS BK513.out))⟩; have n3_ : Aside0 (w41.heap[gb518]? = some (.cells #[.bool t514, .slice Ao40 t515.length co40] 27 (0, 0))) := ⟨(by rw [hw]; exact (by refine blkP (cs := #[.bool t514, .slice none 0 0]) ?_ 1 _ rfl; refine blkP (cs := #[.bool false, .slice none 0 0]) ?_ 0 _ rfl; exact bkS BK518.out))⟩; have n4_ : Aside0 (Below w.heap.size w w41) := ⟨(by rw [hw]; exact (bG2 HB.out GE513.out GE518.out))⟩; clear hw; clear HO512; clear HO517; clear BK513; clear BK518; clear HB; have HO512 := n0_; have HO517 := n1_; have BK513 := n2_; have BK518 := n3_; have HB := n4_; clear n0_ n1_ n2_ n3_ n4_; have hcz42_0 : w41.cell? ⟨gb513, 0, none⟩ = some (.bool t509) := (blk_cell BK513.out 0).trans rfl; have hcz42_1 : w41.cell? ⟨gb513, 1, none⟩ = some (.slice Ao35 t510.length co35) := (blk_cell BK513.out 1).trans rfl; have hfz42_0 := blk_frozen BK513.out 0; have hfz42_1 := blk_frozen BK513.out 1; have hcz43_0 : w41.cell? ⟨gb518, 0, none⟩ = some (.bool t514) := (blk_cell BK518.out 0).trans rfl; have hcz43_1 : w41.cell? ⟨gb518, 1, none⟩ = some (.slice Ao40 t515.length co40) := (blk_cell BK518.out 1).trans rfl; have hfz43_0 := blk_frozen BK518.out 0; have hfz43_1 := blk_frozen BK518.out 1) | ((with_reducible refine gate_callee (f := 22) rfl ?_); refine goesL_ (some 31) rfl rfl Tryd.func22 (by kernel_rfl) rfl #[.agg #[.bool t509, .slice Ao35 t510.length co35], .agg #[.bool t514, .slice Ao40 t515.length co40]] rfl (by (try simp only [List.map_toArray, List.map_cons, List.map_nil]); first | done | rfl) ?_; (with_reducible refine (abacuslaw05_plus.calls kj15 t509 (fun k_ => (k_ ≠ gb513 ∧ k_ ≠ gb518)) _ _ t510 t514 (fun k_ => (k_ ≠ gb513 ∧ k_ ≠ gb518)) _ _ t515 t519 t520 _ ?side1 ?side2 A23.out).mono ?_); (case side1 => exact HO512.out); (case side2 => exact HO517.out); rintro e w44 ⟨v521, rfl, ho0, hb⟩; refine ⟨_, rfl, ?_⟩; replace HO512 := vB HO512 hb; replace HO517 := vB HO517 hb; have HO522 := Aside0.mk (Kd.V_lower (Kd.V_mono (ok' := fun k_ => k_ ≠ gb513 ∧ k_ ≠ gb518) ho0 (fun k_ hk_ => ⟨Or.elim hk_ (fun hs_ => Or.elim hs_ (fun hs_ => hs_.1) (fun hs_ => hs_.1)) (fun hn_ => (Kd.freshB (g := gb513) (o := .cells #[.bool t509, .slice Ao35 t510.length co35] 27 (0, 0)) (by exact bkS BK513.out) k_ hn_)), Or.elim hk_ (fun hs_ => Or.elim hs_ (fun hs_ => hs_.2) (fun hs_ => hs_.2)) (fun hn_ => (Kd.freshB (g := gb518) (o := .cells #[.bool t514, .slice Ao40 t515.length co40] 27 (0, 0)) (by exact bkS BK518.out) k_ hn_))⟩)) (below_size (bG2 HB.out GE513.out GE518.out))); replace BK513 := bkB BK513 hb; replace BK518 := bkB BK518 hb; replace HB := Aside0.mk (below_step (bG2 HB.out GE513.out GE518.out) hb); (try clear hb); (try clear hb2); (try clear hk); (try clear hi); (try clear ho0)) | ((with_reducible refine gate_callee (f := 24) rfl ?_); refine goesL_ (some 34) rfl rfl Tryd.func24 (by kernel_rfl) rfl #[.int .u64 a0, .int .u64 a1] rfl (by (try simp only [List.map_toArray, List.map_cons, List.map_nil]); first | done | rfl) ?_; (with_reducible refine (soft_Add.calls kj15 a0 a1 t523 _ ?side1 A24.out).mono ?_); (case side1 => exact cS (Kd.C_below HT.out HB.out)); rintro e w45 ⟨rfl, hb⟩; refine ⟨_, rfl, ?_⟩; replace HO512 := vB HO512 hb; replace HO517 := vB HO517 hb; replace HO522 := vB HO522 hb; replace BK513 := bkB BK513 hb; replace BK518 := bkB BK518 hb; replace HB := Aside0.mk (below_step (bG2 HB.out GE513.out GE518.out) hb); (try clear hb); (try clear hb2); (try clear hk); (try clear hi)) | ((with_reducible refine gate_callee (f := 26) rfl ?_); refine goesL_ (some 35) rfl rfl Tryd.func26 (by kernel_rfl) rfl #[] rfl (by (try simp only [List.map_toArray, List.map_cons, List.map_nil]); first | done | rfl) ?_; (with_reducible refine (abacuslaw05_one.calls  t524 t525 _ A25.out).mono ?_); rintro e w46 ⟨v526, rfl, ho0, hb⟩; refine ⟨_, rfl, ?_⟩; replace HO512 := Aside0.mk (Kd.V_elder' (vS <| HO512.out) (Kd.R_base ho0) hb); replace HO517 := Aside0.mk (Kd.V_elder' (vS <| HO517.out) (Kd.R_base ho0) hb); replace HO522 := Aside0.mk (Kd.V_elder' (vS <| HO522.out) (Kd.R_base ho0) hb); have HO527 := Aside0.mk (Kd.R_lower ho0 (below_size (bG2 HB.out GE513.out GE518.out))); replace BK513 := bkB BK513 hb; replace BK518 := bkB BK518 hb; replace HB := Aside0.mk (below_step (bG2 HB.out GE513.out GE518.out) hb); (try clear hb); (try clear hb2); (try clear hk); (try clear hi); (try clear ho0); obtain ⟨Ao47, co47, eo47⟩ := Kd.V_slice HO522.out; subst eo47; obtain ⟨Ao48, co48, eo48⟩ := Kd.R_slice HO527.out; subst eo48) | ((with_reducible refine gate_callee (f := 25) rfl ?_); refine goesL_ (some 36) rfl rfl Tryd.func25 (by kernel_rfl) rfl #[.agg #[.bool t519, .slice Ao47 t520.length co47], .int .u64 t523, .agg #[.bool t524, .slice Ao48 t525.length co48]] rfl (by (try simp only [List.map_toArray, List.map_cons, List.map_nil]); first | done | rfl) ?_; (with_reducible refine (abacuslaw05_nearest.calls kj15 t519 _ _ t520 t523 t524 _ _ t525 true _ ?side1 ?side2 ?side3 ?side4 A26.out).mono ?_); (case side1 => exact cS (Kd.V_reads' HO522.out).2.2); (case side2 => exact (Kd.V_reads' HO522.out).2.1); (case side3 => exact cS (Kd.R_reads' HO527.out).2.2); (case side4 => exact (Kd.R_reads' HO527.out).2.1); rintro e w49 ⟨rfl, hb⟩; refine ⟨_, rfl, ?_⟩; replace HO512 := vB HO512 hb; replace HO517 := vB HO517 hb; replace HO522 := vB HO522 hb; replace HO527 := Aside0.mk (Kd.R_below (rS <| HO527.out) hb); replace BK513 := bkB BK513 hb; replace BK518 := bkB BK518 hb; replace HB := Aside0.mk (below_step (bG2 HB.out GE513.out GE518.out) hb); (try clear hb); (try clear hb2); (try clear hk); (try clear hi); have hcz50_0 : w49.cell? ⟨gb513, 0, none⟩ = some (.bool t509) := (blk_cell BK513.out 0).trans rfl; have hcz50_1 : w49.cell? ⟨gb513, 1, none⟩ = some (.slice Ao35 t510.length co35) := (blk_cell BK513.out 1).trans rfl; have hfz50_0 := blk_frozen BK513.out 0; have hfz50_1 := blk_frozen BK513.out 1; have hcz51_0 : w49.cell? ⟨gb518, 0, none⟩ = some (.bool t514) := (blk_cell BK518.out 0).trans rfl; have hcz51_1 : w49.cell? ⟨gb518, 1, none⟩ = some (.slice Ao40 t515.length co40) := (blk_cell BK518.out 1).trans rfl; have hfz51_0 := blk_frozen BK518.out 0; have hfz51_1 := blk_frozen BK518.out 1) | (go_at_call 22; (with_reducible refine (abacuslaw05_plus.calls kj15 t509 (fun k_ => ((k_ ≠ gb513 ∧ k_ ≠ gb518) ∧ some k_ ≠ (.slice Ao48 t525.length co48 : Value).ownBlock)) _ _ t510 (!t514) (fun k_ => ((k_ ≠ gb513 ∧ k_ ≠ gb518) ∧ some k_ ≠ (.slice Ao48 t525.length co48 : Value).ownBlock)) _ _ t515 t529 t530 _ ?side1 ?side2 A28.out).mono ?_); (case side1 => exact HO512.out); (case side2 => exact HO517.out); rintro e w52 ⟨v531, rfl, ho0, hb⟩; replace HO512 := vB HO512 hb; replace HO517 := vB HO517 hb; replace HO522 := vB HO522 hb; have HO532 := Aside0.mk (Kd.V_lower (Kd.V_mono (ok' := fun k_ => some k_ ≠ (.slice Ao48 t525.length co48 : Value).ownBlock ∧ k_ ≠ gb513 ∧ k_ ≠ gb518) ho0 (fun k_ hk_ => ⟨Or.elim hk_ (fun hs_ => Or.elim hs_ (fun hs_ => hs_.2) (fun hs_ => hs_.2)) (fun hn_ => (Kd.fresh' (Kd.R_lt (rS <| HO527.out)) k_ hn_)), Or.elim hk_ (fun hs_ => Or.elim hs_ (fun hs_ => hs_.1.1) (fun hs_ => hs_.1.1)) (fun hn_ => (Kd.freshB (g := gb513) (o := .cells #[.bool t509, .slice Ao35 t510.length co35] 27 (0, 0)) (by exact bkS BK513.out) k_ hn_)), Or.elim hk_ (fun hs_ => Or.elim hs_ (fun hs_ => hs_.1.2) (fun hs_ => hs_.1.2)) (fun hn_ => (Kd.freshB (g := gb518) (o := .cells #[.bool t514, .slice Ao40 t515.length co40] 27 (0, 0)) (by exact bkS BK518.out) k_ hn_))⟩)) (below_size (bG2 HB.out GE513.out GE518.out))); replace HO527 := Aside0.mk (Kd.R_below (rS <| HO527.out) hb); replace BK513 := bkB BK513 hb; replace BK518 := bkB BK518 hb; replace HB := Aside0.mk (below_step (bG2 HB.out GE513.out GE518.out) hb); (try clear hb); (try clear hb2); (try clear hk); (try clear hi); (try clear ho0)) | (go_at_call 20; (with_reducible refine (soft_Sub.calls kj15 a0 a1 t533 _ ?side1 A29.out).mono ?_); (case side1 => exact cS (Kd.C_below HT.out HB.out)); rintro e w53 ⟨rfl, hb⟩; replace HO512 := vB HO512 hb; replace HO517 := vB HO517 hb; replace HO522 := vB HO522 hb; replace HO527 := Aside0.mk (Kd.R_below (rS <| HO527.out) hb); replace HO532 := vB HO532 hb; replace BK513 := bkB BK513 hb; replace BK518 := bkB BK518 hb; replace HB := Aside0.mk (below_step (bG2 HB.out GE513.out GE518.out) hb); (try clear hb); (try clear hb2); (try clear hk); (try clear hi)) | (go_at_call 26; (with_reducible refine (abacuslaw05_one.calls  t534 t535 _ A30.out).mono ?_); rintro e w54 ⟨v536, rfl, ho0, hb⟩; replace HO512 := Aside0.mk (Kd.V_elder' (vS <| HO512.out) (Kd.R_base ho0) hb); replace HO517 := Aside0.mk (Kd.V_elder' (vS <| HO517.out) (Kd.R_base ho0) hb); replace HO522 := Aside0.mk (Kd.V_elder' (vS <| HO522.out) (Kd.R_base ho0) hb); replace HO532 := Aside0.mk (Kd.V_elder' (vS <| HO532.out) (Kd.R_base ho0) hb); have HO537 := Aside0.mk (Kd.R_lower (Kd.R_new' ho0 (Kd.R_lt (rS <| HO527.out))) (below_size (bG2 HB.out GE513.out GE518.out))); replace HO527 := Aside0.mk (Kd.R_elder' (rS <| HO527.out) (Kd.R_base ho0) hb); replace BK513 := bkB BK513 hb; replace BK518 := bkB BK518 hb; replace HB := Aside0.mk (below_step (bG2 HB.out GE513.out GE518.out) hb); (try clear hb); (try clear hb2); (try clear hk); (try clear hi); (try clear ho0); obtain ⟨Ao55, co55, eo55⟩ := Kd.V_slice HO532.out; subst eo55; obtain ⟨Ao56, co56, eo56⟩ := Kd.R_slice HO537.out; subst eo56) | (go_at_call 25; (with_reducible refine (abacuslaw05_nearest.calls kj15 t529 _ _ t530 t533 t534 _ _ t535 t538 _ ?side1 ?side2 ?side3 ?side4 A31.out).mono ?_); (case side1 => exact cS (Kd.V_reads' HO532.out).2.2); (case side2 => exact (Kd.V_reads' HO532.out).2.1); (case side3 => exact cS (Kd.R_reads' HO537.out).2.2); (case side4 => exact (Kd.R_reads' HO537.out).2.1); rintro e w57 ⟨rfl, hb⟩; replace HO512 := vB HO512 hb; replace HO517 := vB HO517 hb; replace HO522 := vB HO522 hb; replace HO527 := Aside0.mk (Kd.R_below (rS <| HO527.out) hb); replace HO532 := vB HO532 hb; replace HO537 := Aside0.mk (Kd.R_below (rS <| HO537.out) hb); replace BK513 := bkB BK513 hb; replace BK518 := bkB BK518 hb; replace HB := Aside0.mk (below_step (bG2 HB.out GE513.out GE518.out) hb); (try clear hb); (try clear hb2); (try clear hk); (try clear hi)))
        go_ret
        exact ⟨by first | rfl | (simp [errW_none, errW_some] <;> rfl) | (simp [*, errW_none, errW_some] <;> rfl), bG2 HB.out GE513.out GE518.out⟩
       ·replace c27 := Bool.eq_false_iff.mpr c27
        subst c27
        have H1 : (some false) = some r := by rw [if_neg (show ¬ (false = true) by decide)] at H; exact H
        clear H
        have H := H1
        clear H1
        obtain rfl := Option.some.inj H
        go_wp2_with (first | ((with_reducible refine gate_callee (f := 17) rfl ?_); refine goesL_ (some 26) rfl rfl Tryd.func17 (by kernel_rfl) rfl #[.int .u64 a0] rfl (by (try simp only [List.map_toArray, List.map_cons, List.map_nil]); first | done | rfl) ?_; (with_reducible refine (abacuslaw05_units.calls kj15 a0 t509 t510 _ A21.out).mono ?_); rintro e w58 ⟨v511, rfl, ho0, hb⟩; refine ⟨_, rfl, ?_⟩; have HO512 := Aside0.mk (Kd.V_lower (Kd.V_mono (ok' := fun k_ => True) ho0 (fun k_ hk_ => trivial)) (below_size (bS HB.out))); replace HB := hB HB hb; (try clear hb); (try clear hb2); (try clear hk); (try clear hi); (try clear ho0)) | ((with_reducible refine gate_dst (N := 5) rfl ?_); refine box_event ?hg (N := 5) ?hd (cs := #[.bool false, .slice none 0 0]) (t := 27) ?hr ?_; (case hd => rfl); (case hg => rfl); (case hr => first | (go_simp; done) | (go_simp; rfl)); intro gb513 hg w59 hbox hb; replace HO512 := Aside0.mk (Kd.V_below (Kd.V_elderB (vS <| HO512.out) gb513 (Nat.le_of_eq hg.symm)) hb); have BK513 := Aside0.mk (hbox); have GW513 := Aside0.mk ((by rw [hg]; exact (below_size (bS HB.out)) : w.heap.size ≤ gb513)); have GE513 := Aside0.mk ((by rw [hg]; exact (below_size (bS HB.out)) : w.heap.size ≤ gb513)); replace HB := hB HB hb; clear hb hbox hg; have hcz60_0 : w59.cell? ⟨gb513, 0, none⟩ = some (.bool false) := (blk_cell BK513.out 0).trans rfl; have hcz60_1 : w59.cell? ⟨gb513, 1, none⟩ = some (.slice none 0 0) := (blk_cell BK513.out 1).trans rfl; have hfz60_0 := blk_frozen BK513.out 0; have hfz60_1 := blk_frozen BK513.out 1; obtain ⟨Ao61, co61, eo61⟩ := Kd.V_slice HO512.out; subst eo61) | ((with_reducible refine gate_callee (f := 17) rfl ?_); refine goesL_ (some 28) rfl rfl Tryd.func17 (by kernel_rfl) rfl #[.int .u64 a1] rfl (by (try simp only [List.map_toArray, List.map_cons, List.map_nil]); first | done | rfl) ?_; (with_reducible refine (abacuslaw05_units.calls kj15 a1 t514 t515 _ A22.out).mono ?_); rintro e w62 ⟨v516, rfl, ho0, hb⟩; refine ⟨_, rfl, ?_⟩; replace HO512 := Aside0.mk (Kd.V_below (vS <| (Kd.V_mono (Kd.V_far (p := ⟨gb513, 1, none⟩) (Kd.V_far (p := ⟨gb513, 0, none⟩) (Kd.V_mono HO512.out (fun k_ hk => (⟨hk, hk.2⟩ : _ ∧ k_ ≠ gb513))) (fun _ hk => hk.2) (.bool t509)) (fun _ hk => hk.2) (.slice Ao61 t510.length co61)) (fun _ h_ => h_.1))) hb); have HO517 := Aside0.mk (Kd.V_lower (Kd.V_mono (ok' := fun k_ => k_ ≠ gb513) ho0 (fun k_ hk_ => (Kd.freshB (g := gb513) (o := .cells #[.bool t509, .slice Ao61 t510.length co61] 27 (0, 0)) (by refine blkP (cs := #[.bool t509, .slice none 0 0]) ?_ 1 _ rfl; refine blkP (cs := #[.bool false, .slice none 0 0]) ?_ 0 _ rfl; exact bkS BK513.out) k_ hk_))) (below_size (bG1 HB.out GE513.out))); replace BK513 := Aside0.mk (blk_below (g := gb513) (o := .cells #[.bool t509, .slice Ao61 t510.length co61] 27 (0, 0)) (by refine blkP (cs := #[.bool t509, .slice none 0 0]) ?_ 1 _ rfl; refine blkP (cs := #[.bool false, .slice none 0 0]) ?_ 0 _ rfl; exact bkS BK513.out) hb); replace HB := Aside0.mk (below_step (bG1 HB.out GE513.out) hb); (try clear hb); (try clear hb2); (try clear hk); (try clear hi); (try clear ho0)) | ((with_reducible refine gate_dst (N := 6) rfl ?_); refine box_event ?hg (N := 6) ?hd (cs := #[.bool false, .slice none 0 0]) (t := 27) ?hr ?_; (case hd => rfl); (case hg => rfl); (case hr => first | (go_simp; done) | (go_simp; rfl)); intro gb518 hg w63 hbox hb; replace HO512 := Aside0.mk (Kd.V_below (Kd.V_elderB (vS <| HO512.out) gb518 (Nat.le_of_eq hg.symm)) hb); replace HO517 := Aside0.mk (Kd.V_below (Kd.V_elderB (vS <| HO517.out) gb518 (Nat.le_of_eq hg.symm)) hb); have BK518 := Aside0.mk (hbox); have GW518 := Aside0.mk ((by rw [hg]; exact (below_size (bG1 HB.out GE513.out)) : w.heap.size ≤ gb518)); have GE518 := Aside0.mk ((by rw [hg]; exact (below_size (bG1 HB.out GE513.out)) : w.heap.size ≤ gb518)); replace HB := Aside0.mk (below_step (bG1 HB.out GE513.out) hb); have NB513_518 := Aside0.mk ((by rw [hg]; exact Nat.ne_of_lt (blk_lt (g := gb513) (o := .cells #[.bool t509, .slice Ao61 t510.length co61] 27 (0, 0)) (by exact bkS BK513.out)) : gb513 ≠ gb518)); have NB518_513 := Aside0.mk ((by rw [hg]; exact Nat.ne_of_gt (blk_lt (g := gb513) (o := .cells #[.bool t509, .slice Ao61 t510.length co61] 27 (0, 0)) (by exact bkS BK513.out)) : gb518 ≠ gb513)); replace BK513 := bkB BK513 hb; clear hb hbox hg; have hnb64 := NB518_513.out; have hnc64 := NB513_518.out; have hcz65_0 : w63.cell? ⟨gb518, 0, none⟩ = some (.bool false) := (blk_cell BK518.out 0).trans rfl; have hcz65_1 : w63.cell? ⟨gb518, 1, none⟩ = some (.slice none 0 0) := (blk_cell BK518.out 1).trans rfl; have hfz65_0 := blk_frozen BK518.out 0; have hfz65_1 := blk_frozen BK518.out 1; obtain ⟨Ao66, co66, eo66⟩ := Kd.V_slice HO517.out; subst eo66) | ((with_reducible refine gate_store (t := 27) (p := 6) rfl ?_); refine store_event (t := 27) (p := 6) (v := ?vo_w67) (w1 := ((w63.setCell ⟨gb518, 0, none⟩ (.bool t514)).setCell ⟨gb518, 1, none⟩ (.slice Ao66 t515.length co66))) ?hg ?ho ?hn ?hr ?_; (case ho => rfl); (case hg => rfl); (case hn => rfl); (case hr => first | (go_simp; done) | (go_simp; rfl)); intro w67 hw; have n0_ : Aside0 (Kd.V (Kd.int .u64) 22 w67 w.heap.size (fun k_ => k_ ≠ gb513 ∧ k_ ≠ gb518) (.slice Ao61 t510.length co61) t510) := ⟨(by rw [hw]; exact (vS <| Kd.V_mono (Kd.V_far (p := ⟨gb518, 1, none⟩) (Kd.V_far (p := ⟨gb518, 0, none⟩) (Kd.V_mono HO512.out (fun k_ hk => (⟨hk, hk.2⟩ : _ ∧ k_ ≠ gb518))) (fun _ hk => hk.2) (.bool t514)) (fun _ hk => hk.2) (.slice Ao66 t515.length co66)) (fun _ hk => ⟨hk.1.1.2, hk.1.2⟩)))⟩; have n1_ : Aside0 (Kd.V (Kd.int .u64) 22 w67 w.heap.size (fun k_ => k_ ≠ gb513 ∧ k_ ≠ gb518) (.slice Ao66 t515.length co66) t515) := ⟨(by rw [hw]; exact (vS <| Kd.V_mono (Kd.V_far (p := ⟨gb518, 1, none⟩) (Kd.V_far (p := ⟨gb518, 0, none⟩) (Kd.V_mono HO517.out (fun k_ hk => (⟨hk, hk.2⟩ : _ ∧ k_ ≠ gb518))) (fun _ hk => hk.2) (.bool t514)) (fun _ hk => hk.2) (.slice Ao66 t515.length co66)) (fun _ hk => ⟨hk.1.1, hk.1.2⟩)))⟩; have n2_ : Aside0 (w67.heap[gb513]? = some (.cells #[.bool t509, .slice Ao61 t510.length co61] 27 (0, 0))) := ⟨(by rw [hw]; exact (by refine blkF ?_ NB513_518.out _; refine blkF ?_ NB513_518.out _; exact bkS BK513.out))⟩; have n3_ : Aside0 (w67.heap[gb518]? = some (.cells #[.bool t514, .slice Ao66 t515.length co66] 27 (0, 0))) := ⟨(by rw [hw]; exact (by refine blkP (cs := #[.bool t514, .slice none 0 0]) ?_ 1 _ rfl; refine blkP (cs := #[.bool false, .slice none 0 0]) ?_ 0 _ rfl; exact bkS BK518.out))⟩; have n4_ : Aside0 (Below w.heap.size w w67) := ⟨(by rw [hw]; exact (bG2 HB.out GE513.out GE518.out))⟩; clear hw; clear HO512; clear HO517; clear BK513; clear BK518; clear HB; have HO512 := n0_; have HO517 := n1_; have BK513 := n2_; have BK518 := n3_; have HB := n4_; clear n0_ n1_ n2_ n3_ n4_; have hcz68_0 : w67.cell? ⟨gb513, 0, none⟩ = some (.bool t509) := (blk_cell BK513.out 0).trans rfl; have hcz68_1 : w67.cell? ⟨gb513, 1, none⟩ = some (.slice Ao61 t510.length co61) := (blk_cell BK513.out 1).trans rfl; have hfz68_0 := blk_frozen BK513.out 0; have hfz68_1 := blk_frozen BK513.out 1; have hcz69_0 : w67.cell? ⟨gb518, 0, none⟩ = some (.bool t514) := (blk_cell BK518.out 0).trans rfl; have hcz69_1 : w67.cell? ⟨gb518, 1, none⟩ = some (.slice Ao66 t515.length co66) := (blk_cell BK518.out 1).trans rfl; have hfz69_0 := blk_frozen BK518.out 0; have hfz69_1 := blk_frozen BK518.out 1) | ((with_reducible refine gate_callee (f := 22) rfl ?_); refine goesL_ (some 31) rfl rfl Tryd.func22 (by kernel_rfl) rfl #[.agg #[.bool t509, .slice Ao61 t510.length co61], .agg #[.bool t514, .slice Ao66 t515.length co66]] rfl (by (try simp only [List.map_toArray, List.map_cons, List.map_nil]); first | done | rfl) ?_; (with_reducible refine (abacuslaw05_plus.calls kj15 t509 (fun k_ => (k_ ≠ gb513 ∧ k_ ≠ gb518)) _ _ t510 t514 (fun k_ => (k_ ≠ gb513 ∧ k_ ≠ gb518)) _ _ t515 t519 t520 _ ?side1 ?side2 A23.out).mono ?_); (case side1 => exact HO512.out); (case side2 => exact HO517.out); rintro e w70 ⟨v521, rfl, ho0, hb⟩; refine ⟨_, rfl, ?_⟩; replace HO512 := vB HO512 hb; replace HO517 := vB HO517 hb; have HO522 := Aside0.mk (Kd.V_lower (Kd.V_mono (ok' := fun k_ => k_ ≠ gb513 ∧ k_ ≠ gb518) ho0 (fun k_ hk_ => ⟨Or.elim hk_ (fun hs_ => Or.elim hs_ (fun hs_ => hs_.1) (fun hs_ => hs_.1)) (fun hn_ => (Kd.freshB (g := gb513) (o := .cells #[.bool t509, .slice Ao61 t510.length co61] 27 (0, 0)) (by exact bkS BK513.out) k_ hn_)), Or.elim hk_ (fun hs_ => Or.elim hs_ (fun hs_ => hs_.2) (fun hs_ => hs_.2)) (fun hn_ => (Kd.freshB (g := gb518) (o := .cells #[.bool t514, .slice Ao66 t515.length co66] 27 (0, 0)) (by exact bkS BK518.out) k_ hn_))⟩)) (below_size (bG2 HB.out GE513.out GE518.out))); replace BK513 := bkB BK513 hb; replace BK518 := bkB BK518 hb; replace HB := Aside0.mk (below_step (bG2 HB.out GE513.out GE518.out) hb); (try clear hb); (try clear hb2); (try clear hk); (try clear hi); (try clear ho0)) | ((with_reducible refine gate_callee (f := 24) rfl ?_); refine goesL_ (some 34) rfl rfl Tryd.func24 (by kernel_rfl) rfl #[.int .u64 a0, .int .u64 a1] rfl (by (try simp only [List.map_toArray, List.map_cons, List.map_nil]); first | done | rfl) ?_; (with_reducible refine (soft_Add.calls kj15 a0 a1 t523 _ ?side1 A24.out).mono ?_); (case side1 => exact cS (Kd.C_below HT.out HB.out)); rintro e w71 ⟨rfl, hb⟩; refine ⟨_, rfl, ?_⟩; replace HO512 := vB HO512 hb; replace HO517 := vB HO517 hb; replace HO522 := vB HO522 hb; replace BK513 := bkB BK513 hb; replace BK518 := bkB BK518 hb; replace HB := Aside0.mk (below_step (bG2 HB.out GE513.out GE518.out) hb); (try clear hb); (try clear hb2); (try clear hk); (try clear hi)) | ((with_reducible refine gate_callee (f := 26) rfl ?_); refine goesL_ (some 35) rfl rfl Tryd.func26 (by kernel_rfl) rfl #[] rfl (by (try simp only [List.map_toArray, List.map_cons, List.map_nil]); first | done | rfl) ?_; (with_reducible refine (abacuslaw05_one.calls  t524 t525 _ A25.out).mono ?_); rintro e w72 ⟨v526, rfl, ho0, hb⟩; refine ⟨_, rfl, ?_⟩; replace HO512 := Aside0.mk (Kd.V_elder' (vS <| HO512.out) (Kd.R_base ho0) hb); replace HO517 := Aside0.mk (Kd.V_elder' (vS <| HO517.out) (Kd.R_base ho0) hb); replace HO522 := Aside0.mk (Kd.V_elder' (vS <| HO522.out) (Kd.R_base ho0) hb); have HO527 := Aside0.mk (Kd.R_lower ho0 (below_size (bG2 HB.out GE513.out GE518.out))); replace BK513 := bkB BK513 hb; replace BK518 := bkB BK518 hb; replace HB := Aside0.mk (below_step (bG2 HB.out GE513.out GE518.out) hb); (try clear hb); (try clear hb2); (try clear hk); (try clear hi); (try clear ho0); obtain ⟨Ao73, co73, eo73⟩ := Kd.V_slice HO522.out; subst eo73; obtain ⟨Ao74, co74, eo74⟩ := Kd.R_slice HO527.out; subst eo74) | ((with_reducible refine gate_callee (f := 25) rfl ?_); refine goesL_ (some 36) rfl rfl Tryd.func25 (by kernel_rfl) rfl #[.agg #[.bool t519, .slice Ao73 t520.length co73], .int .u64 t523, .agg #[.bool t524, .slice Ao74 t525.length co74]] rfl (by (try simp only [List.map_toArray, List.map_cons, List.map_nil]); first | done | rfl) ?_; (with_reducible refine (abacuslaw05_nearest.calls kj15 t519 _ _ t520 t523 t524 _ _ t525 false _ ?side1 ?side2 ?side3 ?side4 A26.out).mono ?_); (case side1 => exact cS (Kd.V_reads' HO522.out).2.2); (case side2 => exact (Kd.V_reads' HO522.out).2.1); (case side3 => exact cS (Kd.R_reads' HO527.out).2.2); (case side4 => exact (Kd.R_reads' HO527.out).2.1); rintro e w75 ⟨rfl, hb⟩; refine ⟨_, rfl, ?_⟩; replace HO512 := vB HO512 hb; replace HO517 := vB HO517 hb; replace HO522 := vB HO522 hb; replace HO527 := Aside0.mk (Kd.R_below (rS <| HO527.out) hb); replace BK513 := bkB BK513 hb; replace BK518 := bkB BK518 hb; replace HB := Aside0.mk (below_step (bG2 HB.out GE513.out GE518.out) hb); (try clear hb); (try clear hb2); (try clear hk); (try clear hi)))
        go_ret
        exact ⟨by first | rfl | (simp [errW_none, errW_some] <;> rfl) | (simp [*, errW_none, errW_some] <;> rfl), bG2 HB.out GE513.out GE518.out⟩

/-- THE ONE PURE STATEMENT of abacuslaw05_SoftNearSum: yours. -/
def abacuslaw05_SoftNearSum.Pure : Prop := ∀ (a0 : Int) (a1 : Int), (Lit.int .u64 a0).wf = true → (Lit.int .u64 a1).wf = true → ∃ k, abacuslaw05_SoftNearSum.f k a0 a1 = some true
theorem abacuslaw05_SoftNearSum.walk (P : abacuslaw05_SoftNearSum.Pure) (a0 : Int) (a1 : Int) (w : World) (hT : Kd.C (Kd.int .u8) w (some ⟨0, 0, none⟩) 64 tabL) (w0 : (Lit.int .u64 a0).wf = true) (w1 : (Lit.int .u64 a1).wf = true) :
  Calls Tryd.prog 5 #[.int .u64 a0, .int .u64 a1] w fun e w' => e = .returned (.bool true) ∧ Below w.heap.size w w' := by
 obtain ⟨k, h⟩ := P a0 a1 w0 w1
 refine (abacuslaw05_SoftNearSum.calls k a0 a1 true w hT h).mono ?_
 rintro e w' ⟨rfl, hd⟩
 exact ⟨rfl, hd⟩

end Go.Proofs.YtcdnoklokoplaaaDoor.PC
