-- printed by a program
import Derived.Test.YtegollbojafekaaDoorPSx0
import Derived.Test.YtegollbojafekaaDoorPSx1
import Derived.Test.YtegollbojafekaaDoorPSx5
import Derived.Test.YtegollbojafekaaDoorPSx6
import Derived.Test.YtegollbojafekaaDoorPSx8
import Derived.Test.YtegollbojafekaaDoorPSx9
import Derived.Test.YtegollbojafekaaDoorPSx10
namespace Go.Proofs.YtegollbojafekaaDoor.PS
open Go.Proofs.YtegollbojafekaaDoorX
open Go.RowKit Go.Proofs.YtegollbojafekaaDoorW.PrintWords Go.Proofs.YtegollbojafekaaDoorW.PrintLast Go.Proofs.YtegollbojafekaaDoorW.PrintMore
attribute [local go_sem] max2_int min2_int max_two min_two max_three min_three max_four min_four   -- for this text's walks alone
set_option linter.unusedVariables false
set_option linter.unusedSimpArgs false

/-! ### abacuslaw02_QuotHalves: function 8 -/
mutual
noncomputable def abacuslaw02_QuotHalves.j0 : Nat → List Int → List Int → Bool → Option (Bool)
  | 0, _, _, _ => none
  | k + 1, x0, x1, x25 => if x25 = true then (some false) else ((quot_Near.f k x0 x1).bind fun bt482 => ((abacuslaw02_errs.f k x0 x1).bind fun t486 => (if bt482.2 = t486 then (if bt482.2 = 0 then ((abacusref02_Top.f k x0).bind fun t487 => (if t487 > 4094 then (abacuslaw02_QuotHalves.j1 k x0 x1 bt482.1 true) else ((abacusref02_Top.f k x1).bind fun t488 => (abacuslaw02_QuotHalves.j1 k x0 x1 bt482.1 (decide (t488 > 4094)))))) else (some ((bt482.1.length : Int) == 0))) else (some false))))
noncomputable def abacuslaw02_QuotHalves.j1 : Nat → List Int → List Int → List Int → Bool → Option (Bool)
  | 0, _, _, _, _ => none
  | k + 1, x0, x1, x5, x49 => if x49 = true then (some true) else ((abacuslaw02_gap.f k x0 x1 x5).bind fun bt489 => (if bt489.2 = true then ((nat_Shl.f k bt489.1 1).bind fun bt493 => (if bt493.2 = 0 then ((nat_Cmp.f k bt493.1 x1).bind fun t497 => (if t497 < 0 then (some true) else (if t497 = 0 then ((nat_Bit.f x5 0).bind fun t498 => (some (t498 == 0))) else (some false)))) else (some false))) else (some false)))
end
noncomputable def abacuslaw02_QuotHalves.f (k : Nat) (l0 : List Int) (l1 : List Int) : Option (Bool) := (abacuslaw02_one.f 3).bind fun t468 => ((abacuslaw02_one.f 2).bind fun t471 => ((quot_Near.f k t468 t471).bind fun bt474 => (if bt474.2 = 0 then ((abacuslaw02_one.f 2).bind fun t478 => ((abacuslaw02_alike.f k bt474.1 t478).bind fun t481 => (abacuslaw02_QuotHalves.j0 k l0 l1 (!t481)))) else (abacuslaw02_QuotHalves.j0 k l0 l1 true))))
theorem abacuslaw02_QuotHalves.mono_l : ∀ k, (∀ y0 y1 y2, LeO (abacuslaw02_QuotHalves.j0 k y0 y1 y2) (abacuslaw02_QuotHalves.j0 (k + 1) y0 y1 y2)) ∧ (∀ y0 y1 y2 y3, LeO (abacuslaw02_QuotHalves.j1 k y0 y1 y2 y3) (abacuslaw02_QuotHalves.j1 (k + 1) y0 y1 y2 y3))
  | 0 => ⟨fun _ _ _ r h => by simp [abacuslaw02_QuotHalves.j0] at h, fun _ _ _ _ r h => by simp [abacuslaw02_QuotHalves.j1] at h⟩
  | k + 1 => by
    obtain ⟨ih0, ih1⟩ := abacuslaw02_QuotHalves.mono_l k
    refine ⟨?_, ?_⟩
    · intro y0 y1 y2
      unfold abacuslaw02_QuotHalves.j0
      repeat' first
      | (with_reducible exact ih0 _ _ _)
      | (with_reducible exact ih1 _ _ _ _)
      | (with_reducible exact abacuslaw02_alike.mono _ _ _)
      | (with_reducible exact abacuslaw02_errs.mono _ _ _)
      | (with_reducible exact abacuslaw02_gap.mono _ _ _ _)
      | (with_reducible exact abacusref02_Top.mono _ _)
      | (with_reducible exact nat_Cmp.mono _ _ _)
      | (with_reducible exact nat_Shl.mono _ _ _)
      | (with_reducible exact quot_Near.mono _ _ _)
      | (with_reducible exact LeO.refl _)
      | (with_reducible exact LeO.none _)
      | (with_reducible refine LeO.ite ?_ ?_)
      | (with_reducible refine LeO.bind ?_ (fun _ => ?_))
      | exact ih0 _ _ _
      | exact ih1 _ _ _ _
      | exact abacuslaw02_alike.mono _ _ _
      | exact abacuslaw02_errs.mono _ _ _
      | exact abacuslaw02_gap.mono _ _ _ _
      | exact abacusref02_Top.mono _ _
      | exact nat_Cmp.mono _ _ _
      | exact nat_Shl.mono _ _ _
      | exact quot_Near.mono _ _ _
      | exact LeO.none _
      | refine LeO.ite ?_ ?_
      | refine LeO.bind ?_ (fun _ => ?_)
    · intro y0 y1 y2 y3
      unfold abacuslaw02_QuotHalves.j1
      repeat' first
      | (with_reducible exact ih0 _ _ _)
      | (with_reducible exact ih1 _ _ _ _)
      | (with_reducible exact abacuslaw02_alike.mono _ _ _)
      | (with_reducible exact abacuslaw02_errs.mono _ _ _)
      | (with_reducible exact abacuslaw02_gap.mono _ _ _ _)
      | (with_reducible exact abacusref02_Top.mono _ _)
      | (with_reducible exact nat_Cmp.mono _ _ _)
      | (with_reducible exact nat_Shl.mono _ _ _)
      | (with_reducible exact quot_Near.mono _ _ _)
      | (with_reducible exact LeO.refl _)
      | (with_reducible exact LeO.none _)
      | (with_reducible refine LeO.ite ?_ ?_)
      | (with_reducible refine LeO.bind ?_ (fun _ => ?_))
      | exact ih0 _ _ _
      | exact ih1 _ _ _ _
      | exact abacuslaw02_alike.mono _ _ _
      | exact abacuslaw02_errs.mono _ _ _
      | exact abacuslaw02_gap.mono _ _ _ _
      | exact abacusref02_Top.mono _ _
      | exact nat_Cmp.mono _ _ _
      | exact nat_Shl.mono _ _ _
      | exact quot_Near.mono _ _ _
      | exact LeO.none _
      | refine LeO.ite ?_ ?_
      | refine LeO.bind ?_ (fun _ => ?_)
theorem abacuslaw02_QuotHalves.mono : ∀ a0 a1 k, LeO (abacuslaw02_QuotHalves.f k a0 a1) (abacuslaw02_QuotHalves.f (k + 1) a0 a1) := by
  intro a0 a1 k
  obtain ⟨ih0, ih1⟩ := abacuslaw02_QuotHalves.mono_l k
  unfold abacuslaw02_QuotHalves.f
  repeat' first
      | (with_reducible exact ih0 _ _ _)
      | (with_reducible exact ih1 _ _ _ _)
      | (with_reducible exact abacuslaw02_alike.mono _ _ _)
      | (with_reducible exact abacuslaw02_errs.mono _ _ _)
      | (with_reducible exact abacuslaw02_gap.mono _ _ _ _)
      | (with_reducible exact abacusref02_Top.mono _ _)
      | (with_reducible exact nat_Cmp.mono _ _ _)
      | (with_reducible exact nat_Shl.mono _ _ _)
      | (with_reducible exact quot_Near.mono _ _ _)
      | (with_reducible exact LeO.refl _)
      | (with_reducible exact LeO.none _)
      | (with_reducible refine LeO.ite ?_ ?_)
      | (with_reducible refine LeO.bind ?_ (fun _ => ?_))
      | exact ih0 _ _ _
      | exact ih1 _ _ _ _
      | exact abacuslaw02_alike.mono _ _ _
      | exact abacuslaw02_errs.mono _ _ _
      | exact abacuslaw02_gap.mono _ _ _ _
      | exact abacusref02_Top.mono _ _
      | exact nat_Cmp.mono _ _ _
      | exact nat_Shl.mono _ _ _
      | exact quot_Near.mono _ _ _
      | exact LeO.none _
      | refine LeO.ite ?_ ?_
      | refine LeO.bind ?_ (fun _ => ?_)
set_option maxHeartbeats 8000000 in
set_option maxRecDepth 100000 in
theorem abacuslaw02_QuotHalves.calls (k : Nat) (A0 : Option Addr) (c0 : Nat) (l0 : List Int) (A1 : Option Addr) (c1 : Nat) (l1 : List Int) (r : Bool) (w : World) (hT : Kd.C (Kd.int .u8) w (some ⟨2, 0, none⟩) 64 tabL) (hr0 : Kd.C (Kd.int .u64) w A0 l0.length l0) (hc0 : l0.length ≤ c0) (hr1 : Kd.C (Kd.int .u64) w A1 l1.length l1) (hc1 : l1.length ≤ c1) (h : abacuslaw02_QuotHalves.f k l0 l1 = some r) :
    Calls Tryd.prog 8 #[.slice A0 l0.length c0, .slice A1 l1.length c1] w fun e w' => e = .returned (.bool r) ∧ Below w.heap.size w w' := by
  have HT := Aside0.mk hT
  clear hT
  have HR0 := Aside0.mk hr0
  have HC0 := Aside0.mk hc0
  clear hr0 hc0
  have HR1 := Aside0.mk hr1
  have HC1 := Aside0.mk hc1
  clear hr1 hc1
  have HB := Aside0.mk (Below.refl w.heap.size w)
  have H : ((abacuslaw02_one.f 3).bind fun t468 => ((abacuslaw02_one.f 2).bind fun t471 => ((quot_Near.f k t468 t471).bind fun bt474 => (if bt474.2 = 0 then ((abacuslaw02_one.f 2).bind fun t478 => ((abacuslaw02_alike.f k bt474.1 t478).bind fun t481 => (abacuslaw02_QuotHalves.j0 k l0 l1 (!t481)))) else (abacuslaw02_QuotHalves.j0 k l0 l1 true))))) = some r := h
  clear h
  replace H := Option.bind_eq_some_iff.mp H
  obtain ⟨t468, A30, H⟩ := H
  replace H : ((abacuslaw02_one.f 2).bind fun t471 => ((quot_Near.f k t468 t471).bind fun bt474 => (if bt474.2 = 0 then ((abacuslaw02_one.f 2).bind fun t478 => ((abacuslaw02_alike.f k bt474.1 t478).bind fun t481 => (abacuslaw02_QuotHalves.j0 k l0 l1 (!t481)))) else (abacuslaw02_QuotHalves.j0 k l0 l1 true)))) = some r := H
  have A3 := Aside0.mk A30
  clear A30
  replace H := Option.bind_eq_some_iff.mp H
  obtain ⟨t471, A40, H⟩ := H
  replace H : ((quot_Near.f k t468 t471).bind fun bt474 => (if bt474.2 = 0 then ((abacuslaw02_one.f 2).bind fun t478 => ((abacuslaw02_alike.f k bt474.1 t478).bind fun t481 => (abacuslaw02_QuotHalves.j0 k l0 l1 (!t481)))) else (abacuslaw02_QuotHalves.j0 k l0 l1 true))) = some r := H
  have A4 := Aside0.mk A40
  clear A40
  replace H := Option.bind_eq_some_iff.mp H
  obtain ⟨⟨t474, t477⟩, A50, H⟩ := H
  replace H : (if t477 = 0 then ((abacuslaw02_one.f 2).bind fun t478 => ((abacuslaw02_alike.f k t474 t478).bind fun t481 => (abacuslaw02_QuotHalves.j0 k l0 l1 (!t481)))) else (abacuslaw02_QuotHalves.j0 k l0 l1 true)) = some r := H
  have A5 := Aside0.mk A50
  clear A50
  have HC6 := Aside0.mk H
  clear H
  go_enter Tryd.func8, Tryd.ntmps8
  go_upto_region 2 with (first | ((with_reducible refine gate_callee (f := 11) rfl ?_); refine goesL_ (some 13) rfl rfl Tryd.func11 (by kernel_rfl) rfl #[.int .u64 3] rfl (by (try simp only [List.map_toArray, List.map_cons, List.map_nil]); first | done | rfl | (simp only [List.length_drop, List.length_take]; rfl) | (simp only [gt_iff_lt, Int.natCast_pos]; done) | (simp only [gt_iff_lt, Int.natCast_pos]; rfl)) ?_; (with_reducible refine (abacuslaw02_one.calls 3 t468 _ A3.out).mono ?_); rintro e w7 ⟨v469, rfl, ho0, hb⟩; refine ⟨_, rfl, ?_⟩; have n0_ := Aside0.mk (Kd.R_lower ho0 (below_size (by repeat (first | (with_reducible first | exact HB.out | apply below_alloc | apply pw_below_drewN | apply below_drew1) | exact HB.out)))); have n1_ := Aside0.mk (below_step (by repeat (first | (with_reducible first | exact HB.out | apply below_alloc | apply pw_below_drewN | apply below_drew1) | exact HB.out)) hb); clear HB; have HO470 := n0_; have HB := n1_; clear n0_ n1_; (try clear hb); (try clear hb2); (try clear hk); (try clear hi); (try clear ho0)) | ((with_reducible refine gate_callee (f := 11) rfl ?_); refine goesL_ (some 14) rfl rfl Tryd.func11 (by kernel_rfl) rfl #[.int .u64 2] rfl (by (try simp only [List.map_toArray, List.map_cons, List.map_nil]); first | done | rfl | (simp only [List.length_drop, List.length_take]; rfl) | (simp only [gt_iff_lt, Int.natCast_pos]; done) | (simp only [gt_iff_lt, Int.natCast_pos]; rfl)) ?_; (with_reducible refine (abacuslaw02_one.calls 2 t471 _ A4.out).mono ?_); rintro e w8 ⟨v472, rfl, ho0, hb⟩; refine ⟨_, rfl, ?_⟩; have n0_ := Aside0.mk (Kd.R_elder' (by (with_reducible repeat (first | apply Kd.R_alloc | apply Kd.R_drewN | apply Kd.R_drew)); exact HO470.out) (Kd.R_base ho0) hb); have n1_ := Aside0.mk (Kd.R_lower (Kd.R_new' ho0 (Kd.R_lt (by (with_reducible repeat (first | apply Kd.R_alloc | apply Kd.R_drewN | apply Kd.R_drew)); exact HO470.out))) (below_size (by repeat (first | (with_reducible first | exact HB.out | apply below_alloc | apply pw_below_drewN | apply below_drew1) | exact HB.out)))); have n2_ := Aside0.mk (below_step (by repeat (first | (with_reducible first | exact HB.out | apply below_alloc | apply pw_below_drewN | apply below_drew1) | exact HB.out)) hb); clear HO470; clear HB; have HO470 := n0_; have HO473 := n1_; have HB := n2_; clear n0_ n1_ n2_; (try clear hb); (try clear hb2); (try clear hk); (try clear hi); (try clear ho0); obtain ⟨Ao9, co9, eo9⟩ := Kd.R_slice HO470.out; subst eo9; obtain ⟨Ao10, co10, eo10⟩ := Kd.R_slice HO473.out; subst eo10) | ((with_reducible refine gate_callee (f := 24) rfl ?_); refine goesL_ (some 15) rfl rfl Tryd.func24 (by kernel_rfl) rfl #[.slice Ao9 t468.length co9, .slice Ao10 t471.length co10] rfl (by (try simp only [List.map_toArray, List.map_cons, List.map_nil]); first | done | rfl | (simp only [List.length_drop, List.length_take]; rfl) | (simp only [gt_iff_lt, Int.natCast_pos]; done) | (simp only [gt_iff_lt, Int.natCast_pos]; rfl)) ?_; (with_reducible refine (quot_Near.calls k _ _ t468 _ _ t471 t474 t477 _ ?side5 ?side1 ?side2 ?side3 ?side4 A5.out).mono ?_); (case side1 => repeat (first | exact (Kd.R_reads' HO470.out).2.2 | (with_reducible refine Kd.C_alloc ?_ _) | (with_reducible refine Kd.C_drewN ?_ _) | (with_reducible refine Kd.C_drew ?_))); (case side2 => exact (Kd.R_reads' HO470.out).2.1); (case side3 => repeat (first | exact (Kd.R_reads' HO473.out).2.2 | (with_reducible refine Kd.C_alloc ?_ _) | (with_reducible refine Kd.C_drewN ?_ _) | (with_reducible refine Kd.C_drew ?_))); (case side4 => exact (Kd.R_reads' HO473.out).2.1); (case side5 => repeat (first | exact (Kd.C_below HT.out HB.out) | (with_reducible refine Kd.C_alloc ?_ _) | (with_reducible refine Kd.C_drewN ?_ _) | (with_reducible refine Kd.C_drew ?_))); rintro e w11 ⟨v475, rfl, ho0, hb⟩; refine ⟨_, rfl, ?_⟩; have n0_ := Aside0.mk (Kd.R_below (by (with_reducible repeat (first | apply Kd.R_alloc | apply Kd.R_drewN | apply Kd.R_drew)); exact HO470.out) hb); have n1_ := Aside0.mk (Kd.R_below (by (with_reducible repeat (first | apply Kd.R_alloc | apply Kd.R_drewN | apply Kd.R_drew)); exact HO473.out) hb); have n2_ := Aside0.mk (Kd.V_lower (Kd.V_mono (ok' := fun k_ => some k_ ≠ (.slice Ao9 t468.length co9 : Value).ownBlock ∧ some k_ ≠ (.slice Ao10 t471.length co10 : Value).ownBlock) ho0 (fun k_ hk_ => ⟨(Kd.fresh' (Kd.R_lt (by (with_reducible repeat (first | apply Kd.R_alloc | apply Kd.R_drewN | apply Kd.R_drew)); exact HO470.out)) k_ hk_), (Kd.fresh' (Kd.R_lt (by (with_reducible repeat (first | apply Kd.R_alloc | apply Kd.R_drewN | apply Kd.R_drew)); exact HO473.out)) k_ hk_)⟩)) (below_size (by repeat (first | (with_reducible first | exact HB.out | apply below_alloc | apply pw_below_drewN | apply below_drew1) | exact HB.out)))); have n3_ := Aside0.mk (below_step (by repeat (first | (with_reducible first | exact HB.out | apply below_alloc | apply pw_below_drewN | apply below_drew1) | exact HB.out)) hb); clear HO470; clear HO473; clear HB; have HO470 := n0_; have HO473 := n1_; have HO476 := n2_; have HB := n3_; clear n0_ n1_ n2_ n3_; (try clear hb); (try clear hb2); (try clear hk); (try clear hi); (try clear ho0)))
  (try simp only [Act.put, List.setIfInBounds_toArray, List.set_cons_zero, List.set_cons_succ])
  go_cut [25] (fun v25 wc => ∃ (kq : Nat) (x25_5 : Bool), v25 = .bool x25_5 ∧ Aside0 (abacuslaw02_QuotHalves.j0 kq l0 l1 x25_5 = some r) ∧ Aside0 (kq ≤ k) ∧ Aside0 (Below w.heap.size w wc))
  case first =>
    have H := HC6.out
    clear HC6
    by_cases c12 : t477 = 0
    · rw [if_pos c12] at H
      have c12b0 : (t477 == 0) = true := beq_iff_eq.mpr c12
      have c12b1 : (t477 != 0) = false := bne_eq_false_iff_eq.mpr c12
      clear c12
      (first | rw [c12b0] | (simp only [i64_w, i32_w]; rw [c12b0]) | rw [c12b1] | skip)
      replace H := Option.bind_eq_some_iff.mp H
      obtain ⟨t478, A130, H⟩ := H
      replace H : ((abacuslaw02_alike.f k t474 t478).bind fun t481 => (abacuslaw02_QuotHalves.j0 k l0 l1 (!t481))) = some r := H
      have A13 := Aside0.mk A130
      clear A130
      replace H := Option.bind_eq_some_iff.mp H
      obtain ⟨t481, A140, H⟩ := H
      replace H : (abacuslaw02_QuotHalves.j0 k l0 l1 (!t481)) = some r := H
      have A14 := Aside0.mk A140
      clear A140
      have H' := Aside0.mk H
      clear H
      go_wp2_with (first | (go_at_call 11; (with_reducible refine (abacuslaw02_one.calls 2 t478 _ A13.out).mono ?_); rintro e w15 ⟨v479, rfl, ho0, hb⟩; have n0_ := Aside0.mk (Kd.R_elder' (by (with_reducible repeat (first | apply Kd.R_alloc | apply Kd.R_drewN | apply Kd.R_drew)); exact HO470.out) (Kd.R_base ho0) hb); have n1_ := Aside0.mk (Kd.R_elder' (by (with_reducible repeat (first | apply Kd.R_alloc | apply Kd.R_drewN | apply Kd.R_drew)); exact HO473.out) (Kd.R_base ho0) hb); have n2_ := Aside0.mk (Kd.V_elder' (by (with_reducible repeat (first | apply Kd.V_alloc | apply Kd.V_drewN | apply Kd.V_drew)); exact HO476.out) (Kd.R_base ho0) hb); have n3_ := Aside0.mk (Kd.R_lower (Kd.R_new' (Kd.R_new' ho0 (Kd.R_lt (by (with_reducible repeat (first | apply Kd.R_alloc | apply Kd.R_drewN | apply Kd.R_drew)); exact HO470.out))) (Kd.R_lt (by (with_reducible repeat (first | apply Kd.R_alloc | apply Kd.R_drewN | apply Kd.R_drew)); exact HO473.out))) (below_size (by repeat (first | (with_reducible first | exact HB.out | apply below_alloc | apply pw_below_drewN | apply below_drew1) | exact HB.out)))); have n4_ := Aside0.mk (below_step (by repeat (first | (with_reducible first | exact HB.out | apply below_alloc | apply pw_below_drewN | apply below_drew1) | exact HB.out)) hb); clear HO470; clear HO473; clear HO476; clear HB; have HO470 := n0_; have HO473 := n1_; have HO476 := n2_; have HO480 := n3_; have HB := n4_; clear n0_ n1_ n2_ n3_ n4_; (try clear hb); (try clear hb2); (try clear hk); (try clear hi); (try clear ho0); obtain ⟨Ao16, co16, eo16⟩ := Kd.V_slice HO476.out; subst eo16; obtain ⟨Ao17, co17, eo17⟩ := Kd.R_slice HO480.out; subst eo17) | (go_at_call 12; (with_reducible refine (abacuslaw02_alike.calls k _ _ t474 _ _ t478 t481 _ ?side1 ?side2 ?side3 ?side4 A14.out).mono ?_); (case side1 => repeat (first | exact (Kd.V_reads' HO476.out).2.2 | (with_reducible refine Kd.C_alloc ?_ _) | (with_reducible refine Kd.C_drewN ?_ _) | (with_reducible refine Kd.C_drew ?_))); (case side2 => exact (Kd.V_reads' HO476.out).2.1); (case side3 => repeat (first | exact (Kd.R_reads' HO480.out).2.2 | (with_reducible refine Kd.C_alloc ?_ _) | (with_reducible refine Kd.C_drewN ?_ _) | (with_reducible refine Kd.C_drew ?_))); (case side4 => exact (Kd.R_reads' HO480.out).2.1); rintro e w' ⟨rfl, ⟨nd, rfl⟩⟩))
      go_meet
      case rel => exact ⟨_, (!t481), (by first | rfl | (simp; done) | (simp [*]; done)), H', ⟨by first | omega | exact Nat.le_refl _⟩, ⟨by repeat (first | (with_reducible first | exact HB.out | apply below_alloc | apply pw_below_drewN | apply below_drew1) | exact HB.out)⟩⟩
    · rw [if_neg c12] at H
      have c12b0 : (t477 == 0) = false := beq_eq_false_iff_ne.mpr c12
      have c12b1 : (t477 != 0) = true := bne_iff_ne.mpr c12
      (first | rw [c12b0] | (simp only [i64_w, i32_w]; rw [c12b0]) | rw [c12b1] | skip)
      have H' := Aside0.mk H
      clear H
      go_wp2
      go_meet
      case rel => exact ⟨_, (true), (by first | rfl | (simp; done) | (simp [*]; done)), H', ⟨by first | omega | exact Nat.le_refl _⟩, ⟨by repeat (first | (with_reducible first | exact HB.out | apply below_alloc | apply pw_below_drewN | apply below_drew1) | exact HB.out)⟩⟩
  case rest =>
    clear HC6
    try clear c1
    try clear c2
    try clear p2
    try clear c8
    try clear c11
    try clear c12
    try clear c12b0
    try clear c12b1
    obtain ⟨kq, x25_5, rfl, HA, HJ5, HB⟩ := hcut
    cases kq with
    | zero => exact absurd HA.out (by simp [abacuslaw02_QuotHalves.j0])
    | succ kj5 =>
      have H := HA.out
      clear HA
      simp only [abacuslaw02_QuotHalves.j0] at H
      by_cases c18 : x25_5 = true
      · subst c18
        have H1 : (some false) = some r := by rw [if_pos rfl] at H; exact H
        clear H
        have H := H1
        clear H1
        obtain rfl := Option.some.inj H
        go_wp2
        go_ret
        exact ⟨by first | rfl | (simp [errW_none, errW_some] <;> rfl) | (simp [*, errW_none, errW_some] <;> rfl), by repeat (first | (with_reducible first | exact HB.out | apply below_alloc | apply pw_below_drewN | apply below_drew1) | exact HB.out)⟩
      · replace c18 := Bool.eq_false_iff.mpr c18
        subst c18
        have H1 : ((quot_Near.f kj5 l0 l1).bind fun bt482 => ((abacuslaw02_errs.f kj5 l0 l1).bind fun t486 => (if bt482.2 = t486 then (if bt482.2 = 0 then ((abacusref02_Top.f kj5 l0).bind fun t487 => (if t487 > 4094 then (abacuslaw02_QuotHalves.j1 kj5 l0 l1 bt482.1 true) else ((abacusref02_Top.f kj5 l1).bind fun t488 => (abacuslaw02_QuotHalves.j1 kj5 l0 l1 bt482.1 (decide (t488 > 4094)))))) else (some ((bt482.1.length : Int) == 0))) else (some false)))) = some r := by rw [if_neg (show ¬ (false = true) by decide)] at H; exact H
        clear H
        have H := H1
        clear H1
        replace H := Option.bind_eq_some_iff.mp H
        obtain ⟨⟨t482, t485⟩, A190, H⟩ := H
        replace H : ((abacuslaw02_errs.f kj5 l0 l1).bind fun t486 => (if t485 = t486 then (if t485 = 0 then ((abacusref02_Top.f kj5 l0).bind fun t487 => (if t487 > 4094 then (abacuslaw02_QuotHalves.j1 kj5 l0 l1 t482 true) else ((abacusref02_Top.f kj5 l1).bind fun t488 => (abacuslaw02_QuotHalves.j1 kj5 l0 l1 t482 (decide (t488 > 4094)))))) else (some ((t482.length : Int) == 0))) else (some false))) = some r := H
        have A19 := Aside0.mk A190
        clear A190
        replace H := Option.bind_eq_some_iff.mp H
        obtain ⟨t486, A200, H⟩ := H
        replace H : (if t485 = t486 then (if t485 = 0 then ((abacusref02_Top.f kj5 l0).bind fun t487 => (if t487 > 4094 then (abacuslaw02_QuotHalves.j1 kj5 l0 l1 t482 true) else ((abacusref02_Top.f kj5 l1).bind fun t488 => (abacuslaw02_QuotHalves.j1 kj5 l0 l1 t482 (decide (t488 > 4094)))))) else (some ((t482.length : Int) == 0))) else (some false)) = some r := H
        have A20 := Aside0.mk A200
        clear A200
        by_cases c21 : t485 = t486
        · rw [if_pos c21] at H
          have c21b0 : (t485 == t486) = true := beq_iff_eq.mpr c21
          have c21b1 : (t485 != t486) = false := bne_eq_false_iff_eq.mpr c21
          clear c21
          by_cases c22 : t485 = 0
          · rw [if_pos c22] at H
            have c22b0 : (t485 == 0) = true := beq_iff_eq.mpr c22
            have c22b1 : (t485 != 0) = false := bne_eq_false_iff_eq.mpr c22
            clear c22
            have HC23 := Aside0.mk H
            clear H
            go_upto_region 9 with (first | ((with_reducible refine gate_callee (f := 24) rfl ?_); refine goesL_ (some 29) rfl rfl Tryd.func24 (by kernel_rfl) rfl #[.slice A0 l0.length c0, .slice A1 l1.length c1] rfl (by (try simp only [List.map_toArray, List.map_cons, List.map_nil]); first | done | rfl | (simp only [List.length_drop, List.length_take]; rfl) | (simp only [gt_iff_lt, Int.natCast_pos]; done) | (simp only [gt_iff_lt, Int.natCast_pos]; rfl)) ?_; (with_reducible refine (quot_Near.calls kj5 _ _ l0 _ _ l1 t482 t485 _ ?side5 ?side1 ?side2 ?side3 ?side4 A19.out).mono ?_); (case side1 => repeat (first | exact (Kd.C_below HR0.out HB.out) | (with_reducible refine Kd.C_alloc ?_ _) | (with_reducible refine Kd.C_drewN ?_ _) | (with_reducible refine Kd.C_drew ?_))); (case side2 => exact HC0.out); (case side3 => repeat (first | exact (Kd.C_below HR1.out HB.out) | (with_reducible refine Kd.C_alloc ?_ _) | (with_reducible refine Kd.C_drewN ?_ _) | (with_reducible refine Kd.C_drew ?_))); (case side4 => exact HC1.out); (case side5 => repeat (first | exact (Kd.C_below HT.out HB.out) | (with_reducible refine Kd.C_alloc ?_ _) | (with_reducible refine Kd.C_drewN ?_ _) | (with_reducible refine Kd.C_drew ?_))); rintro e w24 ⟨v483, rfl, ho0, hb⟩; refine ⟨_, rfl, ?_⟩; have n0_ := Aside0.mk (Kd.V_lower (Kd.V_mono (ok' := fun k_ => True) ho0 (fun k_ hk_ => trivial)) (below_size (by repeat (first | (with_reducible first | exact HB.out | apply below_alloc | apply pw_below_drewN | apply below_drew1) | exact HB.out)))); have n1_ := Aside0.mk (below_step (by repeat (first | (with_reducible first | exact HB.out | apply below_alloc | apply pw_below_drewN | apply below_drew1) | exact HB.out)) hb); clear HB; have HO484 := n0_; have HB := n1_; clear n0_ n1_; (try clear hb); (try clear hb2); (try clear hk); (try clear hi); (try clear ho0)) | ((with_reducible refine gate_callee (f := 13) rfl ?_); refine goesL_ (some 35) rfl rfl Tryd.func13 (by kernel_rfl) rfl #[.slice A0 l0.length c0, .slice A1 l1.length c1] rfl (by (try simp only [List.map_toArray, List.map_cons, List.map_nil]); first | done | rfl | (simp only [List.length_drop, List.length_take]; rfl) | (simp only [gt_iff_lt, Int.natCast_pos]; done) | (simp only [gt_iff_lt, Int.natCast_pos]; rfl)) ?_; (with_reducible refine (abacuslaw02_errs.calls kj5 _ _ l0 _ _ l1 t486 _ ?side1 ?side2 ?side3 ?side4 A20.out).mono ?_); (case side1 => repeat (first | exact (Kd.C_below HR0.out HB.out) | (with_reducible refine Kd.C_alloc ?_ _) | (with_reducible refine Kd.C_drewN ?_ _) | (with_reducible refine Kd.C_drew ?_))); (case side2 => exact HC0.out); (case side3 => repeat (first | exact (Kd.C_below HR1.out HB.out) | (with_reducible refine Kd.C_alloc ?_ _) | (with_reducible refine Kd.C_drewN ?_ _) | (with_reducible refine Kd.C_drew ?_))); (case side4 => exact HC1.out); rintro e w' ⟨rfl, ⟨nd, rfl⟩⟩; refine ⟨_, rfl, ?_⟩))
            (try simp only [Act.put, List.setIfInBounds_toArray, List.set_cons_zero, List.set_cons_succ])
            go_cut [49] (fun v49 wc => ∃ (kq : Nat) (x49_22 : Bool), v49 = .bool x49_22 ∧ Aside0 (abacuslaw02_QuotHalves.j1 kq l0 l1 t482 x49_22 = some r) ∧ Aside0 (kq ≤ kj5) ∧ Aside0 (Kd.V (Kd.int .u64) 27 wc w.heap.size (fun _ => True) v483 t482) ∧ Aside0 (Below w.heap.size w wc))
            case first =>
              have H := HC23.out
              clear HC23
              replace H := Option.bind_eq_some_iff.mp H
              obtain ⟨t487, A250, H⟩ := H
              replace H : (if t487 > 4094 then (abacuslaw02_QuotHalves.j1 kj5 l0 l1 t482 true) else ((abacusref02_Top.f kj5 l1).bind fun t488 => (abacuslaw02_QuotHalves.j1 kj5 l0 l1 t482 (decide (t488 > 4094))))) = some r := H
              have A25 := Aside0.mk A250
              clear A250
              by_cases c26 : t487 > 4094
              · rw [if_pos c26] at H
                have c26b0 : decide (4094 < t487) = true := decide_eq_true c26
                clear c26
                (first | rw [c26b0] | (simp only [i64_w, i32_w]; rw [c26b0]) | rw [c26b1] | skip)
                have H' := Aside0.mk H
                clear H
                go_wp2_with (first | ((with_reducible refine gate_callee (f := 21) rfl ?_); refine goesL_ (some 43) rfl rfl Tryd.func21 (by kernel_rfl) rfl #[.slice A0 l0.length c0] rfl (by (try simp only [List.map_toArray, List.map_cons, List.map_nil]); first | done | rfl | (simp only [List.length_drop, List.length_take]; rfl) | (simp only [gt_iff_lt, Int.natCast_pos]; done) | (simp only [gt_iff_lt, Int.natCast_pos]; rfl)) ?_; (with_reducible refine (abacusref02_Top.calls kj5 _ _ l0 t487 _ ?side1 ?side2 A25.out).mono ?_); (case side1 => repeat (first | exact (Kd.C_below HR0.out HB.out) | (with_reducible refine Kd.C_alloc ?_ _) | (with_reducible refine Kd.C_drewN ?_ _) | (with_reducible refine Kd.C_drew ?_))); (case side2 => exact HC0.out); rintro e w' ⟨rfl, ⟨nd, rfl⟩⟩; refine ⟨_, rfl, ?_⟩))
                go_meet
                case rel => exact ⟨_, (true), (by first | rfl | (simp; done) | (simp [*]; done)), H', ⟨by have := HJ5.out; first | omega | exact Nat.le_refl _⟩, ⟨by (with_reducible repeat (first | apply Kd.V_alloc | apply Kd.V_drewN | apply Kd.V_drew)); exact HO484.out⟩, ⟨by repeat (first | (with_reducible first | exact HB.out | apply below_alloc | apply pw_below_drewN | apply below_drew1) | exact HB.out)⟩⟩
              · rw [if_neg c26] at H
                have c26b0 : decide (4094 < t487) = false := decide_eq_false c26
                clear c26
                (first | rw [c26b0] | (simp only [i64_w, i32_w]; rw [c26b0]) | rw [c26b1] | skip)
                replace H := Option.bind_eq_some_iff.mp H
                obtain ⟨t488, A270, H⟩ := H
                replace H : (abacuslaw02_QuotHalves.j1 kj5 l0 l1 t482 (decide (t488 > 4094))) = some r := H
                have A27 := Aside0.mk A270
                clear A270
                have H' := Aside0.mk H
                clear H
                go_wp2_with (first | ((with_reducible refine gate_callee (f := 21) rfl ?_); refine goesL_ (some 43) rfl rfl Tryd.func21 (by kernel_rfl) rfl #[.slice A0 l0.length c0] rfl (by (try simp only [List.map_toArray, List.map_cons, List.map_nil]); first | done | rfl | (simp only [List.length_drop, List.length_take]; rfl) | (simp only [gt_iff_lt, Int.natCast_pos]; done) | (simp only [gt_iff_lt, Int.natCast_pos]; rfl)) ?_; (with_reducible refine (abacusref02_Top.calls kj5 _ _ l0 t487 _ ?side1 ?side2 A25.out).mono ?_); (case side1 => repeat (first | exact (Kd.C_below HR0.out HB.out) | (with_reducible refine Kd.C_alloc ?_ _) | (with_reducible refine Kd.C_drewN ?_ _) | (with_reducible refine Kd.C_drew ?_))); (case side2 => exact HC0.out); rintro e w' ⟨rfl, ⟨nd, rfl⟩⟩; refine ⟨_, rfl, ?_⟩) | (go_at_call 21; (with_reducible refine (abacusref02_Top.calls kj5 _ _ l1 t488 _ ?side1 ?side2 A27.out).mono ?_); (case side1 => repeat (first | exact (Kd.C_below HR1.out (by repeat (first | (with_reducible first | exact HB.out | apply below_alloc | apply pw_below_drewN | apply below_drew1) | exact HB.out))) | (with_reducible refine Kd.C_alloc ?_ _) | (with_reducible refine Kd.C_drewN ?_ _) | (with_reducible refine Kd.C_drew ?_))); (case side2 => exact HC1.out); rintro e w' ⟨rfl, ⟨nd, rfl⟩⟩))
                go_meet
                case rel => exact ⟨_, (decide (t488 > 4094)), (by first | rfl | (simp; done) | (simp [*]; done)), H', ⟨by have := HJ5.out; first | omega | exact Nat.le_refl _⟩, ⟨by (with_reducible repeat (first | apply Kd.V_alloc | apply Kd.V_drewN | apply Kd.V_drew)); exact HO484.out⟩, ⟨by repeat (first | (with_reducible first | exact HB.out | apply below_alloc | apply pw_below_drewN | apply below_drew1) | exact HB.out)⟩⟩
            case rest =>
              clear HC23
              try clear c1
              try clear c2
              try clear p2
              try clear c8
              try clear c11
              try clear c12
              try clear c12b0
              try clear c12b1
              try clear c13
              try clear c18
              try clear c21
              try clear c21b0
              try clear c21b1
              try clear c22
              try clear c22b0
              try clear c22b1
              try clear c24
              try clear c26
              try clear c26b0
              try clear c26b1
              try clear p2
              obtain ⟨kq, x49_22, rfl, HA, HJ22, HO_5, HB⟩ := hcut
              cases kq with
              | zero => exact absurd HA.out (by simp [abacuslaw02_QuotHalves.j1])
              | succ kj22 =>
                have H := HA.out
                clear HA
                simp only [abacuslaw02_QuotHalves.j1] at H
                by_cases c28 : x49_22 = true
                · subst c28
                  have H1 : (some true) = some r := by rw [if_pos rfl] at H; exact H
                  clear H
                  have H := H1
                  clear H1
                  obtain rfl := Option.some.inj H
                  go_wp2
                  go_ret
                  exact ⟨by first | rfl | (simp [errW_none, errW_some] <;> rfl) | (simp [*, errW_none, errW_some] <;> rfl), by repeat (first | (with_reducible first | exact HB.out | apply below_alloc | apply pw_below_drewN | apply below_drew1) | exact HB.out)⟩
                · replace c28 := Bool.eq_false_iff.mpr c28
                  subst c28
                  have H1 : ((abacuslaw02_gap.f kj22 l0 l1 t482).bind fun bt489 => (if bt489.2 = true then ((nat_Shl.f kj22 bt489.1 1).bind fun bt493 => (if bt493.2 = 0 then ((nat_Cmp.f kj22 bt493.1 l1).bind fun t497 => (if t497 < 0 then (some true) else (if t497 = 0 then ((nat_Bit.f t482 0).bind fun t498 => (some (t498 == 0))) else (some false)))) else (some false))) else (some false))) = some r := by rw [if_neg (show ¬ (false = true) by decide)] at H; exact H
                  clear H
                  have H := H1
                  clear H1
                  replace H := Option.bind_eq_some_iff.mp H
                  obtain ⟨⟨t489, t492⟩, A290, H⟩ := H
                  replace H : (if t492 = true then ((nat_Shl.f kj22 t489 1).bind fun bt493 => (if bt493.2 = 0 then ((nat_Cmp.f kj22 bt493.1 l1).bind fun t497 => (if t497 < 0 then (some true) else (if t497 = 0 then ((nat_Bit.f t482 0).bind fun t498 => (some (t498 == 0))) else (some false)))) else (some false))) else (some false)) = some r := H
                  have A29 := Aside0.mk A290
                  clear A290
                  by_cases c30 : t492 = true
                  · subst c30
                    have H1 : ((nat_Shl.f kj22 t489 1).bind fun bt493 => (if bt493.2 = 0 then ((nat_Cmp.f kj22 bt493.1 l1).bind fun t497 => (if t497 < 0 then (some true) else (if t497 = 0 then ((nat_Bit.f t482 0).bind fun t498 => (some (t498 == 0))) else (some false)))) else (some false))) = some r := by rw [if_pos rfl] at H; exact H
                    clear H
                    have H := H1
                    clear H1
                    replace H := Option.bind_eq_some_iff.mp H
                    obtain ⟨⟨t493, t496⟩, A310, H⟩ := H
                    replace H : (if t496 = 0 then ((nat_Cmp.f kj22 t493 l1).bind fun t497 => (if t497 < 0 then (some true) else (if t497 = 0 then ((nat_Bit.f t482 0).bind fun t498 => (some (t498 == 0))) else (some false)))) else (some false)) = some r := H
                    have A31 := Aside0.mk A310
                    clear A310
                    by_cases c32 : t496 = 0
                    · rw [if_pos c32] at H
                      have c32b0 : (t496 == 0) = true := beq_iff_eq.mpr c32
                      have c32b1 : (t496 != 0) = false := bne_eq_false_iff_eq.mpr c32
                      clear c32
                      replace H := Option.bind_eq_some_iff.mp H
                      obtain ⟨t497, A330, H⟩ := H
                      replace H : (if t497 < 0 then (some true) else (if t497 = 0 then ((nat_Bit.f t482 0).bind fun t498 => (some (t498 == 0))) else (some false))) = some r := H
                      have A33 := Aside0.mk A330
                      clear A330
                      by_cases c34 : t497 < 0
                      · rw [if_pos c34] at H
                        have c34b0 : decide (t497 < 0) = true := decide_eq_true c34
                        clear c34
                        obtain rfl := Option.some.inj H
                        obtain ⟨Ao35, co35, eo35⟩ := Kd.V_slice HO_5.out
                        subst eo35
                        go_wp2_with (first | ((with_reducible refine gate_callee (f := 25) rfl ?_); refine goesL_ (some 54) rfl rfl Tryd.func25 (by kernel_rfl) rfl #[.slice A0 l0.length c0, .slice A1 l1.length c1, .slice Ao35 t482.length co35] rfl (by (try simp only [List.map_toArray, List.map_cons, List.map_nil]); first | done | rfl | (simp only [List.length_drop, List.length_take]; rfl) | (simp only [gt_iff_lt, Int.natCast_pos]; done) | (simp only [gt_iff_lt, Int.natCast_pos]; rfl)) ?_; (with_reducible refine (abacuslaw02_gap.calls kj22 _ _ l0 _ _ l1 _ _ t482 t489 true _ ?side1 ?side2 ?side3 ?side4 ?side5 ?side6 A29.out).mono ?_); (case side1 => repeat (first | exact (Kd.C_below HR0.out HB.out) | (with_reducible refine Kd.C_alloc ?_ _) | (with_reducible refine Kd.C_drewN ?_ _) | (with_reducible refine Kd.C_drew ?_))); (case side2 => exact HC0.out); (case side3 => repeat (first | exact (Kd.C_below HR1.out HB.out) | (with_reducible refine Kd.C_alloc ?_ _) | (with_reducible refine Kd.C_drewN ?_ _) | (with_reducible refine Kd.C_drew ?_))); (case side4 => exact HC1.out); (case side5 => repeat (first | exact (Kd.V_reads' HO_5.out).2.2 | (with_reducible refine Kd.C_alloc ?_ _) | (with_reducible refine Kd.C_drewN ?_ _) | (with_reducible refine Kd.C_drew ?_))); (case side6 => exact (Kd.V_reads' HO_5.out).2.1); rintro e w36 ⟨v490, rfl, ho0, hb⟩; refine ⟨_, rfl, ?_⟩; have n0_ := Aside0.mk (Kd.V_below (by (with_reducible repeat (first | apply Kd.V_alloc | apply Kd.V_drewN | apply Kd.V_drew)); exact HO_5.out) hb); have n1_ := Aside0.mk (Kd.V_lower (Kd.V_mono (ok' := fun k_ => True) ho0 (fun k_ hk_ => trivial)) (below_size (by repeat (first | (with_reducible first | exact HB.out | apply below_alloc | apply pw_below_drewN | apply below_drew1) | exact HB.out)))); have n2_ := Aside0.mk (below_step (by repeat (first | (with_reducible first | exact HB.out | apply below_alloc | apply pw_below_drewN | apply below_drew1) | exact HB.out)) hb); clear HO_5; clear HB; have HO_5 := n0_; have HO491 := n1_; have HB := n2_; clear n0_ n1_ n2_; (try clear hb); (try clear hb2); (try clear hk); (try clear hi); (try clear ho0); obtain ⟨Ao37, co37, eo37⟩ := Kd.V_slice HO491.out; subst eo37) | ((with_reducible refine gate_callee (f := 26) rfl ?_); refine goesL_ (some 61) rfl rfl Tryd.func26 (by kernel_rfl) rfl #[.slice Ao37 t489.length co37, .int .i64 1] rfl (by (try simp only [List.map_toArray, List.map_cons, List.map_nil]); first | done | rfl | (simp only [List.length_drop, List.length_take]; rfl) | (simp only [gt_iff_lt, Int.natCast_pos]; done) | (simp only [gt_iff_lt, Int.natCast_pos]; rfl)) ?_; (with_reducible refine (nat_Shl.calls kj22 _ _ t489 1 t493 t496 _ ?side1 ?side2 A31.out).mono ?_); (case side1 => repeat (first | exact (Kd.V_reads' HO491.out).2.2 | (with_reducible refine Kd.C_alloc ?_ _) | (with_reducible refine Kd.C_drewN ?_ _) | (with_reducible refine Kd.C_drew ?_))); (case side2 => exact (Kd.V_reads' HO491.out).2.1); rintro e w38 ⟨v494, rfl, ho0, hb⟩; refine ⟨_, rfl, ?_⟩; have n0_ := Aside0.mk (Kd.V_below (by (with_reducible repeat (first | apply Kd.V_alloc | apply Kd.V_drewN | apply Kd.V_drew)); exact HO_5.out) hb); have n1_ := Aside0.mk (Kd.V_below (by (with_reducible repeat (first | apply Kd.V_alloc | apply Kd.V_drewN | apply Kd.V_drew)); exact HO491.out) hb); have n2_ := Aside0.mk (Kd.V_lower (Kd.V_mono (ok' := fun k_ => True) ho0 (fun k_ hk_ => trivial)) (below_size (by repeat (first | (with_reducible first | exact HB.out | apply below_alloc | apply pw_below_drewN | apply below_drew1) | exact HB.out)))); have n3_ := Aside0.mk (below_step (by repeat (first | (with_reducible first | exact HB.out | apply below_alloc | apply pw_below_drewN | apply below_drew1) | exact HB.out)) hb); clear HO_5; clear HO491; clear HB; have HO_5 := n0_; have HO491 := n1_; have HO495 := n2_; have HB := n3_; clear n0_ n1_ n2_ n3_; (try clear hb); (try clear hb2); (try clear hk); (try clear hi); (try clear ho0); obtain ⟨Ao39, co39, eo39⟩ := Kd.V_slice HO495.out; subst eo39) | ((with_reducible refine gate_callee (f := 16) rfl ?_); refine goesL_ (some 68) rfl rfl Tryd.func16 (by kernel_rfl) rfl #[.slice Ao39 t493.length co39, .slice A1 l1.length c1] rfl (by (try simp only [List.map_toArray, List.map_cons, List.map_nil]); first | done | rfl | (simp only [List.length_drop, List.length_take]; rfl) | (simp only [gt_iff_lt, Int.natCast_pos]; done) | (simp only [gt_iff_lt, Int.natCast_pos]; rfl)) ?_; (with_reducible refine (nat_Cmp.calls kj22 _ _ t493 _ _ l1 t497 _ ?side1 ?side2 ?side3 ?side4 A33.out).mono ?_); (case side1 => repeat (first | exact (Kd.V_reads' HO495.out).2.2 | (with_reducible refine Kd.C_alloc ?_ _) | (with_reducible refine Kd.C_drewN ?_ _) | (with_reducible refine Kd.C_drew ?_))); (case side2 => exact (Kd.V_reads' HO495.out).2.1); (case side3 => repeat (first | exact (Kd.C_below HR1.out HB.out) | (with_reducible refine Kd.C_alloc ?_ _) | (with_reducible refine Kd.C_drewN ?_ _) | (with_reducible refine Kd.C_drew ?_))); (case side4 => exact HC1.out); rintro e w' ⟨rfl, ⟨nd, rfl⟩⟩; refine ⟨_, rfl, ?_⟩))
                        go_ret
                        exact ⟨by first | rfl | (simp [errW_none, errW_some] <;> rfl) | (simp [*, errW_none, errW_some] <;> rfl), by repeat (first | (with_reducible first | exact HB.out | apply below_alloc | apply pw_below_drewN | apply below_drew1) | exact HB.out)⟩
                      · rw [if_neg c34] at H
                        have c34b0 : decide (t497 < 0) = false := decide_eq_false c34
                        clear c34
                        by_cases c40 : t497 = 0
                        · rw [if_pos c40] at H
                          have c40b0 : (t497 == 0) = true := beq_iff_eq.mpr c40
                          have c40b1 : (t497 != 0) = false := bne_eq_false_iff_eq.mpr c40
                          clear c40
                          replace H := Option.bind_eq_some_iff.mp H
                          obtain ⟨t498, A410, H⟩ := H
                          replace H : (some (t498 == 0)) = some r := H
                          have A41 := Aside0.mk A410
                          clear A410
                          obtain rfl := Option.some.inj H
                          obtain ⟨Ao42, co42, eo42⟩ := Kd.V_slice HO_5.out
                          subst eo42
                          go_wp2_with (first | ((with_reducible refine gate_callee (f := 25) rfl ?_); refine goesL_ (some 54) rfl rfl Tryd.func25 (by kernel_rfl) rfl #[.slice A0 l0.length c0, .slice A1 l1.length c1, .slice Ao42 t482.length co42] rfl (by (try simp only [List.map_toArray, List.map_cons, List.map_nil]); first | done | rfl | (simp only [List.length_drop, List.length_take]; rfl) | (simp only [gt_iff_lt, Int.natCast_pos]; done) | (simp only [gt_iff_lt, Int.natCast_pos]; rfl)) ?_; (with_reducible refine (abacuslaw02_gap.calls kj22 _ _ l0 _ _ l1 _ _ t482 t489 true _ ?side1 ?side2 ?side3 ?side4 ?side5 ?side6 A29.out).mono ?_); (case side1 => repeat (first | exact (Kd.C_below HR0.out HB.out) | (with_reducible refine Kd.C_alloc ?_ _) | (with_reducible refine Kd.C_drewN ?_ _) | (with_reducible refine Kd.C_drew ?_))); (case side2 => exact HC0.out); (case side3 => repeat (first | exact (Kd.C_below HR1.out HB.out) | (with_reducible refine Kd.C_alloc ?_ _) | (with_reducible refine Kd.C_drewN ?_ _) | (with_reducible refine Kd.C_drew ?_))); (case side4 => exact HC1.out); (case side5 => repeat (first | exact (Kd.V_reads' HO_5.out).2.2 | (with_reducible refine Kd.C_alloc ?_ _) | (with_reducible refine Kd.C_drewN ?_ _) | (with_reducible refine Kd.C_drew ?_))); (case side6 => exact (Kd.V_reads' HO_5.out).2.1); rintro e w43 ⟨v490, rfl, ho0, hb⟩; refine ⟨_, rfl, ?_⟩; have n0_ := Aside0.mk (Kd.V_below (by (with_reducible repeat (first | apply Kd.V_alloc | apply Kd.V_drewN | apply Kd.V_drew)); exact HO_5.out) hb); have n1_ := Aside0.mk (Kd.V_lower (Kd.V_mono (ok' := fun k_ => True) ho0 (fun k_ hk_ => trivial)) (below_size (by repeat (first | (with_reducible first | exact HB.out | apply below_alloc | apply pw_below_drewN | apply below_drew1) | exact HB.out)))); have n2_ := Aside0.mk (below_step (by repeat (first | (with_reducible first | exact HB.out | apply below_alloc | apply pw_below_drewN | apply below_drew1) | exact HB.out)) hb); clear HO_5; clear HB; have HO_5 := n0_; have HO491 := n1_; have HB := n2_; clear n0_ n1_ n2_; (try clear hb); (try clear hb2); (try clear hk); (try clear hi); (try clear ho0); obtain ⟨Ao44, co44, eo44⟩ := Kd.V_slice HO491.out; subst eo44) | ((with_reducible refine gate_callee (f := 26) rfl ?_); refine goesL_ (some 61) rfl rfl Tryd.func26 (by kernel_rfl) rfl #[.slice Ao44 t489.length co44, .int .i64 1] rfl (by (try simp only [List.map_toArray, List.map_cons, List.map_nil]); first | done | rfl | (simp only [List.length_drop, List.length_take]; rfl) | (simp only [gt_iff_lt, Int.natCast_pos]; done) | (simp only [gt_iff_lt, Int.natCast_pos]; rfl)) ?_; (with_reducible refine (nat_Shl.calls kj22 _ _ t489 1 t493 t496 _ ?side1 ?side2 A31.out).mono ?_); (case side1 => repeat (first | exact (Kd.V_reads' HO491.out).2.2 | (with_reducible refine Kd.C_alloc ?_ _) | (with_reducible refine Kd.C_drewN ?_ _) | (with_reducible refine Kd.C_drew ?_))); (case side2 => exact (Kd.V_reads' HO491.out).2.1); rintro e w45 ⟨v494, rfl, ho0, hb⟩; refine ⟨_, rfl, ?_⟩; have n0_ := Aside0.mk (Kd.V_below (by (with_reducible repeat (first | apply Kd.V_alloc | apply Kd.V_drewN | apply Kd.V_drew)); exact HO_5.out) hb); have n1_ := Aside0.mk (Kd.V_below (by (with_reducible repeat (first | apply Kd.V_alloc | apply Kd.V_drewN | apply Kd.V_drew)); exact HO491.out) hb); have n2_ := Aside0.mk (Kd.V_lower (Kd.V_mono (ok' := fun k_ => True) ho0 (fun k_ hk_ => trivial)) (below_size (by repeat (first | (with_reducible first | exact HB.out | apply below_alloc | apply pw_below_drewN | apply below_drew1) | exact HB.out)))); have n3_ := Aside0.mk (below_step (by repeat (first | (with_reducible first | exact HB.out | apply below_alloc | apply pw_below_drewN | apply below_drew1) | exact HB.out)) hb); clear HO_5; clear HO491; clear HB; have HO_5 := n0_; have HO491 := n1_; have HO495 := n2_; have HB := n3_; clear n0_ n1_ n2_ n3_; (try clear hb); (try clear hb2); (try clear hk); (try clear hi); (try clear ho0); obtain ⟨Ao46, co46, eo46⟩ := Kd.V_slice HO495.out; subst eo46) | ((with_reducible refine gate_callee (f := 16) rfl ?_); refine goesL_ (some 68) rfl rfl Tryd.func16 (by kernel_rfl) rfl #[.slice Ao46 t493.length co46, .slice A1 l1.length c1] rfl (by (try simp only [List.map_toArray, List.map_cons, List.map_nil]); first | done | rfl | (simp only [List.length_drop, List.length_take]; rfl) | (simp only [gt_iff_lt, Int.natCast_pos]; done) | (simp only [gt_iff_lt, Int.natCast_pos]; rfl)) ?_; (with_reducible refine (nat_Cmp.calls kj22 _ _ t493 _ _ l1 t497 _ ?side1 ?side2 ?side3 ?side4 A33.out).mono ?_); (case side1 => repeat (first | exact (Kd.V_reads' HO495.out).2.2 | (with_reducible refine Kd.C_alloc ?_ _) | (with_reducible refine Kd.C_drewN ?_ _) | (with_reducible refine Kd.C_drew ?_))); (case side2 => exact (Kd.V_reads' HO495.out).2.1); (case side3 => repeat (first | exact (Kd.C_below HR1.out HB.out) | (with_reducible refine Kd.C_alloc ?_ _) | (with_reducible refine Kd.C_drewN ?_ _) | (with_reducible refine Kd.C_drew ?_))); (case side4 => exact HC1.out); rintro e w' ⟨rfl, ⟨nd, rfl⟩⟩; refine ⟨_, rfl, ?_⟩) | (go_at_call 27; (with_reducible refine (nat_Bit.calls _ _ t482 0 t498 _ ?side1 ?side2 A41.out).mono ?_); (case side1 => repeat (first | exact (Kd.V_reads' HO_5.out).2.2 | (with_reducible refine Kd.C_alloc ?_ _) | (with_reducible refine Kd.C_drewN ?_ _) | (with_reducible refine Kd.C_drew ?_))); (case side2 => exact (Kd.V_reads' HO_5.out).2.1); rintro e w' ⟨rfl, ⟨nd, rfl⟩⟩))
                          go_ret
                          exact ⟨by first | rfl | (simp [errW_none, errW_some] <;> rfl) | (simp [*, errW_none, errW_some] <;> rfl), by repeat (first | (with_reducible first | exact HB.out | apply below_alloc | apply pw_below_drewN | apply below_drew1) | exact HB.out)⟩
                        · rw [if_neg c40] at H
                          have c40b0 : (t497 == 0) = false := beq_eq_false_iff_ne.mpr c40
                          have c40b1 : (t497 != 0) = true := bne_iff_ne.mpr c40
                          obtain rfl := Option.some.inj H
                          obtain ⟨Ao47, co47, eo47⟩ := Kd.V_slice HO_5.out
                          subst eo47
                          go_wp2_with (first | ((with_reducible refine gate_callee (f := 25) rfl ?_); refine goesL_ (some 54) rfl rfl Tryd.func25 (by kernel_rfl) rfl #[.slice A0 l0.length c0, .slice A1 l1.length c1, .slice Ao47 t482.length co47] rfl (by (try simp only [List.map_toArray, List.map_cons, List.map_nil]); first | done | rfl | (simp only [List.length_drop, List.length_take]; rfl) | (simp only [gt_iff_lt, Int.natCast_pos]; done) | (simp only [gt_iff_lt, Int.natCast_pos]; rfl)) ?_; (with_reducible refine (abacuslaw02_gap.calls kj22 _ _ l0 _ _ l1 _ _ t482 t489 true _ ?side1 ?side2 ?side3 ?side4 ?side5 ?side6 A29.out).mono ?_); (case side1 => repeat (first | exact (Kd.C_below HR0.out HB.out) | (with_reducible refine Kd.C_alloc ?_ _) | (with_reducible refine Kd.C_drewN ?_ _) | (with_reducible refine Kd.C_drew ?_))); (case side2 => exact HC0.out); (case side3 => repeat (first | exact (Kd.C_below HR1.out HB.out) | (with_reducible refine Kd.C_alloc ?_ _) | (with_reducible refine Kd.C_drewN ?_ _) | (with_reducible refine Kd.C_drew ?_))); (case side4 => exact HC1.out); (case side5 => repeat (first | exact (Kd.V_reads' HO_5.out).2.2 | (with_reducible refine Kd.C_alloc ?_ _) | (with_reducible refine Kd.C_drewN ?_ _) | (with_reducible refine Kd.C_drew ?_))); (case side6 => exact (Kd.V_reads' HO_5.out).2.1); rintro e w48 ⟨v490, rfl, ho0, hb⟩; refine ⟨_, rfl, ?_⟩; have n0_ := Aside0.mk (Kd.V_below (by (with_reducible repeat (first | apply Kd.V_alloc | apply Kd.V_drewN | apply Kd.V_drew)); exact HO_5.out) hb); have n1_ := Aside0.mk (Kd.V_lower (Kd.V_mono (ok' := fun k_ => True) ho0 (fun k_ hk_ => trivial)) (below_size (by repeat (first | (with_reducible first | exact HB.out | apply below_alloc | apply pw_below_drewN | apply below_drew1) | exact HB.out)))); have n2_ := Aside0.mk (below_step (by repeat (first | (with_reducible first | exact HB.out | apply below_alloc | apply pw_below_drewN | apply below_drew1) | exact HB.out)) hb); clear HO_5; clear HB; have HO_5 := n0_; have HO491 := n1_; have HB := n2_; clear n0_ n1_ n2_; (try clear hb); (try clear hb2); (try clear hk); (try clear hi); (try clear ho0); obtain ⟨Ao49, co49, eo49⟩ := Kd.V_slice HO491.out; subst eo49) | ((with_reducible refine gate_callee (f := 26) rfl ?_); refine goesL_ (some 61) rfl rfl Tryd.func26 (by kernel_rfl) rfl #[.slice Ao49 t489.length co49, .int .i64 1] rfl (by (try simp only [List.map_toArray, List.map_cons, List.map_nil]); first | done | rfl | (simp only [List.length_drop, List.length_take]; rfl) | (simp only [gt_iff_lt, Int.natCast_pos]; done) | (simp only [gt_iff_lt, Int.natCast_pos]; rfl)) ?_; (with_reducible refine (nat_Shl.calls kj22 _ _ t489 1 t493 t496 _ ?side1 ?side2 A31.out).mono ?_); (case side1 => repeat (first | exact (Kd.V_reads' HO491.out).2.2 | (with_reducible refine Kd.C_alloc ?_ _) | (with_reducible refine Kd.C_drewN ?_ _) | (with_reducible refine Kd.C_drew ?_))); (case side2 => exact (Kd.V_reads' HO491.out).2.1); rintro e w50 ⟨v494, rfl, ho0, hb⟩; refine ⟨_, rfl, ?_⟩; have n0_ := Aside0.mk (Kd.V_below (by (with_reducible repeat (first | apply Kd.V_alloc | apply Kd.V_drewN | apply Kd.V_drew)); exact HO_5.out) hb); have n1_ := Aside0.mk (Kd.V_below (by (with_reducible repeat (first | apply Kd.V_alloc | apply Kd.V_drewN | apply Kd.V_drew)); exact HO491.out) hb); have n2_ := Aside0.mk (Kd.V_lower (Kd.V_mono (ok' := fun k_ => True) ho0 (fun k_ hk_ => trivial)) (below_size (by repeat (first | (with_reducible first | exact HB.out | apply below_alloc | apply pw_below_drewN | apply below_drew1) | exact HB.out)))); have n3_ := Aside0.mk (below_step (by repeat (first | (with_reducible first | exact HB.out | apply below_alloc | apply pw_below_drewN | apply below_drew1) | exact HB.out)) hb); clear HO_5; clear HO491; clear HB; have HO_5 := n0_; have HO491 := n1_; have HO495 := n2_; have HB := n3_; clear n0_ n1_ n2_ n3_; (try clear hb); (try clear hb2); (try clear hk); (try clear hi); (try clear ho0); obtain ⟨Ao51, co51, eo51⟩ := Kd.V_slice HO495.out; subst eo51) | ((with_reducible refine gate_callee (f := 16) rfl ?_); refine goesL_ (some 68) rfl rfl Tryd.func16 (by kernel_rfl) rfl #[.slice Ao51 t493.length co51, .slice A1 l1.length c1] rfl (by (try simp only [List.map_toArray, List.map_cons, List.map_nil]); first | done | rfl | (simp only [List.length_drop, List.length_take]; rfl) | (simp only [gt_iff_lt, Int.natCast_pos]; done) | (simp only [gt_iff_lt, Int.natCast_pos]; rfl)) ?_; (with_reducible refine (nat_Cmp.calls kj22 _ _ t493 _ _ l1 t497 _ ?side1 ?side2 ?side3 ?side4 A33.out).mono ?_); (case side1 => repeat (first | exact (Kd.V_reads' HO495.out).2.2 | (with_reducible refine Kd.C_alloc ?_ _) | (with_reducible refine Kd.C_drewN ?_ _) | (with_reducible refine Kd.C_drew ?_))); (case side2 => exact (Kd.V_reads' HO495.out).2.1); (case side3 => repeat (first | exact (Kd.C_below HR1.out HB.out) | (with_reducible refine Kd.C_alloc ?_ _) | (with_reducible refine Kd.C_drewN ?_ _) | (with_reducible refine Kd.C_drew ?_))); (case side4 => exact HC1.out); rintro e w' ⟨rfl, ⟨nd, rfl⟩⟩; refine ⟨_, rfl, ?_⟩))
                          go_ret
                          exact ⟨by first | rfl | (simp [errW_none, errW_some] <;> rfl) | (simp [*, errW_none, errW_some] <;> rfl), by repeat (first | (with_reducible first | exact HB.out | apply below_alloc | apply pw_below_drewN | apply below_drew1) | exact HB.out)⟩
                    · rw [if_neg c32] at H
                      have c32b0 : (t496 == 0) = false := beq_eq_false_iff_ne.mpr c32
                      have c32b1 : (t496 != 0) = true := bne_iff_ne.mpr c32
                      obtain rfl := Option.some.inj H
                      obtain ⟨Ao52, co52, eo52⟩ := Kd.V_slice HO_5.out
                      subst eo52
                      go_wp2_with (first | ((with_reducible refine gate_callee (f := 25) rfl ?_); refine goesL_ (some 54) rfl rfl Tryd.func25 (by kernel_rfl) rfl #[.slice A0 l0.length c0, .slice A1 l1.length c1, .slice Ao52 t482.length co52] rfl (by (try simp only [List.map_toArray, List.map_cons, List.map_nil]); first | done | rfl | (simp only [List.length_drop, List.length_take]; rfl) | (simp only [gt_iff_lt, Int.natCast_pos]; done) | (simp only [gt_iff_lt, Int.natCast_pos]; rfl)) ?_; (with_reducible refine (abacuslaw02_gap.calls kj22 _ _ l0 _ _ l1 _ _ t482 t489 true _ ?side1 ?side2 ?side3 ?side4 ?side5 ?side6 A29.out).mono ?_); (case side1 => repeat (first | exact (Kd.C_below HR0.out HB.out) | (with_reducible refine Kd.C_alloc ?_ _) | (with_reducible refine Kd.C_drewN ?_ _) | (with_reducible refine Kd.C_drew ?_))); (case side2 => exact HC0.out); (case side3 => repeat (first | exact (Kd.C_below HR1.out HB.out) | (with_reducible refine Kd.C_alloc ?_ _) | (with_reducible refine Kd.C_drewN ?_ _) | (with_reducible refine Kd.C_drew ?_))); (case side4 => exact HC1.out); (case side5 => repeat (first | exact (Kd.V_reads' HO_5.out).2.2 | (with_reducible refine Kd.C_alloc ?_ _) | (with_reducible refine Kd.C_drewN ?_ _) | (with_reducible refine Kd.C_drew ?_))); (case side6 => exact (Kd.V_reads' HO_5.out).2.1); rintro e w53 ⟨v490, rfl, ho0, hb⟩; refine ⟨_, rfl, ?_⟩; have n0_ := Aside0.mk (Kd.V_below (by (with_reducible repeat (first | apply Kd.V_alloc | apply Kd.V_drewN | apply Kd.V_drew)); exact HO_5.out) hb); have n1_ := Aside0.mk (Kd.V_lower (Kd.V_mono (ok' := fun k_ => True) ho0 (fun k_ hk_ => trivial)) (below_size (by repeat (first | (with_reducible first | exact HB.out | apply below_alloc | apply pw_below_drewN | apply below_drew1) | exact HB.out)))); have n2_ := Aside0.mk (below_step (by repeat (first | (with_reducible first | exact HB.out | apply below_alloc | apply pw_below_drewN | apply below_drew1) | exact HB.out)) hb); clear HO_5; clear HB; have HO_5 := n0_; have HO491 := n1_; have HB := n2_; clear n0_ n1_ n2_; (try clear hb); (try clear hb2); (try clear hk); (try clear hi); (try clear ho0); obtain ⟨Ao54, co54, eo54⟩ := Kd.V_slice HO491.out; subst eo54) | ((with_reducible refine gate_callee (f := 26) rfl ?_); refine goesL_ (some 61) rfl rfl Tryd.func26 (by kernel_rfl) rfl #[.slice Ao54 t489.length co54, .int .i64 1] rfl (by (try simp only [List.map_toArray, List.map_cons, List.map_nil]); first | done | rfl | (simp only [List.length_drop, List.length_take]; rfl) | (simp only [gt_iff_lt, Int.natCast_pos]; done) | (simp only [gt_iff_lt, Int.natCast_pos]; rfl)) ?_; (with_reducible refine (nat_Shl.calls kj22 _ _ t489 1 t493 t496 _ ?side1 ?side2 A31.out).mono ?_); (case side1 => repeat (first | exact (Kd.V_reads' HO491.out).2.2 | (with_reducible refine Kd.C_alloc ?_ _) | (with_reducible refine Kd.C_drewN ?_ _) | (with_reducible refine Kd.C_drew ?_))); (case side2 => exact (Kd.V_reads' HO491.out).2.1); rintro e w55 ⟨v494, rfl, ho0, hb⟩; refine ⟨_, rfl, ?_⟩; have n0_ := Aside0.mk (Kd.V_below (by (with_reducible repeat (first | apply Kd.V_alloc | apply Kd.V_drewN | apply Kd.V_drew)); exact HO_5.out) hb); have n1_ := Aside0.mk (Kd.V_below (by (with_reducible repeat (first | apply Kd.V_alloc | apply Kd.V_drewN | apply Kd.V_drew)); exact HO491.out) hb); have n2_ := Aside0.mk (Kd.V_lower (Kd.V_mono (ok' := fun k_ => True) ho0 (fun k_ hk_ => trivial)) (below_size (by repeat (first | (with_reducible first | exact HB.out | apply below_alloc | apply pw_below_drewN | apply below_drew1) | exact HB.out)))); have n3_ := Aside0.mk (below_step (by repeat (first | (with_reducible first | exact HB.out | apply below_alloc | apply pw_below_drewN | apply below_drew1) | exact HB.out)) hb); clear HO_5; clear HO491; clear HB; have HO_5 := n0_; have HO491 := n1_; have HO495 := n2_; have HB := n3_; clear n0_ n1_ n2_ n3_; (try clear hb); (try clear hb2); (try clear hk); (try clear hi); (try clear ho0)))
                      go_ret
                      exact ⟨by first | rfl | (simp [errW_none, errW_some] <;> rfl) | (simp [*, errW_none, errW_some] <;> rfl), by repeat (first | (with_reducible first | exact HB.out | apply below_alloc | apply pw_below_drewN | apply below_drew1) | exact HB.out)⟩
                  · replace c30 := Bool.eq_false_iff.mpr c30
                    subst c30
                    have H1 : (some false) = some r := by rw [if_neg (show ¬ (false = true) by decide)] at H; exact H
                    clear H
                    have H := H1
                    clear H1
                    obtain rfl := Option.some.inj H
                    obtain ⟨Ao56, co56, eo56⟩ := Kd.V_slice HO_5.out
                    subst eo56
                    go_wp2_with (first | ((with_reducible refine gate_callee (f := 25) rfl ?_); refine goesL_ (some 54) rfl rfl Tryd.func25 (by kernel_rfl) rfl #[.slice A0 l0.length c0, .slice A1 l1.length c1, .slice Ao56 t482.length co56] rfl (by (try simp only [List.map_toArray, List.map_cons, List.map_nil]); first | done | rfl | (simp only [List.length_drop, List.length_take]; rfl) | (simp only [gt_iff_lt, Int.natCast_pos]; done) | (simp only [gt_iff_lt, Int.natCast_pos]; rfl)) ?_; (with_reducible refine (abacuslaw02_gap.calls kj22 _ _ l0 _ _ l1 _ _ t482 t489 false _ ?side1 ?side2 ?side3 ?side4 ?side5 ?side6 A29.out).mono ?_); (case side1 => repeat (first | exact (Kd.C_below HR0.out HB.out) | (with_reducible refine Kd.C_alloc ?_ _) | (with_reducible refine Kd.C_drewN ?_ _) | (with_reducible refine Kd.C_drew ?_))); (case side2 => exact HC0.out); (case side3 => repeat (first | exact (Kd.C_below HR1.out HB.out) | (with_reducible refine Kd.C_alloc ?_ _) | (with_reducible refine Kd.C_drewN ?_ _) | (with_reducible refine Kd.C_drew ?_))); (case side4 => exact HC1.out); (case side5 => repeat (first | exact (Kd.V_reads' HO_5.out).2.2 | (with_reducible refine Kd.C_alloc ?_ _) | (with_reducible refine Kd.C_drewN ?_ _) | (with_reducible refine Kd.C_drew ?_))); (case side6 => exact (Kd.V_reads' HO_5.out).2.1); rintro e w57 ⟨v490, rfl, ho0, hb⟩; refine ⟨_, rfl, ?_⟩; have n0_ := Aside0.mk (Kd.V_below (by (with_reducible repeat (first | apply Kd.V_alloc | apply Kd.V_drewN | apply Kd.V_drew)); exact HO_5.out) hb); have n1_ := Aside0.mk (Kd.V_lower (Kd.V_mono (ok' := fun k_ => True) ho0 (fun k_ hk_ => trivial)) (below_size (by repeat (first | (with_reducible first | exact HB.out | apply below_alloc | apply pw_below_drewN | apply below_drew1) | exact HB.out)))); have n2_ := Aside0.mk (below_step (by repeat (first | (with_reducible first | exact HB.out | apply below_alloc | apply pw_below_drewN | apply below_drew1) | exact HB.out)) hb); clear HO_5; clear HB; have HO_5 := n0_; have HO491 := n1_; have HB := n2_; clear n0_ n1_ n2_; (try clear hb); (try clear hb2); (try clear hk); (try clear hi); (try clear ho0)))
                    go_ret
                    exact ⟨by first | rfl | (simp [errW_none, errW_some] <;> rfl) | (simp [*, errW_none, errW_some] <;> rfl), by repeat (first | (with_reducible first | exact HB.out | apply below_alloc | apply pw_below_drewN | apply below_drew1) | exact HB.out)⟩
          · rw [if_neg c22] at H
            have c22b0 : (t485 == 0) = false := beq_eq_false_iff_ne.mpr c22
            have c22b1 : (t485 != 0) = true := bne_iff_ne.mpr c22
            obtain rfl := Option.some.inj H
            go_wp2_with (first | ((with_reducible refine gate_callee (f := 24) rfl ?_); refine goesL_ (some 29) rfl rfl Tryd.func24 (by kernel_rfl) rfl #[.slice A0 l0.length c0, .slice A1 l1.length c1] rfl (by (try simp only [List.map_toArray, List.map_cons, List.map_nil]); first | done | rfl | (simp only [List.length_drop, List.length_take]; rfl) | (simp only [gt_iff_lt, Int.natCast_pos]; done) | (simp only [gt_iff_lt, Int.natCast_pos]; rfl)) ?_; (with_reducible refine (quot_Near.calls kj5 _ _ l0 _ _ l1 t482 t485 _ ?side5 ?side1 ?side2 ?side3 ?side4 A19.out).mono ?_); (case side1 => repeat (first | exact (Kd.C_below HR0.out HB.out) | (with_reducible refine Kd.C_alloc ?_ _) | (with_reducible refine Kd.C_drewN ?_ _) | (with_reducible refine Kd.C_drew ?_))); (case side2 => exact HC0.out); (case side3 => repeat (first | exact (Kd.C_below HR1.out HB.out) | (with_reducible refine Kd.C_alloc ?_ _) | (with_reducible refine Kd.C_drewN ?_ _) | (with_reducible refine Kd.C_drew ?_))); (case side4 => exact HC1.out); (case side5 => repeat (first | exact (Kd.C_below HT.out HB.out) | (with_reducible refine Kd.C_alloc ?_ _) | (with_reducible refine Kd.C_drewN ?_ _) | (with_reducible refine Kd.C_drew ?_))); rintro e w58 ⟨v483, rfl, ho0, hb⟩; refine ⟨_, rfl, ?_⟩; have n0_ := Aside0.mk (Kd.V_lower (Kd.V_mono (ok' := fun k_ => True) ho0 (fun k_ hk_ => trivial)) (below_size (by repeat (first | (with_reducible first | exact HB.out | apply below_alloc | apply pw_below_drewN | apply below_drew1) | exact HB.out)))); have n1_ := Aside0.mk (below_step (by repeat (first | (with_reducible first | exact HB.out | apply below_alloc | apply pw_below_drewN | apply below_drew1) | exact HB.out)) hb); clear HB; have HO484 := n0_; have HB := n1_; clear n0_ n1_; (try clear hb); (try clear hb2); (try clear hk); (try clear hi); (try clear ho0)) | ((with_reducible refine gate_callee (f := 13) rfl ?_); refine goesL_ (some 35) rfl rfl Tryd.func13 (by kernel_rfl) rfl #[.slice A0 l0.length c0, .slice A1 l1.length c1] rfl (by (try simp only [List.map_toArray, List.map_cons, List.map_nil]); first | done | rfl | (simp only [List.length_drop, List.length_take]; rfl) | (simp only [gt_iff_lt, Int.natCast_pos]; done) | (simp only [gt_iff_lt, Int.natCast_pos]; rfl)) ?_; (with_reducible refine (abacuslaw02_errs.calls kj5 _ _ l0 _ _ l1 t486 _ ?side1 ?side2 ?side3 ?side4 A20.out).mono ?_); (case side1 => repeat (first | exact (Kd.C_below HR0.out HB.out) | (with_reducible refine Kd.C_alloc ?_ _) | (with_reducible refine Kd.C_drewN ?_ _) | (with_reducible refine Kd.C_drew ?_))); (case side2 => exact HC0.out); (case side3 => repeat (first | exact (Kd.C_below HR1.out HB.out) | (with_reducible refine Kd.C_alloc ?_ _) | (with_reducible refine Kd.C_drewN ?_ _) | (with_reducible refine Kd.C_drew ?_))); (case side4 => exact HC1.out); rintro e w' ⟨rfl, ⟨nd, rfl⟩⟩; refine ⟨_, rfl, ?_⟩; obtain ⟨Ao59, co59, eo59⟩ := Kd.V_slice HO484.out; subst eo59))
            go_ret
            exact ⟨by first | rfl | (simp [errW_none, errW_some] <;> rfl) | (simp [*, errW_none, errW_some] <;> rfl), by repeat (first | (with_reducible first | exact HB.out | apply below_alloc | apply pw_below_drewN | apply below_drew1) | exact HB.out)⟩
        · rw [if_neg c21] at H
          have c21b0 : (t485 == t486) = false := beq_eq_false_iff_ne.mpr c21
          have c21b1 : (t485 != t486) = true := bne_iff_ne.mpr c21
          obtain rfl := Option.some.inj H
          go_wp2_with (first | ((with_reducible refine gate_callee (f := 24) rfl ?_); refine goesL_ (some 29) rfl rfl Tryd.func24 (by kernel_rfl) rfl #[.slice A0 l0.length c0, .slice A1 l1.length c1] rfl (by (try simp only [List.map_toArray, List.map_cons, List.map_nil]); first | done | rfl | (simp only [List.length_drop, List.length_take]; rfl) | (simp only [gt_iff_lt, Int.natCast_pos]; done) | (simp only [gt_iff_lt, Int.natCast_pos]; rfl)) ?_; (with_reducible refine (quot_Near.calls kj5 _ _ l0 _ _ l1 t482 t485 _ ?side5 ?side1 ?side2 ?side3 ?side4 A19.out).mono ?_); (case side1 => repeat (first | exact (Kd.C_below HR0.out HB.out) | (with_reducible refine Kd.C_alloc ?_ _) | (with_reducible refine Kd.C_drewN ?_ _) | (with_reducible refine Kd.C_drew ?_))); (case side2 => exact HC0.out); (case side3 => repeat (first | exact (Kd.C_below HR1.out HB.out) | (with_reducible refine Kd.C_alloc ?_ _) | (with_reducible refine Kd.C_drewN ?_ _) | (with_reducible refine Kd.C_drew ?_))); (case side4 => exact HC1.out); (case side5 => repeat (first | exact (Kd.C_below HT.out HB.out) | (with_reducible refine Kd.C_alloc ?_ _) | (with_reducible refine Kd.C_drewN ?_ _) | (with_reducible refine Kd.C_drew ?_))); rintro e w60 ⟨v483, rfl, ho0, hb⟩; refine ⟨_, rfl, ?_⟩; have n0_ := Aside0.mk (Kd.V_lower (Kd.V_mono (ok' := fun k_ => True) ho0 (fun k_ hk_ => trivial)) (below_size (by repeat (first | (with_reducible first | exact HB.out | apply below_alloc | apply pw_below_drewN | apply below_drew1) | exact HB.out)))); have n1_ := Aside0.mk (below_step (by repeat (first | (with_reducible first | exact HB.out | apply below_alloc | apply pw_below_drewN | apply below_drew1) | exact HB.out)) hb); clear HB; have HO484 := n0_; have HB := n1_; clear n0_ n1_; (try clear hb); (try clear hb2); (try clear hk); (try clear hi); (try clear ho0)) | ((with_reducible refine gate_callee (f := 13) rfl ?_); refine goesL_ (some 35) rfl rfl Tryd.func13 (by kernel_rfl) rfl #[.slice A0 l0.length c0, .slice A1 l1.length c1] rfl (by (try simp only [List.map_toArray, List.map_cons, List.map_nil]); first | done | rfl | (simp only [List.length_drop, List.length_take]; rfl) | (simp only [gt_iff_lt, Int.natCast_pos]; done) | (simp only [gt_iff_lt, Int.natCast_pos]; rfl)) ?_; (with_reducible refine (abacuslaw02_errs.calls kj5 _ _ l0 _ _ l1 t486 _ ?side1 ?side2 ?side3 ?side4 A20.out).mono ?_); (case side1 => repeat (first | exact (Kd.C_below HR0.out HB.out) | (with_reducible refine Kd.C_alloc ?_ _) | (with_reducible refine Kd.C_drewN ?_ _) | (with_reducible refine Kd.C_drew ?_))); (case side2 => exact HC0.out); (case side3 => repeat (first | exact (Kd.C_below HR1.out HB.out) | (with_reducible refine Kd.C_alloc ?_ _) | (with_reducible refine Kd.C_drewN ?_ _) | (with_reducible refine Kd.C_drew ?_))); (case side4 => exact HC1.out); rintro e w' ⟨rfl, ⟨nd, rfl⟩⟩; refine ⟨_, rfl, ?_⟩))
          go_ret
          exact ⟨by first | rfl | (simp [errW_none, errW_some] <;> rfl) | (simp [*, errW_none, errW_some] <;> rfl), by repeat (first | (with_reducible first | exact HB.out | apply below_alloc | apply pw_below_drewN | apply below_drew1) | exact HB.out)⟩

/-- THE ONE PURE STATEMENT of abacuslaw02_QuotHalves: yours. -/
def abacuslaw02_QuotHalves.Pure : Prop := ∀ (l0 : List Int) (l1 : List Int), l0.length ≤ maxLen → l0.length * 8 ≤ 140737488351232 → (∀ x ∈ l0, (Lit.int .u64 x).wf = true) → l1.length ≤ maxLen → l1.length * 8 ≤ 140737488351232 → (∀ x ∈ l1, (Lit.int .u64 x).wf = true) → ∃ k, abacuslaw02_QuotHalves.f k l0 l1 = some true
theorem abacuslaw02_QuotHalves.walk (P : abacuslaw02_QuotHalves.Pure) (a0 : Option Addr) (len0 cap0 : Nat) (z0 : List Int) (a1 : Option Addr) (len1 cap1 : Nat) (z1 : List Int) (w : World) (hT : Kd.C (Kd.int .u8) w (some ⟨2, 0, none⟩) 64 tabL) (w0 : (a0 = none ∧ len0 = 0 ∧ cap0 = 0 ∧ z0 = []) ∨ ∃ x, a0 = some x ∧ len0 ≤ cap0 ∧ cap0 ≤ maxLen ∧ z0.length = cap0 ∧ (∀ i, i < z0.length → w.cell? (x.add i) = some (.int .u64 (z0.getD i 0))) ∧ ∀ n ∈ z0, (Lit.int .u64 n).wf = true) (y0 : len0 * 8 ≤ 140737488351232) (w1 : (a1 = none ∧ len1 = 0 ∧ cap1 = 0 ∧ z1 = []) ∨ ∃ x, a1 = some x ∧ len1 ≤ cap1 ∧ cap1 ≤ maxLen ∧ z1.length = cap1 ∧ (∀ i, i < z1.length → w.cell? (x.add i) = some (.int .u64 (z1.getD i 0))) ∧ ∀ n ∈ z1, (Lit.int .u64 n).wf = true) (y1 : len1 * 8 ≤ 140737488351232) :
    Calls Tryd.prog 8 #[.slice a0 len0 cap0, .slice a1 len1 cap1] w fun e w' => e = .returned (.bool true) ∧ Below w.heap.size w w' := by
  obtain ⟨l0, rfl, hr0, hm0, hw0, hc0⟩ := ReadsInt.ofRowC w0
  obtain ⟨l1, rfl, hr1, hm1, hw1, hc1⟩ := ReadsInt.ofRowC w1
  obtain ⟨k, h⟩ := P l0 l1 hm0 y0 hw0 hm1 y1 hw1
  refine (abacuslaw02_QuotHalves.calls k _ _ l0 _ _ l1 true w hT (Kd.C_of_reads (d := (0 : Int)) (h1 := fun _ => rfl) hr0) hc0 (Kd.C_of_reads (d := (0 : Int)) (h1 := fun _ => rfl) hr1) hc1 h).mono ?_
  rintro e w' ⟨rfl, hd⟩
  exact ⟨rfl, hd⟩

end Go.Proofs.YtegollbojafekaaDoor.PS
