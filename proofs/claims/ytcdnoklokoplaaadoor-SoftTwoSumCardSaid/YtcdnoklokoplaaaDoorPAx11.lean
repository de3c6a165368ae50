-- printed by a program
import Derived.Test.YtcdnoklokoplaaaDoorPAx0
import Derived.Test.YtcdnoklokoplaaaDoorPAx2
import Derived.Test.YtcdnoklokoplaaaDoorPAx8
import Derived.Test.YtcdnoklokoplaaaDoorPAx9
namespace Go.Proofs.YtcdnoklokoplaaaDoor.PA
open Go.Proofs.YtcdnoklokoplaaaDoorX
open Go.RowKit Go.Proofs.YtcdnoklokoplaaaDoorW.PrintWords Go.Proofs.YtcdnoklokoplaaaDoorW.PrintLast Go.Proofs.YtcdnoklokoplaaaDoorW.PrintMore
attribute [local go_sem] max2_int min2_int max_two min_two max_three min_three max_four min_four   -- for this text's walks alone
set_option linter.unusedVariables false
set_option linter.unusedSimpArgs false

/-! ### abacuslaw05_modest: function 23 -/
def abacuslaw05_modest.f (a0 : Int) : Option (Bool) := some (decide ((Go.bits .andNot .u64 a0 9223372036854775808) < 9209861237972664320))
set_option maxHeartbeats 8000000 in
set_option maxRecDepth 100000 in
theorem abacuslaw05_modest.calls (a0 : Int) (r : Bool) (w : World) (h : abacuslaw05_modest.f a0 = some r) :
  Calls Tryd.prog 23 #[.int .u64 a0] w fun e w' => e = .returned (.bool r) ∧ Drawn0 w w' := by
 have H : (some (decide ((Go.bits .andNot .u64 a0 9223372036854775808) < 9209861237972664320))) = some r := h
 clear h
 obtain rfl := Option.some.inj H
 go_enter Tryd.func23, Tryd.ntmps23
 go_wp2
 go_ret
 exact ⟨by first | rfl | (simp; done) | (simp [*]; done), by repeat (first | exact Drawn0.refl _ | apply Drawn0.step)⟩

/-! ### abacuslaw05_SoftTwoSum: function 4 -/
mutual
def abacuslaw05_SoftTwoSum.j0 : Nat → Int → Int → Bool → Option (Bool)
 | 0, _, _, _ => none
 | k + 1, x0, x1, x13 => if x13 = true then (some false) else ((abacuslaw05_modest.f x0).bind fun t500 => (if t500 = true then ((abacuslaw05_modest.f x1).bind fun t501 => (abacuslaw05_SoftTwoSum.j1 k x0 x1 (!t501))) else (abacuslaw05_SoftTwoSum.j1 k x0 x1 true)))
def abacuslaw05_SoftTwoSum.j1 : Nat → Int → Int → Bool → Option (Bool)
 | 0, _, _, _ => none
 | k + 1, x0, x1, x21 => if x21 = true then (some true) else ((soft_Add.f k x0 x1).bind fun t502 => ((soft_Sub.f k t502 x0).bind fun t503 => ((soft_Sub.f k t502 t503).bind fun t504 => ((soft_Sub.f k x0 t504).bind fun t505 => ((soft_Sub.f k x1 t503).bind fun t506 => ((soft_Add.f k t505 t506).bind fun t507 => ((abacuslaw05_finite.f t502).bind fun t508 => (if t508 = true then ((abacuslaw05_finite.f t507).bind fun t509 => (if t509 = true then ((abacuslaw05_units.f k x0).bind fun bt510 => ((abacuslaw05_units.f k x1).bind fun bt514 => ((abacuslaw05_plus.f k bt510.1 bt510.2 bt514.1 bt514.2).bind fun bt518 => ((abacuslaw05_units.f k t502).bind fun bt522 => ((abacuslaw05_units.f k t507).bind fun bt526 => ((abacuslaw05_plus.f k bt522.1 bt522.2 bt526.1 bt526.2).bind fun bt530 => ((abacuslaw05_same.f k bt518.1 bt518.2 bt530.1 bt530.2).bind fun t534 => (some t534)))))))) else (some false))) else (some false)))))))))
end
def abacuslaw05_SoftTwoSum.f (k : Nat) (a0 : Int) (a1 : Int) : Option (Bool) := (abacuslaw05_works.f k).bind fun t498 => (if t498 = true then ((abacuslaw05_adds.f k).bind fun t499 => (abacuslaw05_SoftTwoSum.j0 k a0 a1 (!t499))) else (abacuslaw05_SoftTwoSum.j0 k a0 a1 true))
theorem abacuslaw05_SoftTwoSum.mono_l : ∀ k, (∀ y0 y1 y2, LeO (abacuslaw05_SoftTwoSum.j0 k y0 y1 y2) (abacuslaw05_SoftTwoSum.j0 (k + 1) y0 y1 y2)) ∧ (∀ y0 y1 y2, LeO (abacuslaw05_SoftTwoSum.j1 k y0 y1 y2) (abacuslaw05_SoftTwoSum.j1 (k + 1) y0 y1 y2))
 | 0 => ⟨fun _ _ _ r h => by simp [abacuslaw05_SoftTwoSum.j0] at h, fun _ _ _ r h => by simp [abacuslaw05_SoftTwoSum.j1] at h⟩
 | k + 1 => by
  obtain ⟨ih0, ih1⟩ := abacuslaw05_SoftTwoSum.mono_l k
  refine ⟨?_, ?_⟩
  ·intro y0 y1 y2
   unfold abacuslaw05_SoftTwoSum.j0
   repeat' first
   | (with_reducible exact ih0 _ _ _)
   | (with_reducible exact ih1 _ _ _)
   | (with_reducible exact abacuslaw05_adds.mono _)
   | (with_reducible exact abacuslaw05_plus.mono _ _ _ _ _)
   | (with_reducible exact abacuslaw05_same.mono _ _ _ _ _)
   | (with_reducible exact abacuslaw05_units.mono _ _)
   | (with_reducible exact abacuslaw05_works.mono _)
   | (with_reducible exact soft_Add.mono _ _ _)
   | (with_reducible exact soft_Sub.mono _ _ _)
   | (with_reducible exact LeO.refl _)
   | (with_reducible exact LeO.none _)
   | (with_reducible refine LeO.ite ?_ ?_)
   | (with_reducible refine LeO.bind ?_ (fun _ => ?_))
   | exact ih0 _ _ _
   | exact ih1 _ _ _
   | exact abacuslaw05_adds.mono _
   | exact abacuslaw05_plus.mono _ _ _ _ _
   | exact abacuslaw05_same.mono _ _ _ _ _
   | exact abacuslaw05_units.mono _ _
   | exact abacuslaw05_works.mono _
   | exact soft_Add.mono _ _ _
   | exact soft_Sub.mono _ _ _
   | exact LeO.none _
   | refine LeO.ite ?_ ?_
   | refine LeO.bind ?_ (fun _ => ?_)
  ·intro y0 y1 y2
   unfold abacuslaw05_SoftTwoSum.j1
   repeat' first
   | (with_reducible exact ih0 _ _ _)
   | (with_reducible exact ih1 _ _ _)
   | (with_reducible exact abacuslaw05_adds.mono _)
   | (with_reducible exact abacuslaw05_plus.mono _ _ _ _ _)
   | (with_reducible exact abacuslaw05_same.mono _ _ _ _ _)
   | (with_reducible exact abacuslaw05_units.mono _ _)
   | (with_reducible exact abacuslaw05_works.mono _)
   | (with_reducible exact soft_Add.mono _ _ _)
   | (with_reducible exact soft_Sub.mono _ _ _)
   | (with_reducible exact LeO.refl _)
   | (with_reducible exact LeO.none _)
   | (with_reducible refine LeO.ite ?_ ?_)
   | (with_reducible refine LeO.bind ?_ (fun _ => ?_))
   | exact ih0 _ _ _
   | exact ih1 _ _ _
   | exact abacuslaw05_adds.mono _
   | exact abacuslaw05_plus.mono _ _ _ _ _
   | exact abacuslaw05_same.mono _ _ _ _ _
   | exact abacuslaw05_units.mono _ _
   | exact abacuslaw05_works.mono _
   | exact soft_Add.mono _ _ _
   | exact soft_Sub.mono _ _ _
   | exact LeO.none _
   | refine LeO.ite ?_ ?_
   | refine LeO.bind ?_ (fun _ => ?_)
theorem abacuslaw05_SoftTwoSum.mono : ∀ a0 a1 k, LeO (abacuslaw05_SoftTwoSum.f k a0 a1) (abacuslaw05_SoftTwoSum.f (k + 1) a0 a1) := by
 intro a0 a1 k
 obtain ⟨ih0, ih1⟩ := abacuslaw05_SoftTwoSum.mono_l k
 unfold abacuslaw05_SoftTwoSum.f
 repeat' first
   | (with_reducible exact ih0 _ _ _)
   | (with_reducible exact ih1 _ _ _)
   | (with_reducible exact abacuslaw05_adds.mono _)
   | (with_reducible exact abacuslaw05_plus.mono _ _ _ _ _)
   | (with_reducible exact abacuslaw05_same.mono _ _ _ _ _)
   | (with_reducible exact abacuslaw05_units.mono _ _)
   | (with_reducible exact abacuslaw05_works.mono _)
   | (with_reducible exact soft_Add.mono _ _ _)
   | (with_reducible exact soft_Sub.mono _ _ _)
   | (with_reducible exact LeO.refl _)
   | (with_reducible exact LeO.none _)
   | (with_reducible refine LeO.ite ?_ ?_)
   | (with_reducible refine LeO.bind ?_ (fun _ => ?_))
   | exact ih0 _ _ _
   | exact ih1 _ _ _
   | exact abacuslaw05_adds.mono _
   | exact abacuslaw05_plus.mono _ _ _ _ _
   | exact abacuslaw05_same.mono _ _ _ _ _
   | exact abacuslaw05_units.mono _ _
   | exact abacuslaw05_works.mono _
   | exact soft_Add.mono _ _ _
   | exact soft_Sub.mono _ _ _
   | exact LeO.none _
   | refine LeO.ite ?_ ?_
   | refine LeO.bind ?_ (fun _ => ?_)
set_option maxHeartbeats 8000000 in
set_option maxRecDepth 100000 in
theorem abacuslaw05_SoftTwoSum.calls (k : Nat) (a0 : Int) (a1 : Int) (r : Bool) (w : World) (hT : Kd.C (Kd.int .u8) w (some ⟨0, 0, none⟩) 64 tabL) (h : abacuslaw05_SoftTwoSum.f k a0 a1 = some r) :
  Calls Tryd.prog 4 #[.int .u64 a0, .int .u64 a1] w fun e w' => e = .returned (.bool r) ∧ Below w.heap.size w w' := by
 have HT := Aside0.mk hT
 clear hT
 have HB := Aside0.mk (Below.refl w.heap.size w)
 have H : ((abacuslaw05_works.f k).bind fun t498 => (if t498 = true then ((abacuslaw05_adds.f k).bind fun t499 => (abacuslaw05_SoftTwoSum.j0 k a0 a1 (!t499))) else (abacuslaw05_SoftTwoSum.j0 k a0 a1 true))) = some r := h
 clear h
 have HC3 := Aside0.mk H
 clear H
 go_enter Tryd.func4, Tryd.ntmps4
 go_upto_region 1 with (fail)
 go_cut [13] (fun v13 wc => ∃ (kq : Nat) (x13_2 : Bool), v13 = .bool x13_2 ∧ Aside0 (abacuslaw05_SoftTwoSum.j0 kq a0 a1 x13_2 = some r) ∧ Aside0 (kq ≤ k) ∧ Aside0 (Below w.heap.size w wc))
 case first =>
  have H := HC3.out
  clear HC3
  replace H := Option.bind_eq_some_iff.mp H
  obtain ⟨t498, A40, H⟩ := H
  replace H : (if t498 = true then ((abacuslaw05_adds.f k).bind fun t499 => (abacuslaw05_SoftTwoSum.j0 k a0 a1 (!t499))) else (abacuslaw05_SoftTwoSum.j0 k a0 a1 true)) = some r := H
  have A4 := Aside0.mk A40
  clear A40
  by_cases c5 : t498 = true
  ·subst c5
   have H1 : ((abacuslaw05_adds.f k).bind fun t499 => (abacuslaw05_SoftTwoSum.j0 k a0 a1 (!t499))) = some r := by rw [if_pos rfl] at H; exact H
   clear H
   have H := H1
   clear H1
   replace H := Option.bind_eq_some_iff.mp H
   obtain ⟨t499, A60, H⟩ := H
   replace H : (abacuslaw05_SoftTwoSum.j0 k a0 a1 (!t499)) = some r := H
   have A6 := Aside0.mk A60
   clear A60
   have H' := Aside0.mk H
   clear H
   go_wp2_with (first | ((with_reducible refine gate_callee (f := 14) rfl ?_); refine goesL_ (some 8) rfl rfl Tryd.func14 (by kernel_rfl) rfl #[] rfl (by (try simp only [List.map_toArray, List.map_cons, List.map_nil]); first | done | rfl | (simp only [List.length_drop, List.length_take]; rfl) | (simp only [gt_iff_lt, Int.natCast_pos]; done) | (simp only [gt_iff_lt, Int.natCast_pos]; rfl)) ?_; (with_reducible refine (abacuslaw05_works.calls k  true _ A4.out).mono ?_); rintro e w7 ⟨rfl, hb⟩; refine ⟨_, rfl, ?_⟩; have n0_ := Aside0.mk (below_step (bS HB.out) hb); clear HB; have HB := n0_; clear n0_; (try clear hb); (try clear hb2); (try clear hk); (try clear hi)) | (go_at_call 15; (with_reducible refine (abacuslaw05_adds.calls k  t499 _ ?side1 A6.out).mono ?_); (case side1 => exact cS (Kd.C_below HT.out HB.out)); rintro e w8 ⟨rfl, hb⟩; have n0_ := Aside0.mk (below_step (bS HB.out) hb); clear HB; have HB := n0_; clear n0_; (try clear hb); (try clear hb2); (try clear hk); (try clear hi)))
   go_meet
   case rel => exact ⟨_, (!t499), (by first | rfl | (simp; done) | (simp [*]; done)), H', ⟨by first | omega | exact Nat.le_refl _⟩, ⟨bS HB.out⟩⟩
  ·replace c5 := Bool.eq_false_iff.mpr c5
   subst c5
   have H1 : (abacuslaw05_SoftTwoSum.j0 k a0 a1 true) = some r := by rw [if_neg (show ¬ (false = true) by decide)] at H; exact H
   clear H
   have H := H1
   clear H1
   have H' := Aside0.mk H
   clear H
   go_wp2_with (first | ((with_reducible refine gate_callee (f := 14) rfl ?_); refine goesL_ (some 8) rfl rfl Tryd.func14 (by kernel_rfl) rfl #[] rfl (by (try simp only [List.map_toArray, List.map_cons, List.map_nil]); first | done | rfl | (simp only [List.length_drop, List.length_take]; rfl) | (simp only [gt_iff_lt, Int.natCast_pos]; done) | (simp only [gt_iff_lt, Int.natCast_pos]; rfl)) ?_; (with_reducible refine (abacuslaw05_works.calls k  false _ A4.out).mono ?_); rintro e w9 ⟨rfl, hb⟩; refine ⟨_, rfl, ?_⟩; have n0_ := Aside0.mk (below_step (bS HB.out) hb); clear HB; have HB := n0_; clear n0_; (try clear hb); (try clear hb2); (try clear hk); (try clear hi)))
   go_meet
   case rel => exact ⟨_, (true), (by first | rfl | (simp; done) | (simp [*]; done)), H', ⟨by first | omega | exact Nat.le_refl _⟩, ⟨bS HB.out⟩⟩
 case rest =>
  clear HC3
  try clear c1
  try clear p2
  try clear c4
  try clear c5
  obtain ⟨kq, x13_2, rfl, HA, HJ2, HB⟩ := hcut
  cases kq with
  | zero => exact absurd HA.out (by simp [abacuslaw05_SoftTwoSum.j0])
  | succ kj2 =>
   have H := HA.out
   clear HA
   simp only [abacuslaw05_SoftTwoSum.j0] at H
   by_cases c10 : x13_2 = true
   ·subst c10
    have H1 : (some false) = some r := by rw [if_pos rfl] at H; exact H
    clear H
    have H := H1
    clear H1
    obtain rfl := Option.some.inj H
    go_wp2
    go_ret
    exact ⟨by first | rfl | (simp [errW_none, errW_some] <;> rfl) | (simp [*, errW_none, errW_some] <;> rfl), bS HB.out⟩
   ·replace c10 := Bool.eq_false_iff.mpr c10
    subst c10
    have H1 : ((abacuslaw05_modest.f a0).bind fun t500 => (if t500 = true then ((abacuslaw05_modest.f a1).bind fun t501 => (abacuslaw05_SoftTwoSum.j1 kj2 a0 a1 (!t501))) else (abacuslaw05_SoftTwoSum.j1 kj2 a0 a1 true))) = some r := by rw [if_neg (show ¬ (false = true) by decide)] at H; exact H
    clear H
    have H := H1
    clear H1
    have HC11 := Aside0.mk H
    clear H
    go_upto_region 3 with (fail)
    go_cut [21] (fun v21 wc => ∃ (kq : Nat) (x21_10 : Bool), v21 = .bool x21_10 ∧ Aside0 (abacuslaw05_SoftTwoSum.j1 kq a0 a1 x21_10 = some r) ∧ Aside0 (kq ≤ kj2) ∧ Aside0 (Below w.heap.size w wc))
    case first =>
     have H := HC11.out
     clear HC11
     replace H := Option.bind_eq_some_iff.mp H
     obtain ⟨t500, A120, H⟩ := H
     replace H : (if t500 = true then ((abacuslaw05_modest.f a1).bind fun t501 => (abacuslaw05_SoftTwoSum.j1 kj2 a0 a1 (!t501))) else (abacuslaw05_SoftTwoSum.j1 kj2 a0 a1 true)) = some r := H
     have A12 := Aside0.mk A120
     clear A120
     by_cases c13 : t500 = true
     ·subst c13
      have H1 : ((abacuslaw05_modest.f a1).bind fun t501 => (abacuslaw05_SoftTwoSum.j1 kj2 a0 a1 (!t501))) = some r := by rw [if_pos rfl] at H; exact H
      clear H
      have H := H1
      clear H1
      replace H := Option.bind_eq_some_iff.mp H
      obtain ⟨t501, A140, H⟩ := H
      replace H : (abacuslaw05_SoftTwoSum.j1 kj2 a0 a1 (!t501)) = some r := H
      have A14 := Aside0.mk A140
      clear A140
      have H' := Aside0.mk H
      clear H
      go_wp2_with (first | ((with_reducible refine gate_callee (f := 23) rfl ?_); refine goesL_ (some 15) rfl rfl Tryd.func23 (by kernel_rfl) rfl #[.int .u64 a0] rfl (by (try simp only [List.map_toArray, List.map_cons, List.map_nil]); first | done | rfl | (simp only [List.length_drop, List.length_take]; rfl) | (simp only [gt_iff_lt, Int.natCast_pos]; done) | (simp only [gt_iff_lt, Int.natCast_pos]; rfl)) ?_; (with_reducible refine (abacuslaw05_modest.calls a0 true _ A12.out).mono ?_); rintro e w' ⟨rfl, ⟨nd, rfl⟩⟩; refine ⟨_, rfl, ?_⟩) | (go_at_call 23; (with_reducible refine (abacuslaw05_modest.calls a1 t501 _ A14.out).mono ?_); rintro e w' ⟨rfl, ⟨nd, rfl⟩⟩))
      go_meet
      case rel => exact ⟨_, (!t501), (by first | rfl | (have e_ := Option.some.inj (A12.out.symm.trans A14.out); cases e_; rfl) | (simp; done) | (simp [*]; done)), H', ⟨by have := HJ2.out; first | omega | exact Nat.le_refl _⟩, ⟨bS HB.out⟩⟩
     ·replace c13 := Bool.eq_false_iff.mpr c13
      subst c13
      have H1 : (abacuslaw05_SoftTwoSum.j1 kj2 a0 a1 true) = some r := by rw [if_neg (show ¬ (false = true) by decide)] at H; exact H
      clear H
      have H := H1
      clear H1
      have H' := Aside0.mk H
      clear H
      go_wp2_with (first | ((with_reducible refine gate_callee (f := 23) rfl ?_); refine goesL_ (some 15) rfl rfl Tryd.func23 (by kernel_rfl) rfl #[.int .u64 a0] rfl (by (try simp only [List.map_toArray, List.map_cons, List.map_nil]); first | done | rfl | (simp only [List.length_drop, List.length_take]; rfl) | (simp only [gt_iff_lt, Int.natCast_pos]; done) | (simp only [gt_iff_lt, Int.natCast_pos]; rfl)) ?_; (with_reducible refine (abacuslaw05_modest.calls a0 false _ A12.out).mono ?_); rintro e w' ⟨rfl, ⟨nd, rfl⟩⟩; refine ⟨_, rfl, ?_⟩))
      go_meet
      case rel => exact ⟨_, (true), (by first | rfl | (simp; done) | (simp [*]; done)), H', ⟨by have := HJ2.out; first | omega | exact Nat.le_refl _⟩, ⟨bS HB.out⟩⟩
    case rest =>
     clear HC11
     try clear c1
     try clear c2
     try clear p2
     try clear c4
     try clear c5
     try clear c10
     try clear c13
     try clear c14
     try clear p2
     obtain ⟨kq, x21_10, rfl, HA, HJ10, HB⟩ := hcut
     cases kq with
     | zero => exact absurd HA.out (by simp [abacuslaw05_SoftTwoSum.j1])
     | succ kj10 =>
      have H := HA.out
      clear HA
      simp only [abacuslaw05_SoftTwoSum.j1] at H
      by_cases c15 : x21_10 = true
      ·subst c15
       have H1 : (some true) = some r := by rw [if_pos rfl] at H; exact H
       clear H
       have H := H1
       clear H1
       obtain rfl := Option.some.inj H
       go_wp2
       go_ret
       exact ⟨by first | rfl | (simp [errW_none, errW_some] <;> rfl) | (simp [*, errW_none, errW_some] <;> rfl), bS HB.out⟩
      ·replace c15 := Bool.eq_false_iff.mpr c15
       subst c15
       have H1 : ((soft_Add.f kj10 a0 a1).bind fun t502 => ((soft_Sub.f kj10 t502 a0).bind fun t503 => ((soft_Sub.f kj10 t502 t503).bind fun t504 => ((soft_Sub.f kj10 a0 t504).bind fun t505 => ((soft_Sub.f kj10 a1 t503).bind fun t506 => ((soft_Add.f kj10 t505 t506).bind fun t507 => ((abacuslaw05_finite.f t502).bind fun t508 => (if t508 = true then ((abacuslaw05_finite.f t507).bind fun t509 => (if t509 = true then ((abacuslaw05_units.f kj10 a0).bind fun bt510 => ((abacuslaw05_units.f kj10 a1).bind fun bt514 => ((abacuslaw05_plus.f kj10 bt510.1 bt510.2 bt514.1 bt514.2).bind fun bt518 => ((abacuslaw05_units.f kj10 t502).bind fun bt522 => ((abacuslaw05_units.f kj10 t507).bind fun bt526 => ((abacuslaw05_plus.f kj10 bt522.1 bt522.2 bt526.1 bt526.2).bind fun bt530 => ((abacuslaw05_same.f kj10 bt518.1 bt518.2 bt530.1 bt530.2).bind fun t534 => (some t534)))))))) else (some false))) else (some false))))))))) = some r := by rw [if_neg (show ¬ (false = true) by decide)] at H; exact H
       clear H
       have H := H1
       clear H1
       replace H := Option.bind_eq_some_iff.mp H
       obtain ⟨t502, A160, H⟩ := H
       replace H : ((soft_Sub.f kj10 t502 a0).bind fun t503 => ((soft_Sub.f kj10 t502 t503).bind fun t504 => ((soft_Sub.f kj10 a0 t504).bind fun t505 => ((soft_Sub.f kj10 a1 t503).bind fun t506 => ((soft_Add.f kj10 t505 t506).bind fun t507 => ((abacuslaw05_finite.f t502).bind fun t508 => (if t508 = true then ((abacuslaw05_finite.f t507).bind fun t509 => (if t509 = true then ((abacuslaw05_units.f kj10 a0).bind fun bt510 => ((abacuslaw05_units.f kj10 a1).bind fun bt514 => ((abacuslaw05_plus.f kj10 bt510.1 bt510.2 bt514.1 bt514.2).bind fun bt518 => ((abacuslaw05_units.f kj10 t502).bind fun bt522 => ((abacuslaw05_units.f kj10 t507).bind fun bt526 => ((abacuslaw05_plus.f kj10 bt522.1 bt522.2 bt526.1 bt526.2).bind fun bt530 => ((abacuslaw05_same.f kj10 bt518.1 bt518.2 bt530.1 bt530.2).bind fun t534 => (some t534)))))))) else (some false))) else (some false)))))))) = some r := H
       have A16 := Aside0.mk A160
       clear A160
       replace H := Option.bind_eq_some_iff.mp H
       obtain ⟨t503, A170, H⟩ := H
       replace H : ((soft_Sub.f kj10 t502 t503).bind fun t504 => ((soft_Sub.f kj10 a0 t504).bind fun t505 => ((soft_Sub.f kj10 a1 t503).bind fun t506 => ((soft_Add.f kj10 t505 t506).bind fun t507 => ((abacuslaw05_finite.f t502).bind fun t508 => (if t508 = true then ((abacuslaw05_finite.f t507).bind fun t509 => (if t509 = true then ((abacuslaw05_units.f kj10 a0).bind fun bt510 => ((abacuslaw05_units.f kj10 a1).bind fun bt514 => ((abacuslaw05_plus.f kj10 bt510.1 bt510.2 bt514.1 bt514.2).bind fun bt518 => ((abacuslaw05_units.f kj10 t502).bind fun bt522 => ((abacuslaw05_units.f kj10 t507).bind fun bt526 => ((abacuslaw05_plus.f kj10 bt522.1 bt522.2 bt526.1 bt526.2).bind fun bt530 => ((abacuslaw05_same.f kj10 bt518.1 bt518.2 bt530.1 bt530.2).bind fun t534 => (some t534)))))))) else (some false))) else (some false))))))) = some r := H
       have A17 := Aside0.mk A170
       clear A170
       replace H := Option.bind_eq_some_iff.mp H
       obtain ⟨t504, A180, H⟩ := H
       replace H : ((soft_Sub.f kj10 a0 t504).bind fun t505 => ((soft_Sub.f kj10 a1 t503).bind fun t506 => ((soft_Add.f kj10 t505 t506).bind fun t507 => ((abacuslaw05_finite.f t502).bind fun t508 => (if t508 = true then ((abacuslaw05_finite.f t507).bind fun t509 => (if t509 = true then ((abacuslaw05_units.f kj10 a0).bind fun bt510 => ((abacuslaw05_units.f kj10 a1).bind fun bt514 => ((abacuslaw05_plus.f kj10 bt510.1 bt510.2 bt514.1 bt514.2).bind fun bt518 => ((abacuslaw05_units.f kj10 t502).bind fun bt522 => ((abacuslaw05_units.f kj10 t507).bind fun bt526 => ((abacuslaw05_plus.f kj10 bt522.1 bt522.2 bt526.1 bt526.2).bind fun bt530 => ((abacuslaw05_same.f kj10 bt518.1 bt518.2 bt530.1 bt530.2).bind fun t534 => (some t534)))))))) else (some false))) else (some false)))))) = some r := H
       have A18 := Aside0.mk A180
       clear A180
       replace H := Option.bind_eq_some_iff.mp H
       obtain ⟨t505, A190, H⟩ := H
       replace H : ((soft_Sub.f kj10 a1 t503).bind fun t506 => ((soft_Add.f kj10 t505 t506).bind fun t507 => ((abacuslaw05_finite.f t502).bind fun t508 => (if t508 = true then ((abacuslaw05_finite.f t507).bind fun t509 => (if t509 = true then ((abacuslaw05_units.f kj10 a0).bind fun bt510 => ((abacuslaw05_units.f kj10 a1).bind fun bt514 => ((abacuslaw05_plus.f kj10 bt510.1 bt510.2 bt514.1 bt514.2).bind fun bt518 => ((abacuslaw05_units.f kj10 t502).bind fun bt522 => ((abacuslaw05_units.f kj10 t507).bind fun bt526 => ((abacuslaw05_plus.f kj10 bt522.1 bt522.2 bt526.1 bt526.2).bind fun bt530 => ((abacuslaw05_same.f kj10 bt518.1 bt518.2 bt530.1 bt530.2).bind fun t534 => (some t534)))))))) else (some false))) else (some false))))) = some r := H
       have A19 := Aside0.mk A190
       clear A190
       replace H := Option.bind_eq_some_iff.mp H
       obtain ⟨t506, A200, H⟩ := H
       replace H : ((soft_Add.f kj10 t505 t506).bind fun t507 => ((abacuslaw05_finite.f t502).bind fun t508 => (if t508 = true then ((abacuslaw05_finite.f t507).bind fun t509 => (if t509 = true then ((abacuslaw05_units.f kj10 a0).bind fun bt510 => ((abacuslaw05_units.f kj10 a1).bind fun bt514 => ((abacuslaw05_plus.f kj10 bt510.1 bt510.2 bt514.1 bt514.2).bind fun bt518 => ((abacuslaw05_units.f kj10 t502).bind fun bt522 => ((abacuslaw05_units.f kj10 t507).bind fun bt526 => ((abacuslaw05_plus.f kj10 bt522.1 bt522.2 bt526.1 bt526.2).bind fun bt530 => ((abacuslaw05_same.f kj10 bt518.1 bt518.2 bt530.1 bt530.2).bind fun t534 => (some t534)))))))) else (some false))) else (some false)))) = some r := H
       have A20 := Aside0.mk A200
       clear A200
       replace H := Option.bind_eq_some_iff.mp H
       obtain ⟨t507, A210, H⟩ := H
       replace H : ((abacuslaw05_finite.f t502).bind fun t508 => (if t508 = true then ((abacuslaw05_finite.f t507).bind fun t509 => (if t509 = true then ((abacuslaw05_units.f kj10 a0).bind fun bt510 => ((abacuslaw05_units.f kj10 a1).bind fun bt514 => ((abacuslaw05_plus.f kj10 bt510.1 bt510.2 bt514.1 bt514.2).bind fun bt518 => ((abacuslaw05_units.f kj10 t502).bind fun bt522 => ((abacuslaw05_units.f kj10 t507).bind fun bt526 => ((abacuslaw05_plus.f kj10 bt522.1 bt522.2 bt526.1 bt526.2).bind fun bt530 => ((abacuslaw05_same.f kj10 bt518.1 bt518.2 bt530.1 bt530.2).bind fun t534 => (some t534)))))))) else (some false))) else (some false))) = some r := H
       have A21 := Aside0.mk A210
       clear A210
       replace H := Option.bind_eq_some_iff.mp H
       obtain ⟨t508, A220, H⟩ := H
       replace H : (if t508 = true then ((abacuslaw05_finite.f t507).bind fun t509 => (if t509 = true then ((abacuslaw05_units.f kj10 a0).bind fun bt510 => ((abacuslaw05_units.f kj10 a1).bind fun bt514 => ((abacuslaw05_plus.f kj10 bt510.1 bt510.2 bt514.1 bt514.2).bind fun bt518 => ((abacuslaw05_units.f kj10 t502).bind fun bt522 => ((abacuslaw05_units.f kj10 t507).bind fun bt526 => ((abacuslaw05_plus.f kj10 bt522.1 bt522.2 bt526.1 bt526.2).bind fun bt530 => ((abacuslaw05_same.f kj10 bt518.1 bt518.2 bt530.1 bt530.2).bind fun t534 => (some t534)))))))) else (some false))) else (some false)) = some r := H
       have A22 := Aside0.mk A220
       clear A220
       by_cases c23 : t508 = true
       ·subst c23
        have H1 : ((abacuslaw05_finite.f t507).bind fun t509 => (if t509 = true then ((abacuslaw05_units.f kj10 a0).bind fun bt510 => ((abacuslaw05_units.f kj10 a1).bind fun bt514 => ((abacuslaw05_plus.f kj10 bt510.1 bt510.2 bt514.1 bt514.2).bind fun bt518 => ((abacuslaw05_units.f kj10 t502).bind fun bt522 => ((abacuslaw05_units.f kj10 t507).bind fun bt526 => ((abacuslaw05_plus.f kj10 bt522.1 bt522.2 bt526.1 bt526.2).bind fun bt530 => ((abacuslaw05_same.f kj10 bt518.1 bt518.2 bt530.1 bt530.2).bind fun t534 => (some t534)))))))) else (some false))) = some r := by rw [if_pos rfl] at H; exact H
        clear H
        have H := H1
        clear H1
        replace H := Option.bind_eq_some_iff.mp H
        obtain ⟨t509, A240, H⟩ := H
        replace H : (if t509 = true then ((abacuslaw05_units.f kj10 a0).bind fun bt510 => ((abacuslaw05_units.f kj10 a1).bind fun bt514 => ((abacuslaw05_plus.f kj10 bt510.1 bt510.2 bt514.1 bt514.2).bind fun bt518 => ((abacuslaw05_units.f kj10 t502).bind fun bt522 => ((abacuslaw05_units.f kj10 t507).bind fun bt526 => ((abacuslaw05_plus.f kj10 bt522.1 bt522.2 bt526.1 bt526.2).bind fun bt530 => ((abacuslaw05_same.f kj10 bt518.1 bt518.2 bt530.1 bt530.2).bind fun t534 => (some t534)))))))) else (some false)) = some r := H
        have A24 := Aside0.mk A240
        clear A240
        by_cases c25 : t509 = true
        ·subst c25
         have H1 : ((abacuslaw05_units.f kj10 a0).bind fun bt510 => ((abacuslaw05_units.f kj10 a1).bind fun bt514 => ((abacuslaw05_plus.f kj10 bt510.1 bt510.2 bt514.1 bt514.2).bind fun bt518 => ((abacuslaw05_units.f kj10 t502).bind fun bt522 => ((abacuslaw05_units.f kj10 t507).bind fun bt526 => ((abacuslaw05_plus.f kj10 bt522.1 bt522.2 bt526.1 bt526.2).bind fun bt530 => ((abacuslaw05_same.f kj10 bt518.1 bt518.2 bt530.1 bt530.2).bind fun t534 => (some t534)))))))) = some r := by rw [if_pos rfl] at H; exact H
         clear H
         have H := H1
         clear H1
         replace H := Option.bind_eq_some_iff.mp H
         obtain ⟨⟨t510, t511⟩, A260, H⟩ := H
         replace H : ((abacuslaw05_units.f kj10 a1).bind fun bt514 => ((abacuslaw05_plus.f kj10 t510 t511 bt514.1 bt514.2).bind fun bt518 => ((abacuslaw05_units.f kj10 t502).bind fun bt522 => ((abacuslaw05_units.f kj10 t507).bind fun bt526 => ((abacuslaw05_plus.f kj10 bt522.1 bt522.2 bt526.1 bt526.2).bind fun bt530 => ((abacuslaw05_same.f kj10 bt518.1 bt518.2 bt530.1 bt530.2).bind fun t534 => (some t534))))))) = some r := H
         have A26 := Aside0.mk A260
         clear A260
         replace H := Option.bind_eq_some_iff.mp H
         obtain ⟨⟨t514, t515⟩, A270, H⟩ := H
         replace H : ((abacuslaw05_plus.f kj10 t510 t511 t514 t515).bind fun bt518 => ((abacuslaw05_units.f kj10 t502).bind fun bt522 => ((abacuslaw05_units.f kj10 t507).bind fun bt526 => ((abacuslaw05_plus.f kj10 bt522.1 bt522.2 bt526.1 bt526.2).bind fun bt530 => ((abacuslaw05_same.f kj10 bt518.1 bt518.2 bt530.1 bt530.2).bind fun t534 => (some t534)))))) = some r := H
         have A27 := Aside0.mk A270
         clear A270
         replace H := Option.bind_eq_some_iff.mp H
         obtain ⟨⟨t518, t519⟩, A280, H⟩ := H
         replace H : ((abacuslaw05_units.f kj10 t502).bind fun bt522 => ((abacuslaw05_units.f kj10 t507).bind fun bt526 => ((abacuslaw05_plus.f kj10 bt522.1 bt522.2 bt526.1 bt526.2).bind fun bt530 => ((abacuslaw05_same.f kj10 t518 t519 bt530.1 bt530.2).bind fun t534 => (some t534))))) = some r := H
         have A28 := Aside0.mk A280
         clear A280
         replace H := Option.bind_eq_some_iff.mp H
         obtain ⟨⟨t522, t523⟩, A290, H⟩ := H
         replace H : ((abacuslaw05_units.f kj10 t507).bind fun bt526 => ((abacuslaw05_plus.f kj10 t522 t523 bt526.1 bt526.2).bind fun bt530 => ((abacuslaw05_same.f kj10 t518 t519 bt530.1 bt530.2).bind fun t534 => (some t534)))) = some r := H
         have A29 := Aside0.mk A290
         clear A290
         replace H := Option.bind_eq_some_iff.mp H
         obtain ⟨⟨t526, t527⟩, A300, H⟩ := H
         replace H : ((abacuslaw05_plus.f kj10 t522 t523 t526 t527).bind fun bt530 => ((abacuslaw05_same.f kj10 t518 t519 bt530.1 bt530.2).bind fun t534 => (some t534))) = some r := H
         have A30 := Aside0.mk A300
         clear A300
         replace H := Option.bind_eq_some_iff.mp H
         obtain ⟨⟨t530, t531⟩, A310, H⟩ := H
         replace H : ((abacuslaw05_same.f kj10 t518 t519 t530 t531).bind fun t534 => (some t534)) = some r := H
         have A31 := Aside0.mk A310
         clear A310
         replace H := Option.bind_eq_some_iff.mp H
         obtain ⟨t534, A320, H⟩ := H
         replace H : (some t534) = some r := H
         have A32 := Aside0.mk A320
         clear A320
         obtain rfl := Option.some.inj H
         go_wp2_with (first | ((with_reducible refine gate_callee (f := 24) rfl ?_); refine goesL_ (some 24) rfl rfl Tryd.func24 (by kernel_rfl) rfl #[.int .u64 a0, .int .u64 a1] rfl (by (try simp only [List.map_toArray, List.map_cons, List.map_nil]); first | done | rfl | (simp only [List.length_drop, List.length_take]; rfl) | (simp only [gt_iff_lt, Int.natCast_pos]; done) | (simp only [gt_iff_lt, Int.natCast_pos]; rfl)) ?_; (with_reducible refine (soft_Add.calls kj10 a0 a1 t502 _ ?side1 A16.out).mono ?_); (case side1 => exact cS (Kd.C_below HT.out HB.out)); rintro e w33 ⟨rfl, hb⟩; refine ⟨_, rfl, ?_⟩; have n0_ := Aside0.mk (below_step (bS HB.out) hb); clear HB; have HB := n0_; clear n0_; (try clear hb); (try clear hb2); (try clear hk); (try clear hi)) | ((with_reducible refine gate_callee (f := 20) rfl ?_); refine goesL_ (some 27) rfl rfl Tryd.func20 (by kernel_rfl) rfl #[.int .u64 t502, .int .u64 a0] rfl (by (try simp only [List.map_toArray, List.map_cons, List.map_nil]); first | done | rfl | (simp only [List.length_drop, List.length_take]; rfl) | (simp only [gt_iff_lt, Int.natCast_pos]; done) | (simp only [gt_iff_lt, Int.natCast_pos]; rfl)) ?_; (with_reducible refine (soft_Sub.calls kj10 t502 a0 t503 _ ?side1 A17.out).mono ?_); (case side1 => exact cS (Kd.C_below HT.out HB.out)); rintro e w34 ⟨rfl, hb⟩; refine ⟨_, rfl, ?_⟩; have n0_ := Aside0.mk (below_step (bS HB.out) hb); clear HB; have HB := n0_; clear n0_; (try clear hb); (try clear hb2); (try clear hk); (try clear hi)) | ((with_reducible refine gate_callee (f := 20) rfl ?_); refine goesL_ (some 31) rfl rfl Tryd.func20 (by kernel_rfl) rfl #[.int .u64 t502, .int .u64 t503] rfl (by (try simp only [List.map_toArray, List.map_cons, List.map_nil]); first | done | rfl | (simp only [List.length_drop, List.length_take]; rfl) | (simp only [gt_iff_lt, Int.natCast_pos]; done) | (simp only [gt_iff_lt, Int.natCast_pos]; rfl)) ?_; (with_reducible refine (soft_Sub.calls kj10 t502 t503 t504 _ ?side1 A18.out).mono ?_); (case side1 => exact cS (Kd.C_below HT.out HB.out)); rintro e w35 ⟨rfl, hb⟩; refine ⟨_, rfl, ?_⟩; have n0_ := Aside0.mk (below_step (bS HB.out) hb); clear HB; have HB := n0_; clear n0_; (try clear hb); (try clear hb2); (try clear hk); (try clear hi)) | ((with_reducible refine gate_callee (f := 20) rfl ?_); refine goesL_ (some 32) rfl rfl Tryd.func20 (by kernel_rfl) rfl #[.int .u64 a0, .int .u64 t504] rfl (by (try simp only [List.map_toArray, List.map_cons, List.map_nil]); first | done | rfl | (simp only [List.length_drop, List.length_take]; rfl) | (simp only [gt_iff_lt, Int.natCast_pos]; done) | (simp only [gt_iff_lt, Int.natCast_pos]; rfl)) ?_; (with_reducible refine (soft_Sub.calls kj10 a0 t504 t505 _ ?side1 A19.out).mono ?_); (case side1 => exact cS (Kd.C_below HT.out HB.out)); rintro e w36 ⟨rfl, hb⟩; refine ⟨_, rfl, ?_⟩; have n0_ := Aside0.mk (below_step (bS HB.out) hb); clear HB; have HB := n0_; clear n0_; (try clear hb); (try clear hb2); (try clear hk); (try clear hi)) | ((with_reducible refine gate_callee (f := 20) rfl ?_); refine goesL_ (some 35) rfl rfl Tryd.func20 (by kernel_rfl) rfl #[.int .u64 a1, .int .u64 t503] rfl (by (try simp only [List.map_toArray, List.map_cons, List.map_nil]); first | done | rfl | (simp only [List.length_drop, List.length_take]; rfl) | (simp only [gt_iff_lt, Int.natCast_pos]; done) | (simp only [gt_iff_lt, Int.natCast_pos]; rfl)) ?_; (with_reducible refine (soft_Sub.calls kj10 a1 t503 t506 _ ?side1 A20.out).mono ?_); (case side1 => exact cS (Kd.C_below HT.out HB.out)); rintro e w37 ⟨rfl, hb⟩; refine ⟨_, rfl, ?_⟩; have n0_ := Aside0.mk (below_step (bS HB.out) hb); clear HB; have HB := n0_; clear n0_; (try clear hb); (try clear hb2); (try clear hk); (try clear hi)) | ((with_reducible refine gate_callee (f := 24) rfl ?_); refine goesL_ (some 36) rfl rfl Tryd.func24 (by kernel_rfl) rfl #[.int .u64 t505, .int .u64 t506] rfl (by (try simp only [List.map_toArray, List.map_cons, List.map_nil]); first | done | rfl | (simp only [List.length_drop, List.length_take]; rfl) | (simp only [gt_iff_lt, Int.natCast_pos]; done) | (simp only [gt_iff_lt, Int.natCast_pos]; rfl)) ?_; (with_reducible refine (soft_Add.calls kj10 t505 t506 t507 _ ?side1 A21.out).mono ?_); (case side1 => exact cS (Kd.C_below HT.out HB.out)); rintro e w38 ⟨rfl, hb⟩; refine ⟨_, rfl, ?_⟩; have n0_ := Aside0.mk (below_step (bS HB.out) hb); clear HB; have HB := n0_; clear n0_; (try clear hb); (try clear hb2); (try clear hk); (try clear hi)) | ((with_reducible refine gate_callee (f := 16) rfl ?_); refine goesL_ (some 38) rfl rfl Tryd.func16 (by kernel_rfl) rfl #[.int .u64 t502] rfl (by (try simp only [List.map_toArray, List.map_cons, List.map_nil]); first | done | rfl | (simp only [List.length_drop, List.length_take]; rfl) | (simp only [gt_iff_lt, Int.natCast_pos]; done) | (simp only [gt_iff_lt, Int.natCast_pos]; rfl)) ?_; (with_reducible refine (abacuslaw05_finite.calls t502 true _ A22.out).mono ?_); rintro e w' ⟨rfl, ⟨nd, rfl⟩⟩; refine ⟨_, rfl, ?_⟩) | (go_at_call 16; (with_reducible refine (abacuslaw05_finite.calls t507 true _ A24.out).mono ?_); rintro e w' ⟨rfl, ⟨nd, rfl⟩⟩) | (go_at_call 17; (with_reducible refine (abacuslaw05_units.calls kj10 a0 t510 t511 _ A26.out).mono ?_); rintro e w39 ⟨v512, rfl, ho0, hb⟩; have n0_ := Aside0.mk (Kd.V_lower (Kd.V_mono (ok' := fun k_ => True) ho0 (fun k_ hk_ => trivial)) (below_size (bS HB.out))); have n1_ := Aside0.mk (below_step (bS HB.out) hb); clear HB; have HO513 := n0_; have HB := n1_; clear n0_ n1_; (try clear hb); (try clear hb2); (try clear hk); (try clear hi); (try clear ho0)) | (go_at_call 17; (with_reducible refine (abacuslaw05_units.calls kj10 a1 t514 t515 _ A27.out).mono ?_); rintro e w40 ⟨v516, rfl, ho0, hb⟩; have n0_ := Aside0.mk (Kd.V_below (vS <| HO513.out) hb); have n1_ := Aside0.mk (Kd.V_lower (Kd.V_mono (ok' := fun k_ => True) ho0 (fun k_ hk_ => trivial)) (below_size (bS HB.out))); have n2_ := Aside0.mk (below_step (bS HB.out) hb); clear HO513; clear HB; have HO513 := n0_; have HO517 := n1_; have HB := n2_; clear n0_ n1_ n2_; (try clear hb); (try clear hb2); (try clear hk); (try clear hi); (try clear ho0); obtain ⟨Ao41, co41, eo41⟩ := Kd.V_slice HO513.out; subst eo41; obtain ⟨Ao42, co42, eo42⟩ := Kd.V_slice HO517.out; subst eo42) | (go_at_call 22; (with_reducible refine (abacuslaw05_plus.calls kj10 t510 (fun k_ => True) _ _ t511 t514 (fun k_ => True) _ _ t515 t518 t519 _ ?side1 ?side2 A28.out).mono ?_); (case side1 => exact HO513.out); (case side2 => exact HO517.out); rintro e w43 ⟨v520, rfl, ho0, hb⟩; have n0_ := Aside0.mk (Kd.V_below (vS <| HO513.out) hb); have n1_ := Aside0.mk (Kd.V_below (vS <| HO517.out) hb); have n2_ := Aside0.mk (Kd.V_lower (Kd.V_mono (ok' := fun k_ => True) ho0 (fun k_ hk_ => trivial)) (below_size (bS HB.out))); have n3_ := Aside0.mk (below_step (bS HB.out) hb); clear HO513; clear HO517; clear HB; have HO513 := n0_; have HO517 := n1_; have HO521 := n2_; have HB := n3_; clear n0_ n1_ n2_ n3_; (try clear hb); (try clear hb2); (try clear hk); (try clear hi); (try clear ho0)) | (go_at_call 17; (with_reducible refine (abacuslaw05_units.calls kj10 t502 t522 t523 _ A29.out).mono ?_); rintro e w44 ⟨v524, rfl, ho0, hb⟩; have n0_ := Aside0.mk (Kd.V_below (vS <| HO513.out) hb); have n1_ := Aside0.mk (Kd.V_below (vS <| HO517.out) hb); have n2_ := Aside0.mk (Kd.V_below (vS <| HO521.out) hb); have n3_ := Aside0.mk (Kd.V_lower (Kd.V_mono (ok' := fun k_ => True) ho0 (fun k_ hk_ => trivial)) (below_size (bS HB.out))); have n4_ := Aside0.mk (below_step (bS HB.out) hb); clear HO513; clear HO517; clear HO521; clear HB; have HO513 := n0_; have HO517 := n1_; have HO521 := n2_; have HO525 := n3_; have HB := n4_; clear n0_ n1_ n2_ n3_ n4_; (try clear hb); (try clear hb2); (try clear hk); (try clear hi); (try clear ho0)) | (go_at_call 17; (with_reducible refine (abacuslaw05_units.calls kj10 t507 t526 t527 _ A30.out).mono ?_); rintro e w45 ⟨v528, rfl, ho0, hb⟩; have n0_ := Aside0.mk (Kd.V_below (vS <| HO513.out) hb); have n1_ := Aside0.mk (Kd.V_below (vS <| HO517.out) hb); have n2_ := Aside0.mk (Kd.V_below (vS <| HO521.out) hb); have n3_ := Aside0.mk (Kd.V_below (vS <| HO525.out) hb); have n4_ := Aside0.mk (Kd.V_lower (Kd.V_mono (ok' := fun k_ => True) ho0 (fun k_ hk_ => trivial)) (below_size (bS HB.out))); have n5_ := Aside0.mk (below_step (bS HB.out) hb); clear HO513; clear HO517; clear HO521; clear HO525; clear HB; have HO513 := n0_; have HO517 := n1_; have HO521 := n2_; have HO525 := n3_; have HO529 := n4_; have HB := n5_; clear n0_ n1_ n2_ n3_ n4_ n5_; (try clear hb); (try clear hb2); (try clear hk); (try clear hi); (try clear ho0); obtain ⟨Ao46, co46, eo46⟩ := Kd.V_slice HO525.out; subst eo46; obtain ⟨Ao47, co47, eo47⟩ := Kd.V_slice HO529.out; subst eo47) | (go_at_call 22; (with_reducible refine (abacuslaw05_plus.calls kj10 t522 (fun k_ => True) _ _ t523 t526 (fun k_ => True) _ _ t527 t530 t531 _ ?side1 ?side2 A31.out).mono ?_); (case side1 => exact HO525.out); (case side2 => exact HO529.out); rintro e w48 ⟨v532, rfl, ho0, hb⟩; have n0_ := Aside0.mk (Kd.V_below (vS <| HO513.out) hb); have n1_ := Aside0.mk (Kd.V_below (vS <| HO517.out) hb); have n2_ := Aside0.mk (Kd.V_below (vS <| HO521.out) hb); have n3_ := Aside0.mk (Kd.V_below (vS <| HO525.out) hb); have n4_ := Aside0.mk (Kd.V_below (vS <| HO529.out) hb); have n5_ := Aside0.mk (Kd.V_lower (Kd.V_mono (ok' := fun k_ => True) ho0 (fun k_ hk_ => trivial)) (below_size (bS HB.out))); have n6_ := Aside0.mk (below_step (bS HB.out) hb); clear HO513; clear HO517; clear HO521; clear HO525; clear HO529; clear HB; have HO513 := n0_; have HO517 := n1_; have HO521 := n2_; have HO525 := n3_; have HO529 := n4_; have HO533 := n5_; have HB := n6_; clear n0_ n1_ n2_ n3_ n4_ n5_ n6_; (try clear hb); (try clear hb2); (try clear hk); (try clear hi); (try clear ho0); obtain ⟨Ao49, co49, eo49⟩ := Kd.V_slice HO521.out; subst eo49; obtain ⟨Ao50, co50, eo50⟩ := Kd.V_slice HO533.out; subst eo50) | (go_at_call 21; (with_reducible refine (abacuslaw05_same.calls kj10 t518 _ _ t519 t530 _ _ t531 t534 _ ?side1 ?side2 ?side3 ?side4 A32.out).mono ?_); (case side1 => exact cS (Kd.V_reads' HO521.out).2.2); (case side2 => exact (Kd.V_reads' HO521.out).2.1); (case side3 => exact cS (Kd.V_reads' HO533.out).2.2); (case side4 => exact (Kd.V_reads' HO533.out).2.1); rintro e w51 ⟨rfl, hb⟩; have n0_ := Aside0.mk (Kd.V_below (vS <| HO513.out) hb); have n1_ := Aside0.mk (Kd.V_below (vS <| HO517.out) hb); have n2_ := Aside0.mk (Kd.V_below (vS <| HO521.out) hb); have n3_ := Aside0.mk (Kd.V_below (vS <| HO525.out) hb); have n4_ := Aside0.mk (Kd.V_below (vS <| HO529.out) hb); have n5_ := Aside0.mk (Kd.V_below (vS <| HO533.out) hb); have n6_ := Aside0.mk (below_step (bS HB.out) hb); clear HO513; clear HO517; clear HO521; clear HO525; clear HO529; clear HO533; clear HB; have HO513 := n0_; have HO517 := n1_; have HO521 := n2_; have HO525 := n3_; have HO529 := n4_; have HO533 := n5_; have HB := n6_; clear n0_ n1_ n2_ n3_ n4_ n5_ n6_; (try clear hb); (try clear hb2); (try clear hk); (try clear hi)))
         go_ret
         exact ⟨by first | rfl | (simp [errW_none, errW_some] <;> rfl) | (simp [*, errW_none, errW_some] <;> rfl), bS HB.out⟩
        ·replace c25 := Bool.eq_false_iff.mpr c25
         subst c25
         have H1 : (some false) = some r := by rw [if_neg (show ¬ (false = true) by decide)] at H; exact H
         clear H
         have H := H1
         clear H1
         obtain rfl := Option.some.inj H
         go_wp2_with (first | ((with_reducible refine gate_callee (f := 24) rfl ?_); refine goesL_ (some 24) rfl rfl Tryd.func24 (by kernel_rfl) rfl #[.int .u64 a0, .int .u64 a1] rfl (by (try simp only [List.map_toArray, List.map_cons, List.map_nil]); first | done | rfl | (simp only [List.length_drop, List.length_take]; rfl) | (simp only [gt_iff_lt, Int.natCast_pos]; done) | (simp only [gt_iff_lt, Int.natCast_pos]; rfl)) ?_; (with_reducible refine (soft_Add.calls kj10 a0 a1 t502 _ ?side1 A16.out).mono ?_); (case side1 => exact cS (Kd.C_below HT.out HB.out)); rintro e w52 ⟨rfl, hb⟩; refine ⟨_, rfl, ?_⟩; have n0_ := Aside0.mk (below_step (bS HB.out) hb); clear HB; have HB := n0_; clear n0_; (try clear hb); (try clear hb2); (try clear hk); (try clear hi)) | ((with_reducible refine gate_callee (f := 20) rfl ?_); refine goesL_ (some 27) rfl rfl Tryd.func20 (by kernel_rfl) rfl #[.int .u64 t502, .int .u64 a0] rfl (by (try simp only [List.map_toArray, List.map_cons, List.map_nil]); first | done | rfl | (simp only [List.length_drop, List.length_take]; rfl) | (simp only [gt_iff_lt, Int.natCast_pos]; done) | (simp only [gt_iff_lt, Int.natCast_pos]; rfl)) ?_; (with_reducible refine (soft_Sub.calls kj10 t502 a0 t503 _ ?side1 A17.out).mono ?_); (case side1 => exact cS (Kd.C_below HT.out HB.out)); rintro e w53 ⟨rfl, hb⟩; refine ⟨_, rfl, ?_⟩; have n0_ := Aside0.mk (below_step (bS HB.out) hb); clear HB; have HB := n0_; clear n0_; (try clear hb); (try clear hb2); (try clear hk); (try clear hi)) | ((with_reducible refine gate_callee (f := 20) rfl ?_); refine goesL_ (some 31) rfl rfl Tryd.func20 (by kernel_rfl) rfl #[.int .u64 t502, .int .u64 t503] rfl (by (try simp only [List.map_toArray, List.map_cons, List.map_nil]); first | done | rfl | (simp only [List.length_drop, List.length_take]; rfl) | (simp only [gt_iff_lt, Int.natCast_pos]; done) | (simp only [gt_iff_lt, Int.natCast_pos]; rfl)) ?_; (with_reducible refine (soft_Sub.calls kj10 t502 t503 t504 _ ?side1 A18.out).mono ?_); (case side1 => exact cS (Kd.C_below HT.out HB.out)); rintro e w54 ⟨rfl, hb⟩; refine ⟨_, rfl, ?_⟩; have n0_ := Aside0.mk (below_step (bS HB.out) hb); clear HB; have HB := n0_; clear n0_; (try clear hb); (try clear hb2); (try clear hk); (try clear hi)) | ((with_reducible refine gate_callee (f := 20) rfl ?_); refine goesL_ (some 32) rfl rfl Tryd.func20 (by kernel_rfl) rfl #[.int .u64 a0, .int .u64 t504] rfl (by (try simp only [List.map_toArray, List.map_cons, List.map_nil]); first | done | rfl | (simp only [List.length_drop, List.length_take]; rfl) | (simp only [gt_iff_lt, Int.natCast_pos]; done) | (simp only [gt_iff_lt, Int.natCast_pos]; rfl)) ?_; (with_reducible refine (soft_Sub.calls kj10 a0 t504 t505 _ ?side1 A19.out).mono ?_); (case side1 => exact cS (Kd.C_below HT.out HB.out)); rintro e w55 ⟨rfl, hb⟩; refine ⟨_, rfl, ?_⟩; have n0_ := Aside0.mk (below_step (bS HB.out) hb); clear HB; have HB := n0_; clear n0_; (try clear hb); (try clear hb2); (try clear hk); (try clear hi)) | ((with_reducible refine gate_callee (f := 20) rfl ?_); refine goesL_ (some 35) rfl rfl Tryd.func20 (by kernel_rfl) rfl #[.int .u64 a1, .int .u64 t503] rfl (by (try simp only [List.map_toArray, List.map_cons, List.map_nil]); first | done | rfl | (simp only [List.length_drop, List.length_take]; rfl) | (simp only [gt_iff_lt, Int.natCast_pos]; done) | (simp only [gt_iff_lt, Int.natCast_pos]; rfl)) ?_; (with_reducible refine (soft_Sub.calls kj10 a1 t503 t506 _ ?side1 A20.out).mono ?_); (case side1 => exact cS (Kd.C_below HT.out HB.out)); rintro e w56 ⟨rfl, hb⟩; refine ⟨_, rfl, ?_⟩; have n0_ := Aside0.mk (below_step (bS HB.out) hb); clear HB; have HB := n0_; clear n0_; (try clear hb); (try clear hb2); (try clear hk); (try clear hi)) | ((with_reducible refine gate_callee (f := 24) rfl ?_); refine goesL_ (some 36) rfl rfl Tryd.func24 (by kernel_rfl) rfl #[.int .u64 t505, .int .u64 t506] rfl (by (try simp only [List.map_toArray, List.map_cons, List.map_nil]); first | done | rfl | (simp only [List.length_drop, List.length_take]; rfl) | (simp only [gt_iff_lt, Int.natCast_pos]; done) | (simp only [gt_iff_lt, Int.natCast_pos]; rfl)) ?_; (with_reducible refine (soft_Add.calls kj10 t505 t506 t507 _ ?side1 A21.out).mono ?_); (case side1 => exact cS (Kd.C_below HT.out HB.out)); rintro e w57 ⟨rfl, hb⟩; refine ⟨_, rfl, ?_⟩; have n0_ := Aside0.mk (below_step (bS HB.out) hb); clear HB; have HB := n0_; clear n0_; (try clear hb); (try clear hb2); (try clear hk); (try clear hi)) | ((with_reducible refine gate_callee (f := 16) rfl ?_); refine goesL_ (some 38) rfl rfl Tryd.func16 (by kernel_rfl) rfl #[.int .u64 t502] rfl (by (try simp only [List.map_toArray, List.map_cons, List.map_nil]); first | done | rfl | (simp only [List.length_drop, List.length_take]; rfl) | (simp only [gt_iff_lt, Int.natCast_pos]; done) | (simp only [gt_iff_lt, Int.natCast_pos]; rfl)) ?_; (with_reducible refine (abacuslaw05_finite.calls t502 true _ A22.out).mono ?_); rintro e w' ⟨rfl, ⟨nd, rfl⟩⟩; refine ⟨_, rfl, ?_⟩) | (go_at_call 16; (with_reducible refine (abacuslaw05_finite.calls t507 false _ A24.out).mono ?_); rintro e w' ⟨rfl, ⟨nd, rfl⟩⟩))
         go_ret
         exact ⟨by first | rfl | (simp [errW_none, errW_some] <;> rfl) | (simp [*, errW_none, errW_some] <;> rfl), bS HB.out⟩
       ·replace c23 := Bool.eq_false_iff.mpr c23
        subst c23
        have H1 : (some false) = some r := by rw [if_neg (show ¬ (false = true) by decide)] at H; exact H
        clear H
        have H := H1
        clear H1
        obtain rfl := Option.some.inj H
        go_wp2_with (first | ((with_reducible refine gate_callee (f := 24) rfl ?_); refine goesL_ (some 24) rfl rfl Tryd.func24 (by kernel_rfl) rfl #[.int .u64 a0, .int .u64 a1] rfl (by (try simp only [List.map_toArray, List.map_cons, List.map_nil]); first | done | rfl | (simp only [List.length_drop, List.length_take]; rfl) | (simp only [gt_iff_lt, Int.natCast_pos]; done) | (simp only [gt_iff_lt, Int.natCast_pos]; rfl)) ?_; (with_reducible refine (soft_Add.calls kj10 a0 a1 t502 _ ?side1 A16.out).mono ?_); (case side1 => exact cS (Kd.C_below HT.out HB.out)); rintro e w58 ⟨rfl, hb⟩; refine ⟨_, rfl, ?_⟩; have n0_ := Aside0.mk (below_step (bS HB.out) hb); clear HB; have HB := n0_; clear n0_; (try clear hb); (try clear hb2); (try clear hk); (try clear hi)) | ((with_reducible refine gate_callee (f := 20) rfl ?_); refine goesL_ (some 27) rfl rfl Tryd.func20 (by kernel_rfl) rfl #[.int .u64 t502, .int .u64 a0] rfl (by (try simp only [List.map_toArray, List.map_cons, List.map_nil]); first | done | rfl | (simp only [List.length_drop, List.length_take]; rfl) | (simp only [gt_iff_lt, Int.natCast_pos]; done) | (simp only [gt_iff_lt, Int.natCast_pos]; rfl)) ?_; (with_reducible refine (soft_Sub.calls kj10 t502 a0 t503 _ ?side1 A17.out).mono ?_); (case side1 => exact cS (Kd.C_below HT.out HB.out)); rintro e w59 ⟨rfl, hb⟩; refine ⟨_, rfl, ?_⟩; have n0_ := Aside0.mk (below_step (bS HB.out) hb); clear HB; have HB := n0_; clear n0_; (try clear hb); (try clear hb2); (try clear hk); (try clear hi)) | ((with_reducible refine gate_callee (f := 20) rfl ?_); refine goesL_ (some 31) rfl rfl Tryd.func20 (by kernel_rfl) rfl #[.int .u64 t502, .int .u64 t503] rfl (by (try simp only [List.map_toArray, List.map_cons, List.map_nil]); first | done | rfl | (simp only [List.length_drop, List.length_take]; rfl) | (simp only [gt_iff_lt, Int.natCast_pos]; done) | (simp only [gt_iff_lt, Int.natCast_pos]; rfl)) ?_; (with_reducible refine (soft_Sub.calls kj10 t502 t503 t504 _ ?side1 A18.out).mono ?_); (case side1 => exact cS (Kd.C_below HT.out HB.out)); rintro e w60 ⟨rfl, hb⟩; refine ⟨_, rfl, ?_⟩; have n0_ := Aside0.mk (below_step (bS HB.out) hb); clear HB; have HB := n0_; clear n0_; (try clear hb); (try clear hb2); (try clear hk); (try clear hi)) | ((with_reducible refine gate_callee (f := 20) rfl ?_); refine goesL_ (some 32) rfl rfl Tryd.func20 (by kernel_rfl) rfl #[.int .u64 a0, .int .u64 t504] rfl (by (try simp only [List.map_toArray, List.map_cons, List.map_nil]); first | done | rfl | (simp only [List.length_drop, List.length_take]; rfl) | (simp only [gt_iff_lt, Int.natCast_pos]; done) | (simp only [gt_iff_lt, Int.natCast_pos]; rfl)) ?_; (with_reducible refine (soft_Sub.calls kj10 a0 t504 t505 _ ?side1 A19.out).mono ?_); (case side1 => exact cS (Kd.C_below HT.out HB.out)); rintro e w61 ⟨rfl, hb⟩; refine ⟨_, rfl, ?_⟩; have n0_ := Aside0.mk (below_step (bS HB.out) hb); clear HB; have HB := n0_; clear n0_; (try clear hb); (try clear hb2); (try clear hk); (try clear hi)) | ((with_reducible refine gate_callee (f := 20) rfl ?_); refine goesL_ (some 35) rfl rfl Tryd.func20 (by kernel_rfl) rfl #[.int .u64 a1, .int .u64 t503] rfl (by (try simp only [List.map_toArray, List.map_cons, List.map_nil]); first | done | rfl | (simp only [List.length_drop, List.length_take]; rfl) | (simp only [gt_iff_lt, Int.natCast_pos]; done) | (simp only [gt_iff_lt, Int.natCast_pos]; rfl)) ?_; (with_reducible refine (soft_Sub.calls kj10 a1 t503 t506 _ ?side1 A20.out).mono ?_); (case side1 => exact cS (Kd.C_below HT.out HB.out)); rintro e w62 ⟨rfl, hb⟩; refine ⟨_, rfl, ?_⟩; have n0_ := Aside0.mk (below_step (bS HB.out) hb); clear HB; have HB := n0_; clear n0_; (try clear hb); (try clear hb2); (try clear hk); (try clear hi)) | ((with_reducible refine gate_callee (f := 24) rfl ?_); refine goesL_ (some 36) rfl rfl Tryd.func24 (by kernel_rfl) rfl #[.int .u64 t505, .int .u64 t506] rfl (by (try simp only [List.map_toArray, List.map_cons, List.map_nil]); first | done | rfl | (simp only [List.length_drop, List.length_take]; rfl) | (simp only [gt_iff_lt, Int.natCast_pos]; done) | (simp only [gt_iff_lt, Int.natCast_pos]; rfl)) ?_; (with_reducible refine (soft_Add.calls kj10 t505 t506 t507 _ ?side1 A21.out).mono ?_); (case side1 => exact cS (Kd.C_below HT.out HB.out)); rintro e w63 ⟨rfl, hb⟩; refine ⟨_, rfl, ?_⟩; have n0_ := Aside0.mk (below_step (bS HB.out) hb); clear HB; have HB := n0_; clear n0_; (try clear hb); (try clear hb2); (try clear hk); (try clear hi)) | ((with_reducible refine gate_callee (f := 16) rfl ?_); refine goesL_ (some 38) rfl rfl Tryd.func16 (by kernel_rfl) rfl #[.int .u64 t502] rfl (by (try simp only [List.map_toArray, List.map_cons, List.map_nil]); first | done | rfl | (simp only [List.length_drop, List.length_take]; rfl) | (simp only [gt_iff_lt, Int.natCast_pos]; done) | (simp only [gt_iff_lt, Int.natCast_pos]; rfl)) ?_; (with_reducible refine (abacuslaw05_finite.calls t502 false _ A22.out).mono ?_); rintro e w' ⟨rfl, ⟨nd, rfl⟩⟩; refine ⟨_, rfl, ?_⟩))
        go_ret
        exact ⟨by first | rfl | (simp [errW_none, errW_some] <;> rfl) | (simp [*, errW_none, errW_some] <;> rfl), bS HB.out⟩

/-- THE ONE PURE STATEMENT of abacuslaw05_SoftTwoSum: yours. -/
def abacuslaw05_SoftTwoSum.Pure : Prop := ∀ (a0 : Int) (a1 : Int), (Lit.int .u64 a0).wf = true → (Lit.int .u64 a1).wf = true → ∃ k, abacuslaw05_SoftTwoSum.f k a0 a1 = some true
theorem abacuslaw05_SoftTwoSum.walk (P : abacuslaw05_SoftTwoSum.Pure) (a0 : Int) (a1 : Int) (w : World) (hT : Kd.C (Kd.int .u8) w (some ⟨0, 0, none⟩) 64 tabL) (w0 : (Lit.int .u64 a0).wf = true) (w1 : (Lit.int .u64 a1).wf = true) :
  Calls Tryd.prog 4 #[.int .u64 a0, .int .u64 a1] w fun e w' => e = .returned (.bool true) ∧ Below w.heap.size w w' := by
 obtain ⟨k, h⟩ := P a0 a1 w0 w1
 refine (abacuslaw05_SoftTwoSum.calls k a0 a1 true w hT h).mono ?_
 rintro e w' ⟨rfl, hd⟩
 exact ⟨rfl, hd⟩

/-! ### soft_product: function 91 -/
def soft_product.f (k : Nat) (a0_0 : Bool) (a0_1 : Int) (a0_2 : Int) (a0_3 : Int) (a1_0 : Bool) (a1_1 : Int) (a1_2 : Int) (a1_3 : Int) : Option (Bool × List Int × Int) := (nat_FromUint.f a0_2).bind fun t538 => ((nat_FromUint.f a1_2).bind fun t541 => ((nat_Mul.f k t538 t541).bind fun bt544 => (some ((a0_0 != a1_0), bt544.1, wrap64 (a0_3 + a1_3)))))
theorem soft_product.mono : ∀ a0 a1 a2 a3 a4 a5 a6 a7 k, LeO (soft_product.f k a0 a1 a2 a3 a4 a5 a6 a7) (soft_product.f (k + 1) a0 a1 a2 a3 a4 a5 a6 a7) := by
 intro a0 a1 a2 a3 a4 a5 a6 a7 k
 unfold soft_product.f
 repeat' first
   | (with_reducible exact nat_Mul.mono _ _ _)
   | (with_reducible exact LeO.refl _)
   | (with_reducible exact LeO.none _)
   | (with_reducible refine LeO.ite ?_ ?_)
   | (with_reducible refine LeO.bind ?_ (fun _ => ?_))
   | exact nat_Mul.mono _ _ _
   | exact LeO.none _
   | refine LeO.ite ?_ ?_
   | refine LeO.bind ?_ (fun _ => ?_)
def soft_product.T1 : Bool × List (List Nat × List Nat) := (true, [([], []), ([0], [0]), ([1], [1]), ([], []), ([3], [3]), ([4, 2], [4]), ([2, 5, 5], [2, 5]), ([6], [6]), ([7], [7]), ([7], [7]), ([8, 6, 0, 1, 2, 3, 4, 5, 6, 7, 8], [8]), ([9, 10, 0, 1, 2, 3, 4, 5, 6, 7, 8, 9, 10], [9])])
def soft_product.B1 : List Nat := [0, 1, 3, 0, 8, 31, 63, 127, 255, 255, 511, 2047]
theorem soft_product.tab1 : rtab .any (opsOf Tryd.f91 1) = soft_product.T1 := by kernel_rfl
theorem soft_product.bits1 : waitsOk soft_product.T1.2 soft_product.B1 = true := by kernel_rfl
set_option maxHeartbeats 8000000 in
set_option maxRecDepth 100000 in
theorem soft_product.calls (k : Nat) (a0_0 : Bool) (a0_1 : Int) (a0_2 : Int) (a0_3 : Int) (a1_0 : Bool) (a1_1 : Int) (a1_2 : Int) (a1_3 : Int) (r1 : Bool) (r2 : List Int) (r3 : Int) (w : World) (h : soft_product.f k a0_0 a0_1 a0_2 a0_3 a1_0 a1_1 a1_2 a1_3 = some (r1, r2, r3)) :
  Calls Tryd.prog 91 #[.agg #[.bool a0_0, .int .i64 a0_1, .int .u64 a0_2, .int .i64 a0_3], .agg #[.bool a1_0, .int .i64 a1_1, .int .u64 a1_2, .int .i64 a1_3]] w fun e w' => ∃ v1_ : Value, e = .returned (.agg #[.bool r1, v1_, .int .i64 r3]) ∧ Kd.V (Kd.int .u64) 22 w' w.heap.size (fun k_ => (w.heap.size ≤ k_)) v1_ r2 ∧ Below w.heap.size w w' := by
 have hu39 := Tryd.underlying39
 have hu89 := Tryd.underlying89
 have HB := Aside0.mk (Below.refl w.heap.size w)
 have H : ((nat_FromUint.f a0_2).bind fun t538 => ((nat_FromUint.f a1_2).bind fun t541 => ((nat_Mul.f k t538 t541).bind fun bt544 => (some ((a0_0 != a1_0), bt544.1, wrap64 (a0_3 + a1_3)))))) = some (r1, r2, r3) := h
 clear h
 replace H := Option.bind_eq_some_iff.mp H
 obtain ⟨t538, A30, H⟩ := H
 replace H : ((nat_FromUint.f a1_2).bind fun t541 => ((nat_Mul.f k t538 t541).bind fun bt544 => (some ((a0_0 != a1_0), bt544.1, wrap64 (a0_3 + a1_3))))) = some (r1, r2, r3) := H
 have A3 := Aside0.mk A30
 clear A30
 replace H := Option.bind_eq_some_iff.mp H
 obtain ⟨t541, A40, H⟩ := H
 replace H : ((nat_Mul.f k t538 t541).bind fun bt544 => (some ((a0_0 != a1_0), bt544.1, wrap64 (a0_3 + a1_3)))) = some (r1, r2, r3) := H
 have A4 := Aside0.mk A40
 clear A40
 replace H := Option.bind_eq_some_iff.mp H
 obtain ⟨⟨t544, t547⟩, A50, H⟩ := H
 replace H : (some ((a0_0 != a1_0), t544, wrap64 (a0_3 + a1_3))) = some (r1, r2, r3) := H
 have A5 := Aside0.mk A50
 clear A50
 simp only [Option.some.injEq, Prod.mk.injEq] at H
 obtain ⟨rfl, rfl, rfl⟩ := H
 go_enter Tryd.func91, Tryd.ntmps91
 try go_wp2_with (first | ((with_reducible refine gate_dst (N := 2) rfl ?_); refine box_event ?hg (N := 2) ?hd (cs := #[.bool a0_0, .int .i64 a0_1, .int .u64 a0_2, .int .i64 a0_3]) (t := 39) ?hr ?_; (case hd => rfl); (case hg => rfl); (case hr => first | (go_simp; done) | (go_simp; rfl)); intro gb535 hg w6 hbox hb; have n0_ := Aside0.mk (below_step (bS HB.out) hb); have n1_ := Aside0.mk (hbox); have n2_ := Aside0.mk ((by rw [hg]; exact (below_size (bS HB.out)) : w.heap.size ≤ gb535)); have n3_ := Aside0.mk ((by rw [hg]; exact (below_size (bS HB.out)) : w.heap.size ≤ gb535)); clear HB; have HB := n0_; have BK535 := n1_; have GW535 := n2_; have GE535 := n3_; clear n0_ n1_ n2_ n3_; clear hb hbox hg) | ((with_reducible refine gate_dst (N := 3) rfl ?_); refine box_event ?hg (N := 3) ?hd (cs := #[.bool a1_0, .int .i64 a1_1, .int .u64 a1_2, .int .i64 a1_3]) (t := 39) ?hr ?_; (case hd => rfl); (case hg => rfl); (case hr => first | (go_simp; done) | (go_simp; rfl)); intro gb536 hg w7 hbox hb; have n0_ := Aside0.mk (blk_below (g := gb535) (o := .cells #[.bool a0_0, .int .i64 a0_1, .int .u64 a0_2, .int .i64 a0_3] 39 (0, 0)) (by exact bkS BK535.out) hb); have n1_ := Aside0.mk (below_step (by repeat (first | (with_reducible first | exact HB.out | apply below_alloc | apply pw_below_drewN | apply below_drew1 | refine below_set ?_ GE535.out) | exact HB.out)) hb); have n2_ := Aside0.mk (hbox); have n3_ := Aside0.mk ((by rw [hg]; exact (below_size (by repeat (first | (with_reducible first | exact HB.out | apply below_alloc | apply pw_below_drewN | apply below_drew1 | refine below_set ?_ GE535.out) | exact HB.out))) : w.heap.size ≤ gb536)); have n4_ := Aside0.mk ((by rw [hg]; exact (below_size (by repeat (first | (with_reducible first | exact HB.out | apply below_alloc | apply pw_below_drewN | apply below_drew1 | refine below_set ?_ GE535.out) | exact HB.out))) : w.heap.size ≤ gb536)); have n5_ := Aside0.mk ((by rw [hg]; exact Nat.ne_of_lt (blk_lt (g := gb535) (o := .cells #[.bool a0_0, .int .i64 a0_1, .int .u64 a0_2, .int .i64 a0_3] 39 (0, 0)) (by exact bkS BK535.out)) : gb535 ≠ gb536)); have n6_ := Aside0.mk ((by rw [hg]; exact Nat.ne_of_gt (blk_lt (g := gb535) (o := .cells #[.bool a0_0, .int .i64 a0_1, .int .u64 a0_2, .int .i64 a0_3] 39 (0, 0)) (by exact bkS BK535.out)) : gb536 ≠ gb535)); clear BK535; clear HB; have BK535 := n0_; have HB := n1_; have BK536 := n2_; have GW536 := n3_; have GE536 := n4_; have NB535_536 := n5_; have NB536_535 := n6_; clear n0_ n1_ n2_ n3_ n4_ n5_ n6_; clear hb hbox hg) | ((with_reducible refine gate_dst (N := 4) rfl ?_); refine box_event ?hg (N := 4) ?hd (cs := #[.bool false, .slice none 0 0, .int .i64 0]) (t := 89) ?hr ?_; (case hd => rfl); (case hg => rfl); (case hr => first | (go_simp; done) | (go_simp; rfl)); intro gb537 hg w8 hbox hb; have n0_ := Aside0.mk (blk_below (g := gb535) (o := .cells #[.bool a0_0, .int .i64 a0_1, .int .u64 a0_2, .int .i64 a0_3] 39 (0, 0)) (by exact bkS BK535.out) hb); have n1_ := Aside0.mk (blk_below (g := gb536) (o := .cells #[.bool a1_0, .int .i64 a1_1, .int .u64 a1_2, .int .i64 a1_3] 39 (0, 0)) (by exact bkS BK536.out) hb); have n2_ := Aside0.mk (below_step (by repeat (first | (with_reducible first | exact HB.out | apply below_alloc | apply pw_below_drewN | apply below_drew1 | refine below_set ?_ GE535.out | refine below_set ?_ GE536.out) | exact HB.out)) hb); have n3_ := Aside0.mk (hbox); have n4_ := Aside0.mk ((by rw [hg]; exact (below_size (by repeat (first | (with_reducible first | exact HB.out | apply below_alloc | apply pw_below_drewN | apply below_drew1 | refine below_set ?_ GE535.out | refine below_set ?_ GE536.out) | exact HB.out))) : w.heap.size ≤ gb537)); have n5_ := Aside0.mk ((by rw [hg]; exact (below_size (by repeat (first | (with_reducible first | exact HB.out | apply below_alloc | apply pw_below_drewN | apply below_drew1 | refine below_set ?_ GE535.out | refine below_set ?_ GE536.out) | exact HB.out))) : w.heap.size ≤ gb537)); have n6_ := Aside0.mk ((by rw [hg]; exact Nat.ne_of_lt (blk_lt (g := gb535) (o := .cells #[.bool a0_0, .int .i64 a0_1, .int .u64 a0_2, .int .i64 a0_3] 39 (0, 0)) (by exact bkS BK535.out)) : gb535 ≠ gb537)); have n7_ := Aside0.mk ((by rw [hg]; exact Nat.ne_of_gt (blk_lt (g := gb535) (o := .cells #[.bool a0_0, .int .i64 a0_1, .int .u64 a0_2, .int .i64 a0_3] 39 (0, 0)) (by exact bkS BK535.out)) : gb537 ≠ gb535)); have n8_ := Aside0.mk ((by rw [hg]; exact Nat.ne_of_lt (blk_lt (g := gb536) (o := .cells #[.bool a1_0, .int .i64 a1_1, .int .u64 a1_2, .int .i64 a1_3] 39 (0, 0)) (by exact bkS BK536.out)) : gb536 ≠ gb537)); have n9_ := Aside0.mk ((by rw [hg]; exact Nat.ne_of_gt (blk_lt (g := gb536) (o := .cells #[.bool a1_0, .int .i64 a1_1, .int .u64 a1_2, .int .i64 a1_3] 39 (0, 0)) (by exact bkS BK536.out)) : gb537 ≠ gb536)); clear BK535; clear BK536; clear HB; have BK535 := n0_; have BK536 := n1_; have HB := n2_; have BK537 := n3_; have GW537 := n4_; have GE537 := n5_; have NB535_537 := n6_; have NB537_535 := n7_; have NB536_537 := n8_; have NB537_536 := n9_; clear n0_ n1_ n2_ n3_ n4_ n5_ n6_ n7_ n8_ n9_; clear hb hbox hg))
 have n0_ := Aside0.mk (blk_drew BK535.out)
 have n1_ := Aside0.mk (blk_drew BK536.out)
 have n2_ := Aside0.mk (blk_drew BK537.out)
 have n3_ := Aside0.mk (below_drew1 HB.out)
 clear BK535
 clear BK536
 clear BK537
 clear HB
 have BK535 := n0_
 have BK536 := n1_
 have BK537 := n2_
 have HB := n3_
 clear n0_ n1_ n2_ n3_
 refine start_ (n := 12) (S := fun w' => w'.cell? ⟨gb535, 0, none⟩ = some (.bool a0_0) ∧ w'.cell? ⟨gb535, 1, none⟩ = some (.int .i64 a0_1) ∧ w'.cell? ⟨gb535, 2, none⟩ = some (.int .u64 a0_2) ∧ w'.cell? ⟨gb535, 3, none⟩ = some (.int .i64 a0_3) ∧ w'.cell? ⟨gb536, 0, none⟩ = some (.bool a1_0) ∧ w'.cell? ⟨gb536, 1, none⟩ = some (.int .i64 a1_1) ∧ w'.cell? ⟨gb536, 2, none⟩ = some (.int .u64 a1_2) ∧ w'.cell? ⟨gb536, 3, none⟩ = some (.int .i64 a1_3)) (ds := []) #[false, false, false, false, false, false, false, false, false, false, false, false] (by kernel_rfl) rfl rfl ⟨(blk_cell BK535.out 0).trans rfl, (blk_cell BK535.out 1).trans rfl, (blk_cell BK535.out 2).trans rfl, (blk_cell BK535.out 3).trans rfl, (blk_cell BK536.out 0).trans rfl, (blk_cell BK536.out 1).trans rfl, (blk_cell BK536.out 2).trans rfl, (blk_cell BK536.out 3).trans rfl⟩ (fun hHeld => ?_); refine with_tabW soft_product.tab1 soft_product.bits1 (fun HT_ HW_ => ?_)
 generalize w8.drew = w9 at BK535 BK536 BK537 HB hHeld ⊢
 refine pure_ (i := 0) (N := some 8) (v := ?_) (a' := ?_) #[true, false, false, false, false, false, false, false, false, false, false, false] rfl rfl (any_of HT_.out (by kernel_rfl)) (fun _ _ _ h => h) (Or.inl ⟨by rfl, ?_⟩) ?_ ?_
 rotate_left
 ·intro w'
  go_simp
  with_reducible rfl
 rotate_left
 ·simp only [Act.put, List.setIfInBounds_toArray, List.set_cons_zero, List.set_cons_succ, i64_w, i32_w]
  rfl
 refine pure_ (i := 3) (N := some 11) (v := ?_) (a' := ?_) #[true, false, false, true, false, false, false, false, false, false, false, false] rfl rfl (any_of HT_.out (by kernel_rfl)) (fun _ _ _ h => h) (Or.inl ⟨by rfl, ?_⟩) ?_ ?_
 rotate_left
 ·intro w'
  go_simp
  with_reducible rfl
 rotate_left
 ·simp only [Act.put, List.setIfInBounds_toArray, List.set_cons_zero, List.set_cons_succ, i64_w, i32_w]
  rfl
 refine take_ (i := 1) (N := some 9) (v := ?_) (a' := ?_) #[true, true, false, true, false, false, false, false, false, false, false, false] rfl rfl (take_ofW HT_.out HW_.out (by kernel_rfl)) (fun _ _ _ h => h) (Or.inl ⟨by rfl, ?_⟩) hHeld ?_ ?_
 rotate_left
 ·rintro w' ⟨s0, s1, s2, s3, s4, s5, s6, s7⟩
  go_simp
  with_reducible rfl
 rotate_left
 ·simp only [Act.put, List.setIfInBounds_toArray, List.set_cons_zero, List.set_cons_succ, i64_w, i32_w]
  rfl
 refine take_ (i := 4) (N := some 12) (v := ?_) (a' := ?_) #[true, true, false, true, true, false, false, false, false, false, false, false] rfl rfl (take_ofW HT_.out HW_.out (by kernel_rfl)) (fun _ _ _ h => h) (Or.inl ⟨by rfl, ?_⟩) hHeld ?_ ?_
 rotate_left
 ·rintro w' ⟨s0, s1, s2, s3, s4, s5, s6, s7⟩
  go_simp
  with_reducible rfl
 rotate_left
 ·simp only [Act.put, List.setIfInBounds_toArray, List.set_cons_zero, List.set_cons_succ, i64_w, i32_w]
  rfl
 refine one_ (i := 2) (N := some 10) #[true, true, true, true, true, false, false, false, false, false, false, false] rfl rfl (one_of HT_.out (by kernel_rfl)) (by decide) (fun K hK => ?_)
 refine goes_ Tryd.func50 (by kernel_rfl) rfl #[.int .u64 a0_2] (by rfl) rfl rfl (by (try simp only [List.map_toArray, List.map_cons, List.map_nil]); first | done | rfl | (simp only [List.length_drop, List.length_take]; rfl) | (simp only [gt_iff_lt, Int.natCast_pos]; done) | (simp only [gt_iff_lt, Int.natCast_pos]; rfl)) ?_
 with_reducible refine (nat_FromUint.calls a0_2 t538 _ A3.out).mono ?_
 rintro e w10 ⟨v539, rfl, ho0, hb⟩
 refine ⟨_, rfl, ?_⟩
 have n0_ := Aside0.mk (Kd.R_lower (Kd.R_newM (M := fun k_ => (w.heap.size ≤ k_)) ho0 (below_size (by repeat (first | (with_reducible first | exact HB.out | apply below_alloc | apply pw_below_drewN | apply below_drew1 | refine below_set ?_ GE535.out | refine below_set ?_ GE536.out | refine below_set ?_ GE537.out) | exact HB.out))) (fun k_ h_ => h_)) (below_size (by repeat (first | (with_reducible first | exact HB.out | apply below_alloc | apply pw_below_drewN | apply below_drew1 | refine below_set ?_ GE535.out | refine below_set ?_ GE536.out | refine below_set ?_ GE537.out) | exact HB.out))))
 have n1_ := Aside0.mk (blk_below (g := gb535) (o := .cells #[.bool a0_0, .int .i64 a0_1, .int .u64 a0_2, .int .i64 a0_3] 39 (0, 0)) (by exact bkS BK535.out) hb)
 have n2_ := Aside0.mk (blk_below (g := gb536) (o := .cells #[.bool a1_0, .int .i64 a1_1, .int .u64 a1_2, .int .i64 a1_3] 39 (0, 0)) (by exact bkS BK536.out) hb)
 have n3_ := Aside0.mk (blk_below (g := gb537) (o := .cells #[.bool false, .slice none 0 0, .int .i64 0] 89 (0, 0)) (by exact bkS BK537.out) hb)
 have n4_ := Aside0.mk (below_step (by repeat (first | (with_reducible first | exact HB.out | apply below_alloc | apply pw_below_drewN | apply below_drew1 | refine below_set ?_ GE535.out | refine below_set ?_ GE536.out | refine below_set ?_ GE537.out) | exact HB.out)) hb)
 clear BK535
 clear BK536
 clear BK537
 clear HB
 have HO540 := n0_
 have BK535 := n1_
 have BK536 := n2_
 have BK537 := n3_
 have HB := n4_
 clear n0_ n1_ n2_ n3_ n4_
 (try clear hb)
 (try clear hb2)
 (try clear hk)
 (try clear hi)
 (try clear ho0)
 refine hK.out _ _ ⟨(blk_cell BK535.out 0).trans rfl, (blk_cell BK535.out 1).trans rfl, (blk_cell BK535.out 2).trans rfl, (blk_cell BK535.out 3).trans rfl, (blk_cell BK536.out 0).trans rfl, (blk_cell BK536.out 1).trans rfl, (blk_cell BK536.out 2).trans rfl, (blk_cell BK536.out 3).trans rfl⟩ (fun hHeld => ?_)
 clear hK K
 refine norm_ (a' := ?_) ?_ ?_
 rotate_left
 ·show Act.put _ (some 10) _ = _
  simp only [Act.put, List.setIfInBounds_toArray, List.set_cons_zero, List.set_cons_succ, i64_w, i32_w]
  rfl
 refine one_ (i := 5) (N := some 13) #[true, true, true, true, true, true, false, false, false, false, false, false] rfl rfl (one_of HT_.out (by kernel_rfl)) (by decide) (fun K hK => ?_)
 refine goes_ Tryd.func50 (by kernel_rfl) rfl #[.int .u64 a1_2] (by rfl) rfl rfl (by (try simp only [List.map_toArray, List.map_cons, List.map_nil]); first | done | rfl | (simp only [List.length_drop, List.length_take]; rfl) | (simp only [gt_iff_lt, Int.natCast_pos]; done) | (simp only [gt_iff_lt, Int.natCast_pos]; rfl)) ?_
 with_reducible refine (nat_FromUint.calls a1_2 t541 _ A4.out).mono ?_
 rintro e w11 ⟨v542, rfl, ho0, hb⟩
 refine ⟨_, rfl, ?_⟩
 have n0_ := Aside0.mk (Kd.R_elder' (rS <| HO540.out) (Kd.R_base ho0) hb)
 have n1_ := Aside0.mk (Kd.R_lower (Kd.R_new' (Kd.R_newM (M := fun k_ => (w.heap.size ≤ k_)) ho0 (below_size (by repeat (first | (with_reducible first | exact HB.out | apply below_alloc | apply pw_below_drewN | apply below_drew1 | refine below_set ?_ GE535.out | refine below_set ?_ GE536.out | refine below_set ?_ GE537.out) | exact HB.out))) (fun k_ h_ => h_)) (Kd.R_lt (rS <| HO540.out))) (below_size (by repeat (first | (with_reducible first | exact HB.out | apply below_alloc | apply pw_below_drewN | apply below_drew1 | refine below_set ?_ GE535.out | refine below_set ?_ GE536.out | refine below_set ?_ GE537.out) | exact HB.out))))
 have n2_ := Aside0.mk (blk_below (g := gb535) (o := .cells #[.bool a0_0, .int .i64 a0_1, .int .u64 a0_2, .int .i64 a0_3] 39 (0, 0)) (by exact bkS BK535.out) hb)
 have n3_ := Aside0.mk (blk_below (g := gb536) (o := .cells #[.bool a1_0, .int .i64 a1_1, .int .u64 a1_2, .int .i64 a1_3] 39 (0, 0)) (by exact bkS BK536.out) hb)
 have n4_ := Aside0.mk (blk_below (g := gb537) (o := .cells #[.bool false, .slice none 0 0, .int .i64 0] 89 (0, 0)) (by exact bkS BK537.out) hb)
 have n5_ := Aside0.mk (below_step (by repeat (first | (with_reducible first | exact HB.out | apply below_alloc | apply pw_below_drewN | apply below_drew1 | refine below_set ?_ GE535.out | refine below_set ?_ GE536.out | refine below_set ?_ GE537.out) | exact HB.out)) hb)
 clear HO540
 clear BK535
 clear BK536
 clear BK537
 clear HB
 have HO540 := n0_
 have HO543 := n1_
 have BK535 := n2_
 have BK536 := n3_
 have BK537 := n4_
 have HB := n5_
 clear n0_ n1_ n2_ n3_ n4_ n5_
 (try clear hb)
 (try clear hb2)
 (try clear hk)
 (try clear hi)
 (try clear ho0)
 obtain ⟨Ao12, co12, eo12⟩ := Kd.R_slice HO540.out
 (first | subst eo12 | (injection eo12 with f1_ f2_ f3_; have f4_ := f1_.symm; have f5_ := f3_.symm; clear f1_ f2_ f3_; subst f4_; subst f5_))
 obtain ⟨Ao13, co13, eo13⟩ := Kd.R_slice HO543.out
 (first | subst eo13 | (injection eo13 with f1_ f2_ f3_; have f4_ := f1_.symm; have f5_ := f3_.symm; clear f1_ f2_ f3_; subst f4_; subst f5_))
 refine hK.out _ _ ⟨(blk_cell BK535.out 0).trans rfl, (blk_cell BK535.out 1).trans rfl, (blk_cell BK535.out 2).trans rfl, (blk_cell BK535.out 3).trans rfl, (blk_cell BK536.out 0).trans rfl, (blk_cell BK536.out 1).trans rfl, (blk_cell BK536.out 2).trans rfl, (blk_cell BK536.out 3).trans rfl⟩ (fun hHeld => ?_)
 clear hK K
 refine norm_ (a' := ?_) ?_ ?_
 rotate_left
 ·show Act.put _ (some 13) _ = _
  simp only [Act.put, List.setIfInBounds_toArray, List.set_cons_zero, List.set_cons_succ, i64_w, i32_w]
  rfl
 refine one_ (i := 6) (N := some 14) #[true, true, true, true, true, true, true, false, false, false, false, false] rfl rfl (one_of HT_.out (by kernel_rfl)) (by decide) (fun K hK => ?_)
 refine goes_ Tryd.func49 (by kernel_rfl) rfl #[.slice Ao12 t538.length co12, .slice Ao13 t541.length co13] (by rfl) rfl rfl (by (try simp only [List.map_toArray, List.map_cons, List.map_nil]); first | done | rfl | (simp only [List.length_drop, List.length_take]; rfl) | (simp only [gt_iff_lt, Int.natCast_pos]; done) | (simp only [gt_iff_lt, Int.natCast_pos]; rfl)) ?_
 with_reducible refine (nat_Mul.calls k _ _ t538 _ _ t541 t544 t547 _ ?side1 ?side2 ?side3 ?side4 A5.out).mono ?_
 (case side1 => exact cS (Kd.R_reads' HO540.out).2.2)
 (case side2 => exact (Kd.R_reads' HO540.out).2.1)
 (case side3 => exact cS (Kd.R_reads' HO543.out).2.2)
 (case side4 => exact (Kd.R_reads' HO543.out).2.1)
 rintro e w14 ⟨v545, rfl, ho0, hb⟩
 refine ⟨_, rfl, ?_⟩
 have n0_ := Aside0.mk (Kd.R_below (rS <| HO540.out) hb)
 have n1_ := Aside0.mk (Kd.R_below (rS <| HO543.out) hb)
 have n2_ := Aside0.mk (Kd.V_lower (Kd.V_mono (ok' := fun k_ => (w.heap.size ≤ k_) ∧ some k_ ≠ (.slice Ao12 t538.length co12 : Value).ownBlock ∧ some k_ ≠ (.slice Ao13 t541.length co13 : Value).ownBlock ∧ k_ ≠ gb535 ∧ k_ ≠ gb536 ∧ k_ ≠ gb537) ho0 (fun k_ hk_ => ⟨(Nat.le_trans (below_size (by repeat (first | (with_reducible first | exact HB.out | apply below_alloc | apply pw_below_drewN | apply below_drew1 | refine below_set ?_ GE535.out | refine below_set ?_ GE536.out | refine below_set ?_ GE537.out) | exact HB.out))) hk_), (Kd.fresh' (Kd.R_lt (rS <| HO540.out)) k_ hk_), (Kd.fresh' (Kd.R_lt (rS <| HO543.out)) k_ hk_), (Kd.freshB (g := gb535) (o := .cells #[.bool a0_0, .int .i64 a0_1, .int .u64 a0_2, .int .i64 a0_3] 39 (0, 0)) (by exact bkS BK535.out) k_ hk_), (Kd.freshB (g := gb536) (o := .cells #[.bool a1_0, .int .i64 a1_1, .int .u64 a1_2, .int .i64 a1_3] 39 (0, 0)) (by exact bkS BK536.out) k_ hk_), (Kd.freshB (g := gb537) (o := .cells #[.bool false, .slice none 0 0, .int .i64 0] 89 (0, 0)) (by exact bkS BK537.out) k_ hk_)⟩)) (below_size (by repeat (first | (with_reducible first | exact HB.out | apply below_alloc | apply pw_below_drewN | apply below_drew1 | refine below_set ?_ GE535.out | refine below_set ?_ GE536.out | refine below_set ?_ GE537.out) | exact HB.out))))
 have n3_ := Aside0.mk (blk_below (g := gb535) (o := .cells #[.bool a0_0, .int .i64 a0_1, .int .u64 a0_2, .int .i64 a0_3] 39 (0, 0)) (by exact bkS BK535.out) hb)
 have n4_ := Aside0.mk (blk_below (g := gb536) (o := .cells #[.bool a1_0, .int .i64 a1_1, .int .u64 a1_2, .int .i64 a1_3] 39 (0, 0)) (by exact bkS BK536.out) hb)
 have n5_ := Aside0.mk (blk_below (g := gb537) (o := .cells #[.bool false, .slice none 0 0, .int .i64 0] 89 (0, 0)) (by exact bkS BK537.out) hb)
 have n6_ := Aside0.mk (below_step (by repeat (first | (with_reducible first | exact HB.out | apply below_alloc | apply pw_below_drewN | apply below_drew1 | refine below_set ?_ GE535.out | refine below_set ?_ GE536.out | refine below_set ?_ GE537.out) | exact HB.out)) hb)
 clear HO540
 clear HO543
 clear BK535
 clear BK536
 clear BK537
 clear HB
 have HO540 := n0_
 have HO543 := n1_
 have HO546 := n2_
 have BK535 := n3_
 have BK536 := n4_
 have BK537 := n5_
 have HB := n6_
 clear n0_ n1_ n2_ n3_ n4_ n5_ n6_
 (try clear hb)
 (try clear hb2)
 (try clear hk)
 (try clear hi)
 (try clear ho0)
 refine hK.out _ _ ⟨(blk_cell BK535.out 0).trans rfl, (blk_cell BK535.out 1).trans rfl, (blk_cell BK535.out 2).trans rfl, (blk_cell BK535.out 3).trans rfl, (blk_cell BK536.out 0).trans rfl, (blk_cell BK536.out 1).trans rfl, (blk_cell BK536.out 2).trans rfl, (blk_cell BK536.out 3).trans rfl⟩ (fun hHeld => ?_)
 clear hK K
 refine norm_ (a' := ?_) ?_ ?_
 rotate_left
 ·show Act.put _ (some 14) _ = _
  simp only [Act.put, List.setIfInBounds_toArray, List.set_cons_zero, List.set_cons_succ, i64_w, i32_w]
  rfl
 refine pure_ (i := 7) (N := some 7) (v := ?_) (a' := ?_) #[true, true, true, true, true, true, true, true, false, false, false, false] rfl rfl (any_of HT_.out (by kernel_rfl)) (fun _ _ _ h => h) (Or.inl ⟨by rfl, ?_⟩) ?_ ?_
 rotate_left
 ·intro w'
  go_simp
  with_reducible rfl
 rotate_left
 ·simp only [Act.put, List.setIfInBounds_toArray, List.set_cons_zero, List.set_cons_succ, i64_w, i32_w]
  rfl
 refine pure_ (i := 8) (N := some 15) (v := ?_) (a' := ?_) #[true, true, true, true, true, true, true, true, true, false, false, false] rfl rfl (any_of HT_.out (by kernel_rfl)) (fun _ _ _ h => h) (Or.inl ⟨by rfl, ?_⟩) ?_ ?_
 rotate_left
 ·intro w'
  go_simp
  with_reducible rfl
 rotate_left
 ·simp only [Act.put, List.setIfInBounds_toArray, List.set_cons_zero, List.set_cons_succ, i64_w, i32_w]
  rfl
 refine pure_ (i := 9) (N := some 16) (v := ?_) (a' := ?_) #[true, true, true, true, true, true, true, true, true, true, false, false] rfl rfl (any_of HT_.out (by kernel_rfl)) (fun _ _ _ h => h) (Or.inl ⟨by rfl, ?_⟩) ?_ ?_
 rotate_left
 ·intro w'
  go_simp
  with_reducible rfl
 rotate_left
 ·simp only [Act.put, List.setIfInBounds_toArray, List.set_cons_zero, List.set_cons_succ, i64_w, i32_w]
  rfl
 refine pure_ (i := 10) (N := some 5) (v := ?_) (a' := ?_) #[true, true, true, true, true, true, true, true, true, true, true, false] rfl rfl (any_of HT_.out (by kernel_rfl)) (fun _ _ _ h => h) (Or.inl ⟨by rfl, ?_⟩) ?_ ?_
 rotate_left
 ·intro w'
  go_simp
  with_reducible rfl
 rotate_left
 ·simp only [Act.put, List.setIfInBounds_toArray, List.set_cons_zero, List.set_cons_succ, i64_w, i32_w]
  rfl
 refine pure_ (i := 11) (N := some 6) (v := ?_) (a' := ?_) #[true, true, true, true, true, true, true, true, true, true, true, true] rfl rfl (any_of HT_.out (by kernel_rfl)) (fun _ _ _ h => h) (Or.inl ⟨by rfl, ?_⟩) ?_ ?_
 rotate_left
 ·intro w'
  go_simp
  with_reducible rfl
 rotate_left
 ·simp only [Act.put, List.setIfInBounds_toArray, List.set_cons_zero, List.set_cons_succ, i64_w, i32_w]
  rfl
 refine done_ (done_of HT_.out (by kernel_rfl)) ?_
 have hnb15 := NB535_536.out
 have hnc15 := NB536_535.out
 have hnb16 := NB535_537.out
 have hnc16 := NB537_535.out
 have hcz17_0 : w14.cell? ⟨gb535, 0, none⟩ = some (.bool a0_0) := (blk_cell BK535.out 0).trans rfl
 have hcz17_1 : w14.cell? ⟨gb535, 1, none⟩ = some (.int .i64 a0_1) := (blk_cell BK535.out 1).trans rfl
 have hcz17_2 : w14.cell? ⟨gb535, 2, none⟩ = some (.int .u64 a0_2) := (blk_cell BK535.out 2).trans rfl
 have hcz17_3 : w14.cell? ⟨gb535, 3, none⟩ = some (.int .i64 a0_3) := (blk_cell BK535.out 3).trans rfl
 have hfz17_0 := blk_frozen BK535.out 0
 have hfz17_1 := blk_frozen BK535.out 1
 have hfz17_2 := blk_frozen BK535.out 2
 have hfz17_3 := blk_frozen BK535.out 3
 have hnb18 := NB536_537.out
 have hnc18 := NB537_536.out
 have hcz19_0 : w14.cell? ⟨gb536, 0, none⟩ = some (.bool a1_0) := (blk_cell BK536.out 0).trans rfl
 have hcz19_1 : w14.cell? ⟨gb536, 1, none⟩ = some (.int .i64 a1_1) := (blk_cell BK536.out 1).trans rfl
 have hcz19_2 : w14.cell? ⟨gb536, 2, none⟩ = some (.int .u64 a1_2) := (blk_cell BK536.out 2).trans rfl
 have hcz19_3 : w14.cell? ⟨gb536, 3, none⟩ = some (.int .i64 a1_3) := (blk_cell BK536.out 3).trans rfl
 have hfz19_0 := blk_frozen BK536.out 0
 have hfz19_1 := blk_frozen BK536.out 1
 have hfz19_2 := blk_frozen BK536.out 2
 have hfz19_3 := blk_frozen BK536.out 3
 obtain ⟨Ao20, co20, eo20⟩ := Kd.V_slice HO546.out
 subst eo20
 have hcz21_0 : w14.cell? ⟨gb537, 0, none⟩ = some (.bool false) := (blk_cell BK537.out 0).trans rfl
 have hcz21_1 : w14.cell? ⟨gb537, 1, none⟩ = some (.slice none 0 0) := (blk_cell BK537.out 1).trans rfl
 have hcz21_2 : w14.cell? ⟨gb537, 2, none⟩ = some (.int .i64 0) := (blk_cell BK537.out 2).trans rfl
 have hfz21_0 := blk_frozen BK537.out 0
 have hfz21_1 := blk_frozen BK537.out 1
 have hfz21_2 := blk_frozen BK537.out 2
 try go_wp2
 refine bodyPost_ret (results_cell_row rfl _ _ gb537 89 #[.bool (a0_0 != a1_0), .slice Ao20 t544.length co20, .int .i64 (wrap64 (a0_3 + a1_3))] (0, 0) _ rfl (by refine blkP (cs := #[.bool (a0_0 != a1_0), .slice Ao20 t544.length co20, .int .i64 0]) ?_ 2 _ rfl; refine blkP (cs := #[.bool (a0_0 != a1_0), .slice none 0 0, .int .i64 0]) ?_ 1 _ rfl; refine blkP (cs := #[.bool false, .slice none 0 0, .int .i64 0]) ?_ 0 _ rfl; exact bkS BK537.out) Tryd.underlying89 rfl (by kernel_rfl)) rfl ?_
 exact ⟨_, by first | rfl | (simp [errW_none, errW_some] <;> rfl) | (simp [*, errW_none, errW_some] <;> rfl), by (with_reducible repeat (first | apply Kd.V_alloc | apply Kd.V_drewN | apply Kd.V_drew)); exact Kd.V_mono (Kd.V_far (p := ⟨gb537, 2, none⟩) (Kd.V_far (p := ⟨gb537, 1, none⟩) (Kd.V_far (p := ⟨gb537, 0, none⟩) (Kd.V_mono HO546.out (fun k_ hk => (⟨hk, hk.2.2.2.2.2⟩ : _ ∧ k_ ≠ gb537))) (fun _ hk => hk.2) (.bool (a0_0 != a1_0))) (fun _ hk => hk.2) (.slice Ao20 t544.length co20)) (fun _ hk => hk.2) (.int .i64 (wrap64 (a0_3 + a1_3)))) (fun _ hk => hk.1.1), by repeat (first | (with_reducible first | exact HB.out | apply below_alloc | apply pw_below_drewN | apply below_drew1 | refine below_set ?_ GE535.out | refine below_set ?_ GE536.out | refine below_set ?_ GE537.out) | exact HB.out)⟩

end Go.Proofs.YtcdnoklokoplaaaDoor.PA
