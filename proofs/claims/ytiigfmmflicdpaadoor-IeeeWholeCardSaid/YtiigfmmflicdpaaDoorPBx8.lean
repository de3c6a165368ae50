-- printed by a program
import Derived.Test.YtiigfmmflicdpaaDoorPBx0
import Derived.Test.YtiigfmmflicdpaaDoorPBx2
import Derived.Test.YtiigfmmflicdpaaDoorPBx3
import Derived.Test.YtiigfmmflicdpaaDoorPBx4
import Derived.Test.YtiigfmmflicdpaaDoorPBx6
import Derived.Test.YtiigfmmflicdpaaDoorPBx7
namespace Go.Proofs.YtiigfmmflicdpaaDoor.PB
open Go.Proofs.YtiigfmmflicdpaaDoorX
open Go.RowKit Go.Proofs.YtiigfmmflicdpaaDoorW.PrintWords Go.Proofs.YtiigfmmflicdpaaDoorW.PrintLast Go.Proofs.YtiigfmmflicdpaaDoorW.PrintMore
attribute [local go_sem] max2_int min2_int max_two min_two max_three min_three max_four min_four   -- for this text's walks alone
set_option linter.unusedVariables false
set_option linter.unusedSimpArgs false

/-! ### abacuslaw04_IeeeWhole: function 9 -/
mutual
def abacuslaw04_IeeeWhole.j0 : Nat → Int → Int → Bool → Option (Bool)
  | 0, _, _, _ => none
  | k + 1, x0, x1, x31 => if x31 = true then ((ieee_FromInt.f k x1).bind fun t401 => ((ieee_ToInt.f k t401).bind fun bt402 => (if bt402.2 = 0 then (if bt402.1 = x1 then ((ieee_FromInt.f k x1).bind fun t404 => ((ieee_Integral.f t404).bind fun t405 => (if t405 = true then (abacuslaw04_IeeeWhole.j1 k x0 x1) else (some false)))) else (some false)) else (some false)))) else (abacuslaw04_IeeeWhole.j1 k x0 x1)
def abacuslaw04_IeeeWhole.j1 : Nat → Int → Int → Option (Bool)
  | 0, _, _ => none
  | k + 1, x0, x1 => if x1 ≥ 0 then ((ieee_FromInt.f k x1).bind fun t406 => ((ieee_FromUint.f k (IntKind.u64.wrap (x1))).bind fun t407 => (if t406 = t407 then (if x1 < 0 then ((ieee_FromInt.f k x1).bind fun t408 => ((ieee_FromUint.f k (IntKind.u64.wrap (-(IntKind.u64.wrap (x1))))).bind fun t409 => (abacuslaw04_IeeeWhole.j2 k x0 (t408 != (IntKind.u64.wrap (t409 + 9223372036854775808)))))) else (abacuslaw04_IeeeWhole.j2 k x0 false)) else (abacuslaw04_IeeeWhole.j2 k x0 true)))) else (if x1 < 0 then ((ieee_FromInt.f k x1).bind fun t410 => ((ieee_FromUint.f k (IntKind.u64.wrap (-(IntKind.u64.wrap (x1))))).bind fun t411 => (abacuslaw04_IeeeWhole.j2 k x0 (t410 != (IntKind.u64.wrap (t411 + 9223372036854775808)))))) else (abacuslaw04_IeeeWhole.j2 k x0 false))
def abacuslaw04_IeeeWhole.j2 : Nat → Int → Bool → Option (Bool)
  | 0, _, _ => none
  | k + 1, x0, x74 => if x74 = true then (some false) else ((ieee_Whole.f k x0).bind fun bt412 => ((ieee_ToInt.f k x0).bind fun bt417 => (if (Int.tmod x0 9223372036854775808) ≥ 9218868437227405312 then (if bt412.2.2 = 5 then (if bt417.2 = 5 then (if bt412.1 = true then (some false) else (if (bt412.2.1.length : Int) = 0 then (if bt417.1 = 0 then ((ieee_Integral.f x0).bind fun t419 => (some (!t419))) else (some false)) else (some false))) else (some false)) else (some false)) else (if bt412.2.2 = 0 then (abacuslaw04_IeeeWhole.j3 k x0 bt412.1 bt412.2.1 bt417.1 bt417.2 (bt412.1 != (decide (x0 ≥ 9223372036854775808)))) else (abacuslaw04_IeeeWhole.j3 k x0 bt412.1 bt412.2.1 bt417.1 bt417.2 true)))))
def abacuslaw04_IeeeWhole.j3 : Nat → Int → Bool → List Int → Int → Int → Bool → Option (Bool)
  | 0, _, _, _, _, _, _ => none
  | k + 1, x0, x7, x8, x10, x11, x120 => if x120 = true then (some false) else ((ieee_Round.f k false x8 0 false).bind fun bt420 => ((ieee_Integral.f x0).bind fun t422 => ((ieee_Abs.f x0).bind fun t423 => (if (t422 != (bt420.1 == t423)) = true then (some false) else ((ieee_Abs.f x0).bind fun t424 => (if bt420.1 = t424 then ((nat_ToUint.f k x8).bind fun bt425 => (if bt425.2 = true then (if bt425.1 > 9223372036854775808 then (if x11 = 41 then (some (x10 == 0)) else (some false)) else (if bt425.1 = 9223372036854775808 then (if x7 = true then (if x11 = 0 then (if (IntKind.u64.wrap (x10)) = (IntKind.u64.wrap (-bt425.1)) then (some true) else (some false)) else (some false)) else (if x11 = 41 then (some (x10 == 0)) else (some false))) else (if x11 = 0 then (if x7 = true then (if (IntKind.u64.wrap (x10)) = (IntKind.u64.wrap (-bt425.1)) then (some true) else (some false)) else (some ((IntKind.u64.wrap (x10)) == bt425.1))) else (some false)))) else (if x11 = 41 then (some (x10 == 0)) else (some false)))) else ((nat_Add.f k x8 (([1] : List Int))).bind fun bt430 => ((ieee_Round.f k false bt430.1 0 false).bind fun bt434 => ((ieee_Abs.f x0).bind fun t436 => ((ieee_Compare.f bt420.1 t436).bind fun bt437 => ((ieee_Abs.f x0).bind fun t439 => ((ieee_Compare.f t439 bt434.1).bind fun bt440 => (if bt430.2 = 0 then (if bt437.1 = (-1) then (abacuslaw04_IeeeWhole.j4 k x7 x8 x10 x11 (bt440.1 != (-1))) else (abacuslaw04_IeeeWhole.j4 k x7 x8 x10 x11 true)) else (abacuslaw04_IeeeWhole.j4 k x7 x8 x10 x11 true))))))))))))))
def abacuslaw04_IeeeWhole.j4 : Nat → Bool → List Int → Int → Int → Bool → Option (Bool)
  | 0, _, _, _, _, _ => none
  | k + 1, x7, x8, x10, x11, x171 => if x171 = true then (some false) else ((nat_ToUint.f k x8).bind fun bt442 => (if bt442.2 = true then (if bt442.1 > 9223372036854775808 then (if x11 = 41 then (some (x10 == 0)) else (some false)) else (if bt442.1 = 9223372036854775808 then (if x7 = true then (if x11 = 0 then (if (IntKind.u64.wrap (x10)) = (IntKind.u64.wrap (-bt442.1)) then (some true) else (some false)) else (some false)) else (if x11 = 41 then (some (x10 == 0)) else (some false))) else (if x11 = 0 then (if x7 = true then (if (IntKind.u64.wrap (x10)) = (IntKind.u64.wrap (-bt442.1)) then (some true) else (some false)) else (some ((IntKind.u64.wrap (x10)) == bt442.1))) else (some false)))) else (if x11 = 41 then (some (x10 == 0)) else (some false))))
end
def abacuslaw04_IeeeWhole.f (k : Nat) (a0 : Int) (a1 : Int) : Option (Bool) := (abacuslaw04_awake.f k).bind fun t400 => (if t400 = true then (if a1 ≤ 9007199254740992 then (abacuslaw04_IeeeWhole.j0 k a0 a1 (decide (a1 ≥ (-9007199254740992)))) else (abacuslaw04_IeeeWhole.j0 k a0 a1 false)) else (some false))
theorem abacuslaw04_IeeeWhole.mono_l : ∀ k, (∀ y0 y1 y2, LeO (abacuslaw04_IeeeWhole.j0 k y0 y1 y2) (abacuslaw04_IeeeWhole.j0 (k + 1) y0 y1 y2)) ∧ (∀ y0 y1, LeO (abacuslaw04_IeeeWhole.j1 k y0 y1) (abacuslaw04_IeeeWhole.j1 (k + 1) y0 y1)) ∧ (∀ y0 y1, LeO (abacuslaw04_IeeeWhole.j2 k y0 y1) (abacuslaw04_IeeeWhole.j2 (k + 1) y0 y1)) ∧ (∀ y0 y1 y2 y3 y4 y5, LeO (abacuslaw04_IeeeWhole.j3 k y0 y1 y2 y3 y4 y5) (abacuslaw04_IeeeWhole.j3 (k + 1) y0 y1 y2 y3 y4 y5)) ∧ (∀ y0 y1 y2 y3 y4, LeO (abacuslaw04_IeeeWhole.j4 k y0 y1 y2 y3 y4) (abacuslaw04_IeeeWhole.j4 (k + 1) y0 y1 y2 y3 y4))
  | 0 => ⟨fun _ _ _ r h => by simp [abacuslaw04_IeeeWhole.j0] at h, fun _ _ r h => by simp [abacuslaw04_IeeeWhole.j1] at h, fun _ _ r h => by simp [abacuslaw04_IeeeWhole.j2] at h, fun _ _ _ _ _ _ r h => by simp [abacuslaw04_IeeeWhole.j3] at h, fun _ _ _ _ _ r h => by simp [abacuslaw04_IeeeWhole.j4] at h⟩
  | k + 1 => by
    obtain ⟨ih0, ih1, ih2, ih3, ih4⟩ := abacuslaw04_IeeeWhole.mono_l k
    refine ⟨?_, ?_, ?_, ?_, ?_⟩
    · intro y0 y1 y2
      unfold abacuslaw04_IeeeWhole.j0
      repeat' first
      | (with_reducible exact ih0 _ _ _)
      | (with_reducible exact ih1 _ _)
      | (with_reducible exact ih2 _ _)
      | (with_reducible exact ih3 _ _ _ _ _ _)
      | (with_reducible exact ih4 _ _ _ _ _)
      | (with_reducible exact abacuslaw04_awake.mono _)
      | (with_reducible exact ieee_FromInt.mono _ _)
      | (with_reducible exact ieee_FromUint.mono _ _)
      | (with_reducible exact ieee_Round.mono _ _ _ _ _)
      | (with_reducible exact ieee_ToInt.mono _ _)
      | (with_reducible exact ieee_Whole.mono _ _)
      | (with_reducible exact nat_Add.mono _ _ _)
      | (with_reducible exact nat_ToUint.mono _ _)
      | (with_reducible exact LeO.refl _)
      | (with_reducible exact LeO.none _)
      | (with_reducible refine LeO.ite ?_ ?_)
      | (with_reducible refine LeO.bind ?_ (fun _ => ?_))
      | exact ih0 _ _ _
      | exact ih1 _ _
      | exact ih2 _ _
      | exact ih3 _ _ _ _ _ _
      | exact ih4 _ _ _ _ _
      | exact abacuslaw04_awake.mono _
      | exact ieee_FromInt.mono _ _
      | exact ieee_FromUint.mono _ _
      | exact ieee_Round.mono _ _ _ _ _
      | exact ieee_ToInt.mono _ _
      | exact ieee_Whole.mono _ _
      | exact nat_Add.mono _ _ _
      | exact nat_ToUint.mono _ _
      | exact LeO.none _
      | refine LeO.ite ?_ ?_
      | refine LeO.bind ?_ (fun _ => ?_)
    · intro y0 y1
      unfold abacuslaw04_IeeeWhole.j1
      repeat' first
      | (with_reducible exact ih0 _ _ _)
      | (with_reducible exact ih1 _ _)
      | (with_reducible exact ih2 _ _)
      | (with_reducible exact ih3 _ _ _ _ _ _)
      | (with_reducible exact ih4 _ _ _ _ _)
      | (with_reducible exact abacuslaw04_awake.mono _)
      | (with_reducible exact ieee_FromInt.mono _ _)
      | (with_reducible exact ieee_FromUint.mono _ _)
      | (with_reducible exact ieee_Round.mono _ _ _ _ _)
      | (with_reducible exact ieee_ToInt.mono _ _)
      | (with_reducible exact ieee_Whole.mono _ _)
      | (with_reducible exact nat_Add.mono _ _ _)
      | (with_reducible exact nat_ToUint.mono _ _)
      | (with_reducible exact LeO.refl _)
      | (with_reducible exact LeO.none _)
      | (with_reducible refine LeO.ite ?_ ?_)
      | (with_reducible refine LeO.bind ?_ (fun _ => ?_))
      | exact ih0 _ _ _
      | exact ih1 _ _
      | exact ih2 _ _
      | exact ih3 _ _ _ _ _ _
      | exact ih4 _ _ _ _ _
      | exact abacuslaw04_awake.mono _
      | exact ieee_FromInt.mono _ _
      | exact ieee_FromUint.mono _ _
      | exact ieee_Round.mono _ _ _ _ _
      | exact ieee_ToInt.mono _ _
      | exact ieee_Whole.mono _ _
      | exact nat_Add.mono _ _ _
      | exact nat_ToUint.mono _ _
      | exact LeO.none _
      | refine LeO.ite ?_ ?_
      | refine LeO.bind ?_ (fun _ => ?_)
    · intro y0 y1
      unfold abacuslaw04_IeeeWhole.j2
      repeat' first
      | (with_reducible exact ih0 _ _ _)
      | (with_reducible exact ih1 _ _)
      | (with_reducible exact ih2 _ _)
      | (with_reducible exact ih3 _ _ _ _ _ _)
      | (with_reducible exact ih4 _ _ _ _ _)
      | (with_reducible exact abacuslaw04_awake.mono _)
      | (with_reducible exact ieee_FromInt.mono _ _)
      | (with_reducible exact ieee_FromUint.mono _ _)
      | (with_reducible exact ieee_Round.mono _ _ _ _ _)
      | (with_reducible exact ieee_ToInt.mono _ _)
      | (with_reducible exact ieee_Whole.mono _ _)
      | (with_reducible exact nat_Add.mono _ _ _)
      | (with_reducible exact nat_ToUint.mono _ _)
      | (with_reducible exact LeO.refl _)
      | (with_reducible exact LeO.none _)
      | (with_reducible refine LeO.ite ?_ ?_)
      | (with_reducible refine LeO.bind ?_ (fun _ => ?_))
      | exact ih0 _ _ _
      | exact ih1 _ _
      | exact ih2 _ _
      | exact ih3 _ _ _ _ _ _
      | exact ih4 _ _ _ _ _
      | exact abacuslaw04_awake.mono _
      | exact ieee_FromInt.mono _ _
      | exact ieee_FromUint.mono _ _
      | exact ieee_Round.mono _ _ _ _ _
      | exact ieee_ToInt.mono _ _
      | exact ieee_Whole.mono _ _
      | exact nat_Add.mono _ _ _
      | exact nat_ToUint.mono _ _
      | exact LeO.none _
      | refine LeO.ite ?_ ?_
      | refine LeO.bind ?_ (fun _ => ?_)
    · intro y0 y1 y2 y3 y4 y5
      unfold abacuslaw04_IeeeWhole.j3
      repeat' first
      | (with_reducible exact ih0 _ _ _)
      | (with_reducible exact ih1 _ _)
      | (with_reducible exact ih2 _ _)
      | (with_reducible exact ih3 _ _ _ _ _ _)
      | (with_reducible exact ih4 _ _ _ _ _)
      | (with_reducible exact abacuslaw04_awake.mono _)
      | (with_reducible exact ieee_FromInt.mono _ _)
      | (with_reducible exact ieee_FromUint.mono _ _)
      | (with_reducible exact ieee_Round.mono _ _ _ _ _)
      | (with_reducible exact ieee_ToInt.mono _ _)
      | (with_reducible exact ieee_Whole.mono _ _)
      | (with_reducible exact nat_Add.mono _ _ _)
      | (with_reducible exact nat_ToUint.mono _ _)
      | (with_reducible exact LeO.refl _)
      | (with_reducible exact LeO.none _)
      | (with_reducible refine LeO.ite ?_ ?_)
      | (with_reducible refine LeO.bind ?_ (fun _ => ?_))
      | exact ih0 _ _ _
      | exact ih1 _ _
      | exact ih2 _ _
      | exact ih3 _ _ _ _ _ _
      | exact ih4 _ _ _ _ _
      | exact abacuslaw04_awake.mono _
      | exact ieee_FromInt.mono _ _
      | exact ieee_FromUint.mono _ _
      | exact ieee_Round.mono _ _ _ _ _
      | exact ieee_ToInt.mono _ _
      | exact ieee_Whole.mono _ _
      | exact nat_Add.mono _ _ _
      | exact nat_ToUint.mono _ _
      | exact LeO.none _
      | refine LeO.ite ?_ ?_
      | refine LeO.bind ?_ (fun _ => ?_)
    · intro y0 y1 y2 y3 y4
      unfold abacuslaw04_IeeeWhole.j4
      repeat' first
      | (with_reducible exact ih0 _ _ _)
      | (with_reducible exact ih1 _ _)
      | (with_reducible exact ih2 _ _)
      | (with_reducible exact ih3 _ _ _ _ _ _)
      | (with_reducible exact ih4 _ _ _ _ _)
      | (with_reducible exact abacuslaw04_awake.mono _)
      | (with_reducible exact ieee_FromInt.mono _ _)
      | (with_reducible exact ieee_FromUint.mono _ _)
      | (with_reducible exact ieee_Round.mono _ _ _ _ _)
      | (with_reducible exact ieee_ToInt.mono _ _)
      | (with_reducible exact ieee_Whole.mono _ _)
      | (with_reducible exact nat_Add.mono _ _ _)
      | (with_reducible exact nat_ToUint.mono _ _)
      | (with_reducible exact LeO.refl _)
      | (with_reducible exact LeO.none _)
      | (with_reducible refine LeO.ite ?_ ?_)
      | (with_reducible refine LeO.bind ?_ (fun _ => ?_))
      | exact ih0 _ _ _
      | exact ih1 _ _
      | exact ih2 _ _
      | exact ih3 _ _ _ _ _ _
      | exact ih4 _ _ _ _ _
      | exact abacuslaw04_awake.mono _
      | exact ieee_FromInt.mono _ _
      | exact ieee_FromUint.mono _ _
      | exact ieee_Round.mono _ _ _ _ _
      | exact ieee_ToInt.mono _ _
      | exact ieee_Whole.mono _ _
      | exact nat_Add.mono _ _ _
      | exact nat_ToUint.mono _ _
      | exact LeO.none _
      | refine LeO.ite ?_ ?_
      | refine LeO.bind ?_ (fun _ => ?_)
theorem abacuslaw04_IeeeWhole.mono : ∀ a0 a1 k, LeO (abacuslaw04_IeeeWhole.f k a0 a1) (abacuslaw04_IeeeWhole.f (k + 1) a0 a1) := by
  intro a0 a1 k
  obtain ⟨ih0, ih1, ih2, ih3, ih4⟩ := abacuslaw04_IeeeWhole.mono_l k
  unfold abacuslaw04_IeeeWhole.f
  repeat' first
      | (with_reducible exact ih0 _ _ _)
      | (with_reducible exact ih1 _ _)
      | (with_reducible exact ih2 _ _)
      | (with_reducible exact ih3 _ _ _ _ _ _)
      | (with_reducible exact ih4 _ _ _ _ _)
      | (with_reducible exact abacuslaw04_awake.mono _)
      | (with_reducible exact ieee_FromInt.mono _ _)
      | (with_reducible exact ieee_FromUint.mono _ _)
      | (with_reducible exact ieee_Round.mono _ _ _ _ _)
      | (with_reducible exact ieee_ToInt.mono _ _)
      | (with_reducible exact ieee_Whole.mono _ _)
      | (with_reducible exact nat_Add.mono _ _ _)
      | (with_reducible exact nat_ToUint.mono _ _)
      | (with_reducible exact LeO.refl _)
      | (with_reducible exact LeO.none _)
      | (with_reducible refine LeO.ite ?_ ?_)
      | (with_reducible refine LeO.bind ?_ (fun _ => ?_))
      | exact ih0 _ _ _
      | exact ih1 _ _
      | exact ih2 _ _
      | exact ih3 _ _ _ _ _ _
      | exact ih4 _ _ _ _ _
      | exact abacuslaw04_awake.mono _
      | exact ieee_FromInt.mono _ _
      | exact ieee_FromUint.mono _ _
      | exact ieee_Round.mono _ _ _ _ _
      | exact ieee_ToInt.mono _ _
      | exact ieee_Whole.mono _ _
      | exact nat_Add.mono _ _ _
      | exact nat_ToUint.mono _ _
      | exact LeO.none _
      | refine LeO.ite ?_ ?_
      | refine LeO.bind ?_ (fun _ => ?_)
set_option maxHeartbeats 8000000 in
set_option maxRecDepth 100000 in
theorem abacuslaw04_IeeeWhole.calls (k : Nat) (a0 : Int) (a1 : Int) (r : Bool) (w : World) (hT : Kd.C (Kd.int .u8) w (some ⟨0, 0, none⟩) 64 tabL) (h : abacuslaw04_IeeeWhole.f k a0 a1 = some r) :
    Calls Tryd.prog 9 #[.int .u64 a0, .int .i64 a1] w fun e w' => e = .returned (.bool r) ∧ Below w.heap.size w w' := by
  have HT := Aside0.mk hT
  clear hT
  have HB := Aside0.mk (Below.refl w.heap.size w)
  have H : ((abacuslaw04_awake.f k).bind fun t400 => (if t400 = true then (if a1 ≤ 9007199254740992 then (abacuslaw04_IeeeWhole.j0 k a0 a1 (decide (a1 ≥ (-9007199254740992)))) else (abacuslaw04_IeeeWhole.j0 k a0 a1 false)) else (some false))) = some r := h
  clear h
  replace H := Option.bind_eq_some_iff.mp H
  obtain ⟨t400, A30, H⟩ := H
  replace H : (if t400 = true then (if a1 ≤ 9007199254740992 then (abacuslaw04_IeeeWhole.j0 k a0 a1 (decide (a1 ≥ (-9007199254740992)))) else (abacuslaw04_IeeeWhole.j0 k a0 a1 false)) else (some false)) = some r := H
  have A3 := Aside0.mk A30
  clear A30
  by_cases c4 : t400 = true
  · subst c4
    have H1 : (if a1 ≤ 9007199254740992 then (abacuslaw04_IeeeWhole.j0 k a0 a1 (decide (a1 ≥ (-9007199254740992)))) else (abacuslaw04_IeeeWhole.j0 k a0 a1 false)) = some r := by rw [if_pos rfl] at H; exact H
    clear H
    have H := H1
    clear H1
    have HC5 := Aside0.mk H
    clear H
    go_enter Tryd.func9, Tryd.ntmps9
    go_upto_region 3 with (first | ((with_reducible refine gate_callee (f := 12) rfl ?_); refine goesL_ (some 24) rfl rfl Tryd.func12 (by kernel_rfl) rfl #[] rfl (by (try simp only [List.map_toArray, List.map_cons, List.map_nil]); first | done | rfl | (simp only [List.length_drop, List.length_take]; rfl) | (simp only [gt_iff_lt, Int.natCast_pos]; done) | (simp only [gt_iff_lt, Int.natCast_pos]; rfl)) ?_; (with_reducible refine (abacuslaw04_awake.calls k  true _ ?side1 A3.out).mono ?_); (case side1 => repeat (first | exact HT.out | (with_reducible refine Kd.C_alloc ?_ _) | (with_reducible refine Kd.C_drewN ?_ _) | (with_reducible refine Kd.C_drew ?_))); rintro e w6 ⟨rfl, hb⟩; refine ⟨_, rfl, ?_⟩; have n0_ := Aside0.mk (below_step (by repeat (first | (with_reducible first | exact HB.out | apply below_alloc | apply pw_below_drewN | apply below_drew1) | exact HB.out)) hb); clear HB; have HB := n0_; clear n0_; (try clear hb); (try clear hb2); (try clear hk); (try clear hi)))
    (try simp only [Act.put, List.setIfInBounds_toArray, List.set_cons_zero, List.set_cons_succ])
    go_cut [31] (fun v31 wc => ∃ (kq : Nat) (x31_4 : Bool), v31 = .bool x31_4 ∧ Aside0 (abacuslaw04_IeeeWhole.j0 kq a0 a1 x31_4 = some r) ∧ Aside0 (kq ≤ k) ∧ Aside0 (Below w.heap.size w wc))
    case first =>
      have H := HC5.out
      clear HC5
      by_cases c7 : a1 ≤ 9007199254740992
      · rw [if_pos c7] at H
        have c7b0 : decide (a1 ≤ 9007199254740992) = true := decide_eq_true c7
        clear c7
        (first | rw [c7b0] | (simp only [i64_w, i32_w]; rw [c7b0]) | rw [c7b1] | skip)
        as_aux_lemma =>
          have H' := Aside0.mk H
          clear H
          go_wp2
          go_meet
          case rel => exact ⟨_, (decide (a1 ≥ (-9007199254740992))), (by first | rfl | (simp; done) | (simp [*]; done)), H', ⟨by first | omega | exact Nat.le_refl _⟩, ⟨by repeat (first | (with_reducible first | exact HB.out | apply below_alloc | apply pw_below_drewN | apply below_drew1) | exact HB.out)⟩⟩
      · rw [if_neg c7] at H
        have c7b0 : decide (a1 ≤ 9007199254740992) = false := decide_eq_false c7
        clear c7
        (first | rw [c7b0] | (simp only [i64_w, i32_w]; rw [c7b0]) | rw [c7b1] | skip)
        as_aux_lemma =>
          have H' := Aside0.mk H
          clear H
          go_wp2
          go_meet
          case rel => exact ⟨_, (false), (by first | rfl | (simp; done) | (simp [*]; done)), H', ⟨by first | omega | exact Nat.le_refl _⟩, ⟨by repeat (first | (with_reducible first | exact HB.out | apply below_alloc | apply pw_below_drewN | apply below_drew1) | exact HB.out)⟩⟩
    case rest =>
      clear HC5
      try clear c1
      try clear p2
      try clear c4
      try clear c7
      try clear c7b0
      try clear c7b1
      obtain ⟨kq, x31_4, rfl, HA, HJ4, HB⟩ := hcut
      cases kq with
      | zero => exact absurd HA.out (by simp [abacuslaw04_IeeeWhole.j0])
      | succ kj4 =>
        have H := HA.out
        clear HA
        simp only [abacuslaw04_IeeeWhole.j0] at H
        have HC8 := Aside0.mk H
        clear H
        go_upto_if 31 with (fail)
        go_cut [] (fun wc => ∃ (kq : Nat), Aside0 (abacuslaw04_IeeeWhole.j1 kq a0 a1 = some r) ∧ Aside0 (kq ≤ kj4) ∧ Aside0 (Below w.heap.size w wc))
        case first =>
          have H := HC8.out
          clear HC8
          by_cases c9 : x31_4 = true
          · subst c9
            have H1 : ((ieee_FromInt.f kj4 a1).bind fun t401 => ((ieee_ToInt.f kj4 t401).bind fun bt402 => (if bt402.2 = 0 then (if bt402.1 = a1 then ((ieee_FromInt.f kj4 a1).bind fun t404 => ((ieee_Integral.f t404).bind fun t405 => (if t405 = true then (abacuslaw04_IeeeWhole.j1 kj4 a0 a1) else (some false)))) else (some false)) else (some false)))) = some r := by rw [if_pos rfl] at H; exact H
            clear H
            have H := H1
            clear H1
            replace H := Option.bind_eq_some_iff.mp H
            obtain ⟨t401, A100, H⟩ := H
            replace H : ((ieee_ToInt.f kj4 t401).bind fun bt402 => (if bt402.2 = 0 then (if bt402.1 = a1 then ((ieee_FromInt.f kj4 a1).bind fun t404 => ((ieee_Integral.f t404).bind fun t405 => (if t405 = true then (abacuslaw04_IeeeWhole.j1 kj4 a0 a1) else (some false)))) else (some false)) else (some false))) = some r := H
            have A10 := Aside0.mk A100
            clear A100
            replace H := Option.bind_eq_some_iff.mp H
            obtain ⟨⟨t402, t403⟩, A110, H⟩ := H
            replace H : (if t403 = 0 then (if t402 = a1 then ((ieee_FromInt.f kj4 a1).bind fun t404 => ((ieee_Integral.f t404).bind fun t405 => (if t405 = true then (abacuslaw04_IeeeWhole.j1 kj4 a0 a1) else (some false)))) else (some false)) else (some false)) = some r := H
            have A11 := Aside0.mk A110
            clear A110
            by_cases c12 : t403 = 0
            · rw [if_pos c12] at H
              have c12b0 : (t403 == 0) = true := beq_iff_eq.mpr c12
              have c12b1 : (t403 != 0) = false := bne_eq_false_iff_eq.mpr c12
              clear c12
              (first | rw [c12b0] | (simp only [i64_w, i32_w]; rw [c12b0]) | rw [c12b1] | skip)
              by_cases c13 : t402 = a1
              · rw [if_pos c13] at H
                have c13b0 : (t402 == a1) = true := beq_iff_eq.mpr c13
                have c13b1 : (t402 != a1) = false := bne_eq_false_iff_eq.mpr c13
                clear c13
                replace H := Option.bind_eq_some_iff.mp H
                obtain ⟨t404, A140, H⟩ := H
                replace H : ((ieee_Integral.f t404).bind fun t405 => (if t405 = true then (abacuslaw04_IeeeWhole.j1 kj4 a0 a1) else (some false))) = some r := H
                have A14 := Aside0.mk A140
                clear A140
                replace H := Option.bind_eq_some_iff.mp H
                obtain ⟨t405, A150, H⟩ := H
                replace H : (if t405 = true then (abacuslaw04_IeeeWhole.j1 kj4 a0 a1) else (some false)) = some r := H
                have A15 := Aside0.mk A150
                clear A150
                by_cases c16 : t405 = true
                · subst c16
                  have H1 : (abacuslaw04_IeeeWhole.j1 kj4 a0 a1) = some r := by rw [if_pos rfl] at H; exact H
                  clear H
                  have H := H1
                  clear H1
                  as_aux_lemma =>
                    have H' := Aside0.mk H
                    clear H
                    go_wp2_with (first | ((with_reducible refine gate_callee (f := 33) rfl ?_); refine goesL_ (some 34) rfl rfl Tryd.func33 (by kernel_rfl) rfl #[.int .i64 a1] rfl (by (try simp only [List.map_toArray, List.map_cons, List.map_nil]); first | done | rfl | (simp only [List.length_drop, List.length_take]; rfl) | (simp only [gt_iff_lt, Int.natCast_pos]; done) | (simp only [gt_iff_lt, Int.natCast_pos]; rfl)) ?_; (with_reducible refine (ieee_FromInt.calls kj4 a1 t401 _ ?side1 A10.out).mono ?_); (case side1 => repeat (first | exact (Kd.C_below HT.out HB.out) | (with_reducible refine Kd.C_alloc ?_ _) | (with_reducible refine Kd.C_drewN ?_ _) | (with_reducible refine Kd.C_drew ?_))); rintro e w17 ⟨rfl, hb⟩; refine ⟨_, rfl, ?_⟩; have n0_ := Aside0.mk (below_step (by repeat (first | (with_reducible first | exact HB.out | apply below_alloc | apply pw_below_drewN | apply below_drew1) | exact HB.out)) hb); clear HB; have HB := n0_; clear n0_; (try clear hb); (try clear hb2); (try clear hk); (try clear hi)) | ((with_reducible refine gate_callee (f := 32) rfl ?_); refine goesL_ (some 35) rfl rfl Tryd.func32 (by kernel_rfl) rfl #[.int .u64 t401] rfl (by (try simp only [List.map_toArray, List.map_cons, List.map_nil]); first | done | rfl | (simp only [List.length_drop, List.length_take]; rfl) | (simp only [gt_iff_lt, Int.natCast_pos]; done) | (simp only [gt_iff_lt, Int.natCast_pos]; rfl)) ?_; (with_reducible refine (ieee_ToInt.calls kj4 t401 t402 t403 _ ?side1 A11.out).mono ?_); (case side1 => repeat (first | exact (Kd.C_below HT.out HB.out) | (with_reducible refine Kd.C_alloc ?_ _) | (with_reducible refine Kd.C_drewN ?_ _) | (with_reducible refine Kd.C_drew ?_))); rintro e w18 ⟨rfl, hb⟩; refine ⟨_, rfl, ?_⟩; have n0_ := Aside0.mk (below_step (by repeat (first | (with_reducible first | exact HB.out | apply below_alloc | apply pw_below_drewN | apply below_drew1) | exact HB.out)) hb); clear HB; have HB := n0_; clear n0_; (try clear hb); (try clear hb2); (try clear hk); (try clear hi)) | (go_at_call 33; (with_reducible refine (ieee_FromInt.calls kj4 a1 t404 _ ?side1 A14.out).mono ?_); (case side1 => repeat (first | exact (Kd.C_below HT.out HB.out) | (with_reducible refine Kd.C_alloc ?_ _) | (with_reducible refine Kd.C_drewN ?_ _) | (with_reducible refine Kd.C_drew ?_))); rintro e w19 ⟨rfl, hb⟩; have n0_ := Aside0.mk (below_step (by repeat (first | (with_reducible first | exact HB.out | apply below_alloc | apply pw_below_drewN | apply below_drew1) | exact HB.out)) hb); clear HB; have HB := n0_; clear n0_; (try clear hb); (try clear hb2); (try clear hk); (try clear hi)) | (go_at_call 34; (with_reducible refine (ieee_Integral.calls t404 true _ ?side1 A15.out).mono ?_); (case side1 => repeat (first | exact (Kd.C_below HT.out HB.out) | (with_reducible refine Kd.C_alloc ?_ _) | (with_reducible refine Kd.C_drewN ?_ _) | (with_reducible refine Kd.C_drew ?_))); rintro e w20 ⟨rfl, hb⟩; have n0_ := Aside0.mk (below_step (by repeat (first | (with_reducible first | exact HB.out | apply below_alloc | apply pw_below_drewN | apply below_drew1) | exact HB.out)) hb); clear HB; have HB := n0_; clear n0_; (try clear hb); (try clear hb2); (try clear hk); (try clear hi)))
                    go_meet
                    case rel => exact ⟨_, H', ⟨by have := HJ4.out; first | omega | exact Nat.le_refl _⟩, ⟨by repeat (first | (with_reducible first | exact HB.out | apply below_alloc | apply pw_below_drewN | apply below_drew1) | exact HB.out)⟩⟩
                · replace c16 := Bool.eq_false_iff.mpr c16
                  subst c16
                  have H1 : (some false) = some r := by rw [if_neg (show ¬ (false = true) by decide)] at H; exact H
                  clear H
                  have H := H1
                  clear H1
                  as_aux_lemma =>
                    obtain rfl := Option.some.inj H
                    go_wp2_with (first | ((with_reducible refine gate_callee (f := 33) rfl ?_); refine goesL_ (some 34) rfl rfl Tryd.func33 (by kernel_rfl) rfl #[.int .i64 a1] rfl (by (try simp only [List.map_toArray, List.map_cons, List.map_nil]); first | done | rfl | (simp only [List.length_drop, List.length_take]; rfl) | (simp only [gt_iff_lt, Int.natCast_pos]; done) | (simp only [gt_iff_lt, Int.natCast_pos]; rfl)) ?_; (with_reducible refine (ieee_FromInt.calls kj4 a1 t401 _ ?side1 A10.out).mono ?_); (case side1 => repeat (first | exact (Kd.C_below HT.out HB.out) | (with_reducible refine Kd.C_alloc ?_ _) | (with_reducible refine Kd.C_drewN ?_ _) | (with_reducible refine Kd.C_drew ?_))); rintro e w21 ⟨rfl, hb⟩; refine ⟨_, rfl, ?_⟩; have n0_ := Aside0.mk (below_step (by repeat (first | (with_reducible first | exact HB.out | apply below_alloc | apply pw_below_drewN | apply below_drew1) | exact HB.out)) hb); clear HB; have HB := n0_; clear n0_; (try clear hb); (try clear hb2); (try clear hk); (try clear hi)) | ((with_reducible refine gate_callee (f := 32) rfl ?_); refine goesL_ (some 35) rfl rfl Tryd.func32 (by kernel_rfl) rfl #[.int .u64 t401] rfl (by (try simp only [List.map_toArray, List.map_cons, List.map_nil]); first | done | rfl | (simp only [List.length_drop, List.length_take]; rfl) | (simp only [gt_iff_lt, Int.natCast_pos]; done) | (simp only [gt_iff_lt, Int.natCast_pos]; rfl)) ?_; (with_reducible refine (ieee_ToInt.calls kj4 t401 t402 t403 _ ?side1 A11.out).mono ?_); (case side1 => repeat (first | exact (Kd.C_below HT.out HB.out) | (with_reducible refine Kd.C_alloc ?_ _) | (with_reducible refine Kd.C_drewN ?_ _) | (with_reducible refine Kd.C_drew ?_))); rintro e w22 ⟨rfl, hb⟩; refine ⟨_, rfl, ?_⟩; have n0_ := Aside0.mk (below_step (by repeat (first | (with_reducible first | exact HB.out | apply below_alloc | apply pw_below_drewN | apply below_drew1) | exact HB.out)) hb); clear HB; have HB := n0_; clear n0_; (try clear hb); (try clear hb2); (try clear hk); (try clear hi)) | (go_at_call 33; (with_reducible refine (ieee_FromInt.calls kj4 a1 t404 _ ?side1 A14.out).mono ?_); (case side1 => repeat (first | exact (Kd.C_below HT.out HB.out) | (with_reducible refine Kd.C_alloc ?_ _) | (with_reducible refine Kd.C_drewN ?_ _) | (with_reducible refine Kd.C_drew ?_))); rintro e w23 ⟨rfl, hb⟩; have n0_ := Aside0.mk (below_step (by repeat (first | (with_reducible first | exact HB.out | apply below_alloc | apply pw_below_drewN | apply below_drew1) | exact HB.out)) hb); clear HB; have HB := n0_; clear n0_; (try clear hb); (try clear hb2); (try clear hk); (try clear hi)) | (go_at_call 34; (with_reducible refine (ieee_Integral.calls t404 false _ ?side1 A15.out).mono ?_); (case side1 => repeat (first | exact (Kd.C_below HT.out HB.out) | (with_reducible refine Kd.C_alloc ?_ _) | (with_reducible refine Kd.C_drewN ?_ _) | (with_reducible refine Kd.C_drew ?_))); rintro e w24 ⟨rfl, hb⟩; have n0_ := Aside0.mk (below_step (by repeat (first | (with_reducible first | exact HB.out | apply below_alloc | apply pw_below_drewN | apply below_drew1) | exact HB.out)) hb); clear HB; have HB := n0_; clear n0_; (try clear hb); (try clear hb2); (try clear hk); (try clear hi)))
                    go_ret
                    exact ⟨by first | rfl | (have e_ := Option.some.inj (A10.out.symm.trans A14.out); cases e_; rfl) | (simp [errW_none, errW_some] <;> rfl) | (simp [*, errW_none, errW_some] <;> rfl), by repeat (first | (with_reducible first | exact HB.out | apply below_alloc | apply pw_below_drewN | apply below_drew1) | exact HB.out)⟩
              · rw [if_neg c13] at H
                have c13b0 : (t402 == a1) = false := beq_eq_false_iff_ne.mpr c13
                have c13b1 : (t402 != a1) = true := bne_iff_ne.mpr c13
                as_aux_lemma =>
                  obtain rfl := Option.some.inj H
                  go_wp2_with (first | ((with_reducible refine gate_callee (f := 33) rfl ?_); refine goesL_ (some 34) rfl rfl Tryd.func33 (by kernel_rfl) rfl #[.int .i64 a1] rfl (by (try simp only [List.map_toArray, List.map_cons, List.map_nil]); first | done | rfl | (simp only [List.length_drop, List.length_take]; rfl) | (simp only [gt_iff_lt, Int.natCast_pos]; done) | (simp only [gt_iff_lt, Int.natCast_pos]; rfl)) ?_; (with_reducible refine (ieee_FromInt.calls kj4 a1 t401 _ ?side1 A10.out).mono ?_); (case side1 => repeat (first | exact (Kd.C_below HT.out HB.out) | (with_reducible refine Kd.C_alloc ?_ _) | (with_reducible refine Kd.C_drewN ?_ _) | (with_reducible refine Kd.C_drew ?_))); rintro e w25 ⟨rfl, hb⟩; refine ⟨_, rfl, ?_⟩; have n0_ := Aside0.mk (below_step (by repeat (first | (with_reducible first | exact HB.out | apply below_alloc | apply pw_below_drewN | apply below_drew1) | exact HB.out)) hb); clear HB; have HB := n0_; clear n0_; (try clear hb); (try clear hb2); (try clear hk); (try clear hi)) | ((with_reducible refine gate_callee (f := 32) rfl ?_); refine goesL_ (some 35) rfl rfl Tryd.func32 (by kernel_rfl) rfl #[.int .u64 t401] rfl (by (try simp only [List.map_toArray, List.map_cons, List.map_nil]); first | done | rfl | (simp only [List.length_drop, List.length_take]; rfl) | (simp only [gt_iff_lt, Int.natCast_pos]; done) | (simp only [gt_iff_lt, Int.natCast_pos]; rfl)) ?_; (with_reducible refine (ieee_ToInt.calls kj4 t401 t402 t403 _ ?side1 A11.out).mono ?_); (case side1 => repeat (first | exact (Kd.C_below HT.out HB.out) | (with_reducible refine Kd.C_alloc ?_ _) | (with_reducible refine Kd.C_drewN ?_ _) | (with_reducible refine Kd.C_drew ?_))); rintro e w26 ⟨rfl, hb⟩; refine ⟨_, rfl, ?_⟩; have n0_ := Aside0.mk (below_step (by repeat (first | (with_reducible first | exact HB.out | apply below_alloc | apply pw_below_drewN | apply below_drew1) | exact HB.out)) hb); clear HB; have HB := n0_; clear n0_; (try clear hb); (try clear hb2); (try clear hk); (try clear hi)))
                  go_ret
                  exact ⟨by first | rfl | (simp [errW_none, errW_some] <;> rfl) | (simp [*, errW_none, errW_some] <;> rfl), by repeat (first | (with_reducible first | exact HB.out | apply below_alloc | apply pw_below_drewN | apply below_drew1) | exact HB.out)⟩
            · rw [if_neg c12] at H
              have c12b0 : (t403 == 0) = false := beq_eq_false_iff_ne.mpr c12
              have c12b1 : (t403 != 0) = true := bne_iff_ne.mpr c12
              (first | rw [c12b0] | (simp only [i64_w, i32_w]; rw [c12b0]) | rw [c12b1] | skip)
              as_aux_lemma =>
                obtain rfl := Option.some.inj H
                go_wp2_with (first | ((with_reducible refine gate_callee (f := 33) rfl ?_); refine goesL_ (some 34) rfl rfl Tryd.func33 (by kernel_rfl) rfl #[.int .i64 a1] rfl (by (try simp only [List.map_toArray, List.map_cons, List.map_nil]); first | done | rfl | (simp only [List.length_drop, List.length_take]; rfl) | (simp only [gt_iff_lt, Int.natCast_pos]; done) | (simp only [gt_iff_lt, Int.natCast_pos]; rfl)) ?_; (with_reducible refine (ieee_FromInt.calls kj4 a1 t401 _ ?side1 A10.out).mono ?_); (case side1 => repeat (first | exact (Kd.C_below HT.out HB.out) | (with_reducible refine Kd.C_alloc ?_ _) | (with_reducible refine Kd.C_drewN ?_ _) | (with_reducible refine Kd.C_drew ?_))); rintro e w27 ⟨rfl, hb⟩; refine ⟨_, rfl, ?_⟩; have n0_ := Aside0.mk (below_step (by repeat (first | (with_reducible first | exact HB.out | apply below_alloc | apply pw_below_drewN | apply below_drew1) | exact HB.out)) hb); clear HB; have HB := n0_; clear n0_; (try clear hb); (try clear hb2); (try clear hk); (try clear hi)) | ((with_reducible refine gate_callee (f := 32) rfl ?_); refine goesL_ (some 35) rfl rfl Tryd.func32 (by kernel_rfl) rfl #[.int .u64 t401] rfl (by (try simp only [List.map_toArray, List.map_cons, List.map_nil]); first | done | rfl | (simp only [List.length_drop, List.length_take]; rfl) | (simp only [gt_iff_lt, Int.natCast_pos]; done) | (simp only [gt_iff_lt, Int.natCast_pos]; rfl)) ?_; (with_reducible refine (ieee_ToInt.calls kj4 t401 t402 t403 _ ?side1 A11.out).mono ?_); (case side1 => repeat (first | exact (Kd.C_below HT.out HB.out) | (with_reducible refine Kd.C_alloc ?_ _) | (with_reducible refine Kd.C_drewN ?_ _) | (with_reducible refine Kd.C_drew ?_))); rintro e w28 ⟨rfl, hb⟩; refine ⟨_, rfl, ?_⟩; have n0_ := Aside0.mk (below_step (by repeat (first | (with_reducible first | exact HB.out | apply below_alloc | apply pw_below_drewN | apply below_drew1) | exact HB.out)) hb); clear HB; have HB := n0_; clear n0_; (try clear hb); (try clear hb2); (try clear hk); (try clear hi)))
                go_ret
                exact ⟨by first | rfl | (simp [errW_none, errW_some] <;> rfl) | (simp [*, errW_none, errW_some] <;> rfl), by repeat (first | (with_reducible first | exact HB.out | apply below_alloc | apply pw_below_drewN | apply below_drew1) | exact HB.out)⟩
          · replace c9 := Bool.eq_false_iff.mpr c9
            subst c9
            have H1 : (abacuslaw04_IeeeWhole.j1 kj4 a0 a1) = some r := by rw [if_neg (show ¬ (false = true) by decide)] at H; exact H
            clear H
            have H := H1
            clear H1
            as_aux_lemma =>
              have H' := Aside0.mk H
              clear H
              go_wp2
              go_meet
              case rel => exact ⟨_, H', ⟨by have := HJ4.out; first | omega | exact Nat.le_refl _⟩, ⟨by repeat (first | (with_reducible first | exact HB.out | apply below_alloc | apply pw_below_drewN | apply below_drew1) | exact HB.out)⟩⟩
        case rest =>
          clear HC8
          try clear c1
          try clear p2
          try clear c3
          try clear c4
          try clear c7
          try clear c7b0
          try clear c7b1
          try clear c9
          try clear c12
          try clear c12b0
          try clear c12b1
          try clear c13
          try clear c13b0
          try clear c13b1
          try clear c16
          try clear p2
          obtain ⟨kq, HA, HJ7, HB⟩ := hcut
          cases kq with
          | zero => exact absurd HA.out (by simp [abacuslaw04_IeeeWhole.j1])
          | succ kj7 =>
            have H := HA.out
            clear HA
            simp only [abacuslaw04_IeeeWhole.j1] at H
            have HC29 := Aside0.mk H
            clear H
            go_upto_region 7 with (fail)
            go_cut [74] (fun v74 wc => ∃ (kq : Nat) (x74_28 : Bool), v74 = .bool x74_28 ∧ Aside0 (abacuslaw04_IeeeWhole.j2 kq a0 x74_28 = some r) ∧ Aside0 (kq ≤ kj7) ∧ Aside0 (Below w.heap.size w wc))
            case first =>
              have H := HC29.out
              clear HC29
              by_cases c30 : a1 ≥ 0
              · rw [if_pos c30] at H
                have c30b0 : decide (0 ≤ a1) = true := decide_eq_true c30
                clear c30
                (first | rw [c30b0] | (simp only [i64_w, i32_w]; rw [c30b0]) | rw [c30b1] | skip)
                replace H := Option.bind_eq_some_iff.mp H
                obtain ⟨t406, A310, H⟩ := H
                replace H : ((ieee_FromUint.f kj7 (IntKind.u64.wrap (a1))).bind fun t407 => (if t406 = t407 then (if a1 < 0 then ((ieee_FromInt.f kj7 a1).bind fun t408 => ((ieee_FromUint.f kj7 (IntKind.u64.wrap (-(IntKind.u64.wrap (a1))))).bind fun t409 => (abacuslaw04_IeeeWhole.j2 kj7 a0 (t408 != (IntKind.u64.wrap (t409 + 9223372036854775808)))))) else (abacuslaw04_IeeeWhole.j2 kj7 a0 false)) else (abacuslaw04_IeeeWhole.j2 kj7 a0 true))) = some r := H
                have A31 := Aside0.mk A310
                clear A310
                replace H := Option.bind_eq_some_iff.mp H
                obtain ⟨t407, A320, H⟩ := H
                replace H : (if t406 = t407 then (if a1 < 0 then ((ieee_FromInt.f kj7 a1).bind fun t408 => ((ieee_FromUint.f kj7 (IntKind.u64.wrap (-(IntKind.u64.wrap (a1))))).bind fun t409 => (abacuslaw04_IeeeWhole.j2 kj7 a0 (t408 != (IntKind.u64.wrap (t409 + 9223372036854775808)))))) else (abacuslaw04_IeeeWhole.j2 kj7 a0 false)) else (abacuslaw04_IeeeWhole.j2 kj7 a0 true)) = some r := H
                have A32 := Aside0.mk A320
                clear A320
                by_cases c33 : t406 = t407
                · rw [if_pos c33] at H
                  have c33b0 : (t406 == t407) = true := beq_iff_eq.mpr c33
                  have c33b1 : (t406 != t407) = false := bne_eq_false_iff_eq.mpr c33
                  clear c33
                  by_cases c34 : a1 < 0
                  · rw [if_pos c34] at H
                    have c34b0 : decide (a1 < 0) = true := decide_eq_true c34
                    clear c34
                    replace H := Option.bind_eq_some_iff.mp H
                    obtain ⟨t408, A350, H⟩ := H
                    replace H : ((ieee_FromUint.f kj7 (IntKind.u64.wrap (-(IntKind.u64.wrap (a1))))).bind fun t409 => (abacuslaw04_IeeeWhole.j2 kj7 a0 (t408 != (IntKind.u64.wrap (t409 + 9223372036854775808))))) = some r := H
                    have A35 := Aside0.mk A350
                    clear A350
                    replace H := Option.bind_eq_some_iff.mp H
                    obtain ⟨t409, A360, H⟩ := H
                    replace H : (abacuslaw04_IeeeWhole.j2 kj7 a0 (t408 != (IntKind.u64.wrap (t409 + 9223372036854775808)))) = some r := H
                    have A36 := Aside0.mk A360
                    clear A360
                    as_aux_lemma =>
                      have H' := Aside0.mk H
                      clear H
                      go_wp2_with (first | (go_at_call 33; (with_reducible refine (ieee_FromInt.calls kj7 a1 t406 _ ?side1 A31.out).mono ?_); (case side1 => repeat (first | exact (Kd.C_below HT.out HB.out) | (with_reducible refine Kd.C_alloc ?_ _) | (with_reducible refine Kd.C_drewN ?_ _) | (with_reducible refine Kd.C_drew ?_))); rintro e w37 ⟨rfl, hb⟩; have n0_ := Aside0.mk (below_step (by repeat (first | (with_reducible first | exact HB.out | apply below_alloc | apply pw_below_drewN | apply below_drew1) | exact HB.out)) hb); clear HB; have HB := n0_; clear n0_; (try clear hb); (try clear hb2); (try clear hk); (try clear hi)) | (go_at_call 35; (with_reducible refine (ieee_FromUint.calls kj7 (IntKind.u64.wrap (a1)) t407 _ ?side1 A32.out).mono ?_); (case side1 => repeat (first | exact (Kd.C_below HT.out HB.out) | (with_reducible refine Kd.C_alloc ?_ _) | (with_reducible refine Kd.C_drewN ?_ _) | (with_reducible refine Kd.C_drew ?_))); rintro e w38 ⟨rfl, hb⟩; have n0_ := Aside0.mk (below_step (by repeat (first | (with_reducible first | exact HB.out | apply below_alloc | apply pw_below_drewN | apply below_drew1) | exact HB.out)) hb); clear HB; have HB := n0_; clear n0_; (try clear hb); (try clear hb2); (try clear hk); (try clear hi)) | (go_at_call 33; (with_reducible refine (ieee_FromInt.calls kj7 a1 t408 _ ?side1 A35.out).mono ?_); (case side1 => repeat (first | exact (Kd.C_below HT.out HB.out) | (with_reducible refine Kd.C_alloc ?_ _) | (with_reducible refine Kd.C_drewN ?_ _) | (with_reducible refine Kd.C_drew ?_))); rintro e w39 ⟨rfl, hb⟩; have n0_ := Aside0.mk (below_step (by repeat (first | (with_reducible first | exact HB.out | apply below_alloc | apply pw_below_drewN | apply below_drew1) | exact HB.out)) hb); clear HB; have HB := n0_; clear n0_; (try clear hb); (try clear hb2); (try clear hk); (try clear hi)) | (go_at_call 35; (with_reducible refine (ieee_FromUint.calls kj7 (IntKind.u64.wrap (-(IntKind.u64.wrap (a1)))) t409 _ ?side1 A36.out).mono ?_); (case side1 => repeat (first | exact (Kd.C_below HT.out HB.out) | (with_reducible refine Kd.C_alloc ?_ _) | (with_reducible refine Kd.C_drewN ?_ _) | (with_reducible refine Kd.C_drew ?_))); rintro e w40 ⟨rfl, hb⟩; have n0_ := Aside0.mk (below_step (by repeat (first | (with_reducible first | exact HB.out | apply below_alloc | apply pw_below_drewN | apply below_drew1) | exact HB.out)) hb); clear HB; have HB := n0_; clear n0_; (try clear hb); (try clear hb2); (try clear hk); (try clear hi)))
                      go_meet
                      case rel => exact ⟨_, ((t408 != (IntKind.u64.wrap (t409 + 9223372036854775808)))), (by first | rfl | (have e_ := Option.some.inj (A31.out.symm.trans A35.out); cases e_; rfl) | (simp; done) | (simp [*]; done)), H', ⟨by have := HJ4.out; have := HJ7.out; first | omega | exact Nat.le_refl _⟩, ⟨by repeat (first | (with_reducible first | exact HB.out | apply below_alloc | apply pw_below_drewN | apply below_drew1) | exact HB.out)⟩⟩
                  · rw [if_neg c34] at H
                    have c34b0 : decide (a1 < 0) = false := decide_eq_false c34
                    clear c34
                    as_aux_lemma =>
                      have H' := Aside0.mk H
                      clear H
                      go_wp2_with (first | (go_at_call 33; (with_reducible refine (ieee_FromInt.calls kj7 a1 t406 _ ?side1 A31.out).mono ?_); (case side1 => repeat (first | exact (Kd.C_below HT.out HB.out) | (with_reducible refine Kd.C_alloc ?_ _) | (with_reducible refine Kd.C_drewN ?_ _) | (with_reducible refine Kd.C_drew ?_))); rintro e w41 ⟨rfl, hb⟩; have n0_ := Aside0.mk (below_step (by repeat (first | (with_reducible first | exact HB.out | apply below_alloc | apply pw_below_drewN | apply below_drew1) | exact HB.out)) hb); clear HB; have HB := n0_; clear n0_; (try clear hb); (try clear hb2); (try clear hk); (try clear hi)) | (go_at_call 35; (with_reducible refine (ieee_FromUint.calls kj7 (IntKind.u64.wrap (a1)) t407 _ ?side1 A32.out).mono ?_); (case side1 => repeat (first | exact (Kd.C_below HT.out HB.out) | (with_reducible refine Kd.C_alloc ?_ _) | (with_reducible refine Kd.C_drewN ?_ _) | (with_reducible refine Kd.C_drew ?_))); rintro e w42 ⟨rfl, hb⟩; have n0_ := Aside0.mk (below_step (by repeat (first | (with_reducible first | exact HB.out | apply below_alloc | apply pw_below_drewN | apply below_drew1) | exact HB.out)) hb); clear HB; have HB := n0_; clear n0_; (try clear hb); (try clear hb2); (try clear hk); (try clear hi)))
                      go_meet
                      case rel => exact ⟨_, (false), (by first | rfl | (simp; done) | (simp [*]; done)), H', ⟨by have := HJ4.out; have := HJ7.out; first | omega | exact Nat.le_refl _⟩, ⟨by repeat (first | (with_reducible first | exact HB.out | apply below_alloc | apply pw_below_drewN | apply below_drew1) | exact HB.out)⟩⟩
                · rw [if_neg c33] at H
                  have c33b0 : (t406 == t407) = false := beq_eq_false_iff_ne.mpr c33
                  have c33b1 : (t406 != t407) = true := bne_iff_ne.mpr c33
                  as_aux_lemma =>
                    have H' := Aside0.mk H
                    clear H
                    go_wp2_with (first | (go_at_call 33; (with_reducible refine (ieee_FromInt.calls kj7 a1 t406 _ ?side1 A31.out).mono ?_); (case side1 => repeat (first | exact (Kd.C_below HT.out HB.out) | (with_reducible refine Kd.C_alloc ?_ _) | (with_reducible refine Kd.C_drewN ?_ _) | (with_reducible refine Kd.C_drew ?_))); rintro e w43 ⟨rfl, hb⟩; have n0_ := Aside0.mk (below_step (by repeat (first | (with_reducible first | exact HB.out | apply below_alloc | apply pw_below_drewN | apply below_drew1) | exact HB.out)) hb); clear HB; have HB := n0_; clear n0_; (try clear hb); (try clear hb2); (try clear hk); (try clear hi)) | (go_at_call 35; (with_reducible refine (ieee_FromUint.calls kj7 (IntKind.u64.wrap (a1)) t407 _ ?side1 A32.out).mono ?_); (case side1 => repeat (first | exact (Kd.C_below HT.out HB.out) | (with_reducible refine Kd.C_alloc ?_ _) | (with_reducible refine Kd.C_drewN ?_ _) | (with_reducible refine Kd.C_drew ?_))); rintro e w44 ⟨rfl, hb⟩; have n0_ := Aside0.mk (below_step (by repeat (first | (with_reducible first | exact HB.out | apply below_alloc | apply pw_below_drewN | apply below_drew1) | exact HB.out)) hb); clear HB; have HB := n0_; clear n0_; (try clear hb); (try clear hb2); (try clear hk); (try clear hi)))
                    go_meet
                    case rel => exact ⟨_, (true), (by first | rfl | (simp; done) | (simp [*]; done)), H', ⟨by have := HJ4.out; have := HJ7.out; first | omega | exact Nat.le_refl _⟩, ⟨by repeat (first | (with_reducible first | exact HB.out | apply below_alloc | apply pw_below_drewN | apply below_drew1) | exact HB.out)⟩⟩
              · rw [if_neg c30] at H
                have c30b0 : decide (0 ≤ a1) = false := decide_eq_false c30
                clear c30
                (first | rw [c30b0] | (simp only [i64_w, i32_w]; rw [c30b0]) | rw [c30b1] | skip)
                by_cases c45 : a1 < 0
                · rw [if_pos c45] at H
                  have c45b0 : decide (a1 < 0) = true := decide_eq_true c45
                  clear c45
                  replace H := Option.bind_eq_some_iff.mp H
                  obtain ⟨t410, A460, H⟩ := H
                  replace H : ((ieee_FromUint.f kj7 (IntKind.u64.wrap (-(IntKind.u64.wrap (a1))))).bind fun t411 => (abacuslaw04_IeeeWhole.j2 kj7 a0 (t410 != (IntKind.u64.wrap (t411 + 9223372036854775808))))) = some r := H
                  have A46 := Aside0.mk A460
                  clear A460
                  replace H := Option.bind_eq_some_iff.mp H
                  obtain ⟨t411, A470, H⟩ := H
                  replace H : (abacuslaw04_IeeeWhole.j2 kj7 a0 (t410 != (IntKind.u64.wrap (t411 + 9223372036854775808)))) = some r := H
                  have A47 := Aside0.mk A470
                  clear A470
                  as_aux_lemma =>
                    have H' := Aside0.mk H
                    clear H
                    go_wp2_with (first | (go_at_call 33; (with_reducible refine (ieee_FromInt.calls kj7 a1 t410 _ ?side1 A46.out).mono ?_); (case side1 => repeat (first | exact (Kd.C_below HT.out HB.out) | (with_reducible refine Kd.C_alloc ?_ _) | (with_reducible refine Kd.C_drewN ?_ _) | (with_reducible refine Kd.C_drew ?_))); rintro e w48 ⟨rfl, hb⟩; have n0_ := Aside0.mk (below_step (by repeat (first | (with_reducible first | exact HB.out | apply below_alloc | apply pw_below_drewN | apply below_drew1) | exact HB.out)) hb); clear HB; have HB := n0_; clear n0_; (try clear hb); (try clear hb2); (try clear hk); (try clear hi)) | (go_at_call 35; (with_reducible refine (ieee_FromUint.calls kj7 (IntKind.u64.wrap (-(IntKind.u64.wrap (a1)))) t411 _ ?side1 A47.out).mono ?_); (case side1 => repeat (first | exact (Kd.C_below HT.out HB.out) | (with_reducible refine Kd.C_alloc ?_ _) | (with_reducible refine Kd.C_drewN ?_ _) | (with_reducible refine Kd.C_drew ?_))); rintro e w49 ⟨rfl, hb⟩; have n0_ := Aside0.mk (below_step (by repeat (first | (with_reducible first | exact HB.out | apply below_alloc | apply pw_below_drewN | apply below_drew1) | exact HB.out)) hb); clear HB; have HB := n0_; clear n0_; (try clear hb); (try clear hb2); (try clear hk); (try clear hi)))
                    go_meet
                    case rel => exact ⟨_, ((t410 != (IntKind.u64.wrap (t411 + 9223372036854775808)))), (by first | rfl | (simp; done) | (simp [*]; done)), H', ⟨by have := HJ4.out; have := HJ7.out; first | omega | exact Nat.le_refl _⟩, ⟨by repeat (first | (with_reducible first | exact HB.out | apply below_alloc | apply pw_below_drewN | apply below_drew1) | exact HB.out)⟩⟩
                · rw [if_neg c45] at H
                  have c45b0 : decide (a1 < 0) = false := decide_eq_false c45
                  clear c45
                  as_aux_lemma =>
                    have H' := Aside0.mk H
                    clear H
                    go_wp2
                    go_meet
                    case rel => exact ⟨_, (false), (by first | rfl | (simp; done) | (simp [*]; done)), H', ⟨by have := HJ4.out; have := HJ7.out; first | omega | exact Nat.le_refl _⟩, ⟨by repeat (first | (with_reducible first | exact HB.out | apply below_alloc | apply pw_below_drewN | apply below_drew1) | exact HB.out)⟩⟩
            case rest =>
              clear HC29
              try clear c1
              try clear p2
              try clear c3
              try clear c4
              try clear c7
              try clear c7b0
              try clear c7b1
              try clear c9
              try clear c12
              try clear c12b0
              try clear c12b1
              try clear c13
              try clear c13b0
              try clear c13b1
              try clear c16
              try clear c30
              try clear c30b0
              try clear c30b1
              try clear c32
              try clear c33
              try clear c33b0
              try clear c33b1
              try clear c34
              try clear c34b0
              try clear c45
              try clear c45b0
              try clear p2
              obtain ⟨kq, x74_28, rfl, HA, HJ28, HB⟩ := hcut
              cases kq with
              | zero => exact absurd HA.out (by simp [abacuslaw04_IeeeWhole.j2])
              | succ kj28 =>
                have H := HA.out
                clear HA
                simp only [abacuslaw04_IeeeWhole.j2] at H
                by_cases c50 : x74_28 = true
                · subst c50
                  have H1 : (some false) = some r := by rw [if_pos rfl] at H; exact H
                  clear H
                  have H := H1
                  clear H1
                  as_aux_lemma =>
                    obtain rfl := Option.some.inj H
                    go_wp2
                    go_ret
                    exact ⟨by first | rfl | (simp [errW_none, errW_some] <;> rfl) | (simp [*, errW_none, errW_some] <;> rfl), by repeat (first | (with_reducible first | exact HB.out | apply below_alloc | apply pw_below_drewN | apply below_drew1) | exact HB.out)⟩
                · replace c50 := Bool.eq_false_iff.mpr c50
                  subst c50
                  have H1 : ((ieee_Whole.f kj28 a0).bind fun bt412 => ((ieee_ToInt.f kj28 a0).bind fun bt417 => (if (Int.tmod a0 9223372036854775808) ≥ 9218868437227405312 then (if bt412.2.2 = 5 then (if bt417.2 = 5 then (if bt412.1 = true then (some false) else (if (bt412.2.1.length : Int) = 0 then (if bt417.1 = 0 then ((ieee_Integral.f a0).bind fun t419 => (some (!t419))) else (some false)) else (some false))) else (some false)) else (some false)) else (if bt412.2.2 = 0 then (abacuslaw04_IeeeWhole.j3 kj28 a0 bt412.1 bt412.2.1 bt417.1 bt417.2 (bt412.1 != (decide (a0 ≥ 9223372036854775808)))) else (abacuslaw04_IeeeWhole.j3 kj28 a0 bt412.1 bt412.2.1 bt417.1 bt417.2 true))))) = some r := by rw [if_neg (show ¬ (false = true) by decide)] at H; exact H
                  clear H
                  have H := H1
                  clear H1
                  replace H := Option.bind_eq_some_iff.mp H
                  obtain ⟨⟨t412, t413, t416⟩, A510, H⟩ := H
                  replace H : ((ieee_ToInt.f kj28 a0).bind fun bt417 => (if (Int.tmod a0 9223372036854775808) ≥ 9218868437227405312 then (if t416 = 5 then (if bt417.2 = 5 then (if t412 = true then (some false) else (if (t413.length : Int) = 0 then (if bt417.1 = 0 then ((ieee_Integral.f a0).bind fun t419 => (some (!t419))) else (some false)) else (some false))) else (some false)) else (some false)) else (if t416 = 0 then (abacuslaw04_IeeeWhole.j3 kj28 a0 t412 t413 bt417.1 bt417.2 (t412 != (decide (a0 ≥ 9223372036854775808)))) else (abacuslaw04_IeeeWhole.j3 kj28 a0 t412 t413 bt417.1 bt417.2 true)))) = some r := H
                  have A51 := Aside0.mk A510
                  clear A510
                  replace H := Option.bind_eq_some_iff.mp H
                  obtain ⟨⟨t417, t418⟩, A520, H⟩ := H
                  replace H : (if (Int.tmod a0 9223372036854775808) ≥ 9218868437227405312 then (if t416 = 5 then (if t418 = 5 then (if t412 = true then (some false) else (if (t413.length : Int) = 0 then (if t417 = 0 then ((ieee_Integral.f a0).bind fun t419 => (some (!t419))) else (some false)) else (some false))) else (some false)) else (some false)) else (if t416 = 0 then (abacuslaw04_IeeeWhole.j3 kj28 a0 t412 t413 t417 t418 (t412 != (decide (a0 ≥ 9223372036854775808)))) else (abacuslaw04_IeeeWhole.j3 kj28 a0 t412 t413 t417 t418 true))) = some r := H
                  have A52 := Aside0.mk A520
                  clear A520
                  by_cases c53 : (Int.tmod a0 9223372036854775808) ≥ 9218868437227405312
                  · rw [if_pos c53] at H
                    have c53b0 : decide (9218868437227405312 ≤ (Int.tmod a0 9223372036854775808)) = true := decide_eq_true c53
                    clear c53
                    by_cases c54 : t416 = 5
                    · rw [if_pos c54] at H
                      have c54b0 : (t416 == 5) = true := beq_iff_eq.mpr c54
                      have c54b1 : (t416 != 5) = false := bne_eq_false_iff_eq.mpr c54
                      clear c54
                      by_cases c55 : t418 = 5
                      · rw [if_pos c55] at H
                        have c55b0 : (t418 == 5) = true := beq_iff_eq.mpr c55
                        have c55b1 : (t418 != 5) = false := bne_eq_false_iff_eq.mpr c55
                        clear c55
                        by_cases c56 : t412 = true
                        · subst c56
                          have H1 : (some false) = some r := by rw [if_pos rfl] at H; exact H
                          clear H
                          have H := H1
                          clear H1
                          as_aux_lemma =>
                            obtain rfl := Option.some.inj H
                            go_wp2_with (first | ((with_reducible refine gate_callee (f := 36) rfl ?_); refine goesL_ (some 77) rfl rfl Tryd.func36 (by kernel_rfl) rfl #[.int .u64 a0] rfl (by (try simp only [List.map_toArray, List.map_cons, List.map_nil]); first | done | rfl | (simp only [List.length_drop, List.length_take]; rfl) | (simp only [gt_iff_lt, Int.natCast_pos]; done) | (simp only [gt_iff_lt, Int.natCast_pos]; rfl)) ?_; (with_reducible refine (ieee_Whole.calls kj28 a0 true t413 t416 _ ?side1 A51.out).mono ?_); (case side1 => repeat (first | exact (Kd.C_below HT.out HB.out) | (with_reducible refine Kd.C_alloc ?_ _) | (with_reducible refine Kd.C_drewN ?_ _) | (with_reducible refine Kd.C_drew ?_))); rintro e w57 ⟨v414, rfl, ho0, hb⟩; refine ⟨_, rfl, ?_⟩; have n0_ := Aside0.mk (Kd.V_lower (Kd.V_mono (ok' := fun k_ => True) ho0 (fun k_ hk_ => trivial)) (below_size (by repeat (first | (with_reducible first | exact HB.out | apply below_alloc | apply pw_below_drewN | apply below_drew1) | exact HB.out)))); have n1_ := Aside0.mk (below_step (by repeat (first | (with_reducible first | exact HB.out | apply below_alloc | apply pw_below_drewN | apply below_drew1) | exact HB.out)) hb); clear HB; have HO415 := n0_; have HB := n1_; clear n0_ n1_; (try clear hb); (try clear hb2); (try clear hk); (try clear hi); (try clear ho0)) | ((with_reducible refine gate_callee (f := 32) rfl ?_); refine goesL_ (some 83) rfl rfl Tryd.func32 (by kernel_rfl) rfl #[.int .u64 a0] rfl (by (try simp only [List.map_toArray, List.map_cons, List.map_nil]); first | done | rfl | (simp only [List.length_drop, List.length_take]; rfl) | (simp only [gt_iff_lt, Int.natCast_pos]; done) | (simp only [gt_iff_lt, Int.natCast_pos]; rfl)) ?_; (with_reducible refine (ieee_ToInt.calls kj28 a0 t417 t418 _ ?side1 A52.out).mono ?_); (case side1 => repeat (first | exact (Kd.C_below HT.out HB.out) | (with_reducible refine Kd.C_alloc ?_ _) | (with_reducible refine Kd.C_drewN ?_ _) | (with_reducible refine Kd.C_drew ?_))); rintro e w58 ⟨rfl, hb⟩; refine ⟨_, rfl, ?_⟩; have n0_ := Aside0.mk (Kd.V_below (by (with_reducible repeat (first | apply Kd.V_alloc | apply Kd.V_drewN | apply Kd.V_drew)); exact HO415.out) hb); have n1_ := Aside0.mk (below_step (by repeat (first | (with_reducible first | exact HB.out | apply below_alloc | apply pw_below_drewN | apply below_drew1) | exact HB.out)) hb); clear HO415; clear HB; have HO415 := n0_; have HB := n1_; clear n0_ n1_; (try clear hb); (try clear hb2); (try clear hk); (try clear hi)))
                            go_ret
                            exact ⟨by first | rfl | (simp [errW_none, errW_some] <;> rfl) | (simp [*, errW_none, errW_some] <;> rfl), by repeat (first | (with_reducible first | exact HB.out | apply below_alloc | apply pw_below_drewN | apply below_drew1) | exact HB.out)⟩
                        · replace c56 := Bool.eq_false_iff.mpr c56
                          subst c56
                          have H1 : (if (t413.length : Int) = 0 then (if t417 = 0 then ((ieee_Integral.f a0).bind fun t419 => (some (!t419))) else (some false)) else (some false)) = some r := by rw [if_neg (show ¬ (false = true) by decide)] at H; exact H
                          clear H
                          have H := H1
                          clear H1
                          by_cases c59 : (t413.length : Int) = 0
                          · rw [if_pos c59] at H
                            have c59b0 : ((t413.length : Int) == 0) = true := beq_iff_eq.mpr c59
                            have c59b1 : ((t413.length : Int) != 0) = false := bne_eq_false_iff_eq.mpr c59
                            clear c59
                            by_cases c60 : t417 = 0
                            · rw [if_pos c60] at H
                              have c60b0 : (t417 == 0) = true := beq_iff_eq.mpr c60
                              have c60b1 : (t417 != 0) = false := bne_eq_false_iff_eq.mpr c60
                              clear c60
                              replace H := Option.bind_eq_some_iff.mp H
                              obtain ⟨t419, A610, H⟩ := H
                              replace H : (some (!t419)) = some r := H
                              have A61 := Aside0.mk A610
                              clear A610
                              as_aux_lemma =>
                                obtain rfl := Option.some.inj H
                                go_wp2_with (first | ((with_reducible refine gate_callee (f := 36) rfl ?_); refine goesL_ (some 77) rfl rfl Tryd.func36 (by kernel_rfl) rfl #[.int .u64 a0] rfl (by (try simp only [List.map_toArray, List.map_cons, List.map_nil]); first | done | rfl | (simp only [List.length_drop, List.length_take]; rfl) | (simp only [gt_iff_lt, Int.natCast_pos]; done) | (simp only [gt_iff_lt, Int.natCast_pos]; rfl)) ?_; (with_reducible refine (ieee_Whole.calls kj28 a0 false t413 t416 _ ?side1 A51.out).mono ?_); (case side1 => repeat (first | exact (Kd.C_below HT.out HB.out) | (with_reducible refine Kd.C_alloc ?_ _) | (with_reducible refine Kd.C_drewN ?_ _) | (with_reducible refine Kd.C_drew ?_))); rintro e w62 ⟨v414, rfl, ho0, hb⟩; refine ⟨_, rfl, ?_⟩; have n0_ := Aside0.mk (Kd.V_lower (Kd.V_mono (ok' := fun k_ => True) ho0 (fun k_ hk_ => trivial)) (below_size (by repeat (first | (with_reducible first | exact HB.out | apply below_alloc | apply pw_below_drewN | apply below_drew1) | exact HB.out)))); have n1_ := Aside0.mk (below_step (by repeat (first | (with_reducible first | exact HB.out | apply below_alloc | apply pw_below_drewN | apply below_drew1) | exact HB.out)) hb); clear HB; have HO415 := n0_; have HB := n1_; clear n0_ n1_; (try clear hb); (try clear hb2); (try clear hk); (try clear hi); (try clear ho0)) | ((with_reducible refine gate_callee (f := 32) rfl ?_); refine goesL_ (some 83) rfl rfl Tryd.func32 (by kernel_rfl) rfl #[.int .u64 a0] rfl (by (try simp only [List.map_toArray, List.map_cons, List.map_nil]); first | done | rfl | (simp only [List.length_drop, List.length_take]; rfl) | (simp only [gt_iff_lt, Int.natCast_pos]; done) | (simp only [gt_iff_lt, Int.natCast_pos]; rfl)) ?_; (with_reducible refine (ieee_ToInt.calls kj28 a0 t417 t418 _ ?side1 A52.out).mono ?_); (case side1 => repeat (first | exact (Kd.C_below HT.out HB.out) | (with_reducible refine Kd.C_alloc ?_ _) | (with_reducible refine Kd.C_drewN ?_ _) | (with_reducible refine Kd.C_drew ?_))); rintro e w63 ⟨rfl, hb⟩; refine ⟨_, rfl, ?_⟩; have n0_ := Aside0.mk (Kd.V_below (by (with_reducible repeat (first | apply Kd.V_alloc | apply Kd.V_drewN | apply Kd.V_drew)); exact HO415.out) hb); have n1_ := Aside0.mk (below_step (by repeat (first | (with_reducible first | exact HB.out | apply below_alloc | apply pw_below_drewN | apply below_drew1) | exact HB.out)) hb); clear HO415; clear HB; have HO415 := n0_; have HB := n1_; clear n0_ n1_; (try clear hb); (try clear hb2); (try clear hk); (try clear hi); obtain ⟨Ao64, co64, eo64⟩ := Kd.V_slice HO415.out; subst eo64) | (go_at_call 34; (with_reducible refine (ieee_Integral.calls a0 t419 _ ?side1 A61.out).mono ?_); (case side1 => repeat (first | exact (Kd.C_below HT.out HB.out) | (with_reducible refine Kd.C_alloc ?_ _) | (with_reducible refine Kd.C_drewN ?_ _) | (with_reducible refine Kd.C_drew ?_))); rintro e w65 ⟨rfl, hb⟩; have n0_ := Aside0.mk (Kd.V_below (by (with_reducible repeat (first | apply Kd.V_alloc | apply Kd.V_drewN | apply Kd.V_drew)); exact HO415.out) hb); have n1_ := Aside0.mk (below_step (by repeat (first | (with_reducible first | exact HB.out | apply below_alloc | apply pw_below_drewN | apply below_drew1) | exact HB.out)) hb); clear HO415; clear HB; have HO415 := n0_; have HB := n1_; clear n0_ n1_; (try clear hb); (try clear hb2); (try clear hk); (try clear hi)))
                                go_ret
                                exact ⟨by first | rfl | (simp [errW_none, errW_some] <;> rfl) | (simp [*, errW_none, errW_some] <;> rfl), by repeat (first | (with_reducible first | exact HB.out | apply below_alloc | apply pw_below_drewN | apply below_drew1) | exact HB.out)⟩
                            · rw [if_neg c60] at H
                              have c60b0 : (t417 == 0) = false := beq_eq_false_iff_ne.mpr c60
                              have c60b1 : (t417 != 0) = true := bne_iff_ne.mpr c60
                              as_aux_lemma =>
                                obtain rfl := Option.some.inj H
                                go_wp2_with (first | ((with_reducible refine gate_callee (f := 36) rfl ?_); refine goesL_ (some 77) rfl rfl Tryd.func36 (by kernel_rfl) rfl #[.int .u64 a0] rfl (by (try simp only [List.map_toArray, List.map_cons, List.map_nil]); first | done | rfl | (simp only [List.length_drop, List.length_take]; rfl) | (simp only [gt_iff_lt, Int.natCast_pos]; done) | (simp only [gt_iff_lt, Int.natCast_pos]; rfl)) ?_; (with_reducible refine (ieee_Whole.calls kj28 a0 false t413 t416 _ ?side1 A51.out).mono ?_); (case side1 => repeat (first | exact (Kd.C_below HT.out HB.out) | (with_reducible refine Kd.C_alloc ?_ _) | (with_reducible refine Kd.C_drewN ?_ _) | (with_reducible refine Kd.C_drew ?_))); rintro e w66 ⟨v414, rfl, ho0, hb⟩; refine ⟨_, rfl, ?_⟩; have n0_ := Aside0.mk (Kd.V_lower (Kd.V_mono (ok' := fun k_ => True) ho0 (fun k_ hk_ => trivial)) (below_size (by repeat (first | (with_reducible first | exact HB.out | apply below_alloc | apply pw_below_drewN | apply below_drew1) | exact HB.out)))); have n1_ := Aside0.mk (below_step (by repeat (first | (with_reducible first | exact HB.out | apply below_alloc | apply pw_below_drewN | apply below_drew1) | exact HB.out)) hb); clear HB; have HO415 := n0_; have HB := n1_; clear n0_ n1_; (try clear hb); (try clear hb2); (try clear hk); (try clear hi); (try clear ho0)) | ((with_reducible refine gate_callee (f := 32) rfl ?_); refine goesL_ (some 83) rfl rfl Tryd.func32 (by kernel_rfl) rfl #[.int .u64 a0] rfl (by (try simp only [List.map_toArray, List.map_cons, List.map_nil]); first | done | rfl | (simp only [List.length_drop, List.length_take]; rfl) | (simp only [gt_iff_lt, Int.natCast_pos]; done) | (simp only [gt_iff_lt, Int.natCast_pos]; rfl)) ?_; (with_reducible refine (ieee_ToInt.calls kj28 a0 t417 t418 _ ?side1 A52.out).mono ?_); (case side1 => repeat (first | exact (Kd.C_below HT.out HB.out) | (with_reducible refine Kd.C_alloc ?_ _) | (with_reducible refine Kd.C_drewN ?_ _) | (with_reducible refine Kd.C_drew ?_))); rintro e w67 ⟨rfl, hb⟩; refine ⟨_, rfl, ?_⟩; have n0_ := Aside0.mk (Kd.V_below (by (with_reducible repeat (first | apply Kd.V_alloc | apply Kd.V_drewN | apply Kd.V_drew)); exact HO415.out) hb); have n1_ := Aside0.mk (below_step (by repeat (first | (with_reducible first | exact HB.out | apply below_alloc | apply pw_below_drewN | apply below_drew1) | exact HB.out)) hb); clear HO415; clear HB; have HO415 := n0_; have HB := n1_; clear n0_ n1_; (try clear hb); (try clear hb2); (try clear hk); (try clear hi); obtain ⟨Ao68, co68, eo68⟩ := Kd.V_slice HO415.out; subst eo68))
                                go_ret
                                exact ⟨by first | rfl | (simp [errW_none, errW_some] <;> rfl) | (simp [*, errW_none, errW_some] <;> rfl), by repeat (first | (with_reducible first | exact HB.out | apply below_alloc | apply pw_below_drewN | apply below_drew1) | exact HB.out)⟩
                          · rw [if_neg c59] at H
                            have c59b0 : ((t413.length : Int) == 0) = false := beq_eq_false_iff_ne.mpr c59
                            have c59b1 : ((t413.length : Int) != 0) = true := bne_iff_ne.mpr c59
                            have c59b2 : ¬ (t413 = []) := fun h_ => c59 (by rw [h_]; rfl)
                            as_aux_lemma =>
                              obtain rfl := Option.some.inj H
                              go_wp2_with (first | ((with_reducible refine gate_callee (f := 36) rfl ?_); refine goesL_ (some 77) rfl rfl Tryd.func36 (by kernel_rfl) rfl #[.int .u64 a0] rfl (by (try simp only [List.map_toArray, List.map_cons, List.map_nil]); first | done | rfl | (simp only [List.length_drop, List.length_take]; rfl) | (simp only [gt_iff_lt, Int.natCast_pos]; done) | (simp only [gt_iff_lt, Int.natCast_pos]; rfl)) ?_; (with_reducible refine (ieee_Whole.calls kj28 a0 false t413 t416 _ ?side1 A51.out).mono ?_); (case side1 => repeat (first | exact (Kd.C_below HT.out HB.out) | (with_reducible refine Kd.C_alloc ?_ _) | (with_reducible refine Kd.C_drewN ?_ _) | (with_reducible refine Kd.C_drew ?_))); rintro e w69 ⟨v414, rfl, ho0, hb⟩; refine ⟨_, rfl, ?_⟩; have n0_ := Aside0.mk (Kd.V_lower (Kd.V_mono (ok' := fun k_ => True) ho0 (fun k_ hk_ => trivial)) (below_size (by repeat (first | (with_reducible first | exact HB.out | apply below_alloc | apply pw_below_drewN | apply below_drew1) | exact HB.out)))); have n1_ := Aside0.mk (below_step (by repeat (first | (with_reducible first | exact HB.out | apply below_alloc | apply pw_below_drewN | apply below_drew1) | exact HB.out)) hb); clear HB; have HO415 := n0_; have HB := n1_; clear n0_ n1_; (try clear hb); (try clear hb2); (try clear hk); (try clear hi); (try clear ho0)) | ((with_reducible refine gate_callee (f := 32) rfl ?_); refine goesL_ (some 83) rfl rfl Tryd.func32 (by kernel_rfl) rfl #[.int .u64 a0] rfl (by (try simp only [List.map_toArray, List.map_cons, List.map_nil]); first | done | rfl | (simp only [List.length_drop, List.length_take]; rfl) | (simp only [gt_iff_lt, Int.natCast_pos]; done) | (simp only [gt_iff_lt, Int.natCast_pos]; rfl)) ?_; (with_reducible refine (ieee_ToInt.calls kj28 a0 t417 t418 _ ?side1 A52.out).mono ?_); (case side1 => repeat (first | exact (Kd.C_below HT.out HB.out) | (with_reducible refine Kd.C_alloc ?_ _) | (with_reducible refine Kd.C_drewN ?_ _) | (with_reducible refine Kd.C_drew ?_))); rintro e w70 ⟨rfl, hb⟩; refine ⟨_, rfl, ?_⟩; have n0_ := Aside0.mk (Kd.V_below (by (with_reducible repeat (first | apply Kd.V_alloc | apply Kd.V_drewN | apply Kd.V_drew)); exact HO415.out) hb); have n1_ := Aside0.mk (below_step (by repeat (first | (with_reducible first | exact HB.out | apply below_alloc | apply pw_below_drewN | apply below_drew1) | exact HB.out)) hb); clear HO415; clear HB; have HO415 := n0_; have HB := n1_; clear n0_ n1_; (try clear hb); (try clear hb2); (try clear hk); (try clear hi); obtain ⟨Ao71, co71, eo71⟩ := Kd.V_slice HO415.out; subst eo71))
                              go_ret
                              exact ⟨by first | rfl | (simp [errW_none, errW_some] <;> rfl) | (simp [*, errW_none, errW_some] <;> rfl), by repeat (first | (with_reducible first | exact HB.out | apply below_alloc | apply pw_below_drewN | apply below_drew1) | exact HB.out)⟩
                      · rw [if_neg c55] at H
                        have c55b0 : (t418 == 5) = false := beq_eq_false_iff_ne.mpr c55
                        have c55b1 : (t418 != 5) = true := bne_iff_ne.mpr c55
                        as_aux_lemma =>
                          obtain rfl := Option.some.inj H
                          go_wp2_with (first | ((with_reducible refine gate_callee (f := 36) rfl ?_); refine goesL_ (some 77) rfl rfl Tryd.func36 (by kernel_rfl) rfl #[.int .u64 a0] rfl (by (try simp only [List.map_toArray, List.map_cons, List.map_nil]); first | done | rfl | (simp only [List.length_drop, List.length_take]; rfl) | (simp only [gt_iff_lt, Int.natCast_pos]; done) | (simp only [gt_iff_lt, Int.natCast_pos]; rfl)) ?_; (with_reducible refine (ieee_Whole.calls kj28 a0 t412 t413 t416 _ ?side1 A51.out).mono ?_); (case side1 => repeat (first | exact (Kd.C_below HT.out HB.out) | (with_reducible refine Kd.C_alloc ?_ _) | (with_reducible refine Kd.C_drewN ?_ _) | (with_reducible refine Kd.C_drew ?_))); rintro e w72 ⟨v414, rfl, ho0, hb⟩; refine ⟨_, rfl, ?_⟩; have n0_ := Aside0.mk (Kd.V_lower (Kd.V_mono (ok' := fun k_ => True) ho0 (fun k_ hk_ => trivial)) (below_size (by repeat (first | (with_reducible first | exact HB.out | apply below_alloc | apply pw_below_drewN | apply below_drew1) | exact HB.out)))); have n1_ := Aside0.mk (below_step (by repeat (first | (with_reducible first | exact HB.out | apply below_alloc | apply pw_below_drewN | apply below_drew1) | exact HB.out)) hb); clear HB; have HO415 := n0_; have HB := n1_; clear n0_ n1_; (try clear hb); (try clear hb2); (try clear hk); (try clear hi); (try clear ho0)) | ((with_reducible refine gate_callee (f := 32) rfl ?_); refine goesL_ (some 83) rfl rfl Tryd.func32 (by kernel_rfl) rfl #[.int .u64 a0] rfl (by (try simp only [List.map_toArray, List.map_cons, List.map_nil]); first | done | rfl | (simp only [List.length_drop, List.length_take]; rfl) | (simp only [gt_iff_lt, Int.natCast_pos]; done) | (simp only [gt_iff_lt, Int.natCast_pos]; rfl)) ?_; (with_reducible refine (ieee_ToInt.calls kj28 a0 t417 t418 _ ?side1 A52.out).mono ?_); (case side1 => repeat (first | exact (Kd.C_below HT.out HB.out) | (with_reducible refine Kd.C_alloc ?_ _) | (with_reducible refine Kd.C_drewN ?_ _) | (with_reducible refine Kd.C_drew ?_))); rintro e w73 ⟨rfl, hb⟩; refine ⟨_, rfl, ?_⟩; have n0_ := Aside0.mk (Kd.V_below (by (with_reducible repeat (first | apply Kd.V_alloc | apply Kd.V_drewN | apply Kd.V_drew)); exact HO415.out) hb); have n1_ := Aside0.mk (below_step (by repeat (first | (with_reducible first | exact HB.out | apply below_alloc | apply pw_below_drewN | apply below_drew1) | exact HB.out)) hb); clear HO415; clear HB; have HO415 := n0_; have HB := n1_; clear n0_ n1_; (try clear hb); (try clear hb2); (try clear hk); (try clear hi)))
                          go_ret
                          exact ⟨by first | rfl | (simp [errW_none, errW_some] <;> rfl) | (simp [*, errW_none, errW_some] <;> rfl), by repeat (first | (with_reducible first | exact HB.out | apply below_alloc | apply pw_below_drewN | apply below_drew1) | exact HB.out)⟩
                    · rw [if_neg c54] at H
                      have c54b0 : (t416 == 5) = false := beq_eq_false_iff_ne.mpr c54
                      have c54b1 : (t416 != 5) = true := bne_iff_ne.mpr c54
                      as_aux_lemma =>
                        obtain rfl := Option.some.inj H
                        go_wp2_with (first | ((with_reducible refine gate_callee (f := 36) rfl ?_); refine goesL_ (some 77) rfl rfl Tryd.func36 (by kernel_rfl) rfl #[.int .u64 a0] rfl (by (try simp only [List.map_toArray, List.map_cons, List.map_nil]); first | done | rfl | (simp only [List.length_drop, List.length_take]; rfl) | (simp only [gt_iff_lt, Int.natCast_pos]; done) | (simp only [gt_iff_lt, Int.natCast_pos]; rfl)) ?_; (with_reducible refine (ieee_Whole.calls kj28 a0 t412 t413 t416 _ ?side1 A51.out).mono ?_); (case side1 => repeat (first | exact (Kd.C_below HT.out HB.out) | (with_reducible refine Kd.C_alloc ?_ _) | (with_reducible refine Kd.C_drewN ?_ _) | (with_reducible refine Kd.C_drew ?_))); rintro e w74 ⟨v414, rfl, ho0, hb⟩; refine ⟨_, rfl, ?_⟩; have n0_ := Aside0.mk (Kd.V_lower (Kd.V_mono (ok' := fun k_ => True) ho0 (fun k_ hk_ => trivial)) (below_size (by repeat (first | (with_reducible first | exact HB.out | apply below_alloc | apply pw_below_drewN | apply below_drew1) | exact HB.out)))); have n1_ := Aside0.mk (below_step (by repeat (first | (with_reducible first | exact HB.out | apply below_alloc | apply pw_below_drewN | apply below_drew1) | exact HB.out)) hb); clear HB; have HO415 := n0_; have HB := n1_; clear n0_ n1_; (try clear hb); (try clear hb2); (try clear hk); (try clear hi); (try clear ho0)) | ((with_reducible refine gate_callee (f := 32) rfl ?_); refine goesL_ (some 83) rfl rfl Tryd.func32 (by kernel_rfl) rfl #[.int .u64 a0] rfl (by (try simp only [List.map_toArray, List.map_cons, List.map_nil]); first | done | rfl | (simp only [List.length_drop, List.length_take]; rfl) | (simp only [gt_iff_lt, Int.natCast_pos]; done) | (simp only [gt_iff_lt, Int.natCast_pos]; rfl)) ?_; (with_reducible refine (ieee_ToInt.calls kj28 a0 t417 t418 _ ?side1 A52.out).mono ?_); (case side1 => repeat (first | exact (Kd.C_below HT.out HB.out) | (with_reducible refine Kd.C_alloc ?_ _) | (with_reducible refine Kd.C_drewN ?_ _) | (with_reducible refine Kd.C_drew ?_))); rintro e w75 ⟨rfl, hb⟩; refine ⟨_, rfl, ?_⟩; have n0_ := Aside0.mk (Kd.V_below (by (with_reducible repeat (first | apply Kd.V_alloc | apply Kd.V_drewN | apply Kd.V_drew)); exact HO415.out) hb); have n1_ := Aside0.mk (below_step (by repeat (first | (with_reducible first | exact HB.out | apply below_alloc | apply pw_below_drewN | apply below_drew1) | exact HB.out)) hb); clear HO415; clear HB; have HO415 := n0_; have HB := n1_; clear n0_ n1_; (try clear hb); (try clear hb2); (try clear hk); (try clear hi)))
                        go_ret
                        exact ⟨by first | rfl | (simp [errW_none, errW_some] <;> rfl) | (simp [*, errW_none, errW_some] <;> rfl), by repeat (first | (with_reducible first | exact HB.out | apply below_alloc | apply pw_below_drewN | apply below_drew1) | exact HB.out)⟩
                  · rw [if_neg c53] at H
                    have c53b0 : decide (9218868437227405312 ≤ (Int.tmod a0 9223372036854775808)) = false := decide_eq_false c53
                    clear c53
                    have HC76 := Aside0.mk H
                    clear H
                    go_upto_region 13 with (first | ((with_reducible refine gate_callee (f := 36) rfl ?_); refine goesL_ (some 77) rfl rfl Tryd.func36 (by kernel_rfl) rfl #[.int .u64 a0] rfl (by (try simp only [List.map_toArray, List.map_cons, List.map_nil]); first | done | rfl | (simp only [List.length_drop, List.length_take]; rfl) | (simp only [gt_iff_lt, Int.natCast_pos]; done) | (simp only [gt_iff_lt, Int.natCast_pos]; rfl)) ?_; (with_reducible refine (ieee_Whole.calls kj28 a0 t412 t413 t416 _ ?side1 A51.out).mono ?_); (case side1 => repeat (first | exact (Kd.C_below HT.out HB.out) | (with_reducible refine Kd.C_alloc ?_ _) | (with_reducible refine Kd.C_drewN ?_ _) | (with_reducible refine Kd.C_drew ?_))); rintro e w77 ⟨v414, rfl, ho0, hb⟩; refine ⟨_, rfl, ?_⟩; have n0_ := Aside0.mk (Kd.V_lower (Kd.V_mono (ok' := fun k_ => True) ho0 (fun k_ hk_ => trivial)) (below_size (by repeat (first | (with_reducible first | exact HB.out | apply below_alloc | apply pw_below_drewN | apply below_drew1) | exact HB.out)))); have n1_ := Aside0.mk (below_step (by repeat (first | (with_reducible first | exact HB.out | apply below_alloc | apply pw_below_drewN | apply below_drew1) | exact HB.out)) hb); clear HB; have HO415 := n0_; have HB := n1_; clear n0_ n1_; (try clear hb); (try clear hb2); (try clear hk); (try clear hi); (try clear ho0)) | ((with_reducible refine gate_callee (f := 32) rfl ?_); refine goesL_ (some 83) rfl rfl Tryd.func32 (by kernel_rfl) rfl #[.int .u64 a0] rfl (by (try simp only [List.map_toArray, List.map_cons, List.map_nil]); first | done | rfl | (simp only [List.length_drop, List.length_take]; rfl) | (simp only [gt_iff_lt, Int.natCast_pos]; done) | (simp only [gt_iff_lt, Int.natCast_pos]; rfl)) ?_; (with_reducible refine (ieee_ToInt.calls kj28 a0 t417 t418 _ ?side1 A52.out).mono ?_); (case side1 => repeat (first | exact (Kd.C_below HT.out HB.out) | (with_reducible refine Kd.C_alloc ?_ _) | (with_reducible refine Kd.C_drewN ?_ _) | (with_reducible refine Kd.C_drew ?_))); rintro e w78 ⟨rfl, hb⟩; refine ⟨_, rfl, ?_⟩; have n0_ := Aside0.mk (Kd.V_below (by (with_reducible repeat (first | apply Kd.V_alloc | apply Kd.V_drewN | apply Kd.V_drew)); exact HO415.out) hb); have n1_ := Aside0.mk (below_step (by repeat (first | (with_reducible first | exact HB.out | apply below_alloc | apply pw_below_drewN | apply below_drew1) | exact HB.out)) hb); clear HO415; clear HB; have HO415 := n0_; have HB := n1_; clear n0_ n1_; (try clear hb); (try clear hb2); (try clear hk); (try clear hi)))
                    (try simp only [Act.put, List.setIfInBounds_toArray, List.set_cons_zero, List.set_cons_succ])
                    go_cut [120] (fun v120 wc => ∃ (kq : Nat) (x120_75 : Bool), v120 = .bool x120_75 ∧ Aside0 (abacuslaw04_IeeeWhole.j3 kq a0 t412 t413 t417 t418 x120_75 = some r) ∧ Aside0 (kq ≤ kj28) ∧ Aside0 (Kd.V (Kd.int .u64) 28 wc w.heap.size (fun _ => True) v414 t413) ∧ Aside0 (Below w.heap.size w wc))
                    case first =>
                      have H := HC76.out
                      clear HC76
                      by_cases c79 : t416 = 0
                      · rw [if_pos c79] at H
                        have c79b0 : (t416 == 0) = true := beq_iff_eq.mpr c79
                        have c79b1 : (t416 != 0) = false := bne_eq_false_iff_eq.mpr c79
                        clear c79
                        (first | rw [c79b0] | (simp only [i64_w, i32_w]; rw [c79b0]) | rw [c79b1] | skip)
                        as_aux_lemma =>
                          have H' := Aside0.mk H
                          clear H
                          go_wp2
                          go_meet
                          case rel => exact ⟨_, ((t412 != (decide (a0 ≥ 9223372036854775808)))), (by first | rfl | (simp; done) | (simp [*]; done)), H', ⟨by have := HJ4.out; have := HJ7.out; have := HJ28.out; first | omega | exact Nat.le_refl _⟩, ⟨by (with_reducible repeat (first | apply Kd.V_alloc | apply Kd.V_drewN | apply Kd.V_drew)); exact HO415.out⟩, ⟨by repeat (first | (with_reducible first | exact HB.out | apply below_alloc | apply pw_below_drewN | apply below_drew1) | exact HB.out)⟩⟩
                      · rw [if_neg c79] at H
                        have c79b0 : (t416 == 0) = false := beq_eq_false_iff_ne.mpr c79
                        have c79b1 : (t416 != 0) = true := bne_iff_ne.mpr c79
                        (first | rw [c79b0] | (simp only [i64_w, i32_w]; rw [c79b0]) | rw [c79b1] | skip)
                        as_aux_lemma =>
                          have H' := Aside0.mk H
                          clear H
                          go_wp2
                          go_meet
                          case rel => exact ⟨_, (true), (by first | rfl | (simp; done) | (simp [*]; done)), H', ⟨by have := HJ4.out; have := HJ7.out; have := HJ28.out; first | omega | exact Nat.le_refl _⟩, ⟨by (with_reducible repeat (first | apply Kd.V_alloc | apply Kd.V_drewN | apply Kd.V_drew)); exact HO415.out⟩, ⟨by repeat (first | (with_reducible first | exact HB.out | apply below_alloc | apply pw_below_drewN | apply below_drew1) | exact HB.out)⟩⟩
                    case rest =>
                      clear HC76
                      try clear c1
                      try clear p2
                      try clear c3
                      try clear c4
                      try clear c5
                      try clear c6
                      try clear c7
                      try clear c7b0
                      try clear c7b1
                      try clear c9
                      try clear c12
                      try clear c12b0
                      try clear c12b1
                      try clear c13
                      try clear c13b0
                      try clear c13b1
                      try clear c16
                      try clear c30
                      try clear c30b0
                      try clear c30b1
                      try clear c32
                      try clear c33
                      try clear c33b0
                      try clear c33b1
                      try clear c34
                      try clear c34b0
                      try clear c36
                      try clear c45
                      try clear c45b0
                      try clear c50
                      try clear c53
                      try clear c53b0
                      try clear c54
                      try clear c54b0
                      try clear c54b1
                      try clear c55
                      try clear c55b0
                      try clear c55b1
                      try clear c56
                      try clear c59
                      try clear c59b0
                      try clear c59b1
                      try clear c59b2
                      try clear c60
                      try clear c60b0
                      try clear c60b1
                      try clear c79
                      try clear c79b0
                      try clear c79b1
                      try clear p2
                      obtain ⟨kq, x120_75, rfl, HA, HJ75, HO_8, HB⟩ := hcut
                      cases kq with
                      | zero => exact absurd HA.out (by simp [abacuslaw04_IeeeWhole.j3])
                      | succ kj75 =>
                        have H := HA.out
                        clear HA
                        simp only [abacuslaw04_IeeeWhole.j3] at H
                        by_cases c80 : x120_75 = true
                        · subst c80
                          have H1 : (some false) = some r := by rw [if_pos rfl] at H; exact H
                          clear H
                          have H := H1
                          clear H1
                          as_aux_lemma =>
                            obtain rfl := Option.some.inj H
                            go_wp2
                            go_ret
                            exact ⟨by first | rfl | (simp [errW_none, errW_some] <;> rfl) | (simp [*, errW_none, errW_some] <;> rfl), by repeat (first | (with_reducible first | exact HB.out | apply below_alloc | apply pw_below_drewN | apply below_drew1) | exact HB.out)⟩
                        · replace c80 := Bool.eq_false_iff.mpr c80
                          subst c80
                          have H1 : ((ieee_Round.f kj75 false t413 0 false).bind fun bt420 => ((ieee_Integral.f a0).bind fun t422 => ((ieee_Abs.f a0).bind fun t423 => (if (t422 != (bt420.1 == t423)) = true then (some false) else ((ieee_Abs.f a0).bind fun t424 => (if bt420.1 = t424 then ((nat_ToUint.f kj75 t413).bind fun bt425 => (if bt425.2 = true then (if bt425.1 > 9223372036854775808 then (if t418 = 41 then (some (t417 == 0)) else (some false)) else (if bt425.1 = 9223372036854775808 then (if t412 = true then (if t418 = 0 then (if (IntKind.u64.wrap (t417)) = (IntKind.u64.wrap (-bt425.1)) then (some true) else (some false)) else (some false)) else (if t418 = 41 then (some (t417 == 0)) else (some false))) else (if t418 = 0 then (if t412 = true then (if (IntKind.u64.wrap (t417)) = (IntKind.u64.wrap (-bt425.1)) then (some true) else (some false)) else (some ((IntKind.u64.wrap (t417)) == bt425.1))) else (some false)))) else (if t418 = 41 then (some (t417 == 0)) else (some false)))) else ((nat_Add.f kj75 t413 (([1] : List Int))).bind fun bt430 => ((ieee_Round.f kj75 false bt430.1 0 false).bind fun bt434 => ((ieee_Abs.f a0).bind fun t436 => ((ieee_Compare.f bt420.1 t436).bind fun bt437 => ((ieee_Abs.f a0).bind fun t439 => ((ieee_Compare.f t439 bt434.1).bind fun bt440 => (if bt430.2 = 0 then (if bt437.1 = (-1) then (abacuslaw04_IeeeWhole.j4 kj75 t412 t413 t417 t418 (bt440.1 != (-1))) else (abacuslaw04_IeeeWhole.j4 kj75 t412 t413 t417 t418 true)) else (abacuslaw04_IeeeWhole.j4 kj75 t412 t413 t417 t418 true)))))))))))))) = some r := by rw [if_neg (show ¬ (false = true) by decide)] at H; exact H
                          clear H
                          have H := H1
                          clear H1
                          replace H := Option.bind_eq_some_iff.mp H
                          obtain ⟨⟨t420, t421⟩, A810, H⟩ := H
                          replace H : ((ieee_Integral.f a0).bind fun t422 => ((ieee_Abs.f a0).bind fun t423 => (if (t422 != (t420 == t423)) = true then (some false) else ((ieee_Abs.f a0).bind fun t424 => (if t420 = t424 then ((nat_ToUint.f kj75 t413).bind fun bt425 => (if bt425.2 = true then (if bt425.1 > 9223372036854775808 then (if t418 = 41 then (some (t417 == 0)) else (some false)) else (if bt425.1 = 9223372036854775808 then (if t412 = true then (if t418 = 0 then (if (IntKind.u64.wrap (t417)) = (IntKind.u64.wrap (-bt425.1)) then (some true) else (some false)) else (some false)) else (if t418 = 41 then (some (t417 == 0)) else (some false))) else (if t418 = 0 then (if t412 = true then (if (IntKind.u64.wrap (t417)) = (IntKind.u64.wrap (-bt425.1)) then (some true) else (some false)) else (some ((IntKind.u64.wrap (t417)) == bt425.1))) else (some false)))) else (if t418 = 41 then (some (t417 == 0)) else (some false)))) else ((nat_Add.f kj75 t413 (([1] : List Int))).bind fun bt430 => ((ieee_Round.f kj75 false bt430.1 0 false).bind fun bt434 => ((ieee_Abs.f a0).bind fun t436 => ((ieee_Compare.f t420 t436).bind fun bt437 => ((ieee_Abs.f a0).bind fun t439 => ((ieee_Compare.f t439 bt434.1).bind fun bt440 => (if bt430.2 = 0 then (if bt437.1 = (-1) then (abacuslaw04_IeeeWhole.j4 kj75 t412 t413 t417 t418 (bt440.1 != (-1))) else (abacuslaw04_IeeeWhole.j4 kj75 t412 t413 t417 t418 true)) else (abacuslaw04_IeeeWhole.j4 kj75 t412 t413 t417 t418 true))))))))))))) = some r := H
                          have A81 := Aside0.mk A810
                          clear A810
                          replace H := Option.bind_eq_some_iff.mp H
                          obtain ⟨t422, A820, H⟩ := H
                          replace H : ((ieee_Abs.f a0).bind fun t423 => (if (t422 != (t420 == t423)) = true then (some false) else ((ieee_Abs.f a0).bind fun t424 => (if t420 = t424 then ((nat_ToUint.f kj75 t413).bind fun bt425 => (if bt425.2 = true then (if bt425.1 > 9223372036854775808 then (if t418 = 41 then (some (t417 == 0)) else (some false)) else (if bt425.1 = 9223372036854775808 then (if t412 = true then (if t418 = 0 then (if (IntKind.u64.wrap (t417)) = (IntKind.u64.wrap (-bt425.1)) then (some true) else (some false)) else (some false)) else (if t418 = 41 then (some (t417 == 0)) else (some false))) else (if t418 = 0 then (if t412 = true then (if (IntKind.u64.wrap (t417)) = (IntKind.u64.wrap (-bt425.1)) then (some true) else (some false)) else (some ((IntKind.u64.wrap (t417)) == bt425.1))) else (some false)))) else (if t418 = 41 then (some (t417 == 0)) else (some false)))) else ((nat_Add.f kj75 t413 (([1] : List Int))).bind fun bt430 => ((ieee_Round.f kj75 false bt430.1 0 false).bind fun bt434 => ((ieee_Abs.f a0).bind fun t436 => ((ieee_Compare.f t420 t436).bind fun bt437 => ((ieee_Abs.f a0).bind fun t439 => ((ieee_Compare.f t439 bt434.1).bind fun bt440 => (if bt430.2 = 0 then (if bt437.1 = (-1) then (abacuslaw04_IeeeWhole.j4 kj75 t412 t413 t417 t418 (bt440.1 != (-1))) else (abacuslaw04_IeeeWhole.j4 kj75 t412 t413 t417 t418 true)) else (abacuslaw04_IeeeWhole.j4 kj75 t412 t413 t417 t418 true)))))))))))) = some r := H
                          have A82 := Aside0.mk A820
                          clear A820
                          replace H := Option.bind_eq_some_iff.mp H
                          obtain ⟨t423, A830, H⟩ := H
                          replace H : (if (t422 != (t420 == t423)) = true then (some false) else ((ieee_Abs.f a0).bind fun t424 => (if t420 = t424 then ((nat_ToUint.f kj75 t413).bind fun bt425 => (if bt425.2 = true then (if bt425.1 > 9223372036854775808 then (if t418 = 41 then (some (t417 == 0)) else (some false)) else (if bt425.1 = 9223372036854775808 then (if t412 = true then (if t418 = 0 then (if (IntKind.u64.wrap (t417)) = (IntKind.u64.wrap (-bt425.1)) then (some true) else (some false)) else (some false)) else (if t418 = 41 then (some (t417 == 0)) else (some false))) else (if t418 = 0 then (if t412 = true then (if (IntKind.u64.wrap (t417)) = (IntKind.u64.wrap (-bt425.1)) then (some true) else (some false)) else (some ((IntKind.u64.wrap (t417)) == bt425.1))) else (some false)))) else (if t418 = 41 then (some (t417 == 0)) else (some false)))) else ((nat_Add.f kj75 t413 (([1] : List Int))).bind fun bt430 => ((ieee_Round.f kj75 false bt430.1 0 false).bind fun bt434 => ((ieee_Abs.f a0).bind fun t436 => ((ieee_Compare.f t420 t436).bind fun bt437 => ((ieee_Abs.f a0).bind fun t439 => ((ieee_Compare.f t439 bt434.1).bind fun bt440 => (if bt430.2 = 0 then (if bt437.1 = (-1) then (abacuslaw04_IeeeWhole.j4 kj75 t412 t413 t417 t418 (bt440.1 != (-1))) else (abacuslaw04_IeeeWhole.j4 kj75 t412 t413 t417 t418 true)) else (abacuslaw04_IeeeWhole.j4 kj75 t412 t413 t417 t418 true))))))))))) = some r := H
                          have A83 := Aside0.mk A830
                          clear A830
                          by_cases c84 : (t422 != (t420 == t423)) = true
                          · rw [if_pos c84] at H
                            have c84b0 : (t422 != (t420 == t423)) = true := c84
                            (try (have c84b1 : decide (t422 = (t420 == t423)) = false := by simpa using c84))
                            (try (have c84b2 : (t422 == (t420 == t423)) = false := by simpa using c84))
                            (try (have c84b3 : ¬ (t422 = (t420 == t423)) := by simpa using c84))
                            clear c84
                            as_aux_lemma =>
                              obtain rfl := Option.some.inj H
                              obtain ⟨Ao85, co85, eo85⟩ := Kd.V_slice HO_8.out
                              subst eo85
                              go_wp2_with (first | ((with_reducible refine gate_callee (f := 15) rfl ?_); refine goesL_ (some 123) rfl rfl Tryd.func15 (by kernel_rfl) rfl #[.bool false, .slice Ao85 t413.length co85, .int .i64 0, .bool false] rfl (by (try simp only [List.map_toArray, List.map_cons, List.map_nil]); first | done | rfl | (simp only [List.length_drop, List.length_take]; rfl) | (simp only [gt_iff_lt, Int.natCast_pos]; done) | (simp only [gt_iff_lt, Int.natCast_pos]; rfl)) ?_; (with_reducible refine (ieee_Round.calls kj75 false _ _ t413 0 false t420 t421 _ ?side3 ?side1 ?side2 A81.out).mono ?_); (case side1 => repeat (first | exact (Kd.V_reads' HO_8.out).2.2 | (with_reducible refine Kd.C_alloc ?_ _) | (with_reducible refine Kd.C_drewN ?_ _) | (with_reducible refine Kd.C_drew ?_))); (case side2 => exact (Kd.V_reads' HO_8.out).2.1); (case side3 => repeat (first | exact (Kd.C_below HT.out HB.out) | (with_reducible refine Kd.C_alloc ?_ _) | (with_reducible refine Kd.C_drewN ?_ _) | (with_reducible refine Kd.C_drew ?_))); rintro e w86 ⟨rfl, hb⟩; refine ⟨_, rfl, ?_⟩; have n0_ := Aside0.mk (Kd.V_below (by (with_reducible repeat (first | apply Kd.V_alloc | apply Kd.V_drewN | apply Kd.V_drew)); exact HO_8.out) hb); have n1_ := Aside0.mk (below_step (by repeat (first | (with_reducible first | exact HB.out | apply below_alloc | apply pw_below_drewN | apply below_drew1) | exact HB.out)) hb); clear HO_8; clear HB; have HO_8 := n0_; have HB := n1_; clear n0_ n1_; (try clear hb); (try clear hb2); (try clear hk); (try clear hi)) | ((with_reducible refine gate_callee (f := 34) rfl ?_); refine goesL_ (some 127) rfl rfl Tryd.func34 (by kernel_rfl) rfl #[.int .u64 a0] rfl (by (try simp only [List.map_toArray, List.map_cons, List.map_nil]); first | done | rfl | (simp only [List.length_drop, List.length_take]; rfl) | (simp only [gt_iff_lt, Int.natCast_pos]; done) | (simp only [gt_iff_lt, Int.natCast_pos]; rfl)) ?_; (with_reducible refine (ieee_Integral.calls a0 t422 _ ?side1 A82.out).mono ?_); (case side1 => repeat (first | exact (Kd.C_below HT.out HB.out) | (with_reducible refine Kd.C_alloc ?_ _) | (with_reducible refine Kd.C_drewN ?_ _) | (with_reducible refine Kd.C_drew ?_))); rintro e w87 ⟨rfl, hb⟩; refine ⟨_, rfl, ?_⟩; have n0_ := Aside0.mk (Kd.V_below (by (with_reducible repeat (first | apply Kd.V_alloc | apply Kd.V_drewN | apply Kd.V_drew)); exact HO_8.out) hb); have n1_ := Aside0.mk (below_step (by repeat (first | (with_reducible first | exact HB.out | apply below_alloc | apply pw_below_drewN | apply below_drew1) | exact HB.out)) hb); clear HO_8; clear HB; have HO_8 := n0_; have HB := n1_; clear n0_ n1_; (try clear hb); (try clear hb2); (try clear hk); (try clear hi)) | ((with_reducible refine gate_callee (f := 20) rfl ?_); refine goesL_ (some 130) rfl rfl Tryd.func20 (by kernel_rfl) rfl #[.int .u64 a0] rfl (by (try simp only [List.map_toArray, List.map_cons, List.map_nil]); first | done | rfl | (simp only [List.length_drop, List.length_take]; rfl) | (simp only [gt_iff_lt, Int.natCast_pos]; done) | (simp only [gt_iff_lt, Int.natCast_pos]; rfl)) ?_; (with_reducible refine (ieee_Abs.calls a0 t423 _ A83.out).mono ?_); rintro e w' ⟨rfl, ⟨nd, rfl⟩⟩; refine ⟨_, rfl, ?_⟩))
                              go_ret
                              exact ⟨by first | rfl | (simp [errW_none, errW_some] <;> rfl) | (simp [*, errW_none, errW_some] <;> rfl), by repeat (first | (with_reducible first | exact HB.out | apply below_alloc | apply pw_below_drewN | apply below_drew1) | exact HB.out)⟩
                          · rw [if_neg c84] at H
                            have c84b0 : (t422 != (t420 == t423)) = false := by simpa using c84
                            (try (have c84b1 : decide (t422 = (t420 == t423)) = true := by simpa using c84))
                            (try (have c84b2 : (t422 == (t420 == t423)) = true := by simpa using c84))
                            clear c84
                            replace H := Option.bind_eq_some_iff.mp H
                            obtain ⟨t424, A880, H⟩ := H
                            replace H : (if t420 = t424 then ((nat_ToUint.f kj75 t413).bind fun bt425 => (if bt425.2 = true then (if bt425.1 > 9223372036854775808 then (if t418 = 41 then (some (t417 == 0)) else (some false)) else (if bt425.1 = 9223372036854775808 then (if t412 = true then (if t418 = 0 then (if (IntKind.u64.wrap (t417)) = (IntKind.u64.wrap (-bt425.1)) then (some true) else (some false)) else (some false)) else (if t418 = 41 then (some (t417 == 0)) else (some false))) else (if t418 = 0 then (if t412 = true then (if (IntKind.u64.wrap (t417)) = (IntKind.u64.wrap (-bt425.1)) then (some true) else (some false)) else (some ((IntKind.u64.wrap (t417)) == bt425.1))) else (some false)))) else (if t418 = 41 then (some (t417 == 0)) else (some false)))) else ((nat_Add.f kj75 t413 (([1] : List Int))).bind fun bt430 => ((ieee_Round.f kj75 false bt430.1 0 false).bind fun bt434 => ((ieee_Abs.f a0).bind fun t436 => ((ieee_Compare.f t420 t436).bind fun bt437 => ((ieee_Abs.f a0).bind fun t439 => ((ieee_Compare.f t439 bt434.1).bind fun bt440 => (if bt430.2 = 0 then (if bt437.1 = (-1) then (abacuslaw04_IeeeWhole.j4 kj75 t412 t413 t417 t418 (bt440.1 != (-1))) else (abacuslaw04_IeeeWhole.j4 kj75 t412 t413 t417 t418 true)) else (abacuslaw04_IeeeWhole.j4 kj75 t412 t413 t417 t418 true))))))))) = some r := H
                            have A88 := Aside0.mk A880
                            clear A880
                            by_cases c89 : t420 = t424
                            · rw [if_pos c89] at H
                              have c89b0 : (t420 == t424) = true := beq_iff_eq.mpr c89
                              have c89b1 : (t420 != t424) = false := bne_eq_false_iff_eq.mpr c89
                              clear c89
                              replace H := Option.bind_eq_some_iff.mp H
                              obtain ⟨⟨t425, t426⟩, A900, H⟩ := H
                              replace H : (if t426 = true then (if t425 > 9223372036854775808 then (if t418 = 41 then (some (t417 == 0)) else (some false)) else (if t425 = 9223372036854775808 then (if t412 = true then (if t418 = 0 then (if (IntKind.u64.wrap (t417)) = (IntKind.u64.wrap (-t425)) then (some true) else (some false)) else (some false)) else (if t418 = 41 then (some (t417 == 0)) else (some false))) else (if t418 = 0 then (if t412 = true then (if (IntKind.u64.wrap (t417)) = (IntKind.u64.wrap (-t425)) then (some true) else (some false)) else (some ((IntKind.u64.wrap (t417)) == t425))) else (some false)))) else (if t418 = 41 then (some (t417 == 0)) else (some false))) = some r := H
                              have A90 := Aside0.mk A900
                              clear A900
                              by_cases c91 : t426 = true
                              · subst c91
                                have H1 : (if t425 > 9223372036854775808 then (if t418 = 41 then (some (t417 == 0)) else (some false)) else (if t425 = 9223372036854775808 then (if t412 = true then (if t418 = 0 then (if (IntKind.u64.wrap (t417)) = (IntKind.u64.wrap (-t425)) then (some true) else (some false)) else (some false)) else (if t418 = 41 then (some (t417 == 0)) else (some false))) else (if t418 = 0 then (if t412 = true then (if (IntKind.u64.wrap (t417)) = (IntKind.u64.wrap (-t425)) then (some true) else (some false)) else (some ((IntKind.u64.wrap (t417)) == t425))) else (some false)))) = some r := by rw [if_pos rfl] at H; exact H
                                clear H
                                have H := H1
                                clear H1
                                by_cases c92 : t425 > 9223372036854775808
                                · rw [if_pos c92] at H
                                  have c92b0 : decide (9223372036854775808 < t425) = true := decide_eq_true c92
                                  clear c92
                                  by_cases c93 : t418 = 41
                                  · rw [if_pos c93] at H
                                    have c93b0 : (t418 == 41) = true := beq_iff_eq.mpr c93
                                    have c93b1 : (t418 != 41) = false := bne_eq_false_iff_eq.mpr c93
                                    clear c93
                                    as_aux_lemma =>
                                      obtain rfl := Option.some.inj H
                                      obtain ⟨Ao94, co94, eo94⟩ := Kd.V_slice HO_8.out
                                      subst eo94
                                      go_wp2_with (first | ((with_reducible refine gate_callee (f := 15) rfl ?_); refine goesL_ (some 123) rfl rfl Tryd.func15 (by kernel_rfl) rfl #[.bool false, .slice Ao94 t413.length co94, .int .i64 0, .bool false] rfl (by (try simp only [List.map_toArray, List.map_cons, List.map_nil]); first | done | rfl | (simp only [List.length_drop, List.length_take]; rfl) | (simp only [gt_iff_lt, Int.natCast_pos]; done) | (simp only [gt_iff_lt, Int.natCast_pos]; rfl)) ?_; (with_reducible refine (ieee_Round.calls kj75 false _ _ t413 0 false t420 t421 _ ?side3 ?side1 ?side2 A81.out).mono ?_); (case side1 => repeat (first | exact (Kd.V_reads' HO_8.out).2.2 | (with_reducible refine Kd.C_alloc ?_ _) | (with_reducible refine Kd.C_drewN ?_ _) | (with_reducible refine Kd.C_drew ?_))); (case side2 => exact (Kd.V_reads' HO_8.out).2.1); (case side3 => repeat (first | exact (Kd.C_below HT.out HB.out) | (with_reducible refine Kd.C_alloc ?_ _) | (with_reducible refine Kd.C_drewN ?_ _) | (with_reducible refine Kd.C_drew ?_))); rintro e w95 ⟨rfl, hb⟩; refine ⟨_, rfl, ?_⟩; have n0_ := Aside0.mk (Kd.V_below (by (with_reducible repeat (first | apply Kd.V_alloc | apply Kd.V_drewN | apply Kd.V_drew)); exact HO_8.out) hb); have n1_ := Aside0.mk (below_step (by repeat (first | (with_reducible first | exact HB.out | apply below_alloc | apply pw_below_drewN | apply below_drew1) | exact HB.out)) hb); clear HO_8; clear HB; have HO_8 := n0_; have HB := n1_; clear n0_ n1_; (try clear hb); (try clear hb2); (try clear hk); (try clear hi)) | ((with_reducible refine gate_callee (f := 34) rfl ?_); refine goesL_ (some 127) rfl rfl Tryd.func34 (by kernel_rfl) rfl #[.int .u64 a0] rfl (by (try simp only [List.map_toArray, List.map_cons, List.map_nil]); first | done | rfl | (simp only [List.length_drop, List.length_take]; rfl) | (simp only [gt_iff_lt, Int.natCast_pos]; done) | (simp only [gt_iff_lt, Int.natCast_pos]; rfl)) ?_; (with_reducible refine (ieee_Integral.calls a0 t422 _ ?side1 A82.out).mono ?_); (case side1 => repeat (first | exact (Kd.C_below HT.out HB.out) | (with_reducible refine Kd.C_alloc ?_ _) | (with_reducible refine Kd.C_drewN ?_ _) | (with_reducible refine Kd.C_drew ?_))); rintro e w96 ⟨rfl, hb⟩; refine ⟨_, rfl, ?_⟩; have n0_ := Aside0.mk (Kd.V_below (by (with_reducible repeat (first | apply Kd.V_alloc | apply Kd.V_drewN | apply Kd.V_drew)); exact HO_8.out) hb); have n1_ := Aside0.mk (below_step (by repeat (first | (with_reducible first | exact HB.out | apply below_alloc | apply pw_below_drewN | apply below_drew1) | exact HB.out)) hb); clear HO_8; clear HB; have HO_8 := n0_; have HB := n1_; clear n0_ n1_; (try clear hb); (try clear hb2); (try clear hk); (try clear hi)) | ((with_reducible refine gate_callee (f := 20) rfl ?_); refine goesL_ (some 130) rfl rfl Tryd.func20 (by kernel_rfl) rfl #[.int .u64 a0] rfl (by (try simp only [List.map_toArray, List.map_cons, List.map_nil]); first | done | rfl | (simp only [List.length_drop, List.length_take]; rfl) | (simp only [gt_iff_lt, Int.natCast_pos]; done) | (simp only [gt_iff_lt, Int.natCast_pos]; rfl)) ?_; (with_reducible refine (ieee_Abs.calls a0 t423 _ A83.out).mono ?_); rintro e w' ⟨rfl, ⟨nd, rfl⟩⟩; refine ⟨_, rfl, ?_⟩) | ((with_reducible refine gate_callee (f := 20) rfl ?_); refine goesL_ (some 135) rfl rfl Tryd.func20 (by kernel_rfl) rfl #[.int .u64 a0] rfl (by (try simp only [List.map_toArray, List.map_cons, List.map_nil]); first | done | rfl | (simp only [List.length_drop, List.length_take]; rfl) | (simp only [gt_iff_lt, Int.natCast_pos]; done) | (simp only [gt_iff_lt, Int.natCast_pos]; rfl)) ?_; (with_reducible refine (ieee_Abs.calls a0 t424 _ A88.out).mono ?_); rintro e w' ⟨rfl, ⟨nd, rfl⟩⟩; refine ⟨_, rfl, ?_⟩) | ((with_reducible refine gate_callee (f := 38) rfl ?_); refine goesL_ (some 174) rfl rfl Tryd.func38 (by kernel_rfl) rfl #[.slice Ao94 t413.length co94] rfl (by (try simp only [List.map_toArray, List.map_cons, List.map_nil]); first | done | rfl | (simp only [List.length_drop, List.length_take]; rfl) | (simp only [gt_iff_lt, Int.natCast_pos]; done) | (simp only [gt_iff_lt, Int.natCast_pos]; rfl)) ?_; (with_reducible refine (nat_ToUint.calls kj75 _ _ t413 t425 true _ ?side1 ?side2 A90.out).mono ?_); (case side1 => repeat (first | exact (Kd.V_reads' HO_8.out).2.2 | (with_reducible refine Kd.C_alloc ?_ _) | (with_reducible refine Kd.C_drewN ?_ _) | (with_reducible refine Kd.C_drew ?_))); (case side2 => exact (Kd.V_reads' HO_8.out).2.1); rintro e w' ⟨rfl, ⟨nd, rfl⟩⟩; refine ⟨_, rfl, ?_⟩))
                                      go_ret
                                      exact ⟨by first | rfl | (have e_ := Option.some.inj (A83.out.symm.trans A88.out); cases e_; rfl) | (simp [errW_none, errW_some] <;> rfl) | (simp [*, errW_none, errW_some] <;> rfl), by repeat (first | (with_reducible first | exact HB.out | apply below_alloc | apply pw_below_drewN | apply below_drew1) | exact HB.out)⟩
                                  · rw [if_neg c93] at H
                                    have c93b0 : (t418 == 41) = false := beq_eq_false_iff_ne.mpr c93
                                    have c93b1 : (t418 != 41) = true := bne_iff_ne.mpr c93
                                    as_aux_lemma =>
                                      obtain rfl := Option.some.inj H
                                      obtain ⟨Ao97, co97, eo97⟩ := Kd.V_slice HO_8.out
                                      subst eo97
                                      go_wp2_with (first | ((with_reducible refine gate_callee (f := 15) rfl ?_); refine goesL_ (some 123) rfl rfl Tryd.func15 (by kernel_rfl) rfl #[.bool false, .slice Ao97 t413.length co97, .int .i64 0, .bool false] rfl (by (try simp only [List.map_toArray, List.map_cons, List.map_nil]); first | done | rfl | (simp only [List.length_drop, List.length_take]; rfl) | (simp only [gt_iff_lt, Int.natCast_pos]; done) | (simp only [gt_iff_lt, Int.natCast_pos]; rfl)) ?_; (with_reducible refine (ieee_Round.calls kj75 false _ _ t413 0 false t420 t421 _ ?side3 ?side1 ?side2 A81.out).mono ?_); (case side1 => repeat (first | exact (Kd.V_reads' HO_8.out).2.2 | (with_reducible refine Kd.C_alloc ?_ _) | (with_reducible refine Kd.C_drewN ?_ _) | (with_reducible refine Kd.C_drew ?_))); (case side2 => exact (Kd.V_reads' HO_8.out).2.1); (case side3 => repeat (first | exact (Kd.C_below HT.out HB.out) | (with_reducible refine Kd.C_alloc ?_ _) | (with_reducible refine Kd.C_drewN ?_ _) | (with_reducible refine Kd.C_drew ?_))); rintro e w98 ⟨rfl, hb⟩; refine ⟨_, rfl, ?_⟩; have n0_ := Aside0.mk (Kd.V_below (by (with_reducible repeat (first | apply Kd.V_alloc | apply Kd.V_drewN | apply Kd.V_drew)); exact HO_8.out) hb); have n1_ := Aside0.mk (below_step (by repeat (first | (with_reducible first | exact HB.out | apply below_alloc | apply pw_below_drewN | apply below_drew1) | exact HB.out)) hb); clear HO_8; clear HB; have HO_8 := n0_; have HB := n1_; clear n0_ n1_; (try clear hb); (try clear hb2); (try clear hk); (try clear hi)) | ((with_reducible refine gate_callee (f := 34) rfl ?_); refine goesL_ (some 127) rfl rfl Tryd.func34 (by kernel_rfl) rfl #[.int .u64 a0] rfl (by (try simp only [List.map_toArray, List.map_cons, List.map_nil]); first | done | rfl | (simp only [List.length_drop, List.length_take]; rfl) | (simp only [gt_iff_lt, Int.natCast_pos]; done) | (simp only [gt_iff_lt, Int.natCast_pos]; rfl)) ?_; (with_reducible refine (ieee_Integral.calls a0 t422 _ ?side1 A82.out).mono ?_); (case side1 => repeat (first | exact (Kd.C_below HT.out HB.out) | (with_reducible refine Kd.C_alloc ?_ _) | (with_reducible refine Kd.C_drewN ?_ _) | (with_reducible refine Kd.C_drew ?_))); rintro e w99 ⟨rfl, hb⟩; refine ⟨_, rfl, ?_⟩; have n0_ := Aside0.mk (Kd.V_below (by (with_reducible repeat (first | apply Kd.V_alloc | apply Kd.V_drewN | apply Kd.V_drew)); exact HO_8.out) hb); have n1_ := Aside0.mk (below_step (by repeat (first | (with_reducible first | exact HB.out | apply below_alloc | apply pw_below_drewN | apply below_drew1) | exact HB.out)) hb); clear HO_8; clear HB; have HO_8 := n0_; have HB := n1_; clear n0_ n1_; (try clear hb); (try clear hb2); (try clear hk); (try clear hi)) | ((with_reducible refine gate_callee (f := 20) rfl ?_); refine goesL_ (some 130) rfl rfl Tryd.func20 (by kernel_rfl) rfl #[.int .u64 a0] rfl (by (try simp only [List.map_toArray, List.map_cons, List.map_nil]); first | done | rfl | (simp only [List.length_drop, List.length_take]; rfl) | (simp only [gt_iff_lt, Int.natCast_pos]; done) | (simp only [gt_iff_lt, Int.natCast_pos]; rfl)) ?_; (with_reducible refine (ieee_Abs.calls a0 t423 _ A83.out).mono ?_); rintro e w' ⟨rfl, ⟨nd, rfl⟩⟩; refine ⟨_, rfl, ?_⟩) | ((with_reducible refine gate_callee (f := 20) rfl ?_); refine goesL_ (some 135) rfl rfl Tryd.func20 (by kernel_rfl) rfl #[.int .u64 a0] rfl (by (try simp only [List.map_toArray, List.map_cons, List.map_nil]); first | done | rfl | (simp only [List.length_drop, List.length_take]; rfl) | (simp only [gt_iff_lt, Int.natCast_pos]; done) | (simp only [gt_iff_lt, Int.natCast_pos]; rfl)) ?_; (with_reducible refine (ieee_Abs.calls a0 t424 _ A88.out).mono ?_); rintro e w' ⟨rfl, ⟨nd, rfl⟩⟩; refine ⟨_, rfl, ?_⟩) | ((with_reducible refine gate_callee (f := 38) rfl ?_); refine goesL_ (some 174) rfl rfl Tryd.func38 (by kernel_rfl) rfl #[.slice Ao97 t413.length co97] rfl (by (try simp only [List.map_toArray, List.map_cons, List.map_nil]); first | done | rfl | (simp only [List.length_drop, List.length_take]; rfl) | (simp only [gt_iff_lt, Int.natCast_pos]; done) | (simp only [gt_iff_lt, Int.natCast_pos]; rfl)) ?_; (with_reducible refine (nat_ToUint.calls kj75 _ _ t413 t425 true _ ?side1 ?side2 A90.out).mono ?_); (case side1 => repeat (first | exact (Kd.V_reads' HO_8.out).2.2 | (with_reducible refine Kd.C_alloc ?_ _) | (with_reducible refine Kd.C_drewN ?_ _) | (with_reducible refine Kd.C_drew ?_))); (case side2 => exact (Kd.V_reads' HO_8.out).2.1); rintro e w' ⟨rfl, ⟨nd, rfl⟩⟩; refine ⟨_, rfl, ?_⟩))
                                      go_ret
                                      exact ⟨by first | rfl | (have e_ := Option.some.inj (A83.out.symm.trans A88.out); cases e_; rfl) | (simp [errW_none, errW_some] <;> rfl) | (simp [*, errW_none, errW_some] <;> rfl), by repeat (first | (with_reducible first | exact HB.out | apply below_alloc | apply pw_below_drewN | apply below_drew1) | exact HB.out)⟩
                                · rw [if_neg c92] at H
                                  have c92b0 : decide (9223372036854775808 < t425) = false := decide_eq_false c92
                                  clear c92
                                  by_cases c100 : t425 = 9223372036854775808
                                  · rw [if_pos c100] at H
                                    have c100b0 : (t425 == 9223372036854775808) = true := beq_iff_eq.mpr c100
                                    have c100b1 : (t425 != 9223372036854775808) = false := bne_eq_false_iff_eq.mpr c100
                                    clear c100
                                    by_cases c101 : t412 = true
                                    · subst c101
                                      have H1 : (if t418 = 0 then (if (IntKind.u64.wrap (t417)) = (IntKind.u64.wrap (-t425)) then (some true) else (some false)) else (some false)) = some r := by rw [if_pos rfl] at H; exact H
                                      clear H
                                      have H := H1
                                      clear H1
                                      by_cases c102 : t418 = 0
                                      · rw [if_pos c102] at H
                                        have c102b0 : (t418 == 0) = true := beq_iff_eq.mpr c102
                                        have c102b1 : (t418 != 0) = false := bne_eq_false_iff_eq.mpr c102
                                        clear c102
                                        by_cases c103 : (IntKind.u64.wrap (t417)) = (IntKind.u64.wrap (-t425))
                                        · rw [if_pos c103] at H
                                          have c103b0 : ((IntKind.u64.wrap (t417)) == (IntKind.u64.wrap (-t425))) = true := beq_iff_eq.mpr c103
                                          have c103b1 : ((IntKind.u64.wrap (t417)) != (IntKind.u64.wrap (-t425))) = false := bne_eq_false_iff_eq.mpr c103
                                          clear c103
                                          as_aux_lemma =>
                                            obtain rfl := Option.some.inj H
                                            obtain ⟨Ao104, co104, eo104⟩ := Kd.V_slice HO_8.out
                                            subst eo104
                                            go_wp2_with (first | ((with_reducible refine gate_callee (f := 15) rfl ?_); refine goesL_ (some 123) rfl rfl Tryd.func15 (by kernel_rfl) rfl #[.bool false, .slice Ao104 t413.length co104, .int .i64 0, .bool false] rfl (by (try simp only [List.map_toArray, List.map_cons, List.map_nil]); first | done | rfl | (simp only [List.length_drop, List.length_take]; rfl) | (simp only [gt_iff_lt, Int.natCast_pos]; done) | (simp only [gt_iff_lt, Int.natCast_pos]; rfl)) ?_; (with_reducible refine (ieee_Round.calls kj75 false _ _ t413 0 false t420 t421 _ ?side3 ?side1 ?side2 A81.out).mono ?_); (case side1 => repeat (first | exact (Kd.V_reads' HO_8.out).2.2 | (with_reducible refine Kd.C_alloc ?_ _) | (with_reducible refine Kd.C_drewN ?_ _) | (with_reducible refine Kd.C_drew ?_))); (case side2 => exact (Kd.V_reads' HO_8.out).2.1); (case side3 => repeat (first | exact (Kd.C_below HT.out HB.out) | (with_reducible refine Kd.C_alloc ?_ _) | (with_reducible refine Kd.C_drewN ?_ _) | (with_reducible refine Kd.C_drew ?_))); rintro e w105 ⟨rfl, hb⟩; refine ⟨_, rfl, ?_⟩; have n0_ := Aside0.mk (Kd.V_below (by (with_reducible repeat (first | apply Kd.V_alloc | apply Kd.V_drewN | apply Kd.V_drew)); exact HO_8.out) hb); have n1_ := Aside0.mk (below_step (by repeat (first | (with_reducible first | exact HB.out | apply below_alloc | apply pw_below_drewN | apply below_drew1) | exact HB.out)) hb); clear HO_8; clear HB; have HO_8 := n0_; have HB := n1_; clear n0_ n1_; (try clear hb); (try clear hb2); (try clear hk); (try clear hi)) | ((with_reducible refine gate_callee (f := 34) rfl ?_); refine goesL_ (some 127) rfl rfl Tryd.func34 (by kernel_rfl) rfl #[.int .u64 a0] rfl (by (try simp only [List.map_toArray, List.map_cons, List.map_nil]); first | done | rfl | (simp only [List.length_drop, List.length_take]; rfl) | (simp only [gt_iff_lt, Int.natCast_pos]; done) | (simp only [gt_iff_lt, Int.natCast_pos]; rfl)) ?_; (with_reducible refine (ieee_Integral.calls a0 t422 _ ?side1 A82.out).mono ?_); (case side1 => repeat (first | exact (Kd.C_below HT.out HB.out) | (with_reducible refine Kd.C_alloc ?_ _) | (with_reducible refine Kd.C_drewN ?_ _) | (with_reducible refine Kd.C_drew ?_))); rintro e w106 ⟨rfl, hb⟩; refine ⟨_, rfl, ?_⟩; have n0_ := Aside0.mk (Kd.V_below (by (with_reducible repeat (first | apply Kd.V_alloc | apply Kd.V_drewN | apply Kd.V_drew)); exact HO_8.out) hb); have n1_ := Aside0.mk (below_step (by repeat (first | (with_reducible first | exact HB.out | apply below_alloc | apply pw_below_drewN | apply below_drew1) | exact HB.out)) hb); clear HO_8; clear HB; have HO_8 := n0_; have HB := n1_; clear n0_ n1_; (try clear hb); (try clear hb2); (try clear hk); (try clear hi)) | ((with_reducible refine gate_callee (f := 20) rfl ?_); refine goesL_ (some 130) rfl rfl Tryd.func20 (by kernel_rfl) rfl #[.int .u64 a0] rfl (by (try simp only [List.map_toArray, List.map_cons, List.map_nil]); first | done | rfl | (simp only [List.length_drop, List.length_take]; rfl) | (simp only [gt_iff_lt, Int.natCast_pos]; done) | (simp only [gt_iff_lt, Int.natCast_pos]; rfl)) ?_; (with_reducible refine (ieee_Abs.calls a0 t423 _ A83.out).mono ?_); rintro e w' ⟨rfl, ⟨nd, rfl⟩⟩; refine ⟨_, rfl, ?_⟩) | ((with_reducible refine gate_callee (f := 20) rfl ?_); refine goesL_ (some 135) rfl rfl Tryd.func20 (by kernel_rfl) rfl #[.int .u64 a0] rfl (by (try simp only [List.map_toArray, List.map_cons, List.map_nil]); first | done | rfl | (simp only [List.length_drop, List.length_take]; rfl) | (simp only [gt_iff_lt, Int.natCast_pos]; done) | (simp only [gt_iff_lt, Int.natCast_pos]; rfl)) ?_; (with_reducible refine (ieee_Abs.calls a0 t424 _ A88.out).mono ?_); rintro e w' ⟨rfl, ⟨nd, rfl⟩⟩; refine ⟨_, rfl, ?_⟩) | ((with_reducible refine gate_callee (f := 38) rfl ?_); refine goesL_ (some 174) rfl rfl Tryd.func38 (by kernel_rfl) rfl #[.slice Ao104 t413.length co104] rfl (by (try simp only [List.map_toArray, List.map_cons, List.map_nil]); first | done | rfl | (simp only [List.length_drop, List.length_take]; rfl) | (simp only [gt_iff_lt, Int.natCast_pos]; done) | (simp only [gt_iff_lt, Int.natCast_pos]; rfl)) ?_; (with_reducible refine (nat_ToUint.calls kj75 _ _ t413 t425 true _ ?side1 ?side2 A90.out).mono ?_); (case side1 => repeat (first | exact (Kd.V_reads' HO_8.out).2.2 | (with_reducible refine Kd.C_alloc ?_ _) | (with_reducible refine Kd.C_drewN ?_ _) | (with_reducible refine Kd.C_drew ?_))); (case side2 => exact (Kd.V_reads' HO_8.out).2.1); rintro e w' ⟨rfl, ⟨nd, rfl⟩⟩; refine ⟨_, rfl, ?_⟩))
                                            go_ret
                                            exact ⟨by first | rfl | (have e_ := Option.some.inj (A83.out.symm.trans A88.out); cases e_; rfl) | (simp [errW_none, errW_some] <;> rfl) | (simp [*, errW_none, errW_some] <;> rfl), by repeat (first | (with_reducible first | exact HB.out | apply below_alloc | apply pw_below_drewN | apply below_drew1) | exact HB.out)⟩
                                        · rw [if_neg c103] at H
                                          have c103b0 : ((IntKind.u64.wrap (t417)) == (IntKind.u64.wrap (-t425))) = false := beq_eq_false_iff_ne.mpr c103
                                          have c103b1 : ((IntKind.u64.wrap (t417)) != (IntKind.u64.wrap (-t425))) = true := bne_iff_ne.mpr c103
                                          as_aux_lemma =>
                                            obtain rfl := Option.some.inj H
                                            obtain ⟨Ao107, co107, eo107⟩ := Kd.V_slice HO_8.out
                                            subst eo107
                                            go_wp2_with (first | ((with_reducible refine gate_callee (f := 15) rfl ?_); refine goesL_ (some 123) rfl rfl Tryd.func15 (by kernel_rfl) rfl #[.bool false, .slice Ao107 t413.length co107, .int .i64 0, .bool false] rfl (by (try simp only [List.map_toArray, List.map_cons, List.map_nil]); first | done | rfl | (simp only [List.length_drop, List.length_take]; rfl) | (simp only [gt_iff_lt, Int.natCast_pos]; done) | (simp only [gt_iff_lt, Int.natCast_pos]; rfl)) ?_; (with_reducible refine (ieee_Round.calls kj75 false _ _ t413 0 false t420 t421 _ ?side3 ?side1 ?side2 A81.out).mono ?_); (case side1 => repeat (first | exact (Kd.V_reads' HO_8.out).2.2 | (with_reducible refine Kd.C_alloc ?_ _) | (with_reducible refine Kd.C_drewN ?_ _) | (with_reducible refine Kd.C_drew ?_))); (case side2 => exact (Kd.V_reads' HO_8.out).2.1); (case side3 => repeat (first | exact (Kd.C_below HT.out HB.out) | (with_reducible refine Kd.C_alloc ?_ _) | (with_reducible refine Kd.C_drewN ?_ _) | (with_reducible refine Kd.C_drew ?_))); rintro e w108 ⟨rfl, hb⟩; refine ⟨_, rfl, ?_⟩; have n0_ := Aside0.mk (Kd.V_below (by (with_reducible repeat (first | apply Kd.V_alloc | apply Kd.V_drewN | apply Kd.V_drew)); exact HO_8.out) hb); have n1_ := Aside0.mk (below_step (by repeat (first | (with_reducible first | exact HB.out | apply below_alloc | apply pw_below_drewN | apply below_drew1) | exact HB.out)) hb); clear HO_8; clear HB; have HO_8 := n0_; have HB := n1_; clear n0_ n1_; (try clear hb); (try clear hb2); (try clear hk); (try clear hi)) | ((with_reducible refine gate_callee (f := 34) rfl ?_); refine goesL_ (some 127) rfl rfl Tryd.func34 (by kernel_rfl) rfl #[.int .u64 a0] rfl (by (try simp only [List.map_toArray, List.map_cons, List.map_nil]); first | done | rfl | (simp only [List.length_drop, List.length_take]; rfl) | (simp only [gt_iff_lt, Int.natCast_pos]; done) | (simp only [gt_iff_lt, Int.natCast_pos]; rfl)) ?_; (with_reducible refine (ieee_Integral.calls a0 t422 _ ?side1 A82.out).mono ?_); (case side1 => repeat (first | exact (Kd.C_below HT.out HB.out) | (with_reducible refine Kd.C_alloc ?_ _) | (with_reducible refine Kd.C_drewN ?_ _) | (with_reducible refine Kd.C_drew ?_))); rintro e w109 ⟨rfl, hb⟩; refine ⟨_, rfl, ?_⟩; have n0_ := Aside0.mk (Kd.V_below (by (with_reducible repeat (first | apply Kd.V_alloc | apply Kd.V_drewN | apply Kd.V_drew)); exact HO_8.out) hb); have n1_ := Aside0.mk (below_step (by repeat (first | (with_reducible first | exact HB.out | apply below_alloc | apply pw_below_drewN | apply below_drew1) | exact HB.out)) hb); clear HO_8; clear HB; have HO_8 := n0_; have HB := n1_; clear n0_ n1_; (try clear hb); (try clear hb2); (try clear hk); (try clear hi)) | ((with_reducible refine gate_callee (f := 20) rfl ?_); refine goesL_ (some 130) rfl rfl Tryd.func20 (by kernel_rfl) rfl #[.int .u64 a0] rfl (by (try simp only [List.map_toArray, List.map_cons, List.map_nil]); first | done | rfl | (simp only [List.length_drop, List.length_take]; rfl) | (simp only [gt_iff_lt, Int.natCast_pos]; done) | (simp only [gt_iff_lt, Int.natCast_pos]; rfl)) ?_; (with_reducible refine (ieee_Abs.calls a0 t423 _ A83.out).mono ?_); rintro e w' ⟨rfl, ⟨nd, rfl⟩⟩; refine ⟨_, rfl, ?_⟩) | ((with_reducible refine gate_callee (f := 20) rfl ?_); refine goesL_ (some 135) rfl rfl Tryd.func20 (by kernel_rfl) rfl #[.int .u64 a0] rfl (by (try simp only [List.map_toArray, List.map_cons, List.map_nil]); first | done | rfl | (simp only [List.length_drop, List.length_take]; rfl) | (simp only [gt_iff_lt, Int.natCast_pos]; done) | (simp only [gt_iff_lt, Int.natCast_pos]; rfl)) ?_; (with_reducible refine (ieee_Abs.calls a0 t424 _ A88.out).mono ?_); rintro e w' ⟨rfl, ⟨nd, rfl⟩⟩; refine ⟨_, rfl, ?_⟩) | ((with_reducible refine gate_callee (f := 38) rfl ?_); refine goesL_ (some 174) rfl rfl Tryd.func38 (by kernel_rfl) rfl #[.slice Ao107 t413.length co107] rfl (by (try simp only [List.map_toArray, List.map_cons, List.map_nil]); first | done | rfl | (simp only [List.length_drop, List.length_take]; rfl) | (simp only [gt_iff_lt, Int.natCast_pos]; done) | (simp only [gt_iff_lt, Int.natCast_pos]; rfl)) ?_; (with_reducible refine (nat_ToUint.calls kj75 _ _ t413 t425 true _ ?side1 ?side2 A90.out).mono ?_); (case side1 => repeat (first | exact (Kd.V_reads' HO_8.out).2.2 | (with_reducible refine Kd.C_alloc ?_ _) | (with_reducible refine Kd.C_drewN ?_ _) | (with_reducible refine Kd.C_drew ?_))); (case side2 => exact (Kd.V_reads' HO_8.out).2.1); rintro e w' ⟨rfl, ⟨nd, rfl⟩⟩; refine ⟨_, rfl, ?_⟩))
                                            go_ret
                                            exact ⟨by first | rfl | (have e_ := Option.some.inj (A83.out.symm.trans A88.out); cases e_; rfl) | (simp [errW_none, errW_some] <;> rfl) | (simp [*, errW_none, errW_some] <;> rfl), by repeat (first | (with_reducible first | exact HB.out | apply below_alloc | apply pw_below_drewN | apply below_drew1) | exact HB.out)⟩
                                      · rw [if_neg c102] at H
                                        have c102b0 : (t418 == 0) = false := beq_eq_false_iff_ne.mpr c102
                                        have c102b1 : (t418 != 0) = true := bne_iff_ne.mpr c102
                                        as_aux_lemma =>
                                          obtain rfl := Option.some.inj H
                                          obtain ⟨Ao110, co110, eo110⟩ := Kd.V_slice HO_8.out
                                          subst eo110
                                          go_wp2_with (first | ((with_reducible refine gate_callee (f := 15) rfl ?_); refine goesL_ (some 123) rfl rfl Tryd.func15 (by kernel_rfl) rfl #[.bool false, .slice Ao110 t413.length co110, .int .i64 0, .bool false] rfl (by (try simp only [List.map_toArray, List.map_cons, List.map_nil]); first | done | rfl | (simp only [List.length_drop, List.length_take]; rfl) | (simp only [gt_iff_lt, Int.natCast_pos]; done) | (simp only [gt_iff_lt, Int.natCast_pos]; rfl)) ?_; (with_reducible refine (ieee_Round.calls kj75 false _ _ t413 0 false t420 t421 _ ?side3 ?side1 ?side2 A81.out).mono ?_); (case side1 => repeat (first | exact (Kd.V_reads' HO_8.out).2.2 | (with_reducible refine Kd.C_alloc ?_ _) | (with_reducible refine Kd.C_drewN ?_ _) | (with_reducible refine Kd.C_drew ?_))); (case side2 => exact (Kd.V_reads' HO_8.out).2.1); (case side3 => repeat (first | exact (Kd.C_below HT.out HB.out) | (with_reducible refine Kd.C_alloc ?_ _) | (with_reducible refine Kd.C_drewN ?_ _) | (with_reducible refine Kd.C_drew ?_))); rintro e w111 ⟨rfl, hb⟩; refine ⟨_, rfl, ?_⟩; have n0_ := Aside0.mk (Kd.V_below (by (with_reducible repeat (first | apply Kd.V_alloc | apply Kd.V_drewN | apply Kd.V_drew)); exact HO_8.out) hb); have n1_ := Aside0.mk (below_step (by repeat (first | (with_reducible first | exact HB.out | apply below_alloc | apply pw_below_drewN | apply below_drew1) | exact HB.out)) hb); clear HO_8; clear HB; have HO_8 := n0_; have HB := n1_; clear n0_ n1_; (try clear hb); (try clear hb2); (try clear hk); (try clear hi)) | ((with_reducible refine gate_callee (f := 34) rfl ?_); refine goesL_ (some 127) rfl rfl Tryd.func34 (by kernel_rfl) rfl #[.int .u64 a0] rfl (by (try simp only [List.map_toArray, List.map_cons, List.map_nil]); first | done | rfl | (simp only [List.length_drop, List.length_take]; rfl) | (simp only [gt_iff_lt, Int.natCast_pos]; done) | (simp only [gt_iff_lt, Int.natCast_pos]; rfl)) ?_; (with_reducible refine (ieee_Integral.calls a0 t422 _ ?side1 A82.out).mono ?_); (case side1 => repeat (first | exact (Kd.C_below HT.out HB.out) | (with_reducible refine Kd.C_alloc ?_ _) | (with_reducible refine Kd.C_drewN ?_ _) | (with_reducible refine Kd.C_drew ?_))); rintro e w112 ⟨rfl, hb⟩; refine ⟨_, rfl, ?_⟩; have n0_ := Aside0.mk (Kd.V_below (by (with_reducible repeat (first | apply Kd.V_alloc | apply Kd.V_drewN | apply Kd.V_drew)); exact HO_8.out) hb); have n1_ := Aside0.mk (below_step (by repeat (first | (with_reducible first | exact HB.out | apply below_alloc | apply pw_below_drewN | apply below_drew1) | exact HB.out)) hb); clear HO_8; clear HB; have HO_8 := n0_; have HB := n1_; clear n0_ n1_; (try clear hb); (try clear hb2); (try clear hk); (try clear hi)) | ((with_reducible refine gate_callee (f := 20) rfl ?_); refine goesL_ (some 130) rfl rfl Tryd.func20 (by kernel_rfl) rfl #[.int .u64 a0] rfl (by (try simp only [List.map_toArray, List.map_cons, List.map_nil]); first | done | rfl | (simp only [List.length_drop, List.length_take]; rfl) | (simp only [gt_iff_lt, Int.natCast_pos]; done) | (simp only [gt_iff_lt, Int.natCast_pos]; rfl)) ?_; (with_reducible refine (ieee_Abs.calls a0 t423 _ A83.out).mono ?_); rintro e w' ⟨rfl, ⟨nd, rfl⟩⟩; refine ⟨_, rfl, ?_⟩) | ((with_reducible refine gate_callee (f := 20) rfl ?_); refine goesL_ (some 135) rfl rfl Tryd.func20 (by kernel_rfl) rfl #[.int .u64 a0] rfl (by (try simp only [List.map_toArray, List.map_cons, List.map_nil]); first | done | rfl | (simp only [List.length_drop, List.length_take]; rfl) | (simp only [gt_iff_lt, Int.natCast_pos]; done) | (simp only [gt_iff_lt, Int.natCast_pos]; rfl)) ?_; (with_reducible refine (ieee_Abs.calls a0 t424 _ A88.out).mono ?_); rintro e w' ⟨rfl, ⟨nd, rfl⟩⟩; refine ⟨_, rfl, ?_⟩) | ((with_reducible refine gate_callee (f := 38) rfl ?_); refine goesL_ (some 174) rfl rfl Tryd.func38 (by kernel_rfl) rfl #[.slice Ao110 t413.length co110] rfl (by (try simp only [List.map_toArray, List.map_cons, List.map_nil]); first | done | rfl | (simp only [List.length_drop, List.length_take]; rfl) | (simp only [gt_iff_lt, Int.natCast_pos]; done) | (simp only [gt_iff_lt, Int.natCast_pos]; rfl)) ?_; (with_reducible refine (nat_ToUint.calls kj75 _ _ t413 t425 true _ ?side1 ?side2 A90.out).mono ?_); (case side1 => repeat (first | exact (Kd.V_reads' HO_8.out).2.2 | (with_reducible refine Kd.C_alloc ?_ _) | (with_reducible refine Kd.C_drewN ?_ _) | (with_reducible refine Kd.C_drew ?_))); (case side2 => exact (Kd.V_reads' HO_8.out).2.1); rintro e w' ⟨rfl, ⟨nd, rfl⟩⟩; refine ⟨_, rfl, ?_⟩))
                                          go_ret
                                          exact ⟨by first | rfl | (have e_ := Option.some.inj (A83.out.symm.trans A88.out); cases e_; rfl) | (simp [errW_none, errW_some] <;> rfl) | (simp [*, errW_none, errW_some] <;> rfl), by repeat (first | (with_reducible first | exact HB.out | apply below_alloc | apply pw_below_drewN | apply below_drew1) | exact HB.out)⟩
                                    · replace c101 := Bool.eq_false_iff.mpr c101
                                      subst c101
                                      have H1 : (if t418 = 41 then (some (t417 == 0)) else (some false)) = some r := by rw [if_neg (show ¬ (false = true) by decide)] at H; exact H
                                      clear H
                                      have H := H1
                                      clear H1
                                      by_cases c113 : t418 = 41
                                      · rw [if_pos c113] at H
                                        have c113b0 : (t418 == 41) = true := beq_iff_eq.mpr c113
                                        have c113b1 : (t418 != 41) = false := bne_eq_false_iff_eq.mpr c113
                                        clear c113
                                        as_aux_lemma =>
                                          obtain rfl := Option.some.inj H
                                          obtain ⟨Ao114, co114, eo114⟩ := Kd.V_slice HO_8.out
                                          subst eo114
                                          go_wp2_with (first | ((with_reducible refine gate_callee (f := 15) rfl ?_); refine goesL_ (some 123) rfl rfl Tryd.func15 (by kernel_rfl) rfl #[.bool false, .slice Ao114 t413.length co114, .int .i64 0, .bool false] rfl (by (try simp only [List.map_toArray, List.map_cons, List.map_nil]); first | done | rfl | (simp only [List.length_drop, List.length_take]; rfl) | (simp only [gt_iff_lt, Int.natCast_pos]; done) | (simp only [gt_iff_lt, Int.natCast_pos]; rfl)) ?_; (with_reducible refine (ieee_Round.calls kj75 false _ _ t413 0 false t420 t421 _ ?side3 ?side1 ?side2 A81.out).mono ?_); (case side1 => repeat (first | exact (Kd.V_reads' HO_8.out).2.2 | (with_reducible refine Kd.C_alloc ?_ _) | (with_reducible refine Kd.C_drewN ?_ _) | (with_reducible refine Kd.C_drew ?_))); (case side2 => exact (Kd.V_reads' HO_8.out).2.1); (case side3 => repeat (first | exact (Kd.C_below HT.out HB.out) | (with_reducible refine Kd.C_alloc ?_ _) | (with_reducible refine Kd.C_drewN ?_ _) | (with_reducible refine Kd.C_drew ?_))); rintro e w115 ⟨rfl, hb⟩; refine ⟨_, rfl, ?_⟩; have n0_ := Aside0.mk (Kd.V_below (by (with_reducible repeat (first | apply Kd.V_alloc | apply Kd.V_drewN | apply Kd.V_drew)); exact HO_8.out) hb); have n1_ := Aside0.mk (below_step (by repeat (first | (with_reducible first | exact HB.out | apply below_alloc | apply pw_below_drewN | apply below_drew1) | exact HB.out)) hb); clear HO_8; clear HB; have HO_8 := n0_; have HB := n1_; clear n0_ n1_; (try clear hb); (try clear hb2); (try clear hk); (try clear hi)) | ((with_reducible refine gate_callee (f := 34) rfl ?_); refine goesL_ (some 127) rfl rfl Tryd.func34 (by kernel_rfl) rfl #[.int .u64 a0] rfl (by (try simp only [List.map_toArray, List.map_cons, List.map_nil]); first | done | rfl | (simp only [List.length_drop, List.length_take]; rfl) | (simp only [gt_iff_lt, Int.natCast_pos]; done) | (simp only [gt_iff_lt, Int.natCast_pos]; rfl)) ?_; (with_reducible refine (ieee_Integral.calls a0 t422 _ ?side1 A82.out).mono ?_); (case side1 => repeat (first | exact (Kd.C_below HT.out HB.out) | (with_reducible refine Kd.C_alloc ?_ _) | (with_reducible refine Kd.C_drewN ?_ _) | (with_reducible refine Kd.C_drew ?_))); rintro e w116 ⟨rfl, hb⟩; refine ⟨_, rfl, ?_⟩; have n0_ := Aside0.mk (Kd.V_below (by (with_reducible repeat (first | apply Kd.V_alloc | apply Kd.V_drewN | apply Kd.V_drew)); exact HO_8.out) hb); have n1_ := Aside0.mk (below_step (by repeat (first | (with_reducible first | exact HB.out | apply below_alloc | apply pw_below_drewN | apply below_drew1) | exact HB.out)) hb); clear HO_8; clear HB; have HO_8 := n0_; have HB := n1_; clear n0_ n1_; (try clear hb); (try clear hb2); (try clear hk); (try clear hi)) | ((with_reducible refine gate_callee (f := 20) rfl ?_); refine goesL_ (some 130) rfl rfl Tryd.func20 (by kernel_rfl) rfl #[.int .u64 a0] rfl (by (try simp only [List.map_toArray, List.map_cons, List.map_nil]); first | done | rfl | (simp only [List.length_drop, List.length_take]; rfl) | (simp only [gt_iff_lt, Int.natCast_pos]; done) | (simp only [gt_iff_lt, Int.natCast_pos]; rfl)) ?_; (with_reducible refine (ieee_Abs.calls a0 t423 _ A83.out).mono ?_); rintro e w' ⟨rfl, ⟨nd, rfl⟩⟩; refine ⟨_, rfl, ?_⟩) | ((with_reducible refine gate_callee (f := 20) rfl ?_); refine goesL_ (some 135) rfl rfl Tryd.func20 (by kernel_rfl) rfl #[.int .u64 a0] rfl (by (try simp only [List.map_toArray, List.map_cons, List.map_nil]); first | done | rfl | (simp only [List.length_drop, List.length_take]; rfl) | (simp only [gt_iff_lt, Int.natCast_pos]; done) | (simp only [gt_iff_lt, Int.natCast_pos]; rfl)) ?_; (with_reducible refine (ieee_Abs.calls a0 t424 _ A88.out).mono ?_); rintro e w' ⟨rfl, ⟨nd, rfl⟩⟩; refine ⟨_, rfl, ?_⟩) | ((with_reducible refine gate_callee (f := 38) rfl ?_); refine goesL_ (some 174) rfl rfl Tryd.func38 (by kernel_rfl) rfl #[.slice Ao114 t413.length co114] rfl (by (try simp only [List.map_toArray, List.map_cons, List.map_nil]); first | done | rfl | (simp only [List.length_drop, List.length_take]; rfl) | (simp only [gt_iff_lt, Int.natCast_pos]; done) | (simp only [gt_iff_lt, Int.natCast_pos]; rfl)) ?_; (with_reducible refine (nat_ToUint.calls kj75 _ _ t413 t425 true _ ?side1 ?side2 A90.out).mono ?_); (case side1 => repeat (first | exact (Kd.V_reads' HO_8.out).2.2 | (with_reducible refine Kd.C_alloc ?_ _) | (with_reducible refine Kd.C_drewN ?_ _) | (with_reducible refine Kd.C_drew ?_))); (case side2 => exact (Kd.V_reads' HO_8.out).2.1); rintro e w' ⟨rfl, ⟨nd, rfl⟩⟩; refine ⟨_, rfl, ?_⟩))
                                          go_ret
                                          exact ⟨by first | rfl | (have e_ := Option.some.inj (A83.out.symm.trans A88.out); cases e_; rfl) | (simp [errW_none, errW_some] <;> rfl) | (simp [*, errW_none, errW_some] <;> rfl), by repeat (first | (with_reducible first | exact HB.out | apply below_alloc | apply pw_below_drewN | apply below_drew1) | exact HB.out)⟩
                                      · rw [if_neg c113] at H
                                        have c113b0 : (t418 == 41) = false := beq_eq_false_iff_ne.mpr c113
                                        have c113b1 : (t418 != 41) = true := bne_iff_ne.mpr c113
                                        as_aux_lemma =>
                                          obtain rfl := Option.some.inj H
                                          obtain ⟨Ao117, co117, eo117⟩ := Kd.V_slice HO_8.out
                                          subst eo117
                                          go_wp2_with (first | ((with_reducible refine gate_callee (f := 15) rfl ?_); refine goesL_ (some 123) rfl rfl Tryd.func15 (by kernel_rfl) rfl #[.bool false, .slice Ao117 t413.length co117, .int .i64 0, .bool false] rfl (by (try simp only [List.map_toArray, List.map_cons, List.map_nil]); first | done | rfl | (simp only [List.length_drop, List.length_take]; rfl) | (simp only [gt_iff_lt, Int.natCast_pos]; done) | (simp only [gt_iff_lt, Int.natCast_pos]; rfl)) ?_; (with_reducible refine (ieee_Round.calls kj75 false _ _ t413 0 false t420 t421 _ ?side3 ?side1 ?side2 A81.out).mono ?_); (case side1 => repeat (first | exact (Kd.V_reads' HO_8.out).2.2 | (with_reducible refine Kd.C_alloc ?_ _) | (with_reducible refine Kd.C_drewN ?_ _) | (with_reducible refine Kd.C_drew ?_))); (case side2 => exact (Kd.V_reads' HO_8.out).2.1); (case side3 => repeat (first | exact (Kd.C_below HT.out HB.out) | (with_reducible refine Kd.C_alloc ?_ _) | (with_reducible refine Kd.C_drewN ?_ _) | (with_reducible refine Kd.C_drew ?_))); rintro e w118 ⟨rfl, hb⟩; refine ⟨_, rfl, ?_⟩; have n0_ := Aside0.mk (Kd.V_below (by (with_reducible repeat (first | apply Kd.V_alloc | apply Kd.V_drewN | apply Kd.V_drew)); exact HO_8.out) hb); have n1_ := Aside0.mk (below_step (by repeat (first | (with_reducible first | exact HB.out | apply below_alloc | apply pw_below_drewN | apply below_drew1) | exact HB.out)) hb); clear HO_8; clear HB; have HO_8 := n0_; have HB := n1_; clear n0_ n1_; (try clear hb); (try clear hb2); (try clear hk); (try clear hi)) | ((with_reducible refine gate_callee (f := 34) rfl ?_); refine goesL_ (some 127) rfl rfl Tryd.func34 (by kernel_rfl) rfl #[.int .u64 a0] rfl (by (try simp only [List.map_toArray, List.map_cons, List.map_nil]); first | done | rfl | (simp only [List.length_drop, List.length_take]; rfl) | (simp only [gt_iff_lt, Int.natCast_pos]; done) | (simp only [gt_iff_lt, Int.natCast_pos]; rfl)) ?_; (with_reducible refine (ieee_Integral.calls a0 t422 _ ?side1 A82.out).mono ?_); (case side1 => repeat (first | exact (Kd.C_below HT.out HB.out) | (with_reducible refine Kd.C_alloc ?_ _) | (with_reducible refine Kd.C_drewN ?_ _) | (with_reducible refine Kd.C_drew ?_))); rintro e w119 ⟨rfl, hb⟩; refine ⟨_, rfl, ?_⟩; have n0_ := Aside0.mk (Kd.V_below (by (with_reducible repeat (first | apply Kd.V_alloc | apply Kd.V_drewN | apply Kd.V_drew)); exact HO_8.out) hb); have n1_ := Aside0.mk (below_step (by repeat (first | (with_reducible first | exact HB.out | apply below_alloc | apply pw_below_drewN | apply below_drew1) | exact HB.out)) hb); clear HO_8; clear HB; have HO_8 := n0_; have HB := n1_; clear n0_ n1_; (try clear hb); (try clear hb2); (try clear hk); (try clear hi)) | ((with_reducible refine gate_callee (f := 20) rfl ?_); refine goesL_ (some 130) rfl rfl Tryd.func20 (by kernel_rfl) rfl #[.int .u64 a0] rfl (by (try simp only [List.map_toArray, List.map_cons, List.map_nil]); first | done | rfl | (simp only [List.length_drop, List.length_take]; rfl) | (simp only [gt_iff_lt, Int.natCast_pos]; done) | (simp only [gt_iff_lt, Int.natCast_pos]; rfl)) ?_; (with_reducible refine (ieee_Abs.calls a0 t423 _ A83.out).mono ?_); rintro e w' ⟨rfl, ⟨nd, rfl⟩⟩; refine ⟨_, rfl, ?_⟩) | ((with_reducible refine gate_callee (f := 20) rfl ?_); refine goesL_ (some 135) rfl rfl Tryd.func20 (by kernel_rfl) rfl #[.int .u64 a0] rfl (by (try simp only [List.map_toArray, List.map_cons, List.map_nil]); first | done | rfl | (simp only [List.length_drop, List.length_take]; rfl) | (simp only [gt_iff_lt, Int.natCast_pos]; done) | (simp only [gt_iff_lt, Int.natCast_pos]; rfl)) ?_; (with_reducible refine (ieee_Abs.calls a0 t424 _ A88.out).mono ?_); rintro e w' ⟨rfl, ⟨nd, rfl⟩⟩; refine ⟨_, rfl, ?_⟩) | ((with_reducible refine gate_callee (f := 38) rfl ?_); refine goesL_ (some 174) rfl rfl Tryd.func38 (by kernel_rfl) rfl #[.slice Ao117 t413.length co117] rfl (by (try simp only [List.map_toArray, List.map_cons, List.map_nil]); first | done | rfl | (simp only [List.length_drop, List.length_take]; rfl) | (simp only [gt_iff_lt, Int.natCast_pos]; done) | (simp only [gt_iff_lt, Int.natCast_pos]; rfl)) ?_; (with_reducible refine (nat_ToUint.calls kj75 _ _ t413 t425 true _ ?side1 ?side2 A90.out).mono ?_); (case side1 => repeat (first | exact (Kd.V_reads' HO_8.out).2.2 | (with_reducible refine Kd.C_alloc ?_ _) | (with_reducible refine Kd.C_drewN ?_ _) | (with_reducible refine Kd.C_drew ?_))); (case side2 => exact (Kd.V_reads' HO_8.out).2.1); rintro e w' ⟨rfl, ⟨nd, rfl⟩⟩; refine ⟨_, rfl, ?_⟩))
                                          go_ret
                                          exact ⟨by first | rfl | (have e_ := Option.some.inj (A83.out.symm.trans A88.out); cases e_; rfl) | (simp [errW_none, errW_some] <;> rfl) | (simp [*, errW_none, errW_some] <;> rfl), by repeat (first | (with_reducible first | exact HB.out | apply below_alloc | apply pw_below_drewN | apply below_drew1) | exact HB.out)⟩
                                  · rw [if_neg c100] at H
                                    have c100b0 : (t425 == 9223372036854775808) = false := beq_eq_false_iff_ne.mpr c100
                                    have c100b1 : (t425 != 9223372036854775808) = true := bne_iff_ne.mpr c100
                                    by_cases c120 : t418 = 0
                                    · rw [if_pos c120] at H
                                      have c120b0 : (t418 == 0) = true := beq_iff_eq.mpr c120
                                      have c120b1 : (t418 != 0) = false := bne_eq_false_iff_eq.mpr c120
                                      clear c120
                                      by_cases c121 : t412 = true
                                      · subst c121
                                        have H1 : (if (IntKind.u64.wrap (t417)) = (IntKind.u64.wrap (-t425)) then (some true) else (some false)) = some r := by rw [if_pos rfl] at H; exact H
                                        clear H
                                        have H := H1
                                        clear H1
                                        by_cases c122 : (IntKind.u64.wrap (t417)) = (IntKind.u64.wrap (-t425))
                                        · rw [if_pos c122] at H
                                          have c122b0 : ((IntKind.u64.wrap (t417)) == (IntKind.u64.wrap (-t425))) = true := beq_iff_eq.mpr c122
                                          have c122b1 : ((IntKind.u64.wrap (t417)) != (IntKind.u64.wrap (-t425))) = false := bne_eq_false_iff_eq.mpr c122
                                          clear c122
                                          as_aux_lemma =>
                                            obtain rfl := Option.some.inj H
                                            obtain ⟨Ao123, co123, eo123⟩ := Kd.V_slice HO_8.out
                                            subst eo123
                                            go_wp2_with (first | ((with_reducible refine gate_callee (f := 15) rfl ?_); refine goesL_ (some 123) rfl rfl Tryd.func15 (by kernel_rfl) rfl #[.bool false, .slice Ao123 t413.length co123, .int .i64 0, .bool false] rfl (by (try simp only [List.map_toArray, List.map_cons, List.map_nil]); first | done | rfl | (simp only [List.length_drop, List.length_take]; rfl) | (simp only [gt_iff_lt, Int.natCast_pos]; done) | (simp only [gt_iff_lt, Int.natCast_pos]; rfl)) ?_; (with_reducible refine (ieee_Round.calls kj75 false _ _ t413 0 false t420 t421 _ ?side3 ?side1 ?side2 A81.out).mono ?_); (case side1 => repeat (first | exact (Kd.V_reads' HO_8.out).2.2 | (with_reducible refine Kd.C_alloc ?_ _) | (with_reducible refine Kd.C_drewN ?_ _) | (with_reducible refine Kd.C_drew ?_))); (case side2 => exact (Kd.V_reads' HO_8.out).2.1); (case side3 => repeat (first | exact (Kd.C_below HT.out HB.out) | (with_reducible refine Kd.C_alloc ?_ _) | (with_reducible refine Kd.C_drewN ?_ _) | (with_reducible refine Kd.C_drew ?_))); rintro e w124 ⟨rfl, hb⟩; refine ⟨_, rfl, ?_⟩; have n0_ := Aside0.mk (Kd.V_below (by (with_reducible repeat (first | apply Kd.V_alloc | apply Kd.V_drewN | apply Kd.V_drew)); exact HO_8.out) hb); have n1_ := Aside0.mk (below_step (by repeat (first | (with_reducible first | exact HB.out | apply below_alloc | apply pw_below_drewN | apply below_drew1) | exact HB.out)) hb); clear HO_8; clear HB; have HO_8 := n0_; have HB := n1_; clear n0_ n1_; (try clear hb); (try clear hb2); (try clear hk); (try clear hi)) | ((with_reducible refine gate_callee (f := 34) rfl ?_); refine goesL_ (some 127) rfl rfl Tryd.func34 (by kernel_rfl) rfl #[.int .u64 a0] rfl (by (try simp only [List.map_toArray, List.map_cons, List.map_nil]); first | done | rfl | (simp only [List.length_drop, List.length_take]; rfl) | (simp only [gt_iff_lt, Int.natCast_pos]; done) | (simp only [gt_iff_lt, Int.natCast_pos]; rfl)) ?_; (with_reducible refine (ieee_Integral.calls a0 t422 _ ?side1 A82.out).mono ?_); (case side1 => repeat (first | exact (Kd.C_below HT.out HB.out) | (with_reducible refine Kd.C_alloc ?_ _) | (with_reducible refine Kd.C_drewN ?_ _) | (with_reducible refine Kd.C_drew ?_))); rintro e w125 ⟨rfl, hb⟩; refine ⟨_, rfl, ?_⟩; have n0_ := Aside0.mk (Kd.V_below (by (with_reducible repeat (first | apply Kd.V_alloc | apply Kd.V_drewN | apply Kd.V_drew)); exact HO_8.out) hb); have n1_ := Aside0.mk (below_step (by repeat (first | (with_reducible first | exact HB.out | apply below_alloc | apply pw_below_drewN | apply below_drew1) | exact HB.out)) hb); clear HO_8; clear HB; have HO_8 := n0_; have HB := n1_; clear n0_ n1_; (try clear hb); (try clear hb2); (try clear hk); (try clear hi)) | ((with_reducible refine gate_callee (f := 20) rfl ?_); refine goesL_ (some 130) rfl rfl Tryd.func20 (by kernel_rfl) rfl #[.int .u64 a0] rfl (by (try simp only [List.map_toArray, List.map_cons, List.map_nil]); first | done | rfl | (simp only [List.length_drop, List.length_take]; rfl) | (simp only [gt_iff_lt, Int.natCast_pos]; done) | (simp only [gt_iff_lt, Int.natCast_pos]; rfl)) ?_; (with_reducible refine (ieee_Abs.calls a0 t423 _ A83.out).mono ?_); rintro e w' ⟨rfl, ⟨nd, rfl⟩⟩; refine ⟨_, rfl, ?_⟩) | ((with_reducible refine gate_callee (f := 20) rfl ?_); refine goesL_ (some 135) rfl rfl Tryd.func20 (by kernel_rfl) rfl #[.int .u64 a0] rfl (by (try simp only [List.map_toArray, List.map_cons, List.map_nil]); first | done | rfl | (simp only [List.length_drop, List.length_take]; rfl) | (simp only [gt_iff_lt, Int.natCast_pos]; done) | (simp only [gt_iff_lt, Int.natCast_pos]; rfl)) ?_; (with_reducible refine (ieee_Abs.calls a0 t424 _ A88.out).mono ?_); rintro e w' ⟨rfl, ⟨nd, rfl⟩⟩; refine ⟨_, rfl, ?_⟩) | ((with_reducible refine gate_callee (f := 38) rfl ?_); refine goesL_ (some 174) rfl rfl Tryd.func38 (by kernel_rfl) rfl #[.slice Ao123 t413.length co123] rfl (by (try simp only [List.map_toArray, List.map_cons, List.map_nil]); first | done | rfl | (simp only [List.length_drop, List.length_take]; rfl) | (simp only [gt_iff_lt, Int.natCast_pos]; done) | (simp only [gt_iff_lt, Int.natCast_pos]; rfl)) ?_; (with_reducible refine (nat_ToUint.calls kj75 _ _ t413 t425 true _ ?side1 ?side2 A90.out).mono ?_); (case side1 => repeat (first | exact (Kd.V_reads' HO_8.out).2.2 | (with_reducible refine Kd.C_alloc ?_ _) | (with_reducible refine Kd.C_drewN ?_ _) | (with_reducible refine Kd.C_drew ?_))); (case side2 => exact (Kd.V_reads' HO_8.out).2.1); rintro e w' ⟨rfl, ⟨nd, rfl⟩⟩; refine ⟨_, rfl, ?_⟩))
                                            go_ret
                                            exact ⟨by first | rfl | (have e_ := Option.some.inj (A83.out.symm.trans A88.out); cases e_; rfl) | (simp [errW_none, errW_some] <;> rfl) | (simp [*, errW_none, errW_some] <;> rfl), by repeat (first | (with_reducible first | exact HB.out | apply below_alloc | apply pw_below_drewN | apply below_drew1) | exact HB.out)⟩
                                        · rw [if_neg c122] at H
                                          have c122b0 : ((IntKind.u64.wrap (t417)) == (IntKind.u64.wrap (-t425))) = false := beq_eq_false_iff_ne.mpr c122
                                          have c122b1 : ((IntKind.u64.wrap (t417)) != (IntKind.u64.wrap (-t425))) = true := bne_iff_ne.mpr c122
                                          as_aux_lemma =>
                                            obtain rfl := Option.some.inj H
                                            obtain ⟨Ao126, co126, eo126⟩ := Kd.V_slice HO_8.out
                                            subst eo126
                                            go_wp2_with (first | ((with_reducible refine gate_callee (f := 15) rfl ?_); refine goesL_ (some 123) rfl rfl Tryd.func15 (by kernel_rfl) rfl #[.bool false, .slice Ao126 t413.length co126, .int .i64 0, .bool false] rfl (by (try simp only [List.map_toArray, List.map_cons, List.map_nil]); first | done | rfl | (simp only [List.length_drop, List.length_take]; rfl) | (simp only [gt_iff_lt, Int.natCast_pos]; done) | (simp only [gt_iff_lt, Int.natCast_pos]; rfl)) ?_; (with_reducible refine (ieee_Round.calls kj75 false _ _ t413 0 false t420 t421 _ ?side3 ?side1 ?side2 A81.out).mono ?_); (case side1 => repeat (first | exact (Kd.V_reads' HO_8.out).2.2 | (with_reducible refine Kd.C_alloc ?_ _) | (with_reducible refine Kd.C_drewN ?_ _) | (with_reducible refine Kd.C_drew ?_))); (case side2 => exact (Kd.V_reads' HO_8.out).2.1); (case side3 => repeat (first | exact (Kd.C_below HT.out HB.out) | (with_reducible refine Kd.C_alloc ?_ _) | (with_reducible refine Kd.C_drewN ?_ _) | (with_reducible refine Kd.C_drew ?_))); rintro e w127 ⟨rfl, hb⟩; refine ⟨_, rfl, ?_⟩; have n0_ := Aside0.mk (Kd.V_below (by (with_reducible repeat (first | apply Kd.V_alloc | apply Kd.V_drewN | apply Kd.V_drew)); exact HO_8.out) hb); have n1_ := Aside0.mk (below_step (by repeat (first | (with_reducible first | exact HB.out | apply below_alloc | apply pw_below_drewN | apply below_drew1) | exact HB.out)) hb); clear HO_8; clear HB; have HO_8 := n0_; have HB := n1_; clear n0_ n1_; (try clear hb); (try clear hb2); (try clear hk); (try clear hi)) | ((with_reducible refine gate_callee (f := 34) rfl ?_); refine goesL_ (some 127) rfl rfl Tryd.func34 (by kernel_rfl) rfl #[.int .u64 a0] rfl (by (try simp only [List.map_toArray, List.map_cons, List.map_nil]); first | done | rfl | (simp only [List.length_drop, List.length_take]; rfl) | (simp only [gt_iff_lt, Int.natCast_pos]; done) | (simp only [gt_iff_lt, Int.natCast_pos]; rfl)) ?_; (with_reducible refine (ieee_Integral.calls a0 t422 _ ?side1 A82.out).mono ?_); (case side1 => repeat (first | exact (Kd.C_below HT.out HB.out) | (with_reducible refine Kd.C_alloc ?_ _) | (with_reducible refine Kd.C_drewN ?_ _) | (with_reducible refine Kd.C_drew ?_))); rintro e w128 ⟨rfl, hb⟩; refine ⟨_, rfl, ?_⟩; have n0_ := Aside0.mk (Kd.V_below (by (with_reducible repeat (first | apply Kd.V_alloc | apply Kd.V_drewN | apply Kd.V_drew)); exact HO_8.out) hb); have n1_ := Aside0.mk (below_step (by repeat (first | (with_reducible first | exact HB.out | apply below_alloc | apply pw_below_drewN | apply below_drew1) | exact HB.out)) hb); clear HO_8; clear HB; have HO_8 := n0_; have HB := n1_; clear n0_ n1_; (try clear hb); (try clear hb2); (try clear hk); (try clear hi)) | ((with_reducible refine gate_callee (f := 20) rfl ?_); refine goesL_ (some 130) rfl rfl Tryd.func20 (by kernel_rfl) rfl #[.int .u64 a0] rfl (by (try simp only [List.map_toArray, List.map_cons, List.map_nil]); first | done | rfl | (simp only [List.length_drop, List.length_take]; rfl) | (simp only [gt_iff_lt, Int.natCast_pos]; done) | (simp only [gt_iff_lt, Int.natCast_pos]; rfl)) ?_; (with_reducible refine (ieee_Abs.calls a0 t423 _ A83.out).mono ?_); rintro e w' ⟨rfl, ⟨nd, rfl⟩⟩; refine ⟨_, rfl, ?_⟩) | ((with_reducible refine gate_callee (f := 20) rfl ?_); refine goesL_ (some 135) rfl rfl Tryd.func20 (by kernel_rfl) rfl #[.int .u64 a0] rfl (by (try simp only [List.map_toArray, List.map_cons, List.map_nil]); first | done | rfl | (simp only [List.length_drop, List.length_take]; rfl) | (simp only [gt_iff_lt, Int.natCast_pos]; done) | (simp only [gt_iff_lt, Int.natCast_pos]; rfl)) ?_; (with_reducible refine (ieee_Abs.calls a0 t424 _ A88.out).mono ?_); rintro e w' ⟨rfl, ⟨nd, rfl⟩⟩; refine ⟨_, rfl, ?_⟩) | ((with_reducible refine gate_callee (f := 38) rfl ?_); refine goesL_ (some 174) rfl rfl Tryd.func38 (by kernel_rfl) rfl #[.slice Ao126 t413.length co126] rfl (by (try simp only [List.map_toArray, List.map_cons, List.map_nil]); first | done | rfl | (simp only [List.length_drop, List.length_take]; rfl) | (simp only [gt_iff_lt, Int.natCast_pos]; done) | (simp only [gt_iff_lt, Int.natCast_pos]; rfl)) ?_; (with_reducible refine (nat_ToUint.calls kj75 _ _ t413 t425 true _ ?side1 ?side2 A90.out).mono ?_); (case side1 => repeat (first | exact (Kd.V_reads' HO_8.out).2.2 | (with_reducible refine Kd.C_alloc ?_ _) | (with_reducible refine Kd.C_drewN ?_ _) | (with_reducible refine Kd.C_drew ?_))); (case side2 => exact (Kd.V_reads' HO_8.out).2.1); rintro e w' ⟨rfl, ⟨nd, rfl⟩⟩; refine ⟨_, rfl, ?_⟩))
                                            go_ret
                                            exact ⟨by first | rfl | (have e_ := Option.some.inj (A83.out.symm.trans A88.out); cases e_; rfl) | (simp [errW_none, errW_some] <;> rfl) | (simp [*, errW_none, errW_some] <;> rfl), by repeat (first | (with_reducible first | exact HB.out | apply below_alloc | apply pw_below_drewN | apply below_drew1) | exact HB.out)⟩
                                      · replace c121 := Bool.eq_false_iff.mpr c121
                                        subst c121
                                        have H1 : (some ((IntKind.u64.wrap (t417)) == t425)) = some r := by rw [if_neg (show ¬ (false = true) by decide)] at H; exact H
                                        clear H
                                        have H := H1
                                        clear H1
                                        as_aux_lemma =>
                                          obtain rfl := Option.some.inj H
                                          obtain ⟨Ao129, co129, eo129⟩ := Kd.V_slice HO_8.out
                                          subst eo129
                                          go_wp2_with (first | ((with_reducible refine gate_callee (f := 15) rfl ?_); refine goesL_ (some 123) rfl rfl Tryd.func15 (by kernel_rfl) rfl #[.bool false, .slice Ao129 t413.length co129, .int .i64 0, .bool false] rfl (by (try simp only [List.map_toArray, List.map_cons, List.map_nil]); first | done | rfl | (simp only [List.length_drop, List.length_take]; rfl) | (simp only [gt_iff_lt, Int.natCast_pos]; done) | (simp only [gt_iff_lt, Int.natCast_pos]; rfl)) ?_; (with_reducible refine (ieee_Round.calls kj75 false _ _ t413 0 false t420 t421 _ ?side3 ?side1 ?side2 A81.out).mono ?_); (case side1 => repeat (first | exact (Kd.V_reads' HO_8.out).2.2 | (with_reducible refine Kd.C_alloc ?_ _) | (with_reducible refine Kd.C_drewN ?_ _) | (with_reducible refine Kd.C_drew ?_))); (case side2 => exact (Kd.V_reads' HO_8.out).2.1); (case side3 => repeat (first | exact (Kd.C_below HT.out HB.out) | (with_reducible refine Kd.C_alloc ?_ _) | (with_reducible refine Kd.C_drewN ?_ _) | (with_reducible refine Kd.C_drew ?_))); rintro e w130 ⟨rfl, hb⟩; refine ⟨_, rfl, ?_⟩; have n0_ := Aside0.mk (Kd.V_below (by (with_reducible repeat (first | apply Kd.V_alloc | apply Kd.V_drewN | apply Kd.V_drew)); exact HO_8.out) hb); have n1_ := Aside0.mk (below_step (by repeat (first | (with_reducible first | exact HB.out | apply below_alloc | apply pw_below_drewN | apply below_drew1) | exact HB.out)) hb); clear HO_8; clear HB; have HO_8 := n0_; have HB := n1_; clear n0_ n1_; (try clear hb); (try clear hb2); (try clear hk); (try clear hi)) | ((with_reducible refine gate_callee (f := 34) rfl ?_); refine goesL_ (some 127) rfl rfl Tryd.func34 (by kernel_rfl) rfl #[.int .u64 a0] rfl (by (try simp only [List.map_toArray, List.map_cons, List.map_nil]); first | done | rfl | (simp only [List.length_drop, List.length_take]; rfl) | (simp only [gt_iff_lt, Int.natCast_pos]; done) | (simp only [gt_iff_lt, Int.natCast_pos]; rfl)) ?_; (with_reducible refine (ieee_Integral.calls a0 t422 _ ?side1 A82.out).mono ?_); (case side1 => repeat (first | exact (Kd.C_below HT.out HB.out) | (with_reducible refine Kd.C_alloc ?_ _) | (with_reducible refine Kd.C_drewN ?_ _) | (with_reducible refine Kd.C_drew ?_))); rintro e w131 ⟨rfl, hb⟩; refine ⟨_, rfl, ?_⟩; have n0_ := Aside0.mk (Kd.V_below (by (with_reducible repeat (first | apply Kd.V_alloc | apply Kd.V_drewN | apply Kd.V_drew)); exact HO_8.out) hb); have n1_ := Aside0.mk (below_step (by repeat (first | (with_reducible first | exact HB.out | apply below_alloc | apply pw_below_drewN | apply below_drew1) | exact HB.out)) hb); clear HO_8; clear HB; have HO_8 := n0_; have HB := n1_; clear n0_ n1_; (try clear hb); (try clear hb2); (try clear hk); (try clear hi)) | ((with_reducible refine gate_callee (f := 20) rfl ?_); refine goesL_ (some 130) rfl rfl Tryd.func20 (by kernel_rfl) rfl #[.int .u64 a0] rfl (by (try simp only [List.map_toArray, List.map_cons, List.map_nil]); first | done | rfl | (simp only [List.length_drop, List.length_take]; rfl) | (simp only [gt_iff_lt, Int.natCast_pos]; done) | (simp only [gt_iff_lt, Int.natCast_pos]; rfl)) ?_; (with_reducible refine (ieee_Abs.calls a0 t423 _ A83.out).mono ?_); rintro e w' ⟨rfl, ⟨nd, rfl⟩⟩; refine ⟨_, rfl, ?_⟩) | ((with_reducible refine gate_callee (f := 20) rfl ?_); refine goesL_ (some 135) rfl rfl Tryd.func20 (by kernel_rfl) rfl #[.int .u64 a0] rfl (by (try simp only [List.map_toArray, List.map_cons, List.map_nil]); first | done | rfl | (simp only [List.length_drop, List.length_take]; rfl) | (simp only [gt_iff_lt, Int.natCast_pos]; done) | (simp only [gt_iff_lt, Int.natCast_pos]; rfl)) ?_; (with_reducible refine (ieee_Abs.calls a0 t424 _ A88.out).mono ?_); rintro e w' ⟨rfl, ⟨nd, rfl⟩⟩; refine ⟨_, rfl, ?_⟩) | ((with_reducible refine gate_callee (f := 38) rfl ?_); refine goesL_ (some 174) rfl rfl Tryd.func38 (by kernel_rfl) rfl #[.slice Ao129 t413.length co129] rfl (by (try simp only [List.map_toArray, List.map_cons, List.map_nil]); first | done | rfl | (simp only [List.length_drop, List.length_take]; rfl) | (simp only [gt_iff_lt, Int.natCast_pos]; done) | (simp only [gt_iff_lt, Int.natCast_pos]; rfl)) ?_; (with_reducible refine (nat_ToUint.calls kj75 _ _ t413 t425 true _ ?side1 ?side2 A90.out).mono ?_); (case side1 => repeat (first | exact (Kd.V_reads' HO_8.out).2.2 | (with_reducible refine Kd.C_alloc ?_ _) | (with_reducible refine Kd.C_drewN ?_ _) | (with_reducible refine Kd.C_drew ?_))); (case side2 => exact (Kd.V_reads' HO_8.out).2.1); rintro e w' ⟨rfl, ⟨nd, rfl⟩⟩; refine ⟨_, rfl, ?_⟩))
                                          go_ret
                                          exact ⟨by first | rfl | (have e_ := Option.some.inj (A83.out.symm.trans A88.out); cases e_; rfl) | (simp [errW_none, errW_some] <;> rfl) | (simp [*, errW_none, errW_some] <;> rfl), by repeat (first | (with_reducible first | exact HB.out | apply below_alloc | apply pw_below_drewN | apply below_drew1) | exact HB.out)⟩
                                    · rw [if_neg c120] at H
                                      have c120b0 : (t418 == 0) = false := beq_eq_false_iff_ne.mpr c120
                                      have c120b1 : (t418 != 0) = true := bne_iff_ne.mpr c120
                                      as_aux_lemma =>
                                        obtain rfl := Option.some.inj H
                                        obtain ⟨Ao132, co132, eo132⟩ := Kd.V_slice HO_8.out
                                        subst eo132
                                        go_wp2_with (first | ((with_reducible refine gate_callee (f := 15) rfl ?_); refine goesL_ (some 123) rfl rfl Tryd.func15 (by kernel_rfl) rfl #[.bool false, .slice Ao132 t413.length co132, .int .i64 0, .bool false] rfl (by (try simp only [List.map_toArray, List.map_cons, List.map_nil]); first | done | rfl | (simp only [List.length_drop, List.length_take]; rfl) | (simp only [gt_iff_lt, Int.natCast_pos]; done) | (simp only [gt_iff_lt, Int.natCast_pos]; rfl)) ?_; (with_reducible refine (ieee_Round.calls kj75 false _ _ t413 0 false t420 t421 _ ?side3 ?side1 ?side2 A81.out).mono ?_); (case side1 => repeat (first | exact (Kd.V_reads' HO_8.out).2.2 | (with_reducible refine Kd.C_alloc ?_ _) | (with_reducible refine Kd.C_drewN ?_ _) | (with_reducible refine Kd.C_drew ?_))); (case side2 => exact (Kd.V_reads' HO_8.out).2.1); (case side3 => repeat (first | exact (Kd.C_below HT.out HB.out) | (with_reducible refine Kd.C_alloc ?_ _) | (with_reducible refine Kd.C_drewN ?_ _) | (with_reducible refine Kd.C_drew ?_))); rintro e w133 ⟨rfl, hb⟩; refine ⟨_, rfl, ?_⟩; have n0_ := Aside0.mk (Kd.V_below (by (with_reducible repeat (first | apply Kd.V_alloc | apply Kd.V_drewN | apply Kd.V_drew)); exact HO_8.out) hb); have n1_ := Aside0.mk (below_step (by repeat (first | (with_reducible first | exact HB.out | apply below_alloc | apply pw_below_drewN | apply below_drew1) | exact HB.out)) hb); clear HO_8; clear HB; have HO_8 := n0_; have HB := n1_; clear n0_ n1_; (try clear hb); (try clear hb2); (try clear hk); (try clear hi)) | ((with_reducible refine gate_callee (f := 34) rfl ?_); refine goesL_ (some 127) rfl rfl Tryd.func34 (by kernel_rfl) rfl #[.int .u64 a0] rfl (by (try simp only [List.map_toArray, List.map_cons, List.map_nil]); first | done | rfl | (simp only [List.length_drop, List.length_take]; rfl) | (simp only [gt_iff_lt, Int.natCast_pos]; done) | (simp only [gt_iff_lt, Int.natCast_pos]; rfl)) ?_; (with_reducible refine (ieee_Integral.calls a0 t422 _ ?side1 A82.out).mono ?_); (case side1 => repeat (first | exact (Kd.C_below HT.out HB.out) | (with_reducible refine Kd.C_alloc ?_ _) | (with_reducible refine Kd.C_drewN ?_ _) | (with_reducible refine Kd.C_drew ?_))); rintro e w134 ⟨rfl, hb⟩; refine ⟨_, rfl, ?_⟩; have n0_ := Aside0.mk (Kd.V_below (by (with_reducible repeat (first | apply Kd.V_alloc | apply Kd.V_drewN | apply Kd.V_drew)); exact HO_8.out) hb); have n1_ := Aside0.mk (below_step (by repeat (first | (with_reducible first | exact HB.out | apply below_alloc | apply pw_below_drewN | apply below_drew1) | exact HB.out)) hb); clear HO_8; clear HB; have HO_8 := n0_; have HB := n1_; clear n0_ n1_; (try clear hb); (try clear hb2); (try clear hk); (try clear hi)) | ((with_reducible refine gate_callee (f := 20) rfl ?_); refine goesL_ (some 130) rfl rfl Tryd.func20 (by kernel_rfl) rfl #[.int .u64 a0] rfl (by (try simp only [List.map_toArray, List.map_cons, List.map_nil]); first | done | rfl | (simp only [List.length_drop, List.length_take]; rfl) | (simp only [gt_iff_lt, Int.natCast_pos]; done) | (simp only [gt_iff_lt, Int.natCast_pos]; rfl)) ?_; (with_reducible refine (ieee_Abs.calls a0 t423 _ A83.out).mono ?_); rintro e w' ⟨rfl, ⟨nd, rfl⟩⟩; refine ⟨_, rfl, ?_⟩) | ((with_reducible refine gate_callee (f := 20) rfl ?_); refine goesL_ (some 135) rfl rfl Tryd.func20 (by kernel_rfl) rfl #[.int .u64 a0] rfl (by (try simp only [List.map_toArray, List.map_cons, List.map_nil]); first | done | rfl | (simp only [List.length_drop, List.length_take]; rfl) | (simp only [gt_iff_lt, Int.natCast_pos]; done) | (simp only [gt_iff_lt, Int.natCast_pos]; rfl)) ?_; (with_reducible refine (ieee_Abs.calls a0 t424 _ A88.out).mono ?_); rintro e w' ⟨rfl, ⟨nd, rfl⟩⟩; refine ⟨_, rfl, ?_⟩) | ((with_reducible refine gate_callee (f := 38) rfl ?_); refine goesL_ (some 174) rfl rfl Tryd.func38 (by kernel_rfl) rfl #[.slice Ao132 t413.length co132] rfl (by (try simp only [List.map_toArray, List.map_cons, List.map_nil]); first | done | rfl | (simp only [List.length_drop, List.length_take]; rfl) | (simp only [gt_iff_lt, Int.natCast_pos]; done) | (simp only [gt_iff_lt, Int.natCast_pos]; rfl)) ?_; (with_reducible refine (nat_ToUint.calls kj75 _ _ t413 t425 true _ ?side1 ?side2 A90.out).mono ?_); (case side1 => repeat (first | exact (Kd.V_reads' HO_8.out).2.2 | (with_reducible refine Kd.C_alloc ?_ _) | (with_reducible refine Kd.C_drewN ?_ _) | (with_reducible refine Kd.C_drew ?_))); (case side2 => exact (Kd.V_reads' HO_8.out).2.1); rintro e w' ⟨rfl, ⟨nd, rfl⟩⟩; refine ⟨_, rfl, ?_⟩))
                                        go_ret
                                        exact ⟨by first | rfl | (have e_ := Option.some.inj (A83.out.symm.trans A88.out); cases e_; rfl) | (simp [errW_none, errW_some] <;> rfl) | (simp [*, errW_none, errW_some] <;> rfl), by repeat (first | (with_reducible first | exact HB.out | apply below_alloc | apply pw_below_drewN | apply below_drew1) | exact HB.out)⟩
                              · replace c91 := Bool.eq_false_iff.mpr c91
                                subst c91
                                have H1 : (if t418 = 41 then (some (t417 == 0)) else (some false)) = some r := by rw [if_neg (show ¬ (false = true) by decide)] at H; exact H
                                clear H
                                have H := H1
                                clear H1
                                by_cases c135 : t418 = 41
                                · rw [if_pos c135] at H
                                  have c135b0 : (t418 == 41) = true := beq_iff_eq.mpr c135
                                  have c135b1 : (t418 != 41) = false := bne_eq_false_iff_eq.mpr c135
                                  clear c135
                                  as_aux_lemma =>
                                    obtain rfl := Option.some.inj H
                                    obtain ⟨Ao136, co136, eo136⟩ := Kd.V_slice HO_8.out
                                    subst eo136
                                    go_wp2_with (first | ((with_reducible refine gate_callee (f := 15) rfl ?_); refine goesL_ (some 123) rfl rfl Tryd.func15 (by kernel_rfl) rfl #[.bool false, .slice Ao136 t413.length co136, .int .i64 0, .bool false] rfl (by (try simp only [List.map_toArray, List.map_cons, List.map_nil]); first | done | rfl | (simp only [List.length_drop, List.length_take]; rfl) | (simp only [gt_iff_lt, Int.natCast_pos]; done) | (simp only [gt_iff_lt, Int.natCast_pos]; rfl)) ?_; (with_reducible refine (ieee_Round.calls kj75 false _ _ t413 0 false t420 t421 _ ?side3 ?side1 ?side2 A81.out).mono ?_); (case side1 => repeat (first | exact (Kd.V_reads' HO_8.out).2.2 | (with_reducible refine Kd.C_alloc ?_ _) | (with_reducible refine Kd.C_drewN ?_ _) | (with_reducible refine Kd.C_drew ?_))); (case side2 => exact (Kd.V_reads' HO_8.out).2.1); (case side3 => repeat (first | exact (Kd.C_below HT.out HB.out) | (with_reducible refine Kd.C_alloc ?_ _) | (with_reducible refine Kd.C_drewN ?_ _) | (with_reducible refine Kd.C_drew ?_))); rintro e w137 ⟨rfl, hb⟩; refine ⟨_, rfl, ?_⟩; have n0_ := Aside0.mk (Kd.V_below (by (with_reducible repeat (first | apply Kd.V_alloc | apply Kd.V_drewN | apply Kd.V_drew)); exact HO_8.out) hb); have n1_ := Aside0.mk (below_step (by repeat (first | (with_reducible first | exact HB.out | apply below_alloc | apply pw_below_drewN | apply below_drew1) | exact HB.out)) hb); clear HO_8; clear HB; have HO_8 := n0_; have HB := n1_; clear n0_ n1_; (try clear hb); (try clear hb2); (try clear hk); (try clear hi)) | ((with_reducible refine gate_callee (f := 34) rfl ?_); refine goesL_ (some 127) rfl rfl Tryd.func34 (by kernel_rfl) rfl #[.int .u64 a0] rfl (by (try simp only [List.map_toArray, List.map_cons, List.map_nil]); first | done | rfl | (simp only [List.length_drop, List.length_take]; rfl) | (simp only [gt_iff_lt, Int.natCast_pos]; done) | (simp only [gt_iff_lt, Int.natCast_pos]; rfl)) ?_; (with_reducible refine (ieee_Integral.calls a0 t422 _ ?side1 A82.out).mono ?_); (case side1 => repeat (first | exact (Kd.C_below HT.out HB.out) | (with_reducible refine Kd.C_alloc ?_ _) | (with_reducible refine Kd.C_drewN ?_ _) | (with_reducible refine Kd.C_drew ?_))); rintro e w138 ⟨rfl, hb⟩; refine ⟨_, rfl, ?_⟩; have n0_ := Aside0.mk (Kd.V_below (by (with_reducible repeat (first | apply Kd.V_alloc | apply Kd.V_drewN | apply Kd.V_drew)); exact HO_8.out) hb); have n1_ := Aside0.mk (below_step (by repeat (first | (with_reducible first | exact HB.out | apply below_alloc | apply pw_below_drewN | apply below_drew1) | exact HB.out)) hb); clear HO_8; clear HB; have HO_8 := n0_; have HB := n1_; clear n0_ n1_; (try clear hb); (try clear hb2); (try clear hk); (try clear hi)) | ((with_reducible refine gate_callee (f := 20) rfl ?_); refine goesL_ (some 130) rfl rfl Tryd.func20 (by kernel_rfl) rfl #[.int .u64 a0] rfl (by (try simp only [List.map_toArray, List.map_cons, List.map_nil]); first | done | rfl | (simp only [List.length_drop, List.length_take]; rfl) | (simp only [gt_iff_lt, Int.natCast_pos]; done) | (simp only [gt_iff_lt, Int.natCast_pos]; rfl)) ?_; (with_reducible refine (ieee_Abs.calls a0 t423 _ A83.out).mono ?_); rintro e w' ⟨rfl, ⟨nd, rfl⟩⟩; refine ⟨_, rfl, ?_⟩) | ((with_reducible refine gate_callee (f := 20) rfl ?_); refine goesL_ (some 135) rfl rfl Tryd.func20 (by kernel_rfl) rfl #[.int .u64 a0] rfl (by (try simp only [List.map_toArray, List.map_cons, List.map_nil]); first | done | rfl | (simp only [List.length_drop, List.length_take]; rfl) | (simp only [gt_iff_lt, Int.natCast_pos]; done) | (simp only [gt_iff_lt, Int.natCast_pos]; rfl)) ?_; (with_reducible refine (ieee_Abs.calls a0 t424 _ A88.out).mono ?_); rintro e w' ⟨rfl, ⟨nd, rfl⟩⟩; refine ⟨_, rfl, ?_⟩) | ((with_reducible refine gate_callee (f := 38) rfl ?_); refine goesL_ (some 174) rfl rfl Tryd.func38 (by kernel_rfl) rfl #[.slice Ao136 t413.length co136] rfl (by (try simp only [List.map_toArray, List.map_cons, List.map_nil]); first | done | rfl | (simp only [List.length_drop, List.length_take]; rfl) | (simp only [gt_iff_lt, Int.natCast_pos]; done) | (simp only [gt_iff_lt, Int.natCast_pos]; rfl)) ?_; (with_reducible refine (nat_ToUint.calls kj75 _ _ t413 t425 false _ ?side1 ?side2 A90.out).mono ?_); (case side1 => repeat (first | exact (Kd.V_reads' HO_8.out).2.2 | (with_reducible refine Kd.C_alloc ?_ _) | (with_reducible refine Kd.C_drewN ?_ _) | (with_reducible refine Kd.C_drew ?_))); (case side2 => exact (Kd.V_reads' HO_8.out).2.1); rintro e w' ⟨rfl, ⟨nd, rfl⟩⟩; refine ⟨_, rfl, ?_⟩))
                                    go_ret
                                    exact ⟨by first | rfl | (have e_ := Option.some.inj (A83.out.symm.trans A88.out); cases e_; rfl) | (simp [errW_none, errW_some] <;> rfl) | (simp [*, errW_none, errW_some] <;> rfl), by repeat (first | (with_reducible first | exact HB.out | apply below_alloc | apply pw_below_drewN | apply below_drew1) | exact HB.out)⟩
                                · rw [if_neg c135] at H
                                  have c135b0 : (t418 == 41) = false := beq_eq_false_iff_ne.mpr c135
                                  have c135b1 : (t418 != 41) = true := bne_iff_ne.mpr c135
                                  as_aux_lemma =>
                                    obtain rfl := Option.some.inj H
                                    obtain ⟨Ao139, co139, eo139⟩ := Kd.V_slice HO_8.out
                                    subst eo139
                                    go_wp2_with (first | ((with_reducible refine gate_callee (f := 15) rfl ?_); refine goesL_ (some 123) rfl rfl Tryd.func15 (by kernel_rfl) rfl #[.bool false, .slice Ao139 t413.length co139, .int .i64 0, .bool false] rfl (by (try simp only [List.map_toArray, List.map_cons, List.map_nil]); first | done | rfl | (simp only [List.length_drop, List.length_take]; rfl) | (simp only [gt_iff_lt, Int.natCast_pos]; done) | (simp only [gt_iff_lt, Int.natCast_pos]; rfl)) ?_; (with_reducible refine (ieee_Round.calls kj75 false _ _ t413 0 false t420 t421 _ ?side3 ?side1 ?side2 A81.out).mono ?_); (case side1 => repeat (first | exact (Kd.V_reads' HO_8.out).2.2 | (with_reducible refine Kd.C_alloc ?_ _) | (with_reducible refine Kd.C_drewN ?_ _) | (with_reducible refine Kd.C_drew ?_))); (case side2 => exact (Kd.V_reads' HO_8.out).2.1); (case side3 => repeat (first | exact (Kd.C_below HT.out HB.out) | (with_reducible refine Kd.C_alloc ?_ _) | (with_reducible refine Kd.C_drewN ?_ _) | (with_reducible refine Kd.C_drew ?_))); rintro e w140 ⟨rfl, hb⟩; refine ⟨_, rfl, ?_⟩; have n0_ := Aside0.mk (Kd.V_below (by (with_reducible repeat (first | apply Kd.V_alloc | apply Kd.V_drewN | apply Kd.V_drew)); exact HO_8.out) hb); have n1_ := Aside0.mk (below_step (by repeat (first | (with_reducible first | exact HB.out | apply below_alloc | apply pw_below_drewN | apply below_drew1) | exact HB.out)) hb); clear HO_8; clear HB; have HO_8 := n0_; have HB := n1_; clear n0_ n1_; (try clear hb); (try clear hb2); (try clear hk); (try clear hi)) | ((with_reducible refine gate_callee (f := 34) rfl ?_); refine goesL_ (some 127) rfl rfl Tryd.func34 (by kernel_rfl) rfl #[.int .u64 a0] rfl (by (try simp only [List.map_toArray, List.map_cons, List.map_nil]); first | done | rfl | (simp only [List.length_drop, List.length_take]; rfl) | (simp only [gt_iff_lt, Int.natCast_pos]; done) | (simp only [gt_iff_lt, Int.natCast_pos]; rfl)) ?_; (with_reducible refine (ieee_Integral.calls a0 t422 _ ?side1 A82.out).mono ?_); (case side1 => repeat (first | exact (Kd.C_below HT.out HB.out) | (with_reducible refine Kd.C_alloc ?_ _) | (with_reducible refine Kd.C_drewN ?_ _) | (with_reducible refine Kd.C_drew ?_))); rintro e w141 ⟨rfl, hb⟩; refine ⟨_, rfl, ?_⟩; have n0_ := Aside0.mk (Kd.V_below (by (with_reducible repeat (first | apply Kd.V_alloc | apply Kd.V_drewN | apply Kd.V_drew)); exact HO_8.out) hb); have n1_ := Aside0.mk (below_step (by repeat (first | (with_reducible first | exact HB.out | apply below_alloc | apply pw_below_drewN | apply below_drew1) | exact HB.out)) hb); clear HO_8; clear HB; have HO_8 := n0_; have HB := n1_; clear n0_ n1_; (try clear hb); (try clear hb2); (try clear hk); (try clear hi)) | ((with_reducible refine gate_callee (f := 20) rfl ?_); refine goesL_ (some 130) rfl rfl Tryd.func20 (by kernel_rfl) rfl #[.int .u64 a0] rfl (by (try simp only [List.map_toArray, List.map_cons, List.map_nil]); first | done | rfl | (simp only [List.length_drop, List.length_take]; rfl) | (simp only [gt_iff_lt, Int.natCast_pos]; done) | (simp only [gt_iff_lt, Int.natCast_pos]; rfl)) ?_; (with_reducible refine (ieee_Abs.calls a0 t423 _ A83.out).mono ?_); rintro e w' ⟨rfl, ⟨nd, rfl⟩⟩; refine ⟨_, rfl, ?_⟩) | ((with_reducible refine gate_callee (f := 20) rfl ?_); refine goesL_ (some 135) rfl rfl Tryd.func20 (by kernel_rfl) rfl #[.int .u64 a0] rfl (by (try simp only [List.map_toArray, List.map_cons, List.map_nil]); first | done | rfl | (simp only [List.length_drop, List.length_take]; rfl) | (simp only [gt_iff_lt, Int.natCast_pos]; done) | (simp only [gt_iff_lt, Int.natCast_pos]; rfl)) ?_; (with_reducible refine (ieee_Abs.calls a0 t424 _ A88.out).mono ?_); rintro e w' ⟨rfl, ⟨nd, rfl⟩⟩; refine ⟨_, rfl, ?_⟩) | ((with_reducible refine gate_callee (f := 38) rfl ?_); refine goesL_ (some 174) rfl rfl Tryd.func38 (by kernel_rfl) rfl #[.slice Ao139 t413.length co139] rfl (by (try simp only [List.map_toArray, List.map_cons, List.map_nil]); first | done | rfl | (simp only [List.length_drop, List.length_take]; rfl) | (simp only [gt_iff_lt, Int.natCast_pos]; done) | (simp only [gt_iff_lt, Int.natCast_pos]; rfl)) ?_; (with_reducible refine (nat_ToUint.calls kj75 _ _ t413 t425 false _ ?side1 ?side2 A90.out).mono ?_); (case side1 => repeat (first | exact (Kd.V_reads' HO_8.out).2.2 | (with_reducible refine Kd.C_alloc ?_ _) | (with_reducible refine Kd.C_drewN ?_ _) | (with_reducible refine Kd.C_drew ?_))); (case side2 => exact (Kd.V_reads' HO_8.out).2.1); rintro e w' ⟨rfl, ⟨nd, rfl⟩⟩; refine ⟨_, rfl, ?_⟩))
                                    go_ret
                                    exact ⟨by first | rfl | (have e_ := Option.some.inj (A83.out.symm.trans A88.out); cases e_; rfl) | (simp [errW_none, errW_some] <;> rfl) | (simp [*, errW_none, errW_some] <;> rfl), by repeat (first | (with_reducible first | exact HB.out | apply below_alloc | apply pw_below_drewN | apply below_drew1) | exact HB.out)⟩
                            · rw [if_neg c89] at H
                              have c89b0 : (t420 == t424) = false := beq_eq_false_iff_ne.mpr c89
                              have c89b1 : (t420 != t424) = true := bne_iff_ne.mpr c89
                              obtain ⟨y427, hy427⟩ : ∃ y_ : List Int, y_ = (([1] : List Int)) := ⟨_, rfl⟩
                              replace H : ((nat_Add.f kj75 t413 y427).bind fun bt430 => ((ieee_Round.f kj75 false bt430.1 0 false).bind fun bt434 => ((ieee_Abs.f a0).bind fun t436 => ((ieee_Compare.f t420 t436).bind fun bt437 => ((ieee_Abs.f a0).bind fun t439 => ((ieee_Compare.f t439 bt434.1).bind fun bt440 => (if bt430.2 = 0 then (if bt437.1 = (-1) then (abacuslaw04_IeeeWhole.j4 kj75 t412 t413 t417 t418 (bt440.1 != (-1))) else (abacuslaw04_IeeeWhole.j4 kj75 t412 t413 t417 t418 true)) else (abacuslaw04_IeeeWhole.j4 kj75 t412 t413 t417 t418 true)))))))) = some r := by first | (rw [hy427]; with_reducible exact H) | (have H2_ := (Option.bind_some _ _).symm.trans H; rw [hy427]; with_reducible exact H2_) | (have H2_ := (Option.bind_some _ _).symm.trans H; with_reducible exact H2_) | with_reducible exact H | (rw [hy427]; exact H) | exact H
                              have Ny427 := Aside0.mk hy427
                              clear hy427
                              replace H := Option.bind_eq_some_iff.mp H
                              obtain ⟨⟨t430, t433⟩, A1420, H⟩ := H
                              replace H : ((ieee_Round.f kj75 false t430 0 false).bind fun bt434 => ((ieee_Abs.f a0).bind fun t436 => ((ieee_Compare.f t420 t436).bind fun bt437 => ((ieee_Abs.f a0).bind fun t439 => ((ieee_Compare.f t439 bt434.1).bind fun bt440 => (if t433 = 0 then (if bt437.1 = (-1) then (abacuslaw04_IeeeWhole.j4 kj75 t412 t413 t417 t418 (bt440.1 != (-1))) else (abacuslaw04_IeeeWhole.j4 kj75 t412 t413 t417 t418 true)) else (abacuslaw04_IeeeWhole.j4 kj75 t412 t413 t417 t418 true))))))) = some r := H
                              have A142 := Aside0.mk A1420
                              clear A1420
                              replace H := Option.bind_eq_some_iff.mp H
                              obtain ⟨⟨t434, t435⟩, A1430, H⟩ := H
                              replace H : ((ieee_Abs.f a0).bind fun t436 => ((ieee_Compare.f t420 t436).bind fun bt437 => ((ieee_Abs.f a0).bind fun t439 => ((ieee_Compare.f t439 t434).bind fun bt440 => (if t433 = 0 then (if bt437.1 = (-1) then (abacuslaw04_IeeeWhole.j4 kj75 t412 t413 t417 t418 (bt440.1 != (-1))) else (abacuslaw04_IeeeWhole.j4 kj75 t412 t413 t417 t418 true)) else (abacuslaw04_IeeeWhole.j4 kj75 t412 t413 t417 t418 true)))))) = some r := H
                              have A143 := Aside0.mk A1430
                              clear A1430
                              replace H := Option.bind_eq_some_iff.mp H
                              obtain ⟨t436, A1440, H⟩ := H
                              replace H : ((ieee_Compare.f t420 t436).bind fun bt437 => ((ieee_Abs.f a0).bind fun t439 => ((ieee_Compare.f t439 t434).bind fun bt440 => (if t433 = 0 then (if bt437.1 = (-1) then (abacuslaw04_IeeeWhole.j4 kj75 t412 t413 t417 t418 (bt440.1 != (-1))) else (abacuslaw04_IeeeWhole.j4 kj75 t412 t413 t417 t418 true)) else (abacuslaw04_IeeeWhole.j4 kj75 t412 t413 t417 t418 true))))) = some r := H
                              have A144 := Aside0.mk A1440
                              clear A1440
                              replace H := Option.bind_eq_some_iff.mp H
                              obtain ⟨⟨t437, t438⟩, A1450, H⟩ := H
                              replace H : ((ieee_Abs.f a0).bind fun t439 => ((ieee_Compare.f t439 t434).bind fun bt440 => (if t433 = 0 then (if t437 = (-1) then (abacuslaw04_IeeeWhole.j4 kj75 t412 t413 t417 t418 (bt440.1 != (-1))) else (abacuslaw04_IeeeWhole.j4 kj75 t412 t413 t417 t418 true)) else (abacuslaw04_IeeeWhole.j4 kj75 t412 t413 t417 t418 true)))) = some r := H
                              have A145 := Aside0.mk A1450
                              clear A1450
                              replace H := Option.bind_eq_some_iff.mp H
                              obtain ⟨t439, A1460, H⟩ := H
                              replace H : ((ieee_Compare.f t439 t434).bind fun bt440 => (if t433 = 0 then (if t437 = (-1) then (abacuslaw04_IeeeWhole.j4 kj75 t412 t413 t417 t418 (bt440.1 != (-1))) else (abacuslaw04_IeeeWhole.j4 kj75 t412 t413 t417 t418 true)) else (abacuslaw04_IeeeWhole.j4 kj75 t412 t413 t417 t418 true))) = some r := H
                              have A146 := Aside0.mk A1460
                              clear A1460
                              replace H := Option.bind_eq_some_iff.mp H
                              obtain ⟨⟨t440, t441⟩, A1470, H⟩ := H
                              replace H : (if t433 = 0 then (if t437 = (-1) then (abacuslaw04_IeeeWhole.j4 kj75 t412 t413 t417 t418 (t440 != (-1))) else (abacuslaw04_IeeeWhole.j4 kj75 t412 t413 t417 t418 true)) else (abacuslaw04_IeeeWhole.j4 kj75 t412 t413 t417 t418 true)) = some r := H
                              have A147 := Aside0.mk A1470
                              clear A1470
                              have HC148 := Aside0.mk H
                              clear H
                              obtain ⟨Ao149, co149, eo149⟩ := Kd.V_slice HO_8.out
                              subst eo149
                              go_upto_region 23 with (first | ((with_reducible refine gate_callee (f := 15) rfl ?_); refine goesL_ (some 123) rfl rfl Tryd.func15 (by kernel_rfl) rfl #[.bool false, .slice Ao149 t413.length co149, .int .i64 0, .bool false] rfl (by (try simp only [List.map_toArray, List.map_cons, List.map_nil]); first | done | rfl | (simp only [List.length_drop, List.length_take]; rfl) | (simp only [gt_iff_lt, Int.natCast_pos]; done) | (simp only [gt_iff_lt, Int.natCast_pos]; rfl)) ?_; (with_reducible refine (ieee_Round.calls kj75 false _ _ t413 0 false t420 t421 _ ?side3 ?side1 ?side2 A81.out).mono ?_); (case side1 => repeat (first | exact (Kd.V_reads' HO_8.out).2.2 | (with_reducible refine Kd.C_alloc ?_ _) | (with_reducible refine Kd.C_drewN ?_ _) | (with_reducible refine Kd.C_drew ?_))); (case side2 => exact (Kd.V_reads' HO_8.out).2.1); (case side3 => repeat (first | exact (Kd.C_below HT.out HB.out) | (with_reducible refine Kd.C_alloc ?_ _) | (with_reducible refine Kd.C_drewN ?_ _) | (with_reducible refine Kd.C_drew ?_))); rintro e w150 ⟨rfl, hb⟩; refine ⟨_, rfl, ?_⟩; have n0_ := Aside0.mk (Kd.V_below (by (with_reducible repeat (first | apply Kd.V_alloc | apply Kd.V_drewN | apply Kd.V_drew)); exact HO_8.out) hb); have n1_ := Aside0.mk (below_step (by repeat (first | (with_reducible first | exact HB.out | apply below_alloc | apply pw_below_drewN | apply below_drew1) | exact HB.out)) hb); clear HO_8; clear HB; have HO_8 := n0_; have HB := n1_; clear n0_ n1_; (try clear hb); (try clear hb2); (try clear hk); (try clear hi)) | ((with_reducible refine gate_callee (f := 34) rfl ?_); refine goesL_ (some 127) rfl rfl Tryd.func34 (by kernel_rfl) rfl #[.int .u64 a0] rfl (by (try simp only [List.map_toArray, List.map_cons, List.map_nil]); first | done | rfl | (simp only [List.length_drop, List.length_take]; rfl) | (simp only [gt_iff_lt, Int.natCast_pos]; done) | (simp only [gt_iff_lt, Int.natCast_pos]; rfl)) ?_; (with_reducible refine (ieee_Integral.calls a0 t422 _ ?side1 A82.out).mono ?_); (case side1 => repeat (first | exact (Kd.C_below HT.out HB.out) | (with_reducible refine Kd.C_alloc ?_ _) | (with_reducible refine Kd.C_drewN ?_ _) | (with_reducible refine Kd.C_drew ?_))); rintro e w151 ⟨rfl, hb⟩; refine ⟨_, rfl, ?_⟩; have n0_ := Aside0.mk (Kd.V_below (by (with_reducible repeat (first | apply Kd.V_alloc | apply Kd.V_drewN | apply Kd.V_drew)); exact HO_8.out) hb); have n1_ := Aside0.mk (below_step (by repeat (first | (with_reducible first | exact HB.out | apply below_alloc | apply pw_below_drewN | apply below_drew1) | exact HB.out)) hb); clear HO_8; clear HB; have HO_8 := n0_; have HB := n1_; clear n0_ n1_; (try clear hb); (try clear hb2); (try clear hk); (try clear hi)) | ((with_reducible refine gate_callee (f := 20) rfl ?_); refine goesL_ (some 130) rfl rfl Tryd.func20 (by kernel_rfl) rfl #[.int .u64 a0] rfl (by (try simp only [List.map_toArray, List.map_cons, List.map_nil]); first | done | rfl | (simp only [List.length_drop, List.length_take]; rfl) | (simp only [gt_iff_lt, Int.natCast_pos]; done) | (simp only [gt_iff_lt, Int.natCast_pos]; rfl)) ?_; (with_reducible refine (ieee_Abs.calls a0 t423 _ A83.out).mono ?_); rintro e w' ⟨rfl, ⟨nd, rfl⟩⟩; refine ⟨_, rfl, ?_⟩) | ((with_reducible refine gate_callee (f := 20) rfl ?_); refine goesL_ (some 135) rfl rfl Tryd.func20 (by kernel_rfl) rfl #[.int .u64 a0] rfl (by (try simp only [List.map_toArray, List.map_cons, List.map_nil]); first | done | rfl | (simp only [List.length_drop, List.length_take]; rfl) | (simp only [gt_iff_lt, Int.natCast_pos]; done) | (simp only [gt_iff_lt, Int.natCast_pos]; rfl)) ?_; (with_reducible refine (ieee_Abs.calls a0 t424 _ A88.out).mono ?_); rintro e w' ⟨rfl, ⟨nd, rfl⟩⟩; refine ⟨_, rfl, ?_⟩) | ((with_reducible refine gate_dst (N := 139) rfl ?_); (try (refine gate_guard (by rfl) ?_; dsimp only)); refine Kd.R_lit (Kd.int .u64) _ 28 ?hg (N := 139) ?hd (xs := ([1] : List Int)) (inner := [.int .u64 1]) (ok := fun _ => True) (okp := fun _ => True) ?hr ?hp (fun _ hk => hk) trivial (Below.refl _ _) (Nat.le_refl _) (by simp) ?_; (case hd => rfl); (case hg => rfl); (case hr => first | (go_simp; done) | (go_simp; rfl)); (case hp => exact (Reps.one (show Kd.M (Kd.int .u64) _ _ _ 1 [.int .u64 1] from rfl) (Reps.none _ _))); intro v428 w152 ho153 hb hg_ hnew_; clear hg_ hnew_; (first | rw [← Ny427.out] at ho153 | (simp only [Int.reduceToNat] at ho153; rw [← Ny427.out] at ho153)); have n0_ := Aside0.mk (Kd.V_elder' (by (with_reducible repeat (first | apply Kd.V_alloc | apply Kd.V_drewN | apply Kd.V_drew)); exact HO_8.out) (Kd.R_base ho153) hb); have n1_ := Aside0.mk (Kd.R_lower ho153 (below_size (by repeat (first | (with_reducible first | exact HB.out | apply below_alloc | apply pw_below_drewN | apply below_drew1) | exact HB.out)))); have n2_ := Aside0.mk (below_step (by repeat (first | (with_reducible first | exact HB.out | apply below_alloc | apply pw_below_drewN | apply below_drew1) | exact HB.out)) hb); clear HO_8; clear HB; have HO_8 := n0_; have HO429 := n1_; have HB := n2_; clear n0_ n1_ n2_; clear hb ho153; obtain ⟨Ao154, co154, eo154⟩ := Kd.R_slice HO429.out; subst eo154) | ((with_reducible refine gate_callee (f := 37) rfl ?_); refine goesL_ (some 140) rfl rfl Tryd.func37 (by kernel_rfl) rfl #[.slice Ao149 t413.length co149, .slice Ao154 y427.length co154] rfl (by (try simp only [List.map_toArray, List.map_cons, List.map_nil]); first | done | rfl | (simp only [List.length_drop, List.length_take]; rfl) | (simp only [gt_iff_lt, Int.natCast_pos]; done) | (simp only [gt_iff_lt, Int.natCast_pos]; rfl)) ?_; (with_reducible refine (nat_Add.calls kj75 (fun k_ => (True ∧ some k_ ≠ (.slice Ao154 y427.length co154 : Value).ownBlock)) _ _ t413 (fun k_ => some k_ = (.slice Ao154 y427.length co154 : Value).ownBlock) _ _ y427 t430 t433 _ ?side1 ?side2 A142.out).mono ?_); (case side1 => exact HO_8.out); (case side2 => exact Kd.R_V (Kd.R_tight rfl (HO429.out))); rintro e w155 ⟨v431, rfl, ho0, hb⟩; refine ⟨_, rfl, ?_⟩; have n0_ := Aside0.mk (Kd.V_below (by (with_reducible repeat (first | apply Kd.V_alloc | apply Kd.V_drewN | apply Kd.V_drew)); exact HO_8.out) hb); have n1_ := Aside0.mk (Kd.R_below (by (with_reducible repeat (first | apply Kd.R_alloc | apply Kd.R_drewN | apply Kd.R_drew)); exact HO429.out) hb); have n2_ := Aside0.mk (Kd.V_lower (Kd.V_mono (ok' := fun k_ => True) ho0 (fun k_ hk_ => trivial)) (below_size (by repeat (first | (with_reducible first | exact HB.out | apply below_alloc | apply pw_below_drewN | apply below_drew1) | exact HB.out)))); have n3_ := Aside0.mk (below_step (by repeat (first | (with_reducible first | exact HB.out | apply below_alloc | apply pw_below_drewN | apply below_drew1) | exact HB.out)) hb); clear HO_8; clear HO429; clear HB; have HO_8 := n0_; have HO429 := n1_; have HO432 := n2_; have HB := n3_; clear n0_ n1_ n2_ n3_; (try clear hb); (try clear hb2); (try clear hk); (try clear hi); (try clear ho0); obtain ⟨Ao156, co156, eo156⟩ := Kd.V_slice HO432.out; subst eo156) | ((with_reducible refine gate_callee (f := 15) rfl ?_); refine goesL_ (some 145) rfl rfl Tryd.func15 (by kernel_rfl) rfl #[.bool false, .slice Ao156 t430.length co156, .int .i64 0, .bool false] rfl (by (try simp only [List.map_toArray, List.map_cons, List.map_nil]); first | done | rfl | (simp only [List.length_drop, List.length_take]; rfl) | (simp only [gt_iff_lt, Int.natCast_pos]; done) | (simp only [gt_iff_lt, Int.natCast_pos]; rfl)) ?_; (with_reducible refine (ieee_Round.calls kj75 false _ _ t430 0 false t434 t435 _ ?side3 ?side1 ?side2 A143.out).mono ?_); (case side1 => repeat (first | exact (Kd.V_reads' HO432.out).2.2 | (with_reducible refine Kd.C_alloc ?_ _) | (with_reducible refine Kd.C_drewN ?_ _) | (with_reducible refine Kd.C_drew ?_))); (case side2 => exact (Kd.V_reads' HO432.out).2.1); (case side3 => repeat (first | exact (Kd.C_below HT.out HB.out) | (with_reducible refine Kd.C_alloc ?_ _) | (with_reducible refine Kd.C_drewN ?_ _) | (with_reducible refine Kd.C_drew ?_))); rintro e w157 ⟨rfl, hb⟩; refine ⟨_, rfl, ?_⟩; have n0_ := Aside0.mk (Kd.V_below (by (with_reducible repeat (first | apply Kd.V_alloc | apply Kd.V_drewN | apply Kd.V_drew)); exact HO_8.out) hb); have n1_ := Aside0.mk (Kd.R_below (by (with_reducible repeat (first | apply Kd.R_alloc | apply Kd.R_drewN | apply Kd.R_drew)); exact HO429.out) hb); have n2_ := Aside0.mk (Kd.V_below (by (with_reducible repeat (first | apply Kd.V_alloc | apply Kd.V_drewN | apply Kd.V_drew)); exact HO432.out) hb); have n3_ := Aside0.mk (below_step (by repeat (first | (with_reducible first | exact HB.out | apply below_alloc | apply pw_below_drewN | apply below_drew1) | exact HB.out)) hb); clear HO_8; clear HO429; clear HO432; clear HB; have HO_8 := n0_; have HO429 := n1_; have HO432 := n2_; have HB := n3_; clear n0_ n1_ n2_ n3_; (try clear hb); (try clear hb2); (try clear hk); (try clear hi)) | ((with_reducible refine gate_callee (f := 20) rfl ?_); refine goesL_ (some 151) rfl rfl Tryd.func20 (by kernel_rfl) rfl #[.int .u64 a0] rfl (by (try simp only [List.map_toArray, List.map_cons, List.map_nil]); first | done | rfl | (simp only [List.length_drop, List.length_take]; rfl) | (simp only [gt_iff_lt, Int.natCast_pos]; done) | (simp only [gt_iff_lt, Int.natCast_pos]; rfl)) ?_; (with_reducible refine (ieee_Abs.calls a0 t436 _ A144.out).mono ?_); rintro e w' ⟨rfl, ⟨nd, rfl⟩⟩; refine ⟨_, rfl, ?_⟩) | ((with_reducible refine gate_callee (f := 26) rfl ?_); refine goesL_ (some 152) rfl rfl Tryd.func26 (by kernel_rfl) rfl #[.int .u64 t420, .int .u64 t436] rfl (by (try simp only [List.map_toArray, List.map_cons, List.map_nil]); first | done | rfl | (simp only [List.length_drop, List.length_take]; rfl) | (simp only [gt_iff_lt, Int.natCast_pos]; done) | (simp only [gt_iff_lt, Int.natCast_pos]; rfl)) ?_; (with_reducible refine (ieee_Compare.calls t420 t436 t437 t438 _ A145.out).mono ?_); rintro e w' ⟨rfl, ⟨nd, rfl⟩⟩; refine ⟨_, rfl, ?_⟩) | ((with_reducible refine gate_callee (f := 20) rfl ?_); refine goesL_ (some 157) rfl rfl Tryd.func20 (by kernel_rfl) rfl #[.int .u64 a0] rfl (by (try simp only [List.map_toArray, List.map_cons, List.map_nil]); first | done | rfl | (simp only [List.length_drop, List.length_take]; rfl) | (simp only [gt_iff_lt, Int.natCast_pos]; done) | (simp only [gt_iff_lt, Int.natCast_pos]; rfl)) ?_; (with_reducible refine (ieee_Abs.calls a0 t439 _ A146.out).mono ?_); rintro e w' ⟨rfl, ⟨nd, rfl⟩⟩; refine ⟨_, rfl, ?_⟩) | ((with_reducible refine gate_callee (f := 26) rfl ?_); refine goesL_ (some 159) rfl rfl Tryd.func26 (by kernel_rfl) rfl #[.int .u64 t439, .int .u64 t434] rfl (by (try simp only [List.map_toArray, List.map_cons, List.map_nil]); first | done | rfl | (simp only [List.length_drop, List.length_take]; rfl) | (simp only [gt_iff_lt, Int.natCast_pos]; done) | (simp only [gt_iff_lt, Int.natCast_pos]; rfl)) ?_; (with_reducible refine (ieee_Compare.calls t439 t434 t440 t441 _ A147.out).mono ?_); rintro e w' ⟨rfl, ⟨nd, rfl⟩⟩; refine ⟨_, rfl, ?_⟩))
                              (try simp only [Act.put, List.setIfInBounds_toArray, List.set_cons_zero, List.set_cons_succ])
                              go_cut [171] (fun v171 wc => ∃ (kq : Nat) (x171_147 : Bool), v171 = .bool x171_147 ∧ Aside0 (abacuslaw04_IeeeWhole.j4 kq t412 t413 t417 t418 x171_147 = some r) ∧ Aside0 (kq ≤ kj75) ∧ Aside0 (Kd.V (Kd.int .u64) 28 wc w.heap.size (fun _ => True) (.slice Ao149 t413.length co149) t413) ∧ Aside0 (Below w.heap.size w wc))
                              case first =>
                                have H := HC148.out
                                clear HC148
                                by_cases c158 : t433 = 0
                                · rw [if_pos c158] at H
                                  have c158b0 : (t433 == 0) = true := beq_iff_eq.mpr c158
                                  have c158b1 : (t433 != 0) = false := bne_eq_false_iff_eq.mpr c158
                                  clear c158
                                  (first | rw [c158b0] | (simp only [i64_w, i32_w]; rw [c158b0]) | rw [c158b1] | skip)
                                  by_cases c159 : t437 = (-1)
                                  · rw [if_pos c159] at H
                                    have c159b0 : (t437 == (-1)) = true := beq_iff_eq.mpr c159
                                    have c159b1 : (t437 != (-1)) = false := bne_eq_false_iff_eq.mpr c159
                                    clear c159
                                    as_aux_lemma =>
                                      have H' := Aside0.mk H
                                      clear H
                                      go_wp2
                                      go_meet
                                      case rel => exact ⟨_, ((t440 != (-1))), (by first | rfl | (have e_ := Option.some.inj (A83.out.symm.trans A88.out); cases e_; rfl) | (have e_ := Option.some.inj (A83.out.symm.trans A144.out); cases e_; rfl) | (have e_ := Option.some.inj (A88.out.symm.trans A144.out); cases e_; rfl) | (have e_ := Option.some.inj (A83.out.symm.trans A146.out); cases e_; rfl) | (have e_ := Option.some.inj (A88.out.symm.trans A146.out); cases e_; rfl) | (have e_ := Option.some.inj (A144.out.symm.trans A146.out); cases e_; rfl) | (simp; done) | (simp [*]; done)), H', ⟨by have := HJ4.out; have := HJ7.out; have := HJ28.out; have := HJ75.out; first | omega | exact Nat.le_refl _⟩, ⟨by (with_reducible repeat (first | apply Kd.V_alloc | apply Kd.V_drewN | apply Kd.V_drew)); exact Kd.V_mono HO_8.out (fun _ hk => trivial)⟩, ⟨by repeat (first | (with_reducible first | exact HB.out | apply below_alloc | apply pw_below_drewN | apply below_drew1) | exact HB.out)⟩⟩
                                  · rw [if_neg c159] at H
                                    have c159b0 : (t437 == (-1)) = false := beq_eq_false_iff_ne.mpr c159
                                    have c159b1 : (t437 != (-1)) = true := bne_iff_ne.mpr c159
                                    as_aux_lemma =>
                                      have H' := Aside0.mk H
                                      clear H
                                      go_wp2
                                      go_meet
                                      case rel => exact ⟨_, (true), (by first | rfl | (have e_ := Option.some.inj (A83.out.symm.trans A88.out); cases e_; rfl) | (have e_ := Option.some.inj (A83.out.symm.trans A144.out); cases e_; rfl) | (have e_ := Option.some.inj (A88.out.symm.trans A144.out); cases e_; rfl) | (have e_ := Option.some.inj (A83.out.symm.trans A146.out); cases e_; rfl) | (have e_ := Option.some.inj (A88.out.symm.trans A146.out); cases e_; rfl) | (have e_ := Option.some.inj (A144.out.symm.trans A146.out); cases e_; rfl) | (simp; done) | (simp [*]; done)), H', ⟨by have := HJ4.out; have := HJ7.out; have := HJ28.out; have := HJ75.out; first | omega | exact Nat.le_refl _⟩, ⟨by (with_reducible repeat (first | apply Kd.V_alloc | apply Kd.V_drewN | apply Kd.V_drew)); exact Kd.V_mono HO_8.out (fun _ hk => trivial)⟩, ⟨by repeat (first | (with_reducible first | exact HB.out | apply below_alloc | apply pw_below_drewN | apply below_drew1) | exact HB.out)⟩⟩
                                · rw [if_neg c158] at H
                                  have c158b0 : (t433 == 0) = false := beq_eq_false_iff_ne.mpr c158
                                  have c158b1 : (t433 != 0) = true := bne_iff_ne.mpr c158
                                  (first | rw [c158b0] | (simp only [i64_w, i32_w]; rw [c158b0]) | rw [c158b1] | skip)
                                  as_aux_lemma =>
                                    have H' := Aside0.mk H
                                    clear H
                                    go_wp2
                                    go_meet
                                    case rel => exact ⟨_, (true), (by first | rfl | (have e_ := Option.some.inj (A83.out.symm.trans A88.out); cases e_; rfl) | (have e_ := Option.some.inj (A83.out.symm.trans A144.out); cases e_; rfl) | (have e_ := Option.some.inj (A88.out.symm.trans A144.out); cases e_; rfl) | (have e_ := Option.some.inj (A83.out.symm.trans A146.out); cases e_; rfl) | (have e_ := Option.some.inj (A88.out.symm.trans A146.out); cases e_; rfl) | (have e_ := Option.some.inj (A144.out.symm.trans A146.out); cases e_; rfl) | (simp; done) | (simp [*]; done)), H', ⟨by have := HJ4.out; have := HJ7.out; have := HJ28.out; have := HJ75.out; first | omega | exact Nat.le_refl _⟩, ⟨by (with_reducible repeat (first | apply Kd.V_alloc | apply Kd.V_drewN | apply Kd.V_drew)); exact Kd.V_mono HO_8.out (fun _ hk => trivial)⟩, ⟨by repeat (first | (with_reducible first | exact HB.out | apply below_alloc | apply pw_below_drewN | apply below_drew1) | exact HB.out)⟩⟩
                              case rest =>
                                clear HC148
                                try clear c1
                                try clear c2
                                try clear p2
                                try clear c3
                                try clear c4
                                try clear c5
                                try clear c6
                                try clear c7
                                try clear c7b0
                                try clear c7b1
                                try clear c8
                                try clear c9
                                try clear c10
                                try clear c11
                                try clear c12
                                try clear c12b0
                                try clear c12b1
                                try clear c13
                                try clear c13b0
                                try clear c13b1
                                try clear c15
                                try clear c16
                                try clear c20
                                try clear c26
                                try clear c30
                                try clear c30b0
                                try clear c30b1
                                try clear c32
                                try clear c33
                                try clear c33b0
                                try clear c33b1
                                try clear c34
                                try clear c34b0
                                try clear c36
                                try clear c37
                                try clear c38
                                try clear c45
                                try clear c45b0
                                try clear c50
                                try clear c53
                                try clear c53b0
                                try clear c54
                                try clear c54b0
                                try clear c54b1
                                try clear c55
                                try clear c55b0
                                try clear c55b1
                                try clear c56
                                try clear c59
                                try clear c59b0
                                try clear c59b1
                                try clear c59b2
                                try clear c60
                                try clear c60b0
                                try clear c60b1
                                try clear c79
                                try clear c79b0
                                try clear c79b1
                                try clear c80
                                try clear c84
                                try clear c84b0
                                try clear c84b1
                                try clear c84b2
                                try clear c89
                                try clear c89b0
                                try clear c89b1
                                try clear c91
                                try clear c92
                                try clear c92b0
                                try clear c93
                                try clear c93b0
                                try clear c93b1
                                try clear c100
                                try clear c100b0
                                try clear c100b1
                                try clear c101
                                try clear c102
                                try clear c102b0
                                try clear c102b1
                                try clear c103
                                try clear c103b0
                                try clear c103b1
                                try clear c113
                                try clear c113b0
                                try clear c113b1
                                try clear c120
                                try clear c120b0
                                try clear c120b1
                                try clear c121
                                try clear c122
                                try clear c122b0
                                try clear c122b1
                                try clear c135
                                try clear c135b0
                                try clear c135b1
                                try clear c158
                                try clear c158b0
                                try clear c158b1
                                try clear c159
                                try clear c159b0
                                try clear c159b1
                                try clear p2
                                obtain ⟨kq, x171_147, rfl, HA, HJ147, HO_8, HB⟩ := hcut
                                cases kq with
                                | zero => exact absurd HA.out (by simp [abacuslaw04_IeeeWhole.j4])
                                | succ kj147 =>
                                  have H := HA.out
                                  clear HA
                                  simp only [abacuslaw04_IeeeWhole.j4] at H
                                  by_cases c160 : x171_147 = true
                                  · subst c160
                                    have H1 : (some false) = some r := by rw [if_pos rfl] at H; exact H
                                    clear H
                                    have H := H1
                                    clear H1
                                    as_aux_lemma =>
                                      obtain rfl := Option.some.inj H
                                      go_wp2
                                      go_ret
                                      exact ⟨by first | rfl | (have e_ := Option.some.inj (A83.out.symm.trans A88.out); cases e_; rfl) | (have e_ := Option.some.inj (A83.out.symm.trans A144.out); cases e_; rfl) | (have e_ := Option.some.inj (A88.out.symm.trans A144.out); cases e_; rfl) | (have e_ := Option.some.inj (A83.out.symm.trans A146.out); cases e_; rfl) | (have e_ := Option.some.inj (A88.out.symm.trans A146.out); cases e_; rfl) | (have e_ := Option.some.inj (A144.out.symm.trans A146.out); cases e_; rfl) | (simp [errW_none, errW_some] <;> rfl) | (simp [*, errW_none, errW_some] <;> rfl), by repeat (first | (with_reducible first | exact HB.out | apply below_alloc | apply pw_below_drewN | apply below_drew1) | exact HB.out)⟩
                                  · replace c160 := Bool.eq_false_iff.mpr c160
                                    subst c160
                                    have H1 : ((nat_ToUint.f kj147 t413).bind fun bt442 => (if bt442.2 = true then (if bt442.1 > 9223372036854775808 then (if t418 = 41 then (some (t417 == 0)) else (some false)) else (if bt442.1 = 9223372036854775808 then (if t412 = true then (if t418 = 0 then (if (IntKind.u64.wrap (t417)) = (IntKind.u64.wrap (-bt442.1)) then (some true) else (some false)) else (some false)) else (if t418 = 41 then (some (t417 == 0)) else (some false))) else (if t418 = 0 then (if t412 = true then (if (IntKind.u64.wrap (t417)) = (IntKind.u64.wrap (-bt442.1)) then (some true) else (some false)) else (some ((IntKind.u64.wrap (t417)) == bt442.1))) else (some false)))) else (if t418 = 41 then (some (t417 == 0)) else (some false)))) = some r := by rw [if_neg (show ¬ (false = true) by decide)] at H; exact H
                                    clear H
                                    have H := H1
                                    clear H1
                                    replace H := Option.bind_eq_some_iff.mp H
                                    obtain ⟨⟨t442, t443⟩, A1610, H⟩ := H
                                    replace H : (if t443 = true then (if t442 > 9223372036854775808 then (if t418 = 41 then (some (t417 == 0)) else (some false)) else (if t442 = 9223372036854775808 then (if t412 = true then (if t418 = 0 then (if (IntKind.u64.wrap (t417)) = (IntKind.u64.wrap (-t442)) then (some true) else (some false)) else (some false)) else (if t418 = 41 then (some (t417 == 0)) else (some false))) else (if t418 = 0 then (if t412 = true then (if (IntKind.u64.wrap (t417)) = (IntKind.u64.wrap (-t442)) then (some true) else (some false)) else (some ((IntKind.u64.wrap (t417)) == t442))) else (some false)))) else (if t418 = 41 then (some (t417 == 0)) else (some false))) = some r := H
                                    have A161 := Aside0.mk A1610
                                    clear A1610
                                    by_cases c162 : t443 = true
                                    · subst c162
                                      have H1 : (if t442 > 9223372036854775808 then (if t418 = 41 then (some (t417 == 0)) else (some false)) else (if t442 = 9223372036854775808 then (if t412 = true then (if t418 = 0 then (if (IntKind.u64.wrap (t417)) = (IntKind.u64.wrap (-t442)) then (some true) else (some false)) else (some false)) else (if t418 = 41 then (some (t417 == 0)) else (some false))) else (if t418 = 0 then (if t412 = true then (if (IntKind.u64.wrap (t417)) = (IntKind.u64.wrap (-t442)) then (some true) else (some false)) else (some ((IntKind.u64.wrap (t417)) == t442))) else (some false)))) = some r := by rw [if_pos rfl] at H; exact H
                                      clear H
                                      have H := H1
                                      clear H1
                                      by_cases c163 : t442 > 9223372036854775808
                                      · rw [if_pos c163] at H
                                        have c163b0 : decide (9223372036854775808 < t442) = true := decide_eq_true c163
                                        clear c163
                                        by_cases c164 : t418 = 41
                                        · rw [if_pos c164] at H
                                          have c164b0 : (t418 == 41) = true := beq_iff_eq.mpr c164
                                          have c164b1 : (t418 != 41) = false := bne_eq_false_iff_eq.mpr c164
                                          clear c164
                                          as_aux_lemma =>
                                            obtain rfl := Option.some.inj H
                                            go_wp2_with (first | ((with_reducible refine gate_callee (f := 38) rfl ?_); refine goesL_ (some 174) rfl rfl Tryd.func38 (by kernel_rfl) rfl #[.slice Ao149 t413.length co149] rfl (by (try simp only [List.map_toArray, List.map_cons, List.map_nil]); first | done | rfl | (simp only [List.length_drop, List.length_take]; rfl) | (simp only [gt_iff_lt, Int.natCast_pos]; done) | (simp only [gt_iff_lt, Int.natCast_pos]; rfl)) ?_; (with_reducible refine (nat_ToUint.calls kj147 _ _ t413 t442 true _ ?side1 ?side2 A161.out).mono ?_); (case side1 => repeat (first | exact (Kd.V_reads' HO_8.out).2.2 | (with_reducible refine Kd.C_alloc ?_ _) | (with_reducible refine Kd.C_drewN ?_ _) | (with_reducible refine Kd.C_drew ?_))); (case side2 => exact (Kd.V_reads' HO_8.out).2.1); rintro e w' ⟨rfl, ⟨nd, rfl⟩⟩; refine ⟨_, rfl, ?_⟩))
                                            go_ret
                                            exact ⟨by first | rfl | (have e_ := Option.some.inj (A83.out.symm.trans A88.out); cases e_; rfl) | (have e_ := Option.some.inj (A83.out.symm.trans A144.out); cases e_; rfl) | (have e_ := Option.some.inj (A88.out.symm.trans A144.out); cases e_; rfl) | (have e_ := Option.some.inj (A83.out.symm.trans A146.out); cases e_; rfl) | (have e_ := Option.some.inj (A88.out.symm.trans A146.out); cases e_; rfl) | (have e_ := Option.some.inj (A144.out.symm.trans A146.out); cases e_; rfl) | (simp [errW_none, errW_some] <;> rfl) | (simp [*, errW_none, errW_some] <;> rfl), by repeat (first | (with_reducible first | exact HB.out | apply below_alloc | apply pw_below_drewN | apply below_drew1) | exact HB.out)⟩
                                        · rw [if_neg c164] at H
                                          have c164b0 : (t418 == 41) = false := beq_eq_false_iff_ne.mpr c164
                                          have c164b1 : (t418 != 41) = true := bne_iff_ne.mpr c164
                                          as_aux_lemma =>
                                            obtain rfl := Option.some.inj H
                                            go_wp2_with (first | ((with_reducible refine gate_callee (f := 38) rfl ?_); refine goesL_ (some 174) rfl rfl Tryd.func38 (by kernel_rfl) rfl #[.slice Ao149 t413.length co149] rfl (by (try simp only [List.map_toArray, List.map_cons, List.map_nil]); first | done | rfl | (simp only [List.length_drop, List.length_take]; rfl) | (simp only [gt_iff_lt, Int.natCast_pos]; done) | (simp only [gt_iff_lt, Int.natCast_pos]; rfl)) ?_; (with_reducible refine (nat_ToUint.calls kj147 _ _ t413 t442 true _ ?side1 ?side2 A161.out).mono ?_); (case side1 => repeat (first | exact (Kd.V_reads' HO_8.out).2.2 | (with_reducible refine Kd.C_alloc ?_ _) | (with_reducible refine Kd.C_drewN ?_ _) | (with_reducible refine Kd.C_drew ?_))); (case side2 => exact (Kd.V_reads' HO_8.out).2.1); rintro e w' ⟨rfl, ⟨nd, rfl⟩⟩; refine ⟨_, rfl, ?_⟩))
                                            go_ret
                                            exact ⟨by first | rfl | (have e_ := Option.some.inj (A83.out.symm.trans A88.out); cases e_; rfl) | (have e_ := Option.some.inj (A83.out.symm.trans A144.out); cases e_; rfl) | (have e_ := Option.some.inj (A88.out.symm.trans A144.out); cases e_; rfl) | (have e_ := Option.some.inj (A83.out.symm.trans A146.out); cases e_; rfl) | (have e_ := Option.some.inj (A88.out.symm.trans A146.out); cases e_; rfl) | (have e_ := Option.some.inj (A144.out.symm.trans A146.out); cases e_; rfl) | (simp [errW_none, errW_some] <;> rfl) | (simp [*, errW_none, errW_some] <;> rfl), by repeat (first | (with_reducible first | exact HB.out | apply below_alloc | apply pw_below_drewN | apply below_drew1) | exact HB.out)⟩
                                      · rw [if_neg c163] at H
                                        have c163b0 : decide (9223372036854775808 < t442) = false := decide_eq_false c163
                                        clear c163
                                        by_cases c165 : t442 = 9223372036854775808
                                        · rw [if_pos c165] at H
                                          have c165b0 : (t442 == 9223372036854775808) = true := beq_iff_eq.mpr c165
                                          have c165b1 : (t442 != 9223372036854775808) = false := bne_eq_false_iff_eq.mpr c165
                                          clear c165
                                          by_cases c166 : t412 = true
                                          · subst c166
                                            have H1 : (if t418 = 0 then (if (IntKind.u64.wrap (t417)) = (IntKind.u64.wrap (-t442)) then (some true) else (some false)) else (some false)) = some r := by rw [if_pos rfl] at H; exact H
                                            clear H
                                            have H := H1
                                            clear H1
                                            by_cases c167 : t418 = 0
                                            · rw [if_pos c167] at H
                                              have c167b0 : (t418 == 0) = true := beq_iff_eq.mpr c167
                                              have c167b1 : (t418 != 0) = false := bne_eq_false_iff_eq.mpr c167
                                              clear c167
                                              by_cases c168 : (IntKind.u64.wrap (t417)) = (IntKind.u64.wrap (-t442))
                                              · rw [if_pos c168] at H
                                                have c168b0 : ((IntKind.u64.wrap (t417)) == (IntKind.u64.wrap (-t442))) = true := beq_iff_eq.mpr c168
                                                have c168b1 : ((IntKind.u64.wrap (t417)) != (IntKind.u64.wrap (-t442))) = false := bne_eq_false_iff_eq.mpr c168
                                                clear c168
                                                as_aux_lemma =>
                                                  obtain rfl := Option.some.inj H
                                                  go_wp2_with (first | ((with_reducible refine gate_callee (f := 38) rfl ?_); refine goesL_ (some 174) rfl rfl Tryd.func38 (by kernel_rfl) rfl #[.slice Ao149 t413.length co149] rfl (by (try simp only [List.map_toArray, List.map_cons, List.map_nil]); first | done | rfl | (simp only [List.length_drop, List.length_take]; rfl) | (simp only [gt_iff_lt, Int.natCast_pos]; done) | (simp only [gt_iff_lt, Int.natCast_pos]; rfl)) ?_; (with_reducible refine (nat_ToUint.calls kj147 _ _ t413 t442 true _ ?side1 ?side2 A161.out).mono ?_); (case side1 => repeat (first | exact (Kd.V_reads' HO_8.out).2.2 | (with_reducible refine Kd.C_alloc ?_ _) | (with_reducible refine Kd.C_drewN ?_ _) | (with_reducible refine Kd.C_drew ?_))); (case side2 => exact (Kd.V_reads' HO_8.out).2.1); rintro e w' ⟨rfl, ⟨nd, rfl⟩⟩; refine ⟨_, rfl, ?_⟩))
                                                  go_ret
                                                  exact ⟨by first | rfl | (have e_ := Option.some.inj (A83.out.symm.trans A88.out); cases e_; rfl) | (have e_ := Option.some.inj (A83.out.symm.trans A144.out); cases e_; rfl) | (have e_ := Option.some.inj (A88.out.symm.trans A144.out); cases e_; rfl) | (have e_ := Option.some.inj (A83.out.symm.trans A146.out); cases e_; rfl) | (have e_ := Option.some.inj (A88.out.symm.trans A146.out); cases e_; rfl) | (have e_ := Option.some.inj (A144.out.symm.trans A146.out); cases e_; rfl) | (simp [errW_none, errW_some] <;> rfl) | (simp [*, errW_none, errW_some] <;> rfl), by repeat (first | (with_reducible first | exact HB.out | apply below_alloc | apply pw_below_drewN | apply below_drew1) | exact HB.out)⟩
                                              · rw [if_neg c168] at H
                                                have c168b0 : ((IntKind.u64.wrap (t417)) == (IntKind.u64.wrap (-t442))) = false := beq_eq_false_iff_ne.mpr c168
                                                have c168b1 : ((IntKind.u64.wrap (t417)) != (IntKind.u64.wrap (-t442))) = true := bne_iff_ne.mpr c168
                                                as_aux_lemma =>
                                                  obtain rfl := Option.some.inj H
                                                  go_wp2_with (first | ((with_reducible refine gate_callee (f := 38) rfl ?_); refine goesL_ (some 174) rfl rfl Tryd.func38 (by kernel_rfl) rfl #[.slice Ao149 t413.length co149] rfl (by (try simp only [List.map_toArray, List.map_cons, List.map_nil]); first | done | rfl | (simp only [List.length_drop, List.length_take]; rfl) | (simp only [gt_iff_lt, Int.natCast_pos]; done) | (simp only [gt_iff_lt, Int.natCast_pos]; rfl)) ?_; (with_reducible refine (nat_ToUint.calls kj147 _ _ t413 t442 true _ ?side1 ?side2 A161.out).mono ?_); (case side1 => repeat (first | exact (Kd.V_reads' HO_8.out).2.2 | (with_reducible refine Kd.C_alloc ?_ _) | (with_reducible refine Kd.C_drewN ?_ _) | (with_reducible refine Kd.C_drew ?_))); (case side2 => exact (Kd.V_reads' HO_8.out).2.1); rintro e w' ⟨rfl, ⟨nd, rfl⟩⟩; refine ⟨_, rfl, ?_⟩))
                                                  go_ret
                                                  exact ⟨by first | rfl | (have e_ := Option.some.inj (A83.out.symm.trans A88.out); cases e_; rfl) | (have e_ := Option.some.inj (A83.out.symm.trans A144.out); cases e_; rfl) | (have e_ := Option.some.inj (A88.out.symm.trans A144.out); cases e_; rfl) | (have e_ := Option.some.inj (A83.out.symm.trans A146.out); cases e_; rfl) | (have e_ := Option.some.inj (A88.out.symm.trans A146.out); cases e_; rfl) | (have e_ := Option.some.inj (A144.out.symm.trans A146.out); cases e_; rfl) | (simp [errW_none, errW_some] <;> rfl) | (simp [*, errW_none, errW_some] <;> rfl), by repeat (first | (with_reducible first | exact HB.out | apply below_alloc | apply pw_below_drewN | apply below_drew1) | exact HB.out)⟩
                                            · rw [if_neg c167] at H
                                              have c167b0 : (t418 == 0) = false := beq_eq_false_iff_ne.mpr c167
                                              have c167b1 : (t418 != 0) = true := bne_iff_ne.mpr c167
                                              as_aux_lemma =>
                                                obtain rfl := Option.some.inj H
                                                go_wp2_with (first | ((with_reducible refine gate_callee (f := 38) rfl ?_); refine goesL_ (some 174) rfl rfl Tryd.func38 (by kernel_rfl) rfl #[.slice Ao149 t413.length co149] rfl (by (try simp only [List.map_toArray, List.map_cons, List.map_nil]); first | done | rfl | (simp only [List.length_drop, List.length_take]; rfl) | (simp only [gt_iff_lt, Int.natCast_pos]; done) | (simp only [gt_iff_lt, Int.natCast_pos]; rfl)) ?_; (with_reducible refine (nat_ToUint.calls kj147 _ _ t413 t442 true _ ?side1 ?side2 A161.out).mono ?_); (case side1 => repeat (first | exact (Kd.V_reads' HO_8.out).2.2 | (with_reducible refine Kd.C_alloc ?_ _) | (with_reducible refine Kd.C_drewN ?_ _) | (with_reducible refine Kd.C_drew ?_))); (case side2 => exact (Kd.V_reads' HO_8.out).2.1); rintro e w' ⟨rfl, ⟨nd, rfl⟩⟩; refine ⟨_, rfl, ?_⟩))
                                                go_ret
                                                exact ⟨by first | rfl | (have e_ := Option.some.inj (A83.out.symm.trans A88.out); cases e_; rfl) | (have e_ := Option.some.inj (A83.out.symm.trans A144.out); cases e_; rfl) | (have e_ := Option.some.inj (A88.out.symm.trans A144.out); cases e_; rfl) | (have e_ := Option.some.inj (A83.out.symm.trans A146.out); cases e_; rfl) | (have e_ := Option.some.inj (A88.out.symm.trans A146.out); cases e_; rfl) | (have e_ := Option.some.inj (A144.out.symm.trans A146.out); cases e_; rfl) | (simp [errW_none, errW_some] <;> rfl) | (simp [*, errW_none, errW_some] <;> rfl), by repeat (first | (with_reducible first | exact HB.out | apply below_alloc | apply pw_below_drewN | apply below_drew1) | exact HB.out)⟩
                                          · replace c166 := Bool.eq_false_iff.mpr c166
                                            subst c166
                                            have H1 : (if t418 = 41 then (some (t417 == 0)) else (some false)) = some r := by rw [if_neg (show ¬ (false = true) by decide)] at H; exact H
                                            clear H
                                            have H := H1
                                            clear H1
                                            by_cases c169 : t418 = 41
                                            · rw [if_pos c169] at H
                                              have c169b0 : (t418 == 41) = true := beq_iff_eq.mpr c169
                                              have c169b1 : (t418 != 41) = false := bne_eq_false_iff_eq.mpr c169
                                              clear c169
                                              as_aux_lemma =>
                                                obtain rfl := Option.some.inj H
                                                go_wp2_with (first | ((with_reducible refine gate_callee (f := 38) rfl ?_); refine goesL_ (some 174) rfl rfl Tryd.func38 (by kernel_rfl) rfl #[.slice Ao149 t413.length co149] rfl (by (try simp only [List.map_toArray, List.map_cons, List.map_nil]); first | done | rfl | (simp only [List.length_drop, List.length_take]; rfl) | (simp only [gt_iff_lt, Int.natCast_pos]; done) | (simp only [gt_iff_lt, Int.natCast_pos]; rfl)) ?_; (with_reducible refine (nat_ToUint.calls kj147 _ _ t413 t442 true _ ?side1 ?side2 A161.out).mono ?_); (case side1 => repeat (first | exact (Kd.V_reads' HO_8.out).2.2 | (with_reducible refine Kd.C_alloc ?_ _) | (with_reducible refine Kd.C_drewN ?_ _) | (with_reducible refine Kd.C_drew ?_))); (case side2 => exact (Kd.V_reads' HO_8.out).2.1); rintro e w' ⟨rfl, ⟨nd, rfl⟩⟩; refine ⟨_, rfl, ?_⟩))
                                                go_ret
                                                exact ⟨by first | rfl | (have e_ := Option.some.inj (A83.out.symm.trans A88.out); cases e_; rfl) | (have e_ := Option.some.inj (A83.out.symm.trans A144.out); cases e_; rfl) | (have e_ := Option.some.inj (A88.out.symm.trans A144.out); cases e_; rfl) | (have e_ := Option.some.inj (A83.out.symm.trans A146.out); cases e_; rfl) | (have e_ := Option.some.inj (A88.out.symm.trans A146.out); cases e_; rfl) | (have e_ := Option.some.inj (A144.out.symm.trans A146.out); cases e_; rfl) | (simp [errW_none, errW_some] <;> rfl) | (simp [*, errW_none, errW_some] <;> rfl), by repeat (first | (with_reducible first | exact HB.out | apply below_alloc | apply pw_below_drewN | apply below_drew1) | exact HB.out)⟩
                                            · rw [if_neg c169] at H
                                              have c169b0 : (t418 == 41) = false := beq_eq_false_iff_ne.mpr c169
                                              have c169b1 : (t418 != 41) = true := bne_iff_ne.mpr c169
                                              as_aux_lemma =>
                                                obtain rfl := Option.some.inj H
                                                go_wp2_with (first | ((with_reducible refine gate_callee (f := 38) rfl ?_); refine goesL_ (some 174) rfl rfl Tryd.func38 (by kernel_rfl) rfl #[.slice Ao149 t413.length co149] rfl (by (try simp only [List.map_toArray, List.map_cons, List.map_nil]); first | done | rfl | (simp only [List.length_drop, List.length_take]; rfl) | (simp only [gt_iff_lt, Int.natCast_pos]; done) | (simp only [gt_iff_lt, Int.natCast_pos]; rfl)) ?_; (with_reducible refine (nat_ToUint.calls kj147 _ _ t413 t442 true _ ?side1 ?side2 A161.out).mono ?_); (case side1 => repeat (first | exact (Kd.V_reads' HO_8.out).2.2 | (with_reducible refine Kd.C_alloc ?_ _) | (with_reducible refine Kd.C_drewN ?_ _) | (with_reducible refine Kd.C_drew ?_))); (case side2 => exact (Kd.V_reads' HO_8.out).2.1); rintro e w' ⟨rfl, ⟨nd, rfl⟩⟩; refine ⟨_, rfl, ?_⟩))
                                                go_ret
                                                exact ⟨by first | rfl | (have e_ := Option.some.inj (A83.out.symm.trans A88.out); cases e_; rfl) | (have e_ := Option.some.inj (A83.out.symm.trans A144.out); cases e_; rfl) | (have e_ := Option.some.inj (A88.out.symm.trans A144.out); cases e_; rfl) | (have e_ := Option.some.inj (A83.out.symm.trans A146.out); cases e_; rfl) | (have e_ := Option.some.inj (A88.out.symm.trans A146.out); cases e_; rfl) | (have e_ := Option.some.inj (A144.out.symm.trans A146.out); cases e_; rfl) | (simp [errW_none, errW_some] <;> rfl) | (simp [*, errW_none, errW_some] <;> rfl), by repeat (first | (with_reducible first | exact HB.out | apply below_alloc | apply pw_below_drewN | apply below_drew1) | exact HB.out)⟩
                                        · rw [if_neg c165] at H
                                          have c165b0 : (t442 == 9223372036854775808) = false := beq_eq_false_iff_ne.mpr c165
                                          have c165b1 : (t442 != 9223372036854775808) = true := bne_iff_ne.mpr c165
                                          by_cases c170 : t418 = 0
                                          · rw [if_pos c170] at H
                                            have c170b0 : (t418 == 0) = true := beq_iff_eq.mpr c170
                                            have c170b1 : (t418 != 0) = false := bne_eq_false_iff_eq.mpr c170
                                            clear c170
                                            by_cases c171 : t412 = true
                                            · subst c171
                                              have H1 : (if (IntKind.u64.wrap (t417)) = (IntKind.u64.wrap (-t442)) then (some true) else (some false)) = some r := by rw [if_pos rfl] at H; exact H
                                              clear H
                                              have H := H1
                                              clear H1
                                              by_cases c172 : (IntKind.u64.wrap (t417)) = (IntKind.u64.wrap (-t442))
                                              · rw [if_pos c172] at H
                                                have c172b0 : ((IntKind.u64.wrap (t417)) == (IntKind.u64.wrap (-t442))) = true := beq_iff_eq.mpr c172
                                                have c172b1 : ((IntKind.u64.wrap (t417)) != (IntKind.u64.wrap (-t442))) = false := bne_eq_false_iff_eq.mpr c172
                                                clear c172
                                                as_aux_lemma =>
                                                  obtain rfl := Option.some.inj H
                                                  go_wp2_with (first | ((with_reducible refine gate_callee (f := 38) rfl ?_); refine goesL_ (some 174) rfl rfl Tryd.func38 (by kernel_rfl) rfl #[.slice Ao149 t413.length co149] rfl (by (try simp only [List.map_toArray, List.map_cons, List.map_nil]); first | done | rfl | (simp only [List.length_drop, List.length_take]; rfl) | (simp only [gt_iff_lt, Int.natCast_pos]; done) | (simp only [gt_iff_lt, Int.natCast_pos]; rfl)) ?_; (with_reducible refine (nat_ToUint.calls kj147 _ _ t413 t442 true _ ?side1 ?side2 A161.out).mono ?_); (case side1 => repeat (first | exact (Kd.V_reads' HO_8.out).2.2 | (with_reducible refine Kd.C_alloc ?_ _) | (with_reducible refine Kd.C_drewN ?_ _) | (with_reducible refine Kd.C_drew ?_))); (case side2 => exact (Kd.V_reads' HO_8.out).2.1); rintro e w' ⟨rfl, ⟨nd, rfl⟩⟩; refine ⟨_, rfl, ?_⟩))
                                                  go_ret
                                                  exact ⟨by first | rfl | (have e_ := Option.some.inj (A83.out.symm.trans A88.out); cases e_; rfl) | (have e_ := Option.some.inj (A83.out.symm.trans A144.out); cases e_; rfl) | (have e_ := Option.some.inj (A88.out.symm.trans A144.out); cases e_; rfl) | (have e_ := Option.some.inj (A83.out.symm.trans A146.out); cases e_; rfl) | (have e_ := Option.some.inj (A88.out.symm.trans A146.out); cases e_; rfl) | (have e_ := Option.some.inj (A144.out.symm.trans A146.out); cases e_; rfl) | (simp [errW_none, errW_some] <;> rfl) | (simp [*, errW_none, errW_some] <;> rfl), by repeat (first | (with_reducible first | exact HB.out | apply below_alloc | apply pw_below_drewN | apply below_drew1) | exact HB.out)⟩
                                              · rw [if_neg c172] at H
                                                have c172b0 : ((IntKind.u64.wrap (t417)) == (IntKind.u64.wrap (-t442))) = false := beq_eq_false_iff_ne.mpr c172
                                                have c172b1 : ((IntKind.u64.wrap (t417)) != (IntKind.u64.wrap (-t442))) = true := bne_iff_ne.mpr c172
                                                as_aux_lemma =>
                                                  obtain rfl := Option.some.inj H
                                                  go_wp2_with (first | ((with_reducible refine gate_callee (f := 38) rfl ?_); refine goesL_ (some 174) rfl rfl Tryd.func38 (by kernel_rfl) rfl #[.slice Ao149 t413.length co149] rfl (by (try simp only [List.map_toArray, List.map_cons, List.map_nil]); first | done | rfl | (simp only [List.length_drop, List.length_take]; rfl) | (simp only [gt_iff_lt, Int.natCast_pos]; done) | (simp only [gt_iff_lt, Int.natCast_pos]; rfl)) ?_; (with_reducible refine (nat_ToUint.calls kj147 _ _ t413 t442 true _ ?side1 ?side2 A161.out).mono ?_); (case side1 => repeat (first | exact (Kd.V_reads' HO_8.out).2.2 | (with_reducible refine Kd.C_alloc ?_ _) | (with_reducible refine Kd.C_drewN ?_ _) | (with_reducible refine Kd.C_drew ?_))); (case side2 => exact (Kd.V_reads' HO_8.out).2.1); rintro e w' ⟨rfl, ⟨nd, rfl⟩⟩; refine ⟨_, rfl, ?_⟩))
                                                  go_ret
                                                  exact ⟨by first | rfl | (have e_ := Option.some.inj (A83.out.symm.trans A88.out); cases e_; rfl) | (have e_ := Option.some.inj (A83.out.symm.trans A144.out); cases e_; rfl) | (have e_ := Option.some.inj (A88.out.symm.trans A144.out); cases e_; rfl) | (have e_ := Option.some.inj (A83.out.symm.trans A146.out); cases e_; rfl) | (have e_ := Option.some.inj (A88.out.symm.trans A146.out); cases e_; rfl) | (have e_ := Option.some.inj (A144.out.symm.trans A146.out); cases e_; rfl) | (simp [errW_none, errW_some] <;> rfl) | (simp [*, errW_none, errW_some] <;> rfl), by repeat (first | (with_reducible first | exact HB.out | apply below_alloc | apply pw_below_drewN | apply below_drew1) | exact HB.out)⟩
                                            · replace c171 := Bool.eq_false_iff.mpr c171
                                              subst c171
                                              have H1 : (some ((IntKind.u64.wrap (t417)) == t442)) = some r := by rw [if_neg (show ¬ (false = true) by decide)] at H; exact H
                                              clear H
                                              have H := H1
                                              clear H1
                                              as_aux_lemma =>
                                                obtain rfl := Option.some.inj H
                                                go_wp2_with (first | ((with_reducible refine gate_callee (f := 38) rfl ?_); refine goesL_ (some 174) rfl rfl Tryd.func38 (by kernel_rfl) rfl #[.slice Ao149 t413.length co149] rfl (by (try simp only [List.map_toArray, List.map_cons, List.map_nil]); first | done | rfl | (simp only [List.length_drop, List.length_take]; rfl) | (simp only [gt_iff_lt, Int.natCast_pos]; done) | (simp only [gt_iff_lt, Int.natCast_pos]; rfl)) ?_; (with_reducible refine (nat_ToUint.calls kj147 _ _ t413 t442 true _ ?side1 ?side2 A161.out).mono ?_); (case side1 => repeat (first | exact (Kd.V_reads' HO_8.out).2.2 | (with_reducible refine Kd.C_alloc ?_ _) | (with_reducible refine Kd.C_drewN ?_ _) | (with_reducible refine Kd.C_drew ?_))); (case side2 => exact (Kd.V_reads' HO_8.out).2.1); rintro e w' ⟨rfl, ⟨nd, rfl⟩⟩; refine ⟨_, rfl, ?_⟩))
                                                go_ret
                                                exact ⟨by first | rfl | (have e_ := Option.some.inj (A83.out.symm.trans A88.out); cases e_; rfl) | (have e_ := Option.some.inj (A83.out.symm.trans A144.out); cases e_; rfl) | (have e_ := Option.some.inj (A88.out.symm.trans A144.out); cases e_; rfl) | (have e_ := Option.some.inj (A83.out.symm.trans A146.out); cases e_; rfl) | (have e_ := Option.some.inj (A88.out.symm.trans A146.out); cases e_; rfl) | (have e_ := Option.some.inj (A144.out.symm.trans A146.out); cases e_; rfl) | (simp [errW_none, errW_some] <;> rfl) | (simp [*, errW_none, errW_some] <;> rfl), by repeat (first | (with_reducible first | exact HB.out | apply below_alloc | apply pw_below_drewN | apply below_drew1) | exact HB.out)⟩
                                          · rw [if_neg c170] at H
                                            have c170b0 : (t418 == 0) = false := beq_eq_false_iff_ne.mpr c170
                                            have c170b1 : (t418 != 0) = true := bne_iff_ne.mpr c170
                                            as_aux_lemma =>
                                              obtain rfl := Option.some.inj H
                                              go_wp2_with (first | ((with_reducible refine gate_callee (f := 38) rfl ?_); refine goesL_ (some 174) rfl rfl Tryd.func38 (by kernel_rfl) rfl #[.slice Ao149 t413.length co149] rfl (by (try simp only [List.map_toArray, List.map_cons, List.map_nil]); first | done | rfl | (simp only [List.length_drop, List.length_take]; rfl) | (simp only [gt_iff_lt, Int.natCast_pos]; done) | (simp only [gt_iff_lt, Int.natCast_pos]; rfl)) ?_; (with_reducible refine (nat_ToUint.calls kj147 _ _ t413 t442 true _ ?side1 ?side2 A161.out).mono ?_); (case side1 => repeat (first | exact (Kd.V_reads' HO_8.out).2.2 | (with_reducible refine Kd.C_alloc ?_ _) | (with_reducible refine Kd.C_drewN ?_ _) | (with_reducible refine Kd.C_drew ?_))); (case side2 => exact (Kd.V_reads' HO_8.out).2.1); rintro e w' ⟨rfl, ⟨nd, rfl⟩⟩; refine ⟨_, rfl, ?_⟩))
                                              go_ret
                                              exact ⟨by first | rfl | (have e_ := Option.some.inj (A83.out.symm.trans A88.out); cases e_; rfl) | (have e_ := Option.some.inj (A83.out.symm.trans A144.out); cases e_; rfl) | (have e_ := Option.some.inj (A88.out.symm.trans A144.out); cases e_; rfl) | (have e_ := Option.some.inj (A83.out.symm.trans A146.out); cases e_; rfl) | (have e_ := Option.some.inj (A88.out.symm.trans A146.out); cases e_; rfl) | (have e_ := Option.some.inj (A144.out.symm.trans A146.out); cases e_; rfl) | (simp [errW_none, errW_some] <;> rfl) | (simp [*, errW_none, errW_some] <;> rfl), by repeat (first | (with_reducible first | exact HB.out | apply below_alloc | apply pw_below_drewN | apply below_drew1) | exact HB.out)⟩
                                    · replace c162 := Bool.eq_false_iff.mpr c162
                                      subst c162
                                      have H1 : (if t418 = 41 then (some (t417 == 0)) else (some false)) = some r := by rw [if_neg (show ¬ (false = true) by decide)] at H; exact H
                                      clear H
                                      have H := H1
                                      clear H1
                                      by_cases c173 : t418 = 41
                                      · rw [if_pos c173] at H
                                        have c173b0 : (t418 == 41) = true := beq_iff_eq.mpr c173
                                        have c173b1 : (t418 != 41) = false := bne_eq_false_iff_eq.mpr c173
                                        clear c173
                                        as_aux_lemma =>
                                          obtain rfl := Option.some.inj H
                                          go_wp2_with (first | ((with_reducible refine gate_callee (f := 38) rfl ?_); refine goesL_ (some 174) rfl rfl Tryd.func38 (by kernel_rfl) rfl #[.slice Ao149 t413.length co149] rfl (by (try simp only [List.map_toArray, List.map_cons, List.map_nil]); first | done | rfl | (simp only [List.length_drop, List.length_take]; rfl) | (simp only [gt_iff_lt, Int.natCast_pos]; done) | (simp only [gt_iff_lt, Int.natCast_pos]; rfl)) ?_; (with_reducible refine (nat_ToUint.calls kj147 _ _ t413 t442 false _ ?side1 ?side2 A161.out).mono ?_); (case side1 => repeat (first | exact (Kd.V_reads' HO_8.out).2.2 | (with_reducible refine Kd.C_alloc ?_ _) | (with_reducible refine Kd.C_drewN ?_ _) | (with_reducible refine Kd.C_drew ?_))); (case side2 => exact (Kd.V_reads' HO_8.out).2.1); rintro e w' ⟨rfl, ⟨nd, rfl⟩⟩; refine ⟨_, rfl, ?_⟩))
                                          go_ret
                                          exact ⟨by first | rfl | (have e_ := Option.some.inj (A83.out.symm.trans A88.out); cases e_; rfl) | (have e_ := Option.some.inj (A83.out.symm.trans A144.out); cases e_; rfl) | (have e_ := Option.some.inj (A88.out.symm.trans A144.out); cases e_; rfl) | (have e_ := Option.some.inj (A83.out.symm.trans A146.out); cases e_; rfl) | (have e_ := Option.some.inj (A88.out.symm.trans A146.out); cases e_; rfl) | (have e_ := Option.some.inj (A144.out.symm.trans A146.out); cases e_; rfl) | (simp [errW_none, errW_some] <;> rfl) | (simp [*, errW_none, errW_some] <;> rfl), by repeat (first | (with_reducible first | exact HB.out | apply below_alloc | apply pw_below_drewN | apply below_drew1) | exact HB.out)⟩
                                      · rw [if_neg c173] at H
                                        have c173b0 : (t418 == 41) = false := beq_eq_false_iff_ne.mpr c173
                                        have c173b1 : (t418 != 41) = true := bne_iff_ne.mpr c173
                                        as_aux_lemma =>
                                          obtain rfl := Option.some.inj H
                                          go_wp2_with (first | ((with_reducible refine gate_callee (f := 38) rfl ?_); refine goesL_ (some 174) rfl rfl Tryd.func38 (by kernel_rfl) rfl #[.slice Ao149 t413.length co149] rfl (by (try simp only [List.map_toArray, List.map_cons, List.map_nil]); first | done | rfl | (simp only [List.length_drop, List.length_take]; rfl) | (simp only [gt_iff_lt, Int.natCast_pos]; done) | (simp only [gt_iff_lt, Int.natCast_pos]; rfl)) ?_; (with_reducible refine (nat_ToUint.calls kj147 _ _ t413 t442 false _ ?side1 ?side2 A161.out).mono ?_); (case side1 => repeat (first | exact (Kd.V_reads' HO_8.out).2.2 | (with_reducible refine Kd.C_alloc ?_ _) | (with_reducible refine Kd.C_drewN ?_ _) | (with_reducible refine Kd.C_drew ?_))); (case side2 => exact (Kd.V_reads' HO_8.out).2.1); rintro e w' ⟨rfl, ⟨nd, rfl⟩⟩; refine ⟨_, rfl, ?_⟩))
                                          go_ret
                                          exact ⟨by first | rfl | (have e_ := Option.some.inj (A83.out.symm.trans A88.out); cases e_; rfl) | (have e_ := Option.some.inj (A83.out.symm.trans A144.out); cases e_; rfl) | (have e_ := Option.some.inj (A88.out.symm.trans A144.out); cases e_; rfl) | (have e_ := Option.some.inj (A83.out.symm.trans A146.out); cases e_; rfl) | (have e_ := Option.some.inj (A88.out.symm.trans A146.out); cases e_; rfl) | (have e_ := Option.some.inj (A144.out.symm.trans A146.out); cases e_; rfl) | (simp [errW_none, errW_some] <;> rfl) | (simp [*, errW_none, errW_some] <;> rfl), by repeat (first | (with_reducible first | exact HB.out | apply below_alloc | apply pw_below_drewN | apply below_drew1) | exact HB.out)⟩
  · replace c4 := Bool.eq_false_iff.mpr c4
    subst c4
    have H1 : (some false) = some r := by rw [if_neg (show ¬ (false = true) by decide)] at H; exact H
    clear H
    have H := H1
    clear H1
    as_aux_lemma =>
      obtain rfl := Option.some.inj H
      go_enter Tryd.func9, Tryd.ntmps9
      go_wp2_with (first | ((with_reducible refine gate_callee (f := 12) rfl ?_); refine goesL_ (some 24) rfl rfl Tryd.func12 (by kernel_rfl) rfl #[] rfl (by (try simp only [List.map_toArray, List.map_cons, List.map_nil]); first | done | rfl | (simp only [List.length_drop, List.length_take]; rfl) | (simp only [gt_iff_lt, Int.natCast_pos]; done) | (simp only [gt_iff_lt, Int.natCast_pos]; rfl)) ?_; (with_reducible refine (abacuslaw04_awake.calls k  false _ ?side1 A3.out).mono ?_); (case side1 => repeat (first | exact HT.out | (with_reducible refine Kd.C_alloc ?_ _) | (with_reducible refine Kd.C_drewN ?_ _) | (with_reducible refine Kd.C_drew ?_))); rintro e w174 ⟨rfl, hb⟩; refine ⟨_, rfl, ?_⟩; have n0_ := Aside0.mk (below_step (by repeat (first | (with_reducible first | exact HB.out | apply below_alloc | apply pw_below_drewN | apply below_drew1) | exact HB.out)) hb); clear HB; have HB := n0_; clear n0_; (try clear hb); (try clear hb2); (try clear hk); (try clear hi)))
      go_ret
      exact ⟨by first | rfl | (simp [errW_none, errW_some] <;> rfl) | (simp [*, errW_none, errW_some] <;> rfl), by repeat (first | (with_reducible first | exact HB.out | apply below_alloc | apply pw_below_drewN | apply below_drew1) | exact HB.out)⟩

/-- THE ONE PURE STATEMENT of abacuslaw04_IeeeWhole: yours. -/
def abacuslaw04_IeeeWhole.Pure : Prop := ∀ (a0 : Int) (a1 : Int), (Lit.int .u64 a0).wf = true → (Lit.int .i64 a1).wf = true → ∃ k, abacuslaw04_IeeeWhole.f k a0 a1 = some true
theorem abacuslaw04_IeeeWhole.walk (P : abacuslaw04_IeeeWhole.Pure) (a0 : Int) (a1 : Int) (w : World) (hT : Kd.C (Kd.int .u8) w (some ⟨0, 0, none⟩) 64 tabL) (w0 : (Lit.int .u64 a0).wf = true) (w1 : (Lit.int .i64 a1).wf = true) :
    Calls Tryd.prog 9 #[.int .u64 a0, .int .i64 a1] w fun e w' => e = .returned (.bool true) ∧ Below w.heap.size w w' := by
  obtain ⟨k, h⟩ := P a0 a1 w0 w1
  refine (abacuslaw04_IeeeWhole.calls k a0 a1 true w hT h).mono ?_
  rintro e w' ⟨rfl, hd⟩
  exact ⟨rfl, hd⟩

end Go.Proofs.YtiigfmmflicdpaaDoor.PB
