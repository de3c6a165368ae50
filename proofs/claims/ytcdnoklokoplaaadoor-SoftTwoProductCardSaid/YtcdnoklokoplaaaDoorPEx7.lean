-- printed by a program
import Derived.Test.YtcdnoklokoplaaaDoorPEx0
import Derived.Test.YtcdnoklokoplaaaDoorPEx1
import Derived.Test.YtcdnoklokoplaaaDoorPEx3
import Derived.Test.YtcdnoklokoplaaaDoorPEx5
import Derived.Test.YtcdnoklokoplaaaDoorPEx6
namespace Go.Proofs.YtcdnoklokoplaaaDoor.PE
open Go.Proofs.YtcdnoklokoplaaaDoorX
open Go.RowKit Go.Proofs.YtcdnoklokoplaaaDoorW.PrintWords Go.Proofs.YtcdnoklokoplaaaDoorW.PrintLast Go.Proofs.YtcdnoklokoplaaaDoorW.PrintMore
attribute [local go_sem] max2_int min2_int max_two min_two max_three min_three max_four min_four   -- for this text's walks alone
set_option linter.unusedVariables false
set_option linter.unusedSimpArgs false

/-! ### ieee_magnitude: function 123 -/
def ieee_magnitude.j0 : Nat → List Int → Int → Bool → Int → Bool → Option (Int)
 | 0, _, _, _, _, _ => none
 | k + 1, x0, x1, x2, x7, x18 => if x18 = true then (some 0) else (if x7 > 1024 then (some 9218868437227405312) else (if (wrap64 ((mx (wrap64 (x7 - 53)) (-1074)) - x1)) ≤ 0 then (if 0 < (x0.length : Int) then (if 0 ≤ (IntKind.u64.wrap (wrap64 (-(wrap64 ((mx (wrap64 (x7 - 53)) (-1074)) - x1))))) then (some (IntKind.u64.wrap ((IntKind.u64.wrap ((IntKind.u64.wrap (wrap64 ((mx (wrap64 (x7 - 53)) (-1074)) - (-1074)))) * 4503599627370496)) + (shl .u64 (rd x0 0) (IntKind.u64.wrap (wrap64 (-(wrap64 ((mx (wrap64 (x7 - 53)) (-1074)) - x1))))))))) else (none)) else (none)) else ((nat_Shr.f k x0 (wrap64 ((mx (wrap64 (x7 - 53)) (-1074)) - x1))).bind fun bt336 => ((nat_ToUint.f k bt336.1).bind fun bt341 => ((nat_Bit.f x0 (wrap64 ((wrap64 ((mx (wrap64 (x7 - 53)) (-1074)) - x1)) - 1))).bind fun t343 => (if t343 = 1 then (if x2 = true then (some (IntKind.u64.wrap ((IntKind.u64.wrap ((IntKind.u64.wrap (wrap64 ((mx (wrap64 (x7 - 53)) (-1074)) - (-1074)))) * 4503599627370496)) + (IntKind.u64.wrap (bt341.1 + 1))))) else (if (Go.bits .and .u64 bt341.1 1) = 1 then (some (IntKind.u64.wrap ((IntKind.u64.wrap ((IntKind.u64.wrap (wrap64 ((mx (wrap64 (x7 - 53)) (-1074)) - (-1074)))) * 4503599627370496)) + (IntKind.u64.wrap (bt341.1 + 1))))) else ((nat_Trail.f k x0).bind fun t344 => (if t344 < (wrap64 ((wrap64 ((mx (wrap64 (x7 - 53)) (-1074)) - x1)) - 1)) then (some (IntKind.u64.wrap ((IntKind.u64.wrap ((IntKind.u64.wrap (wrap64 ((mx (wrap64 (x7 - 53)) (-1074)) - (-1074)))) * 4503599627370496)) + (IntKind.u64.wrap (bt341.1 + 1))))) else (some (IntKind.u64.wrap ((IntKind.u64.wrap ((IntKind.u64.wrap (wrap64 ((mx (wrap64 (x7 - 53)) (-1074)) - (-1074)))) * 4503599627370496)) + bt341.1))))))) else (some (IntKind.u64.wrap ((IntKind.u64.wrap ((IntKind.u64.wrap (wrap64 ((mx (wrap64 (x7 - 53)) (-1074)) - (-1074)))) * 4503599627370496)) + bt341.1)))))))))
def ieee_magnitude.f (k : Nat) (l0 : List Int) (a1 : Int) (a2 : Bool) : Option (Int) := (nat_BitLen.f k l0).bind fun t334 => (if (l0.length : Int) = 0 then (ieee_magnitude.j0 k l0 a1 a2 (wrap64 (t334 + a1)) true) else (ieee_magnitude.j0 k l0 a1 a2 (wrap64 (t334 + a1)) (decide ((wrap64 (t334 + a1)) < (-1074)))))
theorem ieee_magnitude.mono_l : ∀ k, (∀ y0 y1 y2 y3 y4, LeO (ieee_magnitude.j0 k y0 y1 y2 y3 y4) (ieee_magnitude.j0 (k + 1) y0 y1 y2 y3 y4))
 | 0 => fun _ _ _ _ _ r h => by simp [ieee_magnitude.j0] at h
 | k + 1 => by
  have ih0 := ieee_magnitude.mono_l k
  ·intro y0 y1 y2 y3 y4
   unfold ieee_magnitude.j0
   repeat' first
   | (with_reducible exact ih0 _ _ _ _ _)
   | (with_reducible exact nat_BitLen.mono _ _)
   | (with_reducible exact nat_Shr.mono _ _ _)
   | (with_reducible exact nat_ToUint.mono _ _)
   | (with_reducible exact nat_Trail.mono _ _)
   | (with_reducible exact LeO.refl _)
   | (with_reducible exact LeO.none _)
   | (with_reducible refine LeO.ite ?_ ?_)
   | (with_reducible refine LeO.bind ?_ (fun _ => ?_))
   | exact ih0 _ _ _ _ _
   | exact nat_BitLen.mono _ _
   | exact nat_Shr.mono _ _ _
   | exact nat_ToUint.mono _ _
   | exact nat_Trail.mono _ _
   | exact LeO.none _
   | refine LeO.ite ?_ ?_
   | refine LeO.bind ?_ (fun _ => ?_)
theorem ieee_magnitude.mono : ∀ a0 a1 a2 k, LeO (ieee_magnitude.f k a0 a1 a2) (ieee_magnitude.f (k + 1) a0 a1 a2) := by
 intro a0 a1 a2 k
 have ih0 := ieee_magnitude.mono_l k
 unfold ieee_magnitude.f
 repeat' first
   | (with_reducible exact ih0 _ _ _ _ _)
   | (with_reducible exact nat_BitLen.mono _ _)
   | (with_reducible exact nat_Shr.mono _ _ _)
   | (with_reducible exact nat_ToUint.mono _ _)
   | (with_reducible exact nat_Trail.mono _ _)
   | (with_reducible exact LeO.refl _)
   | (with_reducible exact LeO.none _)
   | (with_reducible refine LeO.ite ?_ ?_)
   | (with_reducible refine LeO.bind ?_ (fun _ => ?_))
   | exact ih0 _ _ _ _ _
   | exact nat_BitLen.mono _ _
   | exact nat_Shr.mono _ _ _
   | exact nat_ToUint.mono _ _
   | exact nat_Trail.mono _ _
   | exact LeO.none _
   | refine LeO.ite ?_ ?_
   | refine LeO.bind ?_ (fun _ => ?_)
set_option maxHeartbeats 8000000 in
set_option maxRecDepth 100000 in
theorem ieee_magnitude.calls (k : Nat) (A0 : Option Addr) (c0 : Nat) (l0 : List Int) (a1 : Int) (a2 : Bool) (r : Int) (w : World) (hT : Kd.C (Kd.int .u8) w (some ⟨0, 0, none⟩) 64 tabL) (hr0 : Kd.C (Kd.int .u64) w A0 l0.length l0) (hc0 : l0.length ≤ c0) (h : ieee_magnitude.f k l0 a1 a2 = some r) :
  Calls Tryd.prog 123 #[.slice A0 l0.length c0, .int .i64 a1, .bool a2] w fun e w' => e = .returned (.int .u64 r) ∧ Below w.heap.size w w' := by
 have HT := Aside0.mk hT
 clear hT
 have HR0 := Aside0.mk hr0
 have HC0 := Aside0.mk hc0
 clear hr0 hc0
 have HB := Aside0.mk (Below.refl w.heap.size w)
 have H : ((nat_BitLen.f k l0).bind fun t334 => (if (l0.length : Int) = 0 then (ieee_magnitude.j0 k l0 a1 a2 (wrap64 (t334 + a1)) true) else (ieee_magnitude.j0 k l0 a1 a2 (wrap64 (t334 + a1)) (decide ((wrap64 (t334 + a1)) < (-1074)))))) = some r := h
 clear h
 obtain ⟨t334, A40, H⟩ := Option.bind_eq_some_iff.mp H
 have A4 := Aside0.mk A40
 clear A40
 have HC5 := Aside0.mk H
 clear H
 go_enter Tryd.func123, Tryd.ntmps123
 go_upto_region 2 with (first | ((with_reducible refine gate_callee (f := 95) rfl ?_); refine goesL_ (some 15) rfl rfl Tryd.func95 (by kernel_rfl) rfl #[.slice A0 l0.length c0] rfl (by (try simp only [List.map_toArray, List.map_cons, List.map_nil]); first | done | rfl) ?_; (with_reducible refine (nat_BitLen.calls k _ _ l0 t334 _ ?side1 ?side2 A4.out).mono ?_); (case side1 => exact cS HR0.out); (case side2 => exact HC0.out); rintro e w' ⟨rfl, ⟨nd, rfl⟩⟩; refine ⟨_, rfl, ?_⟩))
 (try simp only [Act.put, List.setIfInBounds_toArray, List.set_cons_zero, List.set_cons_succ])
 go_cut [18] (fun v18 wc => ∃ (kq : Nat) (x18_4 : Bool), v18 = .bool x18_4 ∧ Aside0 (ieee_magnitude.j0 kq l0 a1 a2 (wrap64 (t334 + a1)) x18_4 = some r) ∧ Aside0 (kq ≤ k) ∧ Aside0 (Below w.heap.size w wc))
 case first =>
  have H := HC5.out
  clear HC5
  by_cases c6 : (l0.length : Int) = 0
  ·rw [if_pos c6] at H
   have c6b0 : ((l0.length : Int) == 0) = true := beq_iff_eq.mpr c6
   have c6b1 : ((l0.length : Int) != 0) = false := bne_eq_false_iff_eq.mpr c6
   clear c6
   (first | rw [c6b0] | (simp only [i64_w, i32_w]; rw [c6b0]) | rw [c6b1] | skip)
   have H' := Aside0.mk H
   clear H
   go_wp2
   go_meet
   case rel => exact ⟨_, (true), (by first | rfl | (simp; done) | (simp [*]; done)), H', ⟨by first | omega | exact Nat.le_refl _⟩, ⟨bS HB.out⟩⟩
  ·rw [if_neg c6] at H
   have c6b0 : ((l0.length : Int) == 0) = false := beq_eq_false_iff_ne.mpr c6
   have c6b1 : ((l0.length : Int) != 0) = true := bne_iff_ne.mpr c6
   have c6b2 : ¬ (l0 = []) := fun h_ => c6 (by rw [h_]; rfl)
   (first | rw [c6b0] | (simp only [i64_w, i32_w]; rw [c6b0]) | rw [c6b1] | skip)
   have H' := Aside0.mk H
   clear H
   go_wp2
   go_meet
   case rel => exact ⟨_, (decide ((wrap64 (t334 + a1)) < (-1074))), (by first | rfl | (simp; done) | (simp [*]; done)), H', ⟨by first | omega | exact Nat.le_refl _⟩, ⟨bS HB.out⟩⟩
 case rest =>
  clear HC5
  try clear c1
  try clear p2
  try clear c6
  try clear c6b0
  try clear c6b1
  try clear c6b2
  try clear p6
  obtain ⟨kq, x18_4, rfl, HA, HJ4, HB⟩ := hcut
  cases kq with
  | zero => exact absurd HA.out (by simp [ieee_magnitude.j0])
  | succ kj4 =>
   have H := HA.out
   clear HA
   simp only [ieee_magnitude.j0] at H
   by_cases c7 : x18_4 = true
   ·subst c7
    have H1 : (some 0) = some r := by rw [if_pos rfl] at H; exact H
    clear H
    have H := H1
    clear H1
    obtain rfl := Option.some.inj H
    go_wp2
    go_ret
    exact ⟨by first | rfl | (simp [errW_none, errW_some] <;> rfl) | (simp [*, errW_none, errW_some] <;> rfl), bS HB.out⟩
   ·replace c7 := Bool.eq_false_iff.mpr c7
    subst c7
    have H1 : (if (wrap64 (t334 + a1)) > 1024 then (some 9218868437227405312) else (if (wrap64 ((mx (wrap64 ((wrap64 (t334 + a1)) - 53)) (-1074)) - a1)) ≤ 0 then (if 0 < (l0.length : Int) then (if 0 ≤ (IntKind.u64.wrap (wrap64 (-(wrap64 ((mx (wrap64 ((wrap64 (t334 + a1)) - 53)) (-1074)) - a1))))) then (some (IntKind.u64.wrap ((IntKind.u64.wrap ((IntKind.u64.wrap (wrap64 ((mx (wrap64 ((wrap64 (t334 + a1)) - 53)) (-1074)) - (-1074)))) * 4503599627370496)) + (shl .u64 (rd l0 0) (IntKind.u64.wrap (wrap64 (-(wrap64 ((mx (wrap64 ((wrap64 (t334 + a1)) - 53)) (-1074)) - a1))))))))) else (none)) else (none)) else ((nat_Shr.f kj4 l0 (wrap64 ((mx (wrap64 ((wrap64 (t334 + a1)) - 53)) (-1074)) - a1))).bind fun bt336 => ((nat_ToUint.f kj4 bt336.1).bind fun bt341 => ((nat_Bit.f l0 (wrap64 ((wrap64 ((mx (wrap64 ((wrap64 (t334 + a1)) - 53)) (-1074)) - a1)) - 1))).bind fun t343 => (if t343 = 1 then (if a2 = true then (some (IntKind.u64.wrap ((IntKind.u64.wrap ((IntKind.u64.wrap (wrap64 ((mx (wrap64 ((wrap64 (t334 + a1)) - 53)) (-1074)) - (-1074)))) * 4503599627370496)) + (IntKind.u64.wrap (bt341.1 + 1))))) else (if (Go.bits .and .u64 bt341.1 1) = 1 then (some (IntKind.u64.wrap ((IntKind.u64.wrap ((IntKind.u64.wrap (wrap64 ((mx (wrap64 ((wrap64 (t334 + a1)) - 53)) (-1074)) - (-1074)))) * 4503599627370496)) + (IntKind.u64.wrap (bt341.1 + 1))))) else ((nat_Trail.f kj4 l0).bind fun t344 => (if t344 < (wrap64 ((wrap64 ((mx (wrap64 ((wrap64 (t334 + a1)) - 53)) (-1074)) - a1)) - 1)) then (some (IntKind.u64.wrap ((IntKind.u64.wrap ((IntKind.u64.wrap (wrap64 ((mx (wrap64 ((wrap64 (t334 + a1)) - 53)) (-1074)) - (-1074)))) * 4503599627370496)) + (IntKind.u64.wrap (bt341.1 + 1))))) else (some (IntKind.u64.wrap ((IntKind.u64.wrap ((IntKind.u64.wrap (wrap64 ((mx (wrap64 ((wrap64 (t334 + a1)) - 53)) (-1074)) - (-1074)))) * 4503599627370496)) + bt341.1))))))) else (some (IntKind.u64.wrap ((IntKind.u64.wrap ((IntKind.u64.wrap (wrap64 ((mx (wrap64 ((wrap64 (t334 + a1)) - 53)) (-1074)) - (-1074)))) * 4503599627370496)) + bt341.1))))))))) = some r := by rw [if_neg (show ¬ (false = true) by decide)] at H; exact H
    clear H
    have H := H1
    clear H1
    by_cases c8 : (wrap64 (t334 + a1)) > 1024
    ·rw [if_pos c8] at H
     have c8b0 : decide (1024 < (wrap64 (t334 + a1))) = true := decide_eq_true c8
     clear c8
     obtain rfl := Option.some.inj H
     go_wp2
     go_ret
     exact ⟨by first | rfl | (simp [errW_none, errW_some] <;> rfl) | (simp [*, errW_none, errW_some] <;> rfl), bS HB.out⟩
    ·rw [if_neg c8] at H
     have c8b0 : decide (1024 < (wrap64 (t334 + a1))) = false := decide_eq_false c8
     clear c8
     obtain ⟨ji9, hji9⟩ : ∃ j_ : Int, (mx (wrap64 ((wrap64 (t334 + a1)) - 53)) (-1074)) = j_ := ⟨_, rfl⟩
     replace H : (if (wrap64 ((ji9) - a1)) ≤ 0 then (if 0 < (l0.length : Int) then (if 0 ≤ (IntKind.u64.wrap (wrap64 (-(wrap64 ((ji9) - a1))))) then (some (IntKind.u64.wrap ((IntKind.u64.wrap ((IntKind.u64.wrap (wrap64 ((ji9) - (-1074)))) * 4503599627370496)) + (shl .u64 (rd l0 0) (IntKind.u64.wrap (wrap64 (-(wrap64 ((ji9) - a1))))))))) else (none)) else (none)) else ((nat_Shr.f kj4 l0 (wrap64 ((ji9) - a1))).bind fun bt336 => ((nat_ToUint.f kj4 bt336.1).bind fun bt341 => ((nat_Bit.f l0 (wrap64 ((wrap64 ((ji9) - a1)) - 1))).bind fun t343 => (if t343 = 1 then (if a2 = true then (some (IntKind.u64.wrap ((IntKind.u64.wrap ((IntKind.u64.wrap (wrap64 ((ji9) - (-1074)))) * 4503599627370496)) + (IntKind.u64.wrap (bt341.1 + 1))))) else (if (Go.bits .and .u64 bt341.1 1) = 1 then (some (IntKind.u64.wrap ((IntKind.u64.wrap ((IntKind.u64.wrap (wrap64 ((ji9) - (-1074)))) * 4503599627370496)) + (IntKind.u64.wrap (bt341.1 + 1))))) else ((nat_Trail.f kj4 l0).bind fun t344 => (if t344 < (wrap64 ((wrap64 ((ji9) - a1)) - 1)) then (some (IntKind.u64.wrap ((IntKind.u64.wrap ((IntKind.u64.wrap (wrap64 ((ji9) - (-1074)))) * 4503599627370496)) + (IntKind.u64.wrap (bt341.1 + 1))))) else (some (IntKind.u64.wrap ((IntKind.u64.wrap ((IntKind.u64.wrap (wrap64 ((ji9) - (-1074)))) * 4503599627370496)) + bt341.1))))))) else (some (IntKind.u64.wrap ((IntKind.u64.wrap ((IntKind.u64.wrap (wrap64 ((ji9) - (-1074)))) * 4503599627370496)) + bt341.1)))))))) = some r := by first | (rw [hji9] at H; exact H) | (simp only [hji9] at H ⊢; exact H)
     have hji9_ : (if (wrap64 ((wrap64 (t334 + a1)) - 53)) < (-1074) then (-1074) else (wrap64 ((wrap64 (t334 + a1)) - 53))) = ji9 := hji9
     by_cases c10 : (wrap64 ((ji9) - a1)) ≤ 0
     ·rw [if_pos c10] at H
      have c10b0 : decide ((wrap64 ((ji9) - a1)) ≤ 0) = true := decide_eq_true c10
      clear c10
      by_cases c11 : 0 < (l0.length : Int)
      ·rw [if_pos c11] at H
       have c11b0 : decide (0 < (l0.length : Int)) = true := decide_eq_true c11
       have c11b1 : decide (0 < l0.length) = true := decide_eq_true (by omega)
       clear c11
       obtain ⟨ji12, hji12⟩ : ∃ j_ : Int, (IntKind.u64.wrap (wrap64 (-(wrap64 ((ji9) - a1))))) = j_ := ⟨_, rfl⟩
       replace H : (if 0 ≤ (ji12) then (some (IntKind.u64.wrap ((IntKind.u64.wrap ((IntKind.u64.wrap (wrap64 ((ji9) - (-1074)))) * 4503599627370496)) + (shl .u64 (rd l0 0) (ji12))))) else (none)) = some r := by first | (rw [hji12] at H; exact H) | (simp only [hji12] at H ⊢; exact H)
       by_cases c13 : 0 ≤ (ji12)
       ·rw [if_pos c13] at H
        have c13b0 := eq_true c13
        have c13b1 : decide (0 ≤ (ji12)) = true := decide_eq_true c13
        clear c13
        obtain ⟨ji14, hji14⟩ : ∃ j_ : Int, (shl .u64 (rd l0 0) (ji12)) = j_ := ⟨_, rfl⟩
        replace H : (some (IntKind.u64.wrap ((IntKind.u64.wrap ((IntKind.u64.wrap (wrap64 ((ji9) - (-1074)))) * 4503599627370496)) + (ji14)))) = some r := by first | (rw [hji14] at H; exact H) | (simp only [hji14] at H ⊢; exact H)
        have hji14_ : (IntKind.u64.wrap ((rd l0 0) * 2 ^ min (ji12).toNat 64)) = ji14 := hji14
        have hji14z : (ji12) ≤ 64 → (IntKind.u64.wrap ((rd l0 0) * 2 ^ (ji12).toNat)) = ji14 := shl_small hji14
        obtain rfl := Option.some.inj H
        have p335 : 0 ≤ (0 : Int) := (by omega)
        have q335 : 0 < (l0.length : Int) := of_decide_eq_true (by first | (with_reducible assumption) | assumption)
        obtain ⟨ad335, e335, hx335_0⟩ := Kd.at_int HR0.out 0 p335 q335
        cases e335
        have qi335 : (0 < l0.length) = True := eq_true (by omega)
        (try rw [show ((0 : Int)).toNat = 0 from rfl] at hx335_0)
        (try rw [Addr.add_zero'] at hx335_0)
        replace hx335_0 := (HB.out.cell (World.block_lt_of_cell? w _ hx335_0)).trans hx335_0
        replace p335 := eq_true p335
        replace q335 := eq_true q335
        go_wp2
        go_ret
        exact ⟨by first | rfl | (simp [errW_none, errW_some] <;> rfl) | (simp only [← hji9, ← hji12, ← hji14]; first | rfl | (simp [errW_none, errW_some] <;> rfl)) | (simp [*, errW_none, errW_some] <;> rfl), bS HB.out⟩
       ·rw [if_neg c13] at H
        exact absurd H (by simp)
      ·rw [if_neg c11] at H
       exact absurd H (by simp)
     ·rw [if_neg c10] at H
      have c10b0 : decide ((wrap64 ((ji9) - a1)) ≤ 0) = false := decide_eq_false c10
      clear c10
      replace H := Option.bind_eq_some_iff.mp H
      obtain ⟨⟨t336, t339, t340⟩, A150, H⟩ := H
      replace H : ((nat_ToUint.f kj4 t336).bind fun bt341 => ((nat_Bit.f l0 (wrap64 ((wrap64 ((ji9) - a1)) - 1))).bind fun t343 => (if t343 = 1 then (if a2 = true then (some (IntKind.u64.wrap ((IntKind.u64.wrap ((IntKind.u64.wrap (wrap64 ((ji9) - (-1074)))) * 4503599627370496)) + (IntKind.u64.wrap (bt341.1 + 1))))) else (if (Go.bits .and .u64 bt341.1 1) = 1 then (some (IntKind.u64.wrap ((IntKind.u64.wrap ((IntKind.u64.wrap (wrap64 ((ji9) - (-1074)))) * 4503599627370496)) + (IntKind.u64.wrap (bt341.1 + 1))))) else ((nat_Trail.f kj4 l0).bind fun t344 => (if t344 < (wrap64 ((wrap64 ((ji9) - a1)) - 1)) then (some (IntKind.u64.wrap ((IntKind.u64.wrap ((IntKind.u64.wrap (wrap64 ((ji9) - (-1074)))) * 4503599627370496)) + (IntKind.u64.wrap (bt341.1 + 1))))) else (some (IntKind.u64.wrap ((IntKind.u64.wrap ((IntKind.u64.wrap (wrap64 ((ji9) - (-1074)))) * 4503599627370496)) + bt341.1))))))) else (some (IntKind.u64.wrap ((IntKind.u64.wrap ((IntKind.u64.wrap (wrap64 ((ji9) - (-1074)))) * 4503599627370496)) + bt341.1)))))) = some r := H
      have A15 := Aside0.mk A150
      clear A150
      replace H := Option.bind_eq_some_iff.mp H
      obtain ⟨⟨t341, t342⟩, A160, H⟩ := H
      replace H : ((nat_Bit.f l0 (wrap64 ((wrap64 ((ji9) - a1)) - 1))).bind fun t343 => (if t343 = 1 then (if a2 = true then (some (IntKind.u64.wrap ((IntKind.u64.wrap ((IntKind.u64.wrap (wrap64 ((ji9) - (-1074)))) * 4503599627370496)) + (IntKind.u64.wrap (t341 + 1))))) else (if (Go.bits .and .u64 t341 1) = 1 then (some (IntKind.u64.wrap ((IntKind.u64.wrap ((IntKind.u64.wrap (wrap64 ((ji9) - (-1074)))) * 4503599627370496)) + (IntKind.u64.wrap (t341 + 1))))) else ((nat_Trail.f kj4 l0).bind fun t344 => (if t344 < (wrap64 ((wrap64 ((ji9) - a1)) - 1)) then (some (IntKind.u64.wrap ((IntKind.u64.wrap ((IntKind.u64.wrap (wrap64 ((ji9) - (-1074)))) * 4503599627370496)) + (IntKind.u64.wrap (t341 + 1))))) else (some (IntKind.u64.wrap ((IntKind.u64.wrap ((IntKind.u64.wrap (wrap64 ((ji9) - (-1074)))) * 4503599627370496)) + t341))))))) else (some (IntKind.u64.wrap ((IntKind.u64.wrap ((IntKind.u64.wrap (wrap64 ((ji9) - (-1074)))) * 4503599627370496)) + t341))))) = some r := H
      have A16 := Aside0.mk A160
      clear A160
      replace H := Option.bind_eq_some_iff.mp H
      obtain ⟨t343, A170, H⟩ := H
      replace H : (if t343 = 1 then (if a2 = true then (some (IntKind.u64.wrap ((IntKind.u64.wrap ((IntKind.u64.wrap (wrap64 ((ji9) - (-1074)))) * 4503599627370496)) + (IntKind.u64.wrap (t341 + 1))))) else (if (Go.bits .and .u64 t341 1) = 1 then (some (IntKind.u64.wrap ((IntKind.u64.wrap ((IntKind.u64.wrap (wrap64 ((ji9) - (-1074)))) * 4503599627370496)) + (IntKind.u64.wrap (t341 + 1))))) else ((nat_Trail.f kj4 l0).bind fun t344 => (if t344 < (wrap64 ((wrap64 ((ji9) - a1)) - 1)) then (some (IntKind.u64.wrap ((IntKind.u64.wrap ((IntKind.u64.wrap (wrap64 ((ji9) - (-1074)))) * 4503599627370496)) + (IntKind.u64.wrap (t341 + 1))))) else (some (IntKind.u64.wrap ((IntKind.u64.wrap ((IntKind.u64.wrap (wrap64 ((ji9) - (-1074)))) * 4503599627370496)) + t341))))))) else (some (IntKind.u64.wrap ((IntKind.u64.wrap ((IntKind.u64.wrap (wrap64 ((ji9) - (-1074)))) * 4503599627370496)) + t341)))) = some r := H
      have A17 := Aside0.mk A170
      clear A170
      by_cases c18 : t343 = 1
      ·rw [if_pos c18] at H
       have c18b0 : (t343 == 1) = true := beq_iff_eq.mpr c18
       have c18b1 : (t343 != 1) = false := bne_eq_false_iff_eq.mpr c18
       clear c18
       by_cases c19 : a2 = true
       ·subst c19
        have H1 : (some (IntKind.u64.wrap ((IntKind.u64.wrap ((IntKind.u64.wrap (wrap64 ((ji9) - (-1074)))) * 4503599627370496)) + (IntKind.u64.wrap (t341 + 1))))) = some r := by rw [if_pos rfl] at H; exact H
        clear H
        have H := H1
        clear H1
        obtain rfl := Option.some.inj H
        go_wp2_with (first | ((with_reducible refine gate_callee (f := 122) rfl ?_); refine goesL_ (some 47) rfl rfl Tryd.func122 (by kernel_rfl) rfl #[.slice A0 l0.length c0, .int .i64 (wrap64 ((ji9) - a1))] rfl (by (try simp only [List.map_toArray, List.map_cons, List.map_nil]); first | done | (simp only [hji9]; rfl) | rfl) ?_; (with_reducible refine (nat_Shr.calls kj4 _ _ l0 (wrap64 ((ji9) - a1)) t336 t339 t340 _ ?side3 ?side1 ?side2 A15.out).mono ?_); (case side1 => exact cS (Kd.C_below HR0.out HB.out)); (case side2 => exact HC0.out); (case side3 => exact cS (Kd.C_below HT.out HB.out)); rintro e w20 ⟨v337, rfl, ho0, hb⟩; refine ⟨_, rfl, ?_⟩; have HO338 := Aside0.mk (Kd.V_lower (Kd.V_mono (ok' := fun k_ => True) ho0 (fun k_ hk_ => trivial)) (below_size (bS HB.out))); replace HB := hB HB hb; (try clear hb); (try clear hb2); (try clear hk); (try clear hi); (try clear ho0); obtain ⟨Ao21, co21, eo21⟩ := Kd.V_slice HO338.out; subst eo21) | ((with_reducible refine gate_callee (f := 134) rfl ?_); refine goesL_ (some 53) rfl rfl Tryd.func134 (by kernel_rfl) rfl #[.slice Ao21 t336.length co21] rfl (by (try simp only [List.map_toArray, List.map_cons, List.map_nil]); first | done | rfl) ?_; (with_reducible refine (nat_ToUint.calls kj4 _ _ t336 t341 t342 _ ?side1 ?side2 A16.out).mono ?_); (case side1 => exact cS (Kd.V_reads' HO338.out).2.2); (case side2 => exact (Kd.V_reads' HO338.out).2.1); rintro e w' ⟨rfl, ⟨nd, rfl⟩⟩; refine ⟨_, rfl, ?_⟩) | ((with_reducible refine gate_callee (f := 135) rfl ?_); refine goesL_ (some 59) rfl rfl Tryd.func135 (by kernel_rfl) rfl #[.slice A0 l0.length c0, .int .i64 (wrap64 ((wrap64 ((ji9) - a1)) - 1))] rfl (by (try simp only [List.map_toArray, List.map_cons, List.map_nil]); first | done | (simp only [hji9]; rfl) | rfl) ?_; (with_reducible refine (nat_Bit.calls _ _ l0 (wrap64 ((wrap64 ((ji9) - a1)) - 1)) t343 _ ?side1 ?side2 A17.out).mono ?_); (case side1 => exact (Kd.C_below HR0.out (bS HB.out))); (case side2 => exact HC0.out); rintro e w' ⟨rfl, ⟨nd, rfl⟩⟩; refine ⟨_, rfl, ?_⟩))
        go_ret
        exact ⟨by first | rfl | (simp [errW_none, errW_some] <;> rfl) | (simp only [← hji9]; first | rfl | (simp [errW_none, errW_some] <;> rfl)) | (simp [*, errW_none, errW_some] <;> rfl), bS HB.out⟩
       ·replace c19 := Bool.eq_false_iff.mpr c19
        subst c19
        have H1 : (if (Go.bits .and .u64 t341 1) = 1 then (some (IntKind.u64.wrap ((IntKind.u64.wrap ((IntKind.u64.wrap (wrap64 ((ji9) - (-1074)))) * 4503599627370496)) + (IntKind.u64.wrap (t341 + 1))))) else ((nat_Trail.f kj4 l0).bind fun t344 => (if t344 < (wrap64 ((wrap64 ((ji9) - a1)) - 1)) then (some (IntKind.u64.wrap ((IntKind.u64.wrap ((IntKind.u64.wrap (wrap64 ((ji9) - (-1074)))) * 4503599627370496)) + (IntKind.u64.wrap (t341 + 1))))) else (some (IntKind.u64.wrap ((IntKind.u64.wrap ((IntKind.u64.wrap (wrap64 ((ji9) - (-1074)))) * 4503599627370496)) + t341)))))) = some r := by rw [if_neg (show ¬ (false = true) by decide)] at H; exact H
        clear H
        have H := H1
        clear H1
        by_cases c22 : (Go.bits .and .u64 t341 1) = 1
        ·rw [if_pos c22] at H
         have c22b0 : ((Go.bits .and .u64 t341 1) == 1) = true := beq_iff_eq.mpr c22
         have c22b1 : ((Go.bits .and .u64 t341 1) != 1) = false := bne_eq_false_iff_eq.mpr c22
         clear c22
         obtain rfl := Option.some.inj H
         go_wp2_with (first | ((with_reducible refine gate_callee (f := 122) rfl ?_); refine goesL_ (some 47) rfl rfl Tryd.func122 (by kernel_rfl) rfl #[.slice A0 l0.length c0, .int .i64 (wrap64 ((ji9) - a1))] rfl (by (try simp only [List.map_toArray, List.map_cons, List.map_nil]); first | done | (simp only [hji9]; rfl) | rfl) ?_; (with_reducible refine (nat_Shr.calls kj4 _ _ l0 (wrap64 ((ji9) - a1)) t336 t339 t340 _ ?side3 ?side1 ?side2 A15.out).mono ?_); (case side1 => exact cS (Kd.C_below HR0.out HB.out)); (case side2 => exact HC0.out); (case side3 => exact cS (Kd.C_below HT.out HB.out)); rintro e w23 ⟨v337, rfl, ho0, hb⟩; refine ⟨_, rfl, ?_⟩; have HO338 := Aside0.mk (Kd.V_lower (Kd.V_mono (ok' := fun k_ => True) ho0 (fun k_ hk_ => trivial)) (below_size (bS HB.out))); replace HB := hB HB hb; (try clear hb); (try clear hb2); (try clear hk); (try clear hi); (try clear ho0); obtain ⟨Ao24, co24, eo24⟩ := Kd.V_slice HO338.out; subst eo24) | ((with_reducible refine gate_callee (f := 134) rfl ?_); refine goesL_ (some 53) rfl rfl Tryd.func134 (by kernel_rfl) rfl #[.slice Ao24 t336.length co24] rfl (by (try simp only [List.map_toArray, List.map_cons, List.map_nil]); first | done | rfl) ?_; (with_reducible refine (nat_ToUint.calls kj4 _ _ t336 t341 t342 _ ?side1 ?side2 A16.out).mono ?_); (case side1 => exact cS (Kd.V_reads' HO338.out).2.2); (case side2 => exact (Kd.V_reads' HO338.out).2.1); rintro e w' ⟨rfl, ⟨nd, rfl⟩⟩; refine ⟨_, rfl, ?_⟩) | ((with_reducible refine gate_callee (f := 135) rfl ?_); refine goesL_ (some 59) rfl rfl Tryd.func135 (by kernel_rfl) rfl #[.slice A0 l0.length c0, .int .i64 (wrap64 ((wrap64 ((ji9) - a1)) - 1))] rfl (by (try simp only [List.map_toArray, List.map_cons, List.map_nil]); first | done | (simp only [hji9]; rfl) | rfl) ?_; (with_reducible refine (nat_Bit.calls _ _ l0 (wrap64 ((wrap64 ((ji9) - a1)) - 1)) t343 _ ?side1 ?side2 A17.out).mono ?_); (case side1 => exact (Kd.C_below HR0.out (bS HB.out))); (case side2 => exact HC0.out); rintro e w' ⟨rfl, ⟨nd, rfl⟩⟩; refine ⟨_, rfl, ?_⟩))
         go_ret
         exact ⟨by first | rfl | (simp [errW_none, errW_some] <;> rfl) | (simp only [← hji9]; first | rfl | (simp [errW_none, errW_some] <;> rfl)) | (simp [*, errW_none, errW_some] <;> rfl), bS HB.out⟩
        ·rw [if_neg c22] at H
         have c22b0 : ((Go.bits .and .u64 t341 1) == 1) = false := beq_eq_false_iff_ne.mpr c22
         have c22b1 : ((Go.bits .and .u64 t341 1) != 1) = true := bne_iff_ne.mpr c22
         replace H := Option.bind_eq_some_iff.mp H
         obtain ⟨t344, A250, H⟩ := H
         replace H : (if t344 < (wrap64 ((wrap64 ((ji9) - a1)) - 1)) then (some (IntKind.u64.wrap ((IntKind.u64.wrap ((IntKind.u64.wrap (wrap64 ((ji9) - (-1074)))) * 4503599627370496)) + (IntKind.u64.wrap (t341 + 1))))) else (some (IntKind.u64.wrap ((IntKind.u64.wrap ((IntKind.u64.wrap (wrap64 ((ji9) - (-1074)))) * 4503599627370496)) + t341)))) = some r := H
         have A25 := Aside0.mk A250
         clear A250
         by_cases c26 : t344 < (wrap64 ((wrap64 ((ji9) - a1)) - 1))
         ·rw [if_pos c26] at H
          have c26b0 : decide (t344 < (wrap64 ((wrap64 ((ji9) - a1)) - 1))) = true := decide_eq_true c26
          clear c26
          obtain rfl := Option.some.inj H
          go_wp2_with (first | ((with_reducible refine gate_callee (f := 122) rfl ?_); refine goesL_ (some 47) rfl rfl Tryd.func122 (by kernel_rfl) rfl #[.slice A0 l0.length c0, .int .i64 (wrap64 ((ji9) - a1))] rfl (by (try simp only [List.map_toArray, List.map_cons, List.map_nil]); first | done | (simp only [hji9]; rfl) | rfl) ?_; (with_reducible refine (nat_Shr.calls kj4 _ _ l0 (wrap64 ((ji9) - a1)) t336 t339 t340 _ ?side3 ?side1 ?side2 A15.out).mono ?_); (case side1 => exact cS (Kd.C_below HR0.out HB.out)); (case side2 => exact HC0.out); (case side3 => exact cS (Kd.C_below HT.out HB.out)); rintro e w27 ⟨v337, rfl, ho0, hb⟩; refine ⟨_, rfl, ?_⟩; have HO338 := Aside0.mk (Kd.V_lower (Kd.V_mono (ok' := fun k_ => True) ho0 (fun k_ hk_ => trivial)) (below_size (bS HB.out))); replace HB := hB HB hb; (try clear hb); (try clear hb2); (try clear hk); (try clear hi); (try clear ho0); obtain ⟨Ao28, co28, eo28⟩ := Kd.V_slice HO338.out; subst eo28) | ((with_reducible refine gate_callee (f := 134) rfl ?_); refine goesL_ (some 53) rfl rfl Tryd.func134 (by kernel_rfl) rfl #[.slice Ao28 t336.length co28] rfl (by (try simp only [List.map_toArray, List.map_cons, List.map_nil]); first | done | rfl) ?_; (with_reducible refine (nat_ToUint.calls kj4 _ _ t336 t341 t342 _ ?side1 ?side2 A16.out).mono ?_); (case side1 => exact cS (Kd.V_reads' HO338.out).2.2); (case side2 => exact (Kd.V_reads' HO338.out).2.1); rintro e w' ⟨rfl, ⟨nd, rfl⟩⟩; refine ⟨_, rfl, ?_⟩) | ((with_reducible refine gate_callee (f := 135) rfl ?_); refine goesL_ (some 59) rfl rfl Tryd.func135 (by kernel_rfl) rfl #[.slice A0 l0.length c0, .int .i64 (wrap64 ((wrap64 ((ji9) - a1)) - 1))] rfl (by (try simp only [List.map_toArray, List.map_cons, List.map_nil]); first | done | (simp only [hji9]; rfl) | rfl) ?_; (with_reducible refine (nat_Bit.calls _ _ l0 (wrap64 ((wrap64 ((ji9) - a1)) - 1)) t343 _ ?side1 ?side2 A17.out).mono ?_); (case side1 => exact (Kd.C_below HR0.out (bS HB.out))); (case side2 => exact HC0.out); rintro e w' ⟨rfl, ⟨nd, rfl⟩⟩; refine ⟨_, rfl, ?_⟩) | (go_at_call 96; (with_reducible refine (nat_Trail.calls kj4 _ _ l0 t344 _ ?side3 ?side1 ?side2 A25.out).mono ?_); (case side1 => exact (Kd.C_below HR0.out (bS HB.out))); (case side2 => exact HC0.out); (case side3 => exact (Kd.C_below HT.out (bS HB.out))); rintro e w' ⟨rfl, ⟨nd, rfl⟩⟩))
          go_ret
          exact ⟨by first | rfl | (simp [errW_none, errW_some] <;> rfl) | (simp only [← hji9]; first | rfl | (simp [errW_none, errW_some] <;> rfl)) | (simp [*, errW_none, errW_some] <;> rfl), bS HB.out⟩
         ·rw [if_neg c26] at H
          have c26b0 : decide (t344 < (wrap64 ((wrap64 ((ji9) - a1)) - 1))) = false := decide_eq_false c26
          clear c26
          obtain rfl := Option.some.inj H
          go_wp2_with (first | ((with_reducible refine gate_callee (f := 122) rfl ?_); refine goesL_ (some 47) rfl rfl Tryd.func122 (by kernel_rfl) rfl #[.slice A0 l0.length c0, .int .i64 (wrap64 ((ji9) - a1))] rfl (by (try simp only [List.map_toArray, List.map_cons, List.map_nil]); first | done | (simp only [hji9]; rfl) | rfl) ?_; (with_reducible refine (nat_Shr.calls kj4 _ _ l0 (wrap64 ((ji9) - a1)) t336 t339 t340 _ ?side3 ?side1 ?side2 A15.out).mono ?_); (case side1 => exact cS (Kd.C_below HR0.out HB.out)); (case side2 => exact HC0.out); (case side3 => exact cS (Kd.C_below HT.out HB.out)); rintro e w29 ⟨v337, rfl, ho0, hb⟩; refine ⟨_, rfl, ?_⟩; have HO338 := Aside0.mk (Kd.V_lower (Kd.V_mono (ok' := fun k_ => True) ho0 (fun k_ hk_ => trivial)) (below_size (bS HB.out))); replace HB := hB HB hb; (try clear hb); (try clear hb2); (try clear hk); (try clear hi); (try clear ho0); obtain ⟨Ao30, co30, eo30⟩ := Kd.V_slice HO338.out; subst eo30) | ((with_reducible refine gate_callee (f := 134) rfl ?_); refine goesL_ (some 53) rfl rfl Tryd.func134 (by kernel_rfl) rfl #[.slice Ao30 t336.length co30] rfl (by (try simp only [List.map_toArray, List.map_cons, List.map_nil]); first | done | rfl) ?_; (with_reducible refine (nat_ToUint.calls kj4 _ _ t336 t341 t342 _ ?side1 ?side2 A16.out).mono ?_); (case side1 => exact cS (Kd.V_reads' HO338.out).2.2); (case side2 => exact (Kd.V_reads' HO338.out).2.1); rintro e w' ⟨rfl, ⟨nd, rfl⟩⟩; refine ⟨_, rfl, ?_⟩) | ((with_reducible refine gate_callee (f := 135) rfl ?_); refine goesL_ (some 59) rfl rfl Tryd.func135 (by kernel_rfl) rfl #[.slice A0 l0.length c0, .int .i64 (wrap64 ((wrap64 ((ji9) - a1)) - 1))] rfl (by (try simp only [List.map_toArray, List.map_cons, List.map_nil]); first | done | (simp only [hji9]; rfl) | rfl) ?_; (with_reducible refine (nat_Bit.calls _ _ l0 (wrap64 ((wrap64 ((ji9) - a1)) - 1)) t343 _ ?side1 ?side2 A17.out).mono ?_); (case side1 => exact (Kd.C_below HR0.out (bS HB.out))); (case side2 => exact HC0.out); rintro e w' ⟨rfl, ⟨nd, rfl⟩⟩; refine ⟨_, rfl, ?_⟩) | (go_at_call 96; (with_reducible refine (nat_Trail.calls kj4 _ _ l0 t344 _ ?side3 ?side1 ?side2 A25.out).mono ?_); (case side1 => exact (Kd.C_below HR0.out (bS HB.out))); (case side2 => exact HC0.out); (case side3 => exact (Kd.C_below HT.out (bS HB.out))); rintro e w' ⟨rfl, ⟨nd, rfl⟩⟩))
          go_ret
          exact ⟨by first | rfl | (simp [errW_none, errW_some] <;> rfl) | (simp only [← hji9]; first | rfl | (simp [errW_none, errW_some] <;> rfl)) | (simp [*, errW_none, errW_some] <;> rfl), bS HB.out⟩
      ·rw [if_neg c18] at H
       have c18b0 : (t343 == 1) = false := beq_eq_false_iff_ne.mpr c18
       have c18b1 : (t343 != 1) = true := bne_iff_ne.mpr c18
       obtain rfl := Option.some.inj H
       go_wp2_with (first | ((with_reducible refine gate_callee (f := 122) rfl ?_); refine goesL_ (some 47) rfl rfl Tryd.func122 (by kernel_rfl) rfl #[.slice A0 l0.length c0, .int .i64 (wrap64 ((ji9) - a1))] rfl (by (try simp only [List.map_toArray, List.map_cons, List.map_nil]); first | done | (simp only [hji9]; rfl) | rfl) ?_; (with_reducible refine (nat_Shr.calls kj4 _ _ l0 (wrap64 ((ji9) - a1)) t336 t339 t340 _ ?side3 ?side1 ?side2 A15.out).mono ?_); (case side1 => exact cS (Kd.C_below HR0.out HB.out)); (case side2 => exact HC0.out); (case side3 => exact cS (Kd.C_below HT.out HB.out)); rintro e w31 ⟨v337, rfl, ho0, hb⟩; refine ⟨_, rfl, ?_⟩; have HO338 := Aside0.mk (Kd.V_lower (Kd.V_mono (ok' := fun k_ => True) ho0 (fun k_ hk_ => trivial)) (below_size (bS HB.out))); replace HB := hB HB hb; (try clear hb); (try clear hb2); (try clear hk); (try clear hi); (try clear ho0); obtain ⟨Ao32, co32, eo32⟩ := Kd.V_slice HO338.out; subst eo32) | ((with_reducible refine gate_callee (f := 134) rfl ?_); refine goesL_ (some 53) rfl rfl Tryd.func134 (by kernel_rfl) rfl #[.slice Ao32 t336.length co32] rfl (by (try simp only [List.map_toArray, List.map_cons, List.map_nil]); first | done | rfl) ?_; (with_reducible refine (nat_ToUint.calls kj4 _ _ t336 t341 t342 _ ?side1 ?side2 A16.out).mono ?_); (case side1 => exact cS (Kd.V_reads' HO338.out).2.2); (case side2 => exact (Kd.V_reads' HO338.out).2.1); rintro e w' ⟨rfl, ⟨nd, rfl⟩⟩; refine ⟨_, rfl, ?_⟩) | ((with_reducible refine gate_callee (f := 135) rfl ?_); refine goesL_ (some 59) rfl rfl Tryd.func135 (by kernel_rfl) rfl #[.slice A0 l0.length c0, .int .i64 (wrap64 ((wrap64 ((ji9) - a1)) - 1))] rfl (by (try simp only [List.map_toArray, List.map_cons, List.map_nil]); first | done | (simp only [hji9]; rfl) | rfl) ?_; (with_reducible refine (nat_Bit.calls _ _ l0 (wrap64 ((wrap64 ((ji9) - a1)) - 1)) t343 _ ?side1 ?side2 A17.out).mono ?_); (case side1 => exact (Kd.C_below HR0.out (bS HB.out))); (case side2 => exact HC0.out); rintro e w' ⟨rfl, ⟨nd, rfl⟩⟩; refine ⟨_, rfl, ?_⟩))
       go_ret
       exact ⟨by first | rfl | (simp [errW_none, errW_some] <;> rfl) | (simp only [← hji9]; first | rfl | (simp [errW_none, errW_some] <;> rfl)) | (simp [*, errW_none, errW_some] <;> rfl), bS HB.out⟩

/-! ### ieee_near: function 124 -/
def ieee_near.f (a0 : Int) : Option (Int) := some (mx (-1099511627776) (mn 1099511627776 a0))
set_option maxHeartbeats 8000000 in
set_option maxRecDepth 100000 in
theorem ieee_near.calls (a0 : Int) (r : Int) (w : World) (h : ieee_near.f a0 = some r) :
  Calls Tryd.prog 124 #[.int .i64 a0] w fun e w' => e = .returned (.int .i64 r) ∧ Below w.heap.size w w' := by
 have HB := Aside0.mk (Below.refl w.heap.size w)
 have H : (some (mx (-1099511627776) (mn 1099511627776 a0))) = some r := h
 clear h
 obtain ⟨ji2, hji2⟩ : ∃ j_ : Int, (mn 1099511627776 a0) = j_ := ⟨_, rfl⟩
 replace H : (some (mx (-1099511627776) (ji2))) = some r := by first | (rw [hji2] at H; exact H) | (simp only [hji2] at H ⊢; exact H)
 (try (have hji2h : ji2 ≤ 1099511627776 := by (rw [← hji2]; unfold mn; (repeat' split) <;> omega)))
 (try (have hji2g : ji2 ≤ 64 := by omega))
 have hji2_ : (if a0 < 1099511627776 then a0 else 1099511627776) = ji2 := hji2
 obtain ⟨ji3, hji3⟩ : ∃ j_ : Int, (mx (-1099511627776) (ji2)) = j_ := ⟨_, rfl⟩
 replace H : (some ji3) = some r := by first | (rw [hji3] at H; exact H) | (simp only [hji3] at H ⊢; exact H)
 have hji3_ : (if (-1099511627776) < (ji2) then (ji2) else (-1099511627776)) = ji3 := hji3
 obtain rfl := Option.some.inj H
 go_enter Tryd.func124, Tryd.ntmps124
 go_wp2
 go_ret
 exact ⟨by first | rfl | (simp [errW_none, errW_some] <;> rfl) | (simp only [← hji2, ← hji3]; first | rfl | (simp [errW_none, errW_some] <;> rfl)) | (simp [*, errW_none, errW_some] <;> rfl), bS HB.out⟩

/-! ### ieee_Round: function 94 -/
def ieee_Round.f (k : Nat) (a0 : Bool) (l1 : List Int) (a2 : Int) (a3 : Bool) : Option (Int × Int) := (nat_Shl.f k l1 0).bind fun bt345 => (if bt345.2 = 0 then ((ieee_near.f a2).bind fun t349 => ((ieee_magnitude.f k bt345.1 t349 a3).bind fun t350 => (if a0 = true then ((ieee_Neg.f t350).bind fun t351 => (some (t351, 0))) else (some (t350, 0))))) else (some (0, bt345.2)))
theorem ieee_Round.mono : ∀ a0 a1 a2 a3 k, LeO (ieee_Round.f k a0 a1 a2 a3) (ieee_Round.f (k + 1) a0 a1 a2 a3) := by
 intro a0 a1 a2 a3 k
 unfold ieee_Round.f
 repeat' first
   | (with_reducible exact ieee_magnitude.mono _ _ _ _)
   | (with_reducible exact nat_Shl.mono _ _ _)
   | (with_reducible exact LeO.refl _)
   | (with_reducible exact LeO.none _)
   | (with_reducible refine LeO.ite ?_ ?_)
   | (with_reducible refine LeO.bind ?_ (fun _ => ?_))
   | exact ieee_magnitude.mono _ _ _ _
   | exact nat_Shl.mono _ _ _
   | exact LeO.none _
   | refine LeO.ite ?_ ?_
   | refine LeO.bind ?_ (fun _ => ?_)
set_option maxHeartbeats 8000000 in
set_option maxRecDepth 100000 in
theorem ieee_Round.calls (k : Nat) (a0 : Bool) (A1 : Option Addr) (c1 : Nat) (l1 : List Int) (a2 : Int) (a3 : Bool) (r1 : Int) (r2 : Int) (w : World) (hT : Kd.C (Kd.int .u8) w (some ⟨0, 0, none⟩) 64 tabL) (hr1 : Kd.C (Kd.int .u64) w A1 l1.length l1) (hc1 : l1.length ≤ c1) (h : ieee_Round.f k a0 l1 a2 a3 = some (r1, r2)) :
  Calls Tryd.prog 94 #[.bool a0, .slice A1 l1.length c1, .int .i64 a2, .bool a3] w fun e w' => e = .returned (.tuple #[.int .u64 r1, .int .i64 r2]) ∧ Below w.heap.size w w' := by
 have HT := Aside0.mk hT
 clear hT
 have HR1 := Aside0.mk hr1
 have HC1 := Aside0.mk hc1
 clear hr1 hc1
 have HB := Aside0.mk (Below.refl w.heap.size w)
 have H : ((nat_Shl.f k l1 0).bind fun bt345 => (if bt345.2 = 0 then ((ieee_near.f a2).bind fun t349 => ((ieee_magnitude.f k bt345.1 t349 a3).bind fun t350 => (if a0 = true then ((ieee_Neg.f t350).bind fun t351 => (some (t351, 0))) else (some (t350, 0))))) else (some (0, bt345.2)))) = some (r1, r2) := h
 clear h
 obtain ⟨⟨t345, t348⟩, A50, H⟩ := Option.bind_eq_some_iff.mp H
 dsimp only at H
 have A5 := Aside0.mk A50
 clear A50
 by_cases c6 : t348 = 0
 ·rw [if_pos c6] at H
  have c6b0 : (t348 == 0) = true := beq_iff_eq.mpr c6
  have c6b1 : (t348 != 0) = false := bne_eq_false_iff_eq.mpr c6
  clear c6
  obtain ⟨t349, A70, H⟩ := Option.bind_eq_some_iff.mp H
  have A7 := Aside0.mk A70
  clear A70
  obtain ⟨t350, A80, H⟩ := Option.bind_eq_some_iff.mp H
  have A8 := Aside0.mk A80
  clear A80
  by_cases c9 : a0 = true
  ·subst c9
   have H1 : ((ieee_Neg.f t350).bind fun t351 => (some (t351, 0))) = some (r1, r2) := by rw [if_pos rfl] at H; exact H
   clear H
   have H := H1
   clear H1
   obtain ⟨t351, A100, H⟩ := Option.bind_eq_some_iff.mp H
   have A10 := Aside0.mk A100
   clear A100
   simp only [Option.some.injEq, Prod.mk.injEq] at H
   obtain ⟨rfl, rfl⟩ := H
   go_enter Tryd.func94, Tryd.ntmps94
   go_wp2_with (first | ((with_reducible refine gate_callee (f := 51) rfl ?_); refine goesL_ (some 14) rfl rfl Tryd.func51 (by kernel_rfl) rfl #[.slice A1 l1.length c1, .int .i64 0] rfl (by (try simp only [List.map_toArray, List.map_cons, List.map_nil]); first | done | rfl) ?_; (with_reducible refine (nat_Shl.calls k _ _ l1 0 t345 t348 _ ?side1 ?side2 A5.out).mono ?_); (case side1 => exact cS HR1.out); (case side2 => exact HC1.out); rintro e w11 ⟨v346, rfl, ho0, hb⟩; refine ⟨_, rfl, ?_⟩; have HO347 := Aside0.mk (Kd.V_lower (Kd.V_mono (ok' := fun k_ => True) ho0 (fun k_ hk_ => trivial)) (below_size (bS HB.out))); replace HB := hB HB hb; (try clear hb); (try clear hb2); (try clear hk); (try clear hi); (try clear ho0)) | ((with_reducible refine gate_callee (f := 124) rfl ?_); refine goesL_ (some 22) rfl rfl Tryd.func124 (by kernel_rfl) rfl #[.int .i64 a2] rfl (by (try simp only [List.map_toArray, List.map_cons, List.map_nil]); first | done | rfl) ?_; (with_reducible refine (ieee_near.calls a2 t349 _ A7.out).mono ?_); rintro e w12 ⟨rfl, hb⟩; refine ⟨_, rfl, ?_⟩; replace HO347 := vB HO347 hb; replace HB := hB HB hb; (try clear hb); (try clear hb2); (try clear hk); (try clear hi); obtain ⟨Ao13, co13, eo13⟩ := Kd.V_slice HO347.out; subst eo13) | ((with_reducible refine gate_callee (f := 123) rfl ?_); refine goesL_ (some 24) rfl rfl Tryd.func123 (by kernel_rfl) rfl #[.slice Ao13 t345.length co13, .int .i64 t349, .bool a3] rfl (by (try simp only [List.map_toArray, List.map_cons, List.map_nil]); first | done | rfl) ?_; (with_reducible refine (ieee_magnitude.calls k _ _ t345 t349 a3 t350 _ ?side3 ?side1 ?side2 A8.out).mono ?_); (case side1 => exact cS (Kd.V_reads' HO347.out).2.2); (case side2 => exact (Kd.V_reads' HO347.out).2.1); (case side3 => exact cS (Kd.C_below HT.out HB.out)); rintro e w14 ⟨rfl, hb⟩; refine ⟨_, rfl, ?_⟩; replace HO347 := vB HO347 hb; replace HB := hB HB hb; (try clear hb); (try clear hb2); (try clear hk); (try clear hi)) | ((with_reducible refine gate_callee (f := 30) rfl ?_); refine goesL_ (some 27) rfl rfl Tryd.func30 (by kernel_rfl) rfl #[.int .u64 t350] rfl (by (try simp only [List.map_toArray, List.map_cons, List.map_nil]); first | done | rfl) ?_; (with_reducible refine (ieee_Neg.calls t350 t351 _ A10.out).mono ?_); rintro e w' ⟨rfl, ⟨nd, rfl⟩⟩; refine ⟨_, rfl, ?_⟩))
   go_ret2
   exact ⟨by first | rfl | (simp [errW_none, errW_some] <;> rfl) | (simp [*, errW_none, errW_some] <;> rfl), bS HB.out⟩
  ·replace c9 := Bool.eq_false_iff.mpr c9
   subst c9
   have H1 : (some (t350, 0)) = some (r1, r2) := by rw [if_neg (show ¬ (false = true) by decide)] at H; exact H
   clear H
   have H := H1
   clear H1
   simp only [Option.some.injEq, Prod.mk.injEq] at H
   obtain ⟨rfl, rfl⟩ := H
   go_enter Tryd.func94, Tryd.ntmps94
   go_wp2_with (first | ((with_reducible refine gate_callee (f := 51) rfl ?_); refine goesL_ (some 14) rfl rfl Tryd.func51 (by kernel_rfl) rfl #[.slice A1 l1.length c1, .int .i64 0] rfl (by (try simp only [List.map_toArray, List.map_cons, List.map_nil]); first | done | rfl) ?_; (with_reducible refine (nat_Shl.calls k _ _ l1 0 t345 t348 _ ?side1 ?side2 A5.out).mono ?_); (case side1 => exact cS HR1.out); (case side2 => exact HC1.out); rintro e w15 ⟨v346, rfl, ho0, hb⟩; refine ⟨_, rfl, ?_⟩; have HO347 := Aside0.mk (Kd.V_lower (Kd.V_mono (ok' := fun k_ => True) ho0 (fun k_ hk_ => trivial)) (below_size (bS HB.out))); replace HB := hB HB hb; (try clear hb); (try clear hb2); (try clear hk); (try clear hi); (try clear ho0)) | ((with_reducible refine gate_callee (f := 124) rfl ?_); refine goesL_ (some 22) rfl rfl Tryd.func124 (by kernel_rfl) rfl #[.int .i64 a2] rfl (by (try simp only [List.map_toArray, List.map_cons, List.map_nil]); first | done | rfl) ?_; (with_reducible refine (ieee_near.calls a2 t349 _ A7.out).mono ?_); rintro e w16 ⟨rfl, hb⟩; refine ⟨_, rfl, ?_⟩; replace HO347 := vB HO347 hb; replace HB := hB HB hb; (try clear hb); (try clear hb2); (try clear hk); (try clear hi); obtain ⟨Ao17, co17, eo17⟩ := Kd.V_slice HO347.out; subst eo17) | ((with_reducible refine gate_callee (f := 123) rfl ?_); refine goesL_ (some 24) rfl rfl Tryd.func123 (by kernel_rfl) rfl #[.slice Ao17 t345.length co17, .int .i64 t349, .bool a3] rfl (by (try simp only [List.map_toArray, List.map_cons, List.map_nil]); first | done | rfl) ?_; (with_reducible refine (ieee_magnitude.calls k _ _ t345 t349 a3 t350 _ ?side3 ?side1 ?side2 A8.out).mono ?_); (case side1 => exact cS (Kd.V_reads' HO347.out).2.2); (case side2 => exact (Kd.V_reads' HO347.out).2.1); (case side3 => exact cS (Kd.C_below HT.out HB.out)); rintro e w18 ⟨rfl, hb⟩; refine ⟨_, rfl, ?_⟩; replace HO347 := vB HO347 hb; replace HB := hB HB hb; (try clear hb); (try clear hb2); (try clear hk); (try clear hi)))
   go_ret2
   exact ⟨by first | rfl | (simp [errW_none, errW_some] <;> rfl) | (simp [*, errW_none, errW_some] <;> rfl), bS HB.out⟩
 ·rw [if_neg c6] at H
  have c6b0 : (t348 == 0) = false := beq_eq_false_iff_ne.mpr c6
  have c6b1 : (t348 != 0) = true := bne_iff_ne.mpr c6
  simp only [Option.some.injEq, Prod.mk.injEq] at H
  obtain ⟨rfl, rfl⟩ := H
  go_enter Tryd.func94, Tryd.ntmps94
  go_wp2_with (first | ((with_reducible refine gate_callee (f := 51) rfl ?_); refine goesL_ (some 14) rfl rfl Tryd.func51 (by kernel_rfl) rfl #[.slice A1 l1.length c1, .int .i64 0] rfl (by (try simp only [List.map_toArray, List.map_cons, List.map_nil]); first | done | rfl) ?_; (with_reducible refine (nat_Shl.calls k _ _ l1 0 t345 t348 _ ?side1 ?side2 A5.out).mono ?_); (case side1 => exact cS HR1.out); (case side2 => exact HC1.out); rintro e w19 ⟨v346, rfl, ho0, hb⟩; refine ⟨_, rfl, ?_⟩; have HO347 := Aside0.mk (Kd.V_lower (Kd.V_mono (ok' := fun k_ => True) ho0 (fun k_ hk_ => trivial)) (below_size (bS HB.out))); replace HB := hB HB hb; (try clear hb); (try clear hb2); (try clear hk); (try clear hi); (try clear ho0)))
  go_ret2
  exact ⟨by first | rfl | (simp [errW_none, errW_some] <;> rfl) | (simp [*, errW_none, errW_some] <;> rfl), bS HB.out⟩

/-! ### soft_aligned: function 119 -/
def soft_aligned.f (k : Nat) (l0 : List Int) (a1 : Int) (l2 : List Int) (a3 : Int) : Option (List Int × List Int × Int) := if a1 > a3 then ((nat_Shl.f k l0 (wrap64 (a1 - a3))).bind fun bt352 => (some (bt352.1, l2, a3))) else ((nat_Shl.f k l2 (wrap64 (a3 - a1))).bind fun bt356 => (some (l0, bt356.1, a1)))
theorem soft_aligned.mono : ∀ a0 a1 a2 a3 k, LeO (soft_aligned.f k a0 a1 a2 a3) (soft_aligned.f (k + 1) a0 a1 a2 a3) := by
 intro a0 a1 a2 a3 k
 unfold soft_aligned.f
 repeat' first
   | (with_reducible exact nat_Shl.mono _ _ _)
   | (with_reducible exact LeO.refl _)
   | (with_reducible exact LeO.none _)
   | (with_reducible refine LeO.ite ?_ ?_)
   | (with_reducible refine LeO.bind ?_ (fun _ => ?_))
   | exact nat_Shl.mono _ _ _
   | exact LeO.none _
   | refine LeO.ite ?_ ?_
   | refine LeO.bind ?_ (fun _ => ?_)
set_option maxHeartbeats 8000000 in
set_option maxRecDepth 100000 in
theorem soft_aligned.calls (k : Nat) (P0_ : Nat → Prop) (A0 : Option Addr) (c0 : Nat) (l0 : List Int) (a1 : Int) (P2_ : Nat → Prop) (A2 : Option Addr) (c2 : Nat) (l2 : List Int) (a3 : Int) (r1 : List Int) (r2 : List Int) (r3 : Int) (w : World) (hs0 : Kd.V (Kd.int .u64) 22 w w.heap.size (fun k_ => P0_ k_) (.slice A0 l0.length c0) l0) (hs2 : Kd.V (Kd.int .u64) 22 w w.heap.size (fun k_ => P2_ k_) (.slice A2 l2.length c2) l2) (h : soft_aligned.f k l0 a1 l2 a3 = some (r1, r2, r3)) :
  Calls Tryd.prog 119 #[.slice A0 l0.length c0, .int .i64 a1, .slice A2 l2.length c2, .int .i64 a3] w fun e w' => ∃ v0_ v1_ : Value, e = .returned (.tuple #[v0_, v1_, .int .i64 r3]) ∧ Kd.V (Kd.int .u64) 22 w' w.heap.size (fun k_ => ((P0_ k_ ∨ P2_ k_) ∨ w.heap.size ≤ k_)) v0_ r1 ∧ Kd.V (Kd.int .u64) 22 w' w.heap.size (fun k_ => ((P0_ k_ ∨ P2_ k_) ∨ w.heap.size ≤ k_)) v1_ r2 ∧ Below w.heap.size w w' := by
 have HO0 := Aside0.mk (show Kd.V (Kd.int .u64) 22 w w.heap.size (fun k_ => ((P0_ k_ ∨ P2_ k_) ∨ w.heap.size ≤ k_)) (.slice A0 l0.length c0) l0 from Kd.V_mono hs0 (fun k_ hk => .inl (.inl hk)))
 have HO2 := Aside0.mk (show Kd.V (Kd.int .u64) 22 w w.heap.size (fun k_ => ((P0_ k_ ∨ P2_ k_) ∨ w.heap.size ≤ k_)) (.slice A2 l2.length c2) l2 from Kd.V_mono hs2 (fun k_ hk => .inl (.inr hk)))
 have HB := Aside0.mk (Below.refl w.heap.size w)
 have H : (if a1 > a3 then ((nat_Shl.f k l0 (wrap64 (a1 - a3))).bind fun bt352 => (some (bt352.1, l2, a3))) else ((nat_Shl.f k l2 (wrap64 (a3 - a1))).bind fun bt356 => (some (l0, bt356.1, a1)))) = some (r1, r2, r3) := h
 clear h
 by_cases c5 : a1 > a3
 ·rw [if_pos c5] at H
  have c5b0 : decide (a3 < a1) = true := decide_eq_true c5
  clear c5
  obtain ⟨⟨t352, t355⟩, A60, H⟩ := Option.bind_eq_some_iff.mp H
  dsimp only at H
  have A6 := Aside0.mk A60
  clear A60
  simp only [Option.some.injEq, Prod.mk.injEq] at H
  obtain ⟨rfl, rfl, rfl⟩ := H
  go_enter Tryd.func119, Tryd.ntmps119
  go_wp2_with (first | ((with_reducible refine gate_callee (f := 51) rfl ?_); refine goesL_ (some 19) rfl rfl Tryd.func51 (by kernel_rfl) rfl #[.slice A0 l0.length c0, .int .i64 (wrap64 (a1 - a3))] rfl (by (try simp only [List.map_toArray, List.map_cons, List.map_nil]); first | done | rfl) ?_; (with_reducible refine (nat_Shl.calls k _ _ l0 (wrap64 (a1 - a3)) t352 t355 _ ?side1 ?side2 A6.out).mono ?_); (case side1 => exact cS (Kd.V_reads' HO0.out).2.2); (case side2 => exact (Kd.V_reads' HO0.out).2.1); rintro e w7 ⟨v353, rfl, ho0, hb⟩; refine ⟨_, rfl, ?_⟩; replace HO0 := vB HO0 hb; replace HO2 := vB HO2 hb; have HO354 := Aside0.mk (Kd.V_lower (Kd.V_mono (ok' := fun k_ => ((P0_ k_ ∨ P2_ k_) ∨ w.heap.size ≤ k_)) ho0 (fun k_ hk_ => (.inr (Nat.le_trans (below_size (bS HB.out)) hk_)))) (below_size (bS HB.out))); replace HB := hB HB hb; (try clear hb); (try clear hb2); (try clear hk); (try clear hi); (try clear ho0)))
  go_ret3
  exact ⟨_, _, by first | rfl | (simp [errW_none, errW_some] <;> rfl) | (simp [*, errW_none, errW_some] <;> rfl), vS <| HO354.out, vS <| HO2.out, bS HB.out⟩
 ·rw [if_neg c5] at H
  have c5b0 : decide (a3 < a1) = false := decide_eq_false c5
  clear c5
  obtain ⟨⟨t356, t359⟩, A80, H⟩ := Option.bind_eq_some_iff.mp H
  dsimp only at H
  have A8 := Aside0.mk A80
  clear A80
  simp only [Option.some.injEq, Prod.mk.injEq] at H
  obtain ⟨rfl, rfl, rfl⟩ := H
  go_enter Tryd.func119, Tryd.ntmps119
  go_wp2_with (first | ((with_reducible refine gate_callee (f := 51) rfl ?_); refine goesL_ (some 30) rfl rfl Tryd.func51 (by kernel_rfl) rfl #[.slice A2 l2.length c2, .int .i64 (wrap64 (a3 - a1))] rfl (by (try simp only [List.map_toArray, List.map_cons, List.map_nil]); first | done | rfl) ?_; (with_reducible refine (nat_Shl.calls k _ _ l2 (wrap64 (a3 - a1)) t356 t359 _ ?side1 ?side2 A8.out).mono ?_); (case side1 => exact cS (Kd.V_reads' HO2.out).2.2); (case side2 => exact (Kd.V_reads' HO2.out).2.1); rintro e w9 ⟨v357, rfl, ho0, hb⟩; refine ⟨_, rfl, ?_⟩; replace HO0 := vB HO0 hb; replace HO2 := vB HO2 hb; have HO358 := Aside0.mk (Kd.V_lower (Kd.V_mono (ok' := fun k_ => ((P0_ k_ ∨ P2_ k_) ∨ w.heap.size ≤ k_)) ho0 (fun k_ hk_ => (.inr (Nat.le_trans (below_size (bS HB.out)) hk_)))) (below_size (bS HB.out))); replace HB := hB HB hb; (try clear hb); (try clear hb2); (try clear hk); (try clear hi); (try clear ho0)))
  go_ret3
  exact ⟨_, _, by first | rfl | (simp [errW_none, errW_some] <;> rfl) | (simp [*, errW_none, errW_some] <;> rfl), vS <| HO0.out, vS <| HO358.out, bS HB.out⟩

end Go.Proofs.YtcdnoklokoplaaaDoor.PE
