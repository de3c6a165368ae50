-- printed by a program
import Derived.Test.YtiigfmmflicdpaaDoorPBx0
import Derived.Test.YtiigfmmflicdpaaDoorPBx1
import Derived.Test.YtiigfmmflicdpaaDoorPBx2
import Derived.Test.YtiigfmmflicdpaaDoorPBx3
import Derived.Test.YtiigfmmflicdpaaDoorPBx4
import Derived.Test.YtiigfmmflicdpaaDoorPBx6
namespace Go.Proofs.YtiigfmmflicdpaaDoor.PB
open Go.Proofs.YtiigfmmflicdpaaDoorX
open Go.RowKit Go.Proofs.YtiigfmmflicdpaaDoorW.PrintWords Go.Proofs.YtiigfmmflicdpaaDoorW.PrintLast Go.Proofs.YtiigfmmflicdpaaDoorW.PrintMore
attribute [local go_sem] max2_int min2_int max_two min_two max_three min_three max_four min_four   -- for this text's walks alone
set_option linter.unusedVariables false
set_option linter.unusedSimpArgs false

/-! ### ieee_ToInt: function 32 -/
def ieee_ToInt.j0 : Nat → Bool → Int → Bool → Bool → Option (Int × Int)
  | 0, _, _, _, _ => none
  | k + 1, x4, x7, x8, x23 => if x23 = true then (some (wrap64 (x7), 0)) else (if x8 = true then (if x7 ≤ 9223372036854775808 then (if x4 = true then (some (wrap64 (-(wrap64 (x7))), 0)) else (some (0, 41))) else (some (0, 41))) else (some (0, 41)))
def ieee_ToInt.f (k : Nat) (a0 : Int) : Option (Int × Int) := (ieee_Whole.f k a0).bind fun bt379 => (if bt379.2.2 = 0 then ((nat_ToUint.f k bt379.2.1).bind fun bt384 => (if bt384.2 = true then (if bt384.1 < 9223372036854775808 then (ieee_ToInt.j0 k bt379.1 bt384.1 bt384.2 (!bt379.1)) else (ieee_ToInt.j0 k bt379.1 bt384.1 bt384.2 false)) else (ieee_ToInt.j0 k bt379.1 bt384.1 bt384.2 false))) else (some (0, bt379.2.2)))
theorem ieee_ToInt.mono_l : ∀ k, (∀ y0 y1 y2 y3, LeO (ieee_ToInt.j0 k y0 y1 y2 y3) (ieee_ToInt.j0 (k + 1) y0 y1 y2 y3))
  | 0 => fun _ _ _ _ r h => by simp [ieee_ToInt.j0] at h
  | k + 1 => by
    have ih0 := ieee_ToInt.mono_l k
    · intro y0 y1 y2 y3
      unfold ieee_ToInt.j0
      repeat' first
      | (with_reducible exact ih0 _ _ _ _)
      | (with_reducible exact ieee_Whole.mono _ _)
      | (with_reducible exact nat_ToUint.mono _ _)
      | (with_reducible exact LeO.refl _)
      | (with_reducible exact LeO.none _)
      | (with_reducible refine LeO.ite ?_ ?_)
      | (with_reducible refine LeO.bind ?_ (fun _ => ?_))
      | exact ih0 _ _ _ _
      | exact ieee_Whole.mono _ _
      | exact nat_ToUint.mono _ _
      | exact LeO.none _
      | refine LeO.ite ?_ ?_
      | refine LeO.bind ?_ (fun _ => ?_)
theorem ieee_ToInt.mono : ∀ a0 k, LeO (ieee_ToInt.f k a0) (ieee_ToInt.f (k + 1) a0) := by
  intro a0 k
  have ih0 := ieee_ToInt.mono_l k
  unfold ieee_ToInt.f
  repeat' first
      | (with_reducible exact ih0 _ _ _ _)
      | (with_reducible exact ieee_Whole.mono _ _)
      | (with_reducible exact nat_ToUint.mono _ _)
      | (with_reducible exact LeO.refl _)
      | (with_reducible exact LeO.none _)
      | (with_reducible refine LeO.ite ?_ ?_)
      | (with_reducible refine LeO.bind ?_ (fun _ => ?_))
      | exact ih0 _ _ _ _
      | exact ieee_Whole.mono _ _
      | exact nat_ToUint.mono _ _
      | exact LeO.none _
      | refine LeO.ite ?_ ?_
      | refine LeO.bind ?_ (fun _ => ?_)
set_option maxHeartbeats 8000000 in
set_option maxRecDepth 100000 in
theorem ieee_ToInt.calls (k : Nat) (a0 : Int) (r1 : Int) (r2 : Int) (w : World) (hT : Kd.C (Kd.int .u8) w (some ⟨0, 0, none⟩) 64 tabL) (h : ieee_ToInt.f k a0 = some (r1, r2)) :
    Calls Tryd.prog 32 #[.int .u64 a0] w fun e w' => e = .returned (.tuple #[.int .i64 r1, .int .i64 r2]) ∧ Below w.heap.size w w' := by
  have HT := Aside0.mk hT
  clear hT
  have HB := Aside0.mk (Below.refl w.heap.size w)
  have H : ((ieee_Whole.f k a0).bind fun bt379 => (if bt379.2.2 = 0 then ((nat_ToUint.f k bt379.2.1).bind fun bt384 => (if bt384.2 = true then (if bt384.1 < 9223372036854775808 then (ieee_ToInt.j0 k bt379.1 bt384.1 bt384.2 (!bt379.1)) else (ieee_ToInt.j0 k bt379.1 bt384.1 bt384.2 false)) else (ieee_ToInt.j0 k bt379.1 bt384.1 bt384.2 false))) else (some (0, bt379.2.2)))) = some (r1, r2) := h
  clear h
  replace H := Option.bind_eq_some_iff.mp H
  obtain ⟨⟨t379, t380, t383⟩, A20, H⟩ := H
  replace H : (if t383 = 0 then ((nat_ToUint.f k t380).bind fun bt384 => (if bt384.2 = true then (if bt384.1 < 9223372036854775808 then (ieee_ToInt.j0 k t379 bt384.1 bt384.2 (!t379)) else (ieee_ToInt.j0 k t379 bt384.1 bt384.2 false)) else (ieee_ToInt.j0 k t379 bt384.1 bt384.2 false))) else (some (0, t383))) = some (r1, r2) := H
  have A2 := Aside0.mk A20
  clear A20
  by_cases c3 : t383 = 0
  · rw [if_pos c3] at H
    have c3b0 : (t383 == 0) = true := beq_iff_eq.mpr c3
    have c3b1 : (t383 != 0) = false := bne_eq_false_iff_eq.mpr c3
    clear c3
    replace H := Option.bind_eq_some_iff.mp H
    obtain ⟨⟨t384, t385⟩, A40, H⟩ := H
    replace H : (if t385 = true then (if t384 < 9223372036854775808 then (ieee_ToInt.j0 k t379 t384 t385 (!t379)) else (ieee_ToInt.j0 k t379 t384 t385 false)) else (ieee_ToInt.j0 k t379 t384 t385 false)) = some (r1, r2) := H
    have A4 := Aside0.mk A40
    clear A40
    have HC5 := Aside0.mk H
    clear H
    go_enter Tryd.func32, Tryd.ntmps32
    go_upto_region 5 with (first | ((with_reducible refine gate_callee (f := 36) rfl ?_); refine goesL_ (some 11) rfl rfl Tryd.func36 (by kernel_rfl) rfl #[.int .u64 a0] rfl (by (try simp only [List.map_toArray, List.map_cons, List.map_nil]); first | done | rfl | (simp only [List.length_drop, List.length_take]; rfl) | (simp only [gt_iff_lt, Int.natCast_pos]; done) | (simp only [gt_iff_lt, Int.natCast_pos]; rfl)) ?_; (with_reducible refine (ieee_Whole.calls k a0 t379 t380 t383 _ ?side1 A2.out).mono ?_); (case side1 => repeat (first | exact HT.out | (with_reducible refine Kd.C_alloc ?_ _) | (with_reducible refine Kd.C_drewN ?_ _) | (with_reducible refine Kd.C_drew ?_))); rintro e w6 ⟨v381, rfl, ho0, hb⟩; refine ⟨_, rfl, ?_⟩; have n0_ := Aside0.mk (Kd.V_lower (Kd.V_mono (ok' := fun k_ => True) ho0 (fun k_ hk_ => trivial)) (below_size (by repeat (first | (with_reducible first | exact HB.out | apply below_alloc | apply pw_below_drewN | apply below_drew1) | exact HB.out)))); have n1_ := Aside0.mk (below_step (by repeat (first | (with_reducible first | exact HB.out | apply below_alloc | apply pw_below_drewN | apply below_drew1) | exact HB.out)) hb); clear HB; have HO382 := n0_; have HB := n1_; clear n0_ n1_; (try clear hb); (try clear hb2); (try clear hk); (try clear hi); (try clear ho0); obtain ⟨Ao7, co7, eo7⟩ := Kd.V_slice HO382.out; subst eo7) | ((with_reducible refine gate_callee (f := 38) rfl ?_); refine goesL_ (some 20) rfl rfl Tryd.func38 (by kernel_rfl) rfl #[.slice Ao7 t380.length co7] rfl (by (try simp only [List.map_toArray, List.map_cons, List.map_nil]); first | done | rfl | (simp only [List.length_drop, List.length_take]; rfl) | (simp only [gt_iff_lt, Int.natCast_pos]; done) | (simp only [gt_iff_lt, Int.natCast_pos]; rfl)) ?_; (with_reducible refine (nat_ToUint.calls k _ _ t380 t384 t385 _ ?side1 ?side2 A4.out).mono ?_); (case side1 => repeat (first | exact (Kd.V_reads' HO382.out).2.2 | (with_reducible refine Kd.C_alloc ?_ _) | (with_reducible refine Kd.C_drewN ?_ _) | (with_reducible refine Kd.C_drew ?_))); (case side2 => exact (Kd.V_reads' HO382.out).2.1); rintro e w' ⟨rfl, ⟨nd, rfl⟩⟩; refine ⟨_, rfl, ?_⟩))
    (try simp only [Act.put, List.setIfInBounds_toArray, List.set_cons_zero, List.set_cons_succ])
    go_cut [23] (fun v23 wc => ∃ (kq : Nat) (x23_4 : Bool), v23 = .bool x23_4 ∧ Aside0 (ieee_ToInt.j0 kq t379 t384 t385 x23_4 = some (r1, r2)) ∧ Aside0 (kq ≤ k) ∧ Aside0 (Below w.heap.size w wc))
    case first =>
      have H := HC5.out
      clear HC5
      by_cases c8 : t385 = true
      · subst c8
        have H1 : (if t384 < 9223372036854775808 then (ieee_ToInt.j0 k t379 t384 true (!t379)) else (ieee_ToInt.j0 k t379 t384 true false)) = some (r1, r2) := by rw [if_pos rfl] at H; exact H
        clear H
        have H := H1
        clear H1
        by_cases c9 : t384 < 9223372036854775808
        · rw [if_pos c9] at H
          have c9b0 : decide (t384 < 9223372036854775808) = true := decide_eq_true c9
          clear c9
          (first | rw [c9b0] | (simp only [i64_w, i32_w]; rw [c9b0]) | rw [c9b1] | skip)
          have H' := Aside0.mk H
          clear H
          go_wp2
          go_meet
          case rel => exact ⟨_, (!t379), (by first | rfl | (simp; done) | (simp [*]; done)), H', ⟨by first | omega | exact Nat.le_refl _⟩, ⟨by repeat (first | (with_reducible first | exact HB.out | apply below_alloc | apply pw_below_drewN | apply below_drew1) | exact HB.out)⟩⟩
        · rw [if_neg c9] at H
          have c9b0 : decide (t384 < 9223372036854775808) = false := decide_eq_false c9
          clear c9
          (first | rw [c9b0] | (simp only [i64_w, i32_w]; rw [c9b0]) | rw [c9b1] | skip)
          have H' := Aside0.mk H
          clear H
          go_wp2
          go_meet
          case rel => exact ⟨_, (false), (by first | rfl | (simp; done) | (simp [*]; done)), H', ⟨by first | omega | exact Nat.le_refl _⟩, ⟨by repeat (first | (with_reducible first | exact HB.out | apply below_alloc | apply pw_below_drewN | apply below_drew1) | exact HB.out)⟩⟩
      · replace c8 := Bool.eq_false_iff.mpr c8
        subst c8
        have H1 : (ieee_ToInt.j0 k t379 t384 false false) = some (r1, r2) := by rw [if_neg (show ¬ (false = true) by decide)] at H; exact H
        clear H
        have H := H1
        clear H1
        have H' := Aside0.mk H
        clear H
        go_wp2
        go_meet
        case rel => exact ⟨_, (false), (by first | rfl | (simp; done) | (simp [*]; done)), H', ⟨by first | omega | exact Nat.le_refl _⟩, ⟨by repeat (first | (with_reducible first | exact HB.out | apply below_alloc | apply pw_below_drewN | apply below_drew1) | exact HB.out)⟩⟩
    case rest =>
      clear HC5
      try clear p2
      try clear c3
      try clear c3b0
      try clear c3b1
      try clear c8
      try clear c9
      try clear c9b0
      try clear c9b1
      obtain ⟨kq, x23_4, rfl, HA, HJ4, HB⟩ := hcut
      cases kq with
      | zero => exact absurd HA.out (by simp [ieee_ToInt.j0])
      | succ kj4 =>
        have H := HA.out
        clear HA
        simp only [ieee_ToInt.j0] at H
        by_cases c10 : x23_4 = true
        · subst c10
          have H1 : (some (wrap64 (t384), 0)) = some (r1, r2) := by rw [if_pos rfl] at H; exact H
          clear H
          have H := H1
          clear H1
          simp only [Option.some.injEq, Prod.mk.injEq] at H
          obtain ⟨rfl, rfl⟩ := H
          go_wp2
          go_ret2
          exact ⟨by first | rfl | (simp [errW_none, errW_some] <;> rfl) | (simp [*, errW_none, errW_some] <;> rfl), by repeat (first | (with_reducible first | exact HB.out | apply below_alloc | apply pw_below_drewN | apply below_drew1) | exact HB.out)⟩
        · replace c10 := Bool.eq_false_iff.mpr c10
          subst c10
          have H1 : (if t385 = true then (if t384 ≤ 9223372036854775808 then (if t379 = true then (some (wrap64 (-(wrap64 (t384))), 0)) else (some (0, 41))) else (some (0, 41))) else (some (0, 41))) = some (r1, r2) := by rw [if_neg (show ¬ (false = true) by decide)] at H; exact H
          clear H
          have H := H1
          clear H1
          by_cases c11 : t385 = true
          · subst c11
            have H1 : (if t384 ≤ 9223372036854775808 then (if t379 = true then (some (wrap64 (-(wrap64 (t384))), 0)) else (some (0, 41))) else (some (0, 41))) = some (r1, r2) := by rw [if_pos rfl] at H; exact H
            clear H
            have H := H1
            clear H1
            by_cases c12 : t384 ≤ 9223372036854775808
            · rw [if_pos c12] at H
              have c12b0 : decide (t384 ≤ 9223372036854775808) = true := decide_eq_true c12
              clear c12
              by_cases c13 : t379 = true
              · subst c13
                have H1 : (some (wrap64 (-(wrap64 (t384))), 0)) = some (r1, r2) := by rw [if_pos rfl] at H; exact H
                clear H
                have H := H1
                clear H1
                simp only [Option.some.injEq, Prod.mk.injEq] at H
                obtain ⟨rfl, rfl⟩ := H
                go_wp2
                go_ret2
                exact ⟨by first | rfl | (simp [errW_none, errW_some] <;> rfl) | (simp [*, errW_none, errW_some] <;> rfl), by repeat (first | (with_reducible first | exact HB.out | apply below_alloc | apply pw_below_drewN | apply below_drew1) | exact HB.out)⟩
              · replace c13 := Bool.eq_false_iff.mpr c13
                subst c13
                have H1 : (some (0, 41)) = some (r1, r2) := by rw [if_neg (show ¬ (false = true) by decide)] at H; exact H
                clear H
                have H := H1
                clear H1
                simp only [Option.some.injEq, Prod.mk.injEq] at H
                obtain ⟨rfl, rfl⟩ := H
                go_wp2
                go_ret2
                exact ⟨by first | rfl | (simp [errW_none, errW_some] <;> rfl) | (simp [*, errW_none, errW_some] <;> rfl), by repeat (first | (with_reducible first | exact HB.out | apply below_alloc | apply pw_below_drewN | apply below_drew1) | exact HB.out)⟩
            · rw [if_neg c12] at H
              have c12b0 : decide (t384 ≤ 9223372036854775808) = false := decide_eq_false c12
              clear c12
              simp only [Option.some.injEq, Prod.mk.injEq] at H
              obtain ⟨rfl, rfl⟩ := H
              go_wp2
              go_ret2
              exact ⟨by first | rfl | (simp [errW_none, errW_some] <;> rfl) | (simp [*, errW_none, errW_some] <;> rfl), by repeat (first | (with_reducible first | exact HB.out | apply below_alloc | apply pw_below_drewN | apply below_drew1) | exact HB.out)⟩
          · replace c11 := Bool.eq_false_iff.mpr c11
            subst c11
            have H1 : (some (0, 41)) = some (r1, r2) := by rw [if_neg (show ¬ (false = true) by decide)] at H; exact H
            clear H
            have H := H1
            clear H1
            simp only [Option.some.injEq, Prod.mk.injEq] at H
            obtain ⟨rfl, rfl⟩ := H
            go_wp2
            go_ret2
            exact ⟨by first | rfl | (simp [errW_none, errW_some] <;> rfl) | (simp [*, errW_none, errW_some] <;> rfl), by repeat (first | (with_reducible first | exact HB.out | apply below_alloc | apply pw_below_drewN | apply below_drew1) | exact HB.out)⟩
  · rw [if_neg c3] at H
    have c3b0 : (t383 == 0) = false := beq_eq_false_iff_ne.mpr c3
    have c3b1 : (t383 != 0) = true := bne_iff_ne.mpr c3
    simp only [Option.some.injEq, Prod.mk.injEq] at H
    obtain ⟨rfl, rfl⟩ := H
    go_enter Tryd.func32, Tryd.ntmps32
    go_wp2_with (first | ((with_reducible refine gate_callee (f := 36) rfl ?_); refine goesL_ (some 11) rfl rfl Tryd.func36 (by kernel_rfl) rfl #[.int .u64 a0] rfl (by (try simp only [List.map_toArray, List.map_cons, List.map_nil]); first | done | rfl | (simp only [List.length_drop, List.length_take]; rfl) | (simp only [gt_iff_lt, Int.natCast_pos]; done) | (simp only [gt_iff_lt, Int.natCast_pos]; rfl)) ?_; (with_reducible refine (ieee_Whole.calls k a0 t379 t380 t383 _ ?side1 A2.out).mono ?_); (case side1 => repeat (first | exact HT.out | (with_reducible refine Kd.C_alloc ?_ _) | (with_reducible refine Kd.C_drewN ?_ _) | (with_reducible refine Kd.C_drew ?_))); rintro e w14 ⟨v381, rfl, ho0, hb⟩; refine ⟨_, rfl, ?_⟩; have n0_ := Aside0.mk (Kd.V_lower (Kd.V_mono (ok' := fun k_ => True) ho0 (fun k_ hk_ => trivial)) (below_size (by repeat (first | (with_reducible first | exact HB.out | apply below_alloc | apply pw_below_drewN | apply below_drew1) | exact HB.out)))); have n1_ := Aside0.mk (below_step (by repeat (first | (with_reducible first | exact HB.out | apply below_alloc | apply pw_below_drewN | apply below_drew1) | exact HB.out)) hb); clear HB; have HO382 := n0_; have HB := n1_; clear n0_ n1_; (try clear hb); (try clear hb2); (try clear hk); (try clear hi); (try clear ho0)))
    go_ret2
    exact ⟨by first | rfl | (simp [errW_none, errW_some] <;> rfl) | (simp [*, errW_none, errW_some] <;> rfl), by repeat (first | (with_reducible first | exact HB.out | apply below_alloc | apply pw_below_drewN | apply below_drew1) | exact HB.out)⟩

/-! ### ieee_FromUint: function 35 -/
def ieee_FromUint.f (k : Nat) (a0 : Int) : Option (Int) := (nat_FromUint.f a0).bind fun t386 => ((ieee_Round.f k false t386 0 false).bind fun bt389 => (some bt389.1))
theorem ieee_FromUint.mono : ∀ a0 k, LeO (ieee_FromUint.f k a0) (ieee_FromUint.f (k + 1) a0) := by
  intro a0 k
  unfold ieee_FromUint.f
  repeat' first
      | (with_reducible exact ieee_Round.mono _ _ _ _ _)
      | (with_reducible exact LeO.refl _)
      | (with_reducible exact LeO.none _)
      | (with_reducible refine LeO.ite ?_ ?_)
      | (with_reducible refine LeO.bind ?_ (fun _ => ?_))
      | exact ieee_Round.mono _ _ _ _ _
      | exact LeO.none _
      | refine LeO.ite ?_ ?_
      | refine LeO.bind ?_ (fun _ => ?_)
set_option maxHeartbeats 8000000 in
set_option maxRecDepth 100000 in
theorem ieee_FromUint.calls (k : Nat) (a0 : Int) (r : Int) (w : World) (hT : Kd.C (Kd.int .u8) w (some ⟨0, 0, none⟩) 64 tabL) (h : ieee_FromUint.f k a0 = some r) :
    Calls Tryd.prog 35 #[.int .u64 a0] w fun e w' => e = .returned (.int .u64 r) ∧ Below w.heap.size w w' := by
  have HT := Aside0.mk hT
  clear hT
  have HB := Aside0.mk (Below.refl w.heap.size w)
  have H : ((nat_FromUint.f a0).bind fun t386 => ((ieee_Round.f k false t386 0 false).bind fun bt389 => (some bt389.1))) = some r := h
  clear h
  replace H := Option.bind_eq_some_iff.mp H
  obtain ⟨t386, A20, H⟩ := H
  replace H : ((ieee_Round.f k false t386 0 false).bind fun bt389 => (some bt389.1)) = some r := H
  have A2 := Aside0.mk A20
  clear A20
  replace H := Option.bind_eq_some_iff.mp H
  obtain ⟨⟨t389, t390⟩, A30, H⟩ := H
  replace H : (some t389) = some r := H
  have A3 := Aside0.mk A30
  clear A30
  obtain rfl := Option.some.inj H
  go_enter Tryd.func35, Tryd.ntmps35
  go_wp2_with (first | ((with_reducible refine gate_callee (f := 59) rfl ?_); refine goesL_ (some 7) rfl rfl Tryd.func59 (by kernel_rfl) rfl #[.int .u64 a0] rfl (by (try simp only [List.map_toArray, List.map_cons, List.map_nil]); first | done | rfl | (simp only [List.length_drop, List.length_take]; rfl) | (simp only [gt_iff_lt, Int.natCast_pos]; done) | (simp only [gt_iff_lt, Int.natCast_pos]; rfl)) ?_; (with_reducible refine (nat_FromUint.calls a0 t386 _ A2.out).mono ?_); rintro e w4 ⟨v387, rfl, ho0, hb⟩; refine ⟨_, rfl, ?_⟩; have n0_ := Aside0.mk (Kd.R_lower ho0 (below_size (by repeat (first | (with_reducible first | exact HB.out | apply below_alloc | apply pw_below_drewN | apply below_drew1) | exact HB.out)))); have n1_ := Aside0.mk (below_step (by repeat (first | (with_reducible first | exact HB.out | apply below_alloc | apply pw_below_drewN | apply below_drew1) | exact HB.out)) hb); clear HB; have HO388 := n0_; have HB := n1_; clear n0_ n1_; (try clear hb); (try clear hb2); (try clear hk); (try clear hi); (try clear ho0); obtain ⟨Ao5, co5, eo5⟩ := Kd.R_slice HO388.out; subst eo5) | ((with_reducible refine gate_callee (f := 15) rfl ?_); refine goesL_ (some 8) rfl rfl Tryd.func15 (by kernel_rfl) rfl #[.bool false, .slice Ao5 t386.length co5, .int .i64 0, .bool false] rfl (by (try simp only [List.map_toArray, List.map_cons, List.map_nil]); first | done | rfl | (simp only [List.length_drop, List.length_take]; rfl) | (simp only [gt_iff_lt, Int.natCast_pos]; done) | (simp only [gt_iff_lt, Int.natCast_pos]; rfl)) ?_; (with_reducible refine (ieee_Round.calls k false _ _ t386 0 false t389 t390 _ ?side3 ?side1 ?side2 A3.out).mono ?_); (case side1 => repeat (first | exact (Kd.R_reads' HO388.out).2.2 | (with_reducible refine Kd.C_alloc ?_ _) | (with_reducible refine Kd.C_drewN ?_ _) | (with_reducible refine Kd.C_drew ?_))); (case side2 => exact (Kd.R_reads' HO388.out).2.1); (case side3 => repeat (first | exact (Kd.C_below HT.out HB.out) | (with_reducible refine Kd.C_alloc ?_ _) | (with_reducible refine Kd.C_drewN ?_ _) | (with_reducible refine Kd.C_drew ?_))); rintro e w6 ⟨rfl, hb⟩; refine ⟨_, rfl, ?_⟩; have n0_ := Aside0.mk (Kd.R_below (by (with_reducible repeat (first | apply Kd.R_alloc | apply Kd.R_drewN | apply Kd.R_drew)); exact HO388.out) hb); have n1_ := Aside0.mk (below_step (by repeat (first | (with_reducible first | exact HB.out | apply below_alloc | apply pw_below_drewN | apply below_drew1) | exact HB.out)) hb); clear HO388; clear HB; have HO388 := n0_; have HB := n1_; clear n0_ n1_; (try clear hb); (try clear hb2); (try clear hk); (try clear hi)))
  go_ret
  exact ⟨by first | rfl | (simp [errW_none, errW_some] <;> rfl) | (simp [*, errW_none, errW_some] <;> rfl), by repeat (first | (with_reducible first | exact HB.out | apply below_alloc | apply pw_below_drewN | apply below_drew1) | exact HB.out)⟩

/-! ### ieee_FromInt: function 33 -/
def ieee_FromInt.f (k : Nat) (a0 : Int) : Option (Int) := if a0 < 0 then ((ieee_FromUint.f k (IntKind.u64.wrap (-(IntKind.u64.wrap (a0))))).bind fun t391 => ((ieee_Neg.f t391).bind fun t392 => (some t392))) else ((ieee_FromUint.f k (IntKind.u64.wrap (a0))).bind fun t393 => (some t393))
theorem ieee_FromInt.mono : ∀ a0 k, LeO (ieee_FromInt.f k a0) (ieee_FromInt.f (k + 1) a0) := by
  intro a0 k
  unfold ieee_FromInt.f
  repeat' first
      | (with_reducible exact ieee_FromUint.mono _ _)
      | (with_reducible exact LeO.refl _)
      | (with_reducible exact LeO.none _)
      | (with_reducible refine LeO.ite ?_ ?_)
      | (with_reducible refine LeO.bind ?_ (fun _ => ?_))
      | exact ieee_FromUint.mono _ _
      | exact LeO.none _
      | refine LeO.ite ?_ ?_
      | refine LeO.bind ?_ (fun _ => ?_)
set_option maxHeartbeats 8000000 in
set_option maxRecDepth 100000 in
theorem ieee_FromInt.calls (k : Nat) (a0 : Int) (r : Int) (w : World) (hT : Kd.C (Kd.int .u8) w (some ⟨0, 0, none⟩) 64 tabL) (h : ieee_FromInt.f k a0 = some r) :
    Calls Tryd.prog 33 #[.int .i64 a0] w fun e w' => e = .returned (.int .u64 r) ∧ Below w.heap.size w w' := by
  have HT := Aside0.mk hT
  clear hT
  have HB := Aside0.mk (Below.refl w.heap.size w)
  have H : (if a0 < 0 then ((ieee_FromUint.f k (IntKind.u64.wrap (-(IntKind.u64.wrap (a0))))).bind fun t391 => ((ieee_Neg.f t391).bind fun t392 => (some t392))) else ((ieee_FromUint.f k (IntKind.u64.wrap (a0))).bind fun t393 => (some t393))) = some r := h
  clear h
  by_cases c2 : a0 < 0
  · rw [if_pos c2] at H
    have c2b0 : decide (a0 < 0) = true := decide_eq_true c2
    clear c2
    replace H := Option.bind_eq_some_iff.mp H
    obtain ⟨t391, A30, H⟩ := H
    replace H : ((ieee_Neg.f t391).bind fun t392 => (some t392)) = some r := H
    have A3 := Aside0.mk A30
    clear A30
    replace H := Option.bind_eq_some_iff.mp H
    obtain ⟨t392, A40, H⟩ := H
    replace H : (some t392) = some r := H
    have A4 := Aside0.mk A40
    clear A40
    obtain rfl := Option.some.inj H
    go_enter Tryd.func33, Tryd.ntmps33
    go_wp2_with (first | ((with_reducible refine gate_callee (f := 35) rfl ?_); refine goesL_ (some 8) rfl rfl Tryd.func35 (by kernel_rfl) rfl #[.int .u64 (IntKind.u64.wrap (-(IntKind.u64.wrap (a0))))] rfl (by (try simp only [List.map_toArray, List.map_cons, List.map_nil]); first | done | rfl | (simp only [List.length_drop, List.length_take]; rfl) | (simp only [gt_iff_lt, Int.natCast_pos]; done) | (simp only [gt_iff_lt, Int.natCast_pos]; rfl)) ?_; (with_reducible refine (ieee_FromUint.calls k (IntKind.u64.wrap (-(IntKind.u64.wrap (a0)))) t391 _ ?side1 A3.out).mono ?_); (case side1 => repeat (first | exact HT.out | (with_reducible refine Kd.C_alloc ?_ _) | (with_reducible refine Kd.C_drewN ?_ _) | (with_reducible refine Kd.C_drew ?_))); rintro e w5 ⟨rfl, hb⟩; refine ⟨_, rfl, ?_⟩; have n0_ := Aside0.mk (below_step (by repeat (first | (with_reducible first | exact HB.out | apply below_alloc | apply pw_below_drewN | apply below_drew1) | exact HB.out)) hb); clear HB; have HB := n0_; clear n0_; (try clear hb); (try clear hb2); (try clear hk); (try clear hi)) | ((with_reducible refine gate_callee (f := 21) rfl ?_); refine goesL_ (some 9) rfl rfl Tryd.func21 (by kernel_rfl) rfl #[.int .u64 t391] rfl (by (try simp only [List.map_toArray, List.map_cons, List.map_nil]); first | done | rfl | (simp only [List.length_drop, List.length_take]; rfl) | (simp only [gt_iff_lt, Int.natCast_pos]; done) | (simp only [gt_iff_lt, Int.natCast_pos]; rfl)) ?_; (with_reducible refine (ieee_Neg.calls t391 t392 _ A4.out).mono ?_); rintro e w' ⟨rfl, ⟨nd, rfl⟩⟩; refine ⟨_, rfl, ?_⟩))
    go_ret
    exact ⟨by first | rfl | (simp [errW_none, errW_some] <;> rfl) | (simp [*, errW_none, errW_some] <;> rfl), by repeat (first | (with_reducible first | exact HB.out | apply below_alloc | apply pw_below_drewN | apply below_drew1) | exact HB.out)⟩
  · rw [if_neg c2] at H
    have c2b0 : decide (a0 < 0) = false := decide_eq_false c2
    clear c2
    replace H := Option.bind_eq_some_iff.mp H
    obtain ⟨t393, A60, H⟩ := H
    replace H : (some t393) = some r := H
    have A6 := Aside0.mk A60
    clear A60
    obtain rfl := Option.some.inj H
    go_enter Tryd.func33, Tryd.ntmps33
    go_wp2_with (first | ((with_reducible refine gate_callee (f := 35) rfl ?_); refine goesL_ (some 12) rfl rfl Tryd.func35 (by kernel_rfl) rfl #[.int .u64 (IntKind.u64.wrap (a0))] rfl (by (try simp only [List.map_toArray, List.map_cons, List.map_nil]); first | done | rfl | (simp only [List.length_drop, List.length_take]; rfl) | (simp only [gt_iff_lt, Int.natCast_pos]; done) | (simp only [gt_iff_lt, Int.natCast_pos]; rfl)) ?_; (with_reducible refine (ieee_FromUint.calls k (IntKind.u64.wrap (a0)) t393 _ ?side1 A6.out).mono ?_); (case side1 => repeat (first | exact HT.out | (with_reducible refine Kd.C_alloc ?_ _) | (with_reducible refine Kd.C_drewN ?_ _) | (with_reducible refine Kd.C_drew ?_))); rintro e w7 ⟨rfl, hb⟩; refine ⟨_, rfl, ?_⟩; have n0_ := Aside0.mk (below_step (by repeat (first | (with_reducible first | exact HB.out | apply below_alloc | apply pw_below_drewN | apply below_drew1) | exact HB.out)) hb); clear HB; have HB := n0_; clear n0_; (try clear hb); (try clear hb2); (try clear hk); (try clear hi)))
    go_ret
    exact ⟨by first | rfl | (simp [errW_none, errW_some] <;> rfl) | (simp [*, errW_none, errW_some] <;> rfl), by repeat (first | (with_reducible first | exact HB.out | apply below_alloc | apply pw_below_drewN | apply below_drew1) | exact HB.out)⟩

/-! ### ieee_Integral: function 34 -/
def ieee_Integral.f (a0 : Int) : Option (Bool) := (ieee_Decode.f a0).bind fun bt394 => (if bt394.2.1 ≥ 3 then (some false) else (if bt394.2.2.1 = 0 then (some true) else (if bt394.2.2.2 ≥ 0 then (some true) else ((bits_TrailingZeros64.f bt394.2.2.1).bind fun t399 => (some (decide (t399 ≥ (wrap64 (-bt394.2.2.2)))))))))
set_option maxHeartbeats 8000000 in
set_option maxRecDepth 100000 in
theorem ieee_Integral.calls (a0 : Int) (r : Bool) (w : World) (hT : Kd.C (Kd.int .u8) w (some ⟨0, 0, none⟩) 64 tabL) (h : ieee_Integral.f a0 = some r) :
    Calls Tryd.prog 34 #[.int .u64 a0] w fun e w' => e = .returned (.bool r) ∧ Below w.heap.size w w' := by
  have hu35 := Tryd.underlying35
  have HT := Aside0.mk hT
  clear hT
  have HB := Aside0.mk (Below.refl w.heap.size w)
  have H : ((ieee_Decode.f a0).bind fun bt394 => (if bt394.2.1 ≥ 3 then (some false) else (if bt394.2.2.1 = 0 then (some true) else (if bt394.2.2.2 ≥ 0 then (some true) else ((bits_TrailingZeros64.f bt394.2.2.1).bind fun t399 => (some (decide (t399 ≥ (wrap64 (-bt394.2.2.2)))))))))) = some r := h
  clear h
  replace H := Option.bind_eq_some_iff.mp H
  obtain ⟨⟨t394, t395, t396, t397⟩, A20, H⟩ := H
  replace H : (if t395 ≥ 3 then (some false) else (if t396 = 0 then (some true) else (if t397 ≥ 0 then (some true) else ((bits_TrailingZeros64.f t396).bind fun t399 => (some (decide (t399 ≥ (wrap64 (-t397))))))))) = some r := H
  have A2 := Aside0.mk A20
  clear A20
  by_cases c3 : t395 ≥ 3
  · rw [if_pos c3] at H
    have c3b0 : decide (3 ≤ t395) = true := decide_eq_true c3
    clear c3
    obtain rfl := Option.some.inj H
    go_enter Tryd.func34, Tryd.ntmps34
    go_wp2_with (first | (go_at_call 17; (with_reducible refine (ieee_Decode.calls a0 t394 t395 t396 t397 _ A2.out).mono ?_); rintro e w4 ⟨rfl, hb⟩; have n0_ := Aside0.mk (below_step (by repeat (first | (with_reducible first | exact HB.out | apply below_alloc | apply pw_below_drewN | apply below_drew1) | exact HB.out)) hb); clear HB; have HB := n0_; clear n0_; (try clear hb); (try clear hb2); (try clear hk); (try clear hi)) | ((with_reducible refine gate_dst (N := 3) rfl ?_); refine box_event ?hg (N := 3) ?hd (cs := #[.bool false, .int .i64 0, .int .u64 0, .int .i64 0]) (t := 35) ?hr ?_; (case hd => rfl); (case hg => rfl); (case hr => first | (go_simp; done) | (go_simp; rfl)); intro gb398 hg w5 hbox hb; have n0_ := Aside0.mk (below_step (by repeat (first | (with_reducible first | exact HB.out | apply below_alloc | apply pw_below_drewN | apply below_drew1) | exact HB.out)) hb); have n1_ := Aside0.mk (hbox); have n2_ := Aside0.mk ((by rw [hg]; exact (below_size (by repeat (first | (with_reducible first | exact HB.out | apply below_alloc | apply pw_below_drewN | apply below_drew1) | exact HB.out))) : w.heap.size ≤ gb398)); have n3_ := Aside0.mk ((by rw [hg]; exact (below_size (by repeat (first | (with_reducible first | exact HB.out | apply below_alloc | apply pw_below_drewN | apply below_drew1) | exact HB.out))) : w.heap.size ≤ gb398)); clear HB; have HB := n0_; have BK398 := n1_; have GW398 := n2_; have GE398 := n3_; clear n0_ n1_ n2_ n3_; clear hb hbox hg; have hcz6_0 : w5.cell? ⟨gb398, 0, none⟩ = some (.bool false) := (blk_cell BK398.out 0).trans rfl; have hcz6_1 : w5.cell? ⟨gb398, 1, none⟩ = some (.int .i64 0) := (blk_cell BK398.out 1).trans rfl; have hcz6_2 : w5.cell? ⟨gb398, 2, none⟩ = some (.int .u64 0) := (blk_cell BK398.out 2).trans rfl; have hcz6_3 : w5.cell? ⟨gb398, 3, none⟩ = some (.int .i64 0) := (blk_cell BK398.out 3).trans rfl; have hfz6_0 := blk_frozen BK398.out 0; have hfz6_1 := blk_frozen BK398.out 1; have hfz6_2 := blk_frozen BK398.out 2; have hfz6_3 := blk_frozen BK398.out 3))
    repeat (go_quiet (first | (go_at_call 17; (with_reducible refine (ieee_Decode.calls a0 t394 t395 t396 t397 _ A2.out).mono ?_); rintro e w4 ⟨rfl, hb⟩; have n0_ := Aside0.mk (below_step (by repeat (first | (with_reducible first | exact HB.out | apply below_alloc | apply pw_below_drewN | apply below_drew1) | exact HB.out)) hb); clear HB; have HB := n0_; clear n0_; (try clear hb); (try clear hb2); (try clear hk); (try clear hi)) | ((with_reducible refine gate_dst (N := 3) rfl ?_); refine box_event ?hg (N := 3) ?hd (cs := #[.bool false, .int .i64 0, .int .u64 0, .int .i64 0]) (t := 35) ?hr ?_; (case hd => rfl); (case hg => rfl); (case hr => first | (go_simp; done) | (go_simp; rfl)); intro gb398 hg w5 hbox hb; have n0_ := Aside0.mk (below_step (by repeat (first | (with_reducible first | exact HB.out | apply below_alloc | apply pw_below_drewN | apply below_drew1) | exact HB.out)) hb); have n1_ := Aside0.mk (hbox); have n2_ := Aside0.mk ((by rw [hg]; exact (below_size (by repeat (first | (with_reducible first | exact HB.out | apply below_alloc | apply pw_below_drewN | apply below_drew1) | exact HB.out))) : w.heap.size ≤ gb398)); have n3_ := Aside0.mk ((by rw [hg]; exact (below_size (by repeat (first | (with_reducible first | exact HB.out | apply below_alloc | apply pw_below_drewN | apply below_drew1) | exact HB.out))) : w.heap.size ≤ gb398)); clear HB; have HB := n0_; have BK398 := n1_; have GW398 := n2_; have GE398 := n3_; clear n0_ n1_ n2_ n3_; clear hb hbox hg; have hcz6_0 : w5.cell? ⟨gb398, 0, none⟩ = some (.bool false) := (blk_cell BK398.out 0).trans rfl; have hcz6_1 : w5.cell? ⟨gb398, 1, none⟩ = some (.int .i64 0) := (blk_cell BK398.out 1).trans rfl; have hcz6_2 : w5.cell? ⟨gb398, 2, none⟩ = some (.int .u64 0) := (blk_cell BK398.out 2).trans rfl; have hcz6_3 : w5.cell? ⟨gb398, 3, none⟩ = some (.int .i64 0) := (blk_cell BK398.out 3).trans rfl; have hfz6_0 := blk_frozen BK398.out 0; have hfz6_1 := blk_frozen BK398.out 1; have hfz6_2 := blk_frozen BK398.out 2; have hfz6_3 := blk_frozen BK398.out 3)); try go_wp2_with (first | (go_at_call 17; (with_reducible refine (ieee_Decode.calls a0 t394 t395 t396 t397 _ A2.out).mono ?_); rintro e w4 ⟨rfl, hb⟩; have n0_ := Aside0.mk (below_step (by repeat (first | (with_reducible first | exact HB.out | apply below_alloc | apply pw_below_drewN | apply below_drew1) | exact HB.out)) hb); clear HB; have HB := n0_; clear n0_; (try clear hb); (try clear hb2); (try clear hk); (try clear hi)) | ((with_reducible refine gate_dst (N := 3) rfl ?_); refine box_event ?hg (N := 3) ?hd (cs := #[.bool false, .int .i64 0, .int .u64 0, .int .i64 0]) (t := 35) ?hr ?_; (case hd => rfl); (case hg => rfl); (case hr => first | (go_simp; done) | (go_simp; rfl)); intro gb398 hg w5 hbox hb; have n0_ := Aside0.mk (below_step (by repeat (first | (with_reducible first | exact HB.out | apply below_alloc | apply pw_below_drewN | apply below_drew1) | exact HB.out)) hb); have n1_ := Aside0.mk (hbox); have n2_ := Aside0.mk ((by rw [hg]; exact (below_size (by repeat (first | (with_reducible first | exact HB.out | apply below_alloc | apply pw_below_drewN | apply below_drew1) | exact HB.out))) : w.heap.size ≤ gb398)); have n3_ := Aside0.mk ((by rw [hg]; exact (below_size (by repeat (first | (with_reducible first | exact HB.out | apply below_alloc | apply pw_below_drewN | apply below_drew1) | exact HB.out))) : w.heap.size ≤ gb398)); clear HB; have HB := n0_; have BK398 := n1_; have GW398 := n2_; have GE398 := n3_; clear n0_ n1_ n2_ n3_; clear hb hbox hg; have hcz6_0 : w5.cell? ⟨gb398, 0, none⟩ = some (.bool false) := (blk_cell BK398.out 0).trans rfl; have hcz6_1 : w5.cell? ⟨gb398, 1, none⟩ = some (.int .i64 0) := (blk_cell BK398.out 1).trans rfl; have hcz6_2 : w5.cell? ⟨gb398, 2, none⟩ = some (.int .u64 0) := (blk_cell BK398.out 2).trans rfl; have hcz6_3 : w5.cell? ⟨gb398, 3, none⟩ = some (.int .i64 0) := (blk_cell BK398.out 3).trans rfl; have hfz6_0 := blk_frozen BK398.out 0; have hfz6_1 := blk_frozen BK398.out 1; have hfz6_2 := blk_frozen BK398.out 2; have hfz6_3 := blk_frozen BK398.out 3)))
    go_ret
    exact ⟨by first | rfl | (simp [errW_none, errW_some] <;> rfl) | (simp [*, errW_none, errW_some] <;> rfl), by repeat (first | (with_reducible first | exact HB.out | apply below_alloc | apply pw_below_drewN | apply below_drew1 | refine below_set ?_ GE398.out) | exact HB.out)⟩
  · rw [if_neg c3] at H
    have c3b0 : decide (3 ≤ t395) = false := decide_eq_false c3
    clear c3
    by_cases c7 : t396 = 0
    · rw [if_pos c7] at H
      have c7b0 : (t396 == 0) = true := beq_iff_eq.mpr c7
      have c7b1 : (t396 != 0) = false := bne_eq_false_iff_eq.mpr c7
      clear c7
      obtain rfl := Option.some.inj H
      go_enter Tryd.func34, Tryd.ntmps34
      go_wp2_with (first | (go_at_call 17; (with_reducible refine (ieee_Decode.calls a0 t394 t395 t396 t397 _ A2.out).mono ?_); rintro e w8 ⟨rfl, hb⟩; have n0_ := Aside0.mk (below_step (by repeat (first | (with_reducible first | exact HB.out | apply below_alloc | apply pw_below_drewN | apply below_drew1) | exact HB.out)) hb); clear HB; have HB := n0_; clear n0_; (try clear hb); (try clear hb2); (try clear hk); (try clear hi)) | ((with_reducible refine gate_dst (N := 3) rfl ?_); refine box_event ?hg (N := 3) ?hd (cs := #[.bool false, .int .i64 0, .int .u64 0, .int .i64 0]) (t := 35) ?hr ?_; (case hd => rfl); (case hg => rfl); (case hr => first | (go_simp; done) | (go_simp; rfl)); intro gb398 hg w9 hbox hb; have n0_ := Aside0.mk (below_step (by repeat (first | (with_reducible first | exact HB.out | apply below_alloc | apply pw_below_drewN | apply below_drew1) | exact HB.out)) hb); have n1_ := Aside0.mk (hbox); have n2_ := Aside0.mk ((by rw [hg]; exact (below_size (by repeat (first | (with_reducible first | exact HB.out | apply below_alloc | apply pw_below_drewN | apply below_drew1) | exact HB.out))) : w.heap.size ≤ gb398)); have n3_ := Aside0.mk ((by rw [hg]; exact (below_size (by repeat (first | (with_reducible first | exact HB.out | apply below_alloc | apply pw_below_drewN | apply below_drew1) | exact HB.out))) : w.heap.size ≤ gb398)); clear HB; have HB := n0_; have BK398 := n1_; have GW398 := n2_; have GE398 := n3_; clear n0_ n1_ n2_ n3_; clear hb hbox hg; have hcz10_0 : w9.cell? ⟨gb398, 0, none⟩ = some (.bool false) := (blk_cell BK398.out 0).trans rfl; have hcz10_1 : w9.cell? ⟨gb398, 1, none⟩ = some (.int .i64 0) := (blk_cell BK398.out 1).trans rfl; have hcz10_2 : w9.cell? ⟨gb398, 2, none⟩ = some (.int .u64 0) := (blk_cell BK398.out 2).trans rfl; have hcz10_3 : w9.cell? ⟨gb398, 3, none⟩ = some (.int .i64 0) := (blk_cell BK398.out 3).trans rfl; have hfz10_0 := blk_frozen BK398.out 0; have hfz10_1 := blk_frozen BK398.out 1; have hfz10_2 := blk_frozen BK398.out 2; have hfz10_3 := blk_frozen BK398.out 3))
      repeat (go_quiet (first | (go_at_call 17; (with_reducible refine (ieee_Decode.calls a0 t394 t395 t396 t397 _ A2.out).mono ?_); rintro e w8 ⟨rfl, hb⟩; have n0_ := Aside0.mk (below_step (by repeat (first | (with_reducible first | exact HB.out | apply below_alloc | apply pw_below_drewN | apply below_drew1) | exact HB.out)) hb); clear HB; have HB := n0_; clear n0_; (try clear hb); (try clear hb2); (try clear hk); (try clear hi)) | ((with_reducible refine gate_dst (N := 3) rfl ?_); refine box_event ?hg (N := 3) ?hd (cs := #[.bool false, .int .i64 0, .int .u64 0, .int .i64 0]) (t := 35) ?hr ?_; (case hd => rfl); (case hg => rfl); (case hr => first | (go_simp; done) | (go_simp; rfl)); intro gb398 hg w9 hbox hb; have n0_ := Aside0.mk (below_step (by repeat (first | (with_reducible first | exact HB.out | apply below_alloc | apply pw_below_drewN | apply below_drew1) | exact HB.out)) hb); have n1_ := Aside0.mk (hbox); have n2_ := Aside0.mk ((by rw [hg]; exact (below_size (by repeat (first | (with_reducible first | exact HB.out | apply below_alloc | apply pw_below_drewN | apply below_drew1) | exact HB.out))) : w.heap.size ≤ gb398)); have n3_ := Aside0.mk ((by rw [hg]; exact (below_size (by repeat (first | (with_reducible first | exact HB.out | apply below_alloc | apply pw_below_drewN | apply below_drew1) | exact HB.out))) : w.heap.size ≤ gb398)); clear HB; have HB := n0_; have BK398 := n1_; have GW398 := n2_; have GE398 := n3_; clear n0_ n1_ n2_ n3_; clear hb hbox hg; have hcz10_0 : w9.cell? ⟨gb398, 0, none⟩ = some (.bool false) := (blk_cell BK398.out 0).trans rfl; have hcz10_1 : w9.cell? ⟨gb398, 1, none⟩ = some (.int .i64 0) := (blk_cell BK398.out 1).trans rfl; have hcz10_2 : w9.cell? ⟨gb398, 2, none⟩ = some (.int .u64 0) := (blk_cell BK398.out 2).trans rfl; have hcz10_3 : w9.cell? ⟨gb398, 3, none⟩ = some (.int .i64 0) := (blk_cell BK398.out 3).trans rfl; have hfz10_0 := blk_frozen BK398.out 0; have hfz10_1 := blk_frozen BK398.out 1; have hfz10_2 := blk_frozen BK398.out 2; have hfz10_3 := blk_frozen BK398.out 3)); try go_wp2_with (first | (go_at_call 17; (with_reducible refine (ieee_Decode.calls a0 t394 t395 t396 t397 _ A2.out).mono ?_); rintro e w8 ⟨rfl, hb⟩; have n0_ := Aside0.mk (below_step (by repeat (first | (with_reducible first | exact HB.out | apply below_alloc | apply pw_below_drewN | apply below_drew1) | exact HB.out)) hb); clear HB; have HB := n0_; clear n0_; (try clear hb); (try clear hb2); (try clear hk); (try clear hi)) | ((with_reducible refine gate_dst (N := 3) rfl ?_); refine box_event ?hg (N := 3) ?hd (cs := #[.bool false, .int .i64 0, .int .u64 0, .int .i64 0]) (t := 35) ?hr ?_; (case hd => rfl); (case hg => rfl); (case hr => first | (go_simp; done) | (go_simp; rfl)); intro gb398 hg w9 hbox hb; have n0_ := Aside0.mk (below_step (by repeat (first | (with_reducible first | exact HB.out | apply below_alloc | apply pw_below_drewN | apply below_drew1) | exact HB.out)) hb); have n1_ := Aside0.mk (hbox); have n2_ := Aside0.mk ((by rw [hg]; exact (below_size (by repeat (first | (with_reducible first | exact HB.out | apply below_alloc | apply pw_below_drewN | apply below_drew1) | exact HB.out))) : w.heap.size ≤ gb398)); have n3_ := Aside0.mk ((by rw [hg]; exact (below_size (by repeat (first | (with_reducible first | exact HB.out | apply below_alloc | apply pw_below_drewN | apply below_drew1) | exact HB.out))) : w.heap.size ≤ gb398)); clear HB; have HB := n0_; have BK398 := n1_; have GW398 := n2_; have GE398 := n3_; clear n0_ n1_ n2_ n3_; clear hb hbox hg; have hcz10_0 : w9.cell? ⟨gb398, 0, none⟩ = some (.bool false) := (blk_cell BK398.out 0).trans rfl; have hcz10_1 : w9.cell? ⟨gb398, 1, none⟩ = some (.int .i64 0) := (blk_cell BK398.out 1).trans rfl; have hcz10_2 : w9.cell? ⟨gb398, 2, none⟩ = some (.int .u64 0) := (blk_cell BK398.out 2).trans rfl; have hcz10_3 : w9.cell? ⟨gb398, 3, none⟩ = some (.int .i64 0) := (blk_cell BK398.out 3).trans rfl; have hfz10_0 := blk_frozen BK398.out 0; have hfz10_1 := blk_frozen BK398.out 1; have hfz10_2 := blk_frozen BK398.out 2; have hfz10_3 := blk_frozen BK398.out 3)))
      go_ret
      exact ⟨by first | rfl | (simp [errW_none, errW_some] <;> rfl) | (simp [*, errW_none, errW_some] <;> rfl), by repeat (first | (with_reducible first | exact HB.out | apply below_alloc | apply pw_below_drewN | apply below_drew1 | refine below_set ?_ GE398.out) | exact HB.out)⟩
    · rw [if_neg c7] at H
      have c7b0 : (t396 == 0) = false := beq_eq_false_iff_ne.mpr c7
      have c7b1 : (t396 != 0) = true := bne_iff_ne.mpr c7
      by_cases c11 : t397 ≥ 0
      · rw [if_pos c11] at H
        have c11b0 : decide (0 ≤ t397) = true := decide_eq_true c11
        clear c11
        obtain rfl := Option.some.inj H
        go_enter Tryd.func34, Tryd.ntmps34
        go_wp2_with (first | (go_at_call 17; (with_reducible refine (ieee_Decode.calls a0 t394 t395 t396 t397 _ A2.out).mono ?_); rintro e w12 ⟨rfl, hb⟩; have n0_ := Aside0.mk (below_step (by repeat (first | (with_reducible first | exact HB.out | apply below_alloc | apply pw_below_drewN | apply below_drew1) | exact HB.out)) hb); clear HB; have HB := n0_; clear n0_; (try clear hb); (try clear hb2); (try clear hk); (try clear hi)) | ((with_reducible refine gate_dst (N := 3) rfl ?_); refine box_event ?hg (N := 3) ?hd (cs := #[.bool false, .int .i64 0, .int .u64 0, .int .i64 0]) (t := 35) ?hr ?_; (case hd => rfl); (case hg => rfl); (case hr => first | (go_simp; done) | (go_simp; rfl)); intro gb398 hg w13 hbox hb; have n0_ := Aside0.mk (below_step (by repeat (first | (with_reducible first | exact HB.out | apply below_alloc | apply pw_below_drewN | apply below_drew1) | exact HB.out)) hb); have n1_ := Aside0.mk (hbox); have n2_ := Aside0.mk ((by rw [hg]; exact (below_size (by repeat (first | (with_reducible first | exact HB.out | apply below_alloc | apply pw_below_drewN | apply below_drew1) | exact HB.out))) : w.heap.size ≤ gb398)); have n3_ := Aside0.mk ((by rw [hg]; exact (below_size (by repeat (first | (with_reducible first | exact HB.out | apply below_alloc | apply pw_below_drewN | apply below_drew1) | exact HB.out))) : w.heap.size ≤ gb398)); clear HB; have HB := n0_; have BK398 := n1_; have GW398 := n2_; have GE398 := n3_; clear n0_ n1_ n2_ n3_; clear hb hbox hg; have hcz14_0 : w13.cell? ⟨gb398, 0, none⟩ = some (.bool false) := (blk_cell BK398.out 0).trans rfl; have hcz14_1 : w13.cell? ⟨gb398, 1, none⟩ = some (.int .i64 0) := (blk_cell BK398.out 1).trans rfl; have hcz14_2 : w13.cell? ⟨gb398, 2, none⟩ = some (.int .u64 0) := (blk_cell BK398.out 2).trans rfl; have hcz14_3 : w13.cell? ⟨gb398, 3, none⟩ = some (.int .i64 0) := (blk_cell BK398.out 3).trans rfl; have hfz14_0 := blk_frozen BK398.out 0; have hfz14_1 := blk_frozen BK398.out 1; have hfz14_2 := blk_frozen BK398.out 2; have hfz14_3 := blk_frozen BK398.out 3))
        repeat (go_quiet (first | (go_at_call 17; (with_reducible refine (ieee_Decode.calls a0 t394 t395 t396 t397 _ A2.out).mono ?_); rintro e w12 ⟨rfl, hb⟩; have n0_ := Aside0.mk (below_step (by repeat (first | (with_reducible first | exact HB.out | apply below_alloc | apply pw_below_drewN | apply below_drew1) | exact HB.out)) hb); clear HB; have HB := n0_; clear n0_; (try clear hb); (try clear hb2); (try clear hk); (try clear hi)) | ((with_reducible refine gate_dst (N := 3) rfl ?_); refine box_event ?hg (N := 3) ?hd (cs := #[.bool false, .int .i64 0, .int .u64 0, .int .i64 0]) (t := 35) ?hr ?_; (case hd => rfl); (case hg => rfl); (case hr => first | (go_simp; done) | (go_simp; rfl)); intro gb398 hg w13 hbox hb; have n0_ := Aside0.mk (below_step (by repeat (first | (with_reducible first | exact HB.out | apply below_alloc | apply pw_below_drewN | apply below_drew1) | exact HB.out)) hb); have n1_ := Aside0.mk (hbox); have n2_ := Aside0.mk ((by rw [hg]; exact (below_size (by repeat (first | (with_reducible first | exact HB.out | apply below_alloc | apply pw_below_drewN | apply below_drew1) | exact HB.out))) : w.heap.size ≤ gb398)); have n3_ := Aside0.mk ((by rw [hg]; exact (below_size (by repeat (first | (with_reducible first | exact HB.out | apply below_alloc | apply pw_below_drewN | apply below_drew1) | exact HB.out))) : w.heap.size ≤ gb398)); clear HB; have HB := n0_; have BK398 := n1_; have GW398 := n2_; have GE398 := n3_; clear n0_ n1_ n2_ n3_; clear hb hbox hg; have hcz14_0 : w13.cell? ⟨gb398, 0, none⟩ = some (.bool false) := (blk_cell BK398.out 0).trans rfl; have hcz14_1 : w13.cell? ⟨gb398, 1, none⟩ = some (.int .i64 0) := (blk_cell BK398.out 1).trans rfl; have hcz14_2 : w13.cell? ⟨gb398, 2, none⟩ = some (.int .u64 0) := (blk_cell BK398.out 2).trans rfl; have hcz14_3 : w13.cell? ⟨gb398, 3, none⟩ = some (.int .i64 0) := (blk_cell BK398.out 3).trans rfl; have hfz14_0 := blk_frozen BK398.out 0; have hfz14_1 := blk_frozen BK398.out 1; have hfz14_2 := blk_frozen BK398.out 2; have hfz14_3 := blk_frozen BK398.out 3)); try go_wp2_with (first | (go_at_call 17; (with_reducible refine (ieee_Decode.calls a0 t394 t395 t396 t397 _ A2.out).mono ?_); rintro e w12 ⟨rfl, hb⟩; have n0_ := Aside0.mk (below_step (by repeat (first | (with_reducible first | exact HB.out | apply below_alloc | apply pw_below_drewN | apply below_drew1) | exact HB.out)) hb); clear HB; have HB := n0_; clear n0_; (try clear hb); (try clear hb2); (try clear hk); (try clear hi)) | ((with_reducible refine gate_dst (N := 3) rfl ?_); refine box_event ?hg (N := 3) ?hd (cs := #[.bool false, .int .i64 0, .int .u64 0, .int .i64 0]) (t := 35) ?hr ?_; (case hd => rfl); (case hg => rfl); (case hr => first | (go_simp; done) | (go_simp; rfl)); intro gb398 hg w13 hbox hb; have n0_ := Aside0.mk (below_step (by repeat (first | (with_reducible first | exact HB.out | apply below_alloc | apply pw_below_drewN | apply below_drew1) | exact HB.out)) hb); have n1_ := Aside0.mk (hbox); have n2_ := Aside0.mk ((by rw [hg]; exact (below_size (by repeat (first | (with_reducible first | exact HB.out | apply below_alloc | apply pw_below_drewN | apply below_drew1) | exact HB.out))) : w.heap.size ≤ gb398)); have n3_ := Aside0.mk ((by rw [hg]; exact (below_size (by repeat (first | (with_reducible first | exact HB.out | apply below_alloc | apply pw_below_drewN | apply below_drew1) | exact HB.out))) : w.heap.size ≤ gb398)); clear HB; have HB := n0_; have BK398 := n1_; have GW398 := n2_; have GE398 := n3_; clear n0_ n1_ n2_ n3_; clear hb hbox hg; have hcz14_0 : w13.cell? ⟨gb398, 0, none⟩ = some (.bool false) := (blk_cell BK398.out 0).trans rfl; have hcz14_1 : w13.cell? ⟨gb398, 1, none⟩ = some (.int .i64 0) := (blk_cell BK398.out 1).trans rfl; have hcz14_2 : w13.cell? ⟨gb398, 2, none⟩ = some (.int .u64 0) := (blk_cell BK398.out 2).trans rfl; have hcz14_3 : w13.cell? ⟨gb398, 3, none⟩ = some (.int .i64 0) := (blk_cell BK398.out 3).trans rfl; have hfz14_0 := blk_frozen BK398.out 0; have hfz14_1 := blk_frozen BK398.out 1; have hfz14_2 := blk_frozen BK398.out 2; have hfz14_3 := blk_frozen BK398.out 3)))
        go_ret
        exact ⟨by first | rfl | (simp [errW_none, errW_some] <;> rfl) | (simp [*, errW_none, errW_some] <;> rfl), by repeat (first | (with_reducible first | exact HB.out | apply below_alloc | apply pw_below_drewN | apply below_drew1 | refine below_set ?_ GE398.out) | exact HB.out)⟩
      · rw [if_neg c11] at H
        have c11b0 : decide (0 ≤ t397) = false := decide_eq_false c11
        clear c11
        replace H := Option.bind_eq_some_iff.mp H
        obtain ⟨t399, A150, H⟩ := H
        replace H : (some (decide (t399 ≥ (wrap64 (-t397))))) = some r := H
        have A15 := Aside0.mk A150
        clear A150
        obtain rfl := Option.some.inj H
        go_enter Tryd.func34, Tryd.ntmps34
        go_wp2_with (first | (go_at_call 17; (with_reducible refine (ieee_Decode.calls a0 t394 t395 t396 t397 _ A2.out).mono ?_); rintro e w16 ⟨rfl, hb⟩; have n0_ := Aside0.mk (below_step (by repeat (first | (with_reducible first | exact HB.out | apply below_alloc | apply pw_below_drewN | apply below_drew1) | exact HB.out)) hb); clear HB; have HB := n0_; clear n0_; (try clear hb); (try clear hb2); (try clear hk); (try clear hi)) | ((with_reducible refine gate_dst (N := 3) rfl ?_); refine box_event ?hg (N := 3) ?hd (cs := #[.bool false, .int .i64 0, .int .u64 0, .int .i64 0]) (t := 35) ?hr ?_; (case hd => rfl); (case hg => rfl); (case hr => first | (go_simp; done) | (go_simp; rfl)); intro gb398 hg w17 hbox hb; have n0_ := Aside0.mk (below_step (by repeat (first | (with_reducible first | exact HB.out | apply below_alloc | apply pw_below_drewN | apply below_drew1) | exact HB.out)) hb); have n1_ := Aside0.mk (hbox); have n2_ := Aside0.mk ((by rw [hg]; exact (below_size (by repeat (first | (with_reducible first | exact HB.out | apply below_alloc | apply pw_below_drewN | apply below_drew1) | exact HB.out))) : w.heap.size ≤ gb398)); have n3_ := Aside0.mk ((by rw [hg]; exact (below_size (by repeat (first | (with_reducible first | exact HB.out | apply below_alloc | apply pw_below_drewN | apply below_drew1) | exact HB.out))) : w.heap.size ≤ gb398)); clear HB; have HB := n0_; have BK398 := n1_; have GW398 := n2_; have GE398 := n3_; clear n0_ n1_ n2_ n3_; clear hb hbox hg; have hcz18_0 : w17.cell? ⟨gb398, 0, none⟩ = some (.bool false) := (blk_cell BK398.out 0).trans rfl; have hcz18_1 : w17.cell? ⟨gb398, 1, none⟩ = some (.int .i64 0) := (blk_cell BK398.out 1).trans rfl; have hcz18_2 : w17.cell? ⟨gb398, 2, none⟩ = some (.int .u64 0) := (blk_cell BK398.out 2).trans rfl; have hcz18_3 : w17.cell? ⟨gb398, 3, none⟩ = some (.int .i64 0) := (blk_cell BK398.out 3).trans rfl; have hfz18_0 := blk_frozen BK398.out 0; have hfz18_1 := blk_frozen BK398.out 1; have hfz18_2 := blk_frozen BK398.out 2; have hfz18_3 := blk_frozen BK398.out 3) | (go_at_call 58; (with_reducible refine (bits_TrailingZeros64.calls t396 t399 _ ?side1 A15.out).mono ?_); (case side1 => exact Kd.C_below HT.out (by repeat (first | (with_reducible first | exact HB.out | apply below_alloc | apply pw_below_drewN | apply below_drew1 | refine below_set ?_ GE398.out) | exact HB.out))); rintro e w' ⟨rfl, ⟨nd, rfl⟩⟩; (try first | exact ⟨rfl, _, World.drewN_drewN _ _ _⟩ | exact ⟨rfl, _, Eq.trans (World.drewN_drewN _ _ _) (congrArg (World.drewN _) (Nat.add_assoc _ _ _))⟩)))
        repeat (go_quiet (first | (go_at_call 17; (with_reducible refine (ieee_Decode.calls a0 t394 t395 t396 t397 _ A2.out).mono ?_); rintro e w16 ⟨rfl, hb⟩; have n0_ := Aside0.mk (below_step (by repeat (first | (with_reducible first | exact HB.out | apply below_alloc | apply pw_below_drewN | apply below_drew1) | exact HB.out)) hb); clear HB; have HB := n0_; clear n0_; (try clear hb); (try clear hb2); (try clear hk); (try clear hi)) | ((with_reducible refine gate_dst (N := 3) rfl ?_); refine box_event ?hg (N := 3) ?hd (cs := #[.bool false, .int .i64 0, .int .u64 0, .int .i64 0]) (t := 35) ?hr ?_; (case hd => rfl); (case hg => rfl); (case hr => first | (go_simp; done) | (go_simp; rfl)); intro gb398 hg w17 hbox hb; have n0_ := Aside0.mk (below_step (by repeat (first | (with_reducible first | exact HB.out | apply below_alloc | apply pw_below_drewN | apply below_drew1) | exact HB.out)) hb); have n1_ := Aside0.mk (hbox); have n2_ := Aside0.mk ((by rw [hg]; exact (below_size (by repeat (first | (with_reducible first | exact HB.out | apply below_alloc | apply pw_below_drewN | apply below_drew1) | exact HB.out))) : w.heap.size ≤ gb398)); have n3_ := Aside0.mk ((by rw [hg]; exact (below_size (by repeat (first | (with_reducible first | exact HB.out | apply below_alloc | apply pw_below_drewN | apply below_drew1) | exact HB.out))) : w.heap.size ≤ gb398)); clear HB; have HB := n0_; have BK398 := n1_; have GW398 := n2_; have GE398 := n3_; clear n0_ n1_ n2_ n3_; clear hb hbox hg; have hcz18_0 : w17.cell? ⟨gb398, 0, none⟩ = some (.bool false) := (blk_cell BK398.out 0).trans rfl; have hcz18_1 : w17.cell? ⟨gb398, 1, none⟩ = some (.int .i64 0) := (blk_cell BK398.out 1).trans rfl; have hcz18_2 : w17.cell? ⟨gb398, 2, none⟩ = some (.int .u64 0) := (blk_cell BK398.out 2).trans rfl; have hcz18_3 : w17.cell? ⟨gb398, 3, none⟩ = some (.int .i64 0) := (blk_cell BK398.out 3).trans rfl; have hfz18_0 := blk_frozen BK398.out 0; have hfz18_1 := blk_frozen BK398.out 1; have hfz18_2 := blk_frozen BK398.out 2; have hfz18_3 := blk_frozen BK398.out 3) | (go_at_call 58; (with_reducible refine (bits_TrailingZeros64.calls t396 t399 _ ?side1 A15.out).mono ?_); (case side1 => exact Kd.C_below HT.out (by repeat (first | (with_reducible first | exact HB.out | apply below_alloc | apply pw_below_drewN | apply below_drew1 | refine below_set ?_ GE398.out) | exact HB.out))); rintro e w' ⟨rfl, ⟨nd, rfl⟩⟩; (try first | exact ⟨rfl, _, World.drewN_drewN _ _ _⟩ | exact ⟨rfl, _, Eq.trans (World.drewN_drewN _ _ _) (congrArg (World.drewN _) (Nat.add_assoc _ _ _))⟩))); try go_wp2_with (first | (go_at_call 17; (with_reducible refine (ieee_Decode.calls a0 t394 t395 t396 t397 _ A2.out).mono ?_); rintro e w16 ⟨rfl, hb⟩; have n0_ := Aside0.mk (below_step (by repeat (first | (with_reducible first | exact HB.out | apply below_alloc | apply pw_below_drewN | apply below_drew1) | exact HB.out)) hb); clear HB; have HB := n0_; clear n0_; (try clear hb); (try clear hb2); (try clear hk); (try clear hi)) | ((with_reducible refine gate_dst (N := 3) rfl ?_); refine box_event ?hg (N := 3) ?hd (cs := #[.bool false, .int .i64 0, .int .u64 0, .int .i64 0]) (t := 35) ?hr ?_; (case hd => rfl); (case hg => rfl); (case hr => first | (go_simp; done) | (go_simp; rfl)); intro gb398 hg w17 hbox hb; have n0_ := Aside0.mk (below_step (by repeat (first | (with_reducible first | exact HB.out | apply below_alloc | apply pw_below_drewN | apply below_drew1) | exact HB.out)) hb); have n1_ := Aside0.mk (hbox); have n2_ := Aside0.mk ((by rw [hg]; exact (below_size (by repeat (first | (with_reducible first | exact HB.out | apply below_alloc | apply pw_below_drewN | apply below_drew1) | exact HB.out))) : w.heap.size ≤ gb398)); have n3_ := Aside0.mk ((by rw [hg]; exact (below_size (by repeat (first | (with_reducible first | exact HB.out | apply below_alloc | apply pw_below_drewN | apply below_drew1) | exact HB.out))) : w.heap.size ≤ gb398)); clear HB; have HB := n0_; have BK398 := n1_; have GW398 := n2_; have GE398 := n3_; clear n0_ n1_ n2_ n3_; clear hb hbox hg; have hcz18_0 : w17.cell? ⟨gb398, 0, none⟩ = some (.bool false) := (blk_cell BK398.out 0).trans rfl; have hcz18_1 : w17.cell? ⟨gb398, 1, none⟩ = some (.int .i64 0) := (blk_cell BK398.out 1).trans rfl; have hcz18_2 : w17.cell? ⟨gb398, 2, none⟩ = some (.int .u64 0) := (blk_cell BK398.out 2).trans rfl; have hcz18_3 : w17.cell? ⟨gb398, 3, none⟩ = some (.int .i64 0) := (blk_cell BK398.out 3).trans rfl; have hfz18_0 := blk_frozen BK398.out 0; have hfz18_1 := blk_frozen BK398.out 1; have hfz18_2 := blk_frozen BK398.out 2; have hfz18_3 := blk_frozen BK398.out 3) | (go_at_call 58; (with_reducible refine (bits_TrailingZeros64.calls t396 t399 _ ?side1 A15.out).mono ?_); (case side1 => exact Kd.C_below HT.out (by repeat (first | (with_reducible first | exact HB.out | apply below_alloc | apply pw_below_drewN | apply below_drew1 | refine below_set ?_ GE398.out) | exact HB.out))); rintro e w' ⟨rfl, ⟨nd, rfl⟩⟩; (try first | exact ⟨rfl, _, World.drewN_drewN _ _ _⟩ | exact ⟨rfl, _, Eq.trans (World.drewN_drewN _ _ _) (congrArg (World.drewN _) (Nat.add_assoc _ _ _))⟩))))
        go_ret
        exact ⟨by first | rfl | (simp [errW_none, errW_some] <;> rfl) | (simp [*, errW_none, errW_some] <;> rfl), by repeat (first | (with_reducible first | exact HB.out | apply below_alloc | apply pw_below_drewN | apply below_drew1 | refine below_set ?_ GE398.out) | exact HB.out)⟩

end Go.Proofs.YtiigfmmflicdpaaDoor.PB
