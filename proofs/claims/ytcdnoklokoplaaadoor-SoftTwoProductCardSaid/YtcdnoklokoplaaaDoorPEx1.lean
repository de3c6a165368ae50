-- printed by a program
import Derived.Test.YtcdnoklokoplaaaDoorPEx0
namespace Go.Proofs.YtcdnoklokoplaaaDoor.PE
open Go.Proofs.YtcdnoklokoplaaaDoorX
open Go.RowKit Go.Proofs.YtcdnoklokoplaaaDoorW.PrintWords Go.Proofs.YtcdnoklokoplaaaDoorW.PrintLast Go.Proofs.YtcdnoklokoplaaaDoorW.PrintMore
attribute [local go_sem] max2_int min2_int max_two min_two max_three min_three max_four min_four   -- for this text's walks alone
set_option linter.unusedVariables false
set_option linter.unusedSimpArgs false

/-! ### nat_size: function 52 -/
def nat_size.l0 : Nat → List Int → Int → Option (Int)
 | 0, _, _ => none
 | k + 1, x0, x3 => if x3 > 0 then (if 0 ≤ (wrap64 (x3 - 1)) then (if (wrap64 (x3 - 1)) < (x0.length : Int) then (if (rd x0 (wrap64 (x3 - 1))) = 0 then (nat_size.l0 k x0 (wrap64 (x3 - 1))) else (some x3)) else (none)) else (none)) else (some x3)
def nat_size.f (k : Nat) (l0 : List Int) : Option (Int) := nat_size.l0 k l0 (l0.length : Int)
theorem nat_size.mono_l : ∀ k, (∀ y0 y1, LeO (nat_size.l0 k y0 y1) (nat_size.l0 (k + 1) y0 y1))
 | 0 => fun _ _ r h => by simp [nat_size.l0] at h
 | k + 1 => by
  have ih0 := nat_size.mono_l k
  ·intro y0 y1
   unfold nat_size.l0
   repeat' first
   | (with_reducible exact ih0 _ _)
   | (with_reducible exact LeO.refl _)
   | (with_reducible exact LeO.none _)
   | (with_reducible refine LeO.ite ?_ ?_)
   | (with_reducible refine LeO.bind ?_ (fun _ => ?_))
   | exact ih0 _ _
   | exact LeO.none _
   | refine LeO.ite ?_ ?_
   | refine LeO.bind ?_ (fun _ => ?_)
theorem nat_size.mono : ∀ a0 k, LeO (nat_size.f k a0) (nat_size.f (k + 1) a0) := by
 intro a0 k
 have ih0 := nat_size.mono_l k
 unfold nat_size.f
 repeat' first
   | (with_reducible exact ih0 _ _)
   | (with_reducible exact LeO.refl _)
   | (with_reducible exact LeO.none _)
   | (with_reducible refine LeO.ite ?_ ?_)
   | (with_reducible refine LeO.bind ?_ (fun _ => ?_))
   | exact ih0 _ _
   | exact LeO.none _
   | refine LeO.ite ?_ ?_
   | refine LeO.bind ?_ (fun _ => ?_)
set_option maxHeartbeats 8000000 in
set_option maxRecDepth 100000 in
theorem nat_size.calls (k : Nat) (A0 : Option Addr) (c0 : Nat) (l0 : List Int) (r : Int) (w : World) (hr0 : Kd.C (Kd.int .u64) w A0 l0.length l0) (hc0 : l0.length ≤ c0) (h : nat_size.f k l0 = some r) :
  Calls Tryd.prog 52 #[.slice A0 l0.length c0] w fun e w' => e = .returned (.int .i64 r) ∧ Drawn0 w w' := by
 have HR0 := Aside0.mk hr0
 have HC0 := Aside0.mk hc0
 clear hr0 hc0
 have H : (nat_size.l0 k l0 (l0.length : Int)) = some r := h
 clear h
 have H' := Aside0.mk H
 clear H
 go_enter Tryd.func52, Tryd.ntmps52
 go_wp2
 go_loopg [3] k (fun kq v3 w' => ∃ (x3_1 : Int), v3 = .int .i64 x3_1 ∧ Aside0 (nat_size.l0 kq l0 x3_1 = some r) ∧ Aside0 (kq ≤ k) ∧ Drawn0 w w')
 case atStart => exact ⟨((l0.length : Int)), (by first | rfl | (simp; done) | (simp [*]; done)), H', ⟨Nat.le_refl _⟩, by repeat (first | exact Drawn0.refl _ | apply Drawn0.step)⟩
 case round =>
  clear H'
  obtain ⟨x3_1, rfl, HA, HK1, ⟨m1, rfl⟩⟩ := hrel
  cases gk with
  | zero => exact absurd HA.out (by simp [nat_size.l0])
  | succ k1 =>
   have H := HA.out
   clear HA
   simp only [nat_size.l0] at H
   by_cases c2 : x3_1 > 0
   ·rw [if_pos c2] at H
    have c2b0 : decide (0 < x3_1) = true := decide_eq_true c2
    clear c2
    obtain ⟨ji3, hji3⟩ : ∃ j_ : Int, (wrap64 (x3_1 - 1)) = j_ := ⟨_, rfl⟩
    replace H : (if 0 ≤ (ji3) then (if (ji3) < (l0.length : Int) then (if (rd l0 (ji3)) = 0 then (nat_size.l0 k1 l0 ji3) else (some x3_1)) else (none)) else (none)) = some r := by first | (rw [hji3] at H; exact H) | (simp only [hji3] at H ⊢; exact H)
    have hji3w : (IntKind.i64.wrap (x3_1 - 1)) = ji3 := (i64_w _).trans hji3
    by_cases c4 : 0 ≤ (ji3)
    ·rw [if_pos c4] at H
     have c4b0 : decide (0 ≤ (ji3)) = true := decide_eq_true c4
     clear c4
     by_cases c5 : (ji3) < (l0.length : Int)
     ·rw [if_pos c5] at H
      have c5b0 : decide ((ji3) < (l0.length : Int)) = true := decide_eq_true c5
      clear c5
      by_cases c6 : (rd l0 (ji3)) = 0
      ·rw [if_pos c6] at H
       have c6b0 : ((rd l0 (ji3)) == 0) = true := beq_iff_eq.mpr c6
       have c6b1 : ((rd l0 (ji3)) != 0) = false := bne_eq_false_iff_eq.mpr c6
       clear c6
       have H' := Aside0.mk H
       clear H
       have p101 : 0 ≤ ((ji3) : Int) := of_decide_eq_true (by first | (with_reducible assumption) | assumption)
       have q101 : (ji3) < (l0.length : Int) := of_decide_eq_true (by first | (with_reducible assumption) | assumption)
       obtain ⟨ad101, e101, hx101_0⟩ := Kd.at_int HR0.out (ji3) p101 q101
       cases e101
       replace p101 := eq_true p101
       replace q101 := eq_true q101
       go_wp2
       go_roundg k1
       case measure => have := HK1.out; omega
       case rel => exact ⟨(ji3), (by first | rfl | (simp; done) | (simp only [← hji3] <;> (first | rfl | simp)) | (simp [*]; done)), H', ⟨by have := HK1.out; omega⟩, by repeat (first | exact Drawn0.refl _ | apply Drawn0.step)⟩
      ·rw [if_neg c6] at H
       have c6b0 : ((rd l0 (ji3)) == 0) = false := beq_eq_false_iff_ne.mpr c6
       have c6b1 : ((rd l0 (ji3)) != 0) = true := bne_iff_ne.mpr c6
       obtain rfl := Option.some.inj H
       have p101 : 0 ≤ ((ji3) : Int) := of_decide_eq_true (by first | (with_reducible assumption) | assumption)
       have q101 : (ji3) < (l0.length : Int) := of_decide_eq_true (by first | (with_reducible assumption) | assumption)
       obtain ⟨ad101, e101, hx101_0⟩ := Kd.at_int HR0.out (ji3) p101 q101
       cases e101
       replace p101 := eq_true p101
       replace q101 := eq_true q101
       go_wp2
       go_ret
       exact ⟨by first | rfl | (simp; done) | (simp only [← hji3] <;> (first | rfl | simp)) | (simp [*]; done), by repeat (first | exact Drawn0.refl _ | apply Drawn0.step)⟩
     ·rw [if_neg c5] at H
      exact absurd H (by simp)
    ·rw [if_neg c4] at H
     exact absurd H (by simp)
   ·rw [if_neg c2] at H
    have c2b0 : decide (0 < x3_1) = false := decide_eq_false c2
    clear c2
    obtain rfl := Option.some.inj H
    go_wp2
    go_ret
    exact ⟨by first | rfl | (simp; done) | (simp [*]; done), by repeat (first | exact Drawn0.refl _ | apply Drawn0.step)⟩

/-! ### nat_Cmp: function 18 -/
def nat_Cmp.l0 : Nat → List Int → List Int → Int → Option (Int)
 | 0, _, _, _ => none
 | k + 1, x0, x1, x7 => if x7 ≥ 0 then (if 0 ≤ x7 then (if x7 < (x0.length : Int) then (if x7 < (x1.length : Int) then (if (rd x0 x7) = (rd x1 x7) then (nat_Cmp.l0 k x0 x1 (wrap64 (x7 - 1))) else (if (rd x0 x7) < (rd x1 x7) then (some (-1)) else (some 1))) else (none)) else (none)) else (none)) else (some 0)
def nat_Cmp.f (k : Nat) (l0 : List Int) (l1 : List Int) : Option (Int) := (nat_size.f k l0).bind fun t102 => ((nat_size.f k l1).bind fun t103 => (if t102 = t103 then (nat_Cmp.l0 k l0 l1 (wrap64 (t102 - 1))) else (if t102 < t103 then (some (-1)) else (some 1))))
theorem nat_Cmp.mono_l : ∀ k, (∀ y0 y1 y2, LeO (nat_Cmp.l0 k y0 y1 y2) (nat_Cmp.l0 (k + 1) y0 y1 y2))
 | 0 => fun _ _ _ r h => by simp [nat_Cmp.l0] at h
 | k + 1 => by
  have ih0 := nat_Cmp.mono_l k
  ·intro y0 y1 y2
   unfold nat_Cmp.l0
   repeat' first
   | (with_reducible exact ih0 _ _ _)
   | (with_reducible exact nat_size.mono _ _)
   | (with_reducible exact LeO.refl _)
   | (with_reducible exact LeO.none _)
   | (with_reducible refine LeO.ite ?_ ?_)
   | (with_reducible refine LeO.bind ?_ (fun _ => ?_))
   | exact ih0 _ _ _
   | exact nat_size.mono _ _
   | exact LeO.none _
   | refine LeO.ite ?_ ?_
   | refine LeO.bind ?_ (fun _ => ?_)
theorem nat_Cmp.mono : ∀ a0 a1 k, LeO (nat_Cmp.f k a0 a1) (nat_Cmp.f (k + 1) a0 a1) := by
 intro a0 a1 k
 have ih0 := nat_Cmp.mono_l k
 unfold nat_Cmp.f
 repeat' first
   | (with_reducible exact ih0 _ _ _)
   | (with_reducible exact nat_size.mono _ _)
   | (with_reducible exact LeO.refl _)
   | (with_reducible exact LeO.none _)
   | (with_reducible refine LeO.ite ?_ ?_)
   | (with_reducible refine LeO.bind ?_ (fun _ => ?_))
   | exact ih0 _ _ _
   | exact nat_size.mono _ _
   | exact LeO.none _
   | refine LeO.ite ?_ ?_
   | refine LeO.bind ?_ (fun _ => ?_)
set_option maxHeartbeats 8000000 in
set_option maxRecDepth 100000 in
theorem nat_Cmp.calls (k : Nat) (A0 : Option Addr) (c0 : Nat) (l0 : List Int) (A1 : Option Addr) (c1 : Nat) (l1 : List Int) (r : Int) (w : World) (hr0 : Kd.C (Kd.int .u64) w A0 l0.length l0) (hc0 : l0.length ≤ c0) (hr1 : Kd.C (Kd.int .u64) w A1 l1.length l1) (hc1 : l1.length ≤ c1) (h : nat_Cmp.f k l0 l1 = some r) :
  Calls Tryd.prog 18 #[.slice A0 l0.length c0, .slice A1 l1.length c1] w fun e w' => e = .returned (.int .i64 r) ∧ Drawn0 w w' := by
 have HR0 := Aside0.mk hr0
 have HC0 := Aside0.mk hc0
 clear hr0 hc0
 have HR1 := Aside0.mk hr1
 have HC1 := Aside0.mk hc1
 clear hr1 hc1
 have H : ((nat_size.f k l0).bind fun t102 => ((nat_size.f k l1).bind fun t103 => (if t102 = t103 then (nat_Cmp.l0 k l0 l1 (wrap64 (t102 - 1))) else (if t102 < t103 then (some (-1)) else (some 1))))) = some r := h
 clear h
 replace H := Option.bind_eq_some_iff.mp H
 obtain ⟨t102, A30, H⟩ := H
 replace H : ((nat_size.f k l1).bind fun t103 => (if t102 = t103 then (nat_Cmp.l0 k l0 l1 (wrap64 (t102 - 1))) else (if t102 < t103 then (some (-1)) else (some 1)))) = some r := H
 have A3 := Aside0.mk A30
 clear A30
 replace H := Option.bind_eq_some_iff.mp H
 obtain ⟨t103, A40, H⟩ := H
 replace H : (if t102 = t103 then (nat_Cmp.l0 k l0 l1 (wrap64 (t102 - 1))) else (if t102 < t103 then (some (-1)) else (some 1))) = some r := H
 have A4 := Aside0.mk A40
 clear A40
 by_cases c5 : t102 = t103
 ·rw [if_pos c5] at H
  have c5b0 : (t102 == t103) = true := beq_iff_eq.mpr c5
  have c5b1 : (t102 != t103) = false := bne_eq_false_iff_eq.mpr c5
  clear c5
  have H' := Aside0.mk H
  clear H
  go_enter Tryd.func18, Tryd.ntmps18
  go_wp2_with (first | (go_at_call 52; (with_reducible refine (nat_size.calls k _ _ l0 t102 _ ?side1 ?side2 A3.out).mono ?_); (case side1 => exact cS HR0.out); (case side2 => exact HC0.out); rintro e w' ⟨rfl, ⟨nd, rfl⟩⟩; (try first | exact ⟨rfl, _, dn2⟩ | exact ⟨rfl, _, dn3⟩)) | (go_at_call 52; (with_reducible refine (nat_size.calls k _ _ l1 t103 _ ?side1 ?side2 A4.out).mono ?_); (case side1 => exact cS HR1.out); (case side2 => exact HC1.out); rintro e w' ⟨rfl, ⟨nd, rfl⟩⟩; (try first | exact ⟨rfl, _, dn2⟩ | exact ⟨rfl, _, dn3⟩)))
  repeat (go_quiet (first | (go_at_call 52; (with_reducible refine (nat_size.calls k _ _ l0 t102 _ ?side1 ?side2 A3.out).mono ?_); (case side1 => exact cS HR0.out); (case side2 => exact HC0.out); rintro e w' ⟨rfl, ⟨nd, rfl⟩⟩; (try first | exact ⟨rfl, _, dn2⟩ | exact ⟨rfl, _, dn3⟩)) | (go_at_call 52; (with_reducible refine (nat_size.calls k _ _ l1 t103 _ ?side1 ?side2 A4.out).mono ?_); (case side1 => exact cS HR1.out); (case side2 => exact HC1.out); rintro e w' ⟨rfl, ⟨nd, rfl⟩⟩; (try first | exact ⟨rfl, _, dn2⟩ | exact ⟨rfl, _, dn3⟩))); try go_wp2_with (first | (go_at_call 52; (with_reducible refine (nat_size.calls k _ _ l0 t102 _ ?side1 ?side2 A3.out).mono ?_); (case side1 => exact cS HR0.out); (case side2 => exact HC0.out); rintro e w' ⟨rfl, ⟨nd, rfl⟩⟩; (try first | exact ⟨rfl, _, dn2⟩ | exact ⟨rfl, _, dn3⟩)) | (go_at_call 52; (with_reducible refine (nat_size.calls k _ _ l1 t103 _ ?side1 ?side2 A4.out).mono ?_); (case side1 => exact cS HR1.out); (case side2 => exact HC1.out); rintro e w' ⟨rfl, ⟨nd, rfl⟩⟩; (try first | exact ⟨rfl, _, dn2⟩ | exact ⟨rfl, _, dn3⟩))))
  go_loopg [7] k (fun kq v7 w' => ∃ (x7_1 : Int), v7 = .int .i64 x7_1 ∧ Aside0 (nat_Cmp.l0 kq l0 l1 x7_1 = some r) ∧ Aside0 (kq ≤ k) ∧ Drawn0 w w')
  case atStart => exact ⟨(wrap64 (t102 - 1)), (by first | rfl | (simp; done) | (simp [*]; done)), H', ⟨Nat.le_refl _⟩, by repeat (first | exact Drawn0.refl _ | apply Drawn0.step)⟩
  case round =>
   clear H'
   try clear c1
   try clear p2
   try clear c5
   try clear c5b0
   try clear c5b1
   obtain ⟨x7_1, rfl, HA, HK1, ⟨m1, rfl⟩⟩ := hrel
   cases gk with
   | zero => exact absurd HA.out (by simp [nat_Cmp.l0])
   | succ k1 =>
    have H := HA.out
    clear HA
    simp only [nat_Cmp.l0] at H
    by_cases c6 : x7_1 ≥ 0
    ·rw [if_pos c6] at H
     have c6b0 : decide (0 ≤ x7_1) = true := decide_eq_true c6
     clear c6
     by_cases c7 : 0 ≤ x7_1
     ·rw [if_pos c7] at H
      have c7b0 : decide (0 ≤ x7_1) = true := decide_eq_true c7
      clear c7
      by_cases c8 : x7_1 < (l0.length : Int)
      ·rw [if_pos c8] at H
       have c8b0 : decide (x7_1 < (l0.length : Int)) = true := decide_eq_true c8
       clear c8
       by_cases c9 : x7_1 < (l1.length : Int)
       ·rw [if_pos c9] at H
        have c9b0 : decide (x7_1 < (l1.length : Int)) = true := decide_eq_true c9
        clear c9
        by_cases c10 : (rd l0 x7_1) = (rd l1 x7_1)
        ·rw [if_pos c10] at H
         have c10b0 : ((rd l0 x7_1) == (rd l1 x7_1)) = true := beq_iff_eq.mpr c10
         have c10b1 : ((rd l0 x7_1) != (rd l1 x7_1)) = false := bne_eq_false_iff_eq.mpr c10
         clear c10
         have H' := Aside0.mk H
         clear H
         have p104 : 0 ≤ (x7_1 : Int) := of_decide_eq_true (by first | (with_reducible assumption) | assumption)
         have q104 : x7_1 < (l0.length : Int) := of_decide_eq_true (by first | (with_reducible assumption) | assumption)
         obtain ⟨ad104, e104, hx104_0⟩ := Kd.at_int HR0.out x7_1 p104 q104
         cases e104
         replace p104 := eq_true p104
         replace q104 := eq_true q104
         have p105 : 0 ≤ (x7_1 : Int) := of_decide_eq_true (by first | (with_reducible assumption) | assumption)
         have q105 : x7_1 < (l1.length : Int) := of_decide_eq_true (by first | (with_reducible assumption) | assumption)
         obtain ⟨ad105, e105, hx105_0⟩ := Kd.at_int HR1.out x7_1 p105 q105
         cases e105
         replace p105 := eq_true p105
         replace q105 := eq_true q105
         go_wp2
         repeat (go_quiet (fail); try go_wp2)
         go_roundg k1
         case measure => have := HK1.out; omega
         case rel => exact ⟨(wrap64 (x7_1 - 1)), (by first | rfl | (have e_ := Option.some.inj (A3.out.symm.trans A4.out); cases e_; rfl) | (simp; done) | (simp [*]; done)), H', ⟨by have := HK1.out; omega⟩, by repeat (first | exact Drawn0.refl _ | apply Drawn0.step)⟩
        ·rw [if_neg c10] at H
         have c10b0 : ((rd l0 x7_1) == (rd l1 x7_1)) = false := beq_eq_false_iff_ne.mpr c10
         have c10b1 : ((rd l0 x7_1) != (rd l1 x7_1)) = true := bne_iff_ne.mpr c10
         by_cases c11 : (rd l0 x7_1) < (rd l1 x7_1)
         ·rw [if_pos c11] at H
          have c11b0 : decide ((rd l0 x7_1) < (rd l1 x7_1)) = true := decide_eq_true c11
          clear c11
          obtain rfl := Option.some.inj H
          have p104 : 0 ≤ (x7_1 : Int) := of_decide_eq_true (by first | (with_reducible assumption) | assumption)
          have q104 : x7_1 < (l0.length : Int) := of_decide_eq_true (by first | (with_reducible assumption) | assumption)
          obtain ⟨ad104, e104, hx104_0⟩ := Kd.at_int HR0.out x7_1 p104 q104
          cases e104
          replace p104 := eq_true p104
          replace q104 := eq_true q104
          have p105 : 0 ≤ (x7_1 : Int) := of_decide_eq_true (by first | (with_reducible assumption) | assumption)
          have q105 : x7_1 < (l1.length : Int) := of_decide_eq_true (by first | (with_reducible assumption) | assumption)
          obtain ⟨ad105, e105, hx105_0⟩ := Kd.at_int HR1.out x7_1 p105 q105
          cases e105
          replace p105 := eq_true p105
          replace q105 := eq_true q105
          have p106 : 0 ≤ (x7_1 : Int) := of_decide_eq_true (by first | (with_reducible assumption) | assumption)
          have q106 : x7_1 < (l0.length : Int) := of_decide_eq_true (by first | (with_reducible assumption) | assumption)
          obtain ⟨ad106, e106, hx106_0⟩ := Kd.at_int HR0.out x7_1 p106 q106
          obtain rfl : ad104 = ad106 := (by injection e106)
          replace p106 := eq_true p106
          replace q106 := eq_true q106
          have p107 : 0 ≤ (x7_1 : Int) := of_decide_eq_true (by first | (with_reducible assumption) | assumption)
          have q107 : x7_1 < (l1.length : Int) := of_decide_eq_true (by first | (with_reducible assumption) | assumption)
          obtain ⟨ad107, e107, hx107_0⟩ := Kd.at_int HR1.out x7_1 p107 q107
          obtain rfl : ad105 = ad107 := (by injection e107)
          replace p107 := eq_true p107
          replace q107 := eq_true q107
          go_wp2
          repeat (go_quiet (fail); try go_wp2)
          go_ret
          exact ⟨by first | rfl | (have e_ := Option.some.inj (A3.out.symm.trans A4.out); cases e_; rfl) | (simp; done) | (simp [*]; done), by repeat (first | exact Drawn0.refl _ | apply Drawn0.step)⟩
         ·rw [if_neg c11] at H
          have c11b0 : decide ((rd l0 x7_1) < (rd l1 x7_1)) = false := decide_eq_false c11
          clear c11
          obtain rfl := Option.some.inj H
          have p104 : 0 ≤ (x7_1 : Int) := of_decide_eq_true (by first | (with_reducible assumption) | assumption)
          have q104 : x7_1 < (l0.length : Int) := of_decide_eq_true (by first | (with_reducible assumption) | assumption)
          obtain ⟨ad104, e104, hx104_0⟩ := Kd.at_int HR0.out x7_1 p104 q104
          cases e104
          replace p104 := eq_true p104
          replace q104 := eq_true q104
          have p105 : 0 ≤ (x7_1 : Int) := of_decide_eq_true (by first | (with_reducible assumption) | assumption)
          have q105 : x7_1 < (l1.length : Int) := of_decide_eq_true (by first | (with_reducible assumption) | assumption)
          obtain ⟨ad105, e105, hx105_0⟩ := Kd.at_int HR1.out x7_1 p105 q105
          cases e105
          replace p105 := eq_true p105
          replace q105 := eq_true q105
          have p106 : 0 ≤ (x7_1 : Int) := of_decide_eq_true (by first | (with_reducible assumption) | assumption)
          have q106 : x7_1 < (l0.length : Int) := of_decide_eq_true (by first | (with_reducible assumption) | assumption)
          obtain ⟨ad106, e106, hx106_0⟩ := Kd.at_int HR0.out x7_1 p106 q106
          obtain rfl : ad104 = ad106 := (by injection e106)
          replace p106 := eq_true p106
          replace q106 := eq_true q106
          have p107 : 0 ≤ (x7_1 : Int) := of_decide_eq_true (by first | (with_reducible assumption) | assumption)
          have q107 : x7_1 < (l1.length : Int) := of_decide_eq_true (by first | (with_reducible assumption) | assumption)
          obtain ⟨ad107, e107, hx107_0⟩ := Kd.at_int HR1.out x7_1 p107 q107
          obtain rfl : ad105 = ad107 := (by injection e107)
          replace p107 := eq_true p107
          replace q107 := eq_true q107
          go_wp2
          repeat (go_quiet (fail); try go_wp2)
          go_ret
          exact ⟨by first | rfl | (have e_ := Option.some.inj (A3.out.symm.trans A4.out); cases e_; rfl) | (simp; done) | (simp [*]; done), by repeat (first | exact Drawn0.refl _ | apply Drawn0.step)⟩
       ·rw [if_neg c9] at H
        exact absurd H (by simp)
      ·rw [if_neg c8] at H
       exact absurd H (by simp)
     ·rw [if_neg c7] at H
      exact absurd H (by simp)
    ·rw [if_neg c6] at H
     have c6b0 : decide (0 ≤ x7_1) = false := decide_eq_false c6
     clear c6
     obtain rfl := Option.some.inj H
     go_wp2
     repeat (go_quiet (fail); try go_wp2)
     go_ret
     exact ⟨by first | rfl | (have e_ := Option.some.inj (A3.out.symm.trans A4.out); cases e_; rfl) | (simp; done) | (simp [*]; done), by repeat (first | exact Drawn0.refl _ | apply Drawn0.step)⟩
 ·rw [if_neg c5] at H
  have c5b0 : (t102 == t103) = false := beq_eq_false_iff_ne.mpr c5
  have c5b1 : (t102 != t103) = true := bne_iff_ne.mpr c5
  by_cases c12 : t102 < t103
  ·rw [if_pos c12] at H
   have c12b0 : decide (t102 < t103) = true := decide_eq_true c12
   clear c12
   obtain rfl := Option.some.inj H
   go_enter Tryd.func18, Tryd.ntmps18
   go_wp2_with (first | (go_at_call 52; (with_reducible refine (nat_size.calls k _ _ l0 t102 _ ?side1 ?side2 A3.out).mono ?_); (case side1 => exact cS HR0.out); (case side2 => exact HC0.out); rintro e w' ⟨rfl, ⟨nd, rfl⟩⟩; (try first | exact ⟨rfl, _, dn2⟩ | exact ⟨rfl, _, dn3⟩)) | (go_at_call 52; (with_reducible refine (nat_size.calls k _ _ l1 t103 _ ?side1 ?side2 A4.out).mono ?_); (case side1 => exact cS HR1.out); (case side2 => exact HC1.out); rintro e w' ⟨rfl, ⟨nd, rfl⟩⟩; (try first | exact ⟨rfl, _, dn2⟩ | exact ⟨rfl, _, dn3⟩)))
   repeat (go_quiet (first | (go_at_call 52; (with_reducible refine (nat_size.calls k _ _ l0 t102 _ ?side1 ?side2 A3.out).mono ?_); (case side1 => exact cS HR0.out); (case side2 => exact HC0.out); rintro e w' ⟨rfl, ⟨nd, rfl⟩⟩; (try first | exact ⟨rfl, _, dn2⟩ | exact ⟨rfl, _, dn3⟩)) | (go_at_call 52; (with_reducible refine (nat_size.calls k _ _ l1 t103 _ ?side1 ?side2 A4.out).mono ?_); (case side1 => exact cS HR1.out); (case side2 => exact HC1.out); rintro e w' ⟨rfl, ⟨nd, rfl⟩⟩; (try first | exact ⟨rfl, _, dn2⟩ | exact ⟨rfl, _, dn3⟩))); try go_wp2_with (first | (go_at_call 52; (with_reducible refine (nat_size.calls k _ _ l0 t102 _ ?side1 ?side2 A3.out).mono ?_); (case side1 => exact cS HR0.out); (case side2 => exact HC0.out); rintro e w' ⟨rfl, ⟨nd, rfl⟩⟩; (try first | exact ⟨rfl, _, dn2⟩ | exact ⟨rfl, _, dn3⟩)) | (go_at_call 52; (with_reducible refine (nat_size.calls k _ _ l1 t103 _ ?side1 ?side2 A4.out).mono ?_); (case side1 => exact cS HR1.out); (case side2 => exact HC1.out); rintro e w' ⟨rfl, ⟨nd, rfl⟩⟩; (try first | exact ⟨rfl, _, dn2⟩ | exact ⟨rfl, _, dn3⟩))))
   go_ret
   exact ⟨by first | rfl | (have e_ := Option.some.inj (A3.out.symm.trans A4.out); cases e_; rfl) | (simp; done) | (simp [*]; done), by repeat (first | exact Drawn0.refl _ | apply Drawn0.step)⟩
  ·rw [if_neg c12] at H
   have c12b0 : decide (t102 < t103) = false := decide_eq_false c12
   clear c12
   obtain rfl := Option.some.inj H
   go_enter Tryd.func18, Tryd.ntmps18
   go_wp2_with (first | (go_at_call 52; (with_reducible refine (nat_size.calls k _ _ l0 t102 _ ?side1 ?side2 A3.out).mono ?_); (case side1 => exact cS HR0.out); (case side2 => exact HC0.out); rintro e w' ⟨rfl, ⟨nd, rfl⟩⟩; (try first | exact ⟨rfl, _, dn2⟩ | exact ⟨rfl, _, dn3⟩)) | (go_at_call 52; (with_reducible refine (nat_size.calls k _ _ l1 t103 _ ?side1 ?side2 A4.out).mono ?_); (case side1 => exact cS HR1.out); (case side2 => exact HC1.out); rintro e w' ⟨rfl, ⟨nd, rfl⟩⟩; (try first | exact ⟨rfl, _, dn2⟩ | exact ⟨rfl, _, dn3⟩)))
   repeat (go_quiet (first | (go_at_call 52; (with_reducible refine (nat_size.calls k _ _ l0 t102 _ ?side1 ?side2 A3.out).mono ?_); (case side1 => exact cS HR0.out); (case side2 => exact HC0.out); rintro e w' ⟨rfl, ⟨nd, rfl⟩⟩; (try first | exact ⟨rfl, _, dn2⟩ | exact ⟨rfl, _, dn3⟩)) | (go_at_call 52; (with_reducible refine (nat_size.calls k _ _ l1 t103 _ ?side1 ?side2 A4.out).mono ?_); (case side1 => exact cS HR1.out); (case side2 => exact HC1.out); rintro e w' ⟨rfl, ⟨nd, rfl⟩⟩; (try first | exact ⟨rfl, _, dn2⟩ | exact ⟨rfl, _, dn3⟩))); try go_wp2_with (first | (go_at_call 52; (with_reducible refine (nat_size.calls k _ _ l0 t102 _ ?side1 ?side2 A3.out).mono ?_); (case side1 => exact cS HR0.out); (case side2 => exact HC0.out); rintro e w' ⟨rfl, ⟨nd, rfl⟩⟩; (try first | exact ⟨rfl, _, dn2⟩ | exact ⟨rfl, _, dn3⟩)) | (go_at_call 52; (with_reducible refine (nat_size.calls k _ _ l1 t103 _ ?side1 ?side2 A4.out).mono ?_); (case side1 => exact cS HR1.out); (case side2 => exact HC1.out); rintro e w' ⟨rfl, ⟨nd, rfl⟩⟩; (try first | exact ⟨rfl, _, dn2⟩ | exact ⟨rfl, _, dn3⟩))))
   go_ret
   exact ⟨by first | rfl | (have e_ := Option.some.inj (A3.out.symm.trans A4.out); cases e_; rfl) | (simp; done) | (simp [*]; done), by repeat (first | exact Drawn0.refl _ | apply Drawn0.step)⟩

/-! ### ieee_Abs: function 92 -/
def ieee_Abs.f (a0 : Int) : Option (Int) := some (Go.bits .andNot .u64 a0 9223372036854775808)
set_option maxHeartbeats 8000000 in
set_option maxRecDepth 100000 in
theorem ieee_Abs.calls (a0 : Int) (r : Int) (w : World) (h : ieee_Abs.f a0 = some r) :
  Calls Tryd.prog 92 #[.int .u64 a0] w fun e w' => e = .returned (.int .u64 r) ∧ Drawn0 w w' := by
 have H : (some (Go.bits .andNot .u64 a0 9223372036854775808)) = some r := h
 clear h
 obtain rfl := Option.some.inj H
 go_enter Tryd.func92, Tryd.ntmps92
 go_wp2
 go_ret
 exact ⟨by first | rfl | (simp; done) | (simp [*]; done), by repeat (first | exact Drawn0.refl _ | apply Drawn0.step)⟩

/-! ### ieee_Class: function 60 -/
def ieee_Class.f (a0 : Int) : Option (Int) := (ieee_Abs.f a0).bind fun t108 => (if t108 = 0 then (some 0) else (if t108 < 4503599627370496 then (some 1) else (if t108 < 9218868437227405312 then (some 2) else (if t108 = 9218868437227405312 then (some 3) else (some 4)))))
set_option maxHeartbeats 8000000 in
set_option maxRecDepth 100000 in
theorem ieee_Class.calls (a0 : Int) (r : Int) (w : World) (h : ieee_Class.f a0 = some r) :
  Calls Tryd.prog 60 #[.int .u64 a0] w fun e w' => e = .returned (.int .i64 r) ∧ Drawn0 w w' := by
 have H : ((ieee_Abs.f a0).bind fun t108 => (if t108 = 0 then (some 0) else (if t108 < 4503599627370496 then (some 1) else (if t108 < 9218868437227405312 then (some 2) else (if t108 = 9218868437227405312 then (some 3) else (some 4)))))) = some r := h
 clear h
 obtain ⟨t108, A20, H⟩ := Option.bind_eq_some_iff.mp H
 have A2 := Aside0.mk A20
 clear A20
 by_cases c3 : t108 = 0
 ·rw [if_pos c3] at H
  have c3b0 : (t108 == 0) = true := beq_iff_eq.mpr c3
  have c3b1 : (t108 != 0) = false := bne_eq_false_iff_eq.mpr c3
  clear c3
  obtain rfl := Option.some.inj H
  go_enter Tryd.func60, Tryd.ntmps60
  go_wp2_with (first | ((with_reducible refine gate_callee (f := 92) rfl ?_); refine goesL_ (some 4) rfl rfl Tryd.func92 (by kernel_rfl) rfl #[.int .u64 a0] rfl (by (try simp only [List.map_toArray, List.map_cons, List.map_nil]); first | done | rfl) ?_; (with_reducible refine (ieee_Abs.calls a0 t108 _ A2.out).mono ?_); rintro e w' ⟨rfl, ⟨nd, rfl⟩⟩; refine ⟨_, rfl, ?_⟩))
  go_ret
  exact ⟨by first | rfl | (simp; done) | (simp [*]; done), by repeat (first | exact Drawn0.refl _ | apply Drawn0.step)⟩
 ·rw [if_neg c3] at H
  have c3b0 : (t108 == 0) = false := beq_eq_false_iff_ne.mpr c3
  have c3b1 : (t108 != 0) = true := bne_iff_ne.mpr c3
  by_cases c4 : t108 < 4503599627370496
  ·rw [if_pos c4] at H
   have c4b0 : decide (t108 < 4503599627370496) = true := decide_eq_true c4
   clear c4
   obtain rfl := Option.some.inj H
   go_enter Tryd.func60, Tryd.ntmps60
   go_wp2_with (first | ((with_reducible refine gate_callee (f := 92) rfl ?_); refine goesL_ (some 4) rfl rfl Tryd.func92 (by kernel_rfl) rfl #[.int .u64 a0] rfl (by (try simp only [List.map_toArray, List.map_cons, List.map_nil]); first | done | rfl) ?_; (with_reducible refine (ieee_Abs.calls a0 t108 _ A2.out).mono ?_); rintro e w' ⟨rfl, ⟨nd, rfl⟩⟩; refine ⟨_, rfl, ?_⟩))
   go_ret
   exact ⟨by first | rfl | (simp; done) | (simp [*]; done), by repeat (first | exact Drawn0.refl _ | apply Drawn0.step)⟩
  ·rw [if_neg c4] at H
   have c4b0 : decide (t108 < 4503599627370496) = false := decide_eq_false c4
   clear c4
   by_cases c5 : t108 < 9218868437227405312
   ·rw [if_pos c5] at H
    have c5b0 : decide (t108 < 9218868437227405312) = true := decide_eq_true c5
    clear c5
    obtain rfl := Option.some.inj H
    go_enter Tryd.func60, Tryd.ntmps60
    go_wp2_with (first | ((with_reducible refine gate_callee (f := 92) rfl ?_); refine goesL_ (some 4) rfl rfl Tryd.func92 (by kernel_rfl) rfl #[.int .u64 a0] rfl (by (try simp only [List.map_toArray, List.map_cons, List.map_nil]); first | done | rfl) ?_; (with_reducible refine (ieee_Abs.calls a0 t108 _ A2.out).mono ?_); rintro e w' ⟨rfl, ⟨nd, rfl⟩⟩; refine ⟨_, rfl, ?_⟩))
    go_ret
    exact ⟨by first | rfl | (simp; done) | (simp [*]; done), by repeat (first | exact Drawn0.refl _ | apply Drawn0.step)⟩
   ·rw [if_neg c5] at H
    have c5b0 : decide (t108 < 9218868437227405312) = false := decide_eq_false c5
    clear c5
    by_cases c6 : t108 = 9218868437227405312
    ·rw [if_pos c6] at H
     have c6b0 : (t108 == 9218868437227405312) = true := beq_iff_eq.mpr c6
     have c6b1 : (t108 != 9218868437227405312) = false := bne_eq_false_iff_eq.mpr c6
     clear c6
     obtain rfl := Option.some.inj H
     go_enter Tryd.func60, Tryd.ntmps60
     go_wp2_with (first | ((with_reducible refine gate_callee (f := 92) rfl ?_); refine goesL_ (some 4) rfl rfl Tryd.func92 (by kernel_rfl) rfl #[.int .u64 a0] rfl (by (try simp only [List.map_toArray, List.map_cons, List.map_nil]); first | done | rfl) ?_; (with_reducible refine (ieee_Abs.calls a0 t108 _ A2.out).mono ?_); rintro e w' ⟨rfl, ⟨nd, rfl⟩⟩; refine ⟨_, rfl, ?_⟩))
     go_ret
     exact ⟨by first | rfl | (simp; done) | (simp [*]; done), by repeat (first | exact Drawn0.refl _ | apply Drawn0.step)⟩
    ·rw [if_neg c6] at H
     have c6b0 : (t108 == 9218868437227405312) = false := beq_eq_false_iff_ne.mpr c6
     have c6b1 : (t108 != 9218868437227405312) = true := bne_iff_ne.mpr c6
     obtain rfl := Option.some.inj H
     go_enter Tryd.func60, Tryd.ntmps60
     go_wp2_with (first | ((with_reducible refine gate_callee (f := 92) rfl ?_); refine goesL_ (some 4) rfl rfl Tryd.func92 (by kernel_rfl) rfl #[.int .u64 a0] rfl (by (try simp only [List.map_toArray, List.map_cons, List.map_nil]); first | done | rfl) ?_; (with_reducible refine (ieee_Abs.calls a0 t108 _ A2.out).mono ?_); rintro e w' ⟨rfl, ⟨nd, rfl⟩⟩; refine ⟨_, rfl, ?_⟩))
     go_ret
     exact ⟨by first | rfl | (simp; done) | (simp [*]; done), by repeat (first | exact Drawn0.refl _ | apply Drawn0.step)⟩

/-! ### ieee_Decode: function 29 (its contract by hand) -/
/-- Whatever is known of a world: it goes by a name of its own. -/
theorem ieee_Decode.gen {G : World → Prop} {W : World} (P : World → Prop) (hP : P W) (h : ∀ W', P W' → G W') : G W := h W hP
def ieee_Decode.f (a0 : Int) : Option (Bool × Int × Int × Int) := (ieee_Class.f a0).bind fun t => (if t = 1 then (some (((Go.bits .and .u64 a0 9223372036854775808) != 0), t, Go.bits .and .u64 a0 4503599627370495, (-1074))) else (if t = 2 then (some (((Go.bits .and .u64 a0 9223372036854775808) != 0), t, Go.bits .or .u64 4503599627370496 (Go.bits .and .u64 a0 4503599627370495), wrap64 ((wrap64 (Go.bits .and .u64 (a0 / 4503599627370496) 2047)) - 1075))) else (if t = 4 then (some (((Go.bits .and .u64 a0 9223372036854775808) != 0), t, Go.bits .and .u64 a0 4503599627370495, 0)) else (some (((Go.bits .and .u64 a0 9223372036854775808) != 0), t, 0, 0)))))
set_option maxHeartbeats 4000000 in
set_option maxRecDepth 100000 in
theorem ieee_Decode.calls (a0 : Int) (r1 : Bool) (r2 : Int) (r3 : Int) (r4 : Int) (w : World) (h : ieee_Decode.f a0 = some (r1, r2, r3, r4)) :
  Calls Tryd.prog 29 #[.int .u64 a0] w fun e w' => e = .returned (.agg #[.bool r1, .int .i64 r2, .int .u64 r3, .int .i64 r4]) ∧ Below w.heap.size w w' := by
 have hu39 := Tryd.underlying39
 have HB := Aside0.mk (Below.refl w.heap.size w)
 replace h := Option.bind_eq_some_iff.mp h
 obtain ⟨t, A20, H⟩ := h
 have A2 := Aside0.mk A20
 clear A20
 replace H : (if t = 1 then (some (((Go.bits .and .u64 a0 9223372036854775808) != 0), t, Go.bits .and .u64 a0 4503599627370495, (-1074))) else (if t = 2 then (some (((Go.bits .and .u64 a0 9223372036854775808) != 0), t, Go.bits .or .u64 4503599627370496 (Go.bits .and .u64 a0 4503599627370495), wrap64 ((wrap64 (Go.bits .and .u64 (a0 / 4503599627370496) 2047)) - 1075))) else (if t = 4 then (some (((Go.bits .and .u64 a0 9223372036854775808) != 0), t, Go.bits .and .u64 a0 4503599627370495, 0)) else (some (((Go.bits .and .u64 a0 9223372036854775808) != 0), t, 0, 0))))) = some (r1, r2, r3, r4) := H
 by_cases c1 : t = 1
 ·rw [if_pos c1] at H
  have b1 : (t == 1) = true := beq_iff_eq.mpr c1
  clear c1
  simp only [Option.some.injEq, Prod.mk.injEq] at H
  obtain ⟨rfl, rfl, rfl, rfl⟩ := H
  go_enter Tryd.func29, Tryd.ntmps29
  go_upto_region 11 with (first | ((with_reducible refine gate_dst (N := 2) rfl ?_); refine box_event ?hg (N := 2) ?hd (cs := #[.bool false, .int .i64 0, .int .u64 (0), .int .i64 (0)]) (t := 39) ?hr ?_; (case hd => rfl); (case hg => rfl); (case hr => first | (go_simp; done) | (go_simp; rfl)); intro g1 hg w4 hbox hb; have BK1 := Aside0.mk (hbox); have GE1 := Aside0.mk ((by rw [hg]; exact (below_size (bS HB.out)) : w.heap.size ≤ g1)); replace HB := hB HB hb; clear hb hbox hg) | ((with_reducible refine gate_callee (f := 60) rfl ?_); refine goesL_ (some 8) rfl rfl Tryd.func60 (by kernel_rfl) rfl #[.int .u64 a0] rfl (by (try simp only [List.map_toArray, List.map_cons, List.map_nil]); first | done | rfl) ?_; (with_reducible refine (ieee_Class.calls a0 t _ A2.out).mono ?_); rintro e w' ⟨rfl, ⟨nd, rfl⟩⟩; refine ⟨_, rfl, ?_⟩) | ((with_reducible refine gate_dst (N := 3) rfl ?_); refine box_event ?hg (N := 3) ?hd (cs := #[.bool false, .int .i64 0, .int .u64 (0), .int .i64 (0)]) (t := 39) ?hr ?_; (case hd => rfl); (case hg => rfl); (case hr => first | (go_simp; done) | (go_simp; rfl)); intro g2 hg w5 hbox hb; have BK2 := Aside0.mk (hbox); have GE2 := Aside0.mk ((by rw [hg]; exact (below_size (bG1 HB.out GE1.out)) : w.heap.size ≤ g2)); replace HB := Aside0.mk (below_step (bG1 HB.out GE1.out) hb); have NB := Aside0.mk ((by rw [hg]; exact Nat.ne_of_lt (blk_lt (g := g1) (o := .cells #[.bool false, .int .i64 0, .int .u64 (0), .int .i64 (0)] 39 (0, 0)) (by exact bkS BK1.out)) : g1 ≠ g2)); replace BK1 := bkB BK1 hb; clear hb hbox hg; have hc0 : w5.cell? ⟨g2, 0, none⟩ = some (.bool false) := (blk_cell BK2.out 0).trans rfl; have hc1 : w5.cell? ⟨g2, 1, none⟩ = some (.int .i64 0) := (blk_cell BK2.out 1).trans rfl; have hc2 : w5.cell? ⟨g2, 2, none⟩ = some (.int .u64 0) := (blk_cell BK2.out 2).trans rfl; have hc3 : w5.cell? ⟨g2, 3, none⟩ = some (.int .i64 0) := (blk_cell BK2.out 3).trans rfl; have hf0 := blk_frozen BK2.out 0; have hf1 := blk_frozen BK2.out 1; have hf2 := blk_frozen BK2.out 2; have hf3 := blk_frozen BK2.out 3))
  refine ieee_Decode.gen (fun W' => W'.heap[g2]? = some (.cells #[.bool ((Go.bits .and .u64 a0 9223372036854775808) != 0), .int .i64 t, .int .u64 (Go.bits .and .u64 a0 4503599627370495), .int .i64 ((-1074))] 39 (0, 0)) ∧ W'.heap[g1]? = some (.cells #[.bool false, .int .i64 0, .int .u64 (0), .int .i64 (0)] 39 (0, 0)) ∧ Below w.heap.size w W') ⟨?_, ?_, ?_⟩ (fun W6 h6 => ?_)
  ·refine blkP (cs := #[.bool ((Go.bits .and .u64 a0 9223372036854775808) != 0), .int .i64 t, .int .u64 (Go.bits .and .u64 a0 4503599627370495), .int .i64 (0)]) ?_ 3 _ rfl; refine blkP (cs := #[.bool ((Go.bits .and .u64 a0 9223372036854775808) != 0), .int .i64 t, .int .u64 (0), .int .i64 (0)]) ?_ 2 _ rfl; refine blkP (cs := #[.bool ((Go.bits .and .u64 a0 9223372036854775808) != 0), .int .i64 t, .int .u64 (0), .int .i64 (0)]) ?_ 3 _ rfl; refine blkP (cs := #[.bool ((Go.bits .and .u64 a0 9223372036854775808) != 0), .int .i64 t, .int .u64 (0), .int .i64 (0)]) ?_ 2 _ rfl; refine blkP (cs := #[.bool ((Go.bits .and .u64 a0 9223372036854775808) != 0), .int .i64 0, .int .u64 (0), .int .i64 (0)]) ?_ 1 _ rfl; refine blkP (cs := #[.bool false, .int .i64 0, .int .u64 (0), .int .i64 (0)]) ?_ 0 _ rfl; exact bkS BK2.out
  ·refine blkF ?_ NB.out _; refine blkF ?_ NB.out _; refine blkF ?_ NB.out _; refine blkF ?_ NB.out _; refine blkF ?_ NB.out _; refine blkF ?_ NB.out _; exact bkS BK1.out
  ·repeat (first | (with_reducible first | exact HB.out | apply below_alloc | apply pw_below_drewN | apply below_drew1 | refine below_set ?_ GE1.out | refine below_set ?_ GE2.out) | exact HB.out)
  clear hc0 hc1 hc2 hc3 hf0 hf1 hf2 hf3 HB BK1 BK2
  obtain ⟨k2, k1, k3⟩ := h6
  have hd0 : W6.cell? ⟨g2, 0, none⟩ = some (.bool ((Go.bits .and .u64 a0 9223372036854775808) != 0)) := (blk_cell k2 0).trans rfl
  have hd1 : W6.cell? ⟨g2, 1, none⟩ = some (.int .i64 t) := (blk_cell k2 1).trans rfl
  have hd2 : W6.cell? ⟨g2, 2, none⟩ = some (.int .u64 (Go.bits .and .u64 a0 4503599627370495)) := (blk_cell k2 2).trans rfl
  have hd3 : W6.cell? ⟨g2, 3, none⟩ = some (.int .i64 ((-1074))) := (blk_cell k2 3).trans rfl
  have he0 : W6.cell? ⟨g1, 0, none⟩ = some (.bool false) := (blk_cell k1 0).trans rfl
  have hf0 := blk_frozen k1 0
  have he1 : W6.cell? ⟨g1, 1, none⟩ = some (.int .i64 0) := (blk_cell k1 1).trans rfl
  have hf1 := blk_frozen k1 1
  have he2 : W6.cell? ⟨g1, 2, none⟩ = some (.int .u64 0) := (blk_cell k1 2).trans rfl
  have hf2 := blk_frozen k1 2
  have he3 : W6.cell? ⟨g1, 3, none⟩ = some (.int .i64 0) := (blk_cell k1 3).trans rfl
  have hf3 := blk_frozen k1 3
  have K1 := Aside0.mk k1
  have K3 := Aside0.mk k3
  clear k1 k2 k3
  go_wp2
  refine bodyPost_ret (results_cell_row rfl _ _ g1 39 #[.bool ((Go.bits .and .u64 a0 9223372036854775808) != 0), .int .i64 t, .int .u64 (Go.bits .and .u64 a0 4503599627370495), .int .i64 ((-1074))] (0, 0) _ rfl (by refine blkP (cs := #[.bool ((Go.bits .and .u64 a0 9223372036854775808) != 0), .int .i64 t, .int .u64 (Go.bits .and .u64 a0 4503599627370495), .int .i64 (0)]) ?_ 3 _ rfl; refine blkP (cs := #[.bool ((Go.bits .and .u64 a0 9223372036854775808) != 0), .int .i64 t, .int .u64 (0), .int .i64 (0)]) ?_ 2 _ rfl; refine blkP (cs := #[.bool ((Go.bits .and .u64 a0 9223372036854775808) != 0), .int .i64 0, .int .u64 (0), .int .i64 (0)]) ?_ 1 _ rfl; refine blkP (cs := #[.bool false, .int .i64 0, .int .u64 (0), .int .i64 (0)]) ?_ 0 _ rfl; exact bkS K1.out) Tryd.underlying39 rfl (by kernel_rfl)) rfl ?_
  exact ⟨rfl, by repeat (first | (with_reducible first | exact K3.out | apply below_alloc | apply pw_below_drewN | apply below_drew1 | refine below_set ?_ GE1.out) | exact K3.out)⟩
 ·rw [if_neg c1] at H
  have b1 : (t == 1) = false := beq_eq_false_iff_ne.mpr c1
  clear c1
  by_cases c2 : t = 2
  ·rw [if_pos c2] at H
   have b2 : (t == 2) = true := beq_iff_eq.mpr c2
   clear c2
   simp only [Option.some.injEq, Prod.mk.injEq] at H
   obtain ⟨rfl, rfl, rfl, rfl⟩ := H
   go_enter Tryd.func29, Tryd.ntmps29
   go_upto_region 11 with (first | ((with_reducible refine gate_dst (N := 2) rfl ?_); refine box_event ?hg (N := 2) ?hd (cs := #[.bool false, .int .i64 0, .int .u64 (0), .int .i64 (0)]) (t := 39) ?hr ?_; (case hd => rfl); (case hg => rfl); (case hr => first | (go_simp; done) | (go_simp; rfl)); intro g1 hg w4 hbox hb; have BK1 := Aside0.mk (hbox); have GE1 := Aside0.mk ((by rw [hg]; exact (below_size (bS HB.out)) : w.heap.size ≤ g1)); replace HB := hB HB hb; clear hb hbox hg) | ((with_reducible refine gate_callee (f := 60) rfl ?_); refine goesL_ (some 8) rfl rfl Tryd.func60 (by kernel_rfl) rfl #[.int .u64 a0] rfl (by (try simp only [List.map_toArray, List.map_cons, List.map_nil]); first | done | rfl) ?_; (with_reducible refine (ieee_Class.calls a0 t _ A2.out).mono ?_); rintro e w' ⟨rfl, ⟨nd, rfl⟩⟩; refine ⟨_, rfl, ?_⟩) | ((with_reducible refine gate_dst (N := 3) rfl ?_); refine box_event ?hg (N := 3) ?hd (cs := #[.bool false, .int .i64 0, .int .u64 (0), .int .i64 (0)]) (t := 39) ?hr ?_; (case hd => rfl); (case hg => rfl); (case hr => first | (go_simp; done) | (go_simp; rfl)); intro g2 hg w5 hbox hb; have BK2 := Aside0.mk (hbox); have GE2 := Aside0.mk ((by rw [hg]; exact (below_size (bG1 HB.out GE1.out)) : w.heap.size ≤ g2)); replace HB := Aside0.mk (below_step (bG1 HB.out GE1.out) hb); have NB := Aside0.mk ((by rw [hg]; exact Nat.ne_of_lt (blk_lt (g := g1) (o := .cells #[.bool false, .int .i64 0, .int .u64 (0), .int .i64 (0)] 39 (0, 0)) (by exact bkS BK1.out)) : g1 ≠ g2)); replace BK1 := bkB BK1 hb; clear hb hbox hg; have hc0 : w5.cell? ⟨g2, 0, none⟩ = some (.bool false) := (blk_cell BK2.out 0).trans rfl; have hc1 : w5.cell? ⟨g2, 1, none⟩ = some (.int .i64 0) := (blk_cell BK2.out 1).trans rfl; have hc2 : w5.cell? ⟨g2, 2, none⟩ = some (.int .u64 0) := (blk_cell BK2.out 2).trans rfl; have hc3 : w5.cell? ⟨g2, 3, none⟩ = some (.int .i64 0) := (blk_cell BK2.out 3).trans rfl; have hf0 := blk_frozen BK2.out 0; have hf1 := blk_frozen BK2.out 1; have hf2 := blk_frozen BK2.out 2; have hf3 := blk_frozen BK2.out 3))
   refine ieee_Decode.gen (fun W' => W'.heap[g2]? = some (.cells #[.bool ((Go.bits .and .u64 a0 9223372036854775808) != 0), .int .i64 t, .int .u64 (Go.bits .or .u64 4503599627370496 (Go.bits .and .u64 a0 4503599627370495)), .int .i64 (wrap64 ((wrap64 (Go.bits .and .u64 (a0 / 4503599627370496) 2047)) - 1075))] 39 (0, 0)) ∧ W'.heap[g1]? = some (.cells #[.bool false, .int .i64 0, .int .u64 (0), .int .i64 (0)] 39 (0, 0)) ∧ Below w.heap.size w W') ⟨?_, ?_, ?_⟩ (fun W6 h6 => ?_)
   ·refine blkP (cs := #[.bool ((Go.bits .and .u64 a0 9223372036854775808) != 0), .int .i64 t, .int .u64 (Go.bits .or .u64 4503599627370496 (Go.bits .and .u64 a0 4503599627370495)), .int .i64 (0)]) ?_ 3 _ rfl; refine blkP (cs := #[.bool ((Go.bits .and .u64 a0 9223372036854775808) != 0), .int .i64 t, .int .u64 (0), .int .i64 (0)]) ?_ 2 _ rfl; refine blkP (cs := #[.bool ((Go.bits .and .u64 a0 9223372036854775808) != 0), .int .i64 t, .int .u64 (0), .int .i64 (0)]) ?_ 3 _ rfl; refine blkP (cs := #[.bool ((Go.bits .and .u64 a0 9223372036854775808) != 0), .int .i64 t, .int .u64 (0), .int .i64 (0)]) ?_ 2 _ rfl; refine blkP (cs := #[.bool ((Go.bits .and .u64 a0 9223372036854775808) != 0), .int .i64 0, .int .u64 (0), .int .i64 (0)]) ?_ 1 _ rfl; refine blkP (cs := #[.bool false, .int .i64 0, .int .u64 (0), .int .i64 (0)]) ?_ 0 _ rfl; exact bkS BK2.out
   ·refine blkF ?_ NB.out _; refine blkF ?_ NB.out _; refine blkF ?_ NB.out _; refine blkF ?_ NB.out _; refine blkF ?_ NB.out _; refine blkF ?_ NB.out _; exact bkS BK1.out
   ·repeat (first | (with_reducible first | exact HB.out | apply below_alloc | apply pw_below_drewN | apply below_drew1 | refine below_set ?_ GE1.out | refine below_set ?_ GE2.out) | exact HB.out)
   clear hc0 hc1 hc2 hc3 hf0 hf1 hf2 hf3 HB BK1 BK2
   obtain ⟨k2, k1, k3⟩ := h6
   have hd0 : W6.cell? ⟨g2, 0, none⟩ = some (.bool ((Go.bits .and .u64 a0 9223372036854775808) != 0)) := (blk_cell k2 0).trans rfl
   have hd1 : W6.cell? ⟨g2, 1, none⟩ = some (.int .i64 t) := (blk_cell k2 1).trans rfl
   have hd2 : W6.cell? ⟨g2, 2, none⟩ = some (.int .u64 (Go.bits .or .u64 4503599627370496 (Go.bits .and .u64 a0 4503599627370495))) := (blk_cell k2 2).trans rfl
   have hd3 : W6.cell? ⟨g2, 3, none⟩ = some (.int .i64 (wrap64 ((wrap64 (Go.bits .and .u64 (a0 / 4503599627370496) 2047)) - 1075))) := (blk_cell k2 3).trans rfl
   have he0 : W6.cell? ⟨g1, 0, none⟩ = some (.bool false) := (blk_cell k1 0).trans rfl
   have hf0 := blk_frozen k1 0
   have he1 : W6.cell? ⟨g1, 1, none⟩ = some (.int .i64 0) := (blk_cell k1 1).trans rfl
   have hf1 := blk_frozen k1 1
   have he2 : W6.cell? ⟨g1, 2, none⟩ = some (.int .u64 0) := (blk_cell k1 2).trans rfl
   have hf2 := blk_frozen k1 2
   have he3 : W6.cell? ⟨g1, 3, none⟩ = some (.int .i64 0) := (blk_cell k1 3).trans rfl
   have hf3 := blk_frozen k1 3
   have K1 := Aside0.mk k1
   have K3 := Aside0.mk k3
   clear k1 k2 k3
   go_wp2
   refine bodyPost_ret (results_cell_row rfl _ _ g1 39 #[.bool ((Go.bits .and .u64 a0 9223372036854775808) != 0), .int .i64 t, .int .u64 (Go.bits .or .u64 4503599627370496 (Go.bits .and .u64 a0 4503599627370495)), .int .i64 (wrap64 ((wrap64 (Go.bits .and .u64 (a0 / 4503599627370496) 2047)) - 1075))] (0, 0) _ rfl (by refine blkP (cs := #[.bool ((Go.bits .and .u64 a0 9223372036854775808) != 0), .int .i64 t, .int .u64 (Go.bits .or .u64 4503599627370496 (Go.bits .and .u64 a0 4503599627370495)), .int .i64 (0)]) ?_ 3 _ rfl; refine blkP (cs := #[.bool ((Go.bits .and .u64 a0 9223372036854775808) != 0), .int .i64 t, .int .u64 (0), .int .i64 (0)]) ?_ 2 _ rfl; refine blkP (cs := #[.bool ((Go.bits .and .u64 a0 9223372036854775808) != 0), .int .i64 0, .int .u64 (0), .int .i64 (0)]) ?_ 1 _ rfl; refine blkP (cs := #[.bool false, .int .i64 0, .int .u64 (0), .int .i64 (0)]) ?_ 0 _ rfl; exact bkS K1.out) Tryd.underlying39 rfl (by kernel_rfl)) rfl ?_
   exact ⟨rfl, by repeat (first | (with_reducible first | exact K3.out | apply below_alloc | apply pw_below_drewN | apply below_drew1 | refine below_set ?_ GE1.out) | exact K3.out)⟩
  ·rw [if_neg c2] at H
   have b2 : (t == 2) = false := beq_eq_false_iff_ne.mpr c2
   clear c2
   by_cases c4 : t = 4
   ·rw [if_pos c4] at H
    have b4 : (t == 4) = true := beq_iff_eq.mpr c4
    clear c4
    simp only [Option.some.injEq, Prod.mk.injEq] at H
    obtain ⟨rfl, rfl, rfl, rfl⟩ := H
    go_enter Tryd.func29, Tryd.ntmps29
    go_upto_region 11 with (first | ((with_reducible refine gate_dst (N := 2) rfl ?_); refine box_event ?hg (N := 2) ?hd (cs := #[.bool false, .int .i64 0, .int .u64 (0), .int .i64 (0)]) (t := 39) ?hr ?_; (case hd => rfl); (case hg => rfl); (case hr => first | (go_simp; done) | (go_simp; rfl)); intro g1 hg w4 hbox hb; have BK1 := Aside0.mk (hbox); have GE1 := Aside0.mk ((by rw [hg]; exact (below_size (bS HB.out)) : w.heap.size ≤ g1)); replace HB := hB HB hb; clear hb hbox hg) | ((with_reducible refine gate_callee (f := 60) rfl ?_); refine goesL_ (some 8) rfl rfl Tryd.func60 (by kernel_rfl) rfl #[.int .u64 a0] rfl (by (try simp only [List.map_toArray, List.map_cons, List.map_nil]); first | done | rfl) ?_; (with_reducible refine (ieee_Class.calls a0 t _ A2.out).mono ?_); rintro e w' ⟨rfl, ⟨nd, rfl⟩⟩; refine ⟨_, rfl, ?_⟩) | ((with_reducible refine gate_dst (N := 3) rfl ?_); refine box_event ?hg (N := 3) ?hd (cs := #[.bool false, .int .i64 0, .int .u64 (0), .int .i64 (0)]) (t := 39) ?hr ?_; (case hd => rfl); (case hg => rfl); (case hr => first | (go_simp; done) | (go_simp; rfl)); intro g2 hg w5 hbox hb; have BK2 := Aside0.mk (hbox); have GE2 := Aside0.mk ((by rw [hg]; exact (below_size (bG1 HB.out GE1.out)) : w.heap.size ≤ g2)); replace HB := Aside0.mk (below_step (bG1 HB.out GE1.out) hb); have NB := Aside0.mk ((by rw [hg]; exact Nat.ne_of_lt (blk_lt (g := g1) (o := .cells #[.bool false, .int .i64 0, .int .u64 (0), .int .i64 (0)] 39 (0, 0)) (by exact bkS BK1.out)) : g1 ≠ g2)); replace BK1 := bkB BK1 hb; clear hb hbox hg; have hc0 : w5.cell? ⟨g2, 0, none⟩ = some (.bool false) := (blk_cell BK2.out 0).trans rfl; have hc1 : w5.cell? ⟨g2, 1, none⟩ = some (.int .i64 0) := (blk_cell BK2.out 1).trans rfl; have hc2 : w5.cell? ⟨g2, 2, none⟩ = some (.int .u64 0) := (blk_cell BK2.out 2).trans rfl; have hc3 : w5.cell? ⟨g2, 3, none⟩ = some (.int .i64 0) := (blk_cell BK2.out 3).trans rfl; have hf0 := blk_frozen BK2.out 0; have hf1 := blk_frozen BK2.out 1; have hf2 := blk_frozen BK2.out 2; have hf3 := blk_frozen BK2.out 3))
    refine ieee_Decode.gen (fun W' => W'.heap[g2]? = some (.cells #[.bool ((Go.bits .and .u64 a0 9223372036854775808) != 0), .int .i64 t, .int .u64 (Go.bits .and .u64 a0 4503599627370495), .int .i64 (0)] 39 (0, 0)) ∧ W'.heap[g1]? = some (.cells #[.bool false, .int .i64 0, .int .u64 (0), .int .i64 (0)] 39 (0, 0)) ∧ Below w.heap.size w W') ⟨?_, ?_, ?_⟩ (fun W6 h6 => ?_)
    ·refine blkP (cs := #[.bool ((Go.bits .and .u64 a0 9223372036854775808) != 0), .int .i64 t, .int .u64 (0), .int .i64 (0)]) ?_ 2 _ rfl; refine blkP (cs := #[.bool ((Go.bits .and .u64 a0 9223372036854775808) != 0), .int .i64 t, .int .u64 (0), .int .i64 (0)]) ?_ 3 _ rfl; refine blkP (cs := #[.bool ((Go.bits .and .u64 a0 9223372036854775808) != 0), .int .i64 t, .int .u64 (0), .int .i64 (0)]) ?_ 2 _ rfl; refine blkP (cs := #[.bool ((Go.bits .and .u64 a0 9223372036854775808) != 0), .int .i64 0, .int .u64 (0), .int .i64 (0)]) ?_ 1 _ rfl; refine blkP (cs := #[.bool false, .int .i64 0, .int .u64 (0), .int .i64 (0)]) ?_ 0 _ rfl; exact bkS BK2.out
    ·refine blkF ?_ NB.out _; refine blkF ?_ NB.out _; refine blkF ?_ NB.out _; refine blkF ?_ NB.out _; refine blkF ?_ NB.out _; exact bkS BK1.out
    ·repeat (first | (with_reducible first | exact HB.out | apply below_alloc | apply pw_below_drewN | apply below_drew1 | refine below_set ?_ GE1.out | refine below_set ?_ GE2.out) | exact HB.out)
    clear hc0 hc1 hc2 hc3 hf0 hf1 hf2 hf3 HB BK1 BK2
    obtain ⟨k2, k1, k3⟩ := h6
    have hd0 : W6.cell? ⟨g2, 0, none⟩ = some (.bool ((Go.bits .and .u64 a0 9223372036854775808) != 0)) := (blk_cell k2 0).trans rfl
    have hd1 : W6.cell? ⟨g2, 1, none⟩ = some (.int .i64 t) := (blk_cell k2 1).trans rfl
    have hd2 : W6.cell? ⟨g2, 2, none⟩ = some (.int .u64 (Go.bits .and .u64 a0 4503599627370495)) := (blk_cell k2 2).trans rfl
    have hd3 : W6.cell? ⟨g2, 3, none⟩ = some (.int .i64 (0)) := (blk_cell k2 3).trans rfl
    have he0 : W6.cell? ⟨g1, 0, none⟩ = some (.bool false) := (blk_cell k1 0).trans rfl
    have hf0 := blk_frozen k1 0
    have he1 : W6.cell? ⟨g1, 1, none⟩ = some (.int .i64 0) := (blk_cell k1 1).trans rfl
    have hf1 := blk_frozen k1 1
    have he2 : W6.cell? ⟨g1, 2, none⟩ = some (.int .u64 0) := (blk_cell k1 2).trans rfl
    have hf2 := blk_frozen k1 2
    have he3 : W6.cell? ⟨g1, 3, none⟩ = some (.int .i64 0) := (blk_cell k1 3).trans rfl
    have hf3 := blk_frozen k1 3
    have K1 := Aside0.mk k1
    have K3 := Aside0.mk k3
    clear k1 k2 k3
    go_wp2
    refine bodyPost_ret (results_cell_row rfl _ _ g1 39 #[.bool ((Go.bits .and .u64 a0 9223372036854775808) != 0), .int .i64 t, .int .u64 (Go.bits .and .u64 a0 4503599627370495), .int .i64 (0)] (0, 0) _ rfl (by refine blkP (cs := #[.bool ((Go.bits .and .u64 a0 9223372036854775808) != 0), .int .i64 t, .int .u64 (Go.bits .and .u64 a0 4503599627370495), .int .i64 (0)]) ?_ 3 _ rfl; refine blkP (cs := #[.bool ((Go.bits .and .u64 a0 9223372036854775808) != 0), .int .i64 t, .int .u64 (0), .int .i64 (0)]) ?_ 2 _ rfl; refine blkP (cs := #[.bool ((Go.bits .and .u64 a0 9223372036854775808) != 0), .int .i64 0, .int .u64 (0), .int .i64 (0)]) ?_ 1 _ rfl; refine blkP (cs := #[.bool false, .int .i64 0, .int .u64 (0), .int .i64 (0)]) ?_ 0 _ rfl; exact bkS K1.out) Tryd.underlying39 rfl (by kernel_rfl)) rfl ?_
    exact ⟨rfl, by repeat (first | (with_reducible first | exact K3.out | apply below_alloc | apply pw_below_drewN | apply below_drew1 | refine below_set ?_ GE1.out) | exact K3.out)⟩
   ·rw [if_neg c4] at H
    have b4 : (t == 4) = false := beq_eq_false_iff_ne.mpr c4
    clear c4
    simp only [Option.some.injEq, Prod.mk.injEq] at H
    obtain ⟨rfl, rfl, rfl, rfl⟩ := H
    go_enter Tryd.func29, Tryd.ntmps29
    go_upto_region 11 with (first | ((with_reducible refine gate_dst (N := 2) rfl ?_); refine box_event ?hg (N := 2) ?hd (cs := #[.bool false, .int .i64 0, .int .u64 (0), .int .i64 (0)]) (t := 39) ?hr ?_; (case hd => rfl); (case hg => rfl); (case hr => first | (go_simp; done) | (go_simp; rfl)); intro g1 hg w4 hbox hb; have BK1 := Aside0.mk (hbox); have GE1 := Aside0.mk ((by rw [hg]; exact (below_size (bS HB.out)) : w.heap.size ≤ g1)); replace HB := hB HB hb; clear hb hbox hg) | ((with_reducible refine gate_callee (f := 60) rfl ?_); refine goesL_ (some 8) rfl rfl Tryd.func60 (by kernel_rfl) rfl #[.int .u64 a0] rfl (by (try simp only [List.map_toArray, List.map_cons, List.map_nil]); first | done | rfl) ?_; (with_reducible refine (ieee_Class.calls a0 t _ A2.out).mono ?_); rintro e w' ⟨rfl, ⟨nd, rfl⟩⟩; refine ⟨_, rfl, ?_⟩) | ((with_reducible refine gate_dst (N := 3) rfl ?_); refine box_event ?hg (N := 3) ?hd (cs := #[.bool false, .int .i64 0, .int .u64 (0), .int .i64 (0)]) (t := 39) ?hr ?_; (case hd => rfl); (case hg => rfl); (case hr => first | (go_simp; done) | (go_simp; rfl)); intro g2 hg w5 hbox hb; have BK2 := Aside0.mk (hbox); have GE2 := Aside0.mk ((by rw [hg]; exact (below_size (bG1 HB.out GE1.out)) : w.heap.size ≤ g2)); replace HB := Aside0.mk (below_step (bG1 HB.out GE1.out) hb); have NB := Aside0.mk ((by rw [hg]; exact Nat.ne_of_lt (blk_lt (g := g1) (o := .cells #[.bool false, .int .i64 0, .int .u64 (0), .int .i64 (0)] 39 (0, 0)) (by exact bkS BK1.out)) : g1 ≠ g2)); replace BK1 := bkB BK1 hb; clear hb hbox hg; have hc0 : w5.cell? ⟨g2, 0, none⟩ = some (.bool false) := (blk_cell BK2.out 0).trans rfl; have hc1 : w5.cell? ⟨g2, 1, none⟩ = some (.int .i64 0) := (blk_cell BK2.out 1).trans rfl; have hc2 : w5.cell? ⟨g2, 2, none⟩ = some (.int .u64 0) := (blk_cell BK2.out 2).trans rfl; have hc3 : w5.cell? ⟨g2, 3, none⟩ = some (.int .i64 0) := (blk_cell BK2.out 3).trans rfl; have hf0 := blk_frozen BK2.out 0; have hf1 := blk_frozen BK2.out 1; have hf2 := blk_frozen BK2.out 2; have hf3 := blk_frozen BK2.out 3))
    refine ieee_Decode.gen (fun W' => W'.heap[g2]? = some (.cells #[.bool ((Go.bits .and .u64 a0 9223372036854775808) != 0), .int .i64 t, .int .u64 (0), .int .i64 (0)] 39 (0, 0)) ∧ W'.heap[g1]? = some (.cells #[.bool false, .int .i64 0, .int .u64 (0), .int .i64 (0)] 39 (0, 0)) ∧ Below w.heap.size w W') ⟨?_, ?_, ?_⟩ (fun W6 h6 => ?_)
    ·refine blkP (cs := #[.bool ((Go.bits .and .u64 a0 9223372036854775808) != 0), .int .i64 t, .int .u64 (0), .int .i64 (0)]) ?_ 3 _ rfl; refine blkP (cs := #[.bool ((Go.bits .and .u64 a0 9223372036854775808) != 0), .int .i64 t, .int .u64 (0), .int .i64 (0)]) ?_ 2 _ rfl; refine blkP (cs := #[.bool ((Go.bits .and .u64 a0 9223372036854775808) != 0), .int .i64 0, .int .u64 (0), .int .i64 (0)]) ?_ 1 _ rfl; refine blkP (cs := #[.bool false, .int .i64 0, .int .u64 (0), .int .i64 (0)]) ?_ 0 _ rfl; exact bkS BK2.out
    ·refine blkF ?_ NB.out _; refine blkF ?_ NB.out _; refine blkF ?_ NB.out _; refine blkF ?_ NB.out _; exact bkS BK1.out
    ·repeat (first | (with_reducible first | exact HB.out | apply below_alloc | apply pw_below_drewN | apply below_drew1 | refine below_set ?_ GE1.out | refine below_set ?_ GE2.out) | exact HB.out)
    clear hc0 hc1 hc2 hc3 hf0 hf1 hf2 hf3 HB BK1 BK2
    obtain ⟨k2, k1, k3⟩ := h6
    have hd0 : W6.cell? ⟨g2, 0, none⟩ = some (.bool ((Go.bits .and .u64 a0 9223372036854775808) != 0)) := (blk_cell k2 0).trans rfl
    have hd1 : W6.cell? ⟨g2, 1, none⟩ = some (.int .i64 t) := (blk_cell k2 1).trans rfl
    have hd2 : W6.cell? ⟨g2, 2, none⟩ = some (.int .u64 (0)) := (blk_cell k2 2).trans rfl
    have hd3 : W6.cell? ⟨g2, 3, none⟩ = some (.int .i64 (0)) := (blk_cell k2 3).trans rfl
    have he0 : W6.cell? ⟨g1, 0, none⟩ = some (.bool false) := (blk_cell k1 0).trans rfl
    have hf0 := blk_frozen k1 0
    have he1 : W6.cell? ⟨g1, 1, none⟩ = some (.int .i64 0) := (blk_cell k1 1).trans rfl
    have hf1 := blk_frozen k1 1
    have he2 : W6.cell? ⟨g1, 2, none⟩ = some (.int .u64 0) := (blk_cell k1 2).trans rfl
    have hf2 := blk_frozen k1 2
    have he3 : W6.cell? ⟨g1, 3, none⟩ = some (.int .i64 0) := (blk_cell k1 3).trans rfl
    have hf3 := blk_frozen k1 3
    have K1 := Aside0.mk k1
    have K3 := Aside0.mk k3
    clear k1 k2 k3
    go_wp2
    refine bodyPost_ret (results_cell_row rfl _ _ g1 39 #[.bool ((Go.bits .and .u64 a0 9223372036854775808) != 0), .int .i64 t, .int .u64 (0), .int .i64 (0)] (0, 0) _ rfl (by refine blkP (cs := #[.bool ((Go.bits .and .u64 a0 9223372036854775808) != 0), .int .i64 t, .int .u64 (0), .int .i64 (0)]) ?_ 3 _ rfl; refine blkP (cs := #[.bool ((Go.bits .and .u64 a0 9223372036854775808) != 0), .int .i64 t, .int .u64 (0), .int .i64 (0)]) ?_ 2 _ rfl; refine blkP (cs := #[.bool ((Go.bits .and .u64 a0 9223372036854775808) != 0), .int .i64 0, .int .u64 (0), .int .i64 (0)]) ?_ 1 _ rfl; refine blkP (cs := #[.bool false, .int .i64 0, .int .u64 (0), .int .i64 (0)]) ?_ 0 _ rfl; exact bkS K1.out) Tryd.underlying39 rfl (by kernel_rfl)) rfl ?_
    exact ⟨rfl, by repeat (first | (with_reducible first | exact K3.out | apply below_alloc | apply pw_below_drewN | apply below_drew1 | refine below_set ?_ GE1.out) | exact K3.out)⟩

/-! ### ieee_Rank: function 62 -/
def ieee_Rank.f (a0 : Int) : Option (Int × Bool) := (ieee_Abs.f a0).bind fun t109 => (if (wrap64 (t109)) > 9218868437227405312 then (some (0, false)) else (if (Go.bits .and .u64 a0 9223372036854775808) = 0 then (some (wrap64 (t109), true)) else (some (wrap64 (-(wrap64 (t109))), true))))
set_option maxHeartbeats 8000000 in
set_option maxRecDepth 100000 in
theorem ieee_Rank.calls (a0 : Int) (r1 : Int) (r2 : Bool) (w : World) (h : ieee_Rank.f a0 = some (r1, r2)) :
  Calls Tryd.prog 62 #[.int .u64 a0] w fun e w' => e = .returned (.tuple #[.int .i64 r1, .bool r2]) ∧ Drawn0 w w' := by
 have H : ((ieee_Abs.f a0).bind fun t109 => (if (wrap64 (t109)) > 9218868437227405312 then (some (0, false)) else (if (Go.bits .and .u64 a0 9223372036854775808) = 0 then (some (wrap64 (t109), true)) else (some (wrap64 (-(wrap64 (t109))), true))))) = some (r1, r2) := h
 clear h
 obtain ⟨t109, A20, H⟩ := Option.bind_eq_some_iff.mp H
 have A2 := Aside0.mk A20
 clear A20
 by_cases c3 : (wrap64 (t109)) > 9218868437227405312
 ·rw [if_pos c3] at H
  have c3b0 : decide (9218868437227405312 < (wrap64 (t109))) = true := decide_eq_true c3
  clear c3
  simp only [Option.some.injEq, Prod.mk.injEq] at H
  obtain ⟨rfl, rfl⟩ := H
  go_enter Tryd.func62, Tryd.ntmps62
  go_wp2_with (first | ((with_reducible refine gate_callee (f := 92) rfl ?_); refine goesL_ (some 6) rfl rfl Tryd.func92 (by kernel_rfl) rfl #[.int .u64 a0] rfl (by (try simp only [List.map_toArray, List.map_cons, List.map_nil]); first | done | rfl) ?_; (with_reducible refine (ieee_Abs.calls a0 t109 _ A2.out).mono ?_); rintro e w' ⟨rfl, ⟨nd, rfl⟩⟩; refine ⟨_, rfl, ?_⟩))
  go_ret2
  exact ⟨by first | rfl | (simp; done) | (simp [*]; done), by repeat (first | exact Drawn0.refl _ | apply Drawn0.step)⟩
 ·rw [if_neg c3] at H
  have c3b0 : decide (9218868437227405312 < (wrap64 (t109))) = false := decide_eq_false c3
  clear c3
  by_cases c4 : (Go.bits .and .u64 a0 9223372036854775808) = 0
  ·rw [if_pos c4] at H
   have c4b0 : ((Go.bits .and .u64 a0 9223372036854775808) == 0) = true := beq_iff_eq.mpr c4
   have c4b1 : ((Go.bits .and .u64 a0 9223372036854775808) != 0) = false := bne_eq_false_iff_eq.mpr c4
   clear c4
   simp only [Option.some.injEq, Prod.mk.injEq] at H
   obtain ⟨rfl, rfl⟩ := H
   go_enter Tryd.func62, Tryd.ntmps62
   go_wp2_with (first | ((with_reducible refine gate_callee (f := 92) rfl ?_); refine goesL_ (some 6) rfl rfl Tryd.func92 (by kernel_rfl) rfl #[.int .u64 a0] rfl (by (try simp only [List.map_toArray, List.map_cons, List.map_nil]); first | done | rfl) ?_; (with_reducible refine (ieee_Abs.calls a0 t109 _ A2.out).mono ?_); rintro e w' ⟨rfl, ⟨nd, rfl⟩⟩; refine ⟨_, rfl, ?_⟩))
   go_ret2
   exact ⟨by first | rfl | (simp; done) | (simp [*]; done), by repeat (first | exact Drawn0.refl _ | apply Drawn0.step)⟩
  ·rw [if_neg c4] at H
   have c4b0 : ((Go.bits .and .u64 a0 9223372036854775808) == 0) = false := beq_eq_false_iff_ne.mpr c4
   have c4b1 : ((Go.bits .and .u64 a0 9223372036854775808) != 0) = true := bne_iff_ne.mpr c4
   simp only [Option.some.injEq, Prod.mk.injEq] at H
   obtain ⟨rfl, rfl⟩ := H
   go_enter Tryd.func62, Tryd.ntmps62
   go_wp2_with (first | ((with_reducible refine gate_callee (f := 92) rfl ?_); refine goesL_ (some 6) rfl rfl Tryd.func92 (by kernel_rfl) rfl #[.int .u64 a0] rfl (by (try simp only [List.map_toArray, List.map_cons, List.map_nil]); first | done | rfl) ?_; (with_reducible refine (ieee_Abs.calls a0 t109 _ A2.out).mono ?_); rintro e w' ⟨rfl, ⟨nd, rfl⟩⟩; refine ⟨_, rfl, ?_⟩))
   go_ret2
   exact ⟨by first | rfl | (simp; done) | (simp [*]; done), by repeat (first | exact Drawn0.refl _ | apply Drawn0.step)⟩

/-! ### ieee_Neg: function 30 -/
def ieee_Neg.f (a0 : Int) : Option (Int) := some (Go.bits .xor .u64 a0 9223372036854775808)
set_option maxHeartbeats 8000000 in
set_option maxRecDepth 100000 in
theorem ieee_Neg.calls (a0 : Int) (r : Int) (w : World) (h : ieee_Neg.f a0 = some r) :
  Calls Tryd.prog 30 #[.int .u64 a0] w fun e w' => e = .returned (.int .u64 r) ∧ Drawn0 w w' := by
 have H : (some (Go.bits .xor .u64 a0 9223372036854775808)) = some r := h
 clear h
 obtain rfl := Option.some.inj H
 go_enter Tryd.func30, Tryd.ntmps30
 go_wp2
 go_ret
 exact ⟨by first | rfl | (simp; done) | (simp [*]; done), by repeat (first | exact Drawn0.refl _ | apply Drawn0.step)⟩

/-! ### ieee_AtRank: function 63 -/
def ieee_AtRank.j0 : Nat → Int → Bool → Option (Int × Bool)
 | 0, _, _ => none
 | k + 1, x0, x4 => if x4 = true then (some (0, false)) else (if x0 < 0 then ((ieee_Neg.f (IntKind.u64.wrap (wrap64 (-x0)))).bind fun t110 => (some (t110, true))) else (some (IntKind.u64.wrap (x0), true)))
def ieee_AtRank.f (k : Nat) (a0 : Int) : Option (Int × Bool) := if a0 > 9218868437227405312 then (ieee_AtRank.j0 k a0 true) else (ieee_AtRank.j0 k a0 (decide (a0 < (-9218868437227405312))))
theorem ieee_AtRank.mono_l : ∀ k, (∀ y0 y1, LeO (ieee_AtRank.j0 k y0 y1) (ieee_AtRank.j0 (k + 1) y0 y1))
 | 0 => fun _ _ r h => by simp [ieee_AtRank.j0] at h
 | k + 1 => by
  have ih0 := ieee_AtRank.mono_l k
  ·intro y0 y1
   unfold ieee_AtRank.j0
   repeat' first
   | (with_reducible exact ih0 _ _)
   | (with_reducible exact LeO.refl _)
   | (with_reducible exact LeO.none _)
   | (with_reducible refine LeO.ite ?_ ?_)
   | (with_reducible refine LeO.bind ?_ (fun _ => ?_))
   | exact ih0 _ _
   | exact LeO.none _
   | refine LeO.ite ?_ ?_
   | refine LeO.bind ?_ (fun _ => ?_)
theorem ieee_AtRank.mono : ∀ a0 k, LeO (ieee_AtRank.f k a0) (ieee_AtRank.f (k + 1) a0) := by
 intro a0 k
 have ih0 := ieee_AtRank.mono_l k
 unfold ieee_AtRank.f
 repeat' first
   | (with_reducible exact ih0 _ _)
   | (with_reducible exact LeO.refl _)
   | (with_reducible exact LeO.none _)
   | (with_reducible refine LeO.ite ?_ ?_)
   | (with_reducible refine LeO.bind ?_ (fun _ => ?_))
   | exact ih0 _ _
   | exact LeO.none _
   | refine LeO.ite ?_ ?_
   | refine LeO.bind ?_ (fun _ => ?_)
set_option maxHeartbeats 8000000 in
set_option maxRecDepth 100000 in
theorem ieee_AtRank.calls (k : Nat) (a0 : Int) (r1 : Int) (r2 : Bool) (w : World) (h : ieee_AtRank.f k a0 = some (r1, r2)) :
  Calls Tryd.prog 63 #[.int .i64 a0] w fun e w' => e = .returned (.tuple #[.int .u64 r1, .bool r2]) ∧ Drawn0 w w' := by
 have H : (if a0 > 9218868437227405312 then (ieee_AtRank.j0 k a0 true) else (ieee_AtRank.j0 k a0 (decide (a0 < (-9218868437227405312))))) = some (r1, r2) := h
 clear h
 have HC2 := Aside0.mk H
 clear H
 go_enter Tryd.func63, Tryd.ntmps63
 go_upto_region 1 with (fail)
 go_cut [4] (fun v4 wc => ∃ (kq : Nat) (x4_1 : Bool), v4 = .bool x4_1 ∧ Aside0 (ieee_AtRank.j0 kq a0 x4_1 = some (r1, r2)) ∧ Aside0 (kq ≤ k) ∧ Drawn0 w wc)
 case first =>
  have H := HC2.out
  clear HC2
  by_cases c3 : a0 > 9218868437227405312
  ·rw [if_pos c3] at H
   have c3b0 : decide (9218868437227405312 < a0) = true := decide_eq_true c3
   clear c3
   (first | rw [c3b0] | (simp only [i64_w, i32_w]; rw [c3b0]) | rw [c3b1] | skip)
   have H' := Aside0.mk H
   clear H
   go_wp2
   go_meet
   case rel => exact ⟨_, (true), (by first | rfl | (simp; done) | (simp [*]; done)), H', ⟨by first | omega | exact Nat.le_refl _⟩, by repeat (first | exact Drawn0.refl _ | apply Drawn0.step)⟩
  ·rw [if_neg c3] at H
   have c3b0 : decide (9218868437227405312 < a0) = false := decide_eq_false c3
   clear c3
   (first | rw [c3b0] | (simp only [i64_w, i32_w]; rw [c3b0]) | rw [c3b1] | skip)
   have H' := Aside0.mk H
   clear H
   go_wp2
   go_meet
   case rel => exact ⟨_, (decide (a0 < (-9218868437227405312))), (by first | rfl | (simp; done) | (simp [*]; done)), H', ⟨by first | omega | exact Nat.le_refl _⟩, by repeat (first | exact Drawn0.refl _ | apply Drawn0.step)⟩
 case rest =>
  clear HC2
  try clear p2
  try clear c3
  try clear c3b0
  try clear c3b1
  obtain ⟨kq, x4_1, rfl, HA, HJ1, ⟨mc1, rfl⟩⟩ := hcut
  cases kq with
  | zero => exact absurd HA.out (by simp [ieee_AtRank.j0])
  | succ kj1 =>
   have H := HA.out
   clear HA
   simp only [ieee_AtRank.j0] at H
   by_cases c4 : x4_1 = true
   ·subst c4
    have H1 : (some (0, false)) = some (r1, r2) := by rw [if_pos rfl] at H; exact H
    clear H
    have H := H1
    clear H1
    simp only [Option.some.injEq, Prod.mk.injEq] at H
    obtain ⟨rfl, rfl⟩ := H
    go_wp2
    go_ret2
    exact ⟨by first | rfl | (simp; done) | (simp [*]; done), by repeat (first | exact Drawn0.refl _ | apply Drawn0.step)⟩
   ·replace c4 := Bool.eq_false_iff.mpr c4
    subst c4
    have H1 : (if a0 < 0 then ((ieee_Neg.f (IntKind.u64.wrap (wrap64 (-a0)))).bind fun t110 => (some (t110, true))) else (some (IntKind.u64.wrap (a0), true))) = some (r1, r2) := by rw [if_neg (show ¬ (false = true) by decide)] at H; exact H
    clear H
    have H := H1
    clear H1
    by_cases c5 : a0 < 0
    ·rw [if_pos c5] at H
     have c5b0 : decide (a0 < 0) = true := decide_eq_true c5
     clear c5
     obtain ⟨t110, A60, H⟩ := Option.bind_eq_some_iff.mp H
     have A6 := Aside0.mk A60
     clear A60
     simp only [Option.some.injEq, Prod.mk.injEq] at H
     obtain ⟨rfl, rfl⟩ := H
     go_wp2_with (first | ((with_reducible refine gate_callee (f := 30) rfl ?_); refine goesL_ (some 17) rfl rfl Tryd.func30 (by kernel_rfl) rfl #[.int .u64 (IntKind.u64.wrap (wrap64 (-a0)))] rfl (by (try simp only [List.map_toArray, List.map_cons, List.map_nil]); first | done | rfl) ?_; (with_reducible refine (ieee_Neg.calls (IntKind.u64.wrap (wrap64 (-a0))) t110 _ A6.out).mono ?_); rintro e w' ⟨rfl, ⟨nd, rfl⟩⟩; refine ⟨_, rfl, ?_⟩))
     go_ret2
     exact ⟨by first | rfl | (simp; done) | (simp [*]; done), by repeat (first | exact Drawn0.refl _ | apply Drawn0.step)⟩
    ·rw [if_neg c5] at H
     have c5b0 : decide (a0 < 0) = false := decide_eq_false c5
     clear c5
     simp only [Option.some.injEq, Prod.mk.injEq] at H
     obtain ⟨rfl, rfl⟩ := H
     go_wp2
     go_ret2
     exact ⟨by first | rfl | (simp; done) | (simp [*]; done), by repeat (first | exact Drawn0.refl _ | apply Drawn0.step)⟩

/-! ### ieee_Up: function 34 -/
def ieee_Up.f (k : Nat) (a0 : Int) : Option (Int) := (ieee_Rank.f a0).bind fun bt111 => (if bt111.2 = true then (if bt111.1 = 9218868437227405312 then (some a0) else (if bt111.1 = (-1) then (some 9223372036854775808) else ((ieee_AtRank.f k (wrap64 (bt111.1 + 1))).bind fun bt113 => (some bt113.1)))) else (some 9221120237041090560))
theorem ieee_Up.mono : ∀ a0 k, LeO (ieee_Up.f k a0) (ieee_Up.f (k + 1) a0) := by
 intro a0 k
 unfold ieee_Up.f
 repeat' first
   | (with_reducible exact ieee_AtRank.mono _ _)
   | (with_reducible exact LeO.refl _)
   | (with_reducible exact LeO.none _)
   | (with_reducible refine LeO.ite ?_ ?_)
   | (with_reducible refine LeO.bind ?_ (fun _ => ?_))
   | exact ieee_AtRank.mono _ _
   | exact LeO.none _
   | refine LeO.ite ?_ ?_
   | refine LeO.bind ?_ (fun _ => ?_)
set_option maxHeartbeats 8000000 in
set_option maxRecDepth 100000 in
theorem ieee_Up.calls (k : Nat) (a0 : Int) (r : Int) (w : World) (h : ieee_Up.f k a0 = some r) :
  Calls Tryd.prog 34 #[.int .u64 a0] w fun e w' => e = .returned (.int .u64 r) ∧ Drawn0 w w' := by
 have H : ((ieee_Rank.f a0).bind fun bt111 => (if bt111.2 = true then (if bt111.1 = 9218868437227405312 then (some a0) else (if bt111.1 = (-1) then (some 9223372036854775808) else ((ieee_AtRank.f k (wrap64 (bt111.1 + 1))).bind fun bt113 => (some bt113.1)))) else (some 9221120237041090560))) = some r := h
 clear h
 replace H := Option.bind_eq_some_iff.mp H
 obtain ⟨⟨t111, t112⟩, A20, H⟩ := H
 replace H : (if t112 = true then (if t111 = 9218868437227405312 then (some a0) else (if t111 = (-1) then (some 9223372036854775808) else ((ieee_AtRank.f k (wrap64 (t111 + 1))).bind fun bt113 => (some bt113.1)))) else (some 9221120237041090560)) = some r := H
 have A2 := Aside0.mk A20
 clear A20
 by_cases c3 : t112 = true
 ·subst c3
  have H1 : (if t111 = 9218868437227405312 then (some a0) else (if t111 = (-1) then (some 9223372036854775808) else ((ieee_AtRank.f k (wrap64 (t111 + 1))).bind fun bt113 => (some bt113.1)))) = some r := by rw [if_pos rfl] at H; exact H
  clear H
  have H := H1
  clear H1
  by_cases c4 : t111 = 9218868437227405312
  ·rw [if_pos c4] at H
   have c4b0 : (t111 == 9218868437227405312) = true := beq_iff_eq.mpr c4
   have c4b1 : (t111 != 9218868437227405312) = false := bne_eq_false_iff_eq.mpr c4
   clear c4
   obtain rfl := Option.some.inj H
   go_enter Tryd.func34, Tryd.ntmps34
   go_wp2_with (first | ((with_reducible refine gate_callee (f := 62) rfl ?_); refine goesL_ (some 9) rfl rfl Tryd.func62 (by kernel_rfl) rfl #[.int .u64 a0] rfl (by (try simp only [List.map_toArray, List.map_cons, List.map_nil]); first | done | rfl) ?_; (with_reducible refine (ieee_Rank.calls a0 t111 true _ A2.out).mono ?_); rintro e w' ⟨rfl, ⟨nd, rfl⟩⟩; refine ⟨_, rfl, ?_⟩))
   go_ret
   exact ⟨by first | rfl | (simp; done) | (simp [*]; done), by repeat (first | exact Drawn0.refl _ | apply Drawn0.step)⟩
  ·rw [if_neg c4] at H
   have c4b0 : (t111 == 9218868437227405312) = false := beq_eq_false_iff_ne.mpr c4
   have c4b1 : (t111 != 9218868437227405312) = true := bne_iff_ne.mpr c4
   by_cases c5 : t111 = (-1)
   ·rw [if_pos c5] at H
    have c5b0 : (t111 == (-1)) = true := beq_iff_eq.mpr c5
    have c5b1 : (t111 != (-1)) = false := bne_eq_false_iff_eq.mpr c5
    clear c5
    obtain rfl := Option.some.inj H
    go_enter Tryd.func34, Tryd.ntmps34
    go_wp2_with (first | ((with_reducible refine gate_callee (f := 62) rfl ?_); refine goesL_ (some 9) rfl rfl Tryd.func62 (by kernel_rfl) rfl #[.int .u64 a0] rfl (by (try simp only [List.map_toArray, List.map_cons, List.map_nil]); first | done | rfl) ?_; (with_reducible refine (ieee_Rank.calls a0 t111 true _ A2.out).mono ?_); rintro e w' ⟨rfl, ⟨nd, rfl⟩⟩; refine ⟨_, rfl, ?_⟩))
    go_ret
    exact ⟨by first | rfl | (simp; done) | (simp [*]; done), by repeat (first | exact Drawn0.refl _ | apply Drawn0.step)⟩
   ·rw [if_neg c5] at H
    have c5b0 : (t111 == (-1)) = false := beq_eq_false_iff_ne.mpr c5
    have c5b1 : (t111 != (-1)) = true := bne_iff_ne.mpr c5
    obtain ⟨⟨t113, t114⟩, A60, H⟩ := Option.bind_eq_some_iff.mp H
    dsimp only at H
    have A6 := Aside0.mk A60
    clear A60
    obtain rfl := Option.some.inj H
    go_enter Tryd.func34, Tryd.ntmps34
    go_wp2_with (first | ((with_reducible refine gate_callee (f := 62) rfl ?_); refine goesL_ (some 9) rfl rfl Tryd.func62 (by kernel_rfl) rfl #[.int .u64 a0] rfl (by (try simp only [List.map_toArray, List.map_cons, List.map_nil]); first | done | rfl) ?_; (with_reducible refine (ieee_Rank.calls a0 t111 true _ A2.out).mono ?_); rintro e w' ⟨rfl, ⟨nd, rfl⟩⟩; refine ⟨_, rfl, ?_⟩) | ((with_reducible refine gate_callee (f := 63) rfl ?_); refine goesL_ (some 25) rfl rfl Tryd.func63 (by kernel_rfl) rfl #[.int .i64 (wrap64 (t111 + 1))] rfl (by (try simp only [List.map_toArray, List.map_cons, List.map_nil]); first | done | rfl) ?_; (with_reducible refine (ieee_AtRank.calls k (wrap64 (t111 + 1)) t113 t114 _ A6.out).mono ?_); rintro e w' ⟨rfl, ⟨nd, rfl⟩⟩; refine ⟨_, rfl, ?_⟩))
    go_ret
    exact ⟨by first | rfl | (simp; done) | (simp [*]; done), by repeat (first | exact Drawn0.refl _ | apply Drawn0.step)⟩
 ·replace c3 := Bool.eq_false_iff.mpr c3
  subst c3
  have H1 : (some 9221120237041090560) = some r := by rw [if_neg (show ¬ (false = true) by decide)] at H; exact H
  clear H
  have H := H1
  clear H1
  obtain rfl := Option.some.inj H
  go_enter Tryd.func34, Tryd.ntmps34
  go_wp2_with (first | ((with_reducible refine gate_callee (f := 62) rfl ?_); refine goesL_ (some 9) rfl rfl Tryd.func62 (by kernel_rfl) rfl #[.int .u64 a0] rfl (by (try simp only [List.map_toArray, List.map_cons, List.map_nil]); first | done | rfl) ?_; (with_reducible refine (ieee_Rank.calls a0 t111 false _ A2.out).mono ?_); rintro e w' ⟨rfl, ⟨nd, rfl⟩⟩; refine ⟨_, rfl, ?_⟩))
  go_ret
  exact ⟨by first | rfl | (simp; done) | (simp [*]; done), by repeat (first | exact Drawn0.refl _ | apply Drawn0.step)⟩

/-! ### nat_big: function 81 -/
def nat_big.f (k : Nat) (l0 : List Int) : Option (Bool) := (nat_size.f k l0).bind fun t115 => (some (decide (t115 > 4096)))
theorem nat_big.mono : ∀ a0 k, LeO (nat_big.f k a0) (nat_big.f (k + 1) a0) := by
 intro a0 k
 unfold nat_big.f
 repeat' first
   | (with_reducible exact nat_size.mono _ _)
   | (with_reducible exact LeO.refl _)
   | (with_reducible exact LeO.none _)
   | (with_reducible refine LeO.ite ?_ ?_)
   | (with_reducible refine LeO.bind ?_ (fun _ => ?_))
   | exact nat_size.mono _ _
   | exact LeO.none _
   | refine LeO.ite ?_ ?_
   | refine LeO.bind ?_ (fun _ => ?_)
set_option maxHeartbeats 8000000 in
set_option maxRecDepth 100000 in
theorem nat_big.calls (k : Nat) (A0 : Option Addr) (c0 : Nat) (l0 : List Int) (r : Bool) (w : World) (hr0 : Kd.C (Kd.int .u64) w A0 l0.length l0) (hc0 : l0.length ≤ c0) (h : nat_big.f k l0 = some r) :
  Calls Tryd.prog 81 #[.slice A0 l0.length c0] w fun e w' => e = .returned (.bool r) ∧ Drawn0 w w' := by
 have HR0 := Aside0.mk hr0
 have HC0 := Aside0.mk hc0
 clear hr0 hc0
 have H : ((nat_size.f k l0).bind fun t115 => (some (decide (t115 > 4096)))) = some r := h
 clear h
 obtain ⟨t115, A20, H⟩ := Option.bind_eq_some_iff.mp H
 have A2 := Aside0.mk A20
 clear A20
 obtain rfl := Option.some.inj H
 go_enter Tryd.func81, Tryd.ntmps81
 go_wp2_with (first | ((with_reducible refine gate_callee (f := 52) rfl ?_); refine goesL_ (some 4) rfl rfl Tryd.func52 (by kernel_rfl) rfl #[.slice A0 l0.length c0] rfl (by (try simp only [List.map_toArray, List.map_cons, List.map_nil]); first | done | rfl) ?_; (with_reducible refine (nat_size.calls k _ _ l0 t115 _ ?side1 ?side2 A2.out).mono ?_); (case side1 => exact cS HR0.out); (case side2 => exact HC0.out); rintro e w' ⟨rfl, ⟨nd, rfl⟩⟩; refine ⟨_, rfl, ?_⟩))
 go_ret
 exact ⟨by first | rfl | (simp; done) | (simp [*]; done), by repeat (first | exact Drawn0.refl _ | apply Drawn0.step)⟩

/-! ### bits_Mul64: function 82 -/
def bits_Mul64.f (a0 : Int) (a1 : Int) : Option (Int × Int) := some (IntKind.u64.wrap ((IntKind.u64.wrap ((IntKind.u64.wrap ((a0 / 4294967296) * (a1 / 4294967296))) + ((IntKind.u64.wrap ((IntKind.u64.wrap ((a0 / 4294967296) * (Go.bits .and .u64 a1 4294967295))) + ((IntKind.u64.wrap ((Go.bits .and .u64 a0 4294967295) * (Go.bits .and .u64 a1 4294967295))) / 4294967296))) / 4294967296))) + ((IntKind.u64.wrap ((Go.bits .and .u64 (IntKind.u64.wrap ((IntKind.u64.wrap ((a0 / 4294967296) * (Go.bits .and .u64 a1 4294967295))) + ((IntKind.u64.wrap ((Go.bits .and .u64 a0 4294967295) * (Go.bits .and .u64 a1 4294967295))) / 4294967296))) 4294967295) + (IntKind.u64.wrap ((Go.bits .and .u64 a0 4294967295) * (a1 / 4294967296))))) / 4294967296)), IntKind.u64.wrap (a0 * a1))
set_option maxHeartbeats 8000000 in
set_option maxRecDepth 100000 in
theorem bits_Mul64.calls (a0 : Int) (a1 : Int) (r1 : Int) (r2 : Int) (w : World) (h : bits_Mul64.f a0 a1 = some (r1, r2)) :
  Calls Tryd.prog 82 #[.int .u64 a0, .int .u64 a1] w fun e w' => e = .returned (.tuple #[.int .u64 r1, .int .u64 r2]) ∧ Drawn0 w w' := by
 have H : (some (IntKind.u64.wrap ((IntKind.u64.wrap ((IntKind.u64.wrap ((a0 / 4294967296) * (a1 / 4294967296))) + ((IntKind.u64.wrap ((IntKind.u64.wrap ((a0 / 4294967296) * (Go.bits .and .u64 a1 4294967295))) + ((IntKind.u64.wrap ((Go.bits .and .u64 a0 4294967295) * (Go.bits .and .u64 a1 4294967295))) / 4294967296))) / 4294967296))) + ((IntKind.u64.wrap ((Go.bits .and .u64 (IntKind.u64.wrap ((IntKind.u64.wrap ((a0 / 4294967296) * (Go.bits .and .u64 a1 4294967295))) + ((IntKind.u64.wrap ((Go.bits .and .u64 a0 4294967295) * (Go.bits .and .u64 a1 4294967295))) / 4294967296))) 4294967295) + (IntKind.u64.wrap ((Go.bits .and .u64 a0 4294967295) * (a1 / 4294967296))))) / 4294967296)), IntKind.u64.wrap (a0 * a1))) = some (r1, r2) := h
 clear h
 simp only [Option.some.injEq, Prod.mk.injEq] at H
 obtain ⟨rfl, rfl⟩ := H
 go_enter Tryd.func82, Tryd.ntmps82
 go_wp2
 go_ret2
 exact ⟨by first | rfl | (simp; done) | (simp [*]; done), by repeat (first | exact Drawn0.refl _ | apply Drawn0.step)⟩

/-! ### bits_Add64: function 83 (its contract by hand) -/
def bits_Add64.f (a0 a1 a2 : Int) : Option (Int × Int) := if 0 ≤ a0 ∧ 0 ≤ a1 ∧ 0 ≤ a2 ∧ a2 ≤ 1 then some ((a0 + a1 + a2) % 18446744073709551616, (a0 + a1 + a2) / 18446744073709551616) else none
theorem bits_Add64.calls (a0 a1 a2 r1 r2 : Int) (w : World) (h : bits_Add64.f a0 a1 a2 = some (r1, r2)) :
  CallsX Tryd.prog 83 #[.int .u64 a0, .int .u64 a1, .int .u64 a2] w fun e w' => e = .returned (.tuple #[.int .u64 r1, .int .u64 r2]) ∧ w = w' := by
 unfold bits_Add64.f at h
 split at h
 ·rename_i hh
  obtain ⟨h0, h1, h2, h3⟩ := hh
  simp only [Option.some.injEq, Prod.mk.injEq] at h
  obtain ⟨rfl, rfl⟩ := h
  exact callsX_add64 Tryd.func83 (by kernel_rfl) (by kernel_rfl) (by kernel_rfl) (by kernel_rfl) a0 a1 a2 h0 h1 h2 h3 w
 ·exact absurd h (by simp)

end Go.Proofs.YtcdnoklokoplaaaDoor.PE
