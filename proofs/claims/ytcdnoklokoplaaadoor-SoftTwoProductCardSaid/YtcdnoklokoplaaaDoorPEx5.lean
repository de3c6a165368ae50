-- printed by a program
import Derived.Test.YtcdnoklokoplaaaDoorPEx0
import Derived.Test.YtcdnoklokoplaaaDoorPEx1
import Derived.Test.YtcdnoklokoplaaaDoorPEx2
import Derived.Test.YtcdnoklokoplaaaDoorPEx4
namespace Go.Proofs.YtcdnoklokoplaaaDoor.PE
open Go.Proofs.YtcdnoklokoplaaaDoorX
open Go.RowKit Go.Proofs.YtcdnoklokoplaaaDoorW.PrintWords Go.Proofs.YtcdnoklokoplaaaDoorW.PrintLast Go.Proofs.YtcdnoklokoplaaaDoorW.PrintMore
attribute [local go_sem] max2_int min2_int max_two min_two max_three min_three max_four min_four   -- for this text's walks alone
set_option linter.unusedVariables false
set_option linter.unusedSimpArgs false

/-! ### nat_Sub: function 56 -/
mutual
def nat_Sub.j0 : Nat → List Int → List Int → Bool → Option (List Int × Int)
 | 0, _, _, _ => none
 | k + 1, x0, x1, x16 => if x16 = true then (some (([] : List Int), 2)) else ((nat_Cmp.f k x0 x1).bind fun t252 => (if t252 < 0 then (some (([] : List Int), 10)) else ((nat_size.f k x0).bind fun t253 => (if 0 ≤ t253 then (if t253 ≤ (x0.length : Int) then ((some (x0.take (t253 : Int).toNat : List Int)).bind fun y254 => ((nat_size.f k x1).bind fun t258 => (if 0 ≤ t258 then (if t258 ≤ (x1.length : Int) then (if 0 ≤ (y254.length : Int) then (if ((y254.length : Int) : Int).toNat ≤ 35184372088832 then (nat_Sub.l0 k (x1.take (t258 : Int).toNat) (List.replicate ((y254.length : Int) : Int).toNat 0) 0 y254 (y254.length : Int) 0) else (none)) else (none)) else (none)) else (none)))) else (none)) else (none)))))
def nat_Sub.l0 : Nat → List Int → List Int → Int → List Int → Int → Int → Option (List Int × Int)
 | 0, _, _, _, _, _, _ => none
 | k + 1, x1, x6, x7, x32, x33, x34 => if x34 < x33 then (if 0 ≤ x34 then (if x34 < (x32.length : Int) then (if x34 < (x1.length : Int) then ((bits_Sub64.f (rd x32 x34) (rd x1 x34) x7).bind fun bt268 => (if x34 < (x6.length : Int) then (nat_Sub.l0 k x1 (x6.set (x34 : Int).toNat bt268.1) bt268.2 x32 x33 (wrap64 (x34 + 1))) else (none))) else ((bits_Sub64.f (rd x32 x34) 0 x7).bind fun bt271 => (if x34 < (x6.length : Int) then (nat_Sub.l0 k x1 (x6.set (x34 : Int).toNat bt271.1) bt271.2 x32 x33 (wrap64 (x34 + 1))) else (none)))) else (none)) else (none)) else ((nat_cut.f k x6).bind fun bt274 => (some (bt274.1, bt274.2)))
end
def nat_Sub.f (k : Nat) (l0 : List Int) (l1 : List Int) : Option (List Int × Int) := (nat_big.f k l0).bind fun t250 => (if t250 = true then (nat_Sub.j0 k l0 l1 true) else ((nat_big.f k l1).bind fun t251 => (nat_Sub.j0 k l0 l1 t251)))
theorem nat_Sub.mono_l : ∀ k, (∀ y0 y1 y2, LeO (nat_Sub.j0 k y0 y1 y2) (nat_Sub.j0 (k + 1) y0 y1 y2)) ∧ (∀ y0 y1 y2 y3 y4 y5, LeO (nat_Sub.l0 k y0 y1 y2 y3 y4 y5) (nat_Sub.l0 (k + 1) y0 y1 y2 y3 y4 y5))
 | 0 => ⟨fun _ _ _ r h => by simp [nat_Sub.j0] at h, fun _ _ _ _ _ _ r h => by simp [nat_Sub.l0] at h⟩
 | k + 1 => by
  obtain ⟨ih0, ih1⟩ := nat_Sub.mono_l k
  refine ⟨?_, ?_⟩
  ·intro y0 y1 y2
   unfold nat_Sub.j0
   repeat' first
   | (with_reducible exact ih0 _ _ _)
   | (with_reducible exact ih1 _ _ _ _ _ _)
   | (with_reducible exact nat_Cmp.mono _ _ _)
   | (with_reducible exact nat_big.mono _ _)
   | (with_reducible exact nat_cut.mono _ _)
   | (with_reducible exact nat_size.mono _ _)
   | (with_reducible exact LeO.refl _)
   | (with_reducible exact LeO.none _)
   | (with_reducible refine LeO.ite ?_ ?_)
   | (with_reducible refine LeO.bind ?_ (fun _ => ?_))
   | exact ih0 _ _ _
   | exact ih1 _ _ _ _ _ _
   | exact nat_Cmp.mono _ _ _
   | exact nat_big.mono _ _
   | exact nat_cut.mono _ _
   | exact nat_size.mono _ _
   | exact LeO.none _
   | refine LeO.ite ?_ ?_
   | refine LeO.bind ?_ (fun _ => ?_)
  ·intro y0 y1 y2 y3 y4 y5
   unfold nat_Sub.l0
   repeat' first
   | (with_reducible exact ih0 _ _ _)
   | (with_reducible exact ih1 _ _ _ _ _ _)
   | (with_reducible exact nat_Cmp.mono _ _ _)
   | (with_reducible exact nat_big.mono _ _)
   | (with_reducible exact nat_cut.mono _ _)
   | (with_reducible exact nat_size.mono _ _)
   | (with_reducible exact LeO.refl _)
   | (with_reducible exact LeO.none _)
   | (with_reducible refine LeO.ite ?_ ?_)
   | (with_reducible refine LeO.bind ?_ (fun _ => ?_))
   | exact ih0 _ _ _
   | exact ih1 _ _ _ _ _ _
   | exact nat_Cmp.mono _ _ _
   | exact nat_big.mono _ _
   | exact nat_cut.mono _ _
   | exact nat_size.mono _ _
   | exact LeO.none _
   | refine LeO.ite ?_ ?_
   | refine LeO.bind ?_ (fun _ => ?_)
theorem nat_Sub.mono : ∀ a0 a1 k, LeO (nat_Sub.f k a0 a1) (nat_Sub.f (k + 1) a0 a1) := by
 intro a0 a1 k
 obtain ⟨ih0, ih1⟩ := nat_Sub.mono_l k
 unfold nat_Sub.f
 repeat' first
   | (with_reducible exact ih0 _ _ _)
   | (with_reducible exact ih1 _ _ _ _ _ _)
   | (with_reducible exact nat_Cmp.mono _ _ _)
   | (with_reducible exact nat_big.mono _ _)
   | (with_reducible exact nat_cut.mono _ _)
   | (with_reducible exact nat_size.mono _ _)
   | (with_reducible exact LeO.refl _)
   | (with_reducible exact LeO.none _)
   | (with_reducible refine LeO.ite ?_ ?_)
   | (with_reducible refine LeO.bind ?_ (fun _ => ?_))
   | exact ih0 _ _ _
   | exact ih1 _ _ _ _ _ _
   | exact nat_Cmp.mono _ _ _
   | exact nat_big.mono _ _
   | exact nat_cut.mono _ _
   | exact nat_size.mono _ _
   | exact LeO.none _
   | refine LeO.ite ?_ ?_
   | refine LeO.bind ?_ (fun _ => ?_)
set_option maxHeartbeats 8000000 in
set_option maxRecDepth 100000 in
theorem nat_Sub.calls (k : Nat) (A0 : Option Addr) (c0 : Nat) (l0 : List Int) (A1 : Option Addr) (c1 : Nat) (l1 : List Int) (r1 : List Int) (r2 : Int) (w : World) (hr0 : Kd.C (Kd.int .u64) w A0 l0.length l0) (hc0 : l0.length ≤ c0) (hr1 : Kd.C (Kd.int .u64) w A1 l1.length l1) (hc1 : l1.length ≤ c1) (h : nat_Sub.f k l0 l1 = some (r1, r2)) :
  Calls Tryd.prog 56 #[.slice A0 l0.length c0, .slice A1 l1.length c1] w fun e w' => ∃ v0_ : Value, e = .returned (.tuple #[v0_, .int .i64 r2]) ∧ Kd.V (Kd.int .u64) 22 w' w.heap.size (fun k_ => (w.heap.size ≤ k_)) v0_ r1 ∧ Below w.heap.size w w' := by
 have HR0 := Aside0.mk hr0
 have HC0 := Aside0.mk hc0
 clear hr0 hc0
 have HR1 := Aside0.mk hr1
 have HC1 := Aside0.mk hc1
 clear hr1 hc1
 have HB := Aside0.mk (Below.refl w.heap.size w)
 have H : ((nat_big.f k l0).bind fun t250 => (if t250 = true then (nat_Sub.j0 k l0 l1 true) else ((nat_big.f k l1).bind fun t251 => (nat_Sub.j0 k l0 l1 t251)))) = some (r1, r2) := h
 clear h
 have HC3 := Aside0.mk H
 clear H
 go_enter Tryd.func56, Tryd.ntmps56
 go_upto_region 1 with (fail)
 repeat (go_quiet (fail); go_upto_region 1 with (fail))
 go_cut [16] (fun v16 wc => ∃ (kq : Nat) (x16_2 : Bool), v16 = .bool x16_2 ∧ Aside0 (nat_Sub.j0 kq l0 l1 x16_2 = some (r1, r2)) ∧ Aside0 (kq ≤ k) ∧ Aside0 (Below w.heap.size w wc))
 case first =>
  have H := HC3.out
  clear HC3
  obtain ⟨t250, A40, H⟩ := Option.bind_eq_some_iff.mp H
  have A4 := Aside0.mk A40
  clear A40
  by_cases c5 : t250 = true
  ·subst c5
   have H1 : (nat_Sub.j0 k l0 l1 true) = some (r1, r2) := by rw [if_pos rfl] at H; exact H
   clear H
   have H := H1
   clear H1
   have H' := Aside0.mk H
   clear H
   go_wp2_with (first | (go_at_call 81; (with_reducible refine (nat_big.calls k _ _ l0 true _ ?side1 ?side2 A4.out).mono ?_); (case side1 => exact cS (Kd.C_below HR0.out HB.out)); (case side2 => exact HC0.out); rintro e w' ⟨rfl, ⟨nd, rfl⟩⟩; (try first | exact ⟨rfl, _, dn2⟩ | exact ⟨rfl, _, dn3⟩)))
   repeat (go_quiet (first | (go_at_call 81; (with_reducible refine (nat_big.calls k _ _ l0 true _ ?side1 ?side2 A4.out).mono ?_); (case side1 => exact cS (Kd.C_below HR0.out HB.out)); (case side2 => exact HC0.out); rintro e w' ⟨rfl, ⟨nd, rfl⟩⟩; (try first | exact ⟨rfl, _, dn2⟩ | exact ⟨rfl, _, dn3⟩))); try go_wp2_with (first | (go_at_call 81; (with_reducible refine (nat_big.calls k _ _ l0 true _ ?side1 ?side2 A4.out).mono ?_); (case side1 => exact cS (Kd.C_below HR0.out HB.out)); (case side2 => exact HC0.out); rintro e w' ⟨rfl, ⟨nd, rfl⟩⟩; (try first | exact ⟨rfl, _, dn2⟩ | exact ⟨rfl, _, dn3⟩))))
   go_meet
   case rel => exact ⟨_, (true), (by first | rfl | (simp; done) | (simp [*]; done)), H', ⟨by first | omega | exact Nat.le_refl _⟩, ⟨bS HB.out⟩⟩
  ·replace c5 := Bool.eq_false_iff.mpr c5
   subst c5
   have H1 : ((nat_big.f k l1).bind fun t251 => (nat_Sub.j0 k l0 l1 t251)) = some (r1, r2) := by rw [if_neg (show ¬ (false = true) by decide)] at H; exact H
   clear H
   have H := H1
   clear H1
   obtain ⟨t251, A60, H⟩ := Option.bind_eq_some_iff.mp H
   have A6 := Aside0.mk A60
   clear A60
   have H' := Aside0.mk H
   clear H
   go_wp2_with (first | (go_at_call 81; (with_reducible refine (nat_big.calls k _ _ l0 false _ ?side1 ?side2 A4.out).mono ?_); (case side1 => exact cS (Kd.C_below HR0.out HB.out)); (case side2 => exact HC0.out); rintro e w' ⟨rfl, ⟨nd, rfl⟩⟩; (try first | exact ⟨rfl, _, dn2⟩ | exact ⟨rfl, _, dn3⟩)) | (go_at_call 81; (with_reducible refine (nat_big.calls k _ _ l1 t251 _ ?side1 ?side2 A6.out).mono ?_); (case side1 => exact (Kd.C_below HR1.out (bS HB.out))); (case side2 => exact HC1.out); rintro e w' ⟨rfl, ⟨nd, rfl⟩⟩; (try first | exact ⟨rfl, _, dn2⟩ | exact ⟨rfl, _, dn3⟩)))
   repeat (go_quiet (first | (go_at_call 81; (with_reducible refine (nat_big.calls k _ _ l0 false _ ?side1 ?side2 A4.out).mono ?_); (case side1 => exact cS (Kd.C_below HR0.out HB.out)); (case side2 => exact HC0.out); rintro e w' ⟨rfl, ⟨nd, rfl⟩⟩; (try first | exact ⟨rfl, _, dn2⟩ | exact ⟨rfl, _, dn3⟩)) | (go_at_call 81; (with_reducible refine (nat_big.calls k _ _ l1 t251 _ ?side1 ?side2 A6.out).mono ?_); (case side1 => exact (Kd.C_below HR1.out (bS HB.out))); (case side2 => exact HC1.out); rintro e w' ⟨rfl, ⟨nd, rfl⟩⟩; (try first | exact ⟨rfl, _, dn2⟩ | exact ⟨rfl, _, dn3⟩))); try go_wp2_with (first | (go_at_call 81; (with_reducible refine (nat_big.calls k _ _ l0 false _ ?side1 ?side2 A4.out).mono ?_); (case side1 => exact cS (Kd.C_below HR0.out HB.out)); (case side2 => exact HC0.out); rintro e w' ⟨rfl, ⟨nd, rfl⟩⟩; (try first | exact ⟨rfl, _, dn2⟩ | exact ⟨rfl, _, dn3⟩)) | (go_at_call 81; (with_reducible refine (nat_big.calls k _ _ l1 t251 _ ?side1 ?side2 A6.out).mono ?_); (case side1 => exact (Kd.C_below HR1.out (bS HB.out))); (case side2 => exact HC1.out); rintro e w' ⟨rfl, ⟨nd, rfl⟩⟩; (try first | exact ⟨rfl, _, dn2⟩ | exact ⟨rfl, _, dn3⟩))))
   go_meet
   case rel => exact ⟨_, (t251), (by first | rfl | (have e_ := Option.some.inj (A4.out.symm.trans A6.out); cases e_; rfl) | (simp; done) | (simp [*]; done)), H', ⟨by first | omega | exact Nat.le_refl _⟩, ⟨bS HB.out⟩⟩
 case rest =>
  clear HC3
  try clear c1
  try clear p2
  try clear c5
  obtain ⟨kq, x16_2, rfl, HA, HJ2, HB⟩ := hcut
  cases kq with
  | zero => exact absurd HA.out (by simp [nat_Sub.j0])
  | succ kj2 =>
   have H := HA.out
   clear HA
   simp only [nat_Sub.j0] at H
   by_cases c7 : x16_2 = true
   ·subst c7
    have H1 : (some (([] : List Int), 2)) = some (r1, r2) := by rw [if_pos rfl] at H; exact H
    clear H
    have H := H1
    clear H1
    simp only [Option.some.injEq, Prod.mk.injEq] at H
    obtain ⟨rfl, rfl⟩ := H
    go_wp2
    repeat (go_quiet (fail); try go_wp2)
    go_ret2
    exact ⟨.slice none 0 0, by first | rfl | (simp [errW_none, errW_some] <;> rfl) | (simp [*, errW_none, errW_some] <;> rfl), Kd.V_nil _ _ _ _ _, bS HB.out⟩
   ·replace c7 := Bool.eq_false_iff.mpr c7
    subst c7
    have H1 : ((nat_Cmp.f kj2 l0 l1).bind fun t252 => (if t252 < 0 then (some (([] : List Int), 10)) else ((nat_size.f kj2 l0).bind fun t253 => (if 0 ≤ t253 then (if t253 ≤ (l0.length : Int) then ((some (l0.take (t253 : Int).toNat : List Int)).bind fun y254 => ((nat_size.f kj2 l1).bind fun t258 => (if 0 ≤ t258 then (if t258 ≤ (l1.length : Int) then (if 0 ≤ (y254.length : Int) then (if ((y254.length : Int) : Int).toNat ≤ 35184372088832 then (nat_Sub.l0 kj2 (l1.take (t258 : Int).toNat) (List.replicate ((y254.length : Int) : Int).toNat 0) 0 y254 (y254.length : Int) 0) else (none)) else (none)) else (none)) else (none)))) else (none)) else (none))))) = some (r1, r2) := by rw [if_neg (show ¬ (false = true) by decide)] at H; exact H
    clear H
    have H := H1
    clear H1
    obtain ⟨t252, A80, H⟩ := Option.bind_eq_some_iff.mp H
    have A8 := Aside0.mk A80
    clear A80
    by_cases c9 : t252 < 0
    ·rw [if_pos c9] at H
     have c9b0 : decide (t252 < 0) = true := decide_eq_true c9
     clear c9
     simp only [Option.some.injEq, Prod.mk.injEq] at H
     obtain ⟨rfl, rfl⟩ := H
     go_wp2_with (first | (go_at_call 18; (with_reducible refine (nat_Cmp.calls kj2 _ _ l0 _ _ l1 t252 _ ?side1 ?side2 ?side3 ?side4 A8.out).mono ?_); (case side1 => exact cS (Kd.C_below HR0.out HB.out)); (case side2 => exact HC0.out); (case side3 => exact cS (Kd.C_below HR1.out HB.out)); (case side4 => exact HC1.out); rintro e w' ⟨rfl, ⟨nd, rfl⟩⟩; (try first | exact ⟨rfl, _, dn2⟩ | exact ⟨rfl, _, dn3⟩)))
     repeat (go_quiet (first | (go_at_call 18; (with_reducible refine (nat_Cmp.calls kj2 _ _ l0 _ _ l1 t252 _ ?side1 ?side2 ?side3 ?side4 A8.out).mono ?_); (case side1 => exact cS (Kd.C_below HR0.out HB.out)); (case side2 => exact HC0.out); (case side3 => exact cS (Kd.C_below HR1.out HB.out)); (case side4 => exact HC1.out); rintro e w' ⟨rfl, ⟨nd, rfl⟩⟩; (try first | exact ⟨rfl, _, dn2⟩ | exact ⟨rfl, _, dn3⟩))); try go_wp2_with (first | (go_at_call 18; (with_reducible refine (nat_Cmp.calls kj2 _ _ l0 _ _ l1 t252 _ ?side1 ?side2 ?side3 ?side4 A8.out).mono ?_); (case side1 => exact cS (Kd.C_below HR0.out HB.out)); (case side2 => exact HC0.out); (case side3 => exact cS (Kd.C_below HR1.out HB.out)); (case side4 => exact HC1.out); rintro e w' ⟨rfl, ⟨nd, rfl⟩⟩; (try first | exact ⟨rfl, _, dn2⟩ | exact ⟨rfl, _, dn3⟩))))
     go_ret2
     exact ⟨.slice none 0 0, by first | rfl | (simp [errW_none, errW_some] <;> rfl) | (simp [*, errW_none, errW_some] <;> rfl), Kd.V_nil _ _ _ _ _, bS HB.out⟩
    ·rw [if_neg c9] at H
     have c9b0 : decide (t252 < 0) = false := decide_eq_false c9
     clear c9
     obtain ⟨t253, A100, H⟩ := Option.bind_eq_some_iff.mp H
     have A10 := Aside0.mk A100
     clear A100
     by_cases c11 : 0 ≤ t253
     ·rw [if_pos c11] at H
      have c11b0 := eq_true c11
      have c11b1 : decide (0 ≤ t253) = true := decide_eq_true c11
      clear c11
      by_cases c12 : t253 ≤ (l0.length : Int)
      ·rw [if_pos c12] at H
       have c12b0 := eq_true c12
       have c12b1 : decide (t253 ≤ (l0.length : Int)) = true := decide_eq_true c12
       clear c12
       obtain ⟨y254, hy254⟩ : ∃ y_ : List Int, y_ = (l0.take (t253 : Int).toNat) := ⟨_, rfl⟩
       replace H : ((nat_size.f kj2 l1).bind fun t258 => (if 0 ≤ t258 then (if t258 ≤ (l1.length : Int) then (if 0 ≤ (y254.length : Int) then (if ((y254.length : Int) : Int).toNat ≤ 35184372088832 then (nat_Sub.l0 kj2 (l1.take (t258 : Int).toNat) (List.replicate ((y254.length : Int) : Int).toNat 0) 0 y254 (y254.length : Int) 0) else (none)) else (none)) else (none)) else (none))) = some (r1, r2) := by first | (rw [hy254]; with_reducible exact H) | (have H2_ := (Option.bind_some _ _).symm.trans H; rw [hy254]; with_reducible exact H2_) | (have H2_ := (Option.bind_some _ _).symm.trans H; with_reducible exact H2_) | with_reducible exact H | (rw [hy254]; exact H) | exact H
       have Ny254 := Aside0.mk hy254
       clear hy254
       obtain ⟨t258, A130, H⟩ := Option.bind_eq_some_iff.mp H
       have A13 := Aside0.mk A130
       clear A130
       by_cases c14 : 0 ≤ t258
       ·rw [if_pos c14] at H
        have c14b0 := eq_true c14
        have c14b1 : decide (0 ≤ t258) = true := decide_eq_true c14
        clear c14
        by_cases c15 : t258 ≤ (l1.length : Int)
        ·rw [if_pos c15] at H
         have c15b0 := eq_true c15
         have c15b1 : decide (t258 ≤ (l1.length : Int)) = true := decide_eq_true c15
         clear c15
         obtain ⟨y259, hy259⟩ : ∃ y_ : List Int, y_ = (l1.take (t258 : Int).toNat) := ⟨_, rfl⟩
         replace H : (if 0 ≤ (y254.length : Int) then (if ((y254.length : Int) : Int).toNat ≤ 35184372088832 then (nat_Sub.l0 kj2 y259 (List.replicate ((y254.length : Int) : Int).toNat 0) 0 y254 (y254.length : Int) 0) else (none)) else (none)) = some (r1, r2) := by first | (rw [hy259]; with_reducible exact H) | (have H2_ := (Option.bind_some _ _).symm.trans H; rw [hy259]; with_reducible exact H2_) | (have H2_ := (Option.bind_some _ _).symm.trans H; with_reducible exact H2_) | with_reducible exact H | (rw [hy259]; exact H) | exact H
         have Ny259 := Aside0.mk hy259
         clear hy259
         by_cases c16 : 0 ≤ (y254.length : Int)
         ·rw [if_pos c16] at H
          have c16b0 := eq_true c16
          have c16b1 : decide (0 ≤ (y254.length : Int)) = true := decide_eq_true c16
          clear c16
          by_cases c17 : ((y254.length : Int) : Int).toNat ≤ 35184372088832
          ·rw [if_pos c17] at H
           have c17b0 := eq_true c17
           have c17b1 : decide (((y254.length : Int) : Int).toNat ≤ 35184372088832) = true := decide_eq_true c17
           clear c17
           obtain ⟨y263, hy263⟩ : ∃ y_ : List Int, y_ = (List.replicate ((y254.length : Int) : Int).toNat 0) := ⟨_, rfl⟩
           replace H : (nat_Sub.l0 kj2 y259 y263 0 y254 (y254.length : Int) 0) = some (r1, r2) := by first | (rw [hy263]; with_reducible exact H) | (have H2_ := (Option.bind_some _ _).symm.trans H; rw [hy263]; with_reducible exact H2_) | (have H2_ := (Option.bind_some _ _).symm.trans H; with_reducible exact H2_) | with_reducible exact H | (rw [hy263]; exact H) | exact H
           have Ny263 := Aside0.mk hy263
           clear hy263
           have H' := Aside0.mk H
           clear H
           go_wp2_with (first | (go_at_call 18; (with_reducible refine (nat_Cmp.calls kj2 _ _ l0 _ _ l1 t252 _ ?side1 ?side2 ?side3 ?side4 A8.out).mono ?_); (case side1 => exact cS (Kd.C_below HR0.out HB.out)); (case side2 => exact HC0.out); (case side3 => exact cS (Kd.C_below HR1.out HB.out)); (case side4 => exact HC1.out); rintro e w' ⟨rfl, ⟨nd, rfl⟩⟩; (try first | exact ⟨rfl, _, dn2⟩ | exact ⟨rfl, _, dn3⟩)) | (go_at_call 52; (with_reducible refine (nat_size.calls kj2 _ _ l0 t253 _ ?side1 ?side2 A10.out).mono ?_); (case side1 => exact (Kd.C_below HR0.out (bS HB.out))); (case side2 => exact HC0.out); rintro e w' ⟨rfl, ⟨nd, rfl⟩⟩; (try first | exact ⟨rfl, _, dn2⟩ | exact ⟨rfl, _, dn3⟩); have q18 : (t253 : Int) ≤ ((l0.length : Int) : Int) := of_decide_eq_true (by first | (with_reducible assumption) | assumption); obtain ⟨i018, hi018, _, hsz18, _⟩ := info_parts info22; have hroom18 : l0.length ≤ c0 := HC0.out; have hC18 : Kd.C (Kd.int .u64) _ A0 l0.length l0 := HR0.out; have hcut18 := cut_to (P := Tryd.prog) 25 22 .i64 Tryd.underlying25 hi018 A0 l0.length c0 t253 (of_decide_eq_true (by first | (with_reducible assumption) | assumption)) q18 hroom18; have hr18 := Kd.C_take (m := (t253 : Int).toNat) hC18 (by omega); have hy18 : y254.length = (t253 : Int).toNat := (by rw [Ny254.out, List.length_take]; omega); rw [← Ny254.out] at hr18; rw [← hy18] at hcut18; have HR257 := Aside0.mk hr18; have HC257 := Aside0.mk (show y254.length ≤ c0 from by omega); clear hr18 hC18 hroom18 hi018 hsz18; have KY18 := Aside0.mk hy18; clear hy18; replace q18 := eq_true q18) | (go_at_call 52; (with_reducible refine (nat_size.calls kj2 _ _ l1 t258 _ ?side1 ?side2 A13.out).mono ?_); (case side1 => exact (Kd.C_below HR1.out (bS HB.out))); (case side2 => exact HC1.out); rintro e w' ⟨rfl, ⟨nd, rfl⟩⟩; (try first | exact ⟨rfl, _, dn2⟩ | exact ⟨rfl, _, dn3⟩); have q19 : (t258 : Int) ≤ ((l1.length : Int) : Int) := of_decide_eq_true (by first | (with_reducible assumption) | assumption); obtain ⟨i019, hi019, _, hsz19, _⟩ := info_parts info22; have hroom19 : l1.length ≤ c1 := HC1.out; have hC19 : Kd.C (Kd.int .u64) _ A1 l1.length l1 := HR1.out; have hcut19 := cut_to (P := Tryd.prog) 25 22 .i64 Tryd.underlying25 hi019 A1 l1.length c1 t258 (of_decide_eq_true (by first | (with_reducible assumption) | assumption)) q19 hroom19; have hr19 := Kd.C_take (m := (t258 : Int).toNat) hC19 (by omega); have hy19 : y259.length = (t258 : Int).toNat := (by rw [Ny259.out, List.length_take]; omega); rw [← Ny259.out] at hr19; rw [← hy19] at hcut19; have HR262 := Aside0.mk hr19; have HC262 := Aside0.mk (show y259.length ≤ c1 from by omega); clear hr19 hC19 hroom19 hi019 hsz19; have KY19 := Aside0.mk hy19; clear hy19; replace q19 := eq_true q19) | ((with_reducible refine gate_dst (N := 31) rfl ?_); refine Kd.R_make (Kd.int .u64) _ 22 rfl (N := 31) rfl 25 _ _ rfl (y254.length : Int) rfl rfl Tryd.underlying25 (.int .u64 0) 8 info22 rfl (by decide) (by omega) 0 (ok := fun _ => True) (okp := fun _ => True) rfl (fun _ hk => hk) trivial (of_decide_eq_true (by first | (with_reducible assumption) | assumption)) (Nat.le_trans (Nat.mul_le_mul_right _ (of_decide_eq_true (by first | (with_reducible assumption) | assumption) : (y254.length : Int).toNat ≤ 35184372088832)) (by omega)) (Below.refl _ _) (Nat.le_refl _) ?_; intro v264 w20 ho21 hb hg_ hnew_; clear hg_ hnew_; (first | rw [← Ny263.out] at ho21 | (simp only [Int.reduceToNat] at ho21; rw [← Ny263.out] at ho21)); have HO265 := Aside0.mk (Kd.R_lower (Kd.R_newM (M := fun k_ => (w.heap.size ≤ k_)) ho21 (below_size (bS HB.out)) (fun k_ h_ => h_)) (below_size (bS HB.out))); replace HB := hB HB hb; clear hb ho21))
           repeat (go_quiet (first | (go_at_call 18; (with_reducible refine (nat_Cmp.calls kj2 _ _ l0 _ _ l1 t252 _ ?side1 ?side2 ?side3 ?side4 A8.out).mono ?_); (case side1 => exact cS (Kd.C_below HR0.out HB.out)); (case side2 => exact HC0.out); (case side3 => exact cS (Kd.C_below HR1.out HB.out)); (case side4 => exact HC1.out); rintro e w' ⟨rfl, ⟨nd, rfl⟩⟩; (try first | exact ⟨rfl, _, dn2⟩ | exact ⟨rfl, _, dn3⟩)) | (go_at_call 52; (with_reducible refine (nat_size.calls kj2 _ _ l0 t253 _ ?side1 ?side2 A10.out).mono ?_); (case side1 => exact (Kd.C_below HR0.out (bS HB.out))); (case side2 => exact HC0.out); rintro e w' ⟨rfl, ⟨nd, rfl⟩⟩; (try first | exact ⟨rfl, _, dn2⟩ | exact ⟨rfl, _, dn3⟩); have q18 : (t253 : Int) ≤ ((l0.length : Int) : Int) := of_decide_eq_true (by first | (with_reducible assumption) | assumption); obtain ⟨i018, hi018, _, hsz18, _⟩ := info_parts info22; have hroom18 : l0.length ≤ c0 := HC0.out; have hC18 : Kd.C (Kd.int .u64) _ A0 l0.length l0 := HR0.out; have hcut18 := cut_to (P := Tryd.prog) 25 22 .i64 Tryd.underlying25 hi018 A0 l0.length c0 t253 (of_decide_eq_true (by first | (with_reducible assumption) | assumption)) q18 hroom18; have hr18 := Kd.C_take (m := (t253 : Int).toNat) hC18 (by omega); have hy18 : y254.length = (t253 : Int).toNat := (by rw [Ny254.out, List.length_take]; omega); rw [← Ny254.out] at hr18; rw [← hy18] at hcut18; have HR257 := Aside0.mk hr18; have HC257 := Aside0.mk (show y254.length ≤ c0 from by omega); clear hr18 hC18 hroom18 hi018 hsz18; have KY18 := Aside0.mk hy18; clear hy18; replace q18 := eq_true q18) | (go_at_call 52; (with_reducible refine (nat_size.calls kj2 _ _ l1 t258 _ ?side1 ?side2 A13.out).mono ?_); (case side1 => exact (Kd.C_below HR1.out (bS HB.out))); (case side2 => exact HC1.out); rintro e w' ⟨rfl, ⟨nd, rfl⟩⟩; (try first | exact ⟨rfl, _, dn2⟩ | exact ⟨rfl, _, dn3⟩); have q19 : (t258 : Int) ≤ ((l1.length : Int) : Int) := of_decide_eq_true (by first | (with_reducible assumption) | assumption); obtain ⟨i019, hi019, _, hsz19, _⟩ := info_parts info22; have hroom19 : l1.length ≤ c1 := HC1.out; have hC19 : Kd.C (Kd.int .u64) _ A1 l1.length l1 := HR1.out; have hcut19 := cut_to (P := Tryd.prog) 25 22 .i64 Tryd.underlying25 hi019 A1 l1.length c1 t258 (of_decide_eq_true (by first | (with_reducible assumption) | assumption)) q19 hroom19; have hr19 := Kd.C_take (m := (t258 : Int).toNat) hC19 (by omega); have hy19 : y259.length = (t258 : Int).toNat := (by rw [Ny259.out, List.length_take]; omega); rw [← Ny259.out] at hr19; rw [← hy19] at hcut19; have HR262 := Aside0.mk hr19; have HC262 := Aside0.mk (show y259.length ≤ c1 from by omega); clear hr19 hC19 hroom19 hi019 hsz19; have KY19 := Aside0.mk hy19; clear hy19; replace q19 := eq_true q19) | ((with_reducible refine gate_dst (N := 31) rfl ?_); refine Kd.R_make (Kd.int .u64) _ 22 rfl (N := 31) rfl 25 _ _ rfl (y254.length : Int) rfl rfl Tryd.underlying25 (.int .u64 0) 8 info22 rfl (by decide) (by omega) 0 (ok := fun _ => True) (okp := fun _ => True) rfl (fun _ hk => hk) trivial (of_decide_eq_true (by first | (with_reducible assumption) | assumption)) (Nat.le_trans (Nat.mul_le_mul_right _ (of_decide_eq_true (by first | (with_reducible assumption) | assumption) : (y254.length : Int).toNat ≤ 35184372088832)) (by omega)) (Below.refl _ _) (Nat.le_refl _) ?_; intro v264 w20 ho21 hb hg_ hnew_; clear hg_ hnew_; (first | rw [← Ny263.out] at ho21 | (simp only [Int.reduceToNat] at ho21; rw [← Ny263.out] at ho21)); have HO265 := Aside0.mk (Kd.R_lower (Kd.R_newM (M := fun k_ => (w.heap.size ≤ k_)) ho21 (below_size (bS HB.out)) (fun k_ h_ => h_)) (below_size (bS HB.out))); replace HB := hB HB hb; clear hb ho21)); try go_wp2_with (first | (go_at_call 18; (with_reducible refine (nat_Cmp.calls kj2 _ _ l0 _ _ l1 t252 _ ?side1 ?side2 ?side3 ?side4 A8.out).mono ?_); (case side1 => exact cS (Kd.C_below HR0.out HB.out)); (case side2 => exact HC0.out); (case side3 => exact cS (Kd.C_below HR1.out HB.out)); (case side4 => exact HC1.out); rintro e w' ⟨rfl, ⟨nd, rfl⟩⟩; (try first | exact ⟨rfl, _, dn2⟩ | exact ⟨rfl, _, dn3⟩)) | (go_at_call 52; (with_reducible refine (nat_size.calls kj2 _ _ l0 t253 _ ?side1 ?side2 A10.out).mono ?_); (case side1 => exact (Kd.C_below HR0.out (bS HB.out))); (case side2 => exact HC0.out); rintro e w' ⟨rfl, ⟨nd, rfl⟩⟩; (try first | exact ⟨rfl, _, dn2⟩ | exact ⟨rfl, _, dn3⟩); have q18 : (t253 : Int) ≤ ((l0.length : Int) : Int) := of_decide_eq_true (by first | (with_reducible assumption) | assumption); obtain ⟨i018, hi018, _, hsz18, _⟩ := info_parts info22; have hroom18 : l0.length ≤ c0 := HC0.out; have hC18 : Kd.C (Kd.int .u64) _ A0 l0.length l0 := HR0.out; have hcut18 := cut_to (P := Tryd.prog) 25 22 .i64 Tryd.underlying25 hi018 A0 l0.length c0 t253 (of_decide_eq_true (by first | (with_reducible assumption) | assumption)) q18 hroom18; have hr18 := Kd.C_take (m := (t253 : Int).toNat) hC18 (by omega); have hy18 : y254.length = (t253 : Int).toNat := (by rw [Ny254.out, List.length_take]; omega); rw [← Ny254.out] at hr18; rw [← hy18] at hcut18; have HR257 := Aside0.mk hr18; have HC257 := Aside0.mk (show y254.length ≤ c0 from by omega); clear hr18 hC18 hroom18 hi018 hsz18; have KY18 := Aside0.mk hy18; clear hy18; replace q18 := eq_true q18) | (go_at_call 52; (with_reducible refine (nat_size.calls kj2 _ _ l1 t258 _ ?side1 ?side2 A13.out).mono ?_); (case side1 => exact (Kd.C_below HR1.out (bS HB.out))); (case side2 => exact HC1.out); rintro e w' ⟨rfl, ⟨nd, rfl⟩⟩; (try first | exact ⟨rfl, _, dn2⟩ | exact ⟨rfl, _, dn3⟩); have q19 : (t258 : Int) ≤ ((l1.length : Int) : Int) := of_decide_eq_true (by first | (with_reducible assumption) | assumption); obtain ⟨i019, hi019, _, hsz19, _⟩ := info_parts info22; have hroom19 : l1.length ≤ c1 := HC1.out; have hC19 : Kd.C (Kd.int .u64) _ A1 l1.length l1 := HR1.out; have hcut19 := cut_to (P := Tryd.prog) 25 22 .i64 Tryd.underlying25 hi019 A1 l1.length c1 t258 (of_decide_eq_true (by first | (with_reducible assumption) | assumption)) q19 hroom19; have hr19 := Kd.C_take (m := (t258 : Int).toNat) hC19 (by omega); have hy19 : y259.length = (t258 : Int).toNat := (by rw [Ny259.out, List.length_take]; omega); rw [← Ny259.out] at hr19; rw [← hy19] at hcut19; have HR262 := Aside0.mk hr19; have HC262 := Aside0.mk (show y259.length ≤ c1 from by omega); clear hr19 hC19 hroom19 hi019 hsz19; have KY19 := Aside0.mk hy19; clear hy19; replace q19 := eq_true q19) | ((with_reducible refine gate_dst (N := 31) rfl ?_); refine Kd.R_make (Kd.int .u64) _ 22 rfl (N := 31) rfl 25 _ _ rfl (y254.length : Int) rfl rfl Tryd.underlying25 (.int .u64 0) 8 info22 rfl (by decide) (by omega) 0 (ok := fun _ => True) (okp := fun _ => True) rfl (fun _ hk => hk) trivial (of_decide_eq_true (by first | (with_reducible assumption) | assumption)) (Nat.le_trans (Nat.mul_le_mul_right _ (of_decide_eq_true (by first | (with_reducible assumption) | assumption) : (y254.length : Int).toNat ≤ 35184372088832)) (by omega)) (Below.refl _ _) (Nat.le_refl _) ?_; intro v264 w20 ho21 hb hg_ hnew_; clear hg_ hnew_; (first | rw [← Ny263.out] at ho21 | (simp only [Int.reduceToNat] at ho21; rw [← Ny263.out] at ho21)); have HO265 := Aside0.mk (Kd.R_lower (Kd.R_newM (M := fun k_ => (w.heap.size ≤ k_)) ho21 (below_size (bS HB.out)) (fun k_ h_ => h_)) (below_size (bS HB.out))); replace HB := hB HB hb; clear hb ho21)))
           go_loopg [7, 34] kj2 (fun kq v7 v34 w' => ∃ (x6_2 : List Int) (x7_2 : Int) (x34_2 : Int), v7 = .int .u64 x7_2 ∧ v34 = .int .i64 x34_2 ∧ Aside0 (nat_Sub.l0 kq y259 x6_2 x7_2 y254 (y254.length : Int) x34_2 = some (r1, r2)) ∧ Aside0 (kq ≤ kj2) ∧ Aside0 (Kd.R (Kd.int .u64) 22 w' w.heap.size (fun k_ => (w.heap.size ≤ k_)) v264 x6_2) ∧ Aside0 (Below w.heap.size w w'))
           case atStart => exact ⟨(y263), (0), (0), (by first | rfl | (simp; done) | (simp [*]; done)), (by first | rfl | (simp; done) | (simp [*]; done)), H', ⟨Nat.le_refl _⟩, ⟨rS <| Kd.R_mono HO265.out (fun _ hk => hk.1)⟩, ⟨bS HB.out⟩⟩
           case round =>
            clear H'
            try clear c1
            try clear q1
            try clear p2
            try clear c5
            try clear c7
            try clear c9
            try clear c9b0
            try clear c11
            try clear c11b0
            try clear c11b1
            try clear c12
            try clear c12b0
            try clear c12b1
            try clear c14
            try clear c14b0
            try clear c14b1
            try clear c15
            try clear c15b0
            try clear c15b1
            try clear c16
            try clear c16b0
            try clear c16b1
            try clear c17
            try clear c17b0
            try clear c17b1
            try clear q18
            try clear q19
            try clear p2
            try clear q18
            try clear q19
            obtain ⟨x6_2, x7_2, x34_2, rfl, rfl, HA, HK2, HO_6, HB⟩ := hrel
            cases gk with
            | zero => exact absurd HA.out (by simp [nat_Sub.l0])
            | succ k2 =>
             have H := HA.out
             clear HA
             simp only [nat_Sub.l0] at H
             by_cases c22 : x34_2 < (y254.length : Int)
             ·rw [if_pos c22] at H
              have c22b0 : decide (x34_2 < (y254.length : Int)) = true := decide_eq_true c22
              clear c22
              by_cases c23 : 0 ≤ x34_2
              ·rw [if_pos c23] at H
               have c23b0 : decide (0 ≤ x34_2) = true := decide_eq_true c23
               clear c23
               by_cases c24 : x34_2 < (y254.length : Int)
               ·rw [if_pos c24] at H
                have c24b0 : decide (x34_2 < (y254.length : Int)) = true := decide_eq_true c24
                clear c24
                by_cases c25 : x34_2 < (y259.length : Int)
                ·rw [if_pos c25] at H
                 have c25b0 : decide (x34_2 < (y259.length : Int)) = true := decide_eq_true c25
                 clear c25
                 replace H := Option.bind_eq_some_iff.mp H
                 obtain ⟨⟨t268, t269⟩, A260, H⟩ := H
                 replace H : (if x34_2 < (x6_2.length : Int) then (nat_Sub.l0 k2 y259 (x6_2.set (x34_2 : Int).toNat t268) t269 y254 (y254.length : Int) (wrap64 (x34_2 + 1))) else (none)) = some (r1, r2) := H
                 have A26 := Aside0.mk A260
                 clear A260
                 by_cases c27 : x34_2 < (x6_2.length : Int)
                 ·rw [if_pos c27] at H
                  have c27b0 : decide (x34_2 < (x6_2.length : Int)) = true := decide_eq_true c27
                  clear c27
                  obtain ⟨y270, hy270⟩ : ∃ y_ : List Int, y_ = (x6_2.set (x34_2 : Int).toNat t268) := ⟨_, rfl⟩
                  replace H : (nat_Sub.l0 k2 y259 y270 t269 y254 (y254.length : Int) (wrap64 (x34_2 + 1))) = some (r1, r2) := by first | (rw [hy270]; with_reducible exact H) | (have H2_ := (Option.bind_some _ _).symm.trans H; rw [hy270]; with_reducible exact H2_) | (have H2_ := (Option.bind_some _ _).symm.trans H; with_reducible exact H2_) | with_reducible exact H | (rw [hy270]; exact H) | exact H
                  have Ny270 := Aside0.mk hy270
                  clear hy270
                  have H' := Aside0.mk H
                  clear H
                  have p266 : 0 ≤ (x34_2 : Int) := of_decide_eq_true (by first | (with_reducible assumption) | assumption)
                  have q266 : x34_2 < (y254.length : Int) := of_decide_eq_true (by first | (with_reducible assumption) | assumption)
                  obtain ⟨ad266, e266, hx266_0⟩ := Kd.at_int HR257.out x34_2 p266 q266
                  cases e266
                  replace hx266_0 := (HB.out.cell (World.block_lt_of_cell? w _ hx266_0)).trans hx266_0
                  replace p266 := eq_true p266
                  replace q266 := eq_true q266
                  have p267 : 0 ≤ (x34_2 : Int) := of_decide_eq_true (by first | (with_reducible assumption) | assumption)
                  have q267 : x34_2 < (y259.length : Int) := of_decide_eq_true (by first | (with_reducible assumption) | assumption)
                  obtain ⟨ad267, e267, hx267_0⟩ := Kd.at_int HR262.out x34_2 p267 q267
                  cases e267
                  replace hx267_0 := (HB.out.cell (World.block_lt_of_cell? w _ hx267_0)).trans hx267_0
                  replace p267 := eq_true p267
                  replace q267 := eq_true q267
                  go_wp2_with (first | ((with_reducible refine gate_callee (f := 85) rfl ?_); refine goesX_ (some 53) rfl rfl Tryd.func85 (by kernel_rfl) rfl #[.int .u64 (rd y254 x34_2), .int .u64 (rd y259 x34_2), .int .u64 x7_2] rfl (by (try simp only [List.map_toArray, List.map_cons, List.map_nil]); first | done | rfl) ?_; (with_reducible refine (bits_Sub64.calls (rd y254 x34_2) (rd y259 x34_2) x7_2 t268 t269 _ A26.out).mono ?_); rintro e w' ⟨rfl, rfl⟩; refine ⟨_, rfl, ?_⟩; have p28 : 0 ≤ (x34_2 : Int) := of_decide_eq_true (by first | (with_reducible assumption) | assumption); have q28 : (x34_2 : Int) < ((x6_2.length : Int) : Int) := of_decide_eq_true (by first | (with_reducible assumption) | assumption); obtain ⟨go28, co28, eo28, gb28, gl28, cl28, HG28⟩ := Kd.R_form HO_6.out (by omega); (first | cases eo28 | (injection eo28 with ea_ en_ ec_; (first | subst ea_ | (injection ea_ with ea_; subst ea_)); subst ec_; clear en_)); have GB28 := Aside0.mk gb28; have GG28 := Aside0.mk HG28; clear gb28 gl28 HG28; obtain ⟨hx28_0, hf28_0⟩ := Kd.R_celln 0 HO_6.out (x34_2 : Int) p28 q28; replace p28 := eq_true p28; replace q28 := eq_true q28; obtain ⟨hy29_, hz29_⟩ := Kd.R_celln 0 HO_6.out (x34_2 : Int) (of_decide_eq_true (by first | (with_reducible assumption) | assumption)) (of_decide_eq_true (by first | (with_reducible assumption) | assumption)); have HP29 := Kd.R_putg HO_6.out (x34_2 : Int) t268) | ((with_reducible refine gate_store (t := 22) (p := 56) rfl ?_); (try (rw [drewN_self wr]; generalize hq_ : World.drewN wr _ = wr; have n0_ := Aside0.mk (Kd.R_at hq_ HO_6.out); have n1_ := Aside0.mk (below_at hq_ HB.out); clear hq_ HO_6 HB; have HO_6 := n0_; have HB := n1_; clear n0_ n1_; (try (obtain ⟨hy29_, hz29_⟩ := Kd.R_celln 0 HO_6.out (x34_2 : Int) (of_decide_eq_true (by first | (with_reducible assumption) | assumption)) (of_decide_eq_true (by first | (with_reducible assumption) | assumption)))); (try (have HP29 := Kd.R_putg HO_6.out (x34_2 : Int) t268)))); refine store_event (t := 22) (p := 56) (v := ?vo_w30) (w1 := (wr.setCell ⟨go28, (x34_2 : Int).toNat, none⟩ (.int .u64 t268))) ?hg ?ho ?hn ?hr ?_; (case ho => rfl); (case hg => rfl); (case hn => rfl); (case hr => first | (go_simp; done) | (go_simp; rfl)); intro w30 hw; have hg : wr.grownBy w30 (some go28) := (by rw [hw]; exact HP29.2); have hp_ : Kd.R (Kd.int .u64) 22 w30 w.heap.size (fun k_ => (w.heap.size ≤ k_)) (.slice (some ⟨go28, 0, none⟩) x6_2.length co28) y270 := (by rw [hw, Ny270.out]; exact HP29.1); clear HP29; replace HO_6 := Aside0.mk (hp_); replace HB := Aside0.mk ((by rw [hw]; exact below_set (HB.out) GB28.out : Below w.heap.size w w30)); clear hg hw hp_))
                  repeat (go_quiet (first | ((with_reducible refine gate_callee (f := 85) rfl ?_); refine goesX_ (some 53) rfl rfl Tryd.func85 (by kernel_rfl) rfl #[.int .u64 (rd y254 x34_2), .int .u64 (rd y259 x34_2), .int .u64 x7_2] rfl (by (try simp only [List.map_toArray, List.map_cons, List.map_nil]); first | done | rfl) ?_; (with_reducible refine (bits_Sub64.calls (rd y254 x34_2) (rd y259 x34_2) x7_2 t268 t269 _ A26.out).mono ?_); rintro e w' ⟨rfl, rfl⟩; refine ⟨_, rfl, ?_⟩; have p28 : 0 ≤ (x34_2 : Int) := of_decide_eq_true (by first | (with_reducible assumption) | assumption); have q28 : (x34_2 : Int) < ((x6_2.length : Int) : Int) := of_decide_eq_true (by first | (with_reducible assumption) | assumption); obtain ⟨go28, co28, eo28, gb28, gl28, cl28, HG28⟩ := Kd.R_form HO_6.out (by omega); (first | cases eo28 | (injection eo28 with ea_ en_ ec_; (first | subst ea_ | (injection ea_ with ea_; subst ea_)); subst ec_; clear en_)); have GB28 := Aside0.mk gb28; have GG28 := Aside0.mk HG28; clear gb28 gl28 HG28; obtain ⟨hx28_0, hf28_0⟩ := Kd.R_celln 0 HO_6.out (x34_2 : Int) p28 q28; replace p28 := eq_true p28; replace q28 := eq_true q28; obtain ⟨hy29_, hz29_⟩ := Kd.R_celln 0 HO_6.out (x34_2 : Int) (of_decide_eq_true (by first | (with_reducible assumption) | assumption)) (of_decide_eq_true (by first | (with_reducible assumption) | assumption)); have HP29 := Kd.R_putg HO_6.out (x34_2 : Int) t268) | ((with_reducible refine gate_store (t := 22) (p := 56) rfl ?_); (try (rw [drewN_self wr]; generalize hq_ : World.drewN wr _ = wr; have n0_ := Aside0.mk (Kd.R_at hq_ HO_6.out); have n1_ := Aside0.mk (below_at hq_ HB.out); clear hq_ HO_6 HB; have HO_6 := n0_; have HB := n1_; clear n0_ n1_; (try (obtain ⟨hy29_, hz29_⟩ := Kd.R_celln 0 HO_6.out (x34_2 : Int) (of_decide_eq_true (by first | (with_reducible assumption) | assumption)) (of_decide_eq_true (by first | (with_reducible assumption) | assumption)))); (try (have HP29 := Kd.R_putg HO_6.out (x34_2 : Int) t268)))); refine store_event (t := 22) (p := 56) (v := ?vo_w30) (w1 := (wr.setCell ⟨go28, (x34_2 : Int).toNat, none⟩ (.int .u64 t268))) ?hg ?ho ?hn ?hr ?_; (case ho => rfl); (case hg => rfl); (case hn => rfl); (case hr => first | (go_simp; done) | (go_simp; rfl)); intro w30 hw; have hg : wr.grownBy w30 (some go28) := (by rw [hw]; exact HP29.2); have hp_ : Kd.R (Kd.int .u64) 22 w30 w.heap.size (fun k_ => (w.heap.size ≤ k_)) (.slice (some ⟨go28, 0, none⟩) x6_2.length co28) y270 := (by rw [hw, Ny270.out]; exact HP29.1); clear HP29; replace HO_6 := Aside0.mk (hp_); replace HB := Aside0.mk ((by rw [hw]; exact below_set (HB.out) GB28.out : Below w.heap.size w w30)); clear hg hw hp_)); try go_wp2_with (first | ((with_reducible refine gate_callee (f := 85) rfl ?_); refine goesX_ (some 53) rfl rfl Tryd.func85 (by kernel_rfl) rfl #[.int .u64 (rd y254 x34_2), .int .u64 (rd y259 x34_2), .int .u64 x7_2] rfl (by (try simp only [List.map_toArray, List.map_cons, List.map_nil]); first | done | rfl) ?_; (with_reducible refine (bits_Sub64.calls (rd y254 x34_2) (rd y259 x34_2) x7_2 t268 t269 _ A26.out).mono ?_); rintro e w' ⟨rfl, rfl⟩; refine ⟨_, rfl, ?_⟩; have p28 : 0 ≤ (x34_2 : Int) := of_decide_eq_true (by first | (with_reducible assumption) | assumption); have q28 : (x34_2 : Int) < ((x6_2.length : Int) : Int) := of_decide_eq_true (by first | (with_reducible assumption) | assumption); obtain ⟨go28, co28, eo28, gb28, gl28, cl28, HG28⟩ := Kd.R_form HO_6.out (by omega); (first | cases eo28 | (injection eo28 with ea_ en_ ec_; (first | subst ea_ | (injection ea_ with ea_; subst ea_)); subst ec_; clear en_)); have GB28 := Aside0.mk gb28; have GG28 := Aside0.mk HG28; clear gb28 gl28 HG28; obtain ⟨hx28_0, hf28_0⟩ := Kd.R_celln 0 HO_6.out (x34_2 : Int) p28 q28; replace p28 := eq_true p28; replace q28 := eq_true q28; obtain ⟨hy29_, hz29_⟩ := Kd.R_celln 0 HO_6.out (x34_2 : Int) (of_decide_eq_true (by first | (with_reducible assumption) | assumption)) (of_decide_eq_true (by first | (with_reducible assumption) | assumption)); have HP29 := Kd.R_putg HO_6.out (x34_2 : Int) t268) | ((with_reducible refine gate_store (t := 22) (p := 56) rfl ?_); (try (rw [drewN_self wr]; generalize hq_ : World.drewN wr _ = wr; have n0_ := Aside0.mk (Kd.R_at hq_ HO_6.out); have n1_ := Aside0.mk (below_at hq_ HB.out); clear hq_ HO_6 HB; have HO_6 := n0_; have HB := n1_; clear n0_ n1_; (try (obtain ⟨hy29_, hz29_⟩ := Kd.R_celln 0 HO_6.out (x34_2 : Int) (of_decide_eq_true (by first | (with_reducible assumption) | assumption)) (of_decide_eq_true (by first | (with_reducible assumption) | assumption)))); (try (have HP29 := Kd.R_putg HO_6.out (x34_2 : Int) t268)))); refine store_event (t := 22) (p := 56) (v := ?vo_w30) (w1 := (wr.setCell ⟨go28, (x34_2 : Int).toNat, none⟩ (.int .u64 t268))) ?hg ?ho ?hn ?hr ?_; (case ho => rfl); (case hg => rfl); (case hn => rfl); (case hr => first | (go_simp; done) | (go_simp; rfl)); intro w30 hw; have hg : wr.grownBy w30 (some go28) := (by rw [hw]; exact HP29.2); have hp_ : Kd.R (Kd.int .u64) 22 w30 w.heap.size (fun k_ => (w.heap.size ≤ k_)) (.slice (some ⟨go28, 0, none⟩) x6_2.length co28) y270 := (by rw [hw, Ny270.out]; exact HP29.1); clear HP29; replace HO_6 := Aside0.mk (hp_); replace HB := Aside0.mk ((by rw [hw]; exact below_set (HB.out) GB28.out : Below w.heap.size w w30)); clear hg hw hp_)))
                  go_roundg k2
                  case measure => have := HJ2.out; have := HK2.out; omega
                  case rel => exact ⟨(y270), (t269), (wrap64 (x34_2 + 1)), (by first | rfl | (have e_ := Option.some.inj (A10.out.symm.trans A13.out); cases e_; rfl) | (simp; done) | (simp [*]; done)), (by first | rfl | (have e_ := Option.some.inj (A10.out.symm.trans A13.out); cases e_; rfl) | (simp; done) | (simp [*]; done)), H', ⟨by have := HJ2.out; have := HK2.out; omega⟩, ⟨rS <| HO_6.out⟩, ⟨bS HB.out⟩⟩
                 ·rw [if_neg c27] at H
                  exact absurd H (by simp)
                ·rw [if_neg c25] at H
                 have c25b0 : decide (x34_2 < (y259.length : Int)) = false := decide_eq_false c25
                 clear c25
                 replace H := Option.bind_eq_some_iff.mp H
                 obtain ⟨⟨t271, t272⟩, A310, H⟩ := H
                 replace H : (if x34_2 < (x6_2.length : Int) then (nat_Sub.l0 k2 y259 (x6_2.set (x34_2 : Int).toNat t271) t272 y254 (y254.length : Int) (wrap64 (x34_2 + 1))) else (none)) = some (r1, r2) := H
                 have A31 := Aside0.mk A310
                 clear A310
                 by_cases c32 : x34_2 < (x6_2.length : Int)
                 ·rw [if_pos c32] at H
                  have c32b0 : decide (x34_2 < (x6_2.length : Int)) = true := decide_eq_true c32
                  clear c32
                  obtain ⟨y273, hy273⟩ : ∃ y_ : List Int, y_ = (x6_2.set (x34_2 : Int).toNat t271) := ⟨_, rfl⟩
                  replace H : (nat_Sub.l0 k2 y259 y273 t272 y254 (y254.length : Int) (wrap64 (x34_2 + 1))) = some (r1, r2) := by first | (rw [hy273]; with_reducible exact H) | (have H2_ := (Option.bind_some _ _).symm.trans H; rw [hy273]; with_reducible exact H2_) | (have H2_ := (Option.bind_some _ _).symm.trans H; with_reducible exact H2_) | with_reducible exact H | (rw [hy273]; exact H) | exact H
                  have Ny273 := Aside0.mk hy273
                  clear hy273
                  have H' := Aside0.mk H
                  clear H
                  have p266 : 0 ≤ (x34_2 : Int) := of_decide_eq_true (by first | (with_reducible assumption) | assumption)
                  have q266 : x34_2 < (y254.length : Int) := of_decide_eq_true (by first | (with_reducible assumption) | assumption)
                  obtain ⟨ad266, e266, hx266_0⟩ := Kd.at_int HR257.out x34_2 p266 q266
                  cases e266
                  replace hx266_0 := (HB.out.cell (World.block_lt_of_cell? w _ hx266_0)).trans hx266_0
                  replace p266 := eq_true p266
                  replace q266 := eq_true q266
                  go_wp2_with (first | ((with_reducible refine gate_callee (f := 85) rfl ?_); refine goesX_ (some 53) rfl rfl Tryd.func85 (by kernel_rfl) rfl #[.int .u64 (rd y254 x34_2), .int .u64 0, .int .u64 x7_2] rfl (by (try simp only [List.map_toArray, List.map_cons, List.map_nil]); first | done | rfl) ?_; (with_reducible refine (bits_Sub64.calls (rd y254 x34_2) 0 x7_2 t271 t272 _ A31.out).mono ?_); rintro e w' ⟨rfl, rfl⟩; refine ⟨_, rfl, ?_⟩; have p33 : 0 ≤ (x34_2 : Int) := of_decide_eq_true (by first | (with_reducible assumption) | assumption); have q33 : (x34_2 : Int) < ((x6_2.length : Int) : Int) := of_decide_eq_true (by first | (with_reducible assumption) | assumption); obtain ⟨go33, co33, eo33, gb33, gl33, cl33, HG33⟩ := Kd.R_form HO_6.out (by omega); (first | cases eo33 | (injection eo33 with ea_ en_ ec_; (first | subst ea_ | (injection ea_ with ea_; subst ea_)); subst ec_; clear en_)); have GB33 := Aside0.mk gb33; have GG33 := Aside0.mk HG33; clear gb33 gl33 HG33; obtain ⟨hx33_0, hf33_0⟩ := Kd.R_celln 0 HO_6.out (x34_2 : Int) p33 q33; replace p33 := eq_true p33; replace q33 := eq_true q33; obtain ⟨hy34_, hz34_⟩ := Kd.R_celln 0 HO_6.out (x34_2 : Int) (of_decide_eq_true (by first | (with_reducible assumption) | assumption)) (of_decide_eq_true (by first | (with_reducible assumption) | assumption)); have HP34 := Kd.R_putg HO_6.out (x34_2 : Int) t271) | ((with_reducible refine gate_store (t := 22) (p := 56) rfl ?_); (try (rw [drewN_self wr]; generalize hq_ : World.drewN wr _ = wr; have n0_ := Aside0.mk (Kd.R_at hq_ HO_6.out); have n1_ := Aside0.mk (below_at hq_ HB.out); clear hq_ HO_6 HB; have HO_6 := n0_; have HB := n1_; clear n0_ n1_; (try (obtain ⟨hy34_, hz34_⟩ := Kd.R_celln 0 HO_6.out (x34_2 : Int) (of_decide_eq_true (by first | (with_reducible assumption) | assumption)) (of_decide_eq_true (by first | (with_reducible assumption) | assumption)))); (try (have HP34 := Kd.R_putg HO_6.out (x34_2 : Int) t271)))); refine store_event (t := 22) (p := 56) (v := ?vo_w35) (w1 := (wr.setCell ⟨go33, (x34_2 : Int).toNat, none⟩ (.int .u64 t271))) ?hg ?ho ?hn ?hr ?_; (case ho => rfl); (case hg => rfl); (case hn => rfl); (case hr => first | (go_simp; done) | (go_simp; rfl)); intro w35 hw; have hg : wr.grownBy w35 (some go33) := (by rw [hw]; exact HP34.2); have hp_ : Kd.R (Kd.int .u64) 22 w35 w.heap.size (fun k_ => (w.heap.size ≤ k_)) (.slice (some ⟨go33, 0, none⟩) x6_2.length co33) y273 := (by rw [hw, Ny273.out]; exact HP34.1); clear HP34; replace HO_6 := Aside0.mk (hp_); replace HB := Aside0.mk ((by rw [hw]; exact below_set (HB.out) GB33.out : Below w.heap.size w w35)); clear hg hw hp_))
                  repeat (go_quiet (first | ((with_reducible refine gate_callee (f := 85) rfl ?_); refine goesX_ (some 53) rfl rfl Tryd.func85 (by kernel_rfl) rfl #[.int .u64 (rd y254 x34_2), .int .u64 0, .int .u64 x7_2] rfl (by (try simp only [List.map_toArray, List.map_cons, List.map_nil]); first | done | rfl) ?_; (with_reducible refine (bits_Sub64.calls (rd y254 x34_2) 0 x7_2 t271 t272 _ A31.out).mono ?_); rintro e w' ⟨rfl, rfl⟩; refine ⟨_, rfl, ?_⟩; have p33 : 0 ≤ (x34_2 : Int) := of_decide_eq_true (by first | (with_reducible assumption) | assumption); have q33 : (x34_2 : Int) < ((x6_2.length : Int) : Int) := of_decide_eq_true (by first | (with_reducible assumption) | assumption); obtain ⟨go33, co33, eo33, gb33, gl33, cl33, HG33⟩ := Kd.R_form HO_6.out (by omega); (first | cases eo33 | (injection eo33 with ea_ en_ ec_; (first | subst ea_ | (injection ea_ with ea_; subst ea_)); subst ec_; clear en_)); have GB33 := Aside0.mk gb33; have GG33 := Aside0.mk HG33; clear gb33 gl33 HG33; obtain ⟨hx33_0, hf33_0⟩ := Kd.R_celln 0 HO_6.out (x34_2 : Int) p33 q33; replace p33 := eq_true p33; replace q33 := eq_true q33; obtain ⟨hy34_, hz34_⟩ := Kd.R_celln 0 HO_6.out (x34_2 : Int) (of_decide_eq_true (by first | (with_reducible assumption) | assumption)) (of_decide_eq_true (by first | (with_reducible assumption) | assumption)); have HP34 := Kd.R_putg HO_6.out (x34_2 : Int) t271) | ((with_reducible refine gate_store (t := 22) (p := 56) rfl ?_); (try (rw [drewN_self wr]; generalize hq_ : World.drewN wr _ = wr; have n0_ := Aside0.mk (Kd.R_at hq_ HO_6.out); have n1_ := Aside0.mk (below_at hq_ HB.out); clear hq_ HO_6 HB; have HO_6 := n0_; have HB := n1_; clear n0_ n1_; (try (obtain ⟨hy34_, hz34_⟩ := Kd.R_celln 0 HO_6.out (x34_2 : Int) (of_decide_eq_true (by first | (with_reducible assumption) | assumption)) (of_decide_eq_true (by first | (with_reducible assumption) | assumption)))); (try (have HP34 := Kd.R_putg HO_6.out (x34_2 : Int) t271)))); refine store_event (t := 22) (p := 56) (v := ?vo_w35) (w1 := (wr.setCell ⟨go33, (x34_2 : Int).toNat, none⟩ (.int .u64 t271))) ?hg ?ho ?hn ?hr ?_; (case ho => rfl); (case hg => rfl); (case hn => rfl); (case hr => first | (go_simp; done) | (go_simp; rfl)); intro w35 hw; have hg : wr.grownBy w35 (some go33) := (by rw [hw]; exact HP34.2); have hp_ : Kd.R (Kd.int .u64) 22 w35 w.heap.size (fun k_ => (w.heap.size ≤ k_)) (.slice (some ⟨go33, 0, none⟩) x6_2.length co33) y273 := (by rw [hw, Ny273.out]; exact HP34.1); clear HP34; replace HO_6 := Aside0.mk (hp_); replace HB := Aside0.mk ((by rw [hw]; exact below_set (HB.out) GB33.out : Below w.heap.size w w35)); clear hg hw hp_)); try go_wp2_with (first | ((with_reducible refine gate_callee (f := 85) rfl ?_); refine goesX_ (some 53) rfl rfl Tryd.func85 (by kernel_rfl) rfl #[.int .u64 (rd y254 x34_2), .int .u64 0, .int .u64 x7_2] rfl (by (try simp only [List.map_toArray, List.map_cons, List.map_nil]); first | done | rfl) ?_; (with_reducible refine (bits_Sub64.calls (rd y254 x34_2) 0 x7_2 t271 t272 _ A31.out).mono ?_); rintro e w' ⟨rfl, rfl⟩; refine ⟨_, rfl, ?_⟩; have p33 : 0 ≤ (x34_2 : Int) := of_decide_eq_true (by first | (with_reducible assumption) | assumption); have q33 : (x34_2 : Int) < ((x6_2.length : Int) : Int) := of_decide_eq_true (by first | (with_reducible assumption) | assumption); obtain ⟨go33, co33, eo33, gb33, gl33, cl33, HG33⟩ := Kd.R_form HO_6.out (by omega); (first | cases eo33 | (injection eo33 with ea_ en_ ec_; (first | subst ea_ | (injection ea_ with ea_; subst ea_)); subst ec_; clear en_)); have GB33 := Aside0.mk gb33; have GG33 := Aside0.mk HG33; clear gb33 gl33 HG33; obtain ⟨hx33_0, hf33_0⟩ := Kd.R_celln 0 HO_6.out (x34_2 : Int) p33 q33; replace p33 := eq_true p33; replace q33 := eq_true q33; obtain ⟨hy34_, hz34_⟩ := Kd.R_celln 0 HO_6.out (x34_2 : Int) (of_decide_eq_true (by first | (with_reducible assumption) | assumption)) (of_decide_eq_true (by first | (with_reducible assumption) | assumption)); have HP34 := Kd.R_putg HO_6.out (x34_2 : Int) t271) | ((with_reducible refine gate_store (t := 22) (p := 56) rfl ?_); (try (rw [drewN_self wr]; generalize hq_ : World.drewN wr _ = wr; have n0_ := Aside0.mk (Kd.R_at hq_ HO_6.out); have n1_ := Aside0.mk (below_at hq_ HB.out); clear hq_ HO_6 HB; have HO_6 := n0_; have HB := n1_; clear n0_ n1_; (try (obtain ⟨hy34_, hz34_⟩ := Kd.R_celln 0 HO_6.out (x34_2 : Int) (of_decide_eq_true (by first | (with_reducible assumption) | assumption)) (of_decide_eq_true (by first | (with_reducible assumption) | assumption)))); (try (have HP34 := Kd.R_putg HO_6.out (x34_2 : Int) t271)))); refine store_event (t := 22) (p := 56) (v := ?vo_w35) (w1 := (wr.setCell ⟨go33, (x34_2 : Int).toNat, none⟩ (.int .u64 t271))) ?hg ?ho ?hn ?hr ?_; (case ho => rfl); (case hg => rfl); (case hn => rfl); (case hr => first | (go_simp; done) | (go_simp; rfl)); intro w35 hw; have hg : wr.grownBy w35 (some go33) := (by rw [hw]; exact HP34.2); have hp_ : Kd.R (Kd.int .u64) 22 w35 w.heap.size (fun k_ => (w.heap.size ≤ k_)) (.slice (some ⟨go33, 0, none⟩) x6_2.length co33) y273 := (by rw [hw, Ny273.out]; exact HP34.1); clear HP34; replace HO_6 := Aside0.mk (hp_); replace HB := Aside0.mk ((by rw [hw]; exact below_set (HB.out) GB33.out : Below w.heap.size w w35)); clear hg hw hp_)))
                  go_roundg k2
                  case measure => have := HJ2.out; have := HK2.out; omega
                  case rel => exact ⟨(y273), (t272), (wrap64 (x34_2 + 1)), (by first | rfl | (have e_ := Option.some.inj (A10.out.symm.trans A13.out); cases e_; rfl) | (simp; done) | (simp [*]; done)), (by first | rfl | (have e_ := Option.some.inj (A10.out.symm.trans A13.out); cases e_; rfl) | (simp; done) | (simp [*]; done)), H', ⟨by have := HJ2.out; have := HK2.out; omega⟩, ⟨rS <| HO_6.out⟩, ⟨bS HB.out⟩⟩
                 ·rw [if_neg c32] at H
                  exact absurd H (by simp)
               ·rw [if_neg c24] at H
                exact absurd H (by simp)
              ·rw [if_neg c23] at H
               exact absurd H (by simp)
             ·rw [if_neg c22] at H
              have c22b0 : decide (x34_2 < (y254.length : Int)) = false := decide_eq_false c22
              clear c22
              obtain ⟨⟨t274, t277⟩, A360, H⟩ := Option.bind_eq_some_iff.mp H
              dsimp only at H
              have A36 := Aside0.mk A360
              clear A360
              simp only [Option.some.injEq, Prod.mk.injEq] at H
              obtain ⟨rfl, rfl⟩ := H
              obtain ⟨Ao37, co37, eo37⟩ := Kd.R_slice HO_6.out
              subst eo37
              go_wp2_with (first | (go_at_call 84; (with_reducible refine (nat_cut.calls k2 (fun k_ => some k_ = (.slice Ao37 x6_2.length co37 : Value).ownBlock) _ _ x6_2 t274 t277 _ ?side1 A36.out).mono ?_); (case side1 => exact Kd.R_V (Kd.R_tight rfl (HO_6.out))); rintro e w38 ⟨v275, rfl, ho0, hb⟩; have HO276 := Aside0.mk (Kd.V_lower (Kd.V_mono (ok' := fun k_ => (w.heap.size ≤ k_)) ho0 (fun k_ hk_ => Or.elim hk_ (fun hs_ => ((HO_6.out).1 k_ hs_.symm)) (fun hn_ => (Nat.le_trans (below_size (bS HB.out)) hn_)))) (below_size (bS HB.out))); replace HO_6 := Aside0.mk (Kd.R_below (rS <| HO_6.out) hb); replace HB := hB HB hb; (try clear hb); (try clear hb2); (try clear hk); (try clear hi); (try clear ho0)))
              repeat (go_quiet (first | (go_at_call 84; (with_reducible refine (nat_cut.calls k2 (fun k_ => some k_ = (.slice Ao37 x6_2.length co37 : Value).ownBlock) _ _ x6_2 t274 t277 _ ?side1 A36.out).mono ?_); (case side1 => exact Kd.R_V (Kd.R_tight rfl (HO_6.out))); rintro e w38 ⟨v275, rfl, ho0, hb⟩; have HO276 := Aside0.mk (Kd.V_lower (Kd.V_mono (ok' := fun k_ => (w.heap.size ≤ k_)) ho0 (fun k_ hk_ => Or.elim hk_ (fun hs_ => ((HO_6.out).1 k_ hs_.symm)) (fun hn_ => (Nat.le_trans (below_size (bS HB.out)) hn_)))) (below_size (bS HB.out))); replace HO_6 := Aside0.mk (Kd.R_below (rS <| HO_6.out) hb); replace HB := hB HB hb; (try clear hb); (try clear hb2); (try clear hk); (try clear hi); (try clear ho0))); try go_wp2_with (first | (go_at_call 84; (with_reducible refine (nat_cut.calls k2 (fun k_ => some k_ = (.slice Ao37 x6_2.length co37 : Value).ownBlock) _ _ x6_2 t274 t277 _ ?side1 A36.out).mono ?_); (case side1 => exact Kd.R_V (Kd.R_tight rfl (HO_6.out))); rintro e w38 ⟨v275, rfl, ho0, hb⟩; have HO276 := Aside0.mk (Kd.V_lower (Kd.V_mono (ok' := fun k_ => (w.heap.size ≤ k_)) ho0 (fun k_ hk_ => Or.elim hk_ (fun hs_ => ((HO_6.out).1 k_ hs_.symm)) (fun hn_ => (Nat.le_trans (below_size (bS HB.out)) hn_)))) (below_size (bS HB.out))); replace HO_6 := Aside0.mk (Kd.R_below (rS <| HO_6.out) hb); replace HB := hB HB hb; (try clear hb); (try clear hb2); (try clear hk); (try clear hi); (try clear ho0))))
              go_ret2
              exact ⟨_, by first | rfl | (simp [errW_none, errW_some] <;> rfl) | (simp [*, errW_none, errW_some] <;> rfl), vS <| HO276.out, bS HB.out⟩
          ·rw [if_neg c17] at H
           exact absurd H (by simp)
         ·rw [if_neg c16] at H
          exact absurd H (by simp)
        ·rw [if_neg c15] at H
         exact absurd H (by simp)
       ·rw [if_neg c14] at H
        exact absurd H (by simp)
      ·rw [if_neg c12] at H
       exact absurd H (by simp)
     ·rw [if_neg c11] at H
      exact absurd H (by simp)

/-! ### abacuslaw05_plus: function 22 -/
def abacuslaw05_plus.f (k : Nat) (a0_0 : Bool) (l0_1 : List Int) (a1_0 : Bool) (l1_1 : List Int) : Option (Bool × List Int) := if (a0_0 == a1_0) = true then ((nat_Add.f k l0_1 l1_1).bind fun bt281 => (some (a0_0, bt281.1))) else ((nat_Cmp.f k l0_1 l1_1).bind fun t285 => (if t285 ≥ 0 then ((nat_Sub.f k l0_1 l1_1).bind fun bt286 => (some (a0_0, bt286.1))) else ((nat_Sub.f k l1_1 l0_1).bind fun bt290 => (some (a1_0, bt290.1)))))
theorem abacuslaw05_plus.mono : ∀ a0 a1 a2 a3 k, LeO (abacuslaw05_plus.f k a0 a1 a2 a3) (abacuslaw05_plus.f (k + 1) a0 a1 a2 a3) := by
 intro a0 a1 a2 a3 k
 unfold abacuslaw05_plus.f
 repeat' first
   | (with_reducible exact nat_Add.mono _ _ _)
   | (with_reducible exact nat_Cmp.mono _ _ _)
   | (with_reducible exact nat_Sub.mono _ _ _)
   | (with_reducible exact LeO.refl _)
   | (with_reducible exact LeO.none _)
   | (with_reducible refine LeO.ite ?_ ?_)
   | (with_reducible refine LeO.bind ?_ (fun _ => ?_))
   | exact nat_Add.mono _ _ _
   | exact nat_Cmp.mono _ _ _
   | exact nat_Sub.mono _ _ _
   | exact LeO.none _
   | refine LeO.ite ?_ ?_
   | refine LeO.bind ?_ (fun _ => ?_)
set_option maxHeartbeats 8000000 in
set_option maxRecDepth 100000 in
theorem abacuslaw05_plus.calls (k : Nat) (a0_0 : Bool) (P0_1_ : Nat → Prop) (A0_1 : Option Addr) (c0_1 : Nat) (l0_1 : List Int) (a1_0 : Bool) (P1_1_ : Nat → Prop) (A1_1 : Option Addr) (c1_1 : Nat) (l1_1 : List Int) (r1 : Bool) (r2 : List Int) (w : World) (hs0_1 : Kd.V (Kd.int .u64) 22 w w.heap.size (fun k_ => P0_1_ k_) (.slice A0_1 l0_1.length c0_1) l0_1) (hs1_1 : Kd.V (Kd.int .u64) 22 w w.heap.size (fun k_ => P1_1_ k_) (.slice A1_1 l1_1.length c1_1) l1_1) (h : abacuslaw05_plus.f k a0_0 l0_1 a1_0 l1_1 = some (r1, r2)) :
  Calls Tryd.prog 22 #[.agg #[.bool a0_0, .slice A0_1 l0_1.length c0_1], .agg #[.bool a1_0, .slice A1_1 l1_1.length c1_1]] w fun e w' => ∃ v1_ : Value, e = .returned (.agg #[.bool r1, v1_]) ∧ Kd.V (Kd.int .u64) 22 w' w.heap.size (fun k_ => ((P0_1_ k_ ∨ P1_1_ k_) ∨ w.heap.size ≤ k_)) v1_ r2 ∧ Below w.heap.size w w' := by
 have hu27 := Tryd.underlying27
 have HO0_1 := Aside0.mk (show Kd.V (Kd.int .u64) 22 w w.heap.size (fun k_ => ((P0_1_ k_ ∨ P1_1_ k_) ∨ w.heap.size ≤ k_)) (.slice A0_1 l0_1.length c0_1) l0_1 from Kd.V_mono hs0_1 (fun k_ hk => .inl (.inl hk)))
 have HO1_1 := Aside0.mk (show Kd.V (Kd.int .u64) 22 w w.heap.size (fun k_ => ((P0_1_ k_ ∨ P1_1_ k_) ∨ w.heap.size ≤ k_)) (.slice A1_1 l1_1.length c1_1) l1_1 from Kd.V_mono hs1_1 (fun k_ hk => .inl (.inr hk)))
 have HB := Aside0.mk (Below.refl w.heap.size w)
 have H : (if (a0_0 == a1_0) = true then ((nat_Add.f k l0_1 l1_1).bind fun bt281 => (some (a0_0, bt281.1))) else ((nat_Cmp.f k l0_1 l1_1).bind fun t285 => (if t285 ≥ 0 then ((nat_Sub.f k l0_1 l1_1).bind fun bt286 => (some (a0_0, bt286.1))) else ((nat_Sub.f k l1_1 l0_1).bind fun bt290 => (some (a1_0, bt290.1)))))) = some (r1, r2) := h
 clear h
 by_cases c3 : (a0_0 == a1_0) = true
 ·rw [if_pos c3] at H
  have c3b0 : (a0_0 == a1_0) = true := c3
  (try (have c3b1 : decide (a0_0 = a1_0) = true := by simpa using c3))
  (try (have c3b2 : (a0_0 == a1_0) = true := by simpa using c3))
  clear c3
  obtain ⟨⟨t281, t284⟩, A40, H⟩ := Option.bind_eq_some_iff.mp H
  dsimp only at H
  have A4 := Aside0.mk A40
  clear A40
  simp only [Option.some.injEq, Prod.mk.injEq] at H
  obtain ⟨rfl, rfl⟩ := H
  go_enter Tryd.func22, Tryd.ntmps22
  go_wp2_with (first | ((with_reducible refine gate_dst (N := 2) rfl ?_); refine box_event ?hg (N := 2) ?hd (cs := #[.bool a0_0, .slice A0_1 l0_1.length c0_1]) (t := 27) ?hr ?_; (case hd => rfl); (case hg => rfl); (case hr => first | (go_simp; done) | (go_simp; rfl)); intro gb278 hg w5 hbox hb; replace HO0_1 := Aside0.mk (Kd.V_below (Kd.V_elderB (vS <| HO0_1.out) gb278 (Nat.le_of_eq hg.symm)) hb); replace HO1_1 := Aside0.mk (Kd.V_below (Kd.V_elderB (vS <| HO1_1.out) gb278 (Nat.le_of_eq hg.symm)) hb); have BK278 := Aside0.mk (hbox); have GW278 := Aside0.mk ((by rw [hg]; exact (below_size (bS HB.out)) : w.heap.size ≤ gb278)); have GE278 := Aside0.mk ((by rw [hg]; exact (below_size (bS HB.out)) : w.heap.size ≤ gb278)); replace HB := hB HB hb; clear hb hbox hg) | ((with_reducible refine gate_dst (N := 3) rfl ?_); refine box_event ?hg (N := 3) ?hd (cs := #[.bool a1_0, .slice A1_1 l1_1.length c1_1]) (t := 27) ?hr ?_; (case hd => rfl); (case hg => rfl); (case hr => first | (go_simp; done) | (go_simp; rfl)); intro gb279 hg w6 hbox hb; replace HO0_1 := Aside0.mk (Kd.V_below (Kd.V_elderB (vS <| HO0_1.out) gb279 (Nat.le_of_eq hg.symm)) hb); replace HO1_1 := Aside0.mk (Kd.V_below (Kd.V_elderB (vS <| HO1_1.out) gb279 (Nat.le_of_eq hg.symm)) hb); have BK279 := Aside0.mk (hbox); have GW279 := Aside0.mk ((by rw [hg]; exact (below_size (bG1 HB.out GE278.out)) : w.heap.size ≤ gb279)); have GE279 := Aside0.mk ((by rw [hg]; exact (below_size (bG1 HB.out GE278.out)) : w.heap.size ≤ gb279)); replace HB := Aside0.mk (below_step (bG1 HB.out GE278.out) hb); have NB278_279 := Aside0.mk ((by rw [hg]; exact Nat.ne_of_lt (blk_lt (g := gb278) (o := .cells #[.bool a0_0, .slice A0_1 l0_1.length c0_1] 27 (0, 0)) (by exact bkS BK278.out)) : gb278 ≠ gb279)); have NB279_278 := Aside0.mk ((by rw [hg]; exact Nat.ne_of_gt (blk_lt (g := gb278) (o := .cells #[.bool a0_0, .slice A0_1 l0_1.length c0_1] 27 (0, 0)) (by exact bkS BK278.out)) : gb279 ≠ gb278)); replace BK278 := bkB BK278 hb; clear hb hbox hg) | ((with_reducible refine gate_dst (N := 4) rfl ?_); refine box_event ?hg (N := 4) ?hd (cs := #[.bool false, .slice none 0 0]) (t := 27) ?hr ?_; (case hd => rfl); (case hg => rfl); (case hr => first | (go_simp; done) | (go_simp; rfl)); intro gb280 hg w7 hbox hb; replace HO0_1 := Aside0.mk (Kd.V_below (Kd.V_elderB (vS <| HO0_1.out) gb280 (Nat.le_of_eq hg.symm)) hb); replace HO1_1 := Aside0.mk (Kd.V_below (Kd.V_elderB (vS <| HO1_1.out) gb280 (Nat.le_of_eq hg.symm)) hb); have BK280 := Aside0.mk (hbox); have GW280 := Aside0.mk ((by rw [hg]; exact (below_size (bG2 HB.out GE278.out GE279.out)) : w.heap.size ≤ gb280)); have GE280 := Aside0.mk ((by rw [hg]; exact (below_size (bG2 HB.out GE278.out GE279.out)) : w.heap.size ≤ gb280)); replace HB := Aside0.mk (below_step (bG2 HB.out GE278.out GE279.out) hb); have NB278_280 := Aside0.mk ((by rw [hg]; exact Nat.ne_of_lt (blk_lt (g := gb278) (o := .cells #[.bool a0_0, .slice A0_1 l0_1.length c0_1] 27 (0, 0)) (by exact bkS BK278.out)) : gb278 ≠ gb280)); have NB280_278 := Aside0.mk ((by rw [hg]; exact Nat.ne_of_gt (blk_lt (g := gb278) (o := .cells #[.bool a0_0, .slice A0_1 l0_1.length c0_1] 27 (0, 0)) (by exact bkS BK278.out)) : gb280 ≠ gb278)); replace BK278 := bkB BK278 hb; have NB279_280 := Aside0.mk ((by rw [hg]; exact Nat.ne_of_lt (blk_lt (g := gb279) (o := .cells #[.bool a1_0, .slice A1_1 l1_1.length c1_1] 27 (0, 0)) (by exact bkS BK279.out)) : gb279 ≠ gb280)); have NB280_279 := Aside0.mk ((by rw [hg]; exact Nat.ne_of_gt (blk_lt (g := gb279) (o := .cells #[.bool a1_0, .slice A1_1 l1_1.length c1_1] 27 (0, 0)) (by exact bkS BK279.out)) : gb280 ≠ gb279)); replace BK279 := bkB BK279 hb; clear hb hbox hg; have hnb8 := NB278_279.out; have hnc8 := NB279_278.out; have hnb9 := NB278_280.out; have hnc9 := NB280_278.out; have hcz10_0 : w7.cell? ⟨gb278, 0, none⟩ = some (.bool a0_0) := (blk_cell BK278.out 0).trans rfl; have hcz10_1 : w7.cell? ⟨gb278, 1, none⟩ = some (.slice A0_1 l0_1.length c0_1) := (blk_cell BK278.out 1).trans rfl; have hfz10_0 := blk_frozen BK278.out 0; have hfz10_1 := blk_frozen BK278.out 1; have hnb11 := NB279_280.out; have hnc11 := NB280_279.out; have hcz12_0 : w7.cell? ⟨gb279, 0, none⟩ = some (.bool a1_0) := (blk_cell BK279.out 0).trans rfl; have hcz12_1 : w7.cell? ⟨gb279, 1, none⟩ = some (.slice A1_1 l1_1.length c1_1) := (blk_cell BK279.out 1).trans rfl; have hfz12_0 := blk_frozen BK279.out 0; have hfz12_1 := blk_frozen BK279.out 1) | ((with_reducible refine gate_callee (f := 55) rfl ?_); refine goesL_ (some 21) rfl rfl Tryd.func55 (by kernel_rfl) rfl #[.slice A0_1 l0_1.length c0_1, .slice A1_1 l1_1.length c1_1] rfl (by (try simp only [List.map_toArray, List.map_cons, List.map_nil]); first | done | rfl) ?_; (with_reducible refine (nat_Add.calls k (fun k_ => (((((P0_1_ k_ ∨ P1_1_ k_) ∨ w.heap.size ≤ k_) ∧ k_ ≠ gb278) ∧ k_ ≠ gb279) ∧ k_ ≠ gb280)) _ _ l0_1 (fun k_ => (((((P0_1_ k_ ∨ P1_1_ k_) ∨ w.heap.size ≤ k_) ∧ k_ ≠ gb278) ∧ k_ ≠ gb279) ∧ k_ ≠ gb280)) _ _ l1_1 t281 t284 _ ?side1 ?side2 A4.out).mono ?_); (case side1 => exact HO0_1.out); (case side2 => exact HO1_1.out); rintro e w13 ⟨v282, rfl, ho0, hb⟩; refine ⟨_, rfl, ?_⟩; replace HO0_1 := vB HO0_1 hb; replace HO1_1 := vB HO1_1 hb; have HO283 := Aside0.mk (Kd.V_lower (Kd.V_mono (ok' := fun k_ => ((P0_1_ k_ ∨ P1_1_ k_) ∨ w.heap.size ≤ k_) ∧ k_ ≠ gb278 ∧ k_ ≠ gb279 ∧ k_ ≠ gb280) ho0 (fun k_ hk_ => ⟨Or.elim hk_ (fun hs_ => Or.elim hs_ (fun hs_ => hs_.1.1.1) (fun hs_ => hs_.1.1.1)) (fun hn_ => (.inr (Nat.le_trans (below_size (bG3 HB.out GE278.out GE279.out GE280.out)) hn_))), Or.elim hk_ (fun hs_ => Or.elim hs_ (fun hs_ => hs_.1.1.2) (fun hs_ => hs_.1.1.2)) (fun hn_ => (Kd.freshB (g := gb278) (o := .cells #[.bool a0_0, .slice A0_1 l0_1.length c0_1] 27 (0, 0)) (by exact bkS BK278.out) k_ hn_)), Or.elim hk_ (fun hs_ => Or.elim hs_ (fun hs_ => hs_.1.2) (fun hs_ => hs_.1.2)) (fun hn_ => (Kd.freshB (g := gb279) (o := .cells #[.bool a1_0, .slice A1_1 l1_1.length c1_1] 27 (0, 0)) (by exact bkS BK279.out) k_ hn_)), Or.elim hk_ (fun hs_ => Or.elim hs_ (fun hs_ => hs_.2) (fun hs_ => hs_.2)) (fun hn_ => (Kd.freshB (g := gb280) (o := .cells #[.bool false, .slice none 0 0] 27 (0, 0)) (by exact bkS BK280.out) k_ hn_))⟩)) (below_size (bG3 HB.out GE278.out GE279.out GE280.out))); replace BK278 := bkB BK278 hb; replace BK279 := bkB BK279 hb; replace BK280 := bkB BK280 hb; replace HB := Aside0.mk (below_step (bG3 HB.out GE278.out GE279.out GE280.out) hb); (try clear hb); (try clear hb2); (try clear hk); (try clear hi); (try clear ho0); have hcz14_0 : w13.cell? ⟨gb278, 0, none⟩ = some (.bool a0_0) := (blk_cell BK278.out 0).trans rfl; have hcz14_1 : w13.cell? ⟨gb278, 1, none⟩ = some (.slice A0_1 l0_1.length c0_1) := (blk_cell BK278.out 1).trans rfl; have hfz14_0 := blk_frozen BK278.out 0; have hfz14_1 := blk_frozen BK278.out 1; obtain ⟨Ao15, co15, eo15⟩ := Kd.V_slice HO283.out; subst eo15; have hcz16_0 : w13.cell? ⟨gb280, 0, none⟩ = some (.bool false) := (blk_cell BK280.out 0).trans rfl; have hcz16_1 : w13.cell? ⟨gb280, 1, none⟩ = some (.slice none 0 0) := (blk_cell BK280.out 1).trans rfl; have hfz16_0 := blk_frozen BK280.out 0; have hfz16_1 := blk_frozen BK280.out 1))
  refine bodyPost_ret (results_cell_row rfl _ _ gb280 27 #[.bool a0_0, .slice Ao15 t281.length co15] (0, 0) _ rfl (by refine blkP (cs := #[.bool a0_0, .slice none 0 0]) ?_ 1 _ rfl; refine blkP (cs := #[.bool false, .slice none 0 0]) ?_ 0 _ rfl; exact bkS BK280.out) Tryd.underlying27 rfl (by kernel_rfl)) rfl ?_
  exact ⟨_, by first | rfl | (simp [errW_none, errW_some] <;> rfl) | (simp [*, errW_none, errW_some] <;> rfl), vS <| Kd.V_mono (Kd.V_far (p := ⟨gb280, 1, none⟩) (Kd.V_far (p := ⟨gb280, 0, none⟩) (Kd.V_mono HO283.out (fun k_ hk => (⟨hk, hk.2.2.2⟩ : _ ∧ k_ ≠ gb280))) (fun _ hk => hk.2) (.bool a0_0)) (fun _ hk => hk.2) (.slice Ao15 t281.length co15)) (fun _ hk => hk.1.1), bG3 HB.out GE278.out GE279.out GE280.out⟩
 ·rw [if_neg c3] at H
  have c3b0 : (a0_0 == a1_0) = false := by simpa using c3
  (try (have c3b1 : decide (a0_0 = a1_0) = false := by simpa using c3))
  (try (have c3b2 : (a0_0 == a1_0) = false := by simpa using c3))
  (try (have c3b3 : ¬ (a0_0 = a1_0) := by simpa using c3))
  clear c3
  obtain ⟨t285, A170, H⟩ := Option.bind_eq_some_iff.mp H
  have A17 := Aside0.mk A170
  clear A170
  by_cases c18 : t285 ≥ 0
  ·rw [if_pos c18] at H
   have c18b0 : decide (0 ≤ t285) = true := decide_eq_true c18
   clear c18
   obtain ⟨⟨t286, t289⟩, A190, H⟩ := Option.bind_eq_some_iff.mp H
   dsimp only at H
   have A19 := Aside0.mk A190
   clear A190
   simp only [Option.some.injEq, Prod.mk.injEq] at H
   obtain ⟨rfl, rfl⟩ := H
   go_enter Tryd.func22, Tryd.ntmps22
   go_wp2_with (first | ((with_reducible refine gate_dst (N := 2) rfl ?_); refine box_event ?hg (N := 2) ?hd (cs := #[.bool a0_0, .slice A0_1 l0_1.length c0_1]) (t := 27) ?hr ?_; (case hd => rfl); (case hg => rfl); (case hr => first | (go_simp; done) | (go_simp; rfl)); intro gb278 hg w20 hbox hb; replace HO0_1 := Aside0.mk (Kd.V_below (Kd.V_elderB (vS <| HO0_1.out) gb278 (Nat.le_of_eq hg.symm)) hb); replace HO1_1 := Aside0.mk (Kd.V_below (Kd.V_elderB (vS <| HO1_1.out) gb278 (Nat.le_of_eq hg.symm)) hb); have BK278 := Aside0.mk (hbox); have GW278 := Aside0.mk ((by rw [hg]; exact (below_size (bS HB.out)) : w.heap.size ≤ gb278)); have GE278 := Aside0.mk ((by rw [hg]; exact (below_size (bS HB.out)) : w.heap.size ≤ gb278)); replace HB := hB HB hb; clear hb hbox hg) | ((with_reducible refine gate_dst (N := 3) rfl ?_); refine box_event ?hg (N := 3) ?hd (cs := #[.bool a1_0, .slice A1_1 l1_1.length c1_1]) (t := 27) ?hr ?_; (case hd => rfl); (case hg => rfl); (case hr => first | (go_simp; done) | (go_simp; rfl)); intro gb279 hg w21 hbox hb; replace HO0_1 := Aside0.mk (Kd.V_below (Kd.V_elderB (vS <| HO0_1.out) gb279 (Nat.le_of_eq hg.symm)) hb); replace HO1_1 := Aside0.mk (Kd.V_below (Kd.V_elderB (vS <| HO1_1.out) gb279 (Nat.le_of_eq hg.symm)) hb); have BK279 := Aside0.mk (hbox); have GW279 := Aside0.mk ((by rw [hg]; exact (below_size (bG1 HB.out GE278.out)) : w.heap.size ≤ gb279)); have GE279 := Aside0.mk ((by rw [hg]; exact (below_size (bG1 HB.out GE278.out)) : w.heap.size ≤ gb279)); replace HB := Aside0.mk (below_step (bG1 HB.out GE278.out) hb); have NB278_279 := Aside0.mk ((by rw [hg]; exact Nat.ne_of_lt (blk_lt (g := gb278) (o := .cells #[.bool a0_0, .slice A0_1 l0_1.length c0_1] 27 (0, 0)) (by exact bkS BK278.out)) : gb278 ≠ gb279)); have NB279_278 := Aside0.mk ((by rw [hg]; exact Nat.ne_of_gt (blk_lt (g := gb278) (o := .cells #[.bool a0_0, .slice A0_1 l0_1.length c0_1] 27 (0, 0)) (by exact bkS BK278.out)) : gb279 ≠ gb278)); replace BK278 := bkB BK278 hb; clear hb hbox hg) | ((with_reducible refine gate_dst (N := 4) rfl ?_); refine box_event ?hg (N := 4) ?hd (cs := #[.bool false, .slice none 0 0]) (t := 27) ?hr ?_; (case hd => rfl); (case hg => rfl); (case hr => first | (go_simp; done) | (go_simp; rfl)); intro gb280 hg w22 hbox hb; replace HO0_1 := Aside0.mk (Kd.V_below (Kd.V_elderB (vS <| HO0_1.out) gb280 (Nat.le_of_eq hg.symm)) hb); replace HO1_1 := Aside0.mk (Kd.V_below (Kd.V_elderB (vS <| HO1_1.out) gb280 (Nat.le_of_eq hg.symm)) hb); have BK280 := Aside0.mk (hbox); have GW280 := Aside0.mk ((by rw [hg]; exact (below_size (bG2 HB.out GE278.out GE279.out)) : w.heap.size ≤ gb280)); have GE280 := Aside0.mk ((by rw [hg]; exact (below_size (bG2 HB.out GE278.out GE279.out)) : w.heap.size ≤ gb280)); replace HB := Aside0.mk (below_step (bG2 HB.out GE278.out GE279.out) hb); have NB278_280 := Aside0.mk ((by rw [hg]; exact Nat.ne_of_lt (blk_lt (g := gb278) (o := .cells #[.bool a0_0, .slice A0_1 l0_1.length c0_1] 27 (0, 0)) (by exact bkS BK278.out)) : gb278 ≠ gb280)); have NB280_278 := Aside0.mk ((by rw [hg]; exact Nat.ne_of_gt (blk_lt (g := gb278) (o := .cells #[.bool a0_0, .slice A0_1 l0_1.length c0_1] 27 (0, 0)) (by exact bkS BK278.out)) : gb280 ≠ gb278)); replace BK278 := bkB BK278 hb; have NB279_280 := Aside0.mk ((by rw [hg]; exact Nat.ne_of_lt (blk_lt (g := gb279) (o := .cells #[.bool a1_0, .slice A1_1 l1_1.length c1_1] 27 (0, 0)) (by exact bkS BK279.out)) : gb279 ≠ gb280)); have NB280_279 := Aside0.mk ((by rw [hg]; exact Nat.ne_of_gt (blk_lt (g := gb279) (o := .cells #[.bool a1_0, .slice A1_1 l1_1.length c1_1] 27 (0, 0)) (by exact bkS BK279.out)) : gb280 ≠ gb279)); replace BK279 := bkB BK279 hb; clear hb hbox hg; have hnb23 := NB278_279.out; have hnc23 := NB279_278.out; have hnb24 := NB278_280.out; have hnc24 := NB280_278.out; have hcz25_0 : w22.cell? ⟨gb278, 0, none⟩ = some (.bool a0_0) := (blk_cell BK278.out 0).trans rfl; have hcz25_1 : w22.cell? ⟨gb278, 1, none⟩ = some (.slice A0_1 l0_1.length c0_1) := (blk_cell BK278.out 1).trans rfl; have hfz25_0 := blk_frozen BK278.out 0; have hfz25_1 := blk_frozen BK278.out 1; have hnb26 := NB279_280.out; have hnc26 := NB280_279.out; have hcz27_0 : w22.cell? ⟨gb279, 0, none⟩ = some (.bool a1_0) := (blk_cell BK279.out 0).trans rfl; have hcz27_1 : w22.cell? ⟨gb279, 1, none⟩ = some (.slice A1_1 l1_1.length c1_1) := (blk_cell BK279.out 1).trans rfl; have hfz27_0 := blk_frozen BK279.out 0; have hfz27_1 := blk_frozen BK279.out 1) | ((with_reducible refine gate_callee (f := 18) rfl ?_); refine goesL_ (some 32) rfl rfl Tryd.func18 (by kernel_rfl) rfl #[.slice A0_1 l0_1.length c0_1, .slice A1_1 l1_1.length c1_1] rfl (by (try simp only [List.map_toArray, List.map_cons, List.map_nil]); first | done | rfl) ?_; (with_reducible refine (nat_Cmp.calls k _ _ l0_1 _ _ l1_1 t285 _ ?side1 ?side2 ?side3 ?side4 A17.out).mono ?_); (case side1 => exact cS (Kd.V_reads' HO0_1.out).2.2); (case side2 => exact (Kd.V_reads' HO0_1.out).2.1); (case side3 => exact cS (Kd.V_reads' HO1_1.out).2.2); (case side4 => exact (Kd.V_reads' HO1_1.out).2.1); rintro e w' ⟨rfl, ⟨nd, rfl⟩⟩; refine ⟨_, rfl, ?_⟩; (try (rw [drewN_self w22]; generalize hq_ : World.drewN w22 _ = w22; have n0_ : Aside0 (Kd.V (Kd.int .u64) 22 w22 w.heap.size (fun k_ => ((P0_1_ k_ ∨ P1_1_ k_) ∨ w.heap.size ≤ k_) ∧ k_ ≠ gb278 ∧ k_ ≠ gb279 ∧ k_ ≠ gb280) (.slice A0_1 l0_1.length c0_1) l0_1) := ⟨by rw [← hq_]; exact (vS <| Kd.V_mono HO0_1.out (fun _ hk => ⟨hk.1.1.1, ⟨hk.1.1.2, ⟨hk.1.2, hk.2⟩⟩⟩))⟩; have n1_ : Aside0 (Kd.V (Kd.int .u64) 22 w22 w.heap.size (fun k_ => ((P0_1_ k_ ∨ P1_1_ k_) ∨ w.heap.size ≤ k_) ∧ k_ ≠ gb278 ∧ k_ ≠ gb279 ∧ k_ ≠ gb280) (.slice A1_1 l1_1.length c1_1) l1_1) := ⟨by rw [← hq_]; exact (vS <| Kd.V_mono HO1_1.out (fun _ hk => ⟨hk.1.1.1, ⟨hk.1.1.2, ⟨hk.1.2, hk.2⟩⟩⟩))⟩; have n2_ : Aside0 (w22.heap[gb278]? = some (.cells #[.bool a0_0, .slice A0_1 l0_1.length c0_1] 27 (0, 0))) := ⟨by rw [← hq_]; exact (by exact bkS BK278.out)⟩; have n3_ : Aside0 (w22.heap[gb279]? = some (.cells #[.bool a1_0, .slice A1_1 l1_1.length c1_1] 27 (0, 0))) := ⟨by rw [← hq_]; exact (by exact bkS BK279.out)⟩; have n4_ : Aside0 (w22.heap[gb280]? = some (.cells #[.bool false, .slice none 0 0] 27 (0, 0))) := ⟨by rw [← hq_]; exact (by exact bkS BK280.out)⟩; have n5_ : Aside0 (Below w.heap.size w w22) := ⟨by rw [← hq_]; exact (bG3 HB.out GE278.out GE279.out GE280.out)⟩; clear HO0_1 HO1_1 BK278 BK279 BK280 HB hq_; have HO0_1 := n0_; have HO1_1 := n1_; have BK278 := n2_; have BK279 := n3_; have BK280 := n4_; have HB := n5_; clear n0_ n1_ n2_ n3_ n4_ n5_; have hrzgb278_0 : w22.cell? ⟨gb278, 0, none⟩ = some (.bool a0_0) := (blk_cell BK278.out 0).trans rfl; have hrfgb278_0 := blk_frozen BK278.out 0; have hrzgb278_1 : w22.cell? ⟨gb278, 1, none⟩ = some (.slice A0_1 l0_1.length c0_1) := (blk_cell BK278.out 1).trans rfl; have hrfgb278_1 := blk_frozen BK278.out 1; have hrzgb279_0 : w22.cell? ⟨gb279, 0, none⟩ = some (.bool a1_0) := (blk_cell BK279.out 0).trans rfl; have hrfgb279_0 := blk_frozen BK279.out 0; have hrzgb279_1 : w22.cell? ⟨gb279, 1, none⟩ = some (.slice A1_1 l1_1.length c1_1) := (blk_cell BK279.out 1).trans rfl; have hrfgb279_1 := blk_frozen BK279.out 1; have hrzgb280_0 : w22.cell? ⟨gb280, 0, none⟩ = some (.bool false) := (blk_cell BK280.out 0).trans rfl; have hrfgb280_0 := blk_frozen BK280.out 0; have hrzgb280_1 : w22.cell? ⟨gb280, 1, none⟩ = some (.slice none 0 0) := (blk_cell BK280.out 1).trans rfl; have hrfgb280_1 := blk_frozen BK280.out 1))) | ((with_reducible refine gate_callee (f := 56) rfl ?_); refine goesL_ (some 39) rfl rfl Tryd.func56 (by kernel_rfl) rfl #[.slice A0_1 l0_1.length c0_1, .slice A1_1 l1_1.length c1_1] rfl (by (try simp only [List.map_toArray, List.map_cons, List.map_nil]); first | done | rfl) ?_; (with_reducible refine (nat_Sub.calls k _ _ l0_1 _ _ l1_1 t286 t289 _ ?side1 ?side2 ?side3 ?side4 A19.out).mono ?_); (case side1 => exact cS (Kd.V_reads' HO0_1.out).2.2); (case side2 => exact (Kd.V_reads' HO0_1.out).2.1); (case side3 => exact cS (Kd.V_reads' HO1_1.out).2.2); (case side4 => exact (Kd.V_reads' HO1_1.out).2.1); rintro e w28 ⟨v287, rfl, ho0, hb⟩; refine ⟨_, rfl, ?_⟩; replace HO0_1 := vB HO0_1 hb; replace HO1_1 := vB HO1_1 hb; have HO288 := Aside0.mk (Kd.V_lower (Kd.V_mono (ok' := fun k_ => ((P0_1_ k_ ∨ P1_1_ k_) ∨ w.heap.size ≤ k_) ∧ k_ ≠ gb278 ∧ k_ ≠ gb279 ∧ k_ ≠ gb280) ho0 (fun k_ hk_ => ⟨(.inr (Nat.le_trans (below_size (bG3 HB.out GE278.out GE279.out GE280.out)) hk_)), (Kd.freshB (g := gb278) (o := .cells #[.bool a0_0, .slice A0_1 l0_1.length c0_1] 27 (0, 0)) (by exact bkS BK278.out) k_ hk_), (Kd.freshB (g := gb279) (o := .cells #[.bool a1_0, .slice A1_1 l1_1.length c1_1] 27 (0, 0)) (by exact bkS BK279.out) k_ hk_), (Kd.freshB (g := gb280) (o := .cells #[.bool false, .slice none 0 0] 27 (0, 0)) (by exact bkS BK280.out) k_ hk_)⟩)) (below_size (bG3 HB.out GE278.out GE279.out GE280.out))); replace BK278 := bkB BK278 hb; replace BK279 := bkB BK279 hb; replace BK280 := bkB BK280 hb; replace HB := Aside0.mk (below_step (bG3 HB.out GE278.out GE279.out GE280.out) hb); (try clear hb); (try clear hb2); (try clear hk); (try clear hi); (try clear ho0); have hcz29_0 : w28.cell? ⟨gb278, 0, none⟩ = some (.bool a0_0) := (blk_cell BK278.out 0).trans rfl; have hcz29_1 : w28.cell? ⟨gb278, 1, none⟩ = some (.slice A0_1 l0_1.length c0_1) := (blk_cell BK278.out 1).trans rfl; have hfz29_0 := blk_frozen BK278.out 0; have hfz29_1 := blk_frozen BK278.out 1; obtain ⟨Ao30, co30, eo30⟩ := Kd.V_slice HO288.out; subst eo30; have hcz31_0 : w28.cell? ⟨gb280, 0, none⟩ = some (.bool false) := (blk_cell BK280.out 0).trans rfl; have hcz31_1 : w28.cell? ⟨gb280, 1, none⟩ = some (.slice none 0 0) := (blk_cell BK280.out 1).trans rfl; have hfz31_0 := blk_frozen BK280.out 0; have hfz31_1 := blk_frozen BK280.out 1))
   refine bodyPost_ret (results_cell_row rfl _ _ gb280 27 #[.bool a0_0, .slice Ao30 t286.length co30] (0, 0) _ rfl (by refine blkP (cs := #[.bool a0_0, .slice none 0 0]) ?_ 1 _ rfl; refine blkP (cs := #[.bool false, .slice none 0 0]) ?_ 0 _ rfl; exact bkS BK280.out) Tryd.underlying27 rfl (by kernel_rfl)) rfl ?_
   exact ⟨_, by first | rfl | (simp [errW_none, errW_some] <;> rfl) | (simp [*, errW_none, errW_some] <;> rfl), vS <| Kd.V_mono (Kd.V_far (p := ⟨gb280, 1, none⟩) (Kd.V_far (p := ⟨gb280, 0, none⟩) (Kd.V_mono HO288.out (fun k_ hk => (⟨hk, hk.2.2.2⟩ : _ ∧ k_ ≠ gb280))) (fun _ hk => hk.2) (.bool a0_0)) (fun _ hk => hk.2) (.slice Ao30 t286.length co30)) (fun _ hk => hk.1.1), bG3 HB.out GE278.out GE279.out GE280.out⟩
  ·rw [if_neg c18] at H
   have c18b0 : decide (0 ≤ t285) = false := decide_eq_false c18
   clear c18
   obtain ⟨⟨t290, t293⟩, A320, H⟩ := Option.bind_eq_some_iff.mp H
   dsimp only at H
   have A32 := Aside0.mk A320
   clear A320
   simp only [Option.some.injEq, Prod.mk.injEq] at H
   obtain ⟨rfl, rfl⟩ := H
   go_enter Tryd.func22, Tryd.ntmps22
   go_wp2_with (first | ((with_reducible refine gate_dst (N := 2) rfl ?_); refine box_event ?hg (N := 2) ?hd (cs := #[.bool a0_0, .slice A0_1 l0_1.length c0_1]) (t := 27) ?hr ?_; (case hd => rfl); (case hg => rfl); (case hr => first | (go_simp; done) | (go_simp; rfl)); intro gb278 hg w33 hbox hb; replace HO0_1 := Aside0.mk (Kd.V_below (Kd.V_elderB (vS <| HO0_1.out) gb278 (Nat.le_of_eq hg.symm)) hb); replace HO1_1 := Aside0.mk (Kd.V_below (Kd.V_elderB (vS <| HO1_1.out) gb278 (Nat.le_of_eq hg.symm)) hb); have BK278 := Aside0.mk (hbox); have GW278 := Aside0.mk ((by rw [hg]; exact (below_size (bS HB.out)) : w.heap.size ≤ gb278)); have GE278 := Aside0.mk ((by rw [hg]; exact (below_size (bS HB.out)) : w.heap.size ≤ gb278)); replace HB := hB HB hb; clear hb hbox hg) | ((with_reducible refine gate_dst (N := 3) rfl ?_); refine box_event ?hg (N := 3) ?hd (cs := #[.bool a1_0, .slice A1_1 l1_1.length c1_1]) (t := 27) ?hr ?_; (case hd => rfl); (case hg => rfl); (case hr => first | (go_simp; done) | (go_simp; rfl)); intro gb279 hg w34 hbox hb; replace HO0_1 := Aside0.mk (Kd.V_below (Kd.V_elderB (vS <| HO0_1.out) gb279 (Nat.le_of_eq hg.symm)) hb); replace HO1_1 := Aside0.mk (Kd.V_below (Kd.V_elderB (vS <| HO1_1.out) gb279 (Nat.le_of_eq hg.symm)) hb); have BK279 := Aside0.mk (hbox); have GW279 := Aside0.mk ((by rw [hg]; exact (below_size (bG1 HB.out GE278.out)) : w.heap.size ≤ gb279)); have GE279 := Aside0.mk ((by rw [hg]; exact (below_size (bG1 HB.out GE278.out)) : w.heap.size ≤ gb279)); replace HB := Aside0.mk (below_step (bG1 HB.out GE278.out) hb); have NB278_279 := Aside0.mk ((by rw [hg]; exact Nat.ne_of_lt (blk_lt (g := gb278) (o := .cells #[.bool a0_0, .slice A0_1 l0_1.length c0_1] 27 (0, 0)) (by exact bkS BK278.out)) : gb278 ≠ gb279)); have NB279_278 := Aside0.mk ((by rw [hg]; exact Nat.ne_of_gt (blk_lt (g := gb278) (o := .cells #[.bool a0_0, .slice A0_1 l0_1.length c0_1] 27 (0, 0)) (by exact bkS BK278.out)) : gb279 ≠ gb278)); replace BK278 := bkB BK278 hb; clear hb hbox hg) | ((with_reducible refine gate_dst (N := 4) rfl ?_); refine box_event ?hg (N := 4) ?hd (cs := #[.bool false, .slice none 0 0]) (t := 27) ?hr ?_; (case hd => rfl); (case hg => rfl); (case hr => first | (go_simp; done) | (go_simp; rfl)); intro gb280 hg w35 hbox hb; replace HO0_1 := Aside0.mk (Kd.V_below (Kd.V_elderB (vS <| HO0_1.out) gb280 (Nat.le_of_eq hg.symm)) hb); replace HO1_1 := Aside0.mk (Kd.V_below (Kd.V_elderB (vS <| HO1_1.out) gb280 (Nat.le_of_eq hg.symm)) hb); have BK280 := Aside0.mk (hbox); have GW280 := Aside0.mk ((by rw [hg]; exact (below_size (bG2 HB.out GE278.out GE279.out)) : w.heap.size ≤ gb280)); have GE280 := Aside0.mk ((by rw [hg]; exact (below_size (bG2 HB.out GE278.out GE279.out)) : w.heap.size ≤ gb280)); replace HB := Aside0.mk (below_step (bG2 HB.out GE278.out GE279.out) hb); have NB278_280 := Aside0.mk ((by rw [hg]; exact Nat.ne_of_lt (blk_lt (g := gb278) (o := .cells #[.bool a0_0, .slice A0_1 l0_1.length c0_1] 27 (0, 0)) (by exact bkS BK278.out)) : gb278 ≠ gb280)); have NB280_278 := Aside0.mk ((by rw [hg]; exact Nat.ne_of_gt (blk_lt (g := gb278) (o := .cells #[.bool a0_0, .slice A0_1 l0_1.length c0_1] 27 (0, 0)) (by exact bkS BK278.out)) : gb280 ≠ gb278)); replace BK278 := bkB BK278 hb; have NB279_280 := Aside0.mk ((by rw [hg]; exact Nat.ne_of_lt (blk_lt (g := gb279) (o := .cells #[.bool a1_0, .slice A1_1 l1_1.length c1_1] 27 (0, 0)) (by exact bkS BK279.out)) : gb279 ≠ gb280)); have NB280_279 := Aside0.mk ((by rw [hg]; exact Nat.ne_of_gt (blk_lt (g := gb279) (o := .cells #[.bool a1_0, .slice A1_1 l1_1.length c1_1] 27 (0, 0)) (by exact bkS BK279.out)) : gb280 ≠ gb279)); replace BK279 := bkB BK279 hb; clear hb hbox hg; have hnb36 := NB278_279.out; have hnc36 := NB279_278.out; have hnb37 := NB278_280.out; have hnc37 := NB280_278.out; have hcz38_0 : w35.cell? ⟨gb278, 0, none⟩ = some (.bool a0_0) := (blk_cell BK278.out 0).trans rfl; have hcz38_1 : w35.cell? ⟨gb278, 1, none⟩ = some (.slice A0_1 l0_1.length c0_1) := (blk_cell BK278.out 1).trans rfl; have hfz38_0 := blk_frozen BK278.out 0; have hfz38_1 := blk_frozen BK278.out 1; have hnb39 := NB279_280.out; have hnc39 := NB280_279.out; have hcz40_0 : w35.cell? ⟨gb279, 0, none⟩ = some (.bool a1_0) := (blk_cell BK279.out 0).trans rfl; have hcz40_1 : w35.cell? ⟨gb279, 1, none⟩ = some (.slice A1_1 l1_1.length c1_1) := (blk_cell BK279.out 1).trans rfl; have hfz40_0 := blk_frozen BK279.out 0; have hfz40_1 := blk_frozen BK279.out 1) | ((with_reducible refine gate_callee (f := 18) rfl ?_); refine goesL_ (some 32) rfl rfl Tryd.func18 (by kernel_rfl) rfl #[.slice A0_1 l0_1.length c0_1, .slice A1_1 l1_1.length c1_1] rfl (by (try simp only [List.map_toArray, List.map_cons, List.map_nil]); first | done | rfl) ?_; (with_reducible refine (nat_Cmp.calls k _ _ l0_1 _ _ l1_1 t285 _ ?side1 ?side2 ?side3 ?side4 A17.out).mono ?_); (case side1 => exact cS (Kd.V_reads' HO0_1.out).2.2); (case side2 => exact (Kd.V_reads' HO0_1.out).2.1); (case side3 => exact cS (Kd.V_reads' HO1_1.out).2.2); (case side4 => exact (Kd.V_reads' HO1_1.out).2.1); rintro e w' ⟨rfl, ⟨nd, rfl⟩⟩; refine ⟨_, rfl, ?_⟩; (try (rw [drewN_self w35]; generalize hq_ : World.drewN w35 _ = w35; have n0_ : Aside0 (Kd.V (Kd.int .u64) 22 w35 w.heap.size (fun k_ => ((P0_1_ k_ ∨ P1_1_ k_) ∨ w.heap.size ≤ k_) ∧ k_ ≠ gb278 ∧ k_ ≠ gb279 ∧ k_ ≠ gb280) (.slice A0_1 l0_1.length c0_1) l0_1) := ⟨by rw [← hq_]; exact (vS <| Kd.V_mono HO0_1.out (fun _ hk => ⟨hk.1.1.1, ⟨hk.1.1.2, ⟨hk.1.2, hk.2⟩⟩⟩))⟩; have n1_ : Aside0 (Kd.V (Kd.int .u64) 22 w35 w.heap.size (fun k_ => ((P0_1_ k_ ∨ P1_1_ k_) ∨ w.heap.size ≤ k_) ∧ k_ ≠ gb278 ∧ k_ ≠ gb279 ∧ k_ ≠ gb280) (.slice A1_1 l1_1.length c1_1) l1_1) := ⟨by rw [← hq_]; exact (vS <| Kd.V_mono HO1_1.out (fun _ hk => ⟨hk.1.1.1, ⟨hk.1.1.2, ⟨hk.1.2, hk.2⟩⟩⟩))⟩; have n2_ : Aside0 (w35.heap[gb278]? = some (.cells #[.bool a0_0, .slice A0_1 l0_1.length c0_1] 27 (0, 0))) := ⟨by rw [← hq_]; exact (by exact bkS BK278.out)⟩; have n3_ : Aside0 (w35.heap[gb279]? = some (.cells #[.bool a1_0, .slice A1_1 l1_1.length c1_1] 27 (0, 0))) := ⟨by rw [← hq_]; exact (by exact bkS BK279.out)⟩; have n4_ : Aside0 (w35.heap[gb280]? = some (.cells #[.bool false, .slice none 0 0] 27 (0, 0))) := ⟨by rw [← hq_]; exact (by exact bkS BK280.out)⟩; have n5_ : Aside0 (Below w.heap.size w w35) := ⟨by rw [← hq_]; exact (bG3 HB.out GE278.out GE279.out GE280.out)⟩; clear HO0_1 HO1_1 BK278 BK279 BK280 HB hq_; have HO0_1 := n0_; have HO1_1 := n1_; have BK278 := n2_; have BK279 := n3_; have BK280 := n4_; have HB := n5_; clear n0_ n1_ n2_ n3_ n4_ n5_; have hrzgb278_0 : w35.cell? ⟨gb278, 0, none⟩ = some (.bool a0_0) := (blk_cell BK278.out 0).trans rfl; have hrfgb278_0 := blk_frozen BK278.out 0; have hrzgb278_1 : w35.cell? ⟨gb278, 1, none⟩ = some (.slice A0_1 l0_1.length c0_1) := (blk_cell BK278.out 1).trans rfl; have hrfgb278_1 := blk_frozen BK278.out 1; have hrzgb279_0 : w35.cell? ⟨gb279, 0, none⟩ = some (.bool a1_0) := (blk_cell BK279.out 0).trans rfl; have hrfgb279_0 := blk_frozen BK279.out 0; have hrzgb279_1 : w35.cell? ⟨gb279, 1, none⟩ = some (.slice A1_1 l1_1.length c1_1) := (blk_cell BK279.out 1).trans rfl; have hrfgb279_1 := blk_frozen BK279.out 1; have hrzgb280_0 : w35.cell? ⟨gb280, 0, none⟩ = some (.bool false) := (blk_cell BK280.out 0).trans rfl; have hrfgb280_0 := blk_frozen BK280.out 0; have hrzgb280_1 : w35.cell? ⟨gb280, 1, none⟩ = some (.slice none 0 0) := (blk_cell BK280.out 1).trans rfl; have hrfgb280_1 := blk_frozen BK280.out 1))) | ((with_reducible refine gate_callee (f := 56) rfl ?_); refine goesL_ (some 51) rfl rfl Tryd.func56 (by kernel_rfl) rfl #[.slice A1_1 l1_1.length c1_1, .slice A0_1 l0_1.length c0_1] rfl (by (try simp only [List.map_toArray, List.map_cons, List.map_nil]); first | done | rfl) ?_; (with_reducible refine (nat_Sub.calls k _ _ l1_1 _ _ l0_1 t290 t293 _ ?side1 ?side2 ?side3 ?side4 A32.out).mono ?_); (case side1 => exact cS (Kd.V_reads' HO1_1.out).2.2); (case side2 => exact (Kd.V_reads' HO1_1.out).2.1); (case side3 => exact cS (Kd.V_reads' HO0_1.out).2.2); (case side4 => exact (Kd.V_reads' HO0_1.out).2.1); rintro e w41 ⟨v291, rfl, ho0, hb⟩; refine ⟨_, rfl, ?_⟩; replace HO0_1 := vB HO0_1 hb; replace HO1_1 := vB HO1_1 hb; have HO292 := Aside0.mk (Kd.V_lower (Kd.V_mono (ok' := fun k_ => ((P0_1_ k_ ∨ P1_1_ k_) ∨ w.heap.size ≤ k_) ∧ k_ ≠ gb278 ∧ k_ ≠ gb279 ∧ k_ ≠ gb280) ho0 (fun k_ hk_ => ⟨(.inr (Nat.le_trans (below_size (bG3 HB.out GE278.out GE279.out GE280.out)) hk_)), (Kd.freshB (g := gb278) (o := .cells #[.bool a0_0, .slice A0_1 l0_1.length c0_1] 27 (0, 0)) (by exact bkS BK278.out) k_ hk_), (Kd.freshB (g := gb279) (o := .cells #[.bool a1_0, .slice A1_1 l1_1.length c1_1] 27 (0, 0)) (by exact bkS BK279.out) k_ hk_), (Kd.freshB (g := gb280) (o := .cells #[.bool false, .slice none 0 0] 27 (0, 0)) (by exact bkS BK280.out) k_ hk_)⟩)) (below_size (bG3 HB.out GE278.out GE279.out GE280.out))); replace BK278 := bkB BK278 hb; replace BK279 := bkB BK279 hb; replace BK280 := bkB BK280 hb; replace HB := Aside0.mk (below_step (bG3 HB.out GE278.out GE279.out GE280.out) hb); (try clear hb); (try clear hb2); (try clear hk); (try clear hi); (try clear ho0); have hcz42_0 : w41.cell? ⟨gb279, 0, none⟩ = some (.bool a1_0) := (blk_cell BK279.out 0).trans rfl; have hcz42_1 : w41.cell? ⟨gb279, 1, none⟩ = some (.slice A1_1 l1_1.length c1_1) := (blk_cell BK279.out 1).trans rfl; have hfz42_0 := blk_frozen BK279.out 0; have hfz42_1 := blk_frozen BK279.out 1; obtain ⟨Ao43, co43, eo43⟩ := Kd.V_slice HO292.out; subst eo43; have hcz44_0 : w41.cell? ⟨gb280, 0, none⟩ = some (.bool false) := (blk_cell BK280.out 0).trans rfl; have hcz44_1 : w41.cell? ⟨gb280, 1, none⟩ = some (.slice none 0 0) := (blk_cell BK280.out 1).trans rfl; have hfz44_0 := blk_frozen BK280.out 0; have hfz44_1 := blk_frozen BK280.out 1))
   refine bodyPost_ret (results_cell_row rfl _ _ gb280 27 #[.bool a1_0, .slice Ao43 t290.length co43] (0, 0) _ rfl (by refine blkP (cs := #[.bool a1_0, .slice none 0 0]) ?_ 1 _ rfl; refine blkP (cs := #[.bool false, .slice none 0 0]) ?_ 0 _ rfl; exact bkS BK280.out) Tryd.underlying27 rfl (by kernel_rfl)) rfl ?_
   exact ⟨_, by first | rfl | (simp [errW_none, errW_some] <;> rfl) | (simp [*, errW_none, errW_some] <;> rfl), vS <| Kd.V_mono (Kd.V_far (p := ⟨gb280, 1, none⟩) (Kd.V_far (p := ⟨gb280, 0, none⟩) (Kd.V_mono HO292.out (fun k_ hk => (⟨hk, hk.2.2.2⟩ : _ ∧ k_ ≠ gb280))) (fun _ hk => hk.2) (.bool a1_0)) (fun _ hk => hk.2) (.slice Ao43 t290.length co43)) (fun _ hk => hk.1.1), bG3 HB.out GE278.out GE279.out GE280.out⟩

/-! ### abacuslaw05_apart: function 54 -/
def abacuslaw05_apart.f (k : Nat) (a0_0 : Bool) (l0_1 : List Int) (a1_0 : Bool) (l1_1 : List Int) : Option (List Int) := (abacuslaw05_plus.f k a0_0 l0_1 (!a1_0) l1_1).bind fun bt296 => (some bt296.2)
theorem abacuslaw05_apart.mono : ∀ a0 a1 a2 a3 k, LeO (abacuslaw05_apart.f k a0 a1 a2 a3) (abacuslaw05_apart.f (k + 1) a0 a1 a2 a3) := by
 intro a0 a1 a2 a3 k
 unfold abacuslaw05_apart.f
 repeat' first
   | (with_reducible exact abacuslaw05_plus.mono _ _ _ _ _)
   | (with_reducible exact LeO.refl _)
   | (with_reducible exact LeO.none _)
   | (with_reducible refine LeO.ite ?_ ?_)
   | (with_reducible refine LeO.bind ?_ (fun _ => ?_))
   | exact abacuslaw05_plus.mono _ _ _ _ _
   | exact LeO.none _
   | refine LeO.ite ?_ ?_
   | refine LeO.bind ?_ (fun _ => ?_)
set_option maxHeartbeats 8000000 in
set_option maxRecDepth 100000 in
theorem abacuslaw05_apart.calls (k : Nat) (a0_0 : Bool) (P0_1_ : Nat → Prop) (A0_1 : Option Addr) (c0_1 : Nat) (l0_1 : List Int) (a1_0 : Bool) (P1_1_ : Nat → Prop) (A1_1 : Option Addr) (c1_1 : Nat) (l1_1 : List Int) (r : List Int) (w : World) (hs0_1 : Kd.V (Kd.int .u64) 22 w w.heap.size (fun k_ => P0_1_ k_) (.slice A0_1 l0_1.length c0_1) l0_1) (hs1_1 : Kd.V (Kd.int .u64) 22 w w.heap.size (fun k_ => P1_1_ k_) (.slice A1_1 l1_1.length c1_1) l1_1) (h : abacuslaw05_apart.f k a0_0 l0_1 a1_0 l1_1 = some r) :
  Calls Tryd.prog 54 #[.agg #[.bool a0_0, .slice A0_1 l0_1.length c0_1], .agg #[.bool a1_0, .slice A1_1 l1_1.length c1_1]] w fun e w' => ∃ v0_ : Value, e = .returned (v0_) ∧ Kd.V (Kd.int .u64) 22 w' w.heap.size (fun k_ => ((P0_1_ k_ ∨ P1_1_ k_) ∨ w.heap.size ≤ k_)) v0_ r ∧ Below w.heap.size w w' := by
 have hu27 := Tryd.underlying27
 have HO0_1 := Aside0.mk (show Kd.V (Kd.int .u64) 22 w w.heap.size (fun k_ => ((P0_1_ k_ ∨ P1_1_ k_) ∨ w.heap.size ≤ k_)) (.slice A0_1 l0_1.length c0_1) l0_1 from Kd.V_mono hs0_1 (fun k_ hk => .inl (.inl hk)))
 have HO1_1 := Aside0.mk (show Kd.V (Kd.int .u64) 22 w w.heap.size (fun k_ => ((P0_1_ k_ ∨ P1_1_ k_) ∨ w.heap.size ≤ k_)) (.slice A1_1 l1_1.length c1_1) l1_1 from Kd.V_mono hs1_1 (fun k_ hk => .inl (.inr hk)))
 have HB := Aside0.mk (Below.refl w.heap.size w)
 have H : ((abacuslaw05_plus.f k a0_0 l0_1 (!a1_0) l1_1).bind fun bt296 => (some bt296.2)) = some r := h
 clear h
 obtain ⟨⟨t296, t297⟩, A30, H⟩ := Option.bind_eq_some_iff.mp H
 dsimp only at H
 have A3 := Aside0.mk A30
 clear A30
 obtain rfl := Option.some.inj H
 go_enter Tryd.func54, Tryd.ntmps54
 go_wp2_with (first | ((with_reducible refine gate_dst (N := 2) rfl ?_); refine box_event ?hg (N := 2) ?hd (cs := #[.bool a0_0, .slice A0_1 l0_1.length c0_1]) (t := 27) ?hr ?_; (case hd => rfl); (case hg => rfl); (case hr => first | (go_simp; done) | (go_simp; rfl)); intro gb294 hg w4 hbox hb; replace HO0_1 := Aside0.mk (Kd.V_below (Kd.V_elderB (vS <| HO0_1.out) gb294 (Nat.le_of_eq hg.symm)) hb); replace HO1_1 := Aside0.mk (Kd.V_below (Kd.V_elderB (vS <| HO1_1.out) gb294 (Nat.le_of_eq hg.symm)) hb); have BK294 := Aside0.mk (hbox); have GW294 := Aside0.mk ((by rw [hg]; exact (below_size (bS HB.out)) : w.heap.size ≤ gb294)); have GE294 := Aside0.mk ((by rw [hg]; exact (below_size (bS HB.out)) : w.heap.size ≤ gb294)); replace HB := hB HB hb; clear hb hbox hg) | ((with_reducible refine gate_dst (N := 3) rfl ?_); refine box_event ?hg (N := 3) ?hd (cs := #[.bool a1_0, .slice A1_1 l1_1.length c1_1]) (t := 27) ?hr ?_; (case hd => rfl); (case hg => rfl); (case hr => first | (go_simp; done) | (go_simp; rfl)); intro gb295 hg w5 hbox hb; replace HO0_1 := Aside0.mk (Kd.V_below (Kd.V_elderB (vS <| HO0_1.out) gb295 (Nat.le_of_eq hg.symm)) hb); replace HO1_1 := Aside0.mk (Kd.V_below (Kd.V_elderB (vS <| HO1_1.out) gb295 (Nat.le_of_eq hg.symm)) hb); have BK295 := Aside0.mk (hbox); have GW295 := Aside0.mk ((by rw [hg]; exact (below_size (bG1 HB.out GE294.out)) : w.heap.size ≤ gb295)); have GE295 := Aside0.mk ((by rw [hg]; exact (below_size (bG1 HB.out GE294.out)) : w.heap.size ≤ gb295)); replace HB := Aside0.mk (below_step (bG1 HB.out GE294.out) hb); have NB294_295 := Aside0.mk ((by rw [hg]; exact Nat.ne_of_lt (blk_lt (g := gb294) (o := .cells #[.bool a0_0, .slice A0_1 l0_1.length c0_1] 27 (0, 0)) (by exact bkS BK294.out)) : gb294 ≠ gb295)); have NB295_294 := Aside0.mk ((by rw [hg]; exact Nat.ne_of_gt (blk_lt (g := gb294) (o := .cells #[.bool a0_0, .slice A0_1 l0_1.length c0_1] 27 (0, 0)) (by exact bkS BK294.out)) : gb295 ≠ gb294)); replace BK294 := bkB BK294 hb; clear hb hbox hg; have hnb6 := NB294_295.out; have hnc6 := NB295_294.out; have hcz7_0 : w5.cell? ⟨gb294, 0, none⟩ = some (.bool a0_0) := (blk_cell BK294.out 0).trans rfl; have hcz7_1 : w5.cell? ⟨gb294, 1, none⟩ = some (.slice A0_1 l0_1.length c0_1) := (blk_cell BK294.out 1).trans rfl; have hfz7_0 := blk_frozen BK294.out 0; have hfz7_1 := blk_frozen BK294.out 1; have hcz8_0 : w5.cell? ⟨gb295, 0, none⟩ = some (.bool a1_0) := (blk_cell BK295.out 0).trans rfl; have hcz8_1 : w5.cell? ⟨gb295, 1, none⟩ = some (.slice A1_1 l1_1.length c1_1) := (blk_cell BK295.out 1).trans rfl; have hfz8_0 := blk_frozen BK295.out 0; have hfz8_1 := blk_frozen BK295.out 1) | ((with_reducible refine gate_callee (f := 22) rfl ?_); refine goesL_ (some 13) rfl rfl Tryd.func22 (by kernel_rfl) rfl #[.agg #[.bool a0_0, .slice A0_1 l0_1.length c0_1], .agg #[.bool (!a1_0), .slice A1_1 l1_1.length c1_1]] rfl (by (try simp only [List.map_toArray, List.map_cons, List.map_nil]); first | done | rfl) ?_; (with_reducible refine (abacuslaw05_plus.calls k a0_0 (fun k_ => ((((P0_1_ k_ ∨ P1_1_ k_) ∨ w.heap.size ≤ k_) ∧ k_ ≠ gb294) ∧ k_ ≠ gb295)) _ _ l0_1 (!a1_0) (fun k_ => ((((P0_1_ k_ ∨ P1_1_ k_) ∨ w.heap.size ≤ k_) ∧ k_ ≠ gb294) ∧ k_ ≠ gb295)) _ _ l1_1 t296 t297 _ ?side1 ?side2 A3.out).mono ?_); (case side1 => exact HO0_1.out); (case side2 => exact HO1_1.out); rintro e w9 ⟨v298, rfl, ho0, hb⟩; refine ⟨_, rfl, ?_⟩; replace HO0_1 := vB HO0_1 hb; replace HO1_1 := vB HO1_1 hb; have HO299 := Aside0.mk (Kd.V_lower (Kd.V_mono (ok' := fun k_ => ((P0_1_ k_ ∨ P1_1_ k_) ∨ w.heap.size ≤ k_) ∧ k_ ≠ gb294 ∧ k_ ≠ gb295) ho0 (fun k_ hk_ => ⟨Or.elim hk_ (fun hs_ => Or.elim hs_ (fun hs_ => hs_.1.1) (fun hs_ => hs_.1.1)) (fun hn_ => (.inr (Nat.le_trans (below_size (bG2 HB.out GE294.out GE295.out)) hn_))), Or.elim hk_ (fun hs_ => Or.elim hs_ (fun hs_ => hs_.1.2) (fun hs_ => hs_.1.2)) (fun hn_ => (Kd.freshB (g := gb294) (o := .cells #[.bool a0_0, .slice A0_1 l0_1.length c0_1] 27 (0, 0)) (by exact bkS BK294.out) k_ hn_)), Or.elim hk_ (fun hs_ => Or.elim hs_ (fun hs_ => hs_.2) (fun hs_ => hs_.2)) (fun hn_ => (Kd.freshB (g := gb295) (o := .cells #[.bool a1_0, .slice A1_1 l1_1.length c1_1] 27 (0, 0)) (by exact bkS BK295.out) k_ hn_))⟩)) (below_size (bG2 HB.out GE294.out GE295.out))); replace BK294 := bkB BK294 hb; replace BK295 := bkB BK295 hb; replace HB := Aside0.mk (below_step (bG2 HB.out GE294.out GE295.out) hb); (try clear hb); (try clear hb2); (try clear hk); (try clear hi); (try clear ho0)) | ((with_reducible refine gate_dst (N := 5) rfl ?_); refine box_event ?hg (N := 5) ?hd (cs := #[.bool false, .slice none 0 0]) (t := 27) ?hr ?_; (case hd => rfl); (case hg => rfl); (case hr => first | (go_simp; done) | (go_simp; rfl)); intro gb300 hg w10 hbox hb; replace HO0_1 := Aside0.mk (Kd.V_below (Kd.V_elderB (vS <| HO0_1.out) gb300 (Nat.le_of_eq hg.symm)) hb); replace HO1_1 := Aside0.mk (Kd.V_below (Kd.V_elderB (vS <| HO1_1.out) gb300 (Nat.le_of_eq hg.symm)) hb); replace HO299 := Aside0.mk (Kd.V_below (Kd.V_elderB (vS <| HO299.out) gb300 (Nat.le_of_eq hg.symm)) hb); have BK300 := Aside0.mk (hbox); have GW300 := Aside0.mk ((by rw [hg]; exact (below_size (bG2 HB.out GE294.out GE295.out)) : w.heap.size ≤ gb300)); have GE300 := Aside0.mk ((by rw [hg]; exact (below_size (bG2 HB.out GE294.out GE295.out)) : w.heap.size ≤ gb300)); replace HB := Aside0.mk (below_step (bG2 HB.out GE294.out GE295.out) hb); have NB294_300 := Aside0.mk ((by rw [hg]; exact Nat.ne_of_lt (blk_lt (g := gb294) (o := .cells #[.bool a0_0, .slice A0_1 l0_1.length c0_1] 27 (0, 0)) (by exact bkS BK294.out)) : gb294 ≠ gb300)); have NB300_294 := Aside0.mk ((by rw [hg]; exact Nat.ne_of_gt (blk_lt (g := gb294) (o := .cells #[.bool a0_0, .slice A0_1 l0_1.length c0_1] 27 (0, 0)) (by exact bkS BK294.out)) : gb300 ≠ gb294)); replace BK294 := bkB BK294 hb; have NB295_300 := Aside0.mk ((by rw [hg]; exact Nat.ne_of_lt (blk_lt (g := gb295) (o := .cells #[.bool a1_0, .slice A1_1 l1_1.length c1_1] 27 (0, 0)) (by exact bkS BK295.out)) : gb295 ≠ gb300)); have NB300_295 := Aside0.mk ((by rw [hg]; exact Nat.ne_of_gt (blk_lt (g := gb295) (o := .cells #[.bool a1_0, .slice A1_1 l1_1.length c1_1] 27 (0, 0)) (by exact bkS BK295.out)) : gb300 ≠ gb295)); replace BK295 := bkB BK295 hb; clear hb hbox hg; have hnb11 := NB300_294.out; have hnc11 := NB294_300.out; have hnb12 := NB300_295.out; have hnc12 := NB295_300.out; have hcz13_0 : w10.cell? ⟨gb300, 0, none⟩ = some (.bool false) := (blk_cell BK300.out 0).trans rfl; have hcz13_1 : w10.cell? ⟨gb300, 1, none⟩ = some (.slice none 0 0) := (blk_cell BK300.out 1).trans rfl; have hfz13_0 := blk_frozen BK300.out 0; have hfz13_1 := blk_frozen BK300.out 1; obtain ⟨Ao14, co14, eo14⟩ := Kd.V_slice HO299.out; subst eo14))
 go_ret
 exact ⟨_, by first | rfl | (simp [errW_none, errW_some] <;> rfl) | (simp [*, errW_none, errW_some] <;> rfl), vS <| Kd.V_mono (Kd.V_far (p := ⟨gb300, 1, none⟩) (Kd.V_far (p := ⟨gb300, 0, none⟩) (Kd.V_mono HO299.out (fun k_ hk => (⟨hk, hk.2⟩ : _ ∧ k_ ≠ gb300))) (fun _ hk => hk.2) (.bool t296)) (fun _ hk => hk.2) (.slice Ao14 t297.length co14)) (fun _ hk => hk.1.1.1), bG3 HB.out GE294.out GE295.out GE300.out⟩

/-! ### abacuslaw05_same: function 21 -/
def abacuslaw05_same.f (k : Nat) (a0_0 : Bool) (l0_1 : List Int) (a1_0 : Bool) (l1_1 : List Int) : Option (Bool) := (abacuslaw05_apart.f k a0_0 l0_1 a1_0 l1_1).bind fun t303 => (some ((t303.length : Int) == 0))
theorem abacuslaw05_same.mono : ∀ a0 a1 a2 a3 k, LeO (abacuslaw05_same.f k a0 a1 a2 a3) (abacuslaw05_same.f (k + 1) a0 a1 a2 a3) := by
 intro a0 a1 a2 a3 k
 unfold abacuslaw05_same.f
 repeat' first
   | (with_reducible exact abacuslaw05_apart.mono _ _ _ _ _)
   | (with_reducible exact LeO.refl _)
   | (with_reducible exact LeO.none _)
   | (with_reducible refine LeO.ite ?_ ?_)
   | (with_reducible refine LeO.bind ?_ (fun _ => ?_))
   | exact abacuslaw05_apart.mono _ _ _ _ _
   | exact LeO.none _
   | refine LeO.ite ?_ ?_
   | refine LeO.bind ?_ (fun _ => ?_)
set_option maxHeartbeats 8000000 in
set_option maxRecDepth 100000 in
theorem abacuslaw05_same.calls (k : Nat) (a0_0 : Bool) (A0_1 : Option Addr) (c0_1 : Nat) (l0_1 : List Int) (a1_0 : Bool) (A1_1 : Option Addr) (c1_1 : Nat) (l1_1 : List Int) (r : Bool) (w : World) (hr0_1 : Kd.C (Kd.int .u64) w A0_1 l0_1.length l0_1) (hc0_1 : l0_1.length ≤ c0_1) (hr1_1 : Kd.C (Kd.int .u64) w A1_1 l1_1.length l1_1) (hc1_1 : l1_1.length ≤ c1_1) (h : abacuslaw05_same.f k a0_0 l0_1 a1_0 l1_1 = some r) :
  Calls Tryd.prog 21 #[.agg #[.bool a0_0, .slice A0_1 l0_1.length c0_1], .agg #[.bool a1_0, .slice A1_1 l1_1.length c1_1]] w fun e w' => e = .returned (.bool r) ∧ Below w.heap.size w w' := by
 have hu27 := Tryd.underlying27
 have HR0_1 := Aside0.mk hr0_1
 have HC0_1 := Aside0.mk hc0_1
 clear hr0_1 hc0_1
 have HR1_1 := Aside0.mk hr1_1
 have HC1_1 := Aside0.mk hc1_1
 clear hr1_1 hc1_1
 have HB := Aside0.mk (Below.refl w.heap.size w)
 have H : ((abacuslaw05_apart.f k a0_0 l0_1 a1_0 l1_1).bind fun t303 => (some ((t303.length : Int) == 0))) = some r := h
 clear h
 obtain ⟨t303, A30, H⟩ := Option.bind_eq_some_iff.mp H
 have A3 := Aside0.mk A30
 clear A30
 obtain rfl := Option.some.inj H
 go_enter Tryd.func21, Tryd.ntmps21
 go_wp2_with (first | ((with_reducible refine gate_dst (N := 2) rfl ?_); refine box_event ?hg (N := 2) ?hd (cs := #[.bool a0_0, .slice A0_1 l0_1.length c0_1]) (t := 27) ?hr ?_; (case hd => rfl); (case hg => rfl); (case hr => first | (go_simp; done) | (go_simp; rfl)); intro gb301 hg w4 hbox hb; have BK301 := Aside0.mk (hbox); have GW301 := Aside0.mk ((by rw [hg]; exact (below_size (bS HB.out)) : w.heap.size ≤ gb301)); have GE301 := Aside0.mk ((by rw [hg]; exact (below_size (bS HB.out)) : w.heap.size ≤ gb301)); replace HB := hB HB hb; clear hb hbox hg) | ((with_reducible refine gate_dst (N := 3) rfl ?_); refine box_event ?hg (N := 3) ?hd (cs := #[.bool a1_0, .slice A1_1 l1_1.length c1_1]) (t := 27) ?hr ?_; (case hd => rfl); (case hg => rfl); (case hr => first | (go_simp; done) | (go_simp; rfl)); intro gb302 hg w5 hbox hb; have BK302 := Aside0.mk (hbox); have GW302 := Aside0.mk ((by rw [hg]; exact (below_size (bG1 HB.out GE301.out)) : w.heap.size ≤ gb302)); have GE302 := Aside0.mk ((by rw [hg]; exact (below_size (bG1 HB.out GE301.out)) : w.heap.size ≤ gb302)); replace HB := Aside0.mk (below_step (bG1 HB.out GE301.out) hb); have NB301_302 := Aside0.mk ((by rw [hg]; exact Nat.ne_of_lt (blk_lt (g := gb301) (o := .cells #[.bool a0_0, .slice A0_1 l0_1.length c0_1] 27 (0, 0)) (by exact bkS BK301.out)) : gb301 ≠ gb302)); have NB302_301 := Aside0.mk ((by rw [hg]; exact Nat.ne_of_gt (blk_lt (g := gb301) (o := .cells #[.bool a0_0, .slice A0_1 l0_1.length c0_1] 27 (0, 0)) (by exact bkS BK301.out)) : gb302 ≠ gb301)); replace BK301 := bkB BK301 hb; clear hb hbox hg; have hnb6 := NB301_302.out; have hnc6 := NB302_301.out; have hcz7_0 : w5.cell? ⟨gb301, 0, none⟩ = some (.bool a0_0) := (blk_cell BK301.out 0).trans rfl; have hcz7_1 : w5.cell? ⟨gb301, 1, none⟩ = some (.slice A0_1 l0_1.length c0_1) := (blk_cell BK301.out 1).trans rfl; have hfz7_0 := blk_frozen BK301.out 0; have hfz7_1 := blk_frozen BK301.out 1; have hcz8_0 : w5.cell? ⟨gb302, 0, none⟩ = some (.bool a1_0) := (blk_cell BK302.out 0).trans rfl; have hcz8_1 : w5.cell? ⟨gb302, 1, none⟩ = some (.slice A1_1 l1_1.length c1_1) := (blk_cell BK302.out 1).trans rfl; have hfz8_0 := blk_frozen BK302.out 0; have hfz8_1 := blk_frozen BK302.out 1) | ((with_reducible refine gate_callee (f := 54) rfl ?_); refine goesL_ (some 7) rfl rfl Tryd.func54 (by kernel_rfl) rfl #[.agg #[.bool a0_0, .slice A0_1 l0_1.length c0_1], .agg #[.bool a1_0, .slice A1_1 l1_1.length c1_1]] rfl (by (try simp only [List.map_toArray, List.map_cons, List.map_nil]); first | done | rfl) ?_; (with_reducible refine (abacuslaw05_apart.calls k a0_0 (fun k_ => k_ < w.heap.size) _ _ l0_1 a1_0 (fun k_ => k_ < w.heap.size) _ _ l1_1 t303 _ ?side1 ?side2 A3.out).mono ?_); (case side1 => exact Kd.V_mk HC0_1.out (Kd.F_below (Kd.C_F (Kd.heap_int .u64) HR0_1.out) (bG2 HB.out GE301.out GE302.out))); (case side2 => exact Kd.V_mk HC1_1.out (Kd.F_below (Kd.C_F (Kd.heap_int .u64) HR1_1.out) (bG2 HB.out GE301.out GE302.out))); rintro e w9 ⟨v304, rfl, ho0, hb⟩; refine ⟨_, rfl, ?_⟩; have HO305 := Aside0.mk (Kd.V_lower (Kd.V_mono (ok' := fun k_ => k_ ≠ gb301 ∧ k_ ≠ gb302) ho0 (fun k_ hk_ => ⟨Or.elim hk_ (fun hs_ => Or.elim hs_ (fun hs_ => fun e_ => Nat.not_le.2 hs_ (by rw [e_]; exact GW301.out)) (fun hs_ => fun e_ => Nat.not_le.2 hs_ (by rw [e_]; exact GW301.out))) (fun hn_ => (Kd.freshB (g := gb301) (o := .cells #[.bool a0_0, .slice A0_1 l0_1.length c0_1] 27 (0, 0)) (by exact bkS BK301.out) k_ hn_)), Or.elim hk_ (fun hs_ => Or.elim hs_ (fun hs_ => fun e_ => Nat.not_le.2 hs_ (by rw [e_]; exact GW302.out)) (fun hs_ => fun e_ => Nat.not_le.2 hs_ (by rw [e_]; exact GW302.out))) (fun hn_ => (Kd.freshB (g := gb302) (o := .cells #[.bool a1_0, .slice A1_1 l1_1.length c1_1] 27 (0, 0)) (by exact bkS BK302.out) k_ hn_))⟩)) (below_size (bG2 HB.out GE301.out GE302.out))); replace BK301 := bkB BK301 hb; replace BK302 := bkB BK302 hb; replace HB := Aside0.mk (below_step (bG2 HB.out GE301.out GE302.out) hb); (try clear hb); (try clear hb2); (try clear hk); (try clear hi); (try clear ho0); obtain ⟨Ao10, co10, eo10⟩ := Kd.V_slice HO305.out; subst eo10))
 go_ret
 exact ⟨by first | rfl | (simp [errW_none, errW_some] <;> rfl) | (simp [*, errW_none, errW_some] <;> rfl), bG2 HB.out GE301.out GE302.out⟩

/-! ### soft_invalid: function 86 -/
def soft_invalid.f  : Option (Int × Int) := some (9221120237041090560, 1)
set_option maxHeartbeats 8000000 in
set_option maxRecDepth 100000 in
theorem soft_invalid.calls  (r1 : Int) (r2 : Int) (w : World) (h : soft_invalid.f  = some (r1, r2)) :
  Calls Tryd.prog 86 #[] w fun e w' => e = .returned (.tuple #[.int .u64 r1, .int .i64 r2]) ∧ Drawn0 w w' := by
 have H : (some (9221120237041090560, 1)) = some (r1, r2) := h
 clear h
 simp only [Option.some.injEq, Prod.mk.injEq] at H
 obtain ⟨rfl, rfl⟩ := H
 go_enter Tryd.func86, Tryd.ntmps86
 go_wp2
 go_ret2
 exact ⟨by first | rfl | (simp; done) | (simp [*]; done), by repeat (first | exact Drawn0.refl _ | apply Drawn0.step)⟩

/-! ### soft_withSign: function 90 -/
def soft_withSign.f (a0 : Bool) (a1 : Int) : Option (Int) := if a0 = true then (some (Go.bits .or .u64 a1 9223372036854775808)) else (some a1)
set_option maxHeartbeats 8000000 in
set_option maxRecDepth 100000 in
theorem soft_withSign.calls (a0 : Bool) (a1 : Int) (r : Int) (w : World) (h : soft_withSign.f a0 a1 = some r) :
  Calls Tryd.prog 90 #[.bool a0, .int .u64 a1] w fun e w' => e = .returned (.int .u64 r) ∧ Drawn0 w w' := by
 have H : (if a0 = true then (some (Go.bits .or .u64 a1 9223372036854775808)) else (some a1)) = some r := h
 clear h
 by_cases c3 : a0 = true
 ·subst c3
  have H1 : (some (Go.bits .or .u64 a1 9223372036854775808)) = some r := by rw [if_pos rfl] at H; exact H
  clear H
  have H := H1
  clear H1
  obtain rfl := Option.some.inj H
  go_enter Tryd.func90, Tryd.ntmps90
  go_wp2
  go_ret
  exact ⟨by first | rfl | (simp; done) | (simp [*]; done), by repeat (first | exact Drawn0.refl _ | apply Drawn0.step)⟩
 ·replace c3 := Bool.eq_false_iff.mpr c3
  subst c3
  have H1 : (some a1) = some r := by rw [if_neg (show ¬ (false = true) by decide)] at H; exact H
  clear H
  have H := H1
  clear H1
  obtain rfl := Option.some.inj H
  go_enter Tryd.func90, Tryd.ntmps90
  go_wp2
  go_ret
  exact ⟨by first | rfl | (simp; done) | (simp [*]; done), by repeat (first | exact Drawn0.refl _ | apply Drawn0.step)⟩

/-! ### bits_Len64: function 125 (its contract by hand) -/
def bits_Len64.f (a0 : Int) : Option Int := if 0 ≤ a0 ∧ a0 ≤ 18446744073709551615 then some (Lib.bitLen a0.toNat : Nat) else none
theorem bits_Len64.calls (a0 r : Int) (w : World) (h : bits_Len64.f a0 = some r) :
  Calls Tryd.prog 125 #[.int .u64 a0] w fun e w' => e = .returned (.int .i64 r) ∧ Drawn0 w w' := by
 unfold bits_Len64.f at h
 split at h
 ·rename_i hh
  obtain rfl := Option.some.inj h
  refine (Go.Proofs.YtcdnoklokoplaaaDoorG.len64 a0 w hh.1 hh.2).mono ?_
  rintro e w' ⟨rfl, rfl⟩
  exact ⟨rfl, Drawn0.refl _⟩
 ·exact absurd h (by simp)

/-! ### nat_BitLen: function 95 -/
def nat_BitLen.f (k : Nat) (l0 : List Int) : Option (Int) := (nat_size.f k l0).bind fun t306 => (if t306 = 0 then (some 0) else (if 0 ≤ (wrap64 (t306 - 1)) then (if (wrap64 (t306 - 1)) < (l0.length : Int) then ((bits_Len64.f (rd l0 (wrap64 (t306 - 1)))).bind fun t308 => (some (wrap64 ((wrap64 (64 * (wrap64 (t306 - 1)))) + t308)))) else (none)) else (none)))
theorem nat_BitLen.mono : ∀ a0 k, LeO (nat_BitLen.f k a0) (nat_BitLen.f (k + 1) a0) := by
 intro a0 k
 unfold nat_BitLen.f
 repeat' first
   | (with_reducible exact nat_size.mono _ _)
   | (with_reducible exact LeO.refl _)
   | (with_reducible exact LeO.none _)
   | (with_reducible refine LeO.ite ?_ ?_)
   | (with_reducible refine LeO.bind ?_ (fun _ => ?_))
   | exact nat_size.mono _ _
   | exact LeO.none _
   | refine LeO.ite ?_ ?_
   | refine LeO.bind ?_ (fun _ => ?_)
set_option maxHeartbeats 8000000 in
set_option maxRecDepth 100000 in
theorem nat_BitLen.calls (k : Nat) (A0 : Option Addr) (c0 : Nat) (l0 : List Int) (r : Int) (w : World) (hr0 : Kd.C (Kd.int .u64) w A0 l0.length l0) (hc0 : l0.length ≤ c0) (h : nat_BitLen.f k l0 = some r) :
  Calls Tryd.prog 95 #[.slice A0 l0.length c0] w fun e w' => e = .returned (.int .i64 r) ∧ Drawn0 w w' := by
 have HR0 := Aside0.mk hr0
 have HC0 := Aside0.mk hc0
 clear hr0 hc0
 have H : ((nat_size.f k l0).bind fun t306 => (if t306 = 0 then (some 0) else (if 0 ≤ (wrap64 (t306 - 1)) then (if (wrap64 (t306 - 1)) < (l0.length : Int) then ((bits_Len64.f (rd l0 (wrap64 (t306 - 1)))).bind fun t308 => (some (wrap64 ((wrap64 (64 * (wrap64 (t306 - 1)))) + t308)))) else (none)) else (none)))) = some r := h
 clear h
 replace H := Option.bind_eq_some_iff.mp H
 obtain ⟨t306, A20, H⟩ := H
 replace H : (if t306 = 0 then (some 0) else (if 0 ≤ (wrap64 (t306 - 1)) then (if (wrap64 (t306 - 1)) < (l0.length : Int) then ((bits_Len64.f (rd l0 (wrap64 (t306 - 1)))).bind fun t308 => (some (wrap64 ((wrap64 (64 * (wrap64 (t306 - 1)))) + t308)))) else (none)) else (none))) = some r := H
 have A2 := Aside0.mk A20
 clear A20
 by_cases c3 : t306 = 0
 ·rw [if_pos c3] at H
  have c3b0 : (t306 == 0) = true := beq_iff_eq.mpr c3
  have c3b1 : (t306 != 0) = false := bne_eq_false_iff_eq.mpr c3
  clear c3
  obtain rfl := Option.some.inj H
  go_enter Tryd.func95, Tryd.ntmps95
  go_wp2_with (first | ((with_reducible refine gate_callee (f := 52) rfl ?_); refine goesL_ (some 5) rfl rfl Tryd.func52 (by kernel_rfl) rfl #[.slice A0 l0.length c0] rfl (by (try simp only [List.map_toArray, List.map_cons, List.map_nil]); first | done | rfl) ?_; (with_reducible refine (nat_size.calls k _ _ l0 t306 _ ?side1 ?side2 A2.out).mono ?_); (case side1 => exact cS HR0.out); (case side2 => exact HC0.out); rintro e w' ⟨rfl, ⟨nd, rfl⟩⟩; refine ⟨_, rfl, ?_⟩))
  go_ret
  exact ⟨by first | rfl | (simp; done) | (simp [*]; done), by repeat (first | exact Drawn0.refl _ | apply Drawn0.step)⟩
 ·rw [if_neg c3] at H
  have c3b0 : (t306 == 0) = false := beq_eq_false_iff_ne.mpr c3
  have c3b1 : (t306 != 0) = true := bne_iff_ne.mpr c3
  obtain ⟨ji4, hji4⟩ : ∃ j_ : Int, (wrap64 (t306 - 1)) = j_ := ⟨_, rfl⟩
  replace H : (if 0 ≤ (ji4) then (if (ji4) < (l0.length : Int) then ((bits_Len64.f (rd l0 (ji4))).bind fun t308 => (some (wrap64 ((wrap64 (64 * (ji4))) + t308)))) else (none)) else (none)) = some r := by first | (rw [hji4] at H; exact H) | (simp only [hji4] at H ⊢; exact H)
  (try rw [hji4] at A2)
  have hji4w : (IntKind.i64.wrap (t306 - 1)) = ji4 := (i64_w _).trans hji4
  by_cases c5 : 0 ≤ (ji4)
  ·rw [if_pos c5] at H
   have c5b0 : decide (0 ≤ (ji4)) = true := decide_eq_true c5
   clear c5
   by_cases c6 : (ji4) < (l0.length : Int)
   ·rw [if_pos c6] at H
    have c6b0 : decide ((ji4) < (l0.length : Int)) = true := decide_eq_true c6
    clear c6
    obtain ⟨t308, A70, H⟩ := Option.bind_eq_some_iff.mp H
    have A7 := Aside0.mk A70
    clear A70
    obtain rfl := Option.some.inj H
    go_enter Tryd.func95, Tryd.ntmps95
    go_wp2_with (first | ((with_reducible refine gate_callee (f := 52) rfl ?_); refine goesL_ (some 5) rfl rfl Tryd.func52 (by kernel_rfl) rfl #[.slice A0 l0.length c0] rfl (by (try simp only [List.map_toArray, List.map_cons, List.map_nil]); first | done | rfl) ?_; (with_reducible refine (nat_size.calls k _ _ l0 t306 _ ?side1 ?side2 A2.out).mono ?_); (case side1 => exact cS HR0.out); (case side2 => exact HC0.out); rintro e w' ⟨rfl, ⟨nd, rfl⟩⟩; refine ⟨_, rfl, ?_⟩; have p307 : 0 ≤ ((ji4) : Int) := of_decide_eq_true (by first | (with_reducible assumption) | assumption); have q307 : (ji4) < (l0.length : Int) := of_decide_eq_true (by first | (with_reducible assumption) | assumption); obtain ⟨ad307, e307, hx307_0⟩ := Kd.at_int HR0.out (ji4) p307 q307; cases e307; replace p307 := eq_true p307; replace q307 := eq_true q307) | ((with_reducible refine gate_callee (f := 125) rfl ?_); refine goesL_ (some 16) rfl rfl Tryd.func125 (by kernel_rfl) rfl #[.int .u64 (rd l0 (ji4))] rfl (by (try simp only [List.map_toArray, List.map_cons, List.map_nil]); first | done | (simp only [hji4]; rfl) | rfl) ?_; (with_reducible refine (bits_Len64.calls (rd l0 (ji4)) t308 _ A7.out).mono ?_); rintro e w' ⟨rfl, ⟨nd, rfl⟩⟩; refine ⟨_, rfl, ?_⟩))
    go_ret
    exact ⟨by first | rfl | (simp; done) | (simp only [← hji4] <;> (first | rfl | simp)) | (simp [*]; done), by repeat (first | exact Drawn0.refl _ | apply Drawn0.step)⟩
   ·rw [if_neg c6] at H
    exact absurd H (by simp)
  ·rw [if_neg c5] at H
   exact absurd H (by simp)

/-! ### bits_TrailingZeros64: function 126 (its contract by hand) -/
def bits_TrailingZeros64.f (a0 : Int) : Option Int := if 0 ≤ a0 ∧ a0 < 18446744073709551616 then some (Lib.ctz 64 a0.toNat : Nat) else none
set_option maxHeartbeats 1000000 in
theorem bits_TrailingZeros64.core (x k idx : Nat) (w : World) (hx0 : ((x : Int) == 0) = false)
  (key : IntKind.u64.wrap (bits BinOp.and IntKind.u64 (x : Int) (IntKind.u64.wrap (-(x : Int))) * 285870213051353865) / 288230376151711744 = (idx : Int))
  (hi : idx < 64) (hk : k < 64) (hcell : w.cell? ⟨0, idx, none⟩ = some (.int .u8 k)) :
  Calls Tryd.prog 126 #[.int .u64 x] w fun e w' => e = .returned (.int .i64 k) ∧ w' = w := by
 go_enter Tryd.func126, Tryd.ntmps126
 go_wp2_with (simp only [key])
 go_ret
 exact ⟨rfl, rfl⟩
theorem bits_TrailingZeros64.zero (w : World) : Calls Tryd.prog 126 #[.int .u64 0] w fun e w' => e = .returned (.int .i64 64) ∧ w' = w := by
 go_enter Tryd.func126, Tryd.ntmps126
 go_wp2
 go_ret
 exact ⟨rfl, rfl⟩
theorem bits_TrailingZeros64.calls (a0 r : Int) (w : World) (hT : Kd.C (Kd.int .u8) w (some ⟨0, 0, none⟩) 64 tabL) (h : bits_TrailingZeros64.f a0 = some r) :
  Calls Tryd.prog 126 #[.int .u64 a0] w fun e w' => e = .returned (.int .i64 r) ∧ Drawn0 w w' := by
 unfold bits_TrailingZeros64.f at h
 split at h
 ·rename_i hh
  obtain rfl := Option.some.inj h
  obtain ⟨x, rfl⟩ := Int.eq_ofNat_of_zero_le hh.1
  have hx : x < 18446744073709551616 := by omega
  rw [Int.toNat_natCast]
  by_cases hx0 : x = 0
  ·subst hx0
   refine (bits_TrailingZeros64.zero w).mono ?_
   rintro e w' ⟨rfl, rfl⟩
   exact ⟨rfl, Drawn0.refl _⟩
  ·obtain ⟨hlow, hk⟩ := Lib.lowest_bit 64 x hx0 hx
   obtain ⟨hi, htab⟩ := Lib.deBruijn64_at _ hk
   have hcell := tabL_cell hT _ hi
   rw [htab] at hcell
   refine (bits_TrailingZeros64.core x _ _ w (by simp; omega) (tz64_key x _ hx hx0 hlow) hi hk hcell).mono ?_
   rintro e w' ⟨rfl, rfl⟩
   exact ⟨rfl, Drawn0.refl _⟩
 ·exact absurd h (by simp)

/-! ### nat_Trail: function 96 -/
def nat_Trail.l0 : Nat → List Int → Int → Int → Option (Int)
 | 0, _, _, _ => none
 | k + 1, x5, x6, x7 => if x7 < x6 then (if 0 ≤ x7 then (if x7 < (x5.length : Int) then (if (rd x5 x7) = 0 then (nat_Trail.l0 k x5 x6 (wrap64 (x7 + 1))) else ((bits_TrailingZeros64.f (rd x5 x7)).bind fun t310 => (some (wrap64 ((wrap64 (64 * x7)) + t310))))) else (none)) else (none)) else (some 0)
def nat_Trail.f (k : Nat) (l0 : List Int) : Option (Int) := nat_Trail.l0 k l0 (l0.length : Int) 0
theorem nat_Trail.mono_l : ∀ k, (∀ y0 y1 y2, LeO (nat_Trail.l0 k y0 y1 y2) (nat_Trail.l0 (k + 1) y0 y1 y2))
 | 0 => fun _ _ _ r h => by simp [nat_Trail.l0] at h
 | k + 1 => by
  have ih0 := nat_Trail.mono_l k
  ·intro y0 y1 y2
   unfold nat_Trail.l0
   repeat' first
   | (with_reducible exact ih0 _ _ _)
   | (with_reducible exact LeO.refl _)
   | (with_reducible exact LeO.none _)
   | (with_reducible refine LeO.ite ?_ ?_)
   | (with_reducible refine LeO.bind ?_ (fun _ => ?_))
   | exact ih0 _ _ _
   | exact LeO.none _
   | refine LeO.ite ?_ ?_
   | refine LeO.bind ?_ (fun _ => ?_)
theorem nat_Trail.mono : ∀ a0 k, LeO (nat_Trail.f k a0) (nat_Trail.f (k + 1) a0) := by
 intro a0 k
 have ih0 := nat_Trail.mono_l k
 unfold nat_Trail.f
 repeat' first
   | (with_reducible exact ih0 _ _ _)
   | (with_reducible exact LeO.refl _)
   | (with_reducible exact LeO.none _)
   | (with_reducible refine LeO.ite ?_ ?_)
   | (with_reducible refine LeO.bind ?_ (fun _ => ?_))
   | exact ih0 _ _ _
   | exact LeO.none _
   | refine LeO.ite ?_ ?_
   | refine LeO.bind ?_ (fun _ => ?_)
set_option maxHeartbeats 8000000 in
set_option maxRecDepth 100000 in
theorem nat_Trail.calls (k : Nat) (A0 : Option Addr) (c0 : Nat) (l0 : List Int) (r : Int) (w : World) (hT : Kd.C (Kd.int .u8) w (some ⟨0, 0, none⟩) 64 tabL) (hr0 : Kd.C (Kd.int .u64) w A0 l0.length l0) (hc0 : l0.length ≤ c0) (h : nat_Trail.f k l0 = some r) :
  Calls Tryd.prog 96 #[.slice A0 l0.length c0] w fun e w' => e = .returned (.int .i64 r) ∧ Drawn0 w w' := by
 have HT := Aside0.mk hT
 clear hT
 have HR0 := Aside0.mk hr0
 have HC0 := Aside0.mk hc0
 clear hr0 hc0
 have H : (nat_Trail.l0 k l0 (l0.length : Int) 0) = some r := h
 clear h
 have H' := Aside0.mk H
 clear H
 go_enter Tryd.func96, Tryd.ntmps96
 go_wp2
 go_loopg [7] k (fun kq v7 w' => ∃ (x7_1 : Int), v7 = .int .i64 x7_1 ∧ Aside0 (nat_Trail.l0 kq l0 (l0.length : Int) x7_1 = some r) ∧ Aside0 (kq ≤ k) ∧ Drawn0 w w')
 case atStart => exact ⟨(0), (by first | rfl | (simp; done) | (simp [*]; done)), H', ⟨Nat.le_refl _⟩, by repeat (first | exact Drawn0.refl _ | apply Drawn0.step)⟩
 case round =>
  clear H'
  obtain ⟨x7_1, rfl, HA, HK1, ⟨m1, rfl⟩⟩ := hrel
  cases gk with
  | zero => exact absurd HA.out (by simp [nat_Trail.l0])
  | succ k1 =>
   have H := HA.out
   clear HA
   simp only [nat_Trail.l0] at H
   by_cases c2 : x7_1 < (l0.length : Int)
   ·rw [if_pos c2] at H
    have c2b0 : decide (x7_1 < (l0.length : Int)) = true := decide_eq_true c2
    clear c2
    by_cases c3 : 0 ≤ x7_1
    ·rw [if_pos c3] at H
     have c3b0 : decide (0 ≤ x7_1) = true := decide_eq_true c3
     clear c3
     by_cases c4 : x7_1 < (l0.length : Int)
     ·rw [if_pos c4] at H
      have c4b0 : decide (x7_1 < (l0.length : Int)) = true := decide_eq_true c4
      clear c4
      by_cases c5 : (rd l0 x7_1) = 0
      ·rw [if_pos c5] at H
       have c5b0 : ((rd l0 x7_1) == 0) = true := beq_iff_eq.mpr c5
       have c5b1 : ((rd l0 x7_1) != 0) = false := bne_eq_false_iff_eq.mpr c5
       clear c5
       have H' := Aside0.mk H
       clear H
       have p309 : 0 ≤ (x7_1 : Int) := of_decide_eq_true (by first | (with_reducible assumption) | assumption)
       have q309 : x7_1 < (l0.length : Int) := of_decide_eq_true (by first | (with_reducible assumption) | assumption)
       obtain ⟨ad309, e309, hx309_0⟩ := Kd.at_int HR0.out x7_1 p309 q309
       cases e309
       replace p309 := eq_true p309
       replace q309 := eq_true q309
       go_wp2
       go_roundg k1
       case measure => have := HK1.out; omega
       case rel => exact ⟨(wrap64 (x7_1 + 1)), (by first | rfl | (simp; done) | (simp [*]; done)), H', ⟨by have := HK1.out; omega⟩, by repeat (first | exact Drawn0.refl _ | apply Drawn0.step)⟩
      ·rw [if_neg c5] at H
       have c5b0 : ((rd l0 x7_1) == 0) = false := beq_eq_false_iff_ne.mpr c5
       have c5b1 : ((rd l0 x7_1) != 0) = true := bne_iff_ne.mpr c5
       obtain ⟨t310, A60, H⟩ := Option.bind_eq_some_iff.mp H
       have A6 := Aside0.mk A60
       clear A60
       obtain rfl := Option.some.inj H
       have p309 : 0 ≤ (x7_1 : Int) := of_decide_eq_true (by first | (with_reducible assumption) | assumption)
       have q309 : x7_1 < (l0.length : Int) := of_decide_eq_true (by first | (with_reducible assumption) | assumption)
       obtain ⟨ad309, e309, hx309_0⟩ := Kd.at_int HR0.out x7_1 p309 q309
       cases e309
       replace p309 := eq_true p309
       replace q309 := eq_true q309
       go_wp2_with (first | ((with_reducible refine gate_callee (f := 126) rfl ?_); refine goesL_ (some 17) rfl rfl Tryd.func126 (by kernel_rfl) rfl #[.int .u64 (rd l0 x7_1)] rfl (by (try simp only [List.map_toArray, List.map_cons, List.map_nil]); first | done | rfl) ?_; (with_reducible refine (bits_TrailingZeros64.calls (rd l0 x7_1) t310 _ ?side1 A6.out).mono ?_); (case side1 => exact cS HT.out); rintro e w' ⟨rfl, ⟨nd, rfl⟩⟩; refine ⟨_, rfl, ?_⟩))
       go_ret
       exact ⟨by first | rfl | (simp; done) | (simp [*]; done), by repeat (first | exact Drawn0.refl _ | apply Drawn0.step)⟩
     ·rw [if_neg c4] at H
      exact absurd H (by simp)
    ·rw [if_neg c3] at H
     exact absurd H (by simp)
   ·rw [if_neg c2] at H
    have c2b0 : decide (x7_1 < (l0.length : Int)) = false := decide_eq_false c2
    clear c2
    obtain rfl := Option.some.inj H
    go_wp2
    go_ret
    exact ⟨by first | rfl | (simp; done) | (simp [*]; done), by repeat (first | exact Drawn0.refl _ | apply Drawn0.step)⟩

end Go.Proofs.YtcdnoklokoplaaaDoor.PE
