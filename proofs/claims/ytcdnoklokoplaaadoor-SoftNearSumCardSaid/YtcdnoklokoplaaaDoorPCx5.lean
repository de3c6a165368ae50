-- printed by a program
import Derived.Test.YtcdnoklokoplaaaDoorPCx0
import Derived.Test.YtcdnoklokoplaaaDoorPCx1
import Derived.Test.YtcdnoklokoplaaaDoorPCx2
import Derived.Test.YtcdnoklokoplaaaDoorPCx3
import Derived.Test.YtcdnoklokoplaaaDoorPCx4
namespace Go.Proofs.YtcdnoklokoplaaaDoor.PC
open Go.Proofs.YtcdnoklokoplaaaDoorX
open Go.RowKit Go.Proofs.YtcdnoklokoplaaaDoorW.PrintWords Go.Proofs.YtcdnoklokoplaaaDoorW.PrintLast Go.Proofs.YtcdnoklokoplaaaDoorW.PrintMore
attribute [local go_sem] max2_int min2_int max_two min_two max_three min_three max_four min_four   -- for this text's walks alone
set_option linter.unusedVariables false
set_option linter.unusedSimpArgs false

/-! ### nat_Sub: function 56 -/
mutual
def nat_Sub.j0 : Nat → List Int → List Int → Bool → Option (List Int × Int)
 | 0, _, _, _ => none
 | k + 1, x0, x1, x16 => if x16 = true then (some (([] : List Int), 2)) else ((nat_Cmp.f k x0 x1).bind fun t251 => (if t251 < 0 then (some (([] : List Int), 10)) else ((nat_size.f k x0).bind fun t252 => (if 0 ≤ t252 then (if t252 ≤ (x0.length : Int) then ((some (x0.take (t252 : Int).toNat : List Int)).bind fun y253 => ((nat_size.f k x1).bind fun t257 => (if 0 ≤ t257 then (if t257 ≤ (x1.length : Int) then (if 0 ≤ (y253.length : Int) then (if ((y253.length : Int) : Int).toNat ≤ 35184372088832 then (nat_Sub.l0 k (x1.take (t257 : Int).toNat) (List.replicate ((y253.length : Int) : Int).toNat 0) 0 y253 (y253.length : Int) 0) else (none)) else (none)) else (none)) else (none)))) else (none)) else (none)))))
def nat_Sub.l0 : Nat → List Int → List Int → Int → List Int → Int → Int → Option (List Int × Int)
 | 0, _, _, _, _, _, _ => none
 | k + 1, x1, x6, x7, x32, x33, x34 => if x34 < x33 then (if 0 ≤ x34 then (if x34 < (x32.length : Int) then (if x34 < (x1.length : Int) then ((bits_Sub64.f (rd x32 x34) (rd x1 x34) x7).bind fun bt267 => (if x34 < (x6.length : Int) then (nat_Sub.l0 k x1 (x6.set (x34 : Int).toNat bt267.1) bt267.2 x32 x33 (wrap64 (x34 + 1))) else (none))) else ((bits_Sub64.f (rd x32 x34) 0 x7).bind fun bt270 => (if x34 < (x6.length : Int) then (nat_Sub.l0 k x1 (x6.set (x34 : Int).toNat bt270.1) bt270.2 x32 x33 (wrap64 (x34 + 1))) else (none)))) else (none)) else (none)) else ((nat_cut.f k x6).bind fun bt273 => (some (bt273.1, bt273.2)))
end
def nat_Sub.f (k : Nat) (l0 : List Int) (l1 : List Int) : Option (List Int × Int) := (nat_big.f k l0).bind fun t249 => (if t249 = true then (nat_Sub.j0 k l0 l1 true) else ((nat_big.f k l1).bind fun t250 => (nat_Sub.j0 k l0 l1 t250)))
theorem nat_Sub.mono_l : ∀ k, (∀ y0 y1 y2, LeO (nat_Sub.j0 k y0 y1 y2) (nat_Sub.j0 (k + 1) y0 y1 y2)) ∧ (∀ y0 y1 y2 y3 y4 y5, LeO (nat_Sub.l0 k y0 y1 y2 y3 y4 y5) (nat_Sub.l0 (k + 1) y0 y1 y2 y3 y4 y5))
 | 0 => ⟨fun _ _ _ r h => by simp [nat_Sub.j0] at h, fun _ _ _ _ _ _ r h => by simp [nat_Sub.l0] at h⟩
 | k + 1 => by
  obtain ⟨ih0, ih1⟩ := nat_Sub.mono_l k
  refine ⟨?_, ?_⟩
  ·intro y0 y1 y2
   unfold nat_Sub.j0
   repeat' first
   | (with_reducible exact ih0 _ _ _)
   | (with_reducible exact ih1 _ _ _ _ _ _)
   | (with_reducible exact nat_Cmp.mono _ _ _)
   | (with_reducible exact nat_big.mono _ _)
   | (with_reducible exact nat_cut.mono _ _)
   | (with_reducible exact nat_size.mono _ _)
   | (with_reducible exact LeO.refl _)
   | (with_reducible exact LeO.none _)
   | (with_reducible refine LeO.ite ?_ ?_)
   | (with_reducible refine LeO.bind ?_ (fun _ => ?_))
   | exact ih0 _ _ _
   | exact ih1 _ _ _ _ _ _
   | exact nat_Cmp.mono _ _ _
   | exact nat_big.mono _ _
   | exact nat_cut.mono _ _
   | exact nat_size.mono _ _
   | exact LeO.none _
   | refine LeO.ite ?_ ?_
   | refine LeO.bind ?_ (fun _ => ?_)
  ·intro y0 y1 y2 y3 y4 y5
   unfold nat_Sub.l0
   repeat' first
   | (with_reducible exact ih0 _ _ _)
   | (with_reducible exact ih1 _ _ _ _ _ _)
   | (with_reducible exact nat_Cmp.mono _ _ _)
   | (with_reducible exact nat_big.mono _ _)
   | (with_reducible exact nat_cut.mono _ _)
   | (with_reducible exact nat_size.mono _ _)
   | (with_reducible exact LeO.refl _)
   | (with_reducible exact LeO.none _)
   | (with_reducible refine LeO.ite ?_ ?_)
   | (with_reducible refine LeO.bind ?_ (fun _ => ?_))
   | exact ih0 _ _ _
   | exact ih1 _ _ _ _ _ _
   | exact nat_Cmp.mono _ _ _
   | exact nat_big.mono _ _
   | exact nat_cut.mono _ _
   | exact nat_size.mono _ _
   | exact LeO.none _
   | refine LeO.ite ?_ ?_
   | refine LeO.bind ?_ (fun _ => ?_)
theorem nat_Sub.mono : ∀ a0 a1 k, LeO (nat_Sub.f k a0 a1) (nat_Sub.f (k + 1) a0 a1) := by
 intro a0 a1 k
 obtain ⟨ih0, ih1⟩ := nat_Sub.mono_l k
 unfold nat_Sub.f
 repeat' first
   | (with_reducible exact ih0 _ _ _)
   | (with_reducible exact ih1 _ _ _ _ _ _)
   | (with_reducible exact nat_Cmp.mono _ _ _)
   | (with_reducible exact nat_big.mono _ _)
   | (with_reducible exact nat_cut.mono _ _)
   | (with_reducible exact nat_size.mono _ _)
   | (with_reducible exact LeO.refl _)
   | (with_reducible exact LeO.none _)
   | (with_reducible refine LeO.ite ?_ ?_)
   | (with_reducible refine LeO.bind ?_ (fun _ => ?_))
   | exact ih0 _ _ _
   | exact ih1 _ _ _ _ _ _
   | exact nat_Cmp.mono _ _ _
   | exact nat_big.mono _ _
   | exact nat_cut.mono _ _
   | exact nat_size.mono _ _
   | exact LeO.none _
   | refine LeO.ite ?_ ?_
   | refine LeO.bind ?_ (fun _ => ?_)
set_option maxHeartbeats 8000000 in
set_option maxRecDepth 100000 in
theorem nat_Sub.calls (k : Nat) (A0 : Option Addr) (c0 : Nat) (l0 : List Int) (A1 : Option Addr) (c1 : Nat) (l1 : List Int) (r1 : List Int) (r2 : Int) (w : World) (hr0 : Kd.C (Kd.int .u64) w A0 l0.length l0) (hc0 : l0.length ≤ c0) (hr1 : Kd.C (Kd.int .u64) w A1 l1.length l1) (hc1 : l1.length ≤ c1) (h : nat_Sub.f k l0 l1 = some (r1, r2)) :
  Calls Tryd.prog 56 #[.slice A0 l0.length c0, .slice A1 l1.length c1] w fun e w' => ∃ v0_ : Value, e = .returned (.tuple #[v0_, .int .i64 r2]) ∧ Kd.V (Kd.int .u64) 22 w' w.heap.size (fun k_ => (w.heap.size ≤ k_)) v0_ r1 ∧ Below w.heap.size w w' := by
 have HR0 := Aside0.mk hr0
 have HC0 := Aside0.mk hc0
 clear hr0 hc0
 have HR1 := Aside0.mk hr1
 have HC1 := Aside0.mk hc1
 clear hr1 hc1
 have HB := Aside0.mk (Below.refl w.heap.size w)
 have H : ((nat_big.f k l0).bind fun t249 => (if t249 = true then (nat_Sub.j0 k l0 l1 true) else ((nat_big.f k l1).bind fun t250 => (nat_Sub.j0 k l0 l1 t250)))) = some (r1, r2) := h
 clear h
 have HC3 := Aside0.mk H
 clear H
 go_enter Tryd.func56, Tryd.ntmps56
 go_upto_region 1 with (fail)
 repeat (go_quiet (fail); go_upto_region 1 with (fail))
 go_cut [16] (fun v16 wc => ∃ (kq : Nat) (x16_2 : Bool), v16 = .bool x16_2 ∧ Aside0 (nat_Sub.j0 kq l0 l1 x16_2 = some (r1, r2)) ∧ Aside0 (kq ≤ k) ∧ Aside0 (Below w.heap.size w wc))
 case first =>
  have H := HC3.out
  clear HC3
  replace H := Option.bind_eq_some_iff.mp H
  obtain ⟨t249, A40, H⟩ := H
  replace H : (if t249 = true then (nat_Sub.j0 k l0 l1 true) else ((nat_big.f k l1).bind fun t250 => (nat_Sub.j0 k l0 l1 t250))) = some (r1, r2) := H
  have A4 := Aside0.mk A40
  clear A40
  by_cases c5 : t249 = true
  ·subst c5
   have H1 : (nat_Sub.j0 k l0 l1 true) = some (r1, r2) := by rw [if_pos rfl] at H; exact H
   clear H
   have H := H1
   clear H1
   have H' := Aside0.mk H
   clear H
   go_wp2_with (first | (go_at_call 81; (with_reducible refine (nat_big.calls k _ _ l0 true _ ?side1 ?side2 A4.out).mono ?_); (case side1 => exact cS (Kd.C_below HR0.out HB.out)); (case side2 => exact HC0.out); rintro e w' ⟨rfl, ⟨nd, rfl⟩⟩; (try first | exact ⟨rfl, _, dn2⟩ | exact ⟨rfl, _, dn3⟩)))
   repeat (go_quiet (first | (go_at_call 81; (with_reducible refine (nat_big.calls k _ _ l0 true _ ?side1 ?side2 A4.out).mono ?_); (case side1 => exact cS (Kd.C_below HR0.out HB.out)); (case side2 => exact HC0.out); rintro e w' ⟨rfl, ⟨nd, rfl⟩⟩; (try first | exact ⟨rfl, _, dn2⟩ | exact ⟨rfl, _, dn3⟩))); try go_wp2_with (first | (go_at_call 81; (with_reducible refine (nat_big.calls k _ _ l0 true _ ?side1 ?side2 A4.out).mono ?_); (case side1 => exact cS (Kd.C_below HR0.out HB.out)); (case side2 => exact HC0.out); rintro e w' ⟨rfl, ⟨nd, rfl⟩⟩; (try first | exact ⟨rfl, _, dn2⟩ | exact ⟨rfl, _, dn3⟩))))
   go_meet
   case rel => exact ⟨_, (true), (by first | rfl | (simp; done) | (simp [*]; done)), H', ⟨by first | omega | exact Nat.le_refl _⟩, ⟨bS HB.out⟩⟩
  ·replace c5 := Bool.eq_false_iff.mpr c5
   subst c5
   have H1 : ((nat_big.f k l1).bind fun t250 => (nat_Sub.j0 k l0 l1 t250)) = some (r1, r2) := by rw [if_neg (show ¬ (false = true) by decide)] at H; exact H
   clear H
   have H := H1
   clear H1
   replace H := Option.bind_eq_some_iff.mp H
   obtain ⟨t250, A60, H⟩ := H
   replace H : (nat_Sub.j0 k l0 l1 t250) = some (r1, r2) := H
   have A6 := Aside0.mk A60
   clear A60
   have H' := Aside0.mk H
   clear H
   go_wp2_with (first | (go_at_call 81; (with_reducible refine (nat_big.calls k _ _ l0 false _ ?side1 ?side2 A4.out).mono ?_); (case side1 => exact cS (Kd.C_below HR0.out HB.out)); (case side2 => exact HC0.out); rintro e w' ⟨rfl, ⟨nd, rfl⟩⟩; (try first | exact ⟨rfl, _, dn2⟩ | exact ⟨rfl, _, dn3⟩)) | (go_at_call 81; (with_reducible refine (nat_big.calls k _ _ l1 t250 _ ?side1 ?side2 A6.out).mono ?_); (case side1 => exact (Kd.C_below HR1.out (bS HB.out))); (case side2 => exact HC1.out); rintro e w' ⟨rfl, ⟨nd, rfl⟩⟩; (try first | exact ⟨rfl, _, dn2⟩ | exact ⟨rfl, _, dn3⟩)))
   repeat (go_quiet (first | (go_at_call 81; (with_reducible refine (nat_big.calls k _ _ l0 false _ ?side1 ?side2 A4.out).mono ?_); (case side1 => exact cS (Kd.C_below HR0.out HB.out)); (case side2 => exact HC0.out); rintro e w' ⟨rfl, ⟨nd, rfl⟩⟩; (try first | exact ⟨rfl, _, dn2⟩ | exact ⟨rfl, _, dn3⟩)) | (go_at_call 81; (with_reducible refine (nat_big.calls k _ _ l1 t250 _ ?side1 ?side2 A6.out).mono ?_); (case side1 => exact (Kd.C_below HR1.out (bS HB.out))); (case side2 => exact HC1.out); rintro e w' ⟨rfl, ⟨nd, rfl⟩⟩; (try first | exact ⟨rfl, _, dn2⟩ | exact ⟨rfl, _, dn3⟩))); try go_wp2_with (first | (go_at_call 81; (with_reducible refine (nat_big.calls k _ _ l0 false _ ?side1 ?side2 A4.out).mono ?_); (case side1 => exact cS (Kd.C_below HR0.out HB.out)); (case side2 => exact HC0.out); rintro e w' ⟨rfl, ⟨nd, rfl⟩⟩; (try first | exact ⟨rfl, _, dn2⟩ | exact ⟨rfl, _, dn3⟩)) | (go_at_call 81; (with_reducible refine (nat_big.calls k _ _ l1 t250 _ ?side1 ?side2 A6.out).mono ?_); (case side1 => exact (Kd.C_below HR1.out (bS HB.out))); (case side2 => exact HC1.out); rintro e w' ⟨rfl, ⟨nd, rfl⟩⟩; (try first | exact ⟨rfl, _, dn2⟩ | exact ⟨rfl, _, dn3⟩))))
   go_meet
   case rel => exact ⟨_, (t250), (by first | rfl | (have e_ := Option.some.inj (A4.out.symm.trans A6.out); cases e_; rfl) | (simp; done) | (simp [*]; done)), H', ⟨by first | omega | exact Nat.le_refl _⟩, ⟨bS HB.out⟩⟩
 case rest =>
  clear HC3
  try clear c1
  try clear p2
  try clear c5
  obtain ⟨kq, x16_2, rfl, HA, HJ2, HB⟩ := hcut
  cases kq with
  | zero => exact absurd HA.out (by simp [nat_Sub.j0])
  | succ kj2 =>
   have H := HA.out
   clear HA
   simp only [nat_Sub.j0] at H
   by_cases c7 : x16_2 = true
   ·subst c7
    have H1 : (some (([] : List Int), 2)) = some (r1, r2) := by rw [if_pos rfl] at H; exact H
    clear H
    have H := H1
    clear H1
    simp only [Option.some.injEq, Prod.mk.injEq] at H
    obtain ⟨rfl, rfl⟩ := H
    go_wp2
    repeat (go_quiet (fail); try go_wp2)
    go_ret2
    exact ⟨.slice none 0 0, by first | rfl | (simp [errW_none, errW_some] <;> rfl) | (simp [*, errW_none, errW_some] <;> rfl), Kd.V_nil _ _ _ _ _, bS HB.out⟩
   ·replace c7 := Bool.eq_false_iff.mpr c7
    subst c7
    have H1 : ((nat_Cmp.f kj2 l0 l1).bind fun t251 => (if t251 < 0 then (some (([] : List Int), 10)) else ((nat_size.f kj2 l0).bind fun t252 => (if 0 ≤ t252 then (if t252 ≤ (l0.length : Int) then ((some (l0.take (t252 : Int).toNat : List Int)).bind fun y253 => ((nat_size.f kj2 l1).bind fun t257 => (if 0 ≤ t257 then (if t257 ≤ (l1.length : Int) then (if 0 ≤ (y253.length : Int) then (if ((y253.length : Int) : Int).toNat ≤ 35184372088832 then (nat_Sub.l0 kj2 (l1.take (t257 : Int).toNat) (List.replicate ((y253.length : Int) : Int).toNat 0) 0 y253 (y253.length : Int) 0) else (none)) else (none)) else (none)) else (none)))) else (none)) else (none))))) = some (r1, r2) := by rw [if_neg (show ¬ (false = true) by decide)] at H; exact H
    clear H
    have H := H1
    clear H1
    replace H := Option.bind_eq_some_iff.mp H
    obtain ⟨t251, A80, H⟩ := H
    replace H : (if t251 < 0 then (some (([] : List Int), 10)) else ((nat_size.f kj2 l0).bind fun t252 => (if 0 ≤ t252 then (if t252 ≤ (l0.length : Int) then ((some (l0.take (t252 : Int).toNat : List Int)).bind fun y253 => ((nat_size.f kj2 l1).bind fun t257 => (if 0 ≤ t257 then (if t257 ≤ (l1.length : Int) then (if 0 ≤ (y253.length : Int) then (if ((y253.length : Int) : Int).toNat ≤ 35184372088832 then (nat_Sub.l0 kj2 (l1.take (t257 : Int).toNat) (List.replicate ((y253.length : Int) : Int).toNat 0) 0 y253 (y253.length : Int) 0) else (none)) else (none)) else (none)) else (none)))) else (none)) else (none)))) = some (r1, r2) := H
    have A8 := Aside0.mk A80
    clear A80
    by_cases c9 : t251 < 0
    ·rw [if_pos c9] at H
     have c9b0 : decide (t251 < 0) = true := decide_eq_true c9
     clear c9
     simp only [Option.some.injEq, Prod.mk.injEq] at H
     obtain ⟨rfl, rfl⟩ := H
     go_wp2_with (first | (go_at_call 18; (with_reducible refine (nat_Cmp.calls kj2 _ _ l0 _ _ l1 t251 _ ?side1 ?side2 ?side3 ?side4 A8.out).mono ?_); (case side1 => exact cS (Kd.C_below HR0.out HB.out)); (case side2 => exact HC0.out); (case side3 => exact cS (Kd.C_below HR1.out HB.out)); (case side4 => exact HC1.out); rintro e w' ⟨rfl, ⟨nd, rfl⟩⟩; (try first | exact ⟨rfl, _, dn2⟩ | exact ⟨rfl, _, dn3⟩)))
     repeat (go_quiet (first | (go_at_call 18; (with_reducible refine (nat_Cmp.calls kj2 _ _ l0 _ _ l1 t251 _ ?side1 ?side2 ?side3 ?side4 A8.out).mono ?_); (case side1 => exact cS (Kd.C_below HR0.out HB.out)); (case side2 => exact HC0.out); (case side3 => exact cS (Kd.C_below HR1.out HB.out)); (case side4 => exact HC1.out); rintro e w' ⟨rfl, ⟨nd, rfl⟩⟩; (try first | exact ⟨rfl, _, dn2⟩ | exact ⟨rfl, _, dn3⟩))); try go_wp2_with (first | (go_at_call 18; (with_reducible refine (nat_Cmp.calls kj2 _ _ l0 _ _ l1 t251 _ ?side1 ?side2 ?side3 ?side4 A8.out).mono ?_); (case side1 => exact cS (Kd.C_below HR0.out HB.out)); (case side2 => exact HC0.out); (case side3 => exact cS (Kd.C_below HR1.out HB.out)); (case side4 => exact HC1.out); rintro e w' ⟨rfl, ⟨nd, rfl⟩⟩; (try first | exact ⟨rfl, _, dn2⟩ | exact ⟨rfl, _, dn3⟩))))
     go_ret2
     exact ⟨.slice none 0 0, by first | rfl | (simp [errW_none, errW_some] <;> rfl) | (simp [*, errW_none, errW_some] <;> rfl), Kd.V_nil _ _ _ _ _, bS HB.out⟩
    ·rw [if_neg c9] at H
     have c9b0 : decide (t251 < 0) = false := decide_eq_false c9
     clear c9
     replace H := Option.bind_eq_some_iff.mp H
     obtain ⟨t252, A100, H⟩ := H
     replace H : (if 0 ≤ t252 then (if t252 ≤ (l0.length : Int) then ((some (l0.take (t252 : Int).toNat : List Int)).bind fun y253 => ((nat_size.f kj2 l1).bind fun t257 => (if 0 ≤ t257 then (if t257 ≤ (l1.length : Int) then (if 0 ≤ (y253.length : Int) then (if ((y253.length : Int) : Int).toNat ≤ 35184372088832 then (nat_Sub.l0 kj2 (l1.take (t257 : Int).toNat) (List.replicate ((y253.length : Int) : Int).toNat 0) 0 y253 (y253.length : Int) 0) else (none)) else (none)) else (none)) else (none)))) else (none)) else (none)) = some (r1, r2) := H
     have A10 := Aside0.mk A100
     clear A100
     by_cases c11 : 0 ≤ t252
     ·rw [if_pos c11] at H
      have c11b0 := eq_true c11
      have c11b1 : decide (0 ≤ t252) = true := decide_eq_true c11
      clear c11
      by_cases c12 : t252 ≤ (l0.length : Int)
      ·rw [if_pos c12] at H
       have c12b0 := eq_true c12
       have c12b1 : decide (t252 ≤ (l0.length : Int)) = true := decide_eq_true c12
       clear c12
       obtain ⟨y253, hy253⟩ : ∃ y_ : List Int, y_ = (l0.take (t252 : Int).toNat) := ⟨_, rfl⟩
       replace H : ((nat_size.f kj2 l1).bind fun t257 => (if 0 ≤ t257 then (if t257 ≤ (l1.length : Int) then (if 0 ≤ (y253.length : Int) then (if ((y253.length : Int) : Int).toNat ≤ 35184372088832 then (nat_Sub.l0 kj2 (l1.take (t257 : Int).toNat) (List.replicate ((y253.length : Int) : Int).toNat 0) 0 y253 (y253.length : Int) 0) else (none)) else (none)) else (none)) else (none))) = some (r1, r2) := by first | (rw [hy253]; with_reducible exact H) | (have H2_ := (Option.bind_some _ _).symm.trans H; rw [hy253]; with_reducible exact H2_) | (have H2_ := (Option.bind_some _ _).symm.trans H; with_reducible exact H2_) | with_reducible exact H | (rw [hy253]; exact H) | exact H
       have Ny253 := Aside0.mk hy253
       clear hy253
       replace H := Option.bind_eq_some_iff.mp H
       obtain ⟨t257, A130, H⟩ := H
       replace H : (if 0 ≤ t257 then (if t257 ≤ (l1.length : Int) then (if 0 ≤ (y253.length : Int) then (if ((y253.length : Int) : Int).toNat ≤ 35184372088832 then (nat_Sub.l0 kj2 (l1.take (t257 : Int).toNat) (List.replicate ((y253.length : Int) : Int).toNat 0) 0 y253 (y253.length : Int) 0) else (none)) else (none)) else (none)) else (none)) = some (r1, r2) := H
       have A13 := Aside0.mk A130
       clear A130
       by_cases c14 : 0 ≤ t257
       ·rw [if_pos c14] at H
        have c14b0 := eq_true c14
        have c14b1 : decide (0 ≤ t257) = true := decide_eq_true c14
        clear c14
        by_cases c15 : t257 ≤ (l1.length : Int)
        ·rw [if_pos c15] at H
         have c15b0 := eq_true c15
         have c15b1 : decide (t257 ≤ (l1.length : Int)) = true := decide_eq_true c15
         clear c15
         obtain ⟨y258, hy258⟩ : ∃ y_ : List Int, y_ = (l1.take (t257 : Int).toNat) := ⟨_, rfl⟩
         replace H : (if 0 ≤ (y253.length : Int) then (if ((y253.length : Int) : Int).toNat ≤ 35184372088832 then (nat_Sub.l0 kj2 y258 (List.replicate ((y253.length : Int) : Int).toNat 0) 0 y253 (y253.length : Int) 0) else (none)) else (none)) = some (r1, r2) := by first | (rw [hy258]; with_reducible exact H) | (have H2_ := (Option.bind_some _ _).symm.trans H; rw [hy258]; with_reducible exact H2_) | (have H2_ := (Option.bind_some _ _).symm.trans H; with_reducible exact H2_) | with_reducible exact H | (rw [hy258]; exact H) | exact H
         have Ny258 := Aside0.mk hy258
         clear hy258
         by_cases c16 : 0 ≤ (y253.length : Int)
         ·rw [if_pos c16] at H
          have c16b0 := eq_true c16
          have c16b1 : decide (0 ≤ (y253.length : Int)) = true := decide_eq_true c16
          clear c16
          by_cases c17 : ((y253.length : Int) : Int).toNat ≤ 35184372088832
          ·rw [if_pos c17] at H
           have c17b0 := eq_true c17
           have c17b1 : decide (((y253.length : Int) : Int).toNat ≤ 35184372088832) = true := decide_eq_true c17
           clear c17
           obtain ⟨y262, hy262⟩ : ∃ y_ : List Int, y_ = (List.replicate ((y253.length : Int) : Int).toNat 0) := ⟨_, rfl⟩
           replace H : (nat_Sub.l0 kj2 y258 y262 0 y253 (y253.length : Int) 0) = some (r1, r2) := by first | (rw [hy262]; with_reducible exact H) | (have H2_ := (Option.bind_some _ _).symm.trans H; rw [hy262]; with_reducible exact H2_) | (have H2_ := (Option.bind_some _ _).symm.trans H; with_reducible exact H2_) | with_reducible exact H | (rw [hy262]; exact H) | exact H
           have Ny262 := Aside0.mk hy262
           clear hy262
           have H' := Aside0.mk H
           clear H
           go_wp2_with (first | (go_at_call 18; (with_reducible refine (nat_Cmp.calls kj2 _ _ l0 _ _ l1 t251 _ ?side1 ?side2 ?side3 ?side4 A8.out).mono ?_); (case side1 => exact cS (Kd.C_below HR0.out HB.out)); (case side2 => exact HC0.out); (case side3 => exact cS (Kd.C_below HR1.out HB.out)); (case side4 => exact HC1.out); rintro e w' ⟨rfl, ⟨nd, rfl⟩⟩; (try first | exact ⟨rfl, _, dn2⟩ | exact ⟨rfl, _, dn3⟩)) | (go_at_call 52; (with_reducible refine (nat_size.calls kj2 _ _ l0 t252 _ ?side1 ?side2 A10.out).mono ?_); (case side1 => exact (Kd.C_below HR0.out (bS HB.out))); (case side2 => exact HC0.out); rintro e w' ⟨rfl, ⟨nd, rfl⟩⟩; (try first | exact ⟨rfl, _, dn2⟩ | exact ⟨rfl, _, dn3⟩); have q18 : (t252 : Int) ≤ ((l0.length : Int) : Int) := of_decide_eq_true (by first | (with_reducible assumption) | assumption); obtain ⟨i018, hi018, _, hsz18, _⟩ := info_parts info22; have hroom18 : l0.length ≤ c0 := HC0.out; have hC18 : Kd.C (Kd.int .u64) _ A0 l0.length l0 := HR0.out; have hcut18 := cut_to (P := Tryd.prog) 25 22 .i64 Tryd.underlying25 hi018 A0 l0.length c0 t252 (of_decide_eq_true (by first | (with_reducible assumption) | assumption)) q18 hroom18; have hr18 := Kd.C_take (m := (t252 : Int).toNat) hC18 (by omega); have hy18 : y253.length = (t252 : Int).toNat := (by rw [Ny253.out, List.length_take]; omega); rw [← Ny253.out] at hr18; rw [← hy18] at hcut18; have HR256 := Aside0.mk hr18; have HC256 := Aside0.mk (show y253.length ≤ c0 from by omega); clear hr18 hC18 hroom18 hi018 hsz18; have KY18 := Aside0.mk hy18; clear hy18; replace q18 := eq_true q18) | (go_at_call 52; (with_reducible refine (nat_size.calls kj2 _ _ l1 t257 _ ?side1 ?side2 A13.out).mono ?_); (case side1 => exact (Kd.C_below HR1.out (bS HB.out))); (case side2 => exact HC1.out); rintro e w' ⟨rfl, ⟨nd, rfl⟩⟩; (try first | exact ⟨rfl, _, dn2⟩ | exact ⟨rfl, _, dn3⟩); have q19 : (t257 : Int) ≤ ((l1.length : Int) : Int) := of_decide_eq_true (by first | (with_reducible assumption) | assumption); obtain ⟨i019, hi019, _, hsz19, _⟩ := info_parts info22; have hroom19 : l1.length ≤ c1 := HC1.out; have hC19 : Kd.C (Kd.int .u64) _ A1 l1.length l1 := HR1.out; have hcut19 := cut_to (P := Tryd.prog) 25 22 .i64 Tryd.underlying25 hi019 A1 l1.length c1 t257 (of_decide_eq_true (by first | (with_reducible assumption) | assumption)) q19 hroom19; have hr19 := Kd.C_take (m := (t257 : Int).toNat) hC19 (by omega); have hy19 : y258.length = (t257 : Int).toNat := (by rw [Ny258.out, List.length_take]; omega); rw [← Ny258.out] at hr19; rw [← hy19] at hcut19; have HR261 := Aside0.mk hr19; have HC261 := Aside0.mk (show y258.length ≤ c1 from by omega); clear hr19 hC19 hroom19 hi019 hsz19; have KY19 := Aside0.mk hy19; clear hy19; replace q19 := eq_true q19) | ((with_reducible refine gate_dst (N := 31) rfl ?_); refine Kd.R_make (Kd.int .u64) _ 22 rfl (N := 31) rfl 25 _ _ rfl (y253.length : Int) rfl rfl Tryd.underlying25 (.int .u64 0) 8 info22 rfl (by decide) (by omega) 0 (ok := fun _ => True) (okp := fun _ => True) rfl (fun _ hk => hk) trivial (of_decide_eq_true (by first | (with_reducible assumption) | assumption)) (Nat.le_trans (Nat.mul_le_mul_right _ (of_decide_eq_true (by first | (with_reducible assumption) | assumption) : (y253.length : Int).toNat ≤ 35184372088832)) (by omega)) (Below.refl _ _) (Nat.le_refl _) ?_; intro v263 w20 ho21 hb hg_ hnew_; clear hg_ hnew_; (first | rw [← Ny262.out] at ho21 | (simp only [Int.reduceToNat] at ho21; rw [← Ny262.out] at ho21)); have HO264 := Aside0.mk (Kd.R_lower (Kd.R_newM (M := fun k_ => (w.heap.size ≤ k_)) ho21 (below_size (bS HB.out)) (fun k_ h_ => h_)) (below_size (bS HB.out))); replace HB := hB HB hb; clear hb ho21))
           repeat (go_quiet (first | (go_at_call 18; (with_reducible refine (nat_Cmp.calls kj2 _ _ l0 _ _ l1 t251 _ ?side1 ?side2 ?side3 ?side4 A8.out).mono ?_); (case side1 => exact cS (Kd.C_below HR0.out HB.out)); (case side2 => exact HC0.out); (case side3 => exact cS (Kd.C_below HR1.out HB.out)); (case side4 => exact HC1.out); rintro e w' ⟨rfl, ⟨nd, rfl⟩⟩; (try first | exact ⟨rfl, _, dn2⟩ | exact ⟨rfl, _, dn3⟩)) | (go_at_call 52; (with_reducible refine (nat_size.calls kj2 _ _ l0 t252 _ ?side1 ?side2 A10.out).mono ?_); (case side1 => exact (Kd.C_below HR0.out (bS HB.out))); (case side2 => exact HC0.out); rintro e w' ⟨rfl, ⟨nd, rfl⟩⟩; (try first | exact ⟨rfl, _, dn2⟩ | exact ⟨rfl, _, dn3⟩); have q18 : (t252 : Int) ≤ ((l0.length : Int) : Int) := of_decide_eq_true (by first | (with_reducible assumption) | assumption); obtain ⟨i018, hi018, _, hsz18, _⟩ := info_parts info22; have hroom18 : l0.length ≤ c0 := HC0.out; have hC18 : Kd.C (Kd.int .u64) _ A0 l0.length l0 := HR0.out; have hcut18 := cut_to (P := Tryd.prog) 25 22 .i64 Tryd.underlying25 hi018 A0 l0.length c0 t252 (of_decide_eq_true (by first | (with_reducible assumption) | assumption)) q18 hroom18; have hr18 := Kd.C_take (m := (t252 : Int).toNat) hC18 (by omega); have hy18 : y253.length = (t252 : Int).toNat := (by rw [Ny253.out, List.length_take]; omega); rw [← Ny253.out] at hr18; rw [← hy18] at hcut18; have HR256 := Aside0.mk hr18; have HC256 := Aside0.mk (show y253.length ≤ c0 from by omega); clear hr18 hC18 hroom18 hi018 hsz18; have KY18 := Aside0.mk hy18; clear hy18; replace q18 := eq_true q18) | (go_at_call 52; (with_reducible refine (nat_size.calls kj2 _ _ l1 t257 _ ?side1 ?side2 A13.out).mono ?_); (case side1 => exact (Kd.C_below HR1.out (bS HB.out))); (case side2 => exact HC1.out); rintro e w' ⟨rfl, ⟨nd, rfl⟩⟩; (try first | exact ⟨rfl, _, dn2⟩ | exact ⟨rfl, _, dn3⟩); have q19 : (t257 : Int) ≤ ((l1.length : Int) : Int) := of_decide_eq_true (by first | (with_reducible assumption) | assumption); obtain ⟨i019, hi019, _, hsz19, _⟩ := info_parts info22; have hroom19 : l1.length ≤ c1 := HC1.out; have hC19 : Kd.C (Kd.int .u64) _ A1 l1.length l1 := HR1.out; have hcut19 := cut_to (P := Tryd.prog) 25 22 .i64 Tryd.underlying25 hi019 A1 l1.length c1 t257 (of_decide_eq_true (by first | (with_reducible assumption) | assumption)) q19 hroom19; have hr19 := Kd.C_take (m := (t257 : Int).toNat) hC19 (by omega); have hy19 : y258.length = (t257 : Int).toNat := (by rw [Ny258.out, List.length_take]; omega); rw [← Ny258.out] at hr19; rw [← hy19] at hcut19; have HR261 := Aside0.mk hr19; have HC261 := Aside0.mk (show y258.length ≤ c1 from by omega); clear hr19 hC19 hroom19 hi019 hsz19; have KY19 := Aside0.mk hy19; clear hy19; replace q19 := eq_true q19) | ((with_reducible refine gate_dst (N := 31) rfl ?_); refine Kd.R_make (Kd.int .u64) _ 22 rfl (N := 31) rfl 25 _ _ rfl (y253.length : Int) rfl rfl Tryd.underlying25 (.int .u64 0) 8 info22 rfl (by decide) (by omega) 0 (ok := fun _ => True) (okp := fun _ => True) rfl (fun _ hk => hk) trivial (of_decide_eq_true (by first | (with_reducible assumption) | assumption)) (Nat.le_trans (Nat.mul_le_mul_right _ (of_decide_eq_true (by first | (with_reducible assumption) | assumption) : (y253.length : Int).toNat ≤ 35184372088832)) (by omega)) (Below.refl _ _) (Nat.le_refl _) ?_; intro v263 w20 ho21 hb hg_ hnew_; clear hg_ hnew_; (first | rw [← Ny262.out] at ho21 | (simp only [Int.reduceToNat] at ho21; rw [← Ny262.out] at ho21)); have HO264 := Aside0.mk (Kd.R_lower (Kd.R_newM (M := fun k_ => (w.heap.size ≤ k_)) ho21 (below_size (bS HB.out)) (fun k_ h_ => h_)) (below_size (bS HB.out))); replace HB := hB HB hb; clear hb ho21)); try go_wp2_with (first | (go_at_call 18; (with_reducible refine (nat_Cmp.calls kj2 _ _ l0 _ _ l1 t251 _ ?side1 ?side2 ?side3 ?side4 A8.out).mono ?_); (case side1 => exact cS (Kd.C_below HR0.out HB.out)); (case side2 => exact HC0.out); (case side3 => exact cS (Kd.C_below HR1.out HB.out)); (case side4 => exact HC1.out); rintro e w' ⟨rfl, ⟨nd, rfl⟩⟩; (try first | exact ⟨rfl, _, dn2⟩ | exact ⟨rfl, _, dn3⟩)) | (go_at_call 52; (with_reducible refine (nat_size.calls kj2 _ _ l0 t252 _ ?side1 ?side2 A10.out).mono ?_); (case side1 => exact (Kd.C_below HR0.out (bS HB.out))); (case side2 => exact HC0.out); rintro e w' ⟨rfl, ⟨nd, rfl⟩⟩; (try first | exact ⟨rfl, _, dn2⟩ | exact ⟨rfl, _, dn3⟩); have q18 : (t252 : Int) ≤ ((l0.length : Int) : Int) := of_decide_eq_true (by first | (with_reducible assumption) | assumption); obtain ⟨i018, hi018, _, hsz18, _⟩ := info_parts info22; have hroom18 : l0.length ≤ c0 := HC0.out; have hC18 : Kd.C (Kd.int .u64) _ A0 l0.length l0 := HR0.out; have hcut18 := cut_to (P := Tryd.prog) 25 22 .i64 Tryd.underlying25 hi018 A0 l0.length c0 t252 (of_decide_eq_true (by first | (with_reducible assumption) | assumption)) q18 hroom18; have hr18 := Kd.C_take (m := (t252 : Int).toNat) hC18 (by omega); have hy18 : y253.length = (t252 : Int).toNat := (by rw [Ny253.out, List.length_take]; omega); rw [← Ny253.out] at hr18; rw [← hy18] at hcut18; have HR256 := Aside0.mk hr18; have HC256 := Aside0.mk (show y253.length ≤ c0 from by omega); clear hr18 hC18 hroom18 hi018 hsz18; have KY18 := Aside0.mk hy18; clear hy18; replace q18 := eq_true q18) | (go_at_call 52; (with_reducible refine (nat_size.calls kj2 _ _ l1 t257 _ ?side1 ?side2 A13.out).mono ?_); (case side1 => exact (Kd.C_below HR1.out (bS HB.out))); (case side2 => exact HC1.out); rintro e w' ⟨rfl, ⟨nd, rfl⟩⟩; (try first | exact ⟨rfl, _, dn2⟩ | exact ⟨rfl, _, dn3⟩); have q19 : (t257 : Int) ≤ ((l1.length : Int) : Int) := of_decide_eq_true (by first | (with_reducible assumption) | assumption); obtain ⟨i019, hi019, _, hsz19, _⟩ := info_parts info22; have hroom19 : l1.length ≤ c1 := HC1.out; have hC19 : Kd.C (Kd.int .u64) _ A1 l1.length l1 := HR1.out; have hcut19 := cut_to (P := Tryd.prog) 25 22 .i64 Tryd.underlying25 hi019 A1 l1.length c1 t257 (of_decide_eq_true (by first | (with_reducible assumption) | assumption)) q19 hroom19; have hr19 := Kd.C_take (m := (t257 : Int).toNat) hC19 (by omega); have hy19 : y258.length = (t257 : Int).toNat := (by rw [Ny258.out, List.length_take]; omega); rw [← Ny258.out] at hr19; rw [← hy19] at hcut19; have HR261 := Aside0.mk hr19; have HC261 := Aside0.mk (show y258.length ≤ c1 from by omega); clear hr19 hC19 hroom19 hi019 hsz19; have KY19 := Aside0.mk hy19; clear hy19; replace q19 := eq_true q19) | ((with_reducible refine gate_dst (N := 31) rfl ?_); refine Kd.R_make (Kd.int .u64) _ 22 rfl (N := 31) rfl 25 _ _ rfl (y253.length : Int) rfl rfl Tryd.underlying25 (.int .u64 0) 8 info22 rfl (by decide) (by omega) 0 (ok := fun _ => True) (okp := fun _ => True) rfl (fun _ hk => hk) trivial (of_decide_eq_true (by first | (with_reducible assumption) | assumption)) (Nat.le_trans (Nat.mul_le_mul_right _ (of_decide_eq_true (by first | (with_reducible assumption) | assumption) : (y253.length : Int).toNat ≤ 35184372088832)) (by omega)) (Below.refl _ _) (Nat.le_refl _) ?_; intro v263 w20 ho21 hb hg_ hnew_; clear hg_ hnew_; (first | rw [← Ny262.out] at ho21 | (simp only [Int.reduceToNat] at ho21; rw [← Ny262.out] at ho21)); have HO264 := Aside0.mk (Kd.R_lower (Kd.R_newM (M := fun k_ => (w.heap.size ≤ k_)) ho21 (below_size (bS HB.out)) (fun k_ h_ => h_)) (below_size (bS HB.out))); replace HB := hB HB hb; clear hb ho21)))
           go_loopg [7, 34] kj2 (fun kq v7 v34 w' => ∃ (x6_2 : List Int) (x7_2 : Int) (x34_2 : Int), v7 = .int .u64 x7_2 ∧ v34 = .int .i64 x34_2 ∧ Aside0 (nat_Sub.l0 kq y258 x6_2 x7_2 y253 (y253.length : Int) x34_2 = some (r1, r2)) ∧ Aside0 (kq ≤ kj2) ∧ Aside0 (Kd.R (Kd.int .u64) 22 w' w.heap.size (fun k_ => (w.heap.size ≤ k_)) v263 x6_2) ∧ Aside0 (Below w.heap.size w w'))
           case atStart => exact ⟨(y262), (0), (0), (by first | rfl | (simp; done) | (simp [*]; done)), (by first | rfl | (simp; done) | (simp [*]; done)), H', ⟨Nat.le_refl _⟩, ⟨rS <| Kd.R_mono HO264.out (fun _ hk => hk.1)⟩, ⟨bS HB.out⟩⟩
           case round =>
            clear H'
            try clear c1
            try clear q1
            try clear p2
            try clear c5
            try clear c7
            try clear c9
            try clear c9b0
            try clear c11
            try clear c11b0
            try clear c11b1
            try clear c12
            try clear c12b0
            try clear c12b1
            try clear c14
            try clear c14b0
            try clear c14b1
            try clear c15
            try clear c15b0
            try clear c15b1
            try clear c16
            try clear c16b0
            try clear c16b1
            try clear c17
            try clear c17b0
            try clear c17b1
            try clear q18
            try clear q19
            try clear p2
            try clear q18
            try clear q19
            obtain ⟨x6_2, x7_2, x34_2, rfl, rfl, HA, HK2, HO_6, HB⟩ := hrel
            cases gk with
            | zero => exact absurd HA.out (by simp [nat_Sub.l0])
            | succ k2 =>
             have H := HA.out
             clear HA
             simp only [nat_Sub.l0] at H
             by_cases c22 : x34_2 < (y253.length : Int)
             ·rw [if_pos c22] at H
              have c22b0 : decide (x34_2 < (y253.length : Int)) = true := decide_eq_true c22
              clear c22
              by_cases c23 : 0 ≤ x34_2
              ·rw [if_pos c23] at H
               have c23b0 : decide (0 ≤ x34_2) = true := decide_eq_true c23
               clear c23
               by_cases c24 : x34_2 < (y253.length : Int)
               ·rw [if_pos c24] at H
                have c24b0 : decide (x34_2 < (y253.length : Int)) = true := decide_eq_true c24
                clear c24
                by_cases c25 : x34_2 < (y258.length : Int)
                ·rw [if_pos c25] at H
                 have c25b0 : decide (x34_2 < (y258.length : Int)) = true := decide_eq_true c25
                 clear c25
                 replace H := Option.bind_eq_some_iff.mp H
                 obtain ⟨⟨t267, t268⟩, A260, H⟩ := H
                 replace H : (if x34_2 < (x6_2.length : Int) then (nat_Sub.l0 k2 y258 (x6_2.set (x34_2 : Int).toNat t267) t268 y253 (y253.length : Int) (wrap64 (x34_2 + 1))) else (none)) = some (r1, r2) := H
                 have A26 := Aside0.mk A260
                 clear A260
                 by_cases c27 : x34_2 < (x6_2.length : Int)
                 ·rw [if_pos c27] at H
                  have c27b0 : decide (x34_2 < (x6_2.length : Int)) = true := decide_eq_true c27
                  clear c27
                  obtain ⟨y269, hy269⟩ : ∃ y_ : List Int, y_ = (x6_2.set (x34_2 : Int).toNat t267) := ⟨_, rfl⟩
                  replace H : (nat_Sub.l0 k2 y258 y269 t268 y253 (y253.length : Int) (wrap64 (x34_2 + 1))) = some (r1, r2) := by first | (rw [hy269]; with_reducible exact H) | (have H2_ := (Option.bind_some _ _).symm.trans H; rw [hy269]; with_reducible exact H2_) | (have H2_ := (Option.bind_some _ _).symm.trans H; with_reducible exact H2_) | with_reducible exact H | (rw [hy269]; exact H) | exact H
                  have Ny269 := Aside0.mk hy269
                  clear hy269
                  have H' := Aside0.mk H
                  clear H
                  have p265 : 0 ≤ (x34_2 : Int) := of_decide_eq_true (by first | (with_reducible assumption) | assumption)
                  have q265 : x34_2 < (y253.length : Int) := of_decide_eq_true (by first | (with_reducible assumption) | assumption)
                  obtain ⟨ad265, e265, hx265_0⟩ := Kd.at_int HR256.out x34_2 p265 q265
                  cases e265
                  replace hx265_0 := (HB.out.cell (World.block_lt_of_cell? w _ hx265_0)).trans hx265_0
                  replace p265 := eq_true p265
                  replace q265 := eq_true q265
                  have p266 : 0 ≤ (x34_2 : Int) := of_decide_eq_true (by first | (with_reducible assumption) | assumption)
                  have q266 : x34_2 < (y258.length : Int) := of_decide_eq_true (by first | (with_reducible assumption) | assumption)
                  obtain ⟨ad266, e266, hx266_0⟩ := Kd.at_int HR261.out x34_2 p266 q266
                  cases e266
                  replace hx266_0 := (HB.out.cell (World.block_lt_of_cell? w _ hx266_0)).trans hx266_0
                  replace p266 := eq_true p266
                  replace q266 := eq_true q266
                  go_wp2_with (first | ((with_reducible refine gate_callee (f := 85) rfl ?_); refine goesX_ (some 53) rfl rfl Tryd.func85 (by kernel_rfl) rfl #[.int .u64 (rd y253 x34_2), .int .u64 (rd y258 x34_2), .int .u64 x7_2] rfl (by (try simp only [List.map_toArray, List.map_cons, List.map_nil]); first | done | rfl) ?_; (with_reducible refine (bits_Sub64.calls (rd y253 x34_2) (rd y258 x34_2) x7_2 t267 t268 _ A26.out).mono ?_); rintro e w' ⟨rfl, rfl⟩; refine ⟨_, rfl, ?_⟩; have p28 : 0 ≤ (x34_2 : Int) := of_decide_eq_true (by first | (with_reducible assumption) | assumption); have q28 : (x34_2 : Int) < ((x6_2.length : Int) : Int) := of_decide_eq_true (by first | (with_reducible assumption) | assumption); obtain ⟨go28, co28, eo28, gb28, gl28, cl28, HG28⟩ := Kd.R_form HO_6.out (by omega); (first | cases eo28 | (injection eo28 with ea_ en_ ec_; (first | subst ea_ | (injection ea_ with ea_; subst ea_)); subst ec_; clear en_)); have GB28 := Aside0.mk gb28; have GG28 := Aside0.mk HG28; clear gb28 gl28 HG28; obtain ⟨hx28_0, hf28_0⟩ := Kd.R_celln 0 HO_6.out (x34_2 : Int) p28 q28; replace p28 := eq_true p28; replace q28 := eq_true q28; obtain ⟨hy29_, hz29_⟩ := Kd.R_celln 0 HO_6.out (x34_2 : Int) (of_decide_eq_true (by first | (with_reducible assumption) | assumption)) (of_decide_eq_true (by first | (with_reducible assumption) | assumption)); have HP29 := Kd.R_putg HO_6.out (x34_2 : Int) t267) | ((with_reducible refine gate_store (t := 22) (p := 56) rfl ?_); (try (rw [drewN_self wr]; generalize hq_ : World.drewN wr _ = wr; have n0_ := Aside0.mk (Kd.R_at hq_ HO_6.out); have n1_ := Aside0.mk (below_at hq_ HB.out); clear hq_ HO_6 HB; have HO_6 := n0_; have HB := n1_; clear n0_ n1_; (try (obtain ⟨hy29_, hz29_⟩ := Kd.R_celln 0 HO_6.out (x34_2 : Int) (of_decide_eq_true (by first | (with_reducible assumption) | assumption)) (of_decide_eq_true (by first | (with_reducible assumption) | assumption)))); (try (have HP29 := Kd.R_putg HO_6.out (x34_2 : Int) t267)))); refine store_event (t := 22) (p := 56) (v := ?vo_w30) (w1 := (wr.setCell ⟨go28, (x34_2 : Int).toNat, none⟩ (.int .u64 t267))) ?hg ?ho ?hn ?hr ?_; (case ho => rfl); (case hg => rfl); (case hn => rfl); (case hr => first | (go_simp; done) | (go_simp; rfl)); intro w30 hw; have hg : wr.grownBy w30 (some go28) := (by rw [hw]; exact HP29.2); have hp_ : Kd.R (Kd.int .u64) 22 w30 w.heap.size (fun k_ => (w.heap.size ≤ k_)) (.slice (some ⟨go28, 0, none⟩) x6_2.length co28) y269 := (by rw [hw, Ny269.out]; exact HP29.1); clear HP29; replace HO_6 := Aside0.mk (hp_); replace HB := Aside0.mk ((by rw [hw]; exact below_set (HB.out) GB28.out : Below w.heap.size w w30)); clear hg hw hp_))
                  repeat (go_quiet (first | ((with_reducible refine gate_callee (f := 85) rfl ?_); refine goesX_ (some 53) rfl rfl Tryd.func85 (by kernel_rfl) rfl #[.int .u64 (rd y253 x34_2), .int .u64 (rd y258 x34_2), .int .u64 x7_2] rfl (by (try simp only [List.map_toArray, List.map_cons, List.map_nil]); first | done | rfl) ?_; (with_reducible refine (bits_Sub64.calls (rd y253 x34_2) (rd y258 x34_2) x7_2 t267 t268 _ A26.out).mono ?_); rintro e w' ⟨rfl, rfl⟩; refine ⟨_, rfl, ?_⟩; have p28 : 0 ≤ (x34_2 : Int) := of_decide_eq_true (by first | (with_reducible assumption) | assumption); have q28 : (x34_2 : Int) < ((x6_2.length : Int) : Int) := of_decide_eq_true (by first | (with_reducible assumption) | assumption); obtain ⟨go28, co28, eo28, gb28, gl28, cl28, HG28⟩ := Kd.R_form HO_6.out (by omega); (first | cases eo28 | (injection eo28 with ea_ en_ ec_; (first | subst ea_ | (injection ea_ with ea_; subst ea_)); subst ec_; clear en_)); have GB28 := Aside0.mk gb28; have GG28 := Aside0.mk HG28; clear gb28 gl28 HG28; obtain ⟨hx28_0, hf28_0⟩ := Kd.R_celln 0 HO_6.out (x34_2 : Int) p28 q28; replace p28 := eq_true p28; replace q28 := eq_true q28; obtain ⟨hy29_, hz29_⟩ := Kd.R_celln 0 HO_6.out (x34_2 : Int) (of_decide_eq_true (by first | (with_reducible assumption) | assumption)) (of_decide_eq_true (by first | (with_reducible assumption) | assumption)); have HP29 := Kd.R_putg HO_6.out (x34_2 : Int) t267) | ((with_reducible refine gate_store (t := 22) (p := 56) rfl ?_); (try (rw [drewN_self wr]; generalize hq_ : World.drewN wr _ = wr; have n0_ := Aside0.mk (Kd.R_at hq_ HO_6.out); have n1_ := Aside0.mk (below_at hq_ HB.out); clear hq_ HO_6 HB; have HO_6 := n0_; have HB := n1_; clear n0_ n1_; (try (obtain ⟨hy29_, hz29_⟩ := Kd.R_celln 0 HO_6.out (x34_2 : Int) (of_decide_eq_true (by first | (with_reducible assumption) | assumption)) (of_decide_eq_true (by first | (with_reducible assumption) | assumption)))); (try (have HP29 := Kd.R_putg HO_6.out (x34_2 : Int) t267)))); refine store_event (t := 22) (p := 56) (v := ?vo_w30) (w1 := (wr.setCell ⟨go28, (x34_2 : Int).toNat, none⟩ (.int .u64 t267))) ?hg ?ho ?hn ?hr ?_; (case ho => rfl); (case hg => rfl); (case hn => rfl); (case hr => first | (go_simp; done) | (go_simp; rfl)); intro w30 hw; have hg : wr.grownBy w30 (some go28) := (by rw [hw]; exact HP29.2); have hp_ : Kd.R (Kd.int .u64) 22 w30 w.heap.size (fun k_ => (w.heap.size ≤ k_)) (.slice (some ⟨go28, 0, none⟩) x6_2.length co28) y269 := (by rw [hw, Ny269.out]; exact HP29.1); clear HP29; replace HO_6 := Aside0.mk (hp_); replace HB := Aside0.mk ((by rw [hw]; exact below_set (HB.out) GB28.out : Below w.heap.size w w30)); clear hg hw hp_)); try go_wp2_with (first | ((with_reducible refine gate_callee (f := 85) rfl ?_); refine goesX_ (some 53) rfl rfl Tryd.func85 (by kernel_rfl) rfl #[.int .u64 (rd y253 x34_2), .int .u64 (rd y258 x34_2), .int .u64 x7_2] rfl (by (try simp only [List.map_toArray, List.map_cons, List.map_nil]); first | done | rfl) ?_; (with_reducible refine (bits_Sub64.calls (rd y253 x34_2) (rd y258 x34_2) x7_2 t267 t268 _ A26.out).mono ?_); rintro e w' ⟨rfl, rfl⟩; refine ⟨_, rfl, ?_⟩; have p28 : 0 ≤ (x34_2 : Int) := of_decide_eq_true (by first | (with_reducible assumption) | assumption); have q28 : (x34_2 : Int) < ((x6_2.length : Int) : Int) := of_decide_eq_true (by first | (with_reducible assumption) | assumption); obtain ⟨go28, co28, eo28, gb28, gl28, cl28, HG28⟩ := Kd.R_form HO_6.out (by omega); (first | cases eo28 | (injection eo28 with ea_ en_ ec_; (first | subst ea_ | (injection ea_ with ea_; subst ea_)); subst ec_; clear en_)); have GB28 := Aside0.mk gb28; have GG28 := Aside0.mk HG28; clear gb28 gl28 HG28; obtain ⟨hx28_0, hf28_0⟩ := Kd.R_celln 0 HO_6.out (x34_2 : Int) p28 q28; replace p28 := eq_true p28; replace q28 := eq_true q28; obtain ⟨hy29_, hz29_⟩ := Kd.R_celln 0 HO_6.out (x34_2 : Int) (of_decide_eq_true (by first | (with_reducible assumption) | assumption)) (of_decide_eq_true (by first | (with_reducible assumption) | assumption)); have HP29 := Kd.R_putg HO_6.out (x34_2 : Int) t267) | ((with_reducible refine gate_store (t := 22) (p := 56) rfl ?_); (try (rw [drewN_self wr]; generalize hq_ : World.drewN wr _ = wr; have n0_ := Aside0.mk (Kd.R_at hq_ HO_6.out); have n1_ := Aside0.mk (below_at hq_ HB.out); clear hq_ HO_6 HB; have HO_6 := n0_; have HB := n1_; clear n0_ n1_; (try (obtain ⟨hy29_, hz29_⟩ := Kd.R_celln 0 HO_6.out (x34_2 : Int) (of_decide_eq_true (by first | (with_reducible assumption) | assumption)) (of_decide_eq_true (by first | (with_reducible assumption) | assumption)))); (try (have HP29 := Kd.R_putg HO_6.out (x34_2 : Int) t267)))); refine store_event (t := 22) (p := 56) (v := ?vo_w30) (w1 := (wr.setCell ⟨go28, (x34_2 : Int).toNat, none⟩ (.int .u64 t267))) ?hg ?ho ?hn ?hr ?_; (case ho => rfl); (case hg => rfl); (case hn => rfl); (case hr => first | (go_simp; done) | (go_simp; rfl)); intro w30 hw; have hg : wr.grownBy w30 (some go28) := (by rw [hw]; exact HP29.2); have hp_ : Kd.R (Kd.int .u64) 22 w30 w.heap.size (fun k_ => (w.heap.size ≤ k_)) (.slice (some ⟨go28, 0, none⟩) x6_2.length co28) y269 := (by rw [hw, Ny269.out]; exact HP29.1); clear HP29; replace HO_6 := Aside0.mk (hp_); replace HB := Aside0.mk ((by rw [hw]; exact below_set (HB.out) GB28.out : Below w.heap.size w w30)); clear hg hw hp_)))
                  go_roundg k2
                  case measure => have := HJ2.out; have := HK2.out; omega
                  case rel => exact ⟨(y269), (t268), (wrap64 (x34_2 + 1)), (by first | rfl | (have e_ := Option.some.inj (A10.out.symm.trans A13.out); cases e_; rfl) | (simp; done) | (simp [*]; done)), (by first | rfl | (have e_ := Option.some.inj (A10.out.symm.trans A13.out); cases e_; rfl) | (simp; done) | (simp [*]; done)), H', ⟨by have := HJ2.out; have := HK2.out; omega⟩, ⟨rS <| HO_6.out⟩, ⟨bS HB.out⟩⟩
                 ·rw [if_neg c27] at H
                  exact absurd H (by simp)
                ·rw [if_neg c25] at H
                 have c25b0 : decide (x34_2 < (y258.length : Int)) = false := decide_eq_false c25
                 clear c25
                 replace H := Option.bind_eq_some_iff.mp H
                 obtain ⟨⟨t270, t271⟩, A310, H⟩ := H
                 replace H : (if x34_2 < (x6_2.length : Int) then (nat_Sub.l0 k2 y258 (x6_2.set (x34_2 : Int).toNat t270) t271 y253 (y253.length : Int) (wrap64 (x34_2 + 1))) else (none)) = some (r1, r2) := H
                 have A31 := Aside0.mk A310
                 clear A310
                 by_cases c32 : x34_2 < (x6_2.length : Int)
                 ·rw [if_pos c32] at H
                  have c32b0 : decide (x34_2 < (x6_2.length : Int)) = true := decide_eq_true c32
                  clear c32
                  obtain ⟨y272, hy272⟩ : ∃ y_ : List Int, y_ = (x6_2.set (x34_2 : Int).toNat t270) := ⟨_, rfl⟩
                  replace H : (nat_Sub.l0 k2 y258 y272 t271 y253 (y253.length : Int) (wrap64 (x34_2 + 1))) = some (r1, r2) := by first | (rw [hy272]; with_reducible exact H) | (have H2_ := (Option.bind_some _ _).symm.trans H; rw [hy272]; with_reducible exact H2_) | (have H2_ := (Option.bind_some _ _).symm.trans H; with_reducible exact H2_) | with_reducible exact H | (rw [hy272]; exact H) | exact H
                  have Ny272 := Aside0.mk hy272
                  clear hy272
                  have H' := Aside0.mk H
                  clear H
                  have p265 : 0 ≤ (x34_2 : Int) := of_decide_eq_true (by first | (with_reducible assumption) | assumption)
                  have q265 : x34_2 < (y253.length : Int) := of_decide_eq_true (by first | (with_reducible assumption) | assumption)
                  obtain ⟨ad265, e265, hx265_0⟩ := Kd.at_int HR256.out x34_2 p265 q265
                  cases e265
                  replace hx265_0 := (HB.out.cell (World.block_lt_of_cell? w _ hx265_0)).trans hx265_0
                  replace p265 := eq_true p265
                  replace q265 := eq_true q265
                  go_wp2_with (first | ((with_reducible refine gate_callee (f := 85) rfl ?_); refine goesX_ (some 53) rfl rfl Tryd.func85 (by kernel_rfl) rfl #[.int .u64 (rd y253 x34_2), .int .u64 0, .int .u64 x7_2] rfl (by (try simp only [List.map_toArray, List.map_cons, List.map_nil]); first | done | rfl) ?_; (with_reducible refine (bits_Sub64.calls (rd y253 x34_2) 0 x7_2 t270 t271 _ A31.out).mono ?_); rintro e w' ⟨rfl, rfl⟩; refine ⟨_, rfl, ?_⟩; have p33 : 0 ≤ (x34_2 : Int) := of_decide_eq_true (by first | (with_reducible assumption) | assumption); have q33 : (x34_2 : Int) < ((x6_2.length : Int) : Int) := of_decide_eq_true (by first | (with_reducible assumption) | assumption); obtain ⟨go33, co33, eo33, gb33, gl33, cl33, HG33⟩ := Kd.R_form HO_6.out (by omega); (first | cases eo33 | (injection eo33 with ea_ en_ ec_; (first | subst ea_ | (injection ea_ with ea_; subst ea_)); subst ec_; clear en_)); have GB33 := Aside0.mk gb33; have GG33 := Aside0.mk HG33; clear gb33 gl33 HG33; obtain ⟨hx33_0, hf33_0⟩ := Kd.R_celln 0 HO_6.out (x34_2 : Int) p33 q33; replace p33 := eq_true p33; replace q33 := eq_true q33; obtain ⟨hy34_, hz34_⟩ := Kd.R_celln 0 HO_6.out (x34_2 : Int) (of_decide_eq_true (by first | (with_reducible assumption) | assumption)) (of_decide_eq_true (by first | (with_reducible assumption) | assumption)); have HP34 := Kd.R_putg HO_6.out (x34_2 : Int) t270) | ((with_reducible refine gate_store (t := 22) (p := 56) rfl ?_); (try (rw [drewN_self wr]; generalize hq_ : World.drewN wr _ = wr; have n0_ := Aside0.mk (Kd.R_at hq_ HO_6.out); have n1_ := Aside0.mk (below_at hq_ HB.out); clear hq_ HO_6 HB; have HO_6 := n0_; have HB := n1_; clear n0_ n1_; (try (obtain ⟨hy34_, hz34_⟩ := Kd.R_celln 0 HO_6.out (x34_2 : Int) (of_decide_eq_true (by first | (with_reducible assumption) | assumption)) (of_decide_eq_true (by first | (with_reducible assumption) | assumption)))); (try (have HP34 := Kd.R_putg HO_6.out (x34_2 : Int) t270)))); refine store_event (t := 22) (p := 56) (v := ?vo_w35) (w1 := (wr.setCell ⟨go33, (x34_2 : Int).toNat, none⟩ (.int .u64 t270))) ?hg ?ho ?hn ?hr ?_; (case ho => rfl); (case hg => rfl); (case hn => rfl); (case hr => first | (go_simp; done) | (go_simp; rfl)); intro w35 hw; have hg : wr.grownBy w35 (some go33) := (by rw [hw]; exact HP34.2); have hp_ : Kd.R (Kd.int .u64) 22 w35 w.heap.size (fun k_ => (w.heap.size ≤ k_)) (.slice (some ⟨go33, 0, none⟩) x6_2.length co33) y272 := (by rw [hw, Ny272.out]; exact HP34.1); clear HP34; replace HO_6 := Aside0.mk (hp_); replace HB := Aside0.mk ((by rw [hw]; exact below_set (HB.out) GB33.out : Below w.heap.size w w35)); clear hg hw hp_))
                  repeat (go_quiet (first | ((with_reducible refine gate_callee (f := 85) rfl ?_); refine goesX_ (some 53) rfl rfl Tryd.func85 (by kernel_rfl) rfl #[.int .u64 (rd y253 x34_2), .int .u64 0, .int .u64 x7_2] rfl (by (try simp only [List.map_toArray, List.map_cons, List.map_nil]); first | done | rfl) ?_; (with_reducible refine (bits_Sub64.calls (rd y253 x34_2) 0 x7_2 t270 t271 _ A31.out).mono ?_); rintro e w' ⟨rfl, rfl⟩; refine ⟨_, rfl, ?_⟩; have p33 : 0 ≤ (x34_2 : Int) := of_decide_eq_true (by first | (with_reducible assumption) | assumption); have q33 : (x34_2 : Int) < ((x6_2.length : Int) : Int) := of_decide_eq_true (by first | (with_reducible assumption) | assumption); obtain ⟨go33, co33, eo33, gb33, gl33, cl33, HG33⟩ := Kd.R_form HO_6.out (by omega); (first | cases eo33 | (injection eo33 with ea_ en_ ec_; (first | subst ea_ | (injection ea_ with ea_; subst ea_)); subst ec_; clear en_)); have GB33 := Aside0.mk gb33; have GG33 := Aside0.mk HG33; clear gb33 gl33 HG33; obtain ⟨hx33_0, hf33_0⟩ := Kd.R_celln 0 HO_6.out (x34_2 : Int) p33 q33; replace p33 := eq_true p33; replace q33 := eq_true q33; obtain ⟨hy34_, hz34_⟩ := Kd.R_celln 0 HO_6.out (x34_2 : Int) (of_decide_eq_true (by first | (with_reducible assumption) | assumption)) (of_decide_eq_true (by first | (with_reducible assumption) | assumption)); have HP34 := Kd.R_putg HO_6.out (x34_2 : Int) t270) | ((with_reducible refine gate_store (t := 22) (p := 56) rfl ?_); (try (rw [drewN_self wr]; generalize hq_ : World.drewN wr _ = wr; have n0_ := Aside0.mk (Kd.R_at hq_ HO_6.out); have n1_ := Aside0.mk (below_at hq_ HB.out); clear hq_ HO_6 HB; have HO_6 := n0_; have HB := n1_; clear n0_ n1_; (try (obtain ⟨hy34_, hz34_⟩ := Kd.R_celln 0 HO_6.out (x34_2 : Int) (of_decide_eq_true (by first | (with_reducible assumption) | assumption)) (of_decide_eq_true (by first | (with_reducible assumption) | assumption)))); (try (have HP34 := Kd.R_putg HO_6.out (x34_2 : Int) t270)))); refine store_event (t := 22) (p := 56) (v := ?vo_w35) (w1 := (wr.setCell ⟨go33, (x34_2 : Int).toNat, none⟩ (.int .u64 t270))) ?hg ?ho ?hn ?hr ?_; (case ho => rfl); (case hg => rfl); (case hn => rfl); (case hr => first | (go_simp; done) | (go_simp; rfl)); intro w35 hw; have hg : wr.grownBy w35 (some go33) := (by rw [hw]; exact HP34.2); have hp_ : Kd.R (Kd.int .u64) 22 w35 w.heap.size (fun k_ => (w.heap.size ≤ k_)) (.slice (some ⟨go33, 0, none⟩) x6_2.length co33) y272 := (by rw [hw, Ny272.out]; exact HP34.1); clear HP34; replace HO_6 := Aside0.mk (hp_); replace HB := Aside0.mk ((by rw [hw]; exact below_set (HB.out) GB33.out : Below w.heap.size w w35)); clear hg hw hp_)); try go_wp2_with (first | ((with_reducible refine gate_callee (f := 85) rfl ?_); refine goesX_ (some 53) rfl rfl Tryd.func85 (by kernel_rfl) rfl #[.int .u64 (rd y253 x34_2), .int .u64 0, .int .u64 x7_2] rfl (by (try simp only [List.map_toArray, List.map_cons, List.map_nil]); first | done | rfl) ?_; (with_reducible refine (bits_Sub64.calls (rd y253 x34_2) 0 x7_2 t270 t271 _ A31.out).mono ?_); rintro e w' ⟨rfl, rfl⟩; refine ⟨_, rfl, ?_⟩; have p33 : 0 ≤ (x34_2 : Int) := of_decide_eq_true (by first | (with_reducible assumption) | assumption); have q33 : (x34_2 : Int) < ((x6_2.length : Int) : Int) := of_decide_eq_true (by first | (with_reducible assumption) | assumption); obtain ⟨go33, co33, eo33, gb33, gl33, cl33, HG33⟩ := Kd.R_form HO_6.out (by omega); (first | cases eo33 | (injection eo33 with ea_ en_ ec_; (first | subst ea_ | (injection ea_ with ea_; subst ea_)); subst ec_; clear en_)); have GB33 := Aside0.mk gb33; have GG33 := Aside0.mk HG33; clear gb33 gl33 HG33; obtain ⟨hx33_0, hf33_0⟩ := Kd.R_celln 0 HO_6.out (x34_2 : Int) p33 q33; replace p33 := eq_true p33; replace q33 := eq_true q33; obtain ⟨hy34_, hz34_⟩ := Kd.R_celln 0 HO_6.out (x34_2 : Int) (of_decide_eq_true (by first | (with_reducible assumption) | assumption)) (of_decide_eq_true (by first | (with_reducible assumption) | assumption)); have HP34 := Kd.R_putg HO_6.out (x34_2 : Int) t270) | ((with_reducible refine gate_store (t := 22) (p := 56) rfl ?_); (try (rw [drewN_self wr]; generalize hq_ : World.drewN wr _ = wr; have n0_ := Aside0.mk (Kd.R_at hq_ HO_6.out); have n1_ := Aside0.mk (below_at hq_ HB.out); clear hq_ HO_6 HB; have HO_6 := n0_; have HB := n1_; clear n0_ n1_; (try (obtain ⟨hy34_, hz34_⟩ := Kd.R_celln 0 HO_6.out (x34_2 : Int) (of_decide_eq_true (by first | (with_reducible assumption) | assumption)) (of_decide_eq_true (by first | (with_reducible assumption) | assumption)))); (try (have HP34 := Kd.R_putg HO_6.out (x34_2 : Int) t270)))); refine store_event (t := 22) (p := 56) (v := ?vo_w35) (w1 := (wr.setCell ⟨go33, (x34_2 : Int).toNat, none⟩ (.int .u64 t270))) ?hg ?ho ?hn ?hr ?_; (case ho => rfl); (case hg => rfl); (case hn => rfl); (case hr => first | (go_simp; done) | (go_simp; rfl)); intro w35 hw; have hg : wr.grownBy w35 (some go33) := (by rw [hw]; exact HP34.2); have hp_ : Kd.R (Kd.int .u64) 22 w35 w.heap.size (fun k_ => (w.heap.size ≤ k_)) (.slice (some ⟨go33, 0, none⟩) x6_2.length co33) y272 := (by rw [hw, Ny272.out]; exact HP34.1); clear HP34; replace HO_6 := Aside0.mk (hp_); replace HB := Aside0.mk ((by rw [hw]; exact below_set (HB.out) GB33.out : Below w.heap.size w w35)); clear hg hw hp_)))
                  go_roundg k2
                  case measure => have := HJ2.out; have := HK2.out; omega
                  case rel => exact ⟨(y272), (t271), (wrap64 (x34_2 + 1)), (by first | rfl | (have e_ := Option.some.inj (A10.out.symm.trans A13.out); cases e_; rfl) | (simp; done) | (simp [*]; done)), (by first | rfl | (have e_ := Option.some.inj (A10.out.symm.trans A13.out); cases e_; rfl) | (simp; done) | (simp [*]; done)), H', ⟨by have := HJ2.out; have := HK2.out; omega⟩, ⟨rS <| HO_6.out⟩, ⟨bS HB.out⟩⟩
                 ·rw [if_neg c32] at H
                  exact absurd H (by simp)
               ·rw [if_neg c24] at H
                exact absurd H (by simp)
              ·rw [if_neg c23] at H
               exact absurd H (by simp)
             ·rw [if_neg c22] at H
              have c22b0 : decide (x34_2 < (y253.length : Int)) = false := decide_eq_false c22
              clear c22
              replace H := Option.bind_eq_some_iff.mp H
              obtain ⟨⟨t273, t276⟩, A360, H⟩ := H
              replace H : (some (t273, t276)) = some (r1, r2) := H
              have A36 := Aside0.mk A360
              clear A360
              simp only [Option.some.injEq, Prod.mk.injEq] at H
              obtain ⟨rfl, rfl⟩ := H
              obtain ⟨Ao37, co37, eo37⟩ := Kd.R_slice HO_6.out
              subst eo37
              go_wp2_with (first | (go_at_call 84; (with_reducible refine (nat_cut.calls k2 (fun k_ => some k_ = (.slice Ao37 x6_2.length co37 : Value).ownBlock) _ _ x6_2 t273 t276 _ ?side1 A36.out).mono ?_); (case side1 => exact Kd.R_V (Kd.R_tight rfl (HO_6.out))); rintro e w38 ⟨v274, rfl, ho0, hb⟩; have HO275 := Aside0.mk (Kd.V_lower (Kd.V_mono (ok' := fun k_ => (w.heap.size ≤ k_)) ho0 (fun k_ hk_ => Or.elim hk_ (fun hs_ => ((HO_6.out).1 k_ hs_.symm)) (fun hn_ => (Nat.le_trans (below_size (bS HB.out)) hn_)))) (below_size (bS HB.out))); replace HO_6 := Aside0.mk (Kd.R_below (rS <| HO_6.out) hb); replace HB := hB HB hb; (try clear hb); (try clear hb2); (try clear hk); (try clear hi); (try clear ho0)))
              repeat (go_quiet (first | (go_at_call 84; (with_reducible refine (nat_cut.calls k2 (fun k_ => some k_ = (.slice Ao37 x6_2.length co37 : Value).ownBlock) _ _ x6_2 t273 t276 _ ?side1 A36.out).mono ?_); (case side1 => exact Kd.R_V (Kd.R_tight rfl (HO_6.out))); rintro e w38 ⟨v274, rfl, ho0, hb⟩; have HO275 := Aside0.mk (Kd.V_lower (Kd.V_mono (ok' := fun k_ => (w.heap.size ≤ k_)) ho0 (fun k_ hk_ => Or.elim hk_ (fun hs_ => ((HO_6.out).1 k_ hs_.symm)) (fun hn_ => (Nat.le_trans (below_size (bS HB.out)) hn_)))) (below_size (bS HB.out))); replace HO_6 := Aside0.mk (Kd.R_below (rS <| HO_6.out) hb); replace HB := hB HB hb; (try clear hb); (try clear hb2); (try clear hk); (try clear hi); (try clear ho0))); try go_wp2_with (first | (go_at_call 84; (with_reducible refine (nat_cut.calls k2 (fun k_ => some k_ = (.slice Ao37 x6_2.length co37 : Value).ownBlock) _ _ x6_2 t273 t276 _ ?side1 A36.out).mono ?_); (case side1 => exact Kd.R_V (Kd.R_tight rfl (HO_6.out))); rintro e w38 ⟨v274, rfl, ho0, hb⟩; have HO275 := Aside0.mk (Kd.V_lower (Kd.V_mono (ok' := fun k_ => (w.heap.size ≤ k_)) ho0 (fun k_ hk_ => Or.elim hk_ (fun hs_ => ((HO_6.out).1 k_ hs_.symm)) (fun hn_ => (Nat.le_trans (below_size (bS HB.out)) hn_)))) (below_size (bS HB.out))); replace HO_6 := Aside0.mk (Kd.R_below (rS <| HO_6.out) hb); replace HB := hB HB hb; (try clear hb); (try clear hb2); (try clear hk); (try clear hi); (try clear ho0))))
              go_ret2
              exact ⟨_, by first | rfl | (simp [errW_none, errW_some] <;> rfl) | (simp [*, errW_none, errW_some] <;> rfl), vS <| HO275.out, bS HB.out⟩
          ·rw [if_neg c17] at H
           exact absurd H (by simp)
         ·rw [if_neg c16] at H
          exact absurd H (by simp)
        ·rw [if_neg c15] at H
         exact absurd H (by simp)
       ·rw [if_neg c14] at H
        exact absurd H (by simp)
      ·rw [if_neg c12] at H
       exact absurd H (by simp)
     ·rw [if_neg c11] at H
      exact absurd H (by simp)

/-! ### soft_aligned: function 119 -/
def soft_aligned.f (k : Nat) (l0 : List Int) (a1 : Int) (l2 : List Int) (a3 : Int) : Option (List Int × List Int × Int) := if a1 > a3 then ((nat_Shl.f k l0 (wrap64 (a1 - a3))).bind fun bt277 => (some (bt277.1, l2, a3))) else ((nat_Shl.f k l2 (wrap64 (a3 - a1))).bind fun bt281 => (some (l0, bt281.1, a1)))
theorem soft_aligned.mono : ∀ a0 a1 a2 a3 k, LeO (soft_aligned.f k a0 a1 a2 a3) (soft_aligned.f (k + 1) a0 a1 a2 a3) := by
 intro a0 a1 a2 a3 k
 unfold soft_aligned.f
 repeat' first
   | (with_reducible exact nat_Shl.mono _ _ _)
   | (with_reducible exact LeO.refl _)
   | (with_reducible exact LeO.none _)
   | (with_reducible refine LeO.ite ?_ ?_)
   | (with_reducible refine LeO.bind ?_ (fun _ => ?_))
   | exact nat_Shl.mono _ _ _
   | exact LeO.none _
   | refine LeO.ite ?_ ?_
   | refine LeO.bind ?_ (fun _ => ?_)
set_option maxHeartbeats 8000000 in
set_option maxRecDepth 100000 in
theorem soft_aligned.calls (k : Nat) (P0_ : Nat → Prop) (A0 : Option Addr) (c0 : Nat) (l0 : List Int) (a1 : Int) (P2_ : Nat → Prop) (A2 : Option Addr) (c2 : Nat) (l2 : List Int) (a3 : Int) (r1 : List Int) (r2 : List Int) (r3 : Int) (w : World) (hs0 : Kd.V (Kd.int .u64) 22 w w.heap.size (fun k_ => P0_ k_) (.slice A0 l0.length c0) l0) (hs2 : Kd.V (Kd.int .u64) 22 w w.heap.size (fun k_ => P2_ k_) (.slice A2 l2.length c2) l2) (h : soft_aligned.f k l0 a1 l2 a3 = some (r1, r2, r3)) :
  Calls Tryd.prog 119 #[.slice A0 l0.length c0, .int .i64 a1, .slice A2 l2.length c2, .int .i64 a3] w fun e w' => ∃ v0_ v1_ : Value, e = .returned (.tuple #[v0_, v1_, .int .i64 r3]) ∧ Kd.V (Kd.int .u64) 22 w' w.heap.size (fun k_ => ((P0_ k_ ∨ P2_ k_) ∨ w.heap.size ≤ k_)) v0_ r1 ∧ Kd.V (Kd.int .u64) 22 w' w.heap.size (fun k_ => ((P0_ k_ ∨ P2_ k_) ∨ w.heap.size ≤ k_)) v1_ r2 ∧ Below w.heap.size w w' := by
 have HO0 := Aside0.mk (show Kd.V (Kd.int .u64) 22 w w.heap.size (fun k_ => ((P0_ k_ ∨ P2_ k_) ∨ w.heap.size ≤ k_)) (.slice A0 l0.length c0) l0 from Kd.V_mono hs0 (fun k_ hk => .inl (.inl hk)))
 have HO2 := Aside0.mk (show Kd.V (Kd.int .u64) 22 w w.heap.size (fun k_ => ((P0_ k_ ∨ P2_ k_) ∨ w.heap.size ≤ k_)) (.slice A2 l2.length c2) l2 from Kd.V_mono hs2 (fun k_ hk => .inl (.inr hk)))
 have HB := Aside0.mk (Below.refl w.heap.size w)
 have H : (if a1 > a3 then ((nat_Shl.f k l0 (wrap64 (a1 - a3))).bind fun bt277 => (some (bt277.1, l2, a3))) else ((nat_Shl.f k l2 (wrap64 (a3 - a1))).bind fun bt281 => (some (l0, bt281.1, a1)))) = some (r1, r2, r3) := h
 clear h
 by_cases c5 : a1 > a3
 ·rw [if_pos c5] at H
  have c5b0 : decide (a3 < a1) = true := decide_eq_true c5
  clear c5
  replace H := Option.bind_eq_some_iff.mp H
  obtain ⟨⟨t277, t280⟩, A60, H⟩ := H
  replace H : (some (t277, l2, a3)) = some (r1, r2, r3) := H
  have A6 := Aside0.mk A60
  clear A60
  simp only [Option.some.injEq, Prod.mk.injEq] at H
  obtain ⟨rfl, rfl, rfl⟩ := H
  go_enter Tryd.func119, Tryd.ntmps119
  go_wp2_with (first | ((with_reducible refine gate_callee (f := 51) rfl ?_); refine goesL_ (some 19) rfl rfl Tryd.func51 (by kernel_rfl) rfl #[.slice A0 l0.length c0, .int .i64 (wrap64 (a1 - a3))] rfl (by (try simp only [List.map_toArray, List.map_cons, List.map_nil]); first | done | rfl) ?_; (with_reducible refine (nat_Shl.calls k _ _ l0 (wrap64 (a1 - a3)) t277 t280 _ ?side1 ?side2 A6.out).mono ?_); (case side1 => exact cS (Kd.V_reads' HO0.out).2.2); (case side2 => exact (Kd.V_reads' HO0.out).2.1); rintro e w7 ⟨v278, rfl, ho0, hb⟩; refine ⟨_, rfl, ?_⟩; replace HO0 := vB HO0 hb; replace HO2 := vB HO2 hb; have HO279 := Aside0.mk (Kd.V_lower (Kd.V_mono (ok' := fun k_ => ((P0_ k_ ∨ P2_ k_) ∨ w.heap.size ≤ k_)) ho0 (fun k_ hk_ => (.inr (Nat.le_trans (below_size (bS HB.out)) hk_)))) (below_size (bS HB.out))); replace HB := hB HB hb; (try clear hb); (try clear hb2); (try clear hk); (try clear hi); (try clear ho0)))
  go_ret3
  exact ⟨_, _, by first | rfl | (simp [errW_none, errW_some] <;> rfl) | (simp [*, errW_none, errW_some] <;> rfl), vS <| HO279.out, vS <| HO2.out, bS HB.out⟩
 ·rw [if_neg c5] at H
  have c5b0 : decide (a3 < a1) = false := decide_eq_false c5
  clear c5
  replace H := Option.bind_eq_some_iff.mp H
  obtain ⟨⟨t281, t284⟩, A80, H⟩ := H
  replace H : (some (l0, t281, a1)) = some (r1, r2, r3) := H
  have A8 := Aside0.mk A80
  clear A80
  simp only [Option.some.injEq, Prod.mk.injEq] at H
  obtain ⟨rfl, rfl, rfl⟩ := H
  go_enter Tryd.func119, Tryd.ntmps119
  go_wp2_with (first | ((with_reducible refine gate_callee (f := 51) rfl ?_); refine goesL_ (some 30) rfl rfl Tryd.func51 (by kernel_rfl) rfl #[.slice A2 l2.length c2, .int .i64 (wrap64 (a3 - a1))] rfl (by (try simp only [List.map_toArray, List.map_cons, List.map_nil]); first | done | rfl) ?_; (with_reducible refine (nat_Shl.calls k _ _ l2 (wrap64 (a3 - a1)) t281 t284 _ ?side1 ?side2 A8.out).mono ?_); (case side1 => exact cS (Kd.V_reads' HO2.out).2.2); (case side2 => exact (Kd.V_reads' HO2.out).2.1); rintro e w9 ⟨v282, rfl, ho0, hb⟩; refine ⟨_, rfl, ?_⟩; replace HO0 := vB HO0 hb; replace HO2 := vB HO2 hb; have HO283 := Aside0.mk (Kd.V_lower (Kd.V_mono (ok' := fun k_ => ((P0_ k_ ∨ P2_ k_) ∨ w.heap.size ≤ k_)) ho0 (fun k_ hk_ => (.inr (Nat.le_trans (below_size (bS HB.out)) hk_)))) (below_size (bS HB.out))); replace HB := hB HB hb; (try clear hb); (try clear hb2); (try clear hk); (try clear hi); (try clear ho0)))
  go_ret3
  exact ⟨_, _, by first | rfl | (simp [errW_none, errW_some] <;> rfl) | (simp [*, errW_none, errW_some] <;> rfl), vS <| HO0.out, vS <| HO283.out, bS HB.out⟩

/-! ### soft_term_plus: function 88 -/
def soft_term_plus.f (k : Nat) (a0_0 : Bool) (l0_1 : List Int) (a0_2 : Int) (a1_0 : Bool) (l1_1 : List Int) (a1_2 : Int) : Option (Bool × List Int × Int) := (soft_aligned.f k l0_1 a0_2 l1_1 a1_2).bind fun bt288 => (if (a0_0 == a1_0) = true then ((nat_Add.f k bt288.1 bt288.2.1).bind fun bt295 => (some (a0_0, bt295.1, bt288.2.2))) else ((nat_Cmp.f k bt288.1 bt288.2.1).bind fun t299 => (if t299 = 0 then (some (false, ([] : List Int), 0)) else (if t299 = 1 then ((nat_Sub.f k bt288.1 bt288.2.1).bind fun bt300 => (some (a0_0, bt300.1, bt288.2.2))) else ((nat_Sub.f k bt288.2.1 bt288.1).bind fun bt304 => (some (a1_0, bt304.1, bt288.2.2)))))))
theorem soft_term_plus.mono : ∀ a0 a1 a2 a3 a4 a5 k, LeO (soft_term_plus.f k a0 a1 a2 a3 a4 a5) (soft_term_plus.f (k + 1) a0 a1 a2 a3 a4 a5) := by
 intro a0 a1 a2 a3 a4 a5 k
 unfold soft_term_plus.f
 repeat' first
   | (with_reducible exact nat_Add.mono _ _ _)
   | (with_reducible exact nat_Cmp.mono _ _ _)
   | (with_reducible exact nat_Sub.mono _ _ _)
   | (with_reducible exact soft_aligned.mono _ _ _ _ _)
   | (with_reducible exact LeO.refl _)
   | (with_reducible exact LeO.none _)
   | (with_reducible refine LeO.ite ?_ ?_)
   | (with_reducible refine LeO.bind ?_ (fun _ => ?_))
   | exact nat_Add.mono _ _ _
   | exact nat_Cmp.mono _ _ _
   | exact nat_Sub.mono _ _ _
   | exact soft_aligned.mono _ _ _ _ _
   | exact LeO.none _
   | refine LeO.ite ?_ ?_
   | refine LeO.bind ?_ (fun _ => ?_)
set_option maxHeartbeats 8000000 in
set_option maxRecDepth 100000 in
theorem soft_term_plus.calls (k : Nat) (a0_0 : Bool) (P0_1_ : Nat → Prop) (A0_1 : Option Addr) (c0_1 : Nat) (l0_1 : List Int) (a0_2 : Int) (a1_0 : Bool) (P1_1_ : Nat → Prop) (A1_1 : Option Addr) (c1_1 : Nat) (l1_1 : List Int) (a1_2 : Int) (r1 : Bool) (r2 : List Int) (r3 : Int) (w : World) (hs0_1 : Kd.V (Kd.int .u64) 22 w w.heap.size (fun k_ => P0_1_ k_) (.slice A0_1 l0_1.length c0_1) l0_1) (hs1_1 : Kd.V (Kd.int .u64) 22 w w.heap.size (fun k_ => P1_1_ k_) (.slice A1_1 l1_1.length c1_1) l1_1) (h : soft_term_plus.f k a0_0 l0_1 a0_2 a1_0 l1_1 a1_2 = some (r1, r2, r3)) :
  Calls Tryd.prog 88 #[.agg #[.bool a0_0, .slice A0_1 l0_1.length c0_1, .int .i64 a0_2], .agg #[.bool a1_0, .slice A1_1 l1_1.length c1_1, .int .i64 a1_2]] w fun e w' => ∃ v1_ : Value, e = .returned (.agg #[.bool r1, v1_, .int .i64 r3]) ∧ Kd.V (Kd.int .u64) 22 w' w.heap.size (fun k_ => ((P0_1_ k_ ∨ P1_1_ k_) ∨ w.heap.size ≤ k_)) v1_ r2 ∧ Below w.heap.size w w' := by
 have hu89 := Tryd.underlying89
 have HO0_1 := Aside0.mk (show Kd.V (Kd.int .u64) 22 w w.heap.size (fun k_ => ((P0_1_ k_ ∨ P1_1_ k_) ∨ w.heap.size ≤ k_)) (.slice A0_1 l0_1.length c0_1) l0_1 from Kd.V_mono hs0_1 (fun k_ hk => .inl (.inl hk)))
 have HO1_1 := Aside0.mk (show Kd.V (Kd.int .u64) 22 w w.heap.size (fun k_ => ((P0_1_ k_ ∨ P1_1_ k_) ∨ w.heap.size ≤ k_)) (.slice A1_1 l1_1.length c1_1) l1_1 from Kd.V_mono hs1_1 (fun k_ hk => .inl (.inr hk)))
 have HB := Aside0.mk (Below.refl w.heap.size w)
 have H : ((soft_aligned.f k l0_1 a0_2 l1_1 a1_2).bind fun bt288 => (if (a0_0 == a1_0) = true then ((nat_Add.f k bt288.1 bt288.2.1).bind fun bt295 => (some (a0_0, bt295.1, bt288.2.2))) else ((nat_Cmp.f k bt288.1 bt288.2.1).bind fun t299 => (if t299 = 0 then (some (false, ([] : List Int), 0)) else (if t299 = 1 then ((nat_Sub.f k bt288.1 bt288.2.1).bind fun bt300 => (some (a0_0, bt300.1, bt288.2.2))) else ((nat_Sub.f k bt288.2.1 bt288.1).bind fun bt304 => (some (a1_0, bt304.1, bt288.2.2)))))))) = some (r1, r2, r3) := h
 clear h
 replace H := Option.bind_eq_some_iff.mp H
 obtain ⟨⟨t288, t291, t294⟩, A30, H⟩ := H
 replace H : (if (a0_0 == a1_0) = true then ((nat_Add.f k t288 t291).bind fun bt295 => (some (a0_0, bt295.1, t294))) else ((nat_Cmp.f k t288 t291).bind fun t299 => (if t299 = 0 then (some (false, ([] : List Int), 0)) else (if t299 = 1 then ((nat_Sub.f k t288 t291).bind fun bt300 => (some (a0_0, bt300.1, t294))) else ((nat_Sub.f k t291 t288).bind fun bt304 => (some (a1_0, bt304.1, t294))))))) = some (r1, r2, r3) := H
 have A3 := Aside0.mk A30
 clear A30
 by_cases c4 : (a0_0 == a1_0) = true
 ·rw [if_pos c4] at H
  have c4b0 : (a0_0 == a1_0) = true := c4
  (try (have c4b1 : decide (a0_0 = a1_0) = true := by simpa using c4))
  (try (have c4b2 : (a0_0 == a1_0) = true := by simpa using c4))
  clear c4
  replace H := Option.bind_eq_some_iff.mp H
  obtain ⟨⟨t295, t298⟩, A50, H⟩ := H
  replace H : (some (a0_0, t295, t294)) = some (r1, r2, r3) := H
  have A5 := Aside0.mk A50
  clear A50
  simp only [Option.some.injEq, Prod.mk.injEq] at H
  obtain ⟨rfl, rfl, rfl⟩ := H
  go_enter Tryd.func88, Tryd.ntmps88
  go_wp2_with (first | ((with_reducible refine gate_dst (N := 2) rfl ?_); refine box_event ?hg (N := 2) ?hd (cs := #[.bool a0_0, .slice A0_1 l0_1.length c0_1, .int .i64 a0_2]) (t := 89) ?hr ?_; (case hd => rfl); (case hg => rfl); (case hr => first | (go_simp; done) | (go_simp; rfl)); intro gb285 hg w6 hbox hb; replace HO0_1 := Aside0.mk (Kd.V_below (Kd.V_elderB (vS <| HO0_1.out) gb285 (Nat.le_of_eq hg.symm)) hb); replace HO1_1 := Aside0.mk (Kd.V_below (Kd.V_elderB (vS <| HO1_1.out) gb285 (Nat.le_of_eq hg.symm)) hb); have BK285 := Aside0.mk (hbox); have GW285 := Aside0.mk ((by rw [hg]; exact (below_size (bS HB.out)) : w.heap.size ≤ gb285)); have GE285 := Aside0.mk ((by rw [hg]; exact (below_size (bS HB.out)) : w.heap.size ≤ gb285)); replace HB := hB HB hb; clear hb hbox hg) | ((with_reducible refine gate_dst (N := 3) rfl ?_); refine box_event ?hg (N := 3) ?hd (cs := #[.bool a1_0, .slice A1_1 l1_1.length c1_1, .int .i64 a1_2]) (t := 89) ?hr ?_; (case hd => rfl); (case hg => rfl); (case hr => first | (go_simp; done) | (go_simp; rfl)); intro gb286 hg w7 hbox hb; replace HO0_1 := Aside0.mk (Kd.V_below (Kd.V_elderB (vS <| HO0_1.out) gb286 (Nat.le_of_eq hg.symm)) hb); replace HO1_1 := Aside0.mk (Kd.V_below (Kd.V_elderB (vS <| HO1_1.out) gb286 (Nat.le_of_eq hg.symm)) hb); have BK286 := Aside0.mk (hbox); have GW286 := Aside0.mk ((by rw [hg]; exact (below_size (bG1 HB.out GE285.out)) : w.heap.size ≤ gb286)); have GE286 := Aside0.mk ((by rw [hg]; exact (below_size (bG1 HB.out GE285.out)) : w.heap.size ≤ gb286)); replace HB := Aside0.mk (below_step (bG1 HB.out GE285.out) hb); have NB285_286 := Aside0.mk ((by rw [hg]; exact Nat.ne_of_lt (blk_lt (g := gb285) (o := .cells #[.bool a0_0, .slice A0_1 l0_1.length c0_1, .int .i64 a0_2] 89 (0, 0)) (by exact bkS BK285.out)) : gb285 ≠ gb286)); have NB286_285 := Aside0.mk ((by rw [hg]; exact Nat.ne_of_gt (blk_lt (g := gb285) (o := .cells #[.bool a0_0, .slice A0_1 l0_1.length c0_1, .int .i64 a0_2] 89 (0, 0)) (by exact bkS BK285.out)) : gb286 ≠ gb285)); replace BK285 := bkB BK285 hb; clear hb hbox hg) | ((with_reducible refine gate_dst (N := 4) rfl ?_); refine box_event ?hg (N := 4) ?hd (cs := #[.bool false, .slice none 0 0, .int .i64 0]) (t := 89) ?hr ?_; (case hd => rfl); (case hg => rfl); (case hr => first | (go_simp; done) | (go_simp; rfl)); intro gb287 hg w8 hbox hb; replace HO0_1 := Aside0.mk (Kd.V_below (Kd.V_elderB (vS <| HO0_1.out) gb287 (Nat.le_of_eq hg.symm)) hb); replace HO1_1 := Aside0.mk (Kd.V_below (Kd.V_elderB (vS <| HO1_1.out) gb287 (Nat.le_of_eq hg.symm)) hb); have BK287 := Aside0.mk (hbox); have GW287 := Aside0.mk ((by rw [hg]; exact (below_size (bG2 HB.out GE285.out GE286.out)) : w.heap.size ≤ gb287)); have GE287 := Aside0.mk ((by rw [hg]; exact (below_size (bG2 HB.out GE285.out GE286.out)) : w.heap.size ≤ gb287)); replace HB := Aside0.mk (below_step (bG2 HB.out GE285.out GE286.out) hb); have NB285_287 := Aside0.mk ((by rw [hg]; exact Nat.ne_of_lt (blk_lt (g := gb285) (o := .cells #[.bool a0_0, .slice A0_1 l0_1.length c0_1, .int .i64 a0_2] 89 (0, 0)) (by exact bkS BK285.out)) : gb285 ≠ gb287)); have NB287_285 := Aside0.mk ((by rw [hg]; exact Nat.ne_of_gt (blk_lt (g := gb285) (o := .cells #[.bool a0_0, .slice A0_1 l0_1.length c0_1, .int .i64 a0_2] 89 (0, 0)) (by exact bkS BK285.out)) : gb287 ≠ gb285)); replace BK285 := bkB BK285 hb; have NB286_287 := Aside0.mk ((by rw [hg]; exact Nat.ne_of_lt (blk_lt (g := gb286) (o := .cells #[.bool a1_0, .slice A1_1 l1_1.length c1_1, .int .i64 a1_2] 89 (0, 0)) (by exact bkS BK286.out)) : gb286 ≠ gb287)); have NB287_286 := Aside0.mk ((by rw [hg]; exact Nat.ne_of_gt (blk_lt (g := gb286) (o := .cells #[.bool a1_0, .slice A1_1 l1_1.length c1_1, .int .i64 a1_2] 89 (0, 0)) (by exact bkS BK286.out)) : gb287 ≠ gb286)); replace BK286 := bkB BK286 hb; clear hb hbox hg; have hnb9 := NB285_286.out; have hnc9 := NB286_285.out; have hnb10 := NB285_287.out; have hnc10 := NB287_285.out; have hcz11_0 : w8.cell? ⟨gb285, 0, none⟩ = some (.bool a0_0) := (blk_cell BK285.out 0).trans rfl; have hcz11_1 : w8.cell? ⟨gb285, 1, none⟩ = some (.slice A0_1 l0_1.length c0_1) := (blk_cell BK285.out 1).trans rfl; have hcz11_2 : w8.cell? ⟨gb285, 2, none⟩ = some (.int .i64 a0_2) := (blk_cell BK285.out 2).trans rfl; have hfz11_0 := blk_frozen BK285.out 0; have hfz11_1 := blk_frozen BK285.out 1; have hfz11_2 := blk_frozen BK285.out 2; have hnb12 := NB286_287.out; have hnc12 := NB287_286.out; have hcz13_0 : w8.cell? ⟨gb286, 0, none⟩ = some (.bool a1_0) := (blk_cell BK286.out 0).trans rfl; have hcz13_1 : w8.cell? ⟨gb286, 1, none⟩ = some (.slice A1_1 l1_1.length c1_1) := (blk_cell BK286.out 1).trans rfl; have hcz13_2 : w8.cell? ⟨gb286, 2, none⟩ = some (.int .i64 a1_2) := (blk_cell BK286.out 2).trans rfl; have hfz13_0 := blk_frozen BK286.out 0; have hfz13_1 := blk_frozen BK286.out 1; have hfz13_2 := blk_frozen BK286.out 2) | ((with_reducible refine gate_callee (f := 119) rfl ?_); refine goesL_ (some 23) rfl rfl Tryd.func119 (by kernel_rfl) rfl #[.slice A0_1 l0_1.length c0_1, .int .i64 a0_2, .slice A1_1 l1_1.length c1_1, .int .i64 a1_2] rfl (by (try simp only [List.map_toArray, List.map_cons, List.map_nil]); first | done | rfl) ?_; (with_reducible refine (soft_aligned.calls k (fun k_ => (((((P0_1_ k_ ∨ P1_1_ k_) ∨ w.heap.size ≤ k_) ∧ k_ ≠ gb285) ∧ k_ ≠ gb286) ∧ k_ ≠ gb287)) _ _ l0_1 a0_2 (fun k_ => (((((P0_1_ k_ ∨ P1_1_ k_) ∨ w.heap.size ≤ k_) ∧ k_ ≠ gb285) ∧ k_ ≠ gb286) ∧ k_ ≠ gb287)) _ _ l1_1 a1_2 t288 t291 t294 _ ?side1 ?side2 A3.out).mono ?_); (case side1 => exact HO0_1.out); (case side2 => exact HO1_1.out); rintro e w14 ⟨v289, v292, rfl, ho0, ho1, hb⟩; refine ⟨_, rfl, ?_⟩; replace HO0_1 := vB HO0_1 hb; replace HO1_1 := vB HO1_1 hb; have HO290 := Aside0.mk (Kd.V_lower (Kd.V_mono (ok' := fun k_ => ((P0_1_ k_ ∨ P1_1_ k_) ∨ w.heap.size ≤ k_) ∧ k_ ≠ gb285 ∧ k_ ≠ gb286 ∧ k_ ≠ gb287) ho0 (fun k_ hk_ => ⟨Or.elim hk_ (fun hs_ => Or.elim hs_ (fun hs_ => hs_.1.1.1) (fun hs_ => hs_.1.1.1)) (fun hn_ => (.inr (Nat.le_trans (below_size (bG3 HB.out GE285.out GE286.out GE287.out)) hn_))), Or.elim hk_ (fun hs_ => Or.elim hs_ (fun hs_ => hs_.1.1.2) (fun hs_ => hs_.1.1.2)) (fun hn_ => (Kd.freshB (g := gb285) (o := .cells #[.bool a0_0, .slice A0_1 l0_1.length c0_1, .int .i64 a0_2] 89 (0, 0)) (by exact bkS BK285.out) k_ hn_)), Or.elim hk_ (fun hs_ => Or.elim hs_ (fun hs_ => hs_.1.2) (fun hs_ => hs_.1.2)) (fun hn_ => (Kd.freshB (g := gb286) (o := .cells #[.bool a1_0, .slice A1_1 l1_1.length c1_1, .int .i64 a1_2] 89 (0, 0)) (by exact bkS BK286.out) k_ hn_)), Or.elim hk_ (fun hs_ => Or.elim hs_ (fun hs_ => hs_.2) (fun hs_ => hs_.2)) (fun hn_ => (Kd.freshB (g := gb287) (o := .cells #[.bool false, .slice none 0 0, .int .i64 0] 89 (0, 0)) (by exact bkS BK287.out) k_ hn_))⟩)) (below_size (bG3 HB.out GE285.out GE286.out GE287.out))); have HO293 := Aside0.mk (Kd.V_lower (Kd.V_mono (ok' := fun k_ => ((P0_1_ k_ ∨ P1_1_ k_) ∨ w.heap.size ≤ k_) ∧ k_ ≠ gb285 ∧ k_ ≠ gb286 ∧ k_ ≠ gb287) ho1 (fun k_ hk_ => ⟨Or.elim hk_ (fun hs_ => Or.elim hs_ (fun hs_ => hs_.1.1.1) (fun hs_ => hs_.1.1.1)) (fun hn_ => (.inr (Nat.le_trans (below_size (bG3 HB.out GE285.out GE286.out GE287.out)) hn_))), Or.elim hk_ (fun hs_ => Or.elim hs_ (fun hs_ => hs_.1.1.2) (fun hs_ => hs_.1.1.2)) (fun hn_ => (Kd.freshB (g := gb285) (o := .cells #[.bool a0_0, .slice A0_1 l0_1.length c0_1, .int .i64 a0_2] 89 (0, 0)) (by exact bkS BK285.out) k_ hn_)), Or.elim hk_ (fun hs_ => Or.elim hs_ (fun hs_ => hs_.1.2) (fun hs_ => hs_.1.2)) (fun hn_ => (Kd.freshB (g := gb286) (o := .cells #[.bool a1_0, .slice A1_1 l1_1.length c1_1, .int .i64 a1_2] 89 (0, 0)) (by exact bkS BK286.out) k_ hn_)), Or.elim hk_ (fun hs_ => Or.elim hs_ (fun hs_ => hs_.2) (fun hs_ => hs_.2)) (fun hn_ => (Kd.freshB (g := gb287) (o := .cells #[.bool false, .slice none 0 0, .int .i64 0] 89 (0, 0)) (by exact bkS BK287.out) k_ hn_))⟩)) (below_size (bG3 HB.out GE285.out GE286.out GE287.out))); replace BK285 := bkB BK285 hb; replace BK286 := bkB BK286 hb; replace BK287 := bkB BK287 hb; replace HB := Aside0.mk (below_step (bG3 HB.out GE285.out GE286.out GE287.out) hb); (try clear hb); (try clear hb2); (try clear hk); (try clear hi); (try clear ho0); (try clear ho1); have hcz15_0 : w14.cell? ⟨gb285, 0, none⟩ = some (.bool a0_0) := (blk_cell BK285.out 0).trans rfl; have hcz15_1 : w14.cell? ⟨gb285, 1, none⟩ = some (.slice A0_1 l0_1.length c0_1) := (blk_cell BK285.out 1).trans rfl; have hcz15_2 : w14.cell? ⟨gb285, 2, none⟩ = some (.int .i64 a0_2) := (blk_cell BK285.out 2).trans rfl; have hfz15_0 := blk_frozen BK285.out 0; have hfz15_1 := blk_frozen BK285.out 1; have hfz15_2 := blk_frozen BK285.out 2; have hcz16_0 : w14.cell? ⟨gb286, 0, none⟩ = some (.bool a1_0) := (blk_cell BK286.out 0).trans rfl; have hcz16_1 : w14.cell? ⟨gb286, 1, none⟩ = some (.slice A1_1 l1_1.length c1_1) := (blk_cell BK286.out 1).trans rfl; have hcz16_2 : w14.cell? ⟨gb286, 2, none⟩ = some (.int .i64 a1_2) := (blk_cell BK286.out 2).trans rfl; have hfz16_0 := blk_frozen BK286.out 0; have hfz16_1 := blk_frozen BK286.out 1; have hfz16_2 := blk_frozen BK286.out 2; obtain ⟨Ao17, co17, eo17⟩ := Kd.V_slice HO290.out; subst eo17; obtain ⟨Ao18, co18, eo18⟩ := Kd.V_slice HO293.out; subst eo18) | ((with_reducible refine gate_callee (f := 55) rfl ?_); refine goesL_ (some 35) rfl rfl Tryd.func55 (by kernel_rfl) rfl #[.slice Ao17 t288.length co17, .slice Ao18 t291.length co18] rfl (by (try simp only [List.map_toArray, List.map_cons, List.map_nil]); first | done | rfl) ?_; (with_reducible refine (nat_Add.calls k (fun k_ => (((P0_1_ k_ ∨ P1_1_ k_) ∨ w.heap.size ≤ k_) ∧ (k_ ≠ gb285 ∧ (k_ ≠ gb286 ∧ k_ ≠ gb287)))) _ _ t288 (fun k_ => (((P0_1_ k_ ∨ P1_1_ k_) ∨ w.heap.size ≤ k_) ∧ (k_ ≠ gb285 ∧ (k_ ≠ gb286 ∧ k_ ≠ gb287)))) _ _ t291 t295 t298 _ ?side1 ?side2 A5.out).mono ?_); (case side1 => exact HO290.out); (case side2 => exact HO293.out); rintro e w19 ⟨v296, rfl, ho0, hb⟩; refine ⟨_, rfl, ?_⟩; replace HO0_1 := vB HO0_1 hb; replace HO1_1 := vB HO1_1 hb; replace HO290 := vB HO290 hb; replace HO293 := vB HO293 hb; have HO297 := Aside0.mk (Kd.V_lower (Kd.V_mono (ok' := fun k_ => ((P0_1_ k_ ∨ P1_1_ k_) ∨ w.heap.size ≤ k_) ∧ k_ ≠ gb285 ∧ k_ ≠ gb286 ∧ k_ ≠ gb287) ho0 (fun k_ hk_ => ⟨Or.elim hk_ (fun hs_ => Or.elim hs_ (fun hs_ => hs_.1) (fun hs_ => hs_.1)) (fun hn_ => (.inr (Nat.le_trans (below_size (bG3 HB.out GE285.out GE286.out GE287.out)) hn_))), Or.elim hk_ (fun hs_ => Or.elim hs_ (fun hs_ => hs_.2.1) (fun hs_ => hs_.2.1)) (fun hn_ => (Kd.freshB (g := gb285) (o := .cells #[.bool a0_0, .slice A0_1 l0_1.length c0_1, .int .i64 a0_2] 89 (0, 0)) (by exact bkS BK285.out) k_ hn_)), Or.elim hk_ (fun hs_ => Or.elim hs_ (fun hs_ => hs_.2.2.1) (fun hs_ => hs_.2.2.1)) (fun hn_ => (Kd.freshB (g := gb286) (o := .cells #[.bool a1_0, .slice A1_1 l1_1.length c1_1, .int .i64 a1_2] 89 (0, 0)) (by exact bkS BK286.out) k_ hn_)), Or.elim hk_ (fun hs_ => Or.elim hs_ (fun hs_ => hs_.2.2.2) (fun hs_ => hs_.2.2.2)) (fun hn_ => (Kd.freshB (g := gb287) (o := .cells #[.bool false, .slice none 0 0, .int .i64 0] 89 (0, 0)) (by exact bkS BK287.out) k_ hn_))⟩)) (below_size (bG3 HB.out GE285.out GE286.out GE287.out))); replace BK285 := bkB BK285 hb; replace BK286 := bkB BK286 hb; replace BK287 := bkB BK287 hb; replace HB := Aside0.mk (below_step (bG3 HB.out GE285.out GE286.out GE287.out) hb); (try clear hb); (try clear hb2); (try clear hk); (try clear hi); (try clear ho0); have hcz20_0 : w19.cell? ⟨gb285, 0, none⟩ = some (.bool a0_0) := (blk_cell BK285.out 0).trans rfl; have hcz20_1 : w19.cell? ⟨gb285, 1, none⟩ = some (.slice A0_1 l0_1.length c0_1) := (blk_cell BK285.out 1).trans rfl; have hcz20_2 : w19.cell? ⟨gb285, 2, none⟩ = some (.int .i64 a0_2) := (blk_cell BK285.out 2).trans rfl; have hfz20_0 := blk_frozen BK285.out 0; have hfz20_1 := blk_frozen BK285.out 1; have hfz20_2 := blk_frozen BK285.out 2; obtain ⟨Ao21, co21, eo21⟩ := Kd.V_slice HO297.out; subst eo21; have hcz22_0 : w19.cell? ⟨gb287, 0, none⟩ = some (.bool false) := (blk_cell BK287.out 0).trans rfl; have hcz22_1 : w19.cell? ⟨gb287, 1, none⟩ = some (.slice none 0 0) := (blk_cell BK287.out 1).trans rfl; have hcz22_2 : w19.cell? ⟨gb287, 2, none⟩ = some (.int .i64 0) := (blk_cell BK287.out 2).trans rfl; have hfz22_0 := blk_frozen BK287.out 0; have hfz22_1 := blk_frozen BK287.out 1; have hfz22_2 := blk_frozen BK287.out 2))
  refine bodyPost_ret (results_cell_row rfl _ _ gb287 89 #[.bool a0_0, .slice Ao21 t295.length co21, .int .i64 t294] (0, 0) _ rfl (by refine blkP (cs := #[.bool a0_0, .slice Ao21 t295.length co21, .int .i64 0]) ?_ 2 _ rfl; refine blkP (cs := #[.bool a0_0, .slice none 0 0, .int .i64 0]) ?_ 1 _ rfl; refine blkP (cs := #[.bool false, .slice none 0 0, .int .i64 0]) ?_ 0 _ rfl; exact bkS BK287.out) Tryd.underlying89 rfl (by kernel_rfl)) rfl ?_
  exact ⟨_, by first | rfl | (simp [errW_none, errW_some] <;> rfl) | (simp [*, errW_none, errW_some] <;> rfl), vS <| Kd.V_mono (Kd.V_far (p := ⟨gb287, 2, none⟩) (Kd.V_far (p := ⟨gb287, 1, none⟩) (Kd.V_far (p := ⟨gb287, 0, none⟩) (Kd.V_mono HO297.out (fun k_ hk => (⟨hk, hk.2.2.2⟩ : _ ∧ k_ ≠ gb287))) (fun _ hk => hk.2) (.bool a0_0)) (fun _ hk => hk.2) (.slice Ao21 t295.length co21)) (fun _ hk => hk.2) (.int .i64 t294)) (fun _ hk => hk.1.1), bG3 HB.out GE285.out GE286.out GE287.out⟩
 ·rw [if_neg c4] at H
  have c4b0 : (a0_0 == a1_0) = false := by simpa using c4
  (try (have c4b1 : decide (a0_0 = a1_0) = false := by simpa using c4))
  (try (have c4b2 : (a0_0 == a1_0) = false := by simpa using c4))
  (try (have c4b3 : ¬ (a0_0 = a1_0) := by simpa using c4))
  clear c4
  replace H := Option.bind_eq_some_iff.mp H
  obtain ⟨t299, A230, H⟩ := H
  replace H : (if t299 = 0 then (some (false, ([] : List Int), 0)) else (if t299 = 1 then ((nat_Sub.f k t288 t291).bind fun bt300 => (some (a0_0, bt300.1, t294))) else ((nat_Sub.f k t291 t288).bind fun bt304 => (some (a1_0, bt304.1, t294))))) = some (r1, r2, r3) := H
  have A23 := Aside0.mk A230
  clear A230
  by_cases c24 : t299 = 0
  ·rw [if_pos c24] at H
   have c24b0 : (t299 == 0) = true := beq_iff_eq.mpr c24
   have c24b1 : (t299 != 0) = false := bne_eq_false_iff_eq.mpr c24
   clear c24
   simp only [Option.some.injEq, Prod.mk.injEq] at H
   obtain ⟨rfl, rfl, rfl⟩ := H
   go_enter Tryd.func88, Tryd.ntmps88
   go_wp2_with (first | ((with_reducible refine gate_dst (N := 2) rfl ?_); refine box_event ?hg (N := 2) ?hd (cs := #[.bool a0_0, .slice A0_1 l0_1.length c0_1, .int .i64 a0_2]) (t := 89) ?hr ?_; (case hd => rfl); (case hg => rfl); (case hr => first | (go_simp; done) | (go_simp; rfl)); intro gb285 hg w25 hbox hb; replace HO0_1 := Aside0.mk (Kd.V_below (Kd.V_elderB (vS <| HO0_1.out) gb285 (Nat.le_of_eq hg.symm)) hb); replace HO1_1 := Aside0.mk (Kd.V_below (Kd.V_elderB (vS <| HO1_1.out) gb285 (Nat.le_of_eq hg.symm)) hb); have BK285 := Aside0.mk (hbox); have GW285 := Aside0.mk ((by rw [hg]; exact (below_size (bS HB.out)) : w.heap.size ≤ gb285)); have GE285 := Aside0.mk ((by rw [hg]; exact (below_size (bS HB.out)) : w.heap.size ≤ gb285)); replace HB := hB HB hb; clear hb hbox hg) | ((with_reducible refine gate_dst (N := 3) rfl ?_); refine box_event ?hg (N := 3) ?hd (cs := #[.bool a1_0, .slice A1_1 l1_1.length c1_1, .int .i64 a1_2]) (t := 89) ?hr ?_; (case hd => rfl); (case hg => rfl); (case hr => first | (go_simp; done) | (go_simp; rfl)); intro gb286 hg w26 hbox hb; replace HO0_1 := Aside0.mk (Kd.V_below (Kd.V_elderB (vS <| HO0_1.out) gb286 (Nat.le_of_eq hg.symm)) hb); replace HO1_1 := Aside0.mk (Kd.V_below (Kd.V_elderB (vS <| HO1_1.out) gb286 (Nat.le_of_eq hg.symm)) hb); have BK286 := Aside0.mk (hbox); have GW286 := Aside0.mk ((by rw [hg]; exact (below_size (bG1 HB.out GE285.out)) : w.heap.size ≤ gb286)); have GE286 := Aside0.mk ((by rw [hg]; exact (below_size (bG1 HB.out GE285.out)) : w.heap.size ≤ gb286)); replace HB := Aside0.mk (below_step (bG1 HB.out GE285.out) hb); have NB285_286 := Aside0.mk ((by rw [hg]; exact Nat.ne_of_lt (blk_lt (g := gb285) (o := .cells #[.bool a0_0, .slice A0_1 l0_1.length c0_1, .int .i64 a0_2] 89 (0, 0)) (by exact bkS BK285.out)) : gb285 ≠ gb286)); have NB286_285 := Aside0.mk ((by rw [hg]; exact Nat.ne_of_gt (blk_lt (g := gb285) (o := .cells #[.bool a0_0, .slice A0_1 l0_1.length c0_1, .int .i64 a0_2] 89 (0, 0)) (by exact bkS BK285.out)) : gb286 ≠ gb285)); replace BK285 := bkB BK285 hb; clear hb hbox hg) | ((with_reducible refine gate_dst (N := 4) rfl ?_); refine box_event ?hg (N := 4) ?hd (cs := #[.bool false, .slice none 0 0, .int .i64 0]) (t := 89) ?hr ?_; (case hd => rfl); (case hg => rfl); (case hr => first | (go_simp; done) | (go_simp; rfl)); intro gb287 hg w27 hbox hb; replace HO0_1 := Aside0.mk (Kd.V_below (Kd.V_elderB (vS <| HO0_1.out) gb287 (Nat.le_of_eq hg.symm)) hb); replace HO1_1 := Aside0.mk (Kd.V_below (Kd.V_elderB (vS <| HO1_1.out) gb287 (Nat.le_of_eq hg.symm)) hb); have BK287 := Aside0.mk (hbox); have GW287 := Aside0.mk ((by rw [hg]; exact (below_size (bG2 HB.out GE285.out GE286.out)) : w.heap.size ≤ gb287)); have GE287 := Aside0.mk ((by rw [hg]; exact (below_size (bG2 HB.out GE285.out GE286.out)) : w.heap.size ≤ gb287)); replace HB := Aside0.mk (below_step (bG2 HB.out GE285.out GE286.out) hb); have NB285_287 := Aside0.mk ((by rw [hg]; exact Nat.ne_of_lt (blk_lt (g := gb285) (o := .cells #[.bool a0_0, .slice A0_1 l0_1.length c0_1, .int .i64 a0_2] 89 (0, 0)) (by exact bkS BK285.out)) : gb285 ≠ gb287)); have NB287_285 := Aside0.mk ((by rw [hg]; exact Nat.ne_of_gt (blk_lt (g := gb285) (o := .cells #[.bool a0_0, .slice A0_1 l0_1.length c0_1, .int .i64 a0_2] 89 (0, 0)) (by exact bkS BK285.out)) : gb287 ≠ gb285)); replace BK285 := bkB BK285 hb; have NB286_287 := Aside0.mk ((by rw [hg]; exact Nat.ne_of_lt (blk_lt (g := gb286) (o := .cells #[.bool a1_0, .slice A1_1 l1_1.length c1_1, .int .i64 a1_2] 89 (0, 0)) (by exact bkS BK286.out)) : gb286 ≠ gb287)); have NB287_286 := Aside0.mk ((by rw [hg]; exact Nat.ne_of_gt (blk_lt (g := gb286) (o := .cells #[.bool a1_0, .slice A1_1 l1_1.length c1_1, .int .i64 a1_2] 89 (0, 0)) (by exact bkS BK286.out)) : gb287 ≠ gb286)); replace BK286 := bkB BK286 hb; clear hb hbox hg; have hnb28 := NB285_286.out; have hnc28 := NB286_285.out; have hnb29 := NB285_287.out; have hnc29 := NB287_285.out; have hcz30_0 : w27.cell? ⟨gb285, 0, none⟩ = some (.bool a0_0) := (blk_cell BK285.out 0).trans rfl; have hcz30_1 : w27.cell? ⟨gb285, 1, none⟩ = some (.slice A0_1 l0_1.length c0_1) := (blk_cell BK285.out 1).trans rfl; have hcz30_2 : w27.cell? ⟨gb285, 2, none⟩ = some (.int .i64 a0_2) := (blk_cell BK285.out 2).trans rfl; have hfz30_0 := blk_frozen BK285.out 0; have hfz30_1 := blk_frozen BK285.out 1; have hfz30_2 := blk_frozen BK285.out 2; have hnb31 := NB286_287.out; have hnc31 := NB287_286.out; have hcz32_0 : w27.cell? ⟨gb286, 0, none⟩ = some (.bool a1_0) := (blk_cell BK286.out 0).trans rfl; have hcz32_1 : w27.cell? ⟨gb286, 1, none⟩ = some (.slice A1_1 l1_1.length c1_1) := (blk_cell BK286.out 1).trans rfl; have hcz32_2 : w27.cell? ⟨gb286, 2, none⟩ = some (.int .i64 a1_2) := (blk_cell BK286.out 2).trans rfl; have hfz32_0 := blk_frozen BK286.out 0; have hfz32_1 := blk_frozen BK286.out 1; have hfz32_2 := blk_frozen BK286.out 2) | ((with_reducible refine gate_callee (f := 119) rfl ?_); refine goesL_ (some 23) rfl rfl Tryd.func119 (by kernel_rfl) rfl #[.slice A0_1 l0_1.length c0_1, .int .i64 a0_2, .slice A1_1 l1_1.length c1_1, .int .i64 a1_2] rfl (by (try simp only [List.map_toArray, List.map_cons, List.map_nil]); first | done | rfl) ?_; (with_reducible refine (soft_aligned.calls k (fun k_ => (((((P0_1_ k_ ∨ P1_1_ k_) ∨ w.heap.size ≤ k_) ∧ k_ ≠ gb285) ∧ k_ ≠ gb286) ∧ k_ ≠ gb287)) _ _ l0_1 a0_2 (fun k_ => (((((P0_1_ k_ ∨ P1_1_ k_) ∨ w.heap.size ≤ k_) ∧ k_ ≠ gb285) ∧ k_ ≠ gb286) ∧ k_ ≠ gb287)) _ _ l1_1 a1_2 t288 t291 t294 _ ?side1 ?side2 A3.out).mono ?_); (case side1 => exact HO0_1.out); (case side2 => exact HO1_1.out); rintro e w33 ⟨v289, v292, rfl, ho0, ho1, hb⟩; refine ⟨_, rfl, ?_⟩; replace HO0_1 := vB HO0_1 hb; replace HO1_1 := vB HO1_1 hb; have HO290 := Aside0.mk (Kd.V_lower (Kd.V_mono (ok' := fun k_ => ((P0_1_ k_ ∨ P1_1_ k_) ∨ w.heap.size ≤ k_) ∧ k_ ≠ gb285 ∧ k_ ≠ gb286 ∧ k_ ≠ gb287) ho0 (fun k_ hk_ => ⟨Or.elim hk_ (fun hs_ => Or.elim hs_ (fun hs_ => hs_.1.1.1) (fun hs_ => hs_.1.1.1)) (fun hn_ => (.inr (Nat.le_trans (below_size (bG3 HB.out GE285.out GE286.out GE287.out)) hn_))), Or.elim hk_ (fun hs_ => Or.elim hs_ (fun hs_ => hs_.1.1.2) (fun hs_ => hs_.1.1.2)) (fun hn_ => (Kd.freshB (g := gb285) (o := .cells #[.bool a0_0, .slice A0_1 l0_1.length c0_1, .int .i64 a0_2] 89 (0, 0)) (by exact bkS BK285.out) k_ hn_)), Or.elim hk_ (fun hs_ => Or.elim hs_ (fun hs_ => hs_.1.2) (fun hs_ => hs_.1.2)) (fun hn_ => (Kd.freshB (g := gb286) (o := .cells #[.bool a1_0, .slice A1_1 l1_1.length c1_1, .int .i64 a1_2] 89 (0, 0)) (by exact bkS BK286.out) k_ hn_)), Or.elim hk_ (fun hs_ => Or.elim hs_ (fun hs_ => hs_.2) (fun hs_ => hs_.2)) (fun hn_ => (Kd.freshB (g := gb287) (o := .cells #[.bool false, .slice none 0 0, .int .i64 0] 89 (0, 0)) (by exact bkS BK287.out) k_ hn_))⟩)) (below_size (bG3 HB.out GE285.out GE286.out GE287.out))); have HO293 := Aside0.mk (Kd.V_lower (Kd.V_mono (ok' := fun k_ => ((P0_1_ k_ ∨ P1_1_ k_) ∨ w.heap.size ≤ k_) ∧ k_ ≠ gb285 ∧ k_ ≠ gb286 ∧ k_ ≠ gb287) ho1 (fun k_ hk_ => ⟨Or.elim hk_ (fun hs_ => Or.elim hs_ (fun hs_ => hs_.1.1.1) (fun hs_ => hs_.1.1.1)) (fun hn_ => (.inr (Nat.le_trans (below_size (bG3 HB.out GE285.out GE286.out GE287.out)) hn_))), Or.elim hk_ (fun hs_ => Or.elim hs_ (fun hs_ => hs_.1.1.2) (fun hs_ => hs_.1.1.2)) (fun hn_ => (Kd.freshB (g := gb285) (o := .cells #[.bool a0_0, .slice A0_1 l0_1.length c0_1, .int .i64 a0_2] 89 (0, 0)) (by exact bkS BK285.out) k_ hn_)), Or.elim hk_ (fun hs_ => Or.elim hs_ (fun hs_ => hs_.1.2) (fun hs_ => hs_.1.2)) (fun hn_ => (Kd.freshB (g := gb286) (o := .cells #[.bool a1_0, .slice A1_1 l1_1.length c1_1, .int .i64 a1_2] 89 (0, 0)) (by exact bkS BK286.out) k_ hn_)), Or.elim hk_ (fun hs_ => Or.elim hs_ (fun hs_ => hs_.2) (fun hs_ => hs_.2)) (fun hn_ => (Kd.freshB (g := gb287) (o := .cells #[.bool false, .slice none 0 0, .int .i64 0] 89 (0, 0)) (by exact bkS BK287.out) k_ hn_))⟩)) (below_size (bG3 HB.out GE285.out GE286.out GE287.out))); replace BK285 := bkB BK285 hb; replace BK286 := bkB BK286 hb; replace BK287 := bkB BK287 hb; replace HB := Aside0.mk (below_step (bG3 HB.out GE285.out GE286.out GE287.out) hb); (try clear hb); (try clear hb2); (try clear hk); (try clear hi); (try clear ho0); (try clear ho1); have hcz34_0 : w33.cell? ⟨gb285, 0, none⟩ = some (.bool a0_0) := (blk_cell BK285.out 0).trans rfl; have hcz34_1 : w33.cell? ⟨gb285, 1, none⟩ = some (.slice A0_1 l0_1.length c0_1) := (blk_cell BK285.out 1).trans rfl; have hcz34_2 : w33.cell? ⟨gb285, 2, none⟩ = some (.int .i64 a0_2) := (blk_cell BK285.out 2).trans rfl; have hfz34_0 := blk_frozen BK285.out 0; have hfz34_1 := blk_frozen BK285.out 1; have hfz34_2 := blk_frozen BK285.out 2; have hcz35_0 : w33.cell? ⟨gb286, 0, none⟩ = some (.bool a1_0) := (blk_cell BK286.out 0).trans rfl; have hcz35_1 : w33.cell? ⟨gb286, 1, none⟩ = some (.slice A1_1 l1_1.length c1_1) := (blk_cell BK286.out 1).trans rfl; have hcz35_2 : w33.cell? ⟨gb286, 2, none⟩ = some (.int .i64 a1_2) := (blk_cell BK286.out 2).trans rfl; have hfz35_0 := blk_frozen BK286.out 0; have hfz35_1 := blk_frozen BK286.out 1; have hfz35_2 := blk_frozen BK286.out 2; obtain ⟨Ao36, co36, eo36⟩ := Kd.V_slice HO290.out; subst eo36; obtain ⟨Ao37, co37, eo37⟩ := Kd.V_slice HO293.out; subst eo37) | ((with_reducible refine gate_callee (f := 18) rfl ?_); refine goesL_ (some 45) rfl rfl Tryd.func18 (by kernel_rfl) rfl #[.slice Ao36 t288.length co36, .slice Ao37 t291.length co37] rfl (by (try simp only [List.map_toArray, List.map_cons, List.map_nil]); first | done | rfl) ?_; (with_reducible refine (nat_Cmp.calls k _ _ t288 _ _ t291 t299 _ ?side1 ?side2 ?side3 ?side4 A23.out).mono ?_); (case side1 => exact cS (Kd.V_reads' HO290.out).2.2); (case side2 => exact (Kd.V_reads' HO290.out).2.1); (case side3 => exact cS (Kd.V_reads' HO293.out).2.2); (case side4 => exact (Kd.V_reads' HO293.out).2.1); rintro e w' ⟨rfl, ⟨nd, rfl⟩⟩; refine ⟨_, rfl, ?_⟩; (try (rw [drewN_self w33]; generalize hq_ : World.drewN w33 _ = w33; have n0_ : Aside0 (Kd.V (Kd.int .u64) 22 w33 w.heap.size (fun k_ => ((P0_1_ k_ ∨ P1_1_ k_) ∨ w.heap.size ≤ k_) ∧ k_ ≠ gb285 ∧ k_ ≠ gb286 ∧ k_ ≠ gb287) (.slice A0_1 l0_1.length c0_1) l0_1) := ⟨by rw [← hq_]; exact (vS <| Kd.V_mono HO0_1.out (fun _ hk => ⟨hk.1.1.1, ⟨hk.1.1.2, ⟨hk.1.2, hk.2⟩⟩⟩))⟩; have n1_ : Aside0 (Kd.V (Kd.int .u64) 22 w33 w.heap.size (fun k_ => ((P0_1_ k_ ∨ P1_1_ k_) ∨ w.heap.size ≤ k_) ∧ k_ ≠ gb285 ∧ k_ ≠ gb286 ∧ k_ ≠ gb287) (.slice A1_1 l1_1.length c1_1) l1_1) := ⟨by rw [← hq_]; exact (vS <| Kd.V_mono HO1_1.out (fun _ hk => ⟨hk.1.1.1, ⟨hk.1.1.2, ⟨hk.1.2, hk.2⟩⟩⟩))⟩; have n2_ : Aside0 (Kd.V (Kd.int .u64) 22 w33 w.heap.size (fun k_ => ((P0_1_ k_ ∨ P1_1_ k_) ∨ w.heap.size ≤ k_) ∧ k_ ≠ gb285 ∧ k_ ≠ gb286 ∧ k_ ≠ gb287) (.slice Ao36 t288.length co36) t288) := ⟨by rw [← hq_]; exact (vS <| HO290.out)⟩; have n3_ : Aside0 (Kd.V (Kd.int .u64) 22 w33 w.heap.size (fun k_ => ((P0_1_ k_ ∨ P1_1_ k_) ∨ w.heap.size ≤ k_) ∧ k_ ≠ gb285 ∧ k_ ≠ gb286 ∧ k_ ≠ gb287) (.slice Ao37 t291.length co37) t291) := ⟨by rw [← hq_]; exact (vS <| HO293.out)⟩; have n4_ : Aside0 (w33.heap[gb285]? = some (.cells #[.bool a0_0, .slice A0_1 l0_1.length c0_1, .int .i64 a0_2] 89 (0, 0))) := ⟨by rw [← hq_]; exact (by exact bkS BK285.out)⟩; have n5_ : Aside0 (w33.heap[gb286]? = some (.cells #[.bool a1_0, .slice A1_1 l1_1.length c1_1, .int .i64 a1_2] 89 (0, 0))) := ⟨by rw [← hq_]; exact (by exact bkS BK286.out)⟩; have n6_ : Aside0 (w33.heap[gb287]? = some (.cells #[.bool false, .slice none 0 0, .int .i64 0] 89 (0, 0))) := ⟨by rw [← hq_]; exact (by exact bkS BK287.out)⟩; have n7_ : Aside0 (Below w.heap.size w w33) := ⟨by rw [← hq_]; exact (bG3 HB.out GE285.out GE286.out GE287.out)⟩; clear HO0_1 HO1_1 HO290 HO293 BK285 BK286 BK287 HB hq_; have HO0_1 := n0_; have HO1_1 := n1_; have HO290 := n2_; have HO293 := n3_; have BK285 := n4_; have BK286 := n5_; have BK287 := n6_; have HB := n7_; clear n0_ n1_ n2_ n3_ n4_ n5_ n6_ n7_)); have hcz38_0 : w33.cell? ⟨gb287, 0, none⟩ = some (.bool false) := (blk_cell BK287.out 0).trans rfl; have hcz38_1 : w33.cell? ⟨gb287, 1, none⟩ = some (.slice none 0 0) := (blk_cell BK287.out 1).trans rfl; have hcz38_2 : w33.cell? ⟨gb287, 2, none⟩ = some (.int .i64 0) := (blk_cell BK287.out 2).trans rfl; have hfz38_0 := blk_frozen BK287.out 0; have hfz38_1 := blk_frozen BK287.out 1; have hfz38_2 := blk_frozen BK287.out 2))
   refine bodyPost_ret (results_cell_row rfl _ _ gb287 89 #[.bool false, .slice none 0 0, .int .i64 0] (0, 0) _ rfl (by refine blkP (cs := #[.bool false, .slice none 0 0, .int .i64 0]) ?_ 2 _ rfl; refine blkP (cs := #[.bool false, .slice none 0 0, .int .i64 0]) ?_ 1 _ rfl; refine blkP (cs := #[.bool false, .slice none 0 0, .int .i64 0]) ?_ 0 _ rfl; exact bkS BK287.out) Tryd.underlying89 rfl (by kernel_rfl)) rfl ?_
   exact ⟨.slice none 0 0, by first | rfl | (simp [errW_none, errW_some] <;> rfl) | (simp [*, errW_none, errW_some] <;> rfl), Kd.V_nil _ _ _ _ _, bG3 HB.out GE285.out GE286.out GE287.out⟩
  ·rw [if_neg c24] at H
   have c24b0 : (t299 == 0) = false := beq_eq_false_iff_ne.mpr c24
   have c24b1 : (t299 != 0) = true := bne_iff_ne.mpr c24
   by_cases c39 : t299 = 1
   ·rw [if_pos c39] at H
    have c39b0 : (t299 == 1) = true := beq_iff_eq.mpr c39
    have c39b1 : (t299 != 1) = false := bne_eq_false_iff_eq.mpr c39
    clear c39
    replace H := Option.bind_eq_some_iff.mp H
    obtain ⟨⟨t300, t303⟩, A400, H⟩ := H
    replace H : (some (a0_0, t300, t294)) = some (r1, r2, r3) := H
    have A40 := Aside0.mk A400
    clear A400
    simp only [Option.some.injEq, Prod.mk.injEq] at H
    obtain ⟨rfl, rfl, rfl⟩ := H
    go_enter Tryd.func88, Tryd.ntmps88
    go_wp2_with (first | ((with_reducible refine gate_dst (N := 2) rfl ?_); refine box_event ?hg (N := 2) ?hd (cs := #[.bool a0_0, .slice A0_1 l0_1.length c0_1, .int .i64 a0_2]) (t := 89) ?hr ?_; (case hd => rfl); (case hg => rfl); (case hr => first | (go_simp; done) | (go_simp; rfl)); intro gb285 hg w41 hbox hb; replace HO0_1 := Aside0.mk (Kd.V_below (Kd.V_elderB (vS <| HO0_1.out) gb285 (Nat.le_of_eq hg.symm)) hb); replace HO1_1 := Aside0.mk (Kd.V_below (Kd.V_elderB (vS <| HO1_1.out) gb285 (Nat.le_of_eq hg.symm)) hb); have BK285 := Aside0.mk (hbox); have GW285 := Aside0.mk ((by rw [hg]; exact (below_size (bS HB.out)) : w.heap.size ≤ gb285)); have GE285 := Aside0.mk ((by rw [hg]; exact (below_size (bS HB.out)) : w.heap.size ≤ gb285)); replace HB := hB HB hb; clear hb hbox hg) | ((with_reducible refine gate_dst (N := 3) rfl ?_); refine box_event ?hg (N := 3) ?hd (cs := #[.bool a1_0, .slice A1_1 l1_1.length c1_1, .int .i64 a1_2]) (t := 89) ?hr ?_; (case hd => rfl); (case hg => rfl); (case hr => first | (go_simp; done) | (go_simp; rfl)); intro gb286 hg w42 hbox hb; replace HO0_1 := Aside0.mk (Kd.V_below (Kd.V_elderB (vS <| HO0_1.out) gb286 (Nat.le_of_eq hg.symm)) hb); replace HO1_1 := Aside0.mk (Kd.V_below (Kd.V_elderB (vS <| HO1_1.out) gb286 (Nat.le_of_eq hg.symm)) hb); have BK286 := Aside0.mk (hbox); have GW286 := Aside0.mk ((by rw [hg]; exact (below_size (bG1 HB.out GE285.out)) : w.heap.size ≤ gb286)); have GE286 := Aside0.mk ((by rw [hg]; exact (below_size (bG1 HB.out GE285.out)) : w.heap.size ≤ gb286)); replace HB := Aside0.mk (below_step (bG1 HB.out GE285.out) hb); have NB285_286 := Aside0.mk ((by rw [hg]; exact Nat.ne_of_lt (blk_lt (g := gb285) (o := .cells #[.bool a0_0, .slice A0_1 l0_1.length c0_1, .int .i64 a0_2] 89 (0, 0)) (by exact bkS BK285.out)) : gb285 ≠ gb286)); have NB286_285 := Aside0.mk ((by rw [hg]; exact Nat.ne_of_gt (blk_lt (g := gb285) (o := .cells #[.bool a0_0, .slice A0_1 l0_1.length c0_1, .int .i64 a0_2] 89 (0, 0)) (by exact bkS BK285.out)) : gb286 ≠ gb285)); replace BK285 := bkB BK285 hb; clear hb hbox hg) | ((with_reducible refine gate_dst (N := 4) rfl ?_); refine box_event ?hg (N := 4) ?hd (cs := #[.bool false, .slice none 0 0, .int .i64 0]) (t := 89) ?hr ?_; (case hd => rfl); (case hg => rfl); (case hr => first | (go_simp; done) | (go_simp; rfl)); intro gb287 hg w43 hbox hb; replace HO0_1 := Aside0.mk (Kd.V_below (Kd.V_elderB (vS <| HO0_1.out) gb287 (Nat.le_of_eq hg.symm)) hb); replace HO1_1 := Aside0.mk (Kd.V_below (Kd.V_elderB (vS <| HO1_1.out) gb287 (Nat.le_of_eq hg.symm)) hb); have BK287 := Aside0.mk (hbox); have GW287 := Aside0.mk ((by rw [hg]; exact (below_size (bG2 HB.out GE285.out GE286.out)) : w.heap.size ≤ gb287)); have GE287 := Aside0.mk ((by rw [hg]; exact (below_size (bG2 HB.out GE285.out GE286.out)) : w.heap.size ≤ gb287)); replace HB := Aside0.mk (below_step (bG2 HB.out GE285.out GE286.out) hb); have NB285_287 := Aside0.mk ((by rw [hg]; exact Nat.ne_of_lt (blk_lt (g := gb285) (o := .cells #[.bool a0_0, .slice A0_1 l0_1.length c0_1, .int .i64 a0_2] 89 (0, 0)) (by exact bkS BK285.out)) : gb285 ≠ gb287)); have NB287_285 := Aside0.mk ((by rw [hg]; exact Nat.ne_of_gt (blk_lt (g := gb285) (o := .cells #[.bool a0_0, .slice A0_1 l0_1.length c0_1, .int .i64 a0_2] 89 (0, 0)) (by exact bkS BK285.out)) : gb287 ≠ gb285)); replace BK285 := bkB BK285 hb; have NB286_287 := Aside0.mk ((by rw [hg]; exact Nat.ne_of_lt (blk_lt (g := gb286) (o := .cells #[.bool a1_0, .slice A1_1 l1_1.length c1_1, .int .i64 a1_2] 89 (0, 0)) (by exact bkS BK286.out)) : gb286 ≠ gb287)); have NB287_286 := Aside0.mk ((by rw [hg]; exact Nat.ne_of_gt (blk_lt (g := gb286) (o := .cells #[.bool a1_0, .slice A1_1 l1_1.length c1_1, .int .i64 a1_2] 89 (0, 0)) (by exact bkS BK286.out)) : gb287 ≠ gb286)); replace BK286 := bkB BK286 hb; clear hb hbox hg; have hnb44 := NB285_286.out; have hnc44 := NB286_285.out; have hnb45 := NB285_287.out; have hnc45 := NB287_285.out; have hcz46_0 : w43.cell? ⟨gb285, 0, none⟩ = some (.bool a0_0) := (blk_cell BK285.out 0).trans rfl; have hcz46_1 : w43.cell? ⟨gb285, 1, none⟩ = some (.slice A0_1 l0_1.length c0_1) := (blk_cell BK285.out 1).trans rfl; have hcz46_2 : w43.cell? ⟨gb285, 2, none⟩ = some (.int .i64 a0_2) := (blk_cell BK285.out 2).trans rfl; have hfz46_0 := blk_frozen BK285.out 0; have hfz46_1 := blk_frozen BK285.out 1; have hfz46_2 := blk_frozen BK285.out 2; have hnb47 := NB286_287.out; have hnc47 := NB287_286.out; have hcz48_0 : w43.cell? ⟨gb286, 0, none⟩ = some (.bool a1_0) := (blk_cell BK286.out 0).trans rfl; have hcz48_1 : w43.cell? ⟨gb286, 1, none⟩ = some (.slice A1_1 l1_1.length c1_1) := (blk_cell BK286.out 1).trans rfl; have hcz48_2 : w43.cell? ⟨gb286, 2, none⟩ = some (.int .i64 a1_2) := (blk_cell BK286.out 2).trans rfl; have hfz48_0 := blk_frozen BK286.out 0; have hfz48_1 := blk_frozen BK286.out 1; have hfz48_2 := blk_frozen BK286.out 2) | ((with_reducible refine gate_callee (f := 119) rfl ?_); refine goesL_ (some 23) rfl rfl Tryd.func119 (by kernel_rfl) rfl #[.slice A0_1 l0_1.length c0_1, .int .i64 a0_2, .slice A1_1 l1_1.length c1_1, .int .i64 a1_2] rfl (by (try simp only [List.map_toArray, List.map_cons, List.map_nil]); first | done | rfl) ?_; (with_reducible refine (soft_aligned.calls k (fun k_ => (((((P0_1_ k_ ∨ P1_1_ k_) ∨ w.heap.size ≤ k_) ∧ k_ ≠ gb285) ∧ k_ ≠ gb286) ∧ k_ ≠ gb287)) _ _ l0_1 a0_2 (fun k_ => (((((P0_1_ k_ ∨ P1_1_ k_) ∨ w.heap.size ≤ k_) ∧ k_ ≠ gb285) ∧ k_ ≠ gb286) ∧ k_ ≠ gb287)) _ _ l1_1 a1_2 t288 t291 t294 _ ?side1 ?side2 A3.out).mono ?_); (case side1 => exact HO0_1.out); (case side2 => exact HO1_1.out); rintro e w49 ⟨v289, v292, rfl, ho0, ho1, hb⟩; refine ⟨_, rfl, ?_⟩; replace HO0_1 := vB HO0_1 hb; replace HO1_1 := vB HO1_1 hb; have HO290 := Aside0.mk (Kd.V_lower (Kd.V_mono (ok' := fun k_ => ((P0_1_ k_ ∨ P1_1_ k_) ∨ w.heap.size ≤ k_) ∧ k_ ≠ gb285 ∧ k_ ≠ gb286 ∧ k_ ≠ gb287) ho0 (fun k_ hk_ => ⟨Or.elim hk_ (fun hs_ => Or.elim hs_ (fun hs_ => hs_.1.1.1) (fun hs_ => hs_.1.1.1)) (fun hn_ => (.inr (Nat.le_trans (below_size (bG3 HB.out GE285.out GE286.out GE287.out)) hn_))), Or.elim hk_ (fun hs_ => Or.elim hs_ (fun hs_ => hs_.1.1.2) (fun hs_ => hs_.1.1.2)) (fun hn_ => (Kd.freshB (g := gb285) (o := .cells #[.bool a0_0, .slice A0_1 l0_1.length c0_1, .int .i64 a0_2] 89 (0, 0)) (by exact bkS BK285.out) k_ hn_)), Or.elim hk_ (fun hs_ => Or.elim hs_ (fun hs_ => hs_.1.2) (fun hs_ => hs_.1.2)) (fun hn_ => (Kd.freshB (g := gb286) (o := .cells #[.bool a1_0, .slice A1_1 l1_1.length c1_1, .int .i64 a1_2] 89 (0, 0)) (by exact bkS BK286.out) k_ hn_)), Or.elim hk_ (fun hs_ => Or.elim hs_ (fun hs_ => hs_.2) (fun hs_ => hs_.2)) (fun hn_ => (Kd.freshB (g := gb287) (o := .cells #[.bool false, .slice none 0 0, .int .i64 0] 89 (0, 0)) (by exact bkS BK287.out) k_ hn_))⟩)) (below_size (bG3 HB.out GE285.out GE286.out GE287.out))); have HO293 := Aside0.mk (Kd.V_lower (Kd.V_mono (ok' := fun k_ => ((P0_1_ k_ ∨ P1_1_ k_) ∨ w.heap.size ≤ k_) ∧ k_ ≠ gb285 ∧ k_ ≠ gb286 ∧ k_ ≠ gb287) ho1 (fun k_ hk_ => ⟨Or.elim hk_ (fun hs_ => Or.elim hs_ (fun hs_ => hs_.1.1.1) (fun hs_ => hs_.1.1.1)) (fun hn_ => (.inr (Nat.le_trans (below_size (bG3 HB.out GE285.out GE286.out GE287.out)) hn_))), Or.elim hk_ (fun hs_ => Or.elim hs_ (fun hs_ => hs_.1.1.2) (fun hs_ => hs_.1.1.2)) (fun hn_ => (Kd.freshB (g := gb285) (o := .cells #[.bool a0_0, .slice A0_1 l0_1.length c0_1, .int .i64 a0_2] 89 (0, 0)) (by exact bkS BK285.out) k_ hn_)), Or.elim hk_ (fun hs_ => Or.elim hs_ (fun hs_ => hs_.1.2) (fun hs_ => hs_.1.2)) (fun hn_ => (Kd.freshB (g := gb286) (o := .cells #[.bool a1_0, .slice A1_1 l1_1.length c1_1, .int .i64 a1_2] 89 (0, 0)) (by exact bkS BK286.out) k_ hn_)), Or.elim hk_ (fun hs_ => Or.elim hs_ (fun hs_ => hs_.2) (fun hs_ => hs_.2)) (fun hn_ => (Kd.freshB (g := gb287) (o := .cells #[.bool false, .slice none 0 0, .int .i64 0] 89 (0, 0)) (by exact bkS BK287.out) k_ hn_))⟩)) (below_size (bG3 HB.out GE285.out GE286.out GE287.out))); replace BK285 := bkB BK285 hb; replace BK286 := bkB BK286 hb; replace BK287 := bkB BK287 hb; replace HB := Aside0.mk (below_step (bG3 HB.out GE285.out GE286.out GE287.out) hb); (try clear hb); (try clear hb2); (try clear hk); (try clear hi); (try clear ho0); (try clear ho1); have hcz50_0 : w49.cell? ⟨gb285, 0, none⟩ = some (.bool a0_0) := (blk_cell BK285.out 0).trans rfl; have hcz50_1 : w49.cell? ⟨gb285, 1, none⟩ = some (.slice A0_1 l0_1.length c0_1) := (blk_cell BK285.out 1).trans rfl; have hcz50_2 : w49.cell? ⟨gb285, 2, none⟩ = some (.int .i64 a0_2) := (blk_cell BK285.out 2).trans rfl; have hfz50_0 := blk_frozen BK285.out 0; have hfz50_1 := blk_frozen BK285.out 1; have hfz50_2 := blk_frozen BK285.out 2; have hcz51_0 : w49.cell? ⟨gb286, 0, none⟩ = some (.bool a1_0) := (blk_cell BK286.out 0).trans rfl; have hcz51_1 : w49.cell? ⟨gb286, 1, none⟩ = some (.slice A1_1 l1_1.length c1_1) := (blk_cell BK286.out 1).trans rfl; have hcz51_2 : w49.cell? ⟨gb286, 2, none⟩ = some (.int .i64 a1_2) := (blk_cell BK286.out 2).trans rfl; have hfz51_0 := blk_frozen BK286.out 0; have hfz51_1 := blk_frozen BK286.out 1; have hfz51_2 := blk_frozen BK286.out 2; obtain ⟨Ao52, co52, eo52⟩ := Kd.V_slice HO290.out; subst eo52; obtain ⟨Ao53, co53, eo53⟩ := Kd.V_slice HO293.out; subst eo53) | ((with_reducible refine gate_callee (f := 18) rfl ?_); refine goesL_ (some 45) rfl rfl Tryd.func18 (by kernel_rfl) rfl #[.slice Ao52 t288.length co52, .slice Ao53 t291.length co53] rfl (by (try simp only [List.map_toArray, List.map_cons, List.map_nil]); first | done | rfl) ?_; (with_reducible refine (nat_Cmp.calls k _ _ t288 _ _ t291 t299 _ ?side1 ?side2 ?side3 ?side4 A23.out).mono ?_); (case side1 => exact cS (Kd.V_reads' HO290.out).2.2); (case side2 => exact (Kd.V_reads' HO290.out).2.1); (case side3 => exact cS (Kd.V_reads' HO293.out).2.2); (case side4 => exact (Kd.V_reads' HO293.out).2.1); rintro e w' ⟨rfl, ⟨nd, rfl⟩⟩; refine ⟨_, rfl, ?_⟩; (try (rw [drewN_self w49]; generalize hq_ : World.drewN w49 _ = w49; have n0_ : Aside0 (Kd.V (Kd.int .u64) 22 w49 w.heap.size (fun k_ => ((P0_1_ k_ ∨ P1_1_ k_) ∨ w.heap.size ≤ k_) ∧ k_ ≠ gb285 ∧ k_ ≠ gb286 ∧ k_ ≠ gb287) (.slice A0_1 l0_1.length c0_1) l0_1) := ⟨by rw [← hq_]; exact (vS <| Kd.V_mono HO0_1.out (fun _ hk => ⟨hk.1.1.1, ⟨hk.1.1.2, ⟨hk.1.2, hk.2⟩⟩⟩))⟩; have n1_ : Aside0 (Kd.V (Kd.int .u64) 22 w49 w.heap.size (fun k_ => ((P0_1_ k_ ∨ P1_1_ k_) ∨ w.heap.size ≤ k_) ∧ k_ ≠ gb285 ∧ k_ ≠ gb286 ∧ k_ ≠ gb287) (.slice A1_1 l1_1.length c1_1) l1_1) := ⟨by rw [← hq_]; exact (vS <| Kd.V_mono HO1_1.out (fun _ hk => ⟨hk.1.1.1, ⟨hk.1.1.2, ⟨hk.1.2, hk.2⟩⟩⟩))⟩; have n2_ : Aside0 (Kd.V (Kd.int .u64) 22 w49 w.heap.size (fun k_ => ((P0_1_ k_ ∨ P1_1_ k_) ∨ w.heap.size ≤ k_) ∧ k_ ≠ gb285 ∧ k_ ≠ gb286 ∧ k_ ≠ gb287) (.slice Ao52 t288.length co52) t288) := ⟨by rw [← hq_]; exact (vS <| HO290.out)⟩; have n3_ : Aside0 (Kd.V (Kd.int .u64) 22 w49 w.heap.size (fun k_ => ((P0_1_ k_ ∨ P1_1_ k_) ∨ w.heap.size ≤ k_) ∧ k_ ≠ gb285 ∧ k_ ≠ gb286 ∧ k_ ≠ gb287) (.slice Ao53 t291.length co53) t291) := ⟨by rw [← hq_]; exact (vS <| HO293.out)⟩; have n4_ : Aside0 (w49.heap[gb285]? = some (.cells #[.bool a0_0, .slice A0_1 l0_1.length c0_1, .int .i64 a0_2] 89 (0, 0))) := ⟨by rw [← hq_]; exact (by exact bkS BK285.out)⟩; have n5_ : Aside0 (w49.heap[gb286]? = some (.cells #[.bool a1_0, .slice A1_1 l1_1.length c1_1, .int .i64 a1_2] 89 (0, 0))) := ⟨by rw [← hq_]; exact (by exact bkS BK286.out)⟩; have n6_ : Aside0 (w49.heap[gb287]? = some (.cells #[.bool false, .slice none 0 0, .int .i64 0] 89 (0, 0))) := ⟨by rw [← hq_]; exact (by exact bkS BK287.out)⟩; have n7_ : Aside0 (Below w.heap.size w w49) := ⟨by rw [← hq_]; exact (bG3 HB.out GE285.out GE286.out GE287.out)⟩; clear HO0_1 HO1_1 HO290 HO293 BK285 BK286 BK287 HB hq_; have HO0_1 := n0_; have HO1_1 := n1_; have HO290 := n2_; have HO293 := n3_; have BK285 := n4_; have BK286 := n5_; have BK287 := n6_; have HB := n7_; clear n0_ n1_ n2_ n3_ n4_ n5_ n6_ n7_))) | ((with_reducible refine gate_callee (f := 56) rfl ?_); refine goesL_ (some 54) rfl rfl Tryd.func56 (by kernel_rfl) rfl #[.slice Ao52 t288.length co52, .slice Ao53 t291.length co53] rfl (by (try simp only [List.map_toArray, List.map_cons, List.map_nil]); first | done | rfl) ?_; (with_reducible refine (nat_Sub.calls k _ _ t288 _ _ t291 t300 t303 _ ?side1 ?side2 ?side3 ?side4 A40.out).mono ?_); (case side1 => exact cS (Kd.V_reads' HO290.out).2.2); (case side2 => exact (Kd.V_reads' HO290.out).2.1); (case side3 => exact cS (Kd.V_reads' HO293.out).2.2); (case side4 => exact (Kd.V_reads' HO293.out).2.1); rintro e w54 ⟨v301, rfl, ho0, hb⟩; refine ⟨_, rfl, ?_⟩; replace HO0_1 := vB HO0_1 hb; replace HO1_1 := vB HO1_1 hb; replace HO290 := vB HO290 hb; replace HO293 := vB HO293 hb; have HO302 := Aside0.mk (Kd.V_lower (Kd.V_mono (ok' := fun k_ => ((P0_1_ k_ ∨ P1_1_ k_) ∨ w.heap.size ≤ k_) ∧ k_ ≠ gb285 ∧ k_ ≠ gb286 ∧ k_ ≠ gb287) ho0 (fun k_ hk_ => ⟨(.inr (Nat.le_trans (below_size (bG3 HB.out GE285.out GE286.out GE287.out)) hk_)), (Kd.freshB (g := gb285) (o := .cells #[.bool a0_0, .slice A0_1 l0_1.length c0_1, .int .i64 a0_2] 89 (0, 0)) (by exact bkS BK285.out) k_ hk_), (Kd.freshB (g := gb286) (o := .cells #[.bool a1_0, .slice A1_1 l1_1.length c1_1, .int .i64 a1_2] 89 (0, 0)) (by exact bkS BK286.out) k_ hk_), (Kd.freshB (g := gb287) (o := .cells #[.bool false, .slice none 0 0, .int .i64 0] 89 (0, 0)) (by exact bkS BK287.out) k_ hk_)⟩)) (below_size (bG3 HB.out GE285.out GE286.out GE287.out))); replace BK285 := bkB BK285 hb; replace BK286 := bkB BK286 hb; replace BK287 := bkB BK287 hb; replace HB := Aside0.mk (below_step (bG3 HB.out GE285.out GE286.out GE287.out) hb); (try clear hb); (try clear hb2); (try clear hk); (try clear hi); (try clear ho0); have hcz55_0 : w54.cell? ⟨gb285, 0, none⟩ = some (.bool a0_0) := (blk_cell BK285.out 0).trans rfl; have hcz55_1 : w54.cell? ⟨gb285, 1, none⟩ = some (.slice A0_1 l0_1.length c0_1) := (blk_cell BK285.out 1).trans rfl; have hcz55_2 : w54.cell? ⟨gb285, 2, none⟩ = some (.int .i64 a0_2) := (blk_cell BK285.out 2).trans rfl; have hfz55_0 := blk_frozen BK285.out 0; have hfz55_1 := blk_frozen BK285.out 1; have hfz55_2 := blk_frozen BK285.out 2; obtain ⟨Ao56, co56, eo56⟩ := Kd.V_slice HO302.out; subst eo56; have hcz57_0 : w54.cell? ⟨gb287, 0, none⟩ = some (.bool false) := (blk_cell BK287.out 0).trans rfl; have hcz57_1 : w54.cell? ⟨gb287, 1, none⟩ = some (.slice none 0 0) := (blk_cell BK287.out 1).trans rfl; have hcz57_2 : w54.cell? ⟨gb287, 2, none⟩ = some (.int .i64 0) := (blk_cell BK287.out 2).trans rfl; have hfz57_0 := blk_frozen BK287.out 0; have hfz57_1 := blk_frozen BK287.out 1; have hfz57_2 := blk_frozen BK287.out 2))
    refine bodyPost_ret (results_cell_row rfl _ _ gb287 89 #[.bool a0_0, .slice Ao56 t300.length co56, .int .i64 t294] (0, 0) _ rfl (by refine blkP (cs := #[.bool a0_0, .slice Ao56 t300.length co56, .int .i64 0]) ?_ 2 _ rfl; refine blkP (cs := #[.bool a0_0, .slice none 0 0, .int .i64 0]) ?_ 1 _ rfl; refine blkP (cs := #[.bool false, .slice none 0 0, .int .i64 0]) ?_ 0 _ rfl; exact bkS BK287.out) Tryd.underlying89 rfl (by kernel_rfl)) rfl ?_
    exact ⟨_, by first | rfl | (simp [errW_none, errW_some] <;> rfl) | (simp [*, errW_none, errW_some] <;> rfl), vS <| Kd.V_mono (Kd.V_far (p := ⟨gb287, 2, none⟩) (Kd.V_far (p := ⟨gb287, 1, none⟩) (Kd.V_far (p := ⟨gb287, 0, none⟩) (Kd.V_mono HO302.out (fun k_ hk => (⟨hk, hk.2.2.2⟩ : _ ∧ k_ ≠ gb287))) (fun _ hk => hk.2) (.bool a0_0)) (fun _ hk => hk.2) (.slice Ao56 t300.length co56)) (fun _ hk => hk.2) (.int .i64 t294)) (fun _ hk => hk.1.1), bG3 HB.out GE285.out GE286.out GE287.out⟩
   ·rw [if_neg c39] at H
    have c39b0 : (t299 == 1) = false := beq_eq_false_iff_ne.mpr c39
    have c39b1 : (t299 != 1) = true := bne_iff_ne.mpr c39
    replace H := Option.bind_eq_some_iff.mp H
    obtain ⟨⟨t304, t307⟩, A580, H⟩ := H
    replace H : (some (a1_0, t304, t294)) = some (r1, r2, r3) := H
    have A58 := Aside0.mk A580
    clear A580
    simp only [Option.some.injEq, Prod.mk.injEq] at H
    obtain ⟨rfl, rfl, rfl⟩ := H
    go_enter Tryd.func88, Tryd.ntmps88
    go_wp2_with (first | ((with_reducible refine gate_dst (N := 2) rfl ?_); refine box_event ?hg (N := 2) ?hd (cs := #[.bool a0_0, .slice A0_1 l0_1.length c0_1, .int .i64 a0_2]) (t := 89) ?hr ?_; (case hd => rfl); (case hg => rfl); (case hr => first | (go_simp; done) | (go_simp; rfl)); intro gb285 hg w59 hbox hb; replace HO0_1 := Aside0.mk (Kd.V_below (Kd.V_elderB (vS <| HO0_1.out) gb285 (Nat.le_of_eq hg.symm)) hb); replace HO1_1 := Aside0.mk (Kd.V_below (Kd.V_elderB (vS <| HO1_1.out) gb285 (Nat.le_of_eq hg.symm)) hb); have BK285 := Aside0.mk (hbox); have GW285 := Aside0.mk ((by rw [hg]; exact (below_size (bS HB.out)) : w.heap.size ≤ gb285)); have GE285 := Aside0.mk ((by rw [hg]; exact (below_size (bS HB.out)) : w.heap.size ≤ gb285)); replace HB := hB HB hb; clear hb hbox hg) | ((with_reducible refine gate_dst (N := 3) rfl ?_); refine box_event ?hg (N := 3) ?hd (cs := #[.bool a1_0, .slice A1_1 l1_1.length c1_1, .int .i64 a1_2]) (t := 89) ?hr ?_; (case hd => rfl); (case hg => rfl); (case hr => first | (go_simp; done) | (go_simp; rfl)); intro gb286 hg w60 hbox hb; replace HO0_1 := Aside0.mk (Kd.V_below (Kd.V_elderB (vS <| HO0_1.out) gb286 (Nat.le_of_eq hg.symm)) hb); replace HO1_1 := Aside0.mk (Kd.V_below (Kd.V_elderB (vS <| HO1_1.out) gb286 (Nat.le_of_eq hg.symm)) hb); have BK286 := Aside0.mk (hbox); have GW286 := Aside0.mk ((by rw [hg]; exact (below_size (bG1 HB.out GE285.out)) : w.heap.size ≤ gb286)); have GE286 := Aside0.mk ((by rw [hg]; exact (below_size (bG1 HB.out GE285.out)) : w.heap.size ≤ gb286)); replace HB := Aside0.mk (below_step (bG1 HB.out GE285.out) hb); have NB285_286 := Aside0.mk ((by rw [hg]; exact Nat.ne_of_lt (blk_lt (g := gb285) (o := .cells #[.bool a0_0, .slice A0_1 l0_1.length c0_1, .int .i64 a0_2] 89 (0, 0)) (by exact bkS BK285.out)) : gb285 ≠ gb286)); have NB286_285 := Aside0.mk ((by rw [hg]; exact Nat.ne_of_gt (blk_lt (g := gb285) (o := .cells #[.bool a0_0, .slice A0_1 l0_1.length c0_1, .int .i64 a0_2] 89 (0, 0)) (by exact bkS BK285.out)) : gb286 ≠ gb285)); replace BK285 := bkB BK285 hb; clear hb hbox hg) | ((with_reducible refine gate_dst (N := 4) rfl ?_); refine box_event ?hg (N := 4) ?hd (cs := #[.bool false, .slice none 0 0, .int .i64 0]) (t := 89) ?hr ?_; (case hd => rfl); (case hg => rfl); (case hr => first | (go_simp; done) | (go_simp; rfl)); intro gb287 hg w61 hbox hb; replace HO0_1 := Aside0.mk (Kd.V_below (Kd.V_elderB (vS <| HO0_1.out) gb287 (Nat.le_of_eq hg.symm)) hb); replace HO1_1 := Aside0.mk (Kd.V_below (Kd.V_elderB (vS <| HO1_1.out) gb287 (Nat.le_of_eq hg.symm)) hb); have BK287 := Aside0.mk (hbox); have GW287 := Aside0.mk ((by rw [hg]; exact (below_size (bG2 HB.out GE285.out GE286.out)) : w.heap.size ≤ gb287)); have GE287 := Aside0.mk ((by rw [hg]; exact (below_size (bG2 HB.out GE285.out GE286.out)) : w.heap.size ≤ gb287)); replace HB := Aside0.mk (below_step (bG2 HB.out GE285.out GE286.out) hb); have NB285_287 := Aside0.mk ((by rw [hg]; exact Nat.ne_of_lt (blk_lt (g := gb285) (o := .cells #[.bool a0_0, .slice A0_1 l0_1.length c0_1, .int .i64 a0_2] 89 (0, 0)) (by exact bkS BK285.out)) : gb285 ≠ gb287)); have NB287_285 := Aside0.mk ((by rw [hg]; exact Nat.ne_of_gt (blk_lt (g := gb285) (o := .cells #[.bool a0_0, .slice A0_1 l0_1.length c0_1, .int .i64 a0_2] 89 (0, 0)) (by exact bkS BK285.out)) : gb287 ≠ gb285)); replace BK285 := bkB BK285 hb; have NB286_287 := Aside0.mk ((by rw [hg]; exact Nat.ne_of_lt (blk_lt (g := gb286) (o := .cells #[.bool a1_0, .slice A1_1 l1_1.length c1_1, .int .i64 a1_2] 89 (0, 0)) (by exact bkS BK286.out)) : gb286 ≠ gb287)); have NB287_286 := Aside0.mk ((by rw [hg]; exact Nat.ne_of_gt (blk_lt (g := gb286) (o := .cells #[.bool a1_0, .slice A1_1 l1_1.length c1_1, .int .i64 a1_2] 89 (0, 0)) (by exact bkS BK286.out)) : gb287 ≠ gb286)); replace BK286 := bkB BK286 hb; clear hb hbox hg; have hnb62 := NB285_286.out; have hnc62 := NB286_285.out; have hnb63 := NB285_287.out; have hnc63 := NB287_285.out; have hcz64_0 : w61.cell? ⟨gb285, 0, none⟩ = some (.bool a0_0) := (blk_cell BK285.out 0).trans rfl; have hcz64_1 : w61.cell? ⟨gb285, 1, none⟩ = some (.slice A0_1 l0_1.length c0_1) := (blk_cell BK285.out 1).trans rfl; have hcz64_2 : w61.cell? ⟨gb285, 2, none⟩ = some (.int .i64 a0_2) := (blk_cell BK285.out 2).trans rfl; have hfz64_0 := blk_frozen BK285.out 0; have hfz64_1 := blk_frozen BK285.out 1; have hfz64_2 := blk_frozen BK285.out 2; have hnb65 := NB286_287.out; have hnc65 := NB287_286.out; have hcz66_0 : w61.cell? ⟨gb286, 0, none⟩ = some (.bool a1_0) := (blk_cell BK286.out 0).trans rfl; have hcz66_1 : w61.cell? ⟨gb286, 1, none⟩ = some (.slice A1_1 l1_1.length c1_1) := (blk_cell BK286.out 1).trans rfl; have hcz66_2 : w61.cell? ⟨gb286, 2, none⟩ = some (.int .i64 a1_2) := (blk_cell BK286.out 2).trans rfl; have hfz66_0 := blk_frozen BK286.out 0; have hfz66_1 := blk_frozen BK286.out 1; have hfz66_2 := blk_frozen BK286.out 2) | ((with_reducible refine gate_callee (f := 119) rfl ?_); refine goesL_ (some 23) rfl rfl Tryd.func119 (by kernel_rfl) rfl #[.slice A0_1 l0_1.length c0_1, .int .i64 a0_2, .slice A1_1 l1_1.length c1_1, .int .i64 a1_2] rfl (by (try simp only [List.map_toArray, List.map_cons, List.map_nil]); first | done | rfl) ?_; (with_reducible refine (soft_aligned.calls k (fun k_ => (((((P0_1_ k_ ∨ P1_1_ k_) ∨ w.heap.size ≤ k_) ∧ k_ ≠ gb285) ∧ k_ ≠ gb286) ∧ k_ ≠ gb287)) _ _ l0_1 a0_2 (fun k_ => (((((P0_1_ k_ ∨ P1_1_ k_) ∨ w.heap.size ≤ k_) ∧ k_ ≠ gb285) ∧ k_ ≠ gb286) ∧ k_ ≠ gb287)) _ _ l1_1 a1_2 t288 t291 t294 _ ?side1 ?side2 A3.out).mono ?_); (case side1 => exact HO0_1.out); (case side2 => exact HO1_1.out); rintro e w67 ⟨v289, v292, rfl, ho0, ho1, hb⟩; refine ⟨_, rfl, ?_⟩; replace HO0_1 := vB HO0_1 hb; replace HO1_1 := vB HO1_1 hb; have HO290 := Aside0.mk (Kd.V_lower (Kd.V_mono (ok' := fun k_ => ((P0_1_ k_ ∨ P1_1_ k_) ∨ w.heap.size ≤ k_) ∧ k_ ≠ gb285 ∧ k_ ≠ gb286 ∧ k_ ≠ gb287) ho0 (fun k_ hk_ => ⟨Or.elim hk_ (fun hs_ => Or.elim hs_ (fun hs_ => hs_.1.1.1) (fun hs_ => hs_.1.1.1)) (fun hn_ => (.inr (Nat.le_trans (below_size (bG3 HB.out GE285.out GE286.out GE287.out)) hn_))), Or.elim hk_ (fun hs_ => Or.elim hs_ (fun hs_ => hs_.1.1.2) (fun hs_ => hs_.1.1.2)) (fun hn_ => (Kd.freshB (g := gb285) (o := .cells #[.bool a0_0, .slice A0_1 l0_1.length c0_1, .int .i64 a0_2] 89 (0, 0)) (by exact bkS BK285.out) k_ hn_)), Or.elim hk_ (fun hs_ => Or.elim hs_ (fun hs_ => hs_.1.2) (fun hs_ => hs_.1.2)) (fun hn_ => (Kd.freshB (g := gb286) (o := .cells #[.bool a1_0, .slice A1_1 l1_1.length c1_1, .int .i64 a1_2] 89 (0, 0)) (by exact bkS BK286.out) k_ hn_)), Or.elim hk_ (fun hs_ => Or.elim hs_ (fun hs_ => hs_.2) (fun hs_ => hs_.2)) (fun hn_ => (Kd.freshB (g := gb287) (o := .cells #[.bool false, .slice none 0 0, .int .i64 0] 89 (0, 0)) (by exact bkS BK287.out) k_ hn_))⟩)) (below_size (bG3 HB.out GE285.out GE286.out GE287.out))); have HO293 := Aside0.mk (Kd.V_lower (Kd.V_mono (ok' := fun k_ => ((P0_1_ k_ ∨ P1_1_ k_) ∨ w.heap.size ≤ k_) ∧ k_ ≠ gb285 ∧ k_ ≠ gb286 ∧ k_ ≠ gb287) ho1 (fun k_ hk_ => ⟨Or.elim hk_ (fun hs_ => Or.elim hs_ (fun hs_ => hs_.1.1.1) (fun hs_ => hs_.1.1.1)) (fun hn_ => (.inr (Nat.le_trans (below_size (bG3 HB.out GE285.out GE286.out GE287.out)) hn_))), Or.elim hk_ (fun hs_ => Or.elim hs_ (fun hs_ => hs_.1.1.2) (fun hs_ => hs_.1.1.2)) (fun hn_ => (Kd.freshB (g := gb285) (o := .cells #[.bool a0_0, .slice A0_1 l0_1.length c0_1, .int .i64 a0_2] 89 (0, 0)) (by exact bkS BK285.out) k_ hn_)), Or.elim hk_ (fun hs_ => Or.elim hs_ (fun hs_ => hs_.1.2) (fun hs_ => hs_.1.2)) (fun hn_ => (Kd.freshB (g := gb286) (o := .cells #[.bool a1_0, .slice A1_1 l1_1.length c1_1, .int .i64 a1_2] 89 (0, 0)) (by exact bkS BK286.out) k_ hn_)), Or.elim hk_ (fun hs_ => Or.elim hs_ (fun hs_ => hs_.2) (fun hs_ => hs_.2)) (fun hn_ => (Kd.freshB (g := gb287) (o := .cells #[.bool false, .slice none 0 0, .int .i64 0] 89 (0, 0)) (by exact bkS BK287.out) k_ hn_))⟩)) (below_size (bG3 HB.out GE285.out GE286.out GE287.out))); replace BK285 := bkB BK285 hb; replace BK286 := bkB BK286 hb; replace BK287 := bkB BK287 hb; replace HB := Aside0.mk (below_step (bG3 HB.out GE285.out GE286.out GE287.out) hb); (try clear hb); (try clear hb2); (try clear hk); (try clear hi); (try clear ho0); (try clear ho1); have hcz68_0 : w67.cell? ⟨gb285, 0, none⟩ = some (.bool a0_0) := (blk_cell BK285.out 0).trans rfl; have hcz68_1 : w67.cell? ⟨gb285, 1, none⟩ = some (.slice A0_1 l0_1.length c0_1) := (blk_cell BK285.out 1).trans rfl; have hcz68_2 : w67.cell? ⟨gb285, 2, none⟩ = some (.int .i64 a0_2) := (blk_cell BK285.out 2).trans rfl; have hfz68_0 := blk_frozen BK285.out 0; have hfz68_1 := blk_frozen BK285.out 1; have hfz68_2 := blk_frozen BK285.out 2; have hcz69_0 : w67.cell? ⟨gb286, 0, none⟩ = some (.bool a1_0) := (blk_cell BK286.out 0).trans rfl; have hcz69_1 : w67.cell? ⟨gb286, 1, none⟩ = some (.slice A1_1 l1_1.length c1_1) := (blk_cell BK286.out 1).trans rfl; have hcz69_2 : w67.cell? ⟨gb286, 2, none⟩ = some (.int .i64 a1_2) := (blk_cell BK286.out 2).trans rfl; have hfz69_0 := blk_frozen BK286.out 0; have hfz69_1 := blk_frozen BK286.out 1; have hfz69_2 := blk_frozen BK286.out 2; obtain ⟨Ao70, co70, eo70⟩ := Kd.V_slice HO290.out; subst eo70; obtain ⟨Ao71, co71, eo71⟩ := Kd.V_slice HO293.out; subst eo71) | ((with_reducible refine gate_callee (f := 18) rfl ?_); refine goesL_ (some 45) rfl rfl Tryd.func18 (by kernel_rfl) rfl #[.slice Ao70 t288.length co70, .slice Ao71 t291.length co71] rfl (by (try simp only [List.map_toArray, List.map_cons, List.map_nil]); first | done | rfl) ?_; (with_reducible refine (nat_Cmp.calls k _ _ t288 _ _ t291 t299 _ ?side1 ?side2 ?side3 ?side4 A23.out).mono ?_); (case side1 => exact cS (Kd.V_reads' HO290.out).2.2); (case side2 => exact (Kd.V_reads' HO290.out).2.1); (case side3 => exact cS (Kd.V_reads' HO293.out).2.2); (case side4 => exact (Kd.V_reads' HO293.out).2.1); rintro e w' ⟨rfl, ⟨nd, rfl⟩⟩; refine ⟨_, rfl, ?_⟩; (try (rw [drewN_self w67]; generalize hq_ : World.drewN w67 _ = w67; have n0_ : Aside0 (Kd.V (Kd.int .u64) 22 w67 w.heap.size (fun k_ => ((P0_1_ k_ ∨ P1_1_ k_) ∨ w.heap.size ≤ k_) ∧ k_ ≠ gb285 ∧ k_ ≠ gb286 ∧ k_ ≠ gb287) (.slice A0_1 l0_1.length c0_1) l0_1) := ⟨by rw [← hq_]; exact (vS <| Kd.V_mono HO0_1.out (fun _ hk => ⟨hk.1.1.1, ⟨hk.1.1.2, ⟨hk.1.2, hk.2⟩⟩⟩))⟩; have n1_ : Aside0 (Kd.V (Kd.int .u64) 22 w67 w.heap.size (fun k_ => ((P0_1_ k_ ∨ P1_1_ k_) ∨ w.heap.size ≤ k_) ∧ k_ ≠ gb285 ∧ k_ ≠ gb286 ∧ k_ ≠ gb287) (.slice A1_1 l1_1.length c1_1) l1_1) := ⟨by rw [← hq_]; exact (vS <| Kd.V_mono HO1_1.out (fun _ hk => ⟨hk.1.1.1, ⟨hk.1.1.2, ⟨hk.1.2, hk.2⟩⟩⟩))⟩; have n2_ : Aside0 (Kd.V (Kd.int .u64) 22 w67 w.heap.size (fun k_ => ((P0_1_ k_ ∨ P1_1_ k_) ∨ w.heap.size ≤ k_) ∧ k_ ≠ gb285 ∧ k_ ≠ gb286 ∧ k_ ≠ gb287) (.slice Ao70 t288.length co70) t288) := ⟨by rw [← hq_]; exact (vS <| HO290.out)⟩; have n3_ : Aside0 (Kd.V (Kd.int .u64) 22 w67 w.heap.size (fun k_ => ((P0_1_ k_ ∨ P1_1_ k_) ∨ w.heap.size ≤ k_) ∧ k_ ≠ gb285 ∧ k_ ≠ gb286 ∧ k_ ≠ gb287) (.slice Ao71 t291.length co71) t291) := ⟨by rw [← hq_]; exact (vS <| HO293.out)⟩; have n4_ : Aside0 (w67.heap[gb285]? = some (.cells #[.bool a0_0, .slice A0_1 l0_1.length c0_1, .int .i64 a0_2] 89 (0, 0))) := ⟨by rw [← hq_]; exact (by exact bkS BK285.out)⟩; have n5_ : Aside0 (w67.heap[gb286]? = some (.cells #[.bool a1_0, .slice A1_1 l1_1.length c1_1, .int .i64 a1_2] 89 (0, 0))) := ⟨by rw [← hq_]; exact (by exact bkS BK286.out)⟩; have n6_ : Aside0 (w67.heap[gb287]? = some (.cells #[.bool false, .slice none 0 0, .int .i64 0] 89 (0, 0))) := ⟨by rw [← hq_]; exact (by exact bkS BK287.out)⟩; have n7_ : Aside0 (Below w.heap.size w w67) := ⟨by rw [← hq_]; exact (bG3 HB.out GE285.out GE286.out GE287.out)⟩; clear HO0_1 HO1_1 HO290 HO293 BK285 BK286 BK287 HB hq_; have HO0_1 := n0_; have HO1_1 := n1_; have HO290 := n2_; have HO293 := n3_; have BK285 := n4_; have BK286 := n5_; have BK287 := n6_; have HB := n7_; clear n0_ n1_ n2_ n3_ n4_ n5_ n6_ n7_))) | ((with_reducible refine gate_callee (f := 56) rfl ?_); refine goesL_ (some 65) rfl rfl Tryd.func56 (by kernel_rfl) rfl #[.slice Ao71 t291.length co71, .slice Ao70 t288.length co70] rfl (by (try simp only [List.map_toArray, List.map_cons, List.map_nil]); first | done | rfl) ?_; (with_reducible refine (nat_Sub.calls k _ _ t291 _ _ t288 t304 t307 _ ?side1 ?side2 ?side3 ?side4 A58.out).mono ?_); (case side1 => exact cS (Kd.V_reads' HO293.out).2.2); (case side2 => exact (Kd.V_reads' HO293.out).2.1); (case side3 => exact cS (Kd.V_reads' HO290.out).2.2); (case side4 => exact (Kd.V_reads' HO290.out).2.1); rintro e w72 ⟨v305, rfl, ho0, hb⟩; refine ⟨_, rfl, ?_⟩; replace HO0_1 := vB HO0_1 hb; replace HO1_1 := vB HO1_1 hb; replace HO290 := vB HO290 hb; replace HO293 := vB HO293 hb; have HO306 := Aside0.mk (Kd.V_lower (Kd.V_mono (ok' := fun k_ => ((P0_1_ k_ ∨ P1_1_ k_) ∨ w.heap.size ≤ k_) ∧ k_ ≠ gb285 ∧ k_ ≠ gb286 ∧ k_ ≠ gb287) ho0 (fun k_ hk_ => ⟨(.inr (Nat.le_trans (below_size (bG3 HB.out GE285.out GE286.out GE287.out)) hk_)), (Kd.freshB (g := gb285) (o := .cells #[.bool a0_0, .slice A0_1 l0_1.length c0_1, .int .i64 a0_2] 89 (0, 0)) (by exact bkS BK285.out) k_ hk_), (Kd.freshB (g := gb286) (o := .cells #[.bool a1_0, .slice A1_1 l1_1.length c1_1, .int .i64 a1_2] 89 (0, 0)) (by exact bkS BK286.out) k_ hk_), (Kd.freshB (g := gb287) (o := .cells #[.bool false, .slice none 0 0, .int .i64 0] 89 (0, 0)) (by exact bkS BK287.out) k_ hk_)⟩)) (below_size (bG3 HB.out GE285.out GE286.out GE287.out))); replace BK285 := bkB BK285 hb; replace BK286 := bkB BK286 hb; replace BK287 := bkB BK287 hb; replace HB := Aside0.mk (below_step (bG3 HB.out GE285.out GE286.out GE287.out) hb); (try clear hb); (try clear hb2); (try clear hk); (try clear hi); (try clear ho0); have hcz73_0 : w72.cell? ⟨gb286, 0, none⟩ = some (.bool a1_0) := (blk_cell BK286.out 0).trans rfl; have hcz73_1 : w72.cell? ⟨gb286, 1, none⟩ = some (.slice A1_1 l1_1.length c1_1) := (blk_cell BK286.out 1).trans rfl; have hcz73_2 : w72.cell? ⟨gb286, 2, none⟩ = some (.int .i64 a1_2) := (blk_cell BK286.out 2).trans rfl; have hfz73_0 := blk_frozen BK286.out 0; have hfz73_1 := blk_frozen BK286.out 1; have hfz73_2 := blk_frozen BK286.out 2; obtain ⟨Ao74, co74, eo74⟩ := Kd.V_slice HO306.out; subst eo74; have hcz75_0 : w72.cell? ⟨gb287, 0, none⟩ = some (.bool false) := (blk_cell BK287.out 0).trans rfl; have hcz75_1 : w72.cell? ⟨gb287, 1, none⟩ = some (.slice none 0 0) := (blk_cell BK287.out 1).trans rfl; have hcz75_2 : w72.cell? ⟨gb287, 2, none⟩ = some (.int .i64 0) := (blk_cell BK287.out 2).trans rfl; have hfz75_0 := blk_frozen BK287.out 0; have hfz75_1 := blk_frozen BK287.out 1; have hfz75_2 := blk_frozen BK287.out 2))
    refine bodyPost_ret (results_cell_row rfl _ _ gb287 89 #[.bool a1_0, .slice Ao74 t304.length co74, .int .i64 t294] (0, 0) _ rfl (by refine blkP (cs := #[.bool a1_0, .slice Ao74 t304.length co74, .int .i64 0]) ?_ 2 _ rfl; refine blkP (cs := #[.bool a1_0, .slice none 0 0, .int .i64 0]) ?_ 1 _ rfl; refine blkP (cs := #[.bool false, .slice none 0 0, .int .i64 0]) ?_ 0 _ rfl; exact bkS BK287.out) Tryd.underlying89 rfl (by kernel_rfl)) rfl ?_
    exact ⟨_, by first | rfl | (simp [errW_none, errW_some] <;> rfl) | (simp [*, errW_none, errW_some] <;> rfl), vS <| Kd.V_mono (Kd.V_far (p := ⟨gb287, 2, none⟩) (Kd.V_far (p := ⟨gb287, 1, none⟩) (Kd.V_far (p := ⟨gb287, 0, none⟩) (Kd.V_mono HO306.out (fun k_ hk => (⟨hk, hk.2.2.2⟩ : _ ∧ k_ ≠ gb287))) (fun _ hk => hk.2) (.bool a1_0)) (fun _ hk => hk.2) (.slice Ao74 t304.length co74)) (fun _ hk => hk.2) (.int .i64 t294)) (fun _ hk => hk.1.1), bG3 HB.out GE285.out GE286.out GE287.out⟩

/-! ### soft_withSign: function 90 -/
def soft_withSign.f (a0 : Bool) (a1 : Int) : Option (Int) := if a0 = true then (some (Go.bits .or .u64 a1 9223372036854775808)) else (some a1)
set_option maxHeartbeats 8000000 in
set_option maxRecDepth 100000 in
theorem soft_withSign.calls (a0 : Bool) (a1 : Int) (r : Int) (w : World) (h : soft_withSign.f a0 a1 = some r) :
  Calls Tryd.prog 90 #[.bool a0, .int .u64 a1] w fun e w' => e = .returned (.int .u64 r) ∧ Drawn0 w w' := by
 have H : (if a0 = true then (some (Go.bits .or .u64 a1 9223372036854775808)) else (some a1)) = some r := h
 clear h
 by_cases c3 : a0 = true
 ·subst c3
  have H1 : (some (Go.bits .or .u64 a1 9223372036854775808)) = some r := by rw [if_pos rfl] at H; exact H
  clear H
  have H := H1
  clear H1
  obtain rfl := Option.some.inj H
  go_enter Tryd.func90, Tryd.ntmps90
  go_wp2
  go_ret
  exact ⟨by first | rfl | (simp; done) | (simp [*]; done), by repeat (first | exact Drawn0.refl _ | apply Drawn0.step)⟩
 ·replace c3 := Bool.eq_false_iff.mpr c3
  subst c3
  have H1 : (some a1) = some r := by rw [if_neg (show ¬ (false = true) by decide)] at H; exact H
  clear H
  have H := H1
  clear H1
  obtain rfl := Option.some.inj H
  go_enter Tryd.func90, Tryd.ntmps90
  go_wp2
  go_ret
  exact ⟨by first | rfl | (simp; done) | (simp [*]; done), by repeat (first | exact Drawn0.refl _ | apply Drawn0.step)⟩

/-! ### bits_Len64: function 125 (its contract by hand) -/
def bits_Len64.f (a0 : Int) : Option Int := if 0 ≤ a0 ∧ a0 ≤ 18446744073709551615 then some (Lib.bitLen a0.toNat : Nat) else none
theorem bits_Len64.calls (a0 r : Int) (w : World) (h : bits_Len64.f a0 = some r) :
  Calls Tryd.prog 125 #[.int .u64 a0] w fun e w' => e = .returned (.int .i64 r) ∧ Drawn0 w w' := by
 unfold bits_Len64.f at h
 split at h
 ·rename_i hh
  obtain rfl := Option.some.inj h
  refine (Go.Proofs.YtcdnoklokoplaaaDoorG.len64 a0 w hh.1 hh.2).mono ?_
  rintro e w' ⟨rfl, rfl⟩
  exact ⟨rfl, Drawn0.refl _⟩
 ·exact absurd h (by simp)

/-! ### nat_BitLen: function 95 -/
def nat_BitLen.f (k : Nat) (l0 : List Int) : Option (Int) := (nat_size.f k l0).bind fun t308 => (if t308 = 0 then (some 0) else (if 0 ≤ (wrap64 (t308 - 1)) then (if (wrap64 (t308 - 1)) < (l0.length : Int) then ((bits_Len64.f (rd l0 (wrap64 (t308 - 1)))).bind fun t310 => (some (wrap64 ((wrap64 (64 * (wrap64 (t308 - 1)))) + t310)))) else (none)) else (none)))
theorem nat_BitLen.mono : ∀ a0 k, LeO (nat_BitLen.f k a0) (nat_BitLen.f (k + 1) a0) := by
 intro a0 k
 unfold nat_BitLen.f
 repeat' first
   | (with_reducible exact nat_size.mono _ _)
   | (with_reducible exact LeO.refl _)
   | (with_reducible exact LeO.none _)
   | (with_reducible refine LeO.ite ?_ ?_)
   | (with_reducible refine LeO.bind ?_ (fun _ => ?_))
   | exact nat_size.mono _ _
   | exact LeO.none _
   | refine LeO.ite ?_ ?_
   | refine LeO.bind ?_ (fun _ => ?_)
set_option maxHeartbeats 8000000 in
set_option maxRecDepth 100000 in
theorem nat_BitLen.calls (k : Nat) (A0 : Option Addr) (c0 : Nat) (l0 : List Int) (r : Int) (w : World) (hr0 : Kd.C (Kd.int .u64) w A0 l0.length l0) (hc0 : l0.length ≤ c0) (h : nat_BitLen.f k l0 = some r) :
  Calls Tryd.prog 95 #[.slice A0 l0.length c0] w fun e w' => e = .returned (.int .i64 r) ∧ Drawn0 w w' := by
 have HR0 := Aside0.mk hr0
 have HC0 := Aside0.mk hc0
 clear hr0 hc0
 have H : ((nat_size.f k l0).bind fun t308 => (if t308 = 0 then (some 0) else (if 0 ≤ (wrap64 (t308 - 1)) then (if (wrap64 (t308 - 1)) < (l0.length : Int) then ((bits_Len64.f (rd l0 (wrap64 (t308 - 1)))).bind fun t310 => (some (wrap64 ((wrap64 (64 * (wrap64 (t308 - 1)))) + t310)))) else (none)) else (none)))) = some r := h
 clear h
 replace H := Option.bind_eq_some_iff.mp H
 obtain ⟨t308, A20, H⟩ := H
 replace H : (if t308 = 0 then (some 0) else (if 0 ≤ (wrap64 (t308 - 1)) then (if (wrap64 (t308 - 1)) < (l0.length : Int) then ((bits_Len64.f (rd l0 (wrap64 (t308 - 1)))).bind fun t310 => (some (wrap64 ((wrap64 (64 * (wrap64 (t308 - 1)))) + t310)))) else (none)) else (none))) = some r := H
 have A2 := Aside0.mk A20
 clear A20
 by_cases c3 : t308 = 0
 ·rw [if_pos c3] at H
  have c3b0 : (t308 == 0) = true := beq_iff_eq.mpr c3
  have c3b1 : (t308 != 0) = false := bne_eq_false_iff_eq.mpr c3
  clear c3
  obtain rfl := Option.some.inj H
  go_enter Tryd.func95, Tryd.ntmps95
  go_wp2_with (first | ((with_reducible refine gate_callee (f := 52) rfl ?_); refine goesL_ (some 5) rfl rfl Tryd.func52 (by kernel_rfl) rfl #[.slice A0 l0.length c0] rfl (by (try simp only [List.map_toArray, List.map_cons, List.map_nil]); first | done | rfl) ?_; (with_reducible refine (nat_size.calls k _ _ l0 t308 _ ?side1 ?side2 A2.out).mono ?_); (case side1 => exact cS HR0.out); (case side2 => exact HC0.out); rintro e w' ⟨rfl, ⟨nd, rfl⟩⟩; refine ⟨_, rfl, ?_⟩))
  go_ret
  exact ⟨by first | rfl | (simp; done) | (simp [*]; done), by repeat (first | exact Drawn0.refl _ | apply Drawn0.step)⟩
 ·rw [if_neg c3] at H
  have c3b0 : (t308 == 0) = false := beq_eq_false_iff_ne.mpr c3
  have c3b1 : (t308 != 0) = true := bne_iff_ne.mpr c3
  obtain ⟨ji4, hji4⟩ : ∃ j_ : Int, (wrap64 (t308 - 1)) = j_ := ⟨_, rfl⟩
  replace H : (if 0 ≤ (ji4) then (if (ji4) < (l0.length : Int) then ((bits_Len64.f (rd l0 (ji4))).bind fun t310 => (some (wrap64 ((wrap64 (64 * (ji4))) + t310)))) else (none)) else (none)) = some r := by first | (rw [hji4] at H; exact H) | (simp only [hji4] at H ⊢; exact H)
  (try rw [hji4] at A2)
  have hji4w : (IntKind.i64.wrap (t308 - 1)) = ji4 := (i64_w _).trans hji4
  by_cases c5 : 0 ≤ (ji4)
  ·rw [if_pos c5] at H
   have c5b0 : decide (0 ≤ (ji4)) = true := decide_eq_true c5
   clear c5
   by_cases c6 : (ji4) < (l0.length : Int)
   ·rw [if_pos c6] at H
    have c6b0 : decide ((ji4) < (l0.length : Int)) = true := decide_eq_true c6
    clear c6
    replace H := Option.bind_eq_some_iff.mp H
    obtain ⟨t310, A70, H⟩ := H
    replace H : (some (wrap64 ((wrap64 (64 * (ji4))) + t310))) = some r := H
    have A7 := Aside0.mk A70
    clear A70
    obtain rfl := Option.some.inj H
    go_enter Tryd.func95, Tryd.ntmps95
    go_wp2_with (first | ((with_reducible refine gate_callee (f := 52) rfl ?_); refine goesL_ (some 5) rfl rfl Tryd.func52 (by kernel_rfl) rfl #[.slice A0 l0.length c0] rfl (by (try simp only [List.map_toArray, List.map_cons, List.map_nil]); first | done | rfl) ?_; (with_reducible refine (nat_size.calls k _ _ l0 t308 _ ?side1 ?side2 A2.out).mono ?_); (case side1 => exact cS HR0.out); (case side2 => exact HC0.out); rintro e w' ⟨rfl, ⟨nd, rfl⟩⟩; refine ⟨_, rfl, ?_⟩; have p309 : 0 ≤ ((ji4) : Int) := of_decide_eq_true (by first | (with_reducible assumption) | assumption); have q309 : (ji4) < (l0.length : Int) := of_decide_eq_true (by first | (with_reducible assumption) | assumption); obtain ⟨ad309, e309, hx309_0⟩ := Kd.at_int HR0.out (ji4) p309 q309; cases e309; replace p309 := eq_true p309; replace q309 := eq_true q309) | ((with_reducible refine gate_callee (f := 125) rfl ?_); refine goesL_ (some 16) rfl rfl Tryd.func125 (by kernel_rfl) rfl #[.int .u64 (rd l0 (ji4))] rfl (by (try simp only [List.map_toArray, List.map_cons, List.map_nil]); first | done | (simp only [hji4]; rfl) | rfl) ?_; (with_reducible refine (bits_Len64.calls (rd l0 (ji4)) t310 _ A7.out).mono ?_); rintro e w' ⟨rfl, ⟨nd, rfl⟩⟩; refine ⟨_, rfl, ?_⟩))
    go_ret
    exact ⟨by first | rfl | (simp; done) | (simp only [← hji4] <;> (first | rfl | simp)) | (simp [*]; done), by repeat (first | exact Drawn0.refl _ | apply Drawn0.step)⟩
   ·rw [if_neg c6] at H
    exact absurd H (by simp)
  ·rw [if_neg c5] at H
   exact absurd H (by simp)

/-! ### bits_TrailingZeros64: function 126 (its contract by hand) -/
def bits_TrailingZeros64.f (a0 : Int) : Option Int := if 0 ≤ a0 ∧ a0 < 18446744073709551616 then some (Lib.ctz 64 a0.toNat : Nat) else none
set_option maxHeartbeats 1000000 in
theorem bits_TrailingZeros64.core (x k idx : Nat) (w : World) (hx0 : ((x : Int) == 0) = false)
  (key : IntKind.u64.wrap (bits BinOp.and IntKind.u64 (x : Int) (IntKind.u64.wrap (-(x : Int))) * 285870213051353865) / 288230376151711744 = (idx : Int))
  (hi : idx < 64) (hk : k < 64) (hcell : w.cell? ⟨0, idx, none⟩ = some (.int .u8 k)) :
  Calls Tryd.prog 126 #[.int .u64 x] w fun e w' => e = .returned (.int .i64 k) ∧ w' = w := by
 go_enter Tryd.func126, Tryd.ntmps126
 go_wp2_with (simp only [key])
 go_ret
 exact ⟨rfl, rfl⟩
theorem bits_TrailingZeros64.zero (w : World) : Calls Tryd.prog 126 #[.int .u64 0] w fun e w' => e = .returned (.int .i64 64) ∧ w' = w := by
 go_enter Tryd.func126, Tryd.ntmps126
 go_wp2
 go_ret
 exact ⟨rfl, rfl⟩
theorem bits_TrailingZeros64.calls (a0 r : Int) (w : World) (hT : Kd.C (Kd.int .u8) w (some ⟨0, 0, none⟩) 64 tabL) (h : bits_TrailingZeros64.f a0 = some r) :
  Calls Tryd.prog 126 #[.int .u64 a0] w fun e w' => e = .returned (.int .i64 r) ∧ Drawn0 w w' := by
 unfold bits_TrailingZeros64.f at h
 split at h
 ·rename_i hh
  obtain rfl := Option.some.inj h
  obtain ⟨x, rfl⟩ := Int.eq_ofNat_of_zero_le hh.1
  have hx : x < 18446744073709551616 := by omega
  rw [Int.toNat_natCast]
  by_cases hx0 : x = 0
  ·subst hx0
   refine (bits_TrailingZeros64.zero w).mono ?_
   rintro e w' ⟨rfl, rfl⟩
   exact ⟨rfl, Drawn0.refl _⟩
  ·obtain ⟨hlow, hk⟩ := Lib.lowest_bit 64 x hx0 hx
   obtain ⟨hi, htab⟩ := Lib.deBruijn64_at _ hk
   have hcell := tabL_cell hT _ hi
   rw [htab] at hcell
   refine (bits_TrailingZeros64.core x _ _ w (by simp; omega) (tz64_key x _ hx hx0 hlow) hi hk hcell).mono ?_
   rintro e w' ⟨rfl, rfl⟩
   exact ⟨rfl, Drawn0.refl _⟩
 ·exact absurd h (by simp)

/-! ### nat_Trail: function 96 -/
def nat_Trail.l0 : Nat → List Int → Int → Int → Option (Int)
 | 0, _, _, _ => none
 | k + 1, x5, x6, x7 => if x7 < x6 then (if 0 ≤ x7 then (if x7 < (x5.length : Int) then (if (rd x5 x7) = 0 then (nat_Trail.l0 k x5 x6 (wrap64 (x7 + 1))) else ((bits_TrailingZeros64.f (rd x5 x7)).bind fun t312 => (some (wrap64 ((wrap64 (64 * x7)) + t312))))) else (none)) else (none)) else (some 0)
def nat_Trail.f (k : Nat) (l0 : List Int) : Option (Int) := nat_Trail.l0 k l0 (l0.length : Int) 0
theorem nat_Trail.mono_l : ∀ k, (∀ y0 y1 y2, LeO (nat_Trail.l0 k y0 y1 y2) (nat_Trail.l0 (k + 1) y0 y1 y2))
 | 0 => fun _ _ _ r h => by simp [nat_Trail.l0] at h
 | k + 1 => by
  have ih0 := nat_Trail.mono_l k
  ·intro y0 y1 y2
   unfold nat_Trail.l0
   repeat' first
   | (with_reducible exact ih0 _ _ _)
   | (with_reducible exact LeO.refl _)
   | (with_reducible exact LeO.none _)
   | (with_reducible refine LeO.ite ?_ ?_)
   | (with_reducible refine LeO.bind ?_ (fun _ => ?_))
   | exact ih0 _ _ _
   | exact LeO.none _
   | refine LeO.ite ?_ ?_
   | refine LeO.bind ?_ (fun _ => ?_)
theorem nat_Trail.mono : ∀ a0 k, LeO (nat_Trail.f k a0) (nat_Trail.f (k + 1) a0) := by
 intro a0 k
 have ih0 := nat_Trail.mono_l k
 unfold nat_Trail.f
 repeat' first
   | (with_reducible exact ih0 _ _ _)
   | (with_reducible exact LeO.refl _)
   | (with_reducible exact LeO.none _)
   | (with_reducible refine LeO.ite ?_ ?_)
   | (with_reducible refine LeO.bind ?_ (fun _ => ?_))
   | exact ih0 _ _ _
   | exact LeO.none _
   | refine LeO.ite ?_ ?_
   | refine LeO.bind ?_ (fun _ => ?_)
set_option maxHeartbeats 8000000 in
set_option maxRecDepth 100000 in
theorem nat_Trail.calls (k : Nat) (A0 : Option Addr) (c0 : Nat) (l0 : List Int) (r : Int) (w : World) (hT : Kd.C (Kd.int .u8) w (some ⟨0, 0, none⟩) 64 tabL) (hr0 : Kd.C (Kd.int .u64) w A0 l0.length l0) (hc0 : l0.length ≤ c0) (h : nat_Trail.f k l0 = some r) :
  Calls Tryd.prog 96 #[.slice A0 l0.length c0] w fun e w' => e = .returned (.int .i64 r) ∧ Drawn0 w w' := by
 have HT := Aside0.mk hT
 clear hT
 have HR0 := Aside0.mk hr0
 have HC0 := Aside0.mk hc0
 clear hr0 hc0
 have H : (nat_Trail.l0 k l0 (l0.length : Int) 0) = some r := h
 clear h
 have H' := Aside0.mk H
 clear H
 go_enter Tryd.func96, Tryd.ntmps96
 go_wp2
 go_loopg [7] k (fun kq v7 w' => ∃ (x7_1 : Int), v7 = .int .i64 x7_1 ∧ Aside0 (nat_Trail.l0 kq l0 (l0.length : Int) x7_1 = some r) ∧ Aside0 (kq ≤ k) ∧ Drawn0 w w')
 case atStart => exact ⟨(0), (by first | rfl | (simp; done) | (simp [*]; done)), H', ⟨Nat.le_refl _⟩, by repeat (first | exact Drawn0.refl _ | apply Drawn0.step)⟩
 case round =>
  clear H'
  obtain ⟨x7_1, rfl, HA, HK1, ⟨m1, rfl⟩⟩ := hrel
  cases gk with
  | zero => exact absurd HA.out (by simp [nat_Trail.l0])
  | succ k1 =>
   have H := HA.out
   clear HA
   simp only [nat_Trail.l0] at H
   by_cases c2 : x7_1 < (l0.length : Int)
   ·rw [if_pos c2] at H
    have c2b0 : decide (x7_1 < (l0.length : Int)) = true := decide_eq_true c2
    clear c2
    by_cases c3 : 0 ≤ x7_1
    ·rw [if_pos c3] at H
     have c3b0 : decide (0 ≤ x7_1) = true := decide_eq_true c3
     clear c3
     by_cases c4 : x7_1 < (l0.length : Int)
     ·rw [if_pos c4] at H
      have c4b0 : decide (x7_1 < (l0.length : Int)) = true := decide_eq_true c4
      clear c4
      by_cases c5 : (rd l0 x7_1) = 0
      ·rw [if_pos c5] at H
       have c5b0 : ((rd l0 x7_1) == 0) = true := beq_iff_eq.mpr c5
       have c5b1 : ((rd l0 x7_1) != 0) = false := bne_eq_false_iff_eq.mpr c5
       clear c5
       have H' := Aside0.mk H
       clear H
       have p311 : 0 ≤ (x7_1 : Int) := of_decide_eq_true (by first | (with_reducible assumption) | assumption)
       have q311 : x7_1 < (l0.length : Int) := of_decide_eq_true (by first | (with_reducible assumption) | assumption)
       obtain ⟨ad311, e311, hx311_0⟩ := Kd.at_int HR0.out x7_1 p311 q311
       cases e311
       replace p311 := eq_true p311
       replace q311 := eq_true q311
       go_wp2
       go_roundg k1
       case measure => have := HK1.out; omega
       case rel => exact ⟨(wrap64 (x7_1 + 1)), (by first | rfl | (simp; done) | (simp [*]; done)), H', ⟨by have := HK1.out; omega⟩, by repeat (first | exact Drawn0.refl _ | apply Drawn0.step)⟩
      ·rw [if_neg c5] at H
       have c5b0 : ((rd l0 x7_1) == 0) = false := beq_eq_false_iff_ne.mpr c5
       have c5b1 : ((rd l0 x7_1) != 0) = true := bne_iff_ne.mpr c5
       replace H := Option.bind_eq_some_iff.mp H
       obtain ⟨t312, A60, H⟩ := H
       replace H : (some (wrap64 ((wrap64 (64 * x7_1)) + t312))) = some r := H
       have A6 := Aside0.mk A60
       clear A60
       obtain rfl := Option.some.inj H
       have p311 : 0 ≤ (x7_1 : Int) := of_decide_eq_true (by first | (with_reducible assumption) | assumption)
       have q311 : x7_1 < (l0.length : Int) := of_decide_eq_true (by first | (with_reducible assumption) | assumption)
       obtain ⟨ad311, e311, hx311_0⟩ := Kd.at_int HR0.out x7_1 p311 q311
       cases e311
       replace p311 := eq_true p311
       replace q311 := eq_true q311
       go_wp2_with (first | ((with_reducible refine gate_callee (f := 126) rfl ?_); refine goesL_ (some 17) rfl rfl Tryd.func126 (by kernel_rfl) rfl #[.int .u64 (rd l0 x7_1)] rfl (by (try simp only [List.map_toArray, List.map_cons, List.map_nil]); first | done | rfl) ?_; (with_reducible refine (bits_TrailingZeros64.calls (rd l0 x7_1) t312 _ ?side1 A6.out).mono ?_); (case side1 => exact cS HT.out); rintro e w' ⟨rfl, ⟨nd, rfl⟩⟩; refine ⟨_, rfl, ?_⟩))
       go_ret
       exact ⟨by first | rfl | (simp; done) | (simp [*]; done), by repeat (first | exact Drawn0.refl _ | apply Drawn0.step)⟩
     ·rw [if_neg c4] at H
      exact absurd H (by simp)
    ·rw [if_neg c3] at H
     exact absurd H (by simp)
   ·rw [if_neg c2] at H
    have c2b0 : decide (x7_1 < (l0.length : Int)) = false := decide_eq_false c2
    clear c2
    obtain rfl := Option.some.inj H
    go_wp2
    go_ret
    exact ⟨by first | rfl | (simp; done) | (simp [*]; done), by repeat (first | exact Drawn0.refl _ | apply Drawn0.step)⟩

end Go.Proofs.YtcdnoklokoplaaaDoor.PC
