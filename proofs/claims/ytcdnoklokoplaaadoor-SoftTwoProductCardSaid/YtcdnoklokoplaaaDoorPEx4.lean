-- printed by a program
import Derived.Test.YtcdnoklokoplaaaDoorPEx0
import Derived.Test.YtcdnoklokoplaaaDoorPEx1
import Derived.Test.YtcdnoklokoplaaaDoorPEx2
namespace Go.Proofs.YtcdnoklokoplaaaDoor.PE
open Go.Proofs.YtcdnoklokoplaaaDoorX
open Go.RowKit Go.Proofs.YtcdnoklokoplaaaDoorW.PrintWords Go.Proofs.YtcdnoklokoplaaaDoorW.PrintLast Go.Proofs.YtcdnoklokoplaaaDoorW.PrintMore
attribute [local go_sem] max2_int min2_int max_two min_two max_three min_three max_four min_four   -- for this text's walks alone
set_option linter.unusedVariables false
set_option linter.unusedSimpArgs false

/-! ### nat_Add: function 55 -/
mutual
def nat_Add.j0 : Nat → List Int → List Int → Bool → Option (List Int × Int)
 | 0, _, _, _ => none
 | k + 1, x0, x1, x16 => if x16 = true then (some (([] : List Int), 2)) else ((nat_size.f k x0).bind fun t222 => (if 0 ≤ t222 then (if t222 ≤ (x0.length : Int) then ((some (x0.take (t222 : Int).toNat : List Int)).bind fun y223 => ((nat_size.f k x1).bind fun t228 => (if 0 ≤ t228 then (if t228 ≤ (x1.length : Int) then ((some (x1.take (t228 : Int).toNat : List Int)).bind fun y229 => (if (y223.length : Int) < (y229.length : Int) then (nat_Add.j1 k y229 y223) else (nat_Add.j1 k y223 y229))) else (none)) else (none)))) else (none)) else (none)))
def nat_Add.j1 : Nat → List Int → List Int → Option (List Int × Int)
 | 0, _, _ => none
 | k + 1, x0, x1 => if 0 ≤ (wrap64 ((x0.length : Int) + 1)) then (if (wrap64 ((x0.length : Int) + 1) : Int).toNat ≤ 35184372088832 then (nat_Add.l0 k x0 x1 (List.replicate (wrap64 ((x0.length : Int) + 1) : Int).toNat 0) 0 x0 (x0.length : Int) 0) else (none)) else (none)
def nat_Add.l0 : Nat → List Int → List Int → List Int → Int → List Int → Int → Int → Option (List Int × Int)
 | 0, _, _, _, _, _, _, _ => none
 | k + 1, x0, x1, x6, x7, x36, x37, x38 => if x38 < x37 then (if 0 ≤ x38 then (if x38 < (x36.length : Int) then (if x38 < (x1.length : Int) then ((bits_Add64.f (rd x36 x38) (rd x1 x38) x7).bind fun bt239 => (if x38 < (x6.length : Int) then (nat_Add.l0 k x0 x1 (x6.set (x38 : Int).toNat bt239.1) bt239.2 x36 x37 (wrap64 (x38 + 1))) else (none))) else ((bits_Add64.f (rd x36 x38) 0 x7).bind fun bt242 => (if x38 < (x6.length : Int) then (nat_Add.l0 k x0 x1 (x6.set (x38 : Int).toNat bt242.1) bt242.2 x36 x37 (wrap64 (x38 + 1))) else (none)))) else (none)) else (none)) else (if 0 ≤ (x0.length : Int) then (if (x0.length : Int) < (x6.length : Int) then ((nat_cut.f k (x6.set ((x0.length : Int) : Int).toNat x7)).bind fun bt246 => (some (bt246.1, bt246.2))) else (none)) else (none))
end
def nat_Add.f (k : Nat) (l0 : List Int) (l1 : List Int) : Option (List Int × Int) := (nat_big.f k l0).bind fun t220 => (if t220 = true then (nat_Add.j0 k l0 l1 true) else ((nat_big.f k l1).bind fun t221 => (nat_Add.j0 k l0 l1 t221)))
theorem nat_Add.mono_l : ∀ k, (∀ y0 y1 y2, LeO (nat_Add.j0 k y0 y1 y2) (nat_Add.j0 (k + 1) y0 y1 y2)) ∧ (∀ y0 y1, LeO (nat_Add.j1 k y0 y1) (nat_Add.j1 (k + 1) y0 y1)) ∧ (∀ y0 y1 y2 y3 y4 y5 y6, LeO (nat_Add.l0 k y0 y1 y2 y3 y4 y5 y6) (nat_Add.l0 (k + 1) y0 y1 y2 y3 y4 y5 y6))
 | 0 => ⟨fun _ _ _ r h => by simp [nat_Add.j0] at h, fun _ _ r h => by simp [nat_Add.j1] at h, fun _ _ _ _ _ _ _ r h => by simp [nat_Add.l0] at h⟩
 | k + 1 => by
  obtain ⟨ih0, ih1, ih2⟩ := nat_Add.mono_l k
  refine ⟨?_, ?_, ?_⟩
  ·intro y0 y1 y2
   unfold nat_Add.j0
   repeat' first
   | (with_reducible exact ih0 _ _ _)
   | (with_reducible exact ih1 _ _)
   | (with_reducible exact ih2 _ _ _ _ _ _ _)
   | (with_reducible exact nat_big.mono _ _)
   | (with_reducible exact nat_cut.mono _ _)
   | (with_reducible exact nat_size.mono _ _)
   | (with_reducible exact LeO.refl _)
   | (with_reducible exact LeO.none _)
   | (with_reducible refine LeO.ite ?_ ?_)
   | (with_reducible refine LeO.bind ?_ (fun _ => ?_))
   | exact ih0 _ _ _
   | exact ih1 _ _
   | exact ih2 _ _ _ _ _ _ _
   | exact nat_big.mono _ _
   | exact nat_cut.mono _ _
   | exact nat_size.mono _ _
   | exact LeO.none _
   | refine LeO.ite ?_ ?_
   | refine LeO.bind ?_ (fun _ => ?_)
  ·intro y0 y1
   unfold nat_Add.j1
   repeat' first
   | (with_reducible exact ih0 _ _ _)
   | (with_reducible exact ih1 _ _)
   | (with_reducible exact ih2 _ _ _ _ _ _ _)
   | (with_reducible exact nat_big.mono _ _)
   | (with_reducible exact nat_cut.mono _ _)
   | (with_reducible exact nat_size.mono _ _)
   | (with_reducible exact LeO.refl _)
   | (with_reducible exact LeO.none _)
   | (with_reducible refine LeO.ite ?_ ?_)
   | (with_reducible refine LeO.bind ?_ (fun _ => ?_))
   | exact ih0 _ _ _
   | exact ih1 _ _
   | exact ih2 _ _ _ _ _ _ _
   | exact nat_big.mono _ _
   | exact nat_cut.mono _ _
   | exact nat_size.mono _ _
   | exact LeO.none _
   | refine LeO.ite ?_ ?_
   | refine LeO.bind ?_ (fun _ => ?_)
  ·intro y0 y1 y2 y3 y4 y5 y6
   unfold nat_Add.l0
   repeat' first
   | (with_reducible exact ih0 _ _ _)
   | (with_reducible exact ih1 _ _)
   | (with_reducible exact ih2 _ _ _ _ _ _ _)
   | (with_reducible exact nat_big.mono _ _)
   | (with_reducible exact nat_cut.mono _ _)
   | (with_reducible exact nat_size.mono _ _)
   | (with_reducible exact LeO.refl _)
   | (with_reducible exact LeO.none _)
   | (with_reducible refine LeO.ite ?_ ?_)
   | (with_reducible refine LeO.bind ?_ (fun _ => ?_))
   | exact ih0 _ _ _
   | exact ih1 _ _
   | exact ih2 _ _ _ _ _ _ _
   | exact nat_big.mono _ _
   | exact nat_cut.mono _ _
   | exact nat_size.mono _ _
   | exact LeO.none _
   | refine LeO.ite ?_ ?_
   | refine LeO.bind ?_ (fun _ => ?_)
theorem nat_Add.mono : ∀ a0 a1 k, LeO (nat_Add.f k a0 a1) (nat_Add.f (k + 1) a0 a1) := by
 intro a0 a1 k
 obtain ⟨ih0, ih1, ih2⟩ := nat_Add.mono_l k
 unfold nat_Add.f
 repeat' first
   | (with_reducible exact ih0 _ _ _)
   | (with_reducible exact ih1 _ _)
   | (with_reducible exact ih2 _ _ _ _ _ _ _)
   | (with_reducible exact nat_big.mono _ _)
   | (with_reducible exact nat_cut.mono _ _)
   | (with_reducible exact nat_size.mono _ _)
   | (with_reducible exact LeO.refl _)
   | (with_reducible exact LeO.none _)
   | (with_reducible refine LeO.ite ?_ ?_)
   | (with_reducible refine LeO.bind ?_ (fun _ => ?_))
   | exact ih0 _ _ _
   | exact ih1 _ _
   | exact ih2 _ _ _ _ _ _ _
   | exact nat_big.mono _ _
   | exact nat_cut.mono _ _
   | exact nat_size.mono _ _
   | exact LeO.none _
   | refine LeO.ite ?_ ?_
   | refine LeO.bind ?_ (fun _ => ?_)
set_option maxHeartbeats 8000000 in
set_option maxRecDepth 100000 in
theorem nat_Add.calls (k : Nat) (P0_ : Nat → Prop) (A0 : Option Addr) (c0 : Nat) (l0 : List Int) (P1_ : Nat → Prop) (A1 : Option Addr) (c1 : Nat) (l1 : List Int) (r1 : List Int) (r2 : Int) (w : World) (hs0 : Kd.V (Kd.int .u64) 22 w w.heap.size (fun k_ => P0_ k_) (.slice A0 l0.length c0) l0) (hs1 : Kd.V (Kd.int .u64) 22 w w.heap.size (fun k_ => P1_ k_) (.slice A1 l1.length c1) l1) (h : nat_Add.f k l0 l1 = some (r1, r2)) :
  Calls Tryd.prog 55 #[.slice A0 l0.length c0, .slice A1 l1.length c1] w fun e w' => ∃ v0_ : Value, e = .returned (.tuple #[v0_, .int .i64 r2]) ∧ Kd.V (Kd.int .u64) 22 w' w.heap.size (fun k_ => ((P0_ k_ ∨ P1_ k_) ∨ w.heap.size ≤ k_)) v0_ r1 ∧ Below w.heap.size w w' := by
 have HO0 := Aside0.mk (show Kd.V (Kd.int .u64) 22 w w.heap.size (fun k_ => ((P0_ k_ ∨ P1_ k_) ∨ w.heap.size ≤ k_)) (.slice A0 l0.length c0) l0 from Kd.V_mono hs0 (fun k_ hk => .inl (.inl hk)))
 have HO1 := Aside0.mk (show Kd.V (Kd.int .u64) 22 w w.heap.size (fun k_ => ((P0_ k_ ∨ P1_ k_) ∨ w.heap.size ≤ k_)) (.slice A1 l1.length c1) l1 from Kd.V_mono hs1 (fun k_ hk => .inl (.inr hk)))
 have HB := Aside0.mk (Below.refl w.heap.size w)
 have H : ((nat_big.f k l0).bind fun t220 => (if t220 = true then (nat_Add.j0 k l0 l1 true) else ((nat_big.f k l1).bind fun t221 => (nat_Add.j0 k l0 l1 t221)))) = some (r1, r2) := h
 clear h
 have HC3 := Aside0.mk H
 clear H
 go_enter Tryd.func55, Tryd.ntmps55
 go_upto_region 1 with (fail)
 repeat (go_quiet (fail); go_upto_region 1 with (fail))
 go_cut [16] (fun v16 wc => ∃ (kq : Nat) (x16_2 : Bool), v16 = .bool x16_2 ∧ Aside0 (nat_Add.j0 kq l0 l1 x16_2 = some (r1, r2)) ∧ Aside0 (kq ≤ k) ∧ Aside0 (Kd.V (Kd.int .u64) 22 wc w.heap.size (fun k_ => ((P0_ k_ ∨ P1_ k_) ∨ w.heap.size ≤ k_)) (.slice A0 l0.length c0) l0) ∧ Aside0 (Kd.V (Kd.int .u64) 22 wc w.heap.size (fun k_ => ((P0_ k_ ∨ P1_ k_) ∨ w.heap.size ≤ k_)) (.slice A1 l1.length c1) l1) ∧ Aside0 (Below w.heap.size w wc))
 case first =>
  have H := HC3.out
  clear HC3
  obtain ⟨t220, A40, H⟩ := Option.bind_eq_some_iff.mp H
  have A4 := Aside0.mk A40
  clear A40
  by_cases c5 : t220 = true
  ·subst c5
   have H1 : (nat_Add.j0 k l0 l1 true) = some (r1, r2) := by rw [if_pos rfl] at H; exact H
   clear H
   have H := H1
   clear H1
   have H' := Aside0.mk H
   clear H
   go_wp2_with (first | (go_at_call 81; (with_reducible refine (nat_big.calls k _ _ l0 true _ ?side1 ?side2 A4.out).mono ?_); (case side1 => exact cS (Kd.V_reads' HO0.out).2.2); (case side2 => exact (Kd.V_reads' HO0.out).2.1); rintro e w' ⟨rfl, ⟨nd, rfl⟩⟩; (try first | exact ⟨rfl, _, dn2⟩ | exact ⟨rfl, _, dn3⟩)))
   repeat (go_quiet (first | (go_at_call 81; (with_reducible refine (nat_big.calls k _ _ l0 true _ ?side1 ?side2 A4.out).mono ?_); (case side1 => exact cS (Kd.V_reads' HO0.out).2.2); (case side2 => exact (Kd.V_reads' HO0.out).2.1); rintro e w' ⟨rfl, ⟨nd, rfl⟩⟩; (try first | exact ⟨rfl, _, dn2⟩ | exact ⟨rfl, _, dn3⟩))); try go_wp2_with (first | (go_at_call 81; (with_reducible refine (nat_big.calls k _ _ l0 true _ ?side1 ?side2 A4.out).mono ?_); (case side1 => exact cS (Kd.V_reads' HO0.out).2.2); (case side2 => exact (Kd.V_reads' HO0.out).2.1); rintro e w' ⟨rfl, ⟨nd, rfl⟩⟩; (try first | exact ⟨rfl, _, dn2⟩ | exact ⟨rfl, _, dn3⟩))))
   go_meet
   case rel => exact ⟨_, (true), (by first | rfl | (simp; done) | (simp [*]; done)), H', ⟨by first | omega | exact Nat.le_refl _⟩, ⟨vS <| HO0.out⟩, ⟨vS <| HO1.out⟩, ⟨bS HB.out⟩⟩
  ·replace c5 := Bool.eq_false_iff.mpr c5
   subst c5
   have H1 : ((nat_big.f k l1).bind fun t221 => (nat_Add.j0 k l0 l1 t221)) = some (r1, r2) := by rw [if_neg (show ¬ (false = true) by decide)] at H; exact H
   clear H
   have H := H1
   clear H1
   obtain ⟨t221, A60, H⟩ := Option.bind_eq_some_iff.mp H
   have A6 := Aside0.mk A60
   clear A60
   have H' := Aside0.mk H
   clear H
   go_wp2_with (first | (go_at_call 81; (with_reducible refine (nat_big.calls k _ _ l0 false _ ?side1 ?side2 A4.out).mono ?_); (case side1 => exact cS (Kd.V_reads' HO0.out).2.2); (case side2 => exact (Kd.V_reads' HO0.out).2.1); rintro e w' ⟨rfl, ⟨nd, rfl⟩⟩; (try first | exact ⟨rfl, _, dn2⟩ | exact ⟨rfl, _, dn3⟩)) | (go_at_call 81; (with_reducible refine (nat_big.calls k _ _ l1 t221 _ ?side1 ?side2 A6.out).mono ?_); (case side1 => exact cS (Kd.V_reads' HO1.out).2.2); (case side2 => exact (Kd.V_reads' HO1.out).2.1); rintro e w' ⟨rfl, ⟨nd, rfl⟩⟩; (try first | exact ⟨rfl, _, dn2⟩ | exact ⟨rfl, _, dn3⟩)))
   repeat (go_quiet (first | (go_at_call 81; (with_reducible refine (nat_big.calls k _ _ l0 false _ ?side1 ?side2 A4.out).mono ?_); (case side1 => exact cS (Kd.V_reads' HO0.out).2.2); (case side2 => exact (Kd.V_reads' HO0.out).2.1); rintro e w' ⟨rfl, ⟨nd, rfl⟩⟩; (try first | exact ⟨rfl, _, dn2⟩ | exact ⟨rfl, _, dn3⟩)) | (go_at_call 81; (with_reducible refine (nat_big.calls k _ _ l1 t221 _ ?side1 ?side2 A6.out).mono ?_); (case side1 => exact cS (Kd.V_reads' HO1.out).2.2); (case side2 => exact (Kd.V_reads' HO1.out).2.1); rintro e w' ⟨rfl, ⟨nd, rfl⟩⟩; (try first | exact ⟨rfl, _, dn2⟩ | exact ⟨rfl, _, dn3⟩))); try go_wp2_with (first | (go_at_call 81; (with_reducible refine (nat_big.calls k _ _ l0 false _ ?side1 ?side2 A4.out).mono ?_); (case side1 => exact cS (Kd.V_reads' HO0.out).2.2); (case side2 => exact (Kd.V_reads' HO0.out).2.1); rintro e w' ⟨rfl, ⟨nd, rfl⟩⟩; (try first | exact ⟨rfl, _, dn2⟩ | exact ⟨rfl, _, dn3⟩)) | (go_at_call 81; (with_reducible refine (nat_big.calls k _ _ l1 t221 _ ?side1 ?side2 A6.out).mono ?_); (case side1 => exact cS (Kd.V_reads' HO1.out).2.2); (case side2 => exact (Kd.V_reads' HO1.out).2.1); rintro e w' ⟨rfl, ⟨nd, rfl⟩⟩; (try first | exact ⟨rfl, _, dn2⟩ | exact ⟨rfl, _, dn3⟩))))
   go_meet
   case rel => exact ⟨_, (t221), (by first | rfl | (have e_ := Option.some.inj (A4.out.symm.trans A6.out); cases e_; rfl) | (simp; done) | (simp [*]; done)), H', ⟨by first | omega | exact Nat.le_refl _⟩, ⟨vS <| HO0.out⟩, ⟨vS <| HO1.out⟩, ⟨bS HB.out⟩⟩
 case rest =>
  clear HC3
  try clear c1
  try clear p2
  try clear c5
  obtain ⟨kq, x16_2, rfl, HA, HJ2, HO_0, HO_1, HB⟩ := hcut
  cases kq with
  | zero => exact absurd HA.out (by simp [nat_Add.j0])
  | succ kj2 =>
   have H := HA.out
   clear HA
   simp only [nat_Add.j0] at H
   by_cases c7 : x16_2 = true
   ·subst c7
    have H1 : (some (([] : List Int), 2)) = some (r1, r2) := by rw [if_pos rfl] at H; exact H
    clear H
    have H := H1
    clear H1
    simp only [Option.some.injEq, Prod.mk.injEq] at H
    obtain ⟨rfl, rfl⟩ := H
    go_wp2
    repeat (go_quiet (fail); try go_wp2)
    go_ret2
    exact ⟨.slice none 0 0, by first | rfl | (simp [errW_none, errW_some] <;> rfl) | (simp [*, errW_none, errW_some] <;> rfl), Kd.V_nil _ _ _ _ _, bS HB.out⟩
   ·replace c7 := Bool.eq_false_iff.mpr c7
    subst c7
    have H1 : ((nat_size.f kj2 l0).bind fun t222 => (if 0 ≤ t222 then (if t222 ≤ (l0.length : Int) then ((some (l0.take (t222 : Int).toNat : List Int)).bind fun y223 => ((nat_size.f kj2 l1).bind fun t228 => (if 0 ≤ t228 then (if t228 ≤ (l1.length : Int) then ((some (l1.take (t228 : Int).toNat : List Int)).bind fun y229 => (if (y223.length : Int) < (y229.length : Int) then (nat_Add.j1 kj2 y229 y223) else (nat_Add.j1 kj2 y223 y229))) else (none)) else (none)))) else (none)) else (none))) = some (r1, r2) := by rw [if_neg (show ¬ (false = true) by decide)] at H; exact H
    clear H
    have H := H1
    clear H1
    obtain ⟨t222, A80, H⟩ := Option.bind_eq_some_iff.mp H
    have A8 := Aside0.mk A80
    clear A80
    by_cases c9 : 0 ≤ t222
    ·rw [if_pos c9] at H
     have c9b0 := eq_true c9
     have c9b1 : decide (0 ≤ t222) = true := decide_eq_true c9
     clear c9
     by_cases c10 : t222 ≤ (l0.length : Int)
     ·rw [if_pos c10] at H
      have c10b0 := eq_true c10
      have c10b1 : decide (t222 ≤ (l0.length : Int)) = true := decide_eq_true c10
      clear c10
      obtain ⟨y223, hy223⟩ : ∃ y_ : List Int, y_ = (l0.take (t222 : Int).toNat) := ⟨_, rfl⟩
      replace H : ((nat_size.f kj2 l1).bind fun t228 => (if 0 ≤ t228 then (if t228 ≤ (l1.length : Int) then ((some (l1.take (t228 : Int).toNat : List Int)).bind fun y229 => (if (y223.length : Int) < (y229.length : Int) then (nat_Add.j1 kj2 y229 y223) else (nat_Add.j1 kj2 y223 y229))) else (none)) else (none))) = some (r1, r2) := by first | (rw [hy223]; with_reducible exact H) | (have H2_ := (Option.bind_some _ _).symm.trans H; rw [hy223]; with_reducible exact H2_) | (have H2_ := (Option.bind_some _ _).symm.trans H; with_reducible exact H2_) | with_reducible exact H | (rw [hy223]; exact H) | exact H
      have Ny223 := Aside0.mk hy223
      clear hy223
      obtain ⟨t228, A110, H⟩ := Option.bind_eq_some_iff.mp H
      have A11 := Aside0.mk A110
      clear A110
      by_cases c12 : 0 ≤ t228
      ·rw [if_pos c12] at H
       have c12b0 := eq_true c12
       have c12b1 : decide (0 ≤ t228) = true := decide_eq_true c12
       clear c12
       by_cases c13 : t228 ≤ (l1.length : Int)
       ·rw [if_pos c13] at H
        have c13b0 := eq_true c13
        have c13b1 : decide (t228 ≤ (l1.length : Int)) = true := decide_eq_true c13
        clear c13
        obtain ⟨y229, hy229⟩ : ∃ y_ : List Int, y_ = (l1.take (t228 : Int).toNat) := ⟨_, rfl⟩
        replace H : (if (y223.length : Int) < (y229.length : Int) then (nat_Add.j1 kj2 y229 y223) else (nat_Add.j1 kj2 y223 y229)) = some (r1, r2) := by first | (rw [hy229]; with_reducible exact H) | (have H2_ := (Option.bind_some _ _).symm.trans H; rw [hy229]; with_reducible exact H2_) | (have H2_ := (Option.bind_some _ _).symm.trans H; with_reducible exact H2_) | with_reducible exact H | (rw [hy229]; exact H) | exact H
        have Ny229 := Aside0.mk hy229
        clear hy229
        have HC14 := Aside0.mk H
        clear H
        go_upto_if 29 with (first | (go_at_call 52; (with_reducible refine (nat_size.calls kj2 _ _ l0 t222 _ ?side1 ?side2 A8.out).mono ?_); (case side1 => exact cS (Kd.V_reads' HO_0.out).2.2); (case side2 => exact (Kd.V_reads' HO_0.out).2.1); rintro e w' ⟨rfl, ⟨nd, rfl⟩⟩; (try first | exact ⟨rfl, _, dn2⟩ | exact ⟨rfl, _, dn3⟩); have q15 : (t222 : Int) ≤ ((l0.length : Int) : Int) := of_decide_eq_true (by first | (with_reducible assumption) | assumption); obtain ⟨i015, hi015, _, hsz15, _⟩ := info_parts info22; have hroom15 : l0.length ≤ c0 := (Kd.V_reads' HO_0.out).2.1; have hC15 : Kd.F (Kd.int .u64) _ _ A0 l0.length l0 := (Kd.V_at (base := w.heap.size) HO_0.out).2.2; have hcut15 := cut_to (P := Tryd.prog) 25 22 .i64 Tryd.underlying25 hi015 A0 l0.length c0 t222 (of_decide_eq_true (by first | (with_reducible assumption) | assumption)) q15 hroom15; have hr15 := Kd.F_take (m := (t222 : Int).toNat) hC15 (by omega); have hy15 : y223.length = (t222 : Int).toNat := (by rw [Ny223.out, List.length_take]; omega); rw [← Ny223.out] at hr15; rw [← hy15] at hcut15; have HO227 := Aside0.mk (show Kd.V (Kd.int .u64) 22 _ w.heap.size _ (.slice A0 y223.length c0) y223 from Kd.V_mk (by omega) hr15); have HC227 := Aside0.mk (show y223.length ≤ c0 from by omega); clear hr15 hC15 hroom15 hi015 hsz15; have KY15 := Aside0.mk hy15; clear hy15; replace q15 := eq_true q15) | (go_at_call 52; (with_reducible refine (nat_size.calls kj2 _ _ l1 t228 _ ?side1 ?side2 A11.out).mono ?_); (case side1 => exact cS (Kd.V_reads' HO_1.out).2.2); (case side2 => exact (Kd.V_reads' HO_1.out).2.1); rintro e w' ⟨rfl, ⟨nd, rfl⟩⟩; (try first | exact ⟨rfl, _, dn2⟩ | exact ⟨rfl, _, dn3⟩); have q16 : (t228 : Int) ≤ ((l1.length : Int) : Int) := of_decide_eq_true (by first | (with_reducible assumption) | assumption); obtain ⟨i016, hi016, _, hsz16, _⟩ := info_parts info22; have hroom16 : l1.length ≤ c1 := (Kd.V_reads' HO_1.out).2.1; have hC16 : Kd.F (Kd.int .u64) _ _ A1 l1.length l1 := (Kd.V_at (base := w.heap.size) HO_1.out).2.2; have hcut16 := cut_to (P := Tryd.prog) 25 22 .i64 Tryd.underlying25 hi016 A1 l1.length c1 t228 (of_decide_eq_true (by first | (with_reducible assumption) | assumption)) q16 hroom16; have hr16 := Kd.F_take (m := (t228 : Int).toNat) hC16 (by omega); have hy16 : y229.length = (t228 : Int).toNat := (by rw [Ny229.out, List.length_take]; omega); rw [← Ny229.out] at hr16; rw [← hy16] at hcut16; have HO233 := Aside0.mk (show Kd.V (Kd.int .u64) 22 _ w.heap.size _ (.slice A1 y229.length c1) y229 from Kd.V_mk (by omega) hr16); have HC233 := Aside0.mk (show y229.length ≤ c1 from by omega); clear hr16 hC16 hroom16 hi016 hsz16; have KY16 := Aside0.mk hy16; clear hy16; replace q16 := eq_true q16))
        repeat (go_quiet (first | (go_at_call 52; (with_reducible refine (nat_size.calls kj2 _ _ l0 t222 _ ?side1 ?side2 A8.out).mono ?_); (case side1 => exact cS (Kd.V_reads' HO_0.out).2.2); (case side2 => exact (Kd.V_reads' HO_0.out).2.1); rintro e w' ⟨rfl, ⟨nd, rfl⟩⟩; (try first | exact ⟨rfl, _, dn2⟩ | exact ⟨rfl, _, dn3⟩); have q15 : (t222 : Int) ≤ ((l0.length : Int) : Int) := of_decide_eq_true (by first | (with_reducible assumption) | assumption); obtain ⟨i015, hi015, _, hsz15, _⟩ := info_parts info22; have hroom15 : l0.length ≤ c0 := (Kd.V_reads' HO_0.out).2.1; have hC15 : Kd.F (Kd.int .u64) _ _ A0 l0.length l0 := (Kd.V_at (base := w.heap.size) HO_0.out).2.2; have hcut15 := cut_to (P := Tryd.prog) 25 22 .i64 Tryd.underlying25 hi015 A0 l0.length c0 t222 (of_decide_eq_true (by first | (with_reducible assumption) | assumption)) q15 hroom15; have hr15 := Kd.F_take (m := (t222 : Int).toNat) hC15 (by omega); have hy15 : y223.length = (t222 : Int).toNat := (by rw [Ny223.out, List.length_take]; omega); rw [← Ny223.out] at hr15; rw [← hy15] at hcut15; have HO227 := Aside0.mk (show Kd.V (Kd.int .u64) 22 _ w.heap.size _ (.slice A0 y223.length c0) y223 from Kd.V_mk (by omega) hr15); have HC227 := Aside0.mk (show y223.length ≤ c0 from by omega); clear hr15 hC15 hroom15 hi015 hsz15; have KY15 := Aside0.mk hy15; clear hy15; replace q15 := eq_true q15) | (go_at_call 52; (with_reducible refine (nat_size.calls kj2 _ _ l1 t228 _ ?side1 ?side2 A11.out).mono ?_); (case side1 => exact cS (Kd.V_reads' HO_1.out).2.2); (case side2 => exact (Kd.V_reads' HO_1.out).2.1); rintro e w' ⟨rfl, ⟨nd, rfl⟩⟩; (try first | exact ⟨rfl, _, dn2⟩ | exact ⟨rfl, _, dn3⟩); have q16 : (t228 : Int) ≤ ((l1.length : Int) : Int) := of_decide_eq_true (by first | (with_reducible assumption) | assumption); obtain ⟨i016, hi016, _, hsz16, _⟩ := info_parts info22; have hroom16 : l1.length ≤ c1 := (Kd.V_reads' HO_1.out).2.1; have hC16 : Kd.F (Kd.int .u64) _ _ A1 l1.length l1 := (Kd.V_at (base := w.heap.size) HO_1.out).2.2; have hcut16 := cut_to (P := Tryd.prog) 25 22 .i64 Tryd.underlying25 hi016 A1 l1.length c1 t228 (of_decide_eq_true (by first | (with_reducible assumption) | assumption)) q16 hroom16; have hr16 := Kd.F_take (m := (t228 : Int).toNat) hC16 (by omega); have hy16 : y229.length = (t228 : Int).toNat := (by rw [Ny229.out, List.length_take]; omega); rw [← Ny229.out] at hr16; rw [← hy16] at hcut16; have HO233 := Aside0.mk (show Kd.V (Kd.int .u64) 22 _ w.heap.size _ (.slice A1 y229.length c1) y229 from Kd.V_mk (by omega) hr16); have HC233 := Aside0.mk (show y229.length ≤ c1 from by omega); clear hr16 hC16 hroom16 hi016 hsz16; have KY16 := Aside0.mk hy16; clear hy16; replace q16 := eq_true q16)); go_upto_if 29 with (first | (go_at_call 52; (with_reducible refine (nat_size.calls kj2 _ _ l0 t222 _ ?side1 ?side2 A8.out).mono ?_); (case side1 => exact cS (Kd.V_reads' HO_0.out).2.2); (case side2 => exact (Kd.V_reads' HO_0.out).2.1); rintro e w' ⟨rfl, ⟨nd, rfl⟩⟩; (try first | exact ⟨rfl, _, dn2⟩ | exact ⟨rfl, _, dn3⟩); have q15 : (t222 : Int) ≤ ((l0.length : Int) : Int) := of_decide_eq_true (by first | (with_reducible assumption) | assumption); obtain ⟨i015, hi015, _, hsz15, _⟩ := info_parts info22; have hroom15 : l0.length ≤ c0 := (Kd.V_reads' HO_0.out).2.1; have hC15 : Kd.F (Kd.int .u64) _ _ A0 l0.length l0 := (Kd.V_at (base := w.heap.size) HO_0.out).2.2; have hcut15 := cut_to (P := Tryd.prog) 25 22 .i64 Tryd.underlying25 hi015 A0 l0.length c0 t222 (of_decide_eq_true (by first | (with_reducible assumption) | assumption)) q15 hroom15; have hr15 := Kd.F_take (m := (t222 : Int).toNat) hC15 (by omega); have hy15 : y223.length = (t222 : Int).toNat := (by rw [Ny223.out, List.length_take]; omega); rw [← Ny223.out] at hr15; rw [← hy15] at hcut15; have HO227 := Aside0.mk (show Kd.V (Kd.int .u64) 22 _ w.heap.size _ (.slice A0 y223.length c0) y223 from Kd.V_mk (by omega) hr15); have HC227 := Aside0.mk (show y223.length ≤ c0 from by omega); clear hr15 hC15 hroom15 hi015 hsz15; have KY15 := Aside0.mk hy15; clear hy15; replace q15 := eq_true q15) | (go_at_call 52; (with_reducible refine (nat_size.calls kj2 _ _ l1 t228 _ ?side1 ?side2 A11.out).mono ?_); (case side1 => exact cS (Kd.V_reads' HO_1.out).2.2); (case side2 => exact (Kd.V_reads' HO_1.out).2.1); rintro e w' ⟨rfl, ⟨nd, rfl⟩⟩; (try first | exact ⟨rfl, _, dn2⟩ | exact ⟨rfl, _, dn3⟩); have q16 : (t228 : Int) ≤ ((l1.length : Int) : Int) := of_decide_eq_true (by first | (with_reducible assumption) | assumption); obtain ⟨i016, hi016, _, hsz16, _⟩ := info_parts info22; have hroom16 : l1.length ≤ c1 := (Kd.V_reads' HO_1.out).2.1; have hC16 : Kd.F (Kd.int .u64) _ _ A1 l1.length l1 := (Kd.V_at (base := w.heap.size) HO_1.out).2.2; have hcut16 := cut_to (P := Tryd.prog) 25 22 .i64 Tryd.underlying25 hi016 A1 l1.length c1 t228 (of_decide_eq_true (by first | (with_reducible assumption) | assumption)) q16 hroom16; have hr16 := Kd.F_take (m := (t228 : Int).toNat) hC16 (by omega); have hy16 : y229.length = (t228 : Int).toNat := (by rw [Ny229.out, List.length_take]; omega); rw [← Ny229.out] at hr16; rw [← hy16] at hcut16; have HO233 := Aside0.mk (show Kd.V (Kd.int .u64) 22 _ w.heap.size _ (.slice A1 y229.length c1) y229 from Kd.V_mk (by omega) hr16); have HC233 := Aside0.mk (show y229.length ≤ c1 from by omega); clear hr16 hC16 hroom16 hi016 hsz16; have KY16 := Aside0.mk hy16; clear hy16; replace q16 := eq_true q16)))
        (try simp only [Act.put, List.setIfInBounds_toArray, List.set_cons_zero, List.set_cons_succ])
        go_cut [0, 1] (fun v0 v1 wc => ∃ (kq : Nat) (x0_13 : List Int) (x1_13 : List Int), Aside0 (nat_Add.j1 kq x0_13 x1_13 = some (r1, r2)) ∧ Aside0 (kq ≤ kj2) ∧ Aside0 (Kd.V (Kd.int .u64) 22 wc w.heap.size (fun k_ => ((P0_ k_ ∨ P1_ k_) ∨ w.heap.size ≤ k_)) v0 x0_13) ∧ Aside0 (Kd.V (Kd.int .u64) 22 wc w.heap.size (fun k_ => ((P0_ k_ ∨ P1_ k_) ∨ w.heap.size ≤ k_)) v1 x1_13) ∧ Aside0 (Below w.heap.size w wc))
        case first =>
         have H := HC14.out
         clear HC14
         by_cases c17 : (y223.length : Int) < (y229.length : Int)
         ·rw [if_pos c17] at H
          have c17b0 : decide ((y223.length : Int) < (y229.length : Int)) = true := decide_eq_true c17
          have c17b1 : decide (y223.length < y229.length) = true := decide_eq_true (Int.ofNat_lt.mp c17)
          clear c17
          (first | rw [c17b0] | (simp only [i64_w, i32_w]; rw [c17b0]) | rw [c17b1] | skip)
          have H' := Aside0.mk H
          clear H
          go_wp2
          repeat (go_quiet (fail); try go_wp2)
          go_meet
          case rel => exact ⟨_, (y229), (y223), H', ⟨by have := HJ2.out; first | omega | exact Nat.le_refl _⟩, ⟨vS <| HO233.out⟩, ⟨vS <| HO227.out⟩, ⟨bS HB.out⟩⟩
         ·rw [if_neg c17] at H
          have c17b0 : decide ((y223.length : Int) < (y229.length : Int)) = false := decide_eq_false c17
          have c17b1 : decide (y223.length < y229.length) = false := decide_eq_false (fun h => c17 (Int.ofNat_lt.mpr h))
          clear c17
          (first | rw [c17b0] | (simp only [i64_w, i32_w]; rw [c17b0]) | rw [c17b1] | skip)
          have H' := Aside0.mk H
          clear H
          go_wp2
          repeat (go_quiet (fail); try go_wp2)
          go_meet
          case rel => exact ⟨_, (y223), (y229), H', ⟨by have := HJ2.out; first | omega | exact Nat.le_refl _⟩, ⟨vS <| HO227.out⟩, ⟨vS <| HO233.out⟩, ⟨bS HB.out⟩⟩
        case rest =>
         clear HC14
         try clear c1
         try clear q1
         try clear p2
         try clear c5
         try clear c7
         try clear c9
         try clear c9b0
         try clear c9b1
         try clear c10
         try clear c10b0
         try clear c10b1
         try clear c12
         try clear c12b0
         try clear c12b1
         try clear c13
         try clear c13b0
         try clear c13b1
         try clear q15
         try clear q16
         try clear c17
         try clear c17b0
         try clear c17b1
         try clear p2
         try clear q15
         try clear q16
         obtain ⟨kq, x0_13, x1_13, HA, HJ13, HO_0, HO_1, HB⟩ := hcut
         cases kq with
         | zero => exact absurd HA.out (by simp [nat_Add.j1])
         | succ kj13 =>
          have H := HA.out
          clear HA
          simp only [nat_Add.j1] at H
          obtain ⟨ji18, hji18⟩ : ∃ j_ : Int, (wrap64 ((x0_13.length : Int) + 1)) = j_ := ⟨_, rfl⟩
          replace H : (if 0 ≤ (ji18) then (if (ji18 : Int).toNat ≤ 35184372088832 then (nat_Add.l0 kj13 x0_13 x1_13 (List.replicate (ji18 : Int).toNat 0) 0 x0_13 (x0_13.length : Int) 0) else (none)) else (none)) = some (r1, r2) := by first | (rw [hji18] at H; exact H) | (simp only [hji18] at H ⊢; exact H)
          have hji18w : (IntKind.i64.wrap ((x0_13.length : Int) + 1)) = ji18 := (i64_w _).trans hji18
          by_cases c19 : 0 ≤ (ji18)
          ·rw [if_pos c19] at H
           have c19b0 := eq_true c19
           have c19b1 : decide (0 ≤ (ji18)) = true := decide_eq_true c19
           clear c19
           by_cases c20 : (ji18 : Int).toNat ≤ 35184372088832
           ·rw [if_pos c20] at H
            have c20b0 := eq_true c20
            have c20b1 : decide ((ji18 : Int).toNat ≤ 35184372088832) = true := decide_eq_true c20
            clear c20
            obtain ⟨y234, hy234⟩ : ∃ y_ : List Int, y_ = (List.replicate (ji18 : Int).toNat 0) := ⟨_, rfl⟩
            replace H : (nat_Add.l0 kj13 x0_13 x1_13 y234 0 x0_13 (x0_13.length : Int) 0) = some (r1, r2) := by first | (rw [hy234]; with_reducible exact H) | (have H2_ := (Option.bind_some _ _).symm.trans H; rw [hy234]; with_reducible exact H2_) | (have H2_ := (Option.bind_some _ _).symm.trans H; with_reducible exact H2_) | with_reducible exact H | (rw [hy234]; exact H) | exact H
            have Ny234 := Aside0.mk hy234
            clear hy234
            have H' := Aside0.mk H
            clear H
            obtain ⟨Ao21, co21, eo21⟩ := Kd.V_slice HO_0.out
            subst eo21
            go_wp2_with (first | ((with_reducible refine gate_dst (N := 35) rfl ?_); refine Kd.R_make (Kd.int .u64) _ 22 rfl (N := 35) rfl 25 _ _ rfl ji18 rfl rfl Tryd.underlying25 (.int .u64 0) 8 info22 rfl (by decide) (by omega) 0 (ok := fun _ => True) (okp := fun _ => True) rfl (fun _ hk => hk) trivial (of_decide_eq_true (by first | (with_reducible assumption) | assumption)) (Nat.le_trans (Nat.mul_le_mul_right _ (of_decide_eq_true (by first | (with_reducible assumption) | assumption) : ji18.toNat ≤ 35184372088832)) (by omega)) (Below.refl _ _) (Nat.le_refl _) ?_; intro v235 w22 ho23 hb hg_ hnew_; clear hg_ hnew_; (first | rw [← Ny234.out] at ho23 | (simp only [Int.reduceToNat] at ho23; rw [← Ny234.out] at ho23)); replace HO_0 := Aside0.mk (Kd.V_elder' (vS <| HO_0.out) (Kd.R_base ho23) hb); replace HO_1 := Aside0.mk (Kd.V_elder' (vS <| HO_1.out) (Kd.R_base ho23) hb); have HO236 := Aside0.mk (Kd.R_lower (Kd.R_newM (M := fun k_ => (w.heap.size ≤ k_)) ho23 (below_size (bS HB.out)) (fun k_ h_ => h_)) (below_size (bS HB.out))); replace HB := hB HB hb; clear hb ho23))
            repeat (go_quiet (first | ((with_reducible refine gate_dst (N := 35) rfl ?_); refine Kd.R_make (Kd.int .u64) _ 22 rfl (N := 35) rfl 25 _ _ rfl ji18 rfl rfl Tryd.underlying25 (.int .u64 0) 8 info22 rfl (by decide) (by omega) 0 (ok := fun _ => True) (okp := fun _ => True) rfl (fun _ hk => hk) trivial (of_decide_eq_true (by first | (with_reducible assumption) | assumption)) (Nat.le_trans (Nat.mul_le_mul_right _ (of_decide_eq_true (by first | (with_reducible assumption) | assumption) : ji18.toNat ≤ 35184372088832)) (by omega)) (Below.refl _ _) (Nat.le_refl _) ?_; intro v235 w22 ho23 hb hg_ hnew_; clear hg_ hnew_; (first | rw [← Ny234.out] at ho23 | (simp only [Int.reduceToNat] at ho23; rw [← Ny234.out] at ho23)); replace HO_0 := Aside0.mk (Kd.V_elder' (vS <| HO_0.out) (Kd.R_base ho23) hb); replace HO_1 := Aside0.mk (Kd.V_elder' (vS <| HO_1.out) (Kd.R_base ho23) hb); have HO236 := Aside0.mk (Kd.R_lower (Kd.R_newM (M := fun k_ => (w.heap.size ≤ k_)) ho23 (below_size (bS HB.out)) (fun k_ h_ => h_)) (below_size (bS HB.out))); replace HB := hB HB hb; clear hb ho23)); try go_wp2_with (first | ((with_reducible refine gate_dst (N := 35) rfl ?_); refine Kd.R_make (Kd.int .u64) _ 22 rfl (N := 35) rfl 25 _ _ rfl ji18 rfl rfl Tryd.underlying25 (.int .u64 0) 8 info22 rfl (by decide) (by omega) 0 (ok := fun _ => True) (okp := fun _ => True) rfl (fun _ hk => hk) trivial (of_decide_eq_true (by first | (with_reducible assumption) | assumption)) (Nat.le_trans (Nat.mul_le_mul_right _ (of_decide_eq_true (by first | (with_reducible assumption) | assumption) : ji18.toNat ≤ 35184372088832)) (by omega)) (Below.refl _ _) (Nat.le_refl _) ?_; intro v235 w22 ho23 hb hg_ hnew_; clear hg_ hnew_; (first | rw [← Ny234.out] at ho23 | (simp only [Int.reduceToNat] at ho23; rw [← Ny234.out] at ho23)); replace HO_0 := Aside0.mk (Kd.V_elder' (vS <| HO_0.out) (Kd.R_base ho23) hb); replace HO_1 := Aside0.mk (Kd.V_elder' (vS <| HO_1.out) (Kd.R_base ho23) hb); have HO236 := Aside0.mk (Kd.R_lower (Kd.R_newM (M := fun k_ => (w.heap.size ≤ k_)) ho23 (below_size (bS HB.out)) (fun k_ h_ => h_)) (below_size (bS HB.out))); replace HB := hB HB hb; clear hb ho23)))
            go_loopg [7, 38] kj13 (fun kq v7 v38 w' => ∃ (x6_3 : List Int) (x7_3 : Int) (x38_3 : Int), v7 = .int .u64 x7_3 ∧ v38 = .int .i64 x38_3 ∧ Aside0 (nat_Add.l0 kq x0_13 x1_13 x6_3 x7_3 x0_13 (x0_13.length : Int) x38_3 = some (r1, r2)) ∧ Aside0 (kq ≤ kj13) ∧ Aside0 (Kd.V (Kd.int .u64) 22 w' w.heap.size (fun k_ => ((P0_ k_ ∨ P1_ k_) ∨ w.heap.size ≤ k_) ∧ some k_ ≠ (v235 : Value).ownBlock) (.slice Ao21 x0_13.length co21) x0_13) ∧ Aside0 (Kd.V (Kd.int .u64) 22 w' w.heap.size (fun k_ => ((P0_ k_ ∨ P1_ k_) ∨ w.heap.size ≤ k_) ∧ some k_ ≠ (v235 : Value).ownBlock) u1 x1_13) ∧ Aside0 (Kd.R (Kd.int .u64) 22 w' w.heap.size (fun k_ => (w.heap.size ≤ k_)) v235 x6_3) ∧ Aside0 (Kd.V (Kd.int .u64) 22 w' w.heap.size (fun k_ => ((P0_ k_ ∨ P1_ k_) ∨ w.heap.size ≤ k_) ∧ some k_ ≠ (v235 : Value).ownBlock) (.slice Ao21 x0_13.length co21) x0_13) ∧ Aside0 (Below w.heap.size w w'))
            case atStart => exact ⟨(y234), (0), (0), (by first | rfl | (simp; done) | (simp [*]; done)), (by first | rfl | (simp; done) | (simp [*]; done)), H', ⟨Nat.le_refl _⟩, ⟨vS <| HO_0.out⟩, ⟨vS <| HO_1.out⟩, ⟨rS <| Kd.R_mono HO236.out (fun _ hk => hk.1)⟩, ⟨vS <| HO_0.out⟩, ⟨bS HB.out⟩⟩
            case round =>
             clear H'
             try clear c1
             try clear q1
             try clear c2
             try clear p2
             try clear c5
             try clear p6
             try clear c7
             try clear c9
             try clear c9b0
             try clear c9b1
             try clear c10
             try clear c10b0
             try clear c10b1
             try clear c12
             try clear c12b0
             try clear c12b1
             try clear c13
             try clear c13b0
             try clear c13b1
             try clear q15
             try clear q16
             try clear c17
             try clear c17b0
             try clear c17b1
             try clear c19
             try clear c19b0
             try clear c19b1
             try clear c20
             try clear c20b0
             try clear c20b1
             try clear p2
             try clear q1
             try clear q15
             try clear q16
             obtain ⟨x6_3, x7_3, x38_3, rfl, rfl, HA, HK3, HO_0, HO_1, HO_6, HO_36, HB⟩ := hrel
             cases gk with
             | zero => exact absurd HA.out (by simp [nat_Add.l0])
             | succ k3 =>
              have H := HA.out
              clear HA
              simp only [nat_Add.l0] at H
              by_cases c24 : x38_3 < (x0_13.length : Int)
              ·rw [if_pos c24] at H
               have c24b0 : decide (x38_3 < (x0_13.length : Int)) = true := decide_eq_true c24
               clear c24
               by_cases c25 : 0 ≤ x38_3
               ·rw [if_pos c25] at H
                have c25b0 : decide (0 ≤ x38_3) = true := decide_eq_true c25
                clear c25
                by_cases c26 : x38_3 < (x0_13.length : Int)
                ·rw [if_pos c26] at H
                 have c26b0 : decide (x38_3 < (x0_13.length : Int)) = true := decide_eq_true c26
                 clear c26
                 by_cases c27 : x38_3 < (x1_13.length : Int)
                 ·rw [if_pos c27] at H
                  have c27b0 : decide (x38_3 < (x1_13.length : Int)) = true := decide_eq_true c27
                  clear c27
                  replace H := Option.bind_eq_some_iff.mp H
                  obtain ⟨⟨t239, t240⟩, A280, H⟩ := H
                  replace H : (if x38_3 < (x6_3.length : Int) then (nat_Add.l0 k3 x0_13 x1_13 (x6_3.set (x38_3 : Int).toNat t239) t240 x0_13 (x0_13.length : Int) (wrap64 (x38_3 + 1))) else (none)) = some (r1, r2) := H
                  have A28 := Aside0.mk A280
                  clear A280
                  by_cases c29 : x38_3 < (x6_3.length : Int)
                  ·rw [if_pos c29] at H
                   have c29b0 : decide (x38_3 < (x6_3.length : Int)) = true := decide_eq_true c29
                   clear c29
                   obtain ⟨y241, hy241⟩ : ∃ y_ : List Int, y_ = (x6_3.set (x38_3 : Int).toNat t239) := ⟨_, rfl⟩
                   replace H : (nat_Add.l0 k3 x0_13 x1_13 y241 t240 x0_13 (x0_13.length : Int) (wrap64 (x38_3 + 1))) = some (r1, r2) := by first | (rw [hy241]; with_reducible exact H) | (have H2_ := (Option.bind_some _ _).symm.trans H; rw [hy241]; with_reducible exact H2_) | (have H2_ := (Option.bind_some _ _).symm.trans H; with_reducible exact H2_) | with_reducible exact H | (rw [hy241]; exact H) | exact H
                   have Ny241 := Aside0.mk hy241
                   clear hy241
                   have H' := Aside0.mk H
                   clear H
                   have p237 : 0 ≤ (x38_3 : Int) := of_decide_eq_true (by first | (with_reducible assumption) | assumption)
                   have q237 : x38_3 < (x0_13.length : Int) := of_decide_eq_true (by first | (with_reducible assumption) | assumption)
                   obtain ⟨ad237, e237, hx237_0⟩ := Kd.at_int (Kd.V_reads' HO_36.out).2.2 x38_3 p237 q237
                   cases e237
                   replace p237 := eq_true p237
                   replace q237 := eq_true q237
                   obtain ⟨Ao31, co31, eo31⟩ := Kd.V_slice HO_1.out
                   subst eo31
                   have p238 : 0 ≤ (x38_3 : Int) := of_decide_eq_true (by first | (with_reducible assumption) | assumption)
                   have q238 : x38_3 < (x1_13.length : Int) := of_decide_eq_true (by first | (with_reducible assumption) | assumption)
                   obtain ⟨ad238, e238, hx238_0⟩ := Kd.at_int (Kd.V_reads' HO_1.out).2.2 x38_3 p238 q238
                   cases e238
                   replace p238 := eq_true p238
                   replace q238 := eq_true q238
                   go_wp2_with (first | ((with_reducible refine gate_callee (f := 83) rfl ?_); refine goesX_ (some 57) rfl rfl Tryd.func83 (by kernel_rfl) rfl #[.int .u64 (rd x0_13 x38_3), .int .u64 (rd x1_13 x38_3), .int .u64 x7_3] rfl (by (try simp only [List.map_toArray, List.map_cons, List.map_nil]); first | done | rfl) ?_; (with_reducible refine (bits_Add64.calls (rd x0_13 x38_3) (rd x1_13 x38_3) x7_3 t239 t240 _ A28.out).mono ?_); rintro e w' ⟨rfl, rfl⟩; refine ⟨_, rfl, ?_⟩; have p30 : 0 ≤ (x38_3 : Int) := of_decide_eq_true (by first | (with_reducible assumption) | assumption); have q30 : (x38_3 : Int) < ((x6_3.length : Int) : Int) := of_decide_eq_true (by first | (with_reducible assumption) | assumption); obtain ⟨go30, co30, eo30, gb30, gl30, cl30, HG30⟩ := Kd.R_form HO_6.out (by omega); (first | cases eo30 | (injection eo30 with ea_ en_ ec_; (first | subst ea_ | (injection ea_ with ea_; subst ea_)); subst ec_; clear en_)); have GB30 := Aside0.mk gb30; have GG30 := Aside0.mk HG30; clear gb30 gl30 HG30; obtain ⟨hx30_0, hf30_0⟩ := Kd.R_celln 0 HO_6.out (x38_3 : Int) p30 q30; replace p30 := eq_true p30; replace q30 := eq_true q30; obtain ⟨hy32_, hz32_⟩ := Kd.R_celln 0 HO_6.out (x38_3 : Int) (of_decide_eq_true (by first | (with_reducible assumption) | assumption)) (of_decide_eq_true (by first | (with_reducible assumption) | assumption)); have HP32 := Kd.R_putg HO_6.out (x38_3 : Int) t239) | ((with_reducible refine gate_store (t := 22) (p := 60) rfl ?_); (try (rw [drewN_self wr]; generalize hq_ : World.drewN wr _ = wr; have n0_ := Aside0.mk (Kd.V_at hq_ HO_0.out); have n1_ := Aside0.mk (Kd.V_at hq_ HO_1.out); have n2_ := Aside0.mk (Kd.R_at hq_ HO_6.out); have n3_ := Aside0.mk (Kd.V_at hq_ HO_36.out); have n4_ := Aside0.mk (below_at hq_ HB.out); clear hq_ HO_0 HO_1 HO_6 HO_36 HB; have HO_0 := n0_; have HO_1 := n1_; have HO_6 := n2_; have HO_36 := n3_; have HB := n4_; clear n0_ n1_ n2_ n3_ n4_; (try (obtain ⟨hy32_, hz32_⟩ := Kd.R_celln 0 HO_6.out (x38_3 : Int) (of_decide_eq_true (by first | (with_reducible assumption) | assumption)) (of_decide_eq_true (by first | (with_reducible assumption) | assumption)))); (try (have HP32 := Kd.R_putg HO_6.out (x38_3 : Int) t239)))); refine store_event (t := 22) (p := 60) (v := ?vo_w33) (w1 := (wr.setCell ⟨go30, (x38_3 : Int).toNat, none⟩ (.int .u64 t239))) ?hg ?ho ?hn ?hr ?_; (case ho => rfl); (case hg => rfl); (case hn => rfl); (case hr => first | (go_simp; done) | (go_simp; rfl)); intro w33 hw; have hg : wr.grownBy w33 (some go30) := (by rw [hw]; exact HP32.2); have hp_ : Kd.R (Kd.int .u64) 22 w33 w.heap.size (fun k_ => (w.heap.size ≤ k_)) (.slice (some ⟨go30, 0, none⟩) x6_3.length co30) y241 := (by rw [hw, Ny241.out]; exact HP32.1); clear HP32; replace HO_0 := Aside0.mk (Kd.V_afterv (v := (.slice (some ⟨go30, 0, none⟩) x6_3.length co30)) (v1 := (.slice (some ⟨go30, 0, none⟩) x6_3.length co30)) (ok := (fun k_ => ((P0_ k_ ∨ P1_ k_) ∨ w.heap.size ≤ k_))) (vS <| HO_0.out) hg (.inl rfl)); replace HO_1 := Aside0.mk (Kd.V_afterv (v := (.slice (some ⟨go30, 0, none⟩) x6_3.length co30)) (v1 := (.slice (some ⟨go30, 0, none⟩) x6_3.length co30)) (ok := (fun k_ => ((P0_ k_ ∨ P1_ k_) ∨ w.heap.size ≤ k_))) (vS <| HO_1.out) hg (.inl rfl)); replace HO_6 := Aside0.mk (hp_); replace HO_36 := Aside0.mk (Kd.V_afterv (v := (.slice (some ⟨go30, 0, none⟩) x6_3.length co30)) (v1 := (.slice (some ⟨go30, 0, none⟩) x6_3.length co30)) (ok := (fun k_ => ((P0_ k_ ∨ P1_ k_) ∨ w.heap.size ≤ k_))) (vS <| HO_36.out) hg (.inl rfl)); replace HB := Aside0.mk ((by rw [hw]; exact below_set (HB.out) GB30.out : Below w.heap.size w w33)); clear hg hw hp_))
                   repeat (go_quiet (first | ((with_reducible refine gate_callee (f := 83) rfl ?_); refine goesX_ (some 57) rfl rfl Tryd.func83 (by kernel_rfl) rfl #[.int .u64 (rd x0_13 x38_3), .int .u64 (rd x1_13 x38_3), .int .u64 x7_3] rfl (by (try simp only [List.map_toArray, List.map_cons, List.map_nil]); first | done | rfl) ?_; (with_reducible refine (bits_Add64.calls (rd x0_13 x38_3) (rd x1_13 x38_3) x7_3 t239 t240 _ A28.out).mono ?_); rintro e w' ⟨rfl, rfl⟩; refine ⟨_, rfl, ?_⟩; have p30 : 0 ≤ (x38_3 : Int) := of_decide_eq_true (by first | (with_reducible assumption) | assumption); have q30 : (x38_3 : Int) < ((x6_3.length : Int) : Int) := of_decide_eq_true (by first | (with_reducible assumption) | assumption); obtain ⟨go30, co30, eo30, gb30, gl30, cl30, HG30⟩ := Kd.R_form HO_6.out (by omega); (first | cases eo30 | (injection eo30 with ea_ en_ ec_; (first | subst ea_ | (injection ea_ with ea_; subst ea_)); subst ec_; clear en_)); have GB30 := Aside0.mk gb30; have GG30 := Aside0.mk HG30; clear gb30 gl30 HG30; obtain ⟨hx30_0, hf30_0⟩ := Kd.R_celln 0 HO_6.out (x38_3 : Int) p30 q30; replace p30 := eq_true p30; replace q30 := eq_true q30; obtain ⟨hy32_, hz32_⟩ := Kd.R_celln 0 HO_6.out (x38_3 : Int) (of_decide_eq_true (by first | (with_reducible assumption) | assumption)) (of_decide_eq_true (by first | (with_reducible assumption) | assumption)); have HP32 := Kd.R_putg HO_6.out (x38_3 : Int) t239) | ((with_reducible refine gate_store (t := 22) (p := 60) rfl ?_); (try (rw [drewN_self wr]; generalize hq_ : World.drewN wr _ = wr; have n0_ := Aside0.mk (Kd.V_at hq_ HO_0.out); have n1_ := Aside0.mk (Kd.V_at hq_ HO_1.out); have n2_ := Aside0.mk (Kd.R_at hq_ HO_6.out); have n3_ := Aside0.mk (Kd.V_at hq_ HO_36.out); have n4_ := Aside0.mk (below_at hq_ HB.out); clear hq_ HO_0 HO_1 HO_6 HO_36 HB; have HO_0 := n0_; have HO_1 := n1_; have HO_6 := n2_; have HO_36 := n3_; have HB := n4_; clear n0_ n1_ n2_ n3_ n4_; (try (obtain ⟨hy32_, hz32_⟩ := Kd.R_celln 0 HO_6.out (x38_3 : Int) (of_decide_eq_true (by first | (with_reducible assumption) | assumption)) (of_decide_eq_true (by first | (with_reducible assumption) | assumption)))); (try (have HP32 := Kd.R_putg HO_6.out (x38_3 : Int) t239)))); refine store_event (t := 22) (p := 60) (v := ?vo_w33) (w1 := (wr.setCell ⟨go30, (x38_3 : Int).toNat, none⟩ (.int .u64 t239))) ?hg ?ho ?hn ?hr ?_; (case ho => rfl); (case hg => rfl); (case hn => rfl); (case hr => first | (go_simp; done) | (go_simp; rfl)); intro w33 hw; have hg : wr.grownBy w33 (some go30) := (by rw [hw]; exact HP32.2); have hp_ : Kd.R (Kd.int .u64) 22 w33 w.heap.size (fun k_ => (w.heap.size ≤ k_)) (.slice (some ⟨go30, 0, none⟩) x6_3.length co30) y241 := (by rw [hw, Ny241.out]; exact HP32.1); clear HP32; replace HO_0 := Aside0.mk (Kd.V_afterv (v := (.slice (some ⟨go30, 0, none⟩) x6_3.length co30)) (v1 := (.slice (some ⟨go30, 0, none⟩) x6_3.length co30)) (ok := (fun k_ => ((P0_ k_ ∨ P1_ k_) ∨ w.heap.size ≤ k_))) (vS <| HO_0.out) hg (.inl rfl)); replace HO_1 := Aside0.mk (Kd.V_afterv (v := (.slice (some ⟨go30, 0, none⟩) x6_3.length co30)) (v1 := (.slice (some ⟨go30, 0, none⟩) x6_3.length co30)) (ok := (fun k_ => ((P0_ k_ ∨ P1_ k_) ∨ w.heap.size ≤ k_))) (vS <| HO_1.out) hg (.inl rfl)); replace HO_6 := Aside0.mk (hp_); replace HO_36 := Aside0.mk (Kd.V_afterv (v := (.slice (some ⟨go30, 0, none⟩) x6_3.length co30)) (v1 := (.slice (some ⟨go30, 0, none⟩) x6_3.length co30)) (ok := (fun k_ => ((P0_ k_ ∨ P1_ k_) ∨ w.heap.size ≤ k_))) (vS <| HO_36.out) hg (.inl rfl)); replace HB := Aside0.mk ((by rw [hw]; exact below_set (HB.out) GB30.out : Below w.heap.size w w33)); clear hg hw hp_)); try go_wp2_with (first | ((with_reducible refine gate_callee (f := 83) rfl ?_); refine goesX_ (some 57) rfl rfl Tryd.func83 (by kernel_rfl) rfl #[.int .u64 (rd x0_13 x38_3), .int .u64 (rd x1_13 x38_3), .int .u64 x7_3] rfl (by (try simp only [List.map_toArray, List.map_cons, List.map_nil]); first | done | rfl) ?_; (with_reducible refine (bits_Add64.calls (rd x0_13 x38_3) (rd x1_13 x38_3) x7_3 t239 t240 _ A28.out).mono ?_); rintro e w' ⟨rfl, rfl⟩; refine ⟨_, rfl, ?_⟩; have p30 : 0 ≤ (x38_3 : Int) := of_decide_eq_true (by first | (with_reducible assumption) | assumption); have q30 : (x38_3 : Int) < ((x6_3.length : Int) : Int) := of_decide_eq_true (by first | (with_reducible assumption) | assumption); obtain ⟨go30, co30, eo30, gb30, gl30, cl30, HG30⟩ := Kd.R_form HO_6.out (by omega); (first | cases eo30 | (injection eo30 with ea_ en_ ec_; (first | subst ea_ | (injection ea_ with ea_; subst ea_)); subst ec_; clear en_)); have GB30 := Aside0.mk gb30; have GG30 := Aside0.mk HG30; clear gb30 gl30 HG30; obtain ⟨hx30_0, hf30_0⟩ := Kd.R_celln 0 HO_6.out (x38_3 : Int) p30 q30; replace p30 := eq_true p30; replace q30 := eq_true q30; obtain ⟨hy32_, hz32_⟩ := Kd.R_celln 0 HO_6.out (x38_3 : Int) (of_decide_eq_true (by first | (with_reducible assumption) | assumption)) (of_decide_eq_true (by first | (with_reducible assumption) | assumption)); have HP32 := Kd.R_putg HO_6.out (x38_3 : Int) t239) | ((with_reducible refine gate_store (t := 22) (p := 60) rfl ?_); (try (rw [drewN_self wr]; generalize hq_ : World.drewN wr _ = wr; have n0_ := Aside0.mk (Kd.V_at hq_ HO_0.out); have n1_ := Aside0.mk (Kd.V_at hq_ HO_1.out); have n2_ := Aside0.mk (Kd.R_at hq_ HO_6.out); have n3_ := Aside0.mk (Kd.V_at hq_ HO_36.out); have n4_ := Aside0.mk (below_at hq_ HB.out); clear hq_ HO_0 HO_1 HO_6 HO_36 HB; have HO_0 := n0_; have HO_1 := n1_; have HO_6 := n2_; have HO_36 := n3_; have HB := n4_; clear n0_ n1_ n2_ n3_ n4_; (try (obtain ⟨hy32_, hz32_⟩ := Kd.R_celln 0 HO_6.out (x38_3 : Int) (of_decide_eq_true (by first | (with_reducible assumption) | assumption)) (of_decide_eq_true (by first | (with_reducible assumption) | assumption)))); (try (have HP32 := Kd.R_putg HO_6.out (x38_3 : Int) t239)))); refine store_event (t := 22) (p := 60) (v := ?vo_w33) (w1 := (wr.setCell ⟨go30, (x38_3 : Int).toNat, none⟩ (.int .u64 t239))) ?hg ?ho ?hn ?hr ?_; (case ho => rfl); (case hg => rfl); (case hn => rfl); (case hr => first | (go_simp; done) | (go_simp; rfl)); intro w33 hw; have hg : wr.grownBy w33 (some go30) := (by rw [hw]; exact HP32.2); have hp_ : Kd.R (Kd.int .u64) 22 w33 w.heap.size (fun k_ => (w.heap.size ≤ k_)) (.slice (some ⟨go30, 0, none⟩) x6_3.length co30) y241 := (by rw [hw, Ny241.out]; exact HP32.1); clear HP32; replace HO_0 := Aside0.mk (Kd.V_afterv (v := (.slice (some ⟨go30, 0, none⟩) x6_3.length co30)) (v1 := (.slice (some ⟨go30, 0, none⟩) x6_3.length co30)) (ok := (fun k_ => ((P0_ k_ ∨ P1_ k_) ∨ w.heap.size ≤ k_))) (vS <| HO_0.out) hg (.inl rfl)); replace HO_1 := Aside0.mk (Kd.V_afterv (v := (.slice (some ⟨go30, 0, none⟩) x6_3.length co30)) (v1 := (.slice (some ⟨go30, 0, none⟩) x6_3.length co30)) (ok := (fun k_ => ((P0_ k_ ∨ P1_ k_) ∨ w.heap.size ≤ k_))) (vS <| HO_1.out) hg (.inl rfl)); replace HO_6 := Aside0.mk (hp_); replace HO_36 := Aside0.mk (Kd.V_afterv (v := (.slice (some ⟨go30, 0, none⟩) x6_3.length co30)) (v1 := (.slice (some ⟨go30, 0, none⟩) x6_3.length co30)) (ok := (fun k_ => ((P0_ k_ ∨ P1_ k_) ∨ w.heap.size ≤ k_))) (vS <| HO_36.out) hg (.inl rfl)); replace HB := Aside0.mk ((by rw [hw]; exact below_set (HB.out) GB30.out : Below w.heap.size w w33)); clear hg hw hp_)))
                   go_roundg k3
                   case measure => have := HJ2.out; have := HJ13.out; have := HK3.out; omega
                   case rel => exact ⟨(y241), (t240), (wrap64 (x38_3 + 1)), (by first | rfl | (have e_ := Option.some.inj (A8.out.symm.trans A11.out); cases e_; rfl) | (simp; done) | (simp [*]; done)), (by first | rfl | (have e_ := Option.some.inj (A8.out.symm.trans A11.out); cases e_; rfl) | (simp; done) | (simp [*]; done)), H', ⟨by have := HJ2.out; have := HJ13.out; have := HK3.out; omega⟩, ⟨vS <| HO_0.out⟩, ⟨vS <| HO_1.out⟩, ⟨rS <| HO_6.out⟩, ⟨vS <| HO_36.out⟩, ⟨bS HB.out⟩⟩
                  ·rw [if_neg c29] at H
                   exact absurd H (by simp)
                 ·rw [if_neg c27] at H
                  have c27b0 : decide (x38_3 < (x1_13.length : Int)) = false := decide_eq_false c27
                  clear c27
                  replace H := Option.bind_eq_some_iff.mp H
                  obtain ⟨⟨t242, t243⟩, A340, H⟩ := H
                  replace H : (if x38_3 < (x6_3.length : Int) then (nat_Add.l0 k3 x0_13 x1_13 (x6_3.set (x38_3 : Int).toNat t242) t243 x0_13 (x0_13.length : Int) (wrap64 (x38_3 + 1))) else (none)) = some (r1, r2) := H
                  have A34 := Aside0.mk A340
                  clear A340
                  by_cases c35 : x38_3 < (x6_3.length : Int)
                  ·rw [if_pos c35] at H
                   have c35b0 : decide (x38_3 < (x6_3.length : Int)) = true := decide_eq_true c35
                   clear c35
                   obtain ⟨y244, hy244⟩ : ∃ y_ : List Int, y_ = (x6_3.set (x38_3 : Int).toNat t242) := ⟨_, rfl⟩
                   replace H : (nat_Add.l0 k3 x0_13 x1_13 y244 t243 x0_13 (x0_13.length : Int) (wrap64 (x38_3 + 1))) = some (r1, r2) := by first | (rw [hy244]; with_reducible exact H) | (have H2_ := (Option.bind_some _ _).symm.trans H; rw [hy244]; with_reducible exact H2_) | (have H2_ := (Option.bind_some _ _).symm.trans H; with_reducible exact H2_) | with_reducible exact H | (rw [hy244]; exact H) | exact H
                   have Ny244 := Aside0.mk hy244
                   clear hy244
                   have H' := Aside0.mk H
                   clear H
                   have p237 : 0 ≤ (x38_3 : Int) := of_decide_eq_true (by first | (with_reducible assumption) | assumption)
                   have q237 : x38_3 < (x0_13.length : Int) := of_decide_eq_true (by first | (with_reducible assumption) | assumption)
                   obtain ⟨ad237, e237, hx237_0⟩ := Kd.at_int (Kd.V_reads' HO_36.out).2.2 x38_3 p237 q237
                   cases e237
                   replace p237 := eq_true p237
                   replace q237 := eq_true q237
                   obtain ⟨Ao37, co37, eo37⟩ := Kd.V_slice HO_1.out
                   subst eo37
                   go_wp2_with (first | ((with_reducible refine gate_callee (f := 83) rfl ?_); refine goesX_ (some 57) rfl rfl Tryd.func83 (by kernel_rfl) rfl #[.int .u64 (rd x0_13 x38_3), .int .u64 0, .int .u64 x7_3] rfl (by (try simp only [List.map_toArray, List.map_cons, List.map_nil]); first | done | rfl) ?_; (with_reducible refine (bits_Add64.calls (rd x0_13 x38_3) 0 x7_3 t242 t243 _ A34.out).mono ?_); rintro e w' ⟨rfl, rfl⟩; refine ⟨_, rfl, ?_⟩; have p36 : 0 ≤ (x38_3 : Int) := of_decide_eq_true (by first | (with_reducible assumption) | assumption); have q36 : (x38_3 : Int) < ((x6_3.length : Int) : Int) := of_decide_eq_true (by first | (with_reducible assumption) | assumption); obtain ⟨go36, co36, eo36, gb36, gl36, cl36, HG36⟩ := Kd.R_form HO_6.out (by omega); (first | cases eo36 | (injection eo36 with ea_ en_ ec_; (first | subst ea_ | (injection ea_ with ea_; subst ea_)); subst ec_; clear en_)); have GB36 := Aside0.mk gb36; have GG36 := Aside0.mk HG36; clear gb36 gl36 HG36; obtain ⟨hx36_0, hf36_0⟩ := Kd.R_celln 0 HO_6.out (x38_3 : Int) p36 q36; replace p36 := eq_true p36; replace q36 := eq_true q36; obtain ⟨hy38_, hz38_⟩ := Kd.R_celln 0 HO_6.out (x38_3 : Int) (of_decide_eq_true (by first | (with_reducible assumption) | assumption)) (of_decide_eq_true (by first | (with_reducible assumption) | assumption)); have HP38 := Kd.R_putg HO_6.out (x38_3 : Int) t242) | ((with_reducible refine gate_store (t := 22) (p := 60) rfl ?_); (try (rw [drewN_self wr]; generalize hq_ : World.drewN wr _ = wr; have n0_ := Aside0.mk (Kd.V_at hq_ HO_0.out); have n1_ := Aside0.mk (Kd.V_at hq_ HO_1.out); have n2_ := Aside0.mk (Kd.R_at hq_ HO_6.out); have n3_ := Aside0.mk (Kd.V_at hq_ HO_36.out); have n4_ := Aside0.mk (below_at hq_ HB.out); clear hq_ HO_0 HO_1 HO_6 HO_36 HB; have HO_0 := n0_; have HO_1 := n1_; have HO_6 := n2_; have HO_36 := n3_; have HB := n4_; clear n0_ n1_ n2_ n3_ n4_; (try (obtain ⟨hy38_, hz38_⟩ := Kd.R_celln 0 HO_6.out (x38_3 : Int) (of_decide_eq_true (by first | (with_reducible assumption) | assumption)) (of_decide_eq_true (by first | (with_reducible assumption) | assumption)))); (try (have HP38 := Kd.R_putg HO_6.out (x38_3 : Int) t242)))); refine store_event (t := 22) (p := 60) (v := ?vo_w39) (w1 := (wr.setCell ⟨go36, (x38_3 : Int).toNat, none⟩ (.int .u64 t242))) ?hg ?ho ?hn ?hr ?_; (case ho => rfl); (case hg => rfl); (case hn => rfl); (case hr => first | (go_simp; done) | (go_simp; rfl)); intro w39 hw; have hg : wr.grownBy w39 (some go36) := (by rw [hw]; exact HP38.2); have hp_ : Kd.R (Kd.int .u64) 22 w39 w.heap.size (fun k_ => (w.heap.size ≤ k_)) (.slice (some ⟨go36, 0, none⟩) x6_3.length co36) y244 := (by rw [hw, Ny244.out]; exact HP38.1); clear HP38; replace HO_0 := Aside0.mk (Kd.V_afterv (v := (.slice (some ⟨go36, 0, none⟩) x6_3.length co36)) (v1 := (.slice (some ⟨go36, 0, none⟩) x6_3.length co36)) (ok := (fun k_ => ((P0_ k_ ∨ P1_ k_) ∨ w.heap.size ≤ k_))) (vS <| HO_0.out) hg (.inl rfl)); replace HO_1 := Aside0.mk (Kd.V_afterv (v := (.slice (some ⟨go36, 0, none⟩) x6_3.length co36)) (v1 := (.slice (some ⟨go36, 0, none⟩) x6_3.length co36)) (ok := (fun k_ => ((P0_ k_ ∨ P1_ k_) ∨ w.heap.size ≤ k_))) (vS <| HO_1.out) hg (.inl rfl)); replace HO_6 := Aside0.mk (hp_); replace HO_36 := Aside0.mk (Kd.V_afterv (v := (.slice (some ⟨go36, 0, none⟩) x6_3.length co36)) (v1 := (.slice (some ⟨go36, 0, none⟩) x6_3.length co36)) (ok := (fun k_ => ((P0_ k_ ∨ P1_ k_) ∨ w.heap.size ≤ k_))) (vS <| HO_36.out) hg (.inl rfl)); replace HB := Aside0.mk ((by rw [hw]; exact below_set (HB.out) GB36.out : Below w.heap.size w w39)); clear hg hw hp_))
                   repeat (go_quiet (first | ((with_reducible refine gate_callee (f := 83) rfl ?_); refine goesX_ (some 57) rfl rfl Tryd.func83 (by kernel_rfl) rfl #[.int .u64 (rd x0_13 x38_3), .int .u64 0, .int .u64 x7_3] rfl (by (try simp only [List.map_toArray, List.map_cons, List.map_nil]); first | done | rfl) ?_; (with_reducible refine (bits_Add64.calls (rd x0_13 x38_3) 0 x7_3 t242 t243 _ A34.out).mono ?_); rintro e w' ⟨rfl, rfl⟩; refine ⟨_, rfl, ?_⟩; have p36 : 0 ≤ (x38_3 : Int) := of_decide_eq_true (by first | (with_reducible assumption) | assumption); have q36 : (x38_3 : Int) < ((x6_3.length : Int) : Int) := of_decide_eq_true (by first | (with_reducible assumption) | assumption); obtain ⟨go36, co36, eo36, gb36, gl36, cl36, HG36⟩ := Kd.R_form HO_6.out (by omega); (first | cases eo36 | (injection eo36 with ea_ en_ ec_; (first | subst ea_ | (injection ea_ with ea_; subst ea_)); subst ec_; clear en_)); have GB36 := Aside0.mk gb36; have GG36 := Aside0.mk HG36; clear gb36 gl36 HG36; obtain ⟨hx36_0, hf36_0⟩ := Kd.R_celln 0 HO_6.out (x38_3 : Int) p36 q36; replace p36 := eq_true p36; replace q36 := eq_true q36; obtain ⟨hy38_, hz38_⟩ := Kd.R_celln 0 HO_6.out (x38_3 : Int) (of_decide_eq_true (by first | (with_reducible assumption) | assumption)) (of_decide_eq_true (by first | (with_reducible assumption) | assumption)); have HP38 := Kd.R_putg HO_6.out (x38_3 : Int) t242) | ((with_reducible refine gate_store (t := 22) (p := 60) rfl ?_); (try (rw [drewN_self wr]; generalize hq_ : World.drewN wr _ = wr; have n0_ := Aside0.mk (Kd.V_at hq_ HO_0.out); have n1_ := Aside0.mk (Kd.V_at hq_ HO_1.out); have n2_ := Aside0.mk (Kd.R_at hq_ HO_6.out); have n3_ := Aside0.mk (Kd.V_at hq_ HO_36.out); have n4_ := Aside0.mk (below_at hq_ HB.out); clear hq_ HO_0 HO_1 HO_6 HO_36 HB; have HO_0 := n0_; have HO_1 := n1_; have HO_6 := n2_; have HO_36 := n3_; have HB := n4_; clear n0_ n1_ n2_ n3_ n4_; (try (obtain ⟨hy38_, hz38_⟩ := Kd.R_celln 0 HO_6.out (x38_3 : Int) (of_decide_eq_true (by first | (with_reducible assumption) | assumption)) (of_decide_eq_true (by first | (with_reducible assumption) | assumption)))); (try (have HP38 := Kd.R_putg HO_6.out (x38_3 : Int) t242)))); refine store_event (t := 22) (p := 60) (v := ?vo_w39) (w1 := (wr.setCell ⟨go36, (x38_3 : Int).toNat, none⟩ (.int .u64 t242))) ?hg ?ho ?hn ?hr ?_; (case ho => rfl); (case hg => rfl); (case hn => rfl); (case hr => first | (go_simp; done) | (go_simp; rfl)); intro w39 hw; have hg : wr.grownBy w39 (some go36) := (by rw [hw]; exact HP38.2); have hp_ : Kd.R (Kd.int .u64) 22 w39 w.heap.size (fun k_ => (w.heap.size ≤ k_)) (.slice (some ⟨go36, 0, none⟩) x6_3.length co36) y244 := (by rw [hw, Ny244.out]; exact HP38.1); clear HP38; replace HO_0 := Aside0.mk (Kd.V_afterv (v := (.slice (some ⟨go36, 0, none⟩) x6_3.length co36)) (v1 := (.slice (some ⟨go36, 0, none⟩) x6_3.length co36)) (ok := (fun k_ => ((P0_ k_ ∨ P1_ k_) ∨ w.heap.size ≤ k_))) (vS <| HO_0.out) hg (.inl rfl)); replace HO_1 := Aside0.mk (Kd.V_afterv (v := (.slice (some ⟨go36, 0, none⟩) x6_3.length co36)) (v1 := (.slice (some ⟨go36, 0, none⟩) x6_3.length co36)) (ok := (fun k_ => ((P0_ k_ ∨ P1_ k_) ∨ w.heap.size ≤ k_))) (vS <| HO_1.out) hg (.inl rfl)); replace HO_6 := Aside0.mk (hp_); replace HO_36 := Aside0.mk (Kd.V_afterv (v := (.slice (some ⟨go36, 0, none⟩) x6_3.length co36)) (v1 := (.slice (some ⟨go36, 0, none⟩) x6_3.length co36)) (ok := (fun k_ => ((P0_ k_ ∨ P1_ k_) ∨ w.heap.size ≤ k_))) (vS <| HO_36.out) hg (.inl rfl)); replace HB := Aside0.mk ((by rw [hw]; exact below_set (HB.out) GB36.out : Below w.heap.size w w39)); clear hg hw hp_)); try go_wp2_with (first | ((with_reducible refine gate_callee (f := 83) rfl ?_); refine goesX_ (some 57) rfl rfl Tryd.func83 (by kernel_rfl) rfl #[.int .u64 (rd x0_13 x38_3), .int .u64 0, .int .u64 x7_3] rfl (by (try simp only [List.map_toArray, List.map_cons, List.map_nil]); first | done | rfl) ?_; (with_reducible refine (bits_Add64.calls (rd x0_13 x38_3) 0 x7_3 t242 t243 _ A34.out).mono ?_); rintro e w' ⟨rfl, rfl⟩; refine ⟨_, rfl, ?_⟩; have p36 : 0 ≤ (x38_3 : Int) := of_decide_eq_true (by first | (with_reducible assumption) | assumption); have q36 : (x38_3 : Int) < ((x6_3.length : Int) : Int) := of_decide_eq_true (by first | (with_reducible assumption) | assumption); obtain ⟨go36, co36, eo36, gb36, gl36, cl36, HG36⟩ := Kd.R_form HO_6.out (by omega); (first | cases eo36 | (injection eo36 with ea_ en_ ec_; (first | subst ea_ | (injection ea_ with ea_; subst ea_)); subst ec_; clear en_)); have GB36 := Aside0.mk gb36; have GG36 := Aside0.mk HG36; clear gb36 gl36 HG36; obtain ⟨hx36_0, hf36_0⟩ := Kd.R_celln 0 HO_6.out (x38_3 : Int) p36 q36; replace p36 := eq_true p36; replace q36 := eq_true q36; obtain ⟨hy38_, hz38_⟩ := Kd.R_celln 0 HO_6.out (x38_3 : Int) (of_decide_eq_true (by first | (with_reducible assumption) | assumption)) (of_decide_eq_true (by first | (with_reducible assumption) | assumption)); have HP38 := Kd.R_putg HO_6.out (x38_3 : Int) t242) | ((with_reducible refine gate_store (t := 22) (p := 60) rfl ?_); (try (rw [drewN_self wr]; generalize hq_ : World.drewN wr _ = wr; have n0_ := Aside0.mk (Kd.V_at hq_ HO_0.out); have n1_ := Aside0.mk (Kd.V_at hq_ HO_1.out); have n2_ := Aside0.mk (Kd.R_at hq_ HO_6.out); have n3_ := Aside0.mk (Kd.V_at hq_ HO_36.out); have n4_ := Aside0.mk (below_at hq_ HB.out); clear hq_ HO_0 HO_1 HO_6 HO_36 HB; have HO_0 := n0_; have HO_1 := n1_; have HO_6 := n2_; have HO_36 := n3_; have HB := n4_; clear n0_ n1_ n2_ n3_ n4_; (try (obtain ⟨hy38_, hz38_⟩ := Kd.R_celln 0 HO_6.out (x38_3 : Int) (of_decide_eq_true (by first | (with_reducible assumption) | assumption)) (of_decide_eq_true (by first | (with_reducible assumption) | assumption)))); (try (have HP38 := Kd.R_putg HO_6.out (x38_3 : Int) t242)))); refine store_event (t := 22) (p := 60) (v := ?vo_w39) (w1 := (wr.setCell ⟨go36, (x38_3 : Int).toNat, none⟩ (.int .u64 t242))) ?hg ?ho ?hn ?hr ?_; (case ho => rfl); (case hg => rfl); (case hn => rfl); (case hr => first | (go_simp; done) | (go_simp; rfl)); intro w39 hw; have hg : wr.grownBy w39 (some go36) := (by rw [hw]; exact HP38.2); have hp_ : Kd.R (Kd.int .u64) 22 w39 w.heap.size (fun k_ => (w.heap.size ≤ k_)) (.slice (some ⟨go36, 0, none⟩) x6_3.length co36) y244 := (by rw [hw, Ny244.out]; exact HP38.1); clear HP38; replace HO_0 := Aside0.mk (Kd.V_afterv (v := (.slice (some ⟨go36, 0, none⟩) x6_3.length co36)) (v1 := (.slice (some ⟨go36, 0, none⟩) x6_3.length co36)) (ok := (fun k_ => ((P0_ k_ ∨ P1_ k_) ∨ w.heap.size ≤ k_))) (vS <| HO_0.out) hg (.inl rfl)); replace HO_1 := Aside0.mk (Kd.V_afterv (v := (.slice (some ⟨go36, 0, none⟩) x6_3.length co36)) (v1 := (.slice (some ⟨go36, 0, none⟩) x6_3.length co36)) (ok := (fun k_ => ((P0_ k_ ∨ P1_ k_) ∨ w.heap.size ≤ k_))) (vS <| HO_1.out) hg (.inl rfl)); replace HO_6 := Aside0.mk (hp_); replace HO_36 := Aside0.mk (Kd.V_afterv (v := (.slice (some ⟨go36, 0, none⟩) x6_3.length co36)) (v1 := (.slice (some ⟨go36, 0, none⟩) x6_3.length co36)) (ok := (fun k_ => ((P0_ k_ ∨ P1_ k_) ∨ w.heap.size ≤ k_))) (vS <| HO_36.out) hg (.inl rfl)); replace HB := Aside0.mk ((by rw [hw]; exact below_set (HB.out) GB36.out : Below w.heap.size w w39)); clear hg hw hp_)))
                   go_roundg k3
                   case measure => have := HJ2.out; have := HJ13.out; have := HK3.out; omega
                   case rel => exact ⟨(y244), (t243), (wrap64 (x38_3 + 1)), (by first | rfl | (have e_ := Option.some.inj (A8.out.symm.trans A11.out); cases e_; rfl) | (simp; done) | (simp [*]; done)), (by first | rfl | (have e_ := Option.some.inj (A8.out.symm.trans A11.out); cases e_; rfl) | (simp; done) | (simp [*]; done)), H', ⟨by have := HJ2.out; have := HJ13.out; have := HK3.out; omega⟩, ⟨vS <| HO_0.out⟩, ⟨vS <| HO_1.out⟩, ⟨rS <| HO_6.out⟩, ⟨vS <| HO_36.out⟩, ⟨bS HB.out⟩⟩
                  ·rw [if_neg c35] at H
                   exact absurd H (by simp)
                ·rw [if_neg c26] at H
                 exact absurd H (by simp)
               ·rw [if_neg c25] at H
                exact absurd H (by simp)
              ·rw [if_neg c24] at H
               have c24b0 : decide (x38_3 < (x0_13.length : Int)) = false := decide_eq_false c24
               clear c24
               by_cases c40 : 0 ≤ (x0_13.length : Int)
               ·rw [if_pos c40] at H
                have c40b0 : decide (0 ≤ (x0_13.length : Int)) = true := decide_eq_true c40
                have c40b1 : decide (0 ≤ x0_13.length) = true := decide_eq_true (by omega)
                clear c40
                by_cases c41 : (x0_13.length : Int) < (x6_3.length : Int)
                ·rw [if_pos c41] at H
                 have c41b0 : decide ((x0_13.length : Int) < (x6_3.length : Int)) = true := decide_eq_true c41
                 have c41b1 : decide (x0_13.length < x6_3.length) = true := decide_eq_true (Int.ofNat_lt.mp c41)
                 clear c41
                 obtain ⟨y245, hy245⟩ : ∃ y_ : List Int, y_ = (x6_3.set ((x0_13.length : Int) : Int).toNat x7_3) := ⟨_, rfl⟩
                 replace H : ((nat_cut.f k3 y245).bind fun bt246 => (some (bt246.1, bt246.2))) = some (r1, r2) := by first | (rw [hy245]; with_reducible exact H) | (have H2_ := (Option.bind_some _ _).symm.trans H; rw [hy245]; with_reducible exact H2_) | (have H2_ := (Option.bind_some _ _).symm.trans H; with_reducible exact H2_) | with_reducible exact H | (rw [hy245]; exact H) | exact H
                 have Ny245 := Aside0.mk hy245
                 clear hy245
                 obtain ⟨⟨t246, t249⟩, A430, H⟩ := Option.bind_eq_some_iff.mp H
                 dsimp only at H
                 have A43 := Aside0.mk A430
                 clear A430
                 simp only [Option.some.injEq, Prod.mk.injEq] at H
                 obtain ⟨rfl, rfl⟩ := H
                 have p42 : 0 ≤ ((x0_13.length : Int) : Int) := of_decide_eq_true (by first | (with_reducible assumption) | assumption)
                 have q42 : ((x0_13.length : Int) : Int) < ((x6_3.length : Int) : Int) := of_decide_eq_true (by first | (with_reducible assumption) | assumption)
                 obtain ⟨go42, co42, eo42, gb42, gl42, cl42, HG42⟩ := Kd.R_form HO_6.out (by omega)
                 (first | cases eo42 | (injection eo42 with ea_ en_ ec_; (first | subst ea_ | (injection ea_ with ea_; subst ea_)); subst ec_; clear en_))
                 have GB42 := Aside0.mk gb42
                 have GG42 := Aside0.mk HG42
                 clear gb42 gl42 HG42
                 obtain ⟨hx42_0, hf42_0⟩ := Kd.R_celln 0 HO_6.out ((x0_13.length : Int) : Int) p42 q42
                 (try simp only [Int.toNat_natCast] at hx42_0 hf42_0)
                 replace p42 := eq_true p42
                 replace q42 := eq_true q42
                 have HP44 := Kd.R_putg HO_6.out ((x0_13.length : Int) : Int) x7_3
                 go_wp2_with (first | ((with_reducible refine gate_store (t := 22) (p := 66) rfl ?_); (try (rw [drewN_self wr]; generalize hq_ : World.drewN wr _ = wr; have n0_ := Aside0.mk (Kd.V_at hq_ HO_0.out); have n1_ := Aside0.mk (Kd.V_at hq_ HO_1.out); have n2_ := Aside0.mk (Kd.R_at hq_ HO_6.out); have n3_ := Aside0.mk (Kd.V_at hq_ HO_36.out); have n4_ := Aside0.mk (below_at hq_ HB.out); clear hq_ HO_0 HO_1 HO_6 HO_36 HB; have HO_0 := n0_; have HO_1 := n1_; have HO_6 := n2_; have HO_36 := n3_; have HB := n4_; clear n0_ n1_ n2_ n3_ n4_; (try (have HP44 := Kd.R_putg HO_6.out ((x0_13.length : Int) : Int) x7_3)))); refine store_event (t := 22) (p := 66) (v := ?vo_w45) (w1 := (wr.setCell ⟨go42, ((x0_13.length : Int) : Int).toNat, none⟩ (.int .u64 x7_3))) ?hg ?ho ?hn ?hr ?_; (case ho => rfl); (case hg => rfl); (case hn => rfl); (case hr => first | (go_simp; done) | (go_simp; rfl)); intro w45 hw; have hg : wr.grownBy w45 (some go42) := (by rw [hw]; exact HP44.2); have hp_ : Kd.R (Kd.int .u64) 22 w45 w.heap.size (fun k_ => (w.heap.size ≤ k_)) (.slice (some ⟨go42, 0, none⟩) x6_3.length co42) y245 := (by rw [hw, Ny245.out]; exact HP44.1); clear HP44; replace HO_0 := Aside0.mk (Kd.V_afterv (v := (.slice (some ⟨go42, 0, none⟩) x6_3.length co42)) (v1 := (.slice (some ⟨go42, 0, none⟩) x6_3.length co42)) (ok := (fun k_ => ((P0_ k_ ∨ P1_ k_) ∨ w.heap.size ≤ k_))) (vS <| HO_0.out) hg (.inl rfl)); replace HO_1 := Aside0.mk (Kd.V_afterv (v := (.slice (some ⟨go42, 0, none⟩) x6_3.length co42)) (v1 := (.slice (some ⟨go42, 0, none⟩) x6_3.length co42)) (ok := (fun k_ => ((P0_ k_ ∨ P1_ k_) ∨ w.heap.size ≤ k_))) (vS <| HO_1.out) hg (.inl rfl)); replace HO_6 := Aside0.mk (hp_); replace HO_36 := Aside0.mk (Kd.V_afterv (v := (.slice (some ⟨go42, 0, none⟩) x6_3.length co42)) (v1 := (.slice (some ⟨go42, 0, none⟩) x6_3.length co42)) (ok := (fun k_ => ((P0_ k_ ∨ P1_ k_) ∨ w.heap.size ≤ k_))) (vS <| HO_36.out) hg (.inl rfl)); replace HB := Aside0.mk ((by rw [hw]; exact below_set (HB.out) GB42.out : Below w.heap.size w w45)); clear hg hw hp_) | (go_at_call 84; refine calls_of_args (args' := #[.slice (some ⟨go42, 0, none⟩) y245.length co42]) (by first | (rw [show y245.length = x6_3.length from (Kd.R_reads' HO_6.out).1.symm] <;> rfl) | rfl) ?_; (with_reducible refine (nat_cut.calls k3 (fun k_ => some k_ = (.slice (some ⟨go42, 0, none⟩) x6_3.length co42 : Value).ownBlock) _ _ y245 t246 t249 _ ?side1 A43.out).mono ?_); (case side1 => rw [show y245.length = x6_3.length from (Kd.R_reads' HO_6.out).1.symm]; exact Kd.R_V (Kd.R_tight rfl (HO_6.out))); rintro e w46 ⟨v247, rfl, ho0, hb⟩; replace HO_0 := vB HO_0 hb; replace HO_1 := vB HO_1 hb; replace HO_36 := vB HO_36 hb; have HO248 := Aside0.mk (Kd.V_lower (Kd.V_mono (ok' := fun k_ => ((P0_ k_ ∨ P1_ k_) ∨ w.heap.size ≤ k_)) ho0 (fun k_ hk_ => Or.elim hk_ (fun hs_ => (.inr (((HO_6.out).1 k_ hs_.symm)))) (fun hn_ => (.inr (Nat.le_trans (below_size (bS HB.out)) hn_))))) (below_size (bS HB.out))); replace HO_6 := Aside0.mk (Kd.R_below (rS <| HO_6.out) hb); replace HB := hB HB hb; (try clear hb); (try clear hb2); (try clear hk); (try clear hi); (try clear ho0)))
                 repeat (go_quiet (first | ((with_reducible refine gate_store (t := 22) (p := 66) rfl ?_); (try (rw [drewN_self wr]; generalize hq_ : World.drewN wr _ = wr; have n0_ := Aside0.mk (Kd.V_at hq_ HO_0.out); have n1_ := Aside0.mk (Kd.V_at hq_ HO_1.out); have n2_ := Aside0.mk (Kd.R_at hq_ HO_6.out); have n3_ := Aside0.mk (Kd.V_at hq_ HO_36.out); have n4_ := Aside0.mk (below_at hq_ HB.out); clear hq_ HO_0 HO_1 HO_6 HO_36 HB; have HO_0 := n0_; have HO_1 := n1_; have HO_6 := n2_; have HO_36 := n3_; have HB := n4_; clear n0_ n1_ n2_ n3_ n4_; (try (have HP44 := Kd.R_putg HO_6.out ((x0_13.length : Int) : Int) x7_3)))); refine store_event (t := 22) (p := 66) (v := ?vo_w45) (w1 := (wr.setCell ⟨go42, ((x0_13.length : Int) : Int).toNat, none⟩ (.int .u64 x7_3))) ?hg ?ho ?hn ?hr ?_; (case ho => rfl); (case hg => rfl); (case hn => rfl); (case hr => first | (go_simp; done) | (go_simp; rfl)); intro w45 hw; have hg : wr.grownBy w45 (some go42) := (by rw [hw]; exact HP44.2); have hp_ : Kd.R (Kd.int .u64) 22 w45 w.heap.size (fun k_ => (w.heap.size ≤ k_)) (.slice (some ⟨go42, 0, none⟩) x6_3.length co42) y245 := (by rw [hw, Ny245.out]; exact HP44.1); clear HP44; replace HO_0 := Aside0.mk (Kd.V_afterv (v := (.slice (some ⟨go42, 0, none⟩) x6_3.length co42)) (v1 := (.slice (some ⟨go42, 0, none⟩) x6_3.length co42)) (ok := (fun k_ => ((P0_ k_ ∨ P1_ k_) ∨ w.heap.size ≤ k_))) (vS <| HO_0.out) hg (.inl rfl)); replace HO_1 := Aside0.mk (Kd.V_afterv (v := (.slice (some ⟨go42, 0, none⟩) x6_3.length co42)) (v1 := (.slice (some ⟨go42, 0, none⟩) x6_3.length co42)) (ok := (fun k_ => ((P0_ k_ ∨ P1_ k_) ∨ w.heap.size ≤ k_))) (vS <| HO_1.out) hg (.inl rfl)); replace HO_6 := Aside0.mk (hp_); replace HO_36 := Aside0.mk (Kd.V_afterv (v := (.slice (some ⟨go42, 0, none⟩) x6_3.length co42)) (v1 := (.slice (some ⟨go42, 0, none⟩) x6_3.length co42)) (ok := (fun k_ => ((P0_ k_ ∨ P1_ k_) ∨ w.heap.size ≤ k_))) (vS <| HO_36.out) hg (.inl rfl)); replace HB := Aside0.mk ((by rw [hw]; exact below_set (HB.out) GB42.out : Below w.heap.size w w45)); clear hg hw hp_) | (go_at_call 84; refine calls_of_args (args' := #[.slice (some ⟨go42, 0, none⟩) y245.length co42]) (by first | (rw [show y245.length = x6_3.length from (Kd.R_reads' HO_6.out).1.symm] <;> rfl) | rfl) ?_; (with_reducible refine (nat_cut.calls k3 (fun k_ => some k_ = (.slice (some ⟨go42, 0, none⟩) x6_3.length co42 : Value).ownBlock) _ _ y245 t246 t249 _ ?side1 A43.out).mono ?_); (case side1 => rw [show y245.length = x6_3.length from (Kd.R_reads' HO_6.out).1.symm]; exact Kd.R_V (Kd.R_tight rfl (HO_6.out))); rintro e w46 ⟨v247, rfl, ho0, hb⟩; replace HO_0 := vB HO_0 hb; replace HO_1 := vB HO_1 hb; replace HO_36 := vB HO_36 hb; have HO248 := Aside0.mk (Kd.V_lower (Kd.V_mono (ok' := fun k_ => ((P0_ k_ ∨ P1_ k_) ∨ w.heap.size ≤ k_)) ho0 (fun k_ hk_ => Or.elim hk_ (fun hs_ => (.inr (((HO_6.out).1 k_ hs_.symm)))) (fun hn_ => (.inr (Nat.le_trans (below_size (bS HB.out)) hn_))))) (below_size (bS HB.out))); replace HO_6 := Aside0.mk (Kd.R_below (rS <| HO_6.out) hb); replace HB := hB HB hb; (try clear hb); (try clear hb2); (try clear hk); (try clear hi); (try clear ho0))); try go_wp2_with (first | ((with_reducible refine gate_store (t := 22) (p := 66) rfl ?_); (try (rw [drewN_self wr]; generalize hq_ : World.drewN wr _ = wr; have n0_ := Aside0.mk (Kd.V_at hq_ HO_0.out); have n1_ := Aside0.mk (Kd.V_at hq_ HO_1.out); have n2_ := Aside0.mk (Kd.R_at hq_ HO_6.out); have n3_ := Aside0.mk (Kd.V_at hq_ HO_36.out); have n4_ := Aside0.mk (below_at hq_ HB.out); clear hq_ HO_0 HO_1 HO_6 HO_36 HB; have HO_0 := n0_; have HO_1 := n1_; have HO_6 := n2_; have HO_36 := n3_; have HB := n4_; clear n0_ n1_ n2_ n3_ n4_; (try (have HP44 := Kd.R_putg HO_6.out ((x0_13.length : Int) : Int) x7_3)))); refine store_event (t := 22) (p := 66) (v := ?vo_w45) (w1 := (wr.setCell ⟨go42, ((x0_13.length : Int) : Int).toNat, none⟩ (.int .u64 x7_3))) ?hg ?ho ?hn ?hr ?_; (case ho => rfl); (case hg => rfl); (case hn => rfl); (case hr => first | (go_simp; done) | (go_simp; rfl)); intro w45 hw; have hg : wr.grownBy w45 (some go42) := (by rw [hw]; exact HP44.2); have hp_ : Kd.R (Kd.int .u64) 22 w45 w.heap.size (fun k_ => (w.heap.size ≤ k_)) (.slice (some ⟨go42, 0, none⟩) x6_3.length co42) y245 := (by rw [hw, Ny245.out]; exact HP44.1); clear HP44; replace HO_0 := Aside0.mk (Kd.V_afterv (v := (.slice (some ⟨go42, 0, none⟩) x6_3.length co42)) (v1 := (.slice (some ⟨go42, 0, none⟩) x6_3.length co42)) (ok := (fun k_ => ((P0_ k_ ∨ P1_ k_) ∨ w.heap.size ≤ k_))) (vS <| HO_0.out) hg (.inl rfl)); replace HO_1 := Aside0.mk (Kd.V_afterv (v := (.slice (some ⟨go42, 0, none⟩) x6_3.length co42)) (v1 := (.slice (some ⟨go42, 0, none⟩) x6_3.length co42)) (ok := (fun k_ => ((P0_ k_ ∨ P1_ k_) ∨ w.heap.size ≤ k_))) (vS <| HO_1.out) hg (.inl rfl)); replace HO_6 := Aside0.mk (hp_); replace HO_36 := Aside0.mk (Kd.V_afterv (v := (.slice (some ⟨go42, 0, none⟩) x6_3.length co42)) (v1 := (.slice (some ⟨go42, 0, none⟩) x6_3.length co42)) (ok := (fun k_ => ((P0_ k_ ∨ P1_ k_) ∨ w.heap.size ≤ k_))) (vS <| HO_36.out) hg (.inl rfl)); replace HB := Aside0.mk ((by rw [hw]; exact below_set (HB.out) GB42.out : Below w.heap.size w w45)); clear hg hw hp_) | (go_at_call 84; refine calls_of_args (args' := #[.slice (some ⟨go42, 0, none⟩) y245.length co42]) (by first | (rw [show y245.length = x6_3.length from (Kd.R_reads' HO_6.out).1.symm] <;> rfl) | rfl) ?_; (with_reducible refine (nat_cut.calls k3 (fun k_ => some k_ = (.slice (some ⟨go42, 0, none⟩) x6_3.length co42 : Value).ownBlock) _ _ y245 t246 t249 _ ?side1 A43.out).mono ?_); (case side1 => rw [show y245.length = x6_3.length from (Kd.R_reads' HO_6.out).1.symm]; exact Kd.R_V (Kd.R_tight rfl (HO_6.out))); rintro e w46 ⟨v247, rfl, ho0, hb⟩; replace HO_0 := vB HO_0 hb; replace HO_1 := vB HO_1 hb; replace HO_36 := vB HO_36 hb; have HO248 := Aside0.mk (Kd.V_lower (Kd.V_mono (ok' := fun k_ => ((P0_ k_ ∨ P1_ k_) ∨ w.heap.size ≤ k_)) ho0 (fun k_ hk_ => Or.elim hk_ (fun hs_ => (.inr (((HO_6.out).1 k_ hs_.symm)))) (fun hn_ => (.inr (Nat.le_trans (below_size (bS HB.out)) hn_))))) (below_size (bS HB.out))); replace HO_6 := Aside0.mk (Kd.R_below (rS <| HO_6.out) hb); replace HB := hB HB hb; (try clear hb); (try clear hb2); (try clear hk); (try clear hi); (try clear ho0))))
                 go_ret2
                 exact ⟨_, by first | rfl | (simp [errW_none, errW_some] <;> rfl) | (simp only [← hji18]; first | rfl | (simp [errW_none, errW_some] <;> rfl)) | (simp [*, errW_none, errW_some] <;> rfl), vS <| HO248.out, bS HB.out⟩
                ·rw [if_neg c41] at H
                 exact absurd H (by simp)
               ·rw [if_neg c40] at H
                exact absurd H (by simp)
           ·rw [if_neg c20] at H
            exact absurd H (by simp)
          ·rw [if_neg c19] at H
           exact absurd H (by simp)
       ·rw [if_neg c13] at H
        exact absurd H (by simp)
      ·rw [if_neg c12] at H
       exact absurd H (by simp)
     ·rw [if_neg c10] at H
      exact absurd H (by simp)
    ·rw [if_neg c9] at H
     exact absurd H (by simp)

/-! ### bits_Sub64: function 85 (its contract by hand) -/
def bits_Sub64.f (a0 a1 a2 : Int) : Option (Int × Int) := if 0 ≤ a0 ∧ 0 ≤ a1 ∧ a1 < 18446744073709551616 ∧ 0 ≤ a2 ∧ a2 ≤ 1 then some ((a0 - a1 - a2) % 18446744073709551616, if a0 < a1 + a2 then 1 else 0) else none
theorem bits_Sub64.calls (a0 a1 a2 r1 r2 : Int) (w : World) (h : bits_Sub64.f a0 a1 a2 = some (r1, r2)) :
  CallsX Tryd.prog 85 #[.int .u64 a0, .int .u64 a1, .int .u64 a2] w fun e w' => e = .returned (.tuple #[.int .u64 r1, .int .u64 r2]) ∧ w = w' := by
 unfold bits_Sub64.f at h
 split at h
 ·rename_i hh
  obtain ⟨h0, h1, h1', h2, h3⟩ := hh
  simp only [Option.some.injEq, Prod.mk.injEq] at h
  obtain ⟨rfl, rfl⟩ := h
  exact callsX_sub64 Tryd.func85 (by kernel_rfl) (by kernel_rfl) (by kernel_rfl) (by kernel_rfl) a0 a1 a2 h0 h1 h1' h2 h3 w
 ·exact absurd h (by simp)

end Go.Proofs.YtcdnoklokoplaaaDoor.PE
