-- printed by a program
import Derived.Test.YtegollbojafekaaDoorPSx0
import Derived.Test.YtegollbojafekaaDoorPSx1
import Derived.Test.YtegollbojafekaaDoorPSx4
import Derived.Test.YtegollbojafekaaDoorPSx5
namespace Go.Proofs.YtegollbojafekaaDoor.PS
open Go.Proofs.YtegollbojafekaaDoorX
open Go.RowKit Go.Proofs.YtegollbojafekaaDoorW.PrintWords Go.Proofs.YtegollbojafekaaDoorW.PrintLast Go.Proofs.YtegollbojafekaaDoorW.PrintMore
attribute [local go_sem] max2_int min2_int max_two min_two max_three min_three max_four min_four   -- for this text's walks alone
set_option linter.unusedVariables false
set_option linter.unusedSimpArgs false

/-! ### abacuslaw02_errs: function 13 -/
def abacuslaw02_errs.j0 : Nat → List Int → Bool → Option (Int)
  | 0, _, _ => none
  | k + 1, x1, x12 => if x12 = true then (some 2) else ((abacusref02_Top.f k x1).bind fun t208 => (if t208 = 0 then (some 4) else (some 0)))
def abacuslaw02_errs.f (k : Nat) (l0 : List Int) (l1 : List Int) : Option (Int) := (abacusref02_Top.f k l0).bind fun t206 => (if t206 > 4096 then (abacuslaw02_errs.j0 k l1 true) else ((abacusref02_Top.f k l1).bind fun t207 => (abacuslaw02_errs.j0 k l1 (decide (t207 > 4096)))))
theorem abacuslaw02_errs.mono_l : ∀ k, (∀ y0 y1, LeO (abacuslaw02_errs.j0 k y0 y1) (abacuslaw02_errs.j0 (k + 1) y0 y1))
  | 0 => fun _ _ r h => by simp [abacuslaw02_errs.j0] at h
  | k + 1 => by
    have ih0 := abacuslaw02_errs.mono_l k
    · intro y0 y1
      unfold abacuslaw02_errs.j0
      repeat' first
      | (with_reducible exact ih0 _ _)
      | (with_reducible exact abacusref02_Top.mono _ _)
      | (with_reducible exact LeO.refl _)
      | (with_reducible exact LeO.none _)
      | (with_reducible refine LeO.ite ?_ ?_)
      | (with_reducible refine LeO.bind ?_ (fun _ => ?_))
      | exact ih0 _ _
      | exact abacusref02_Top.mono _ _
      | exact LeO.none _
      | refine LeO.ite ?_ ?_
      | refine LeO.bind ?_ (fun _ => ?_)
theorem abacuslaw02_errs.mono : ∀ a0 a1 k, LeO (abacuslaw02_errs.f k a0 a1) (abacuslaw02_errs.f (k + 1) a0 a1) := by
  intro a0 a1 k
  have ih0 := abacuslaw02_errs.mono_l k
  unfold abacuslaw02_errs.f
  repeat' first
      | (with_reducible exact ih0 _ _)
      | (with_reducible exact abacusref02_Top.mono _ _)
      | (with_reducible exact LeO.refl _)
      | (with_reducible exact LeO.none _)
      | (with_reducible refine LeO.ite ?_ ?_)
      | (with_reducible refine LeO.bind ?_ (fun _ => ?_))
      | exact ih0 _ _
      | exact abacusref02_Top.mono _ _
      | exact LeO.none _
      | refine LeO.ite ?_ ?_
      | refine LeO.bind ?_ (fun _ => ?_)
set_option maxHeartbeats 8000000 in
set_option maxRecDepth 100000 in
theorem abacuslaw02_errs.calls (k : Nat) (A0 : Option Addr) (c0 : Nat) (l0 : List Int) (A1 : Option Addr) (c1 : Nat) (l1 : List Int) (r : Int) (w : World) (hr0 : Kd.C (Kd.int .u64) w A0 l0.length l0) (hc0 : l0.length ≤ c0) (hr1 : Kd.C (Kd.int .u64) w A1 l1.length l1) (hc1 : l1.length ≤ c1) (h : abacuslaw02_errs.f k l0 l1 = some r) :
    Calls Tryd.prog 13 #[.slice A0 l0.length c0, .slice A1 l1.length c1] w fun e w' => e = .returned (.int .i64 r) ∧ Drawn0 w w' := by
  have HR0 := Aside0.mk hr0
  have HC0 := Aside0.mk hc0
  clear hr0 hc0
  have HR1 := Aside0.mk hr1
  have HC1 := Aside0.mk hc1
  clear hr1 hc1
  have H : ((abacusref02_Top.f k l0).bind fun t206 => (if t206 > 4096 then (abacuslaw02_errs.j0 k l1 true) else ((abacusref02_Top.f k l1).bind fun t207 => (abacuslaw02_errs.j0 k l1 (decide (t207 > 4096)))))) = some r := h
  clear h
  have HC3 := Aside0.mk H
  clear H
  go_enter Tryd.func13, Tryd.ntmps13
  go_upto_region 1 with (fail)
  go_cut [12] (fun v12 wc => ∃ (kq : Nat) (x12_2 : Bool), v12 = .bool x12_2 ∧ Aside0 (abacuslaw02_errs.j0 kq l1 x12_2 = some r) ∧ Aside0 (kq ≤ k) ∧ Drawn0 w wc)
  case first =>
    have H := HC3.out
    clear HC3
    replace H := Option.bind_eq_some_iff.mp H
    obtain ⟨t206, A40, H⟩ := H
    replace H : (if t206 > 4096 then (abacuslaw02_errs.j0 k l1 true) else ((abacusref02_Top.f k l1).bind fun t207 => (abacuslaw02_errs.j0 k l1 (decide (t207 > 4096))))) = some r := H
    have A4 := Aside0.mk A40
    clear A40
    by_cases c5 : t206 > 4096
    · rw [if_pos c5] at H
      have c5b0 : decide (4096 < t206) = true := decide_eq_true c5
      clear c5
      (first | rw [c5b0] | (simp only [i64_w, i32_w]; rw [c5b0]) | rw [c5b1] | skip)
      have H' := Aside0.mk H
      clear H
      go_wp2_with (first | ((with_reducible refine gate_callee (f := 21) rfl ?_); refine goesL_ (some 6) rfl rfl Tryd.func21 (by kernel_rfl) rfl #[.slice A0 l0.length c0] rfl (by (try simp only [List.map_toArray, List.map_cons, List.map_nil]); first | done | rfl | (simp only [List.length_drop, List.length_take]; rfl) | (simp only [gt_iff_lt, Int.natCast_pos]; done) | (simp only [gt_iff_lt, Int.natCast_pos]; rfl)) ?_; (with_reducible refine (abacusref02_Top.calls k _ _ l0 t206 _ ?side1 ?side2 A4.out).mono ?_); (case side1 => repeat (first | exact HR0.out | (with_reducible refine Kd.C_alloc ?_ _) | (with_reducible refine Kd.C_drewN ?_ _) | (with_reducible refine Kd.C_drew ?_))); (case side2 => exact HC0.out); rintro e w' ⟨rfl, ⟨nd, rfl⟩⟩; refine ⟨_, rfl, ?_⟩))
      go_meet
      case rel => exact ⟨_, (true), (by first | rfl | (simp; done) | (simp [*]; done)), H', ⟨by first | omega | exact Nat.le_refl _⟩, by repeat (first | exact Drawn0.refl _ | apply Drawn0.step)⟩
    · rw [if_neg c5] at H
      have c5b0 : decide (4096 < t206) = false := decide_eq_false c5
      clear c5
      (first | rw [c5b0] | (simp only [i64_w, i32_w]; rw [c5b0]) | rw [c5b1] | skip)
      replace H := Option.bind_eq_some_iff.mp H
      obtain ⟨t207, A60, H⟩ := H
      replace H : (abacuslaw02_errs.j0 k l1 (decide (t207 > 4096))) = some r := H
      have A6 := Aside0.mk A60
      clear A60
      have H' := Aside0.mk H
      clear H
      go_wp2_with (first | ((with_reducible refine gate_callee (f := 21) rfl ?_); refine goesL_ (some 6) rfl rfl Tryd.func21 (by kernel_rfl) rfl #[.slice A0 l0.length c0] rfl (by (try simp only [List.map_toArray, List.map_cons, List.map_nil]); first | done | rfl | (simp only [List.length_drop, List.length_take]; rfl) | (simp only [gt_iff_lt, Int.natCast_pos]; done) | (simp only [gt_iff_lt, Int.natCast_pos]; rfl)) ?_; (with_reducible refine (abacusref02_Top.calls k _ _ l0 t206 _ ?side1 ?side2 A4.out).mono ?_); (case side1 => repeat (first | exact HR0.out | (with_reducible refine Kd.C_alloc ?_ _) | (with_reducible refine Kd.C_drewN ?_ _) | (with_reducible refine Kd.C_drew ?_))); (case side2 => exact HC0.out); rintro e w' ⟨rfl, ⟨nd, rfl⟩⟩; refine ⟨_, rfl, ?_⟩) | (go_at_call 21; (with_reducible refine (abacusref02_Top.calls k _ _ l1 t207 _ ?side1 ?side2 A6.out).mono ?_); (case side1 => repeat (first | exact HR1.out | (with_reducible refine Kd.C_alloc ?_ _) | (with_reducible refine Kd.C_drewN ?_ _) | (with_reducible refine Kd.C_drew ?_))); (case side2 => exact HC1.out); rintro e w' ⟨rfl, ⟨nd, rfl⟩⟩))
      go_meet
      case rel => exact ⟨_, (decide (t207 > 4096)), (by first | rfl | (simp; done) | (simp [*]; done)), H', ⟨by first | omega | exact Nat.le_refl _⟩, by repeat (first | exact Drawn0.refl _ | apply Drawn0.step)⟩
  case rest =>
    clear HC3
    try clear c1
    try clear c2
    try clear p2
    try clear c5
    try clear c5b0
    try clear c5b1
    obtain ⟨kq, x12_2, rfl, HA, HJ2, ⟨mc2, rfl⟩⟩ := hcut
    cases kq with
    | zero => exact absurd HA.out (by simp [abacuslaw02_errs.j0])
    | succ kj2 =>
      have H := HA.out
      clear HA
      simp only [abacuslaw02_errs.j0] at H
      by_cases c7 : x12_2 = true
      · subst c7
        have H1 : (some 2) = some r := by rw [if_pos rfl] at H; exact H
        clear H
        have H := H1
        clear H1
        obtain rfl := Option.some.inj H
        go_wp2
        go_ret
        exact ⟨by first | rfl | (simp; done) | (simp [*]; done), by repeat (first | exact Drawn0.refl _ | apply Drawn0.step)⟩
      · replace c7 := Bool.eq_false_iff.mpr c7
        subst c7
        have H1 : ((abacusref02_Top.f kj2 l1).bind fun t208 => (if t208 = 0 then (some 4) else (some 0))) = some r := by rw [if_neg (show ¬ (false = true) by decide)] at H; exact H
        clear H
        have H := H1
        clear H1
        replace H := Option.bind_eq_some_iff.mp H
        obtain ⟨t208, A80, H⟩ := H
        replace H : (if t208 = 0 then (some 4) else (some 0)) = some r := H
        have A8 := Aside0.mk A80
        clear A80
        by_cases c9 : t208 = 0
        · rw [if_pos c9] at H
          have c9b0 : (t208 == 0) = true := beq_iff_eq.mpr c9
          have c9b1 : (t208 != 0) = false := bne_eq_false_iff_eq.mpr c9
          clear c9
          obtain rfl := Option.some.inj H
          go_wp2_with (first | ((with_reducible refine gate_callee (f := 21) rfl ?_); refine goesL_ (some 14) rfl rfl Tryd.func21 (by kernel_rfl) rfl #[.slice A1 l1.length c1] rfl (by (try simp only [List.map_toArray, List.map_cons, List.map_nil]); first | done | rfl | (simp only [List.length_drop, List.length_take]; rfl) | (simp only [gt_iff_lt, Int.natCast_pos]; done) | (simp only [gt_iff_lt, Int.natCast_pos]; rfl)) ?_; (with_reducible refine (abacusref02_Top.calls kj2 _ _ l1 t208 _ ?side1 ?side2 A8.out).mono ?_); (case side1 => repeat (first | exact HR1.out | (with_reducible refine Kd.C_alloc ?_ _) | (with_reducible refine Kd.C_drewN ?_ _) | (with_reducible refine Kd.C_drew ?_))); (case side2 => exact HC1.out); rintro e w' ⟨rfl, ⟨nd, rfl⟩⟩; refine ⟨_, rfl, ?_⟩))
          go_ret
          exact ⟨by first | rfl | (simp; done) | (simp [*]; done), by repeat (first | exact Drawn0.refl _ | apply Drawn0.step)⟩
        · rw [if_neg c9] at H
          have c9b0 : (t208 == 0) = false := beq_eq_false_iff_ne.mpr c9
          have c9b1 : (t208 != 0) = true := bne_iff_ne.mpr c9
          obtain rfl := Option.some.inj H
          go_wp2_with (first | ((with_reducible refine gate_callee (f := 21) rfl ?_); refine goesL_ (some 14) rfl rfl Tryd.func21 (by kernel_rfl) rfl #[.slice A1 l1.length c1] rfl (by (try simp only [List.map_toArray, List.map_cons, List.map_nil]); first | done | rfl | (simp only [List.length_drop, List.length_take]; rfl) | (simp only [gt_iff_lt, Int.natCast_pos]; done) | (simp only [gt_iff_lt, Int.natCast_pos]; rfl)) ?_; (with_reducible refine (abacusref02_Top.calls kj2 _ _ l1 t208 _ ?side1 ?side2 A8.out).mono ?_); (case side1 => repeat (first | exact HR1.out | (with_reducible refine Kd.C_alloc ?_ _) | (with_reducible refine Kd.C_drewN ?_ _) | (with_reducible refine Kd.C_drew ?_))); (case side2 => exact HC1.out); rintro e w' ⟨rfl, ⟨nd, rfl⟩⟩; refine ⟨_, rfl, ?_⟩))
          go_ret
          exact ⟨by first | rfl | (simp; done) | (simp [*]; done), by repeat (first | exact Drawn0.refl _ | apply Drawn0.step)⟩

/-! ### nat_Mul: function 14 -/
mutual
def nat_Mul.j0 : Nat → List Int → List Int → Bool → Option (List Int × Int)
  | 0, _, _, _ => none
  | k + 1, x0, x1, x20 => if x20 = true then (some (([] : List Int), 2)) else ((nat_size.f k x0).bind fun t211 => (if 0 ≤ t211 then (if t211 ≤ (x0.length : Int) then ((some (x0.take (t211 : Int).toNat : List Int)).bind fun y212 => ((nat_size.f k x1).bind fun t216 => (if 0 ≤ t216 then (if t216 ≤ (x1.length : Int) then ((some (x1.take (t216 : Int).toNat : List Int)).bind fun y217 => (if (y212.length : Int) = 0 then (nat_Mul.j1 k y212 y217 true) else (nat_Mul.j1 k y212 y217 ((y217.length : Int) == 0)))) else (none)) else (none)))) else (none)) else (none)))
def nat_Mul.j1 : Nat → List Int → List Int → Bool → Option (List Int × Int)
  | 0, _, _, _ => none
  | k + 1, x0, x1, x36 => if x36 = true then (some (([] : List Int), 0)) else (if (wrap64 ((wrap64 ((x0.length : Int) + (x1.length : Int))) - 1)) > 4096 then (some (([] : List Int), 2)) else (if 0 ≤ (wrap64 ((x0.length : Int) + (x1.length : Int))) then (if (wrap64 ((x0.length : Int) + (x1.length : Int)) : Int).toNat ≤ 35184372088832 then (nat_Mul.l0 k x1 (List.replicate (wrap64 ((x0.length : Int) + (x1.length : Int)) : Int).toNat 0) x0 (x0.length : Int) 0) else (none)) else (none)))
def nat_Mul.l0 : Nat → List Int → List Int → List Int → Int → Int → Option (List Int × Int)
  | 0, _, _, _, _, _ => none
  | k + 1, x1, x6, x50, x51, x52 => if x52 < x51 then (if 0 ≤ x52 then (if x52 < (x50.length : Int) then (nat_Mul.l1 k x1 x6 x52 (rd x50 x52) 0 x50 x51 x52 x1 (x1.length : Int) 0) else (none)) else (none)) else ((nat_cut.f k x6).bind fun bt224 => (some (bt224.1, bt224.2)))
def nat_Mul.l1 : Nat → List Int → List Int → Int → Int → Int → List Int → Int → Int → List Int → Int → Int → Option (List Int × Int)
  | 0, _, _, _, _, _, _, _, _, _, _, _ => none
  | k + 1, x1, x6, x7, x8, x9, x50, x51, x52, x57, x58, x59 => if x59 < x58 then (if 0 ≤ x59 then (if x59 < (x57.length : Int) then ((bits_Mul64.f x8 (rd x57 x59)).bind fun bt230 => (if 0 ≤ (wrap64 (x7 + x59)) then (if (wrap64 (x7 + x59)) < (x6.length : Int) then ((bits_Add64.f bt230.2 (rd x6 (wrap64 (x7 + x59))) 0).bind fun bt233 => ((bits_Add64.f bt233.1 x9 0).bind fun bt235 => (nat_Mul.l1 k x1 (x6.set ((wrap64 (x7 + x59)) : Int).toNat bt235.1) x7 x8 (IntKind.u64.wrap ((IntKind.u64.wrap (bt230.1 + bt233.2)) + bt235.2)) x50 x51 x52 x57 x58 (wrap64 (x59 + 1))))) else (none)) else (none))) else (none)) else (none)) else (if 0 ≤ (wrap64 (x7 + (x1.length : Int))) then (if (wrap64 (x7 + (x1.length : Int))) < (x6.length : Int) then (nat_Mul.l0 k x1 (x6.set ((wrap64 (x7 + (x1.length : Int))) : Int).toNat x9) x50 x51 (wrap64 (x52 + 1))) else (none)) else (none))
end
def nat_Mul.f (k : Nat) (l0 : List Int) (l1 : List Int) : Option (List Int × Int) := (nat_big.f k l0).bind fun t209 => (if t209 = true then (nat_Mul.j0 k l0 l1 true) else ((nat_big.f k l1).bind fun t210 => (nat_Mul.j0 k l0 l1 t210)))
theorem nat_Mul.mono_l : ∀ k, (∀ y0 y1 y2, LeO (nat_Mul.j0 k y0 y1 y2) (nat_Mul.j0 (k + 1) y0 y1 y2)) ∧ (∀ y0 y1 y2, LeO (nat_Mul.j1 k y0 y1 y2) (nat_Mul.j1 (k + 1) y0 y1 y2)) ∧ (∀ y0 y1 y2 y3 y4, LeO (nat_Mul.l0 k y0 y1 y2 y3 y4) (nat_Mul.l0 (k + 1) y0 y1 y2 y3 y4)) ∧ (∀ y0 y1 y2 y3 y4 y5 y6 y7 y8 y9 y10, LeO (nat_Mul.l1 k y0 y1 y2 y3 y4 y5 y6 y7 y8 y9 y10) (nat_Mul.l1 (k + 1) y0 y1 y2 y3 y4 y5 y6 y7 y8 y9 y10))
  | 0 => ⟨fun _ _ _ r h => by simp [nat_Mul.j0] at h, fun _ _ _ r h => by simp [nat_Mul.j1] at h, fun _ _ _ _ _ r h => by simp [nat_Mul.l0] at h, fun _ _ _ _ _ _ _ _ _ _ _ r h => by simp [nat_Mul.l1] at h⟩
  | k + 1 => by
    obtain ⟨ih0, ih1, ih2, ih3⟩ := nat_Mul.mono_l k
    refine ⟨?_, ?_, ?_, ?_⟩
    · intro y0 y1 y2
      unfold nat_Mul.j0
      repeat' first
      | (with_reducible exact ih0 _ _ _)
      | (with_reducible exact ih1 _ _ _)
      | (with_reducible exact ih2 _ _ _ _ _)
      | (with_reducible exact ih3 _ _ _ _ _ _ _ _ _ _ _)
      | (with_reducible exact nat_big.mono _ _)
      | (with_reducible exact nat_cut.mono _ _)
      | (with_reducible exact nat_size.mono _ _)
      | (with_reducible exact LeO.refl _)
      | (with_reducible exact LeO.none _)
      | (with_reducible refine LeO.ite ?_ ?_)
      | (with_reducible refine LeO.bind ?_ (fun _ => ?_))
      | exact ih0 _ _ _
      | exact ih1 _ _ _
      | exact ih2 _ _ _ _ _
      | exact ih3 _ _ _ _ _ _ _ _ _ _ _
      | exact nat_big.mono _ _
      | exact nat_cut.mono _ _
      | exact nat_size.mono _ _
      | exact LeO.none _
      | refine LeO.ite ?_ ?_
      | refine LeO.bind ?_ (fun _ => ?_)
    · intro y0 y1 y2
      unfold nat_Mul.j1
      repeat' first
      | (with_reducible exact ih0 _ _ _)
      | (with_reducible exact ih1 _ _ _)
      | (with_reducible exact ih2 _ _ _ _ _)
      | (with_reducible exact ih3 _ _ _ _ _ _ _ _ _ _ _)
      | (with_reducible exact nat_big.mono _ _)
      | (with_reducible exact nat_cut.mono _ _)
      | (with_reducible exact nat_size.mono _ _)
      | (with_reducible exact LeO.refl _)
      | (with_reducible exact LeO.none _)
      | (with_reducible refine LeO.ite ?_ ?_)
      | (with_reducible refine LeO.bind ?_ (fun _ => ?_))
      | exact ih0 _ _ _
      | exact ih1 _ _ _
      | exact ih2 _ _ _ _ _
      | exact ih3 _ _ _ _ _ _ _ _ _ _ _
      | exact nat_big.mono _ _
      | exact nat_cut.mono _ _
      | exact nat_size.mono _ _
      | exact LeO.none _
      | refine LeO.ite ?_ ?_
      | refine LeO.bind ?_ (fun _ => ?_)
    · intro y0 y1 y2 y3 y4
      unfold nat_Mul.l0
      repeat' first
      | (with_reducible exact ih0 _ _ _)
      | (with_reducible exact ih1 _ _ _)
      | (with_reducible exact ih2 _ _ _ _ _)
      | (with_reducible exact ih3 _ _ _ _ _ _ _ _ _ _ _)
      | (with_reducible exact nat_big.mono _ _)
      | (with_reducible exact nat_cut.mono _ _)
      | (with_reducible exact nat_size.mono _ _)
      | (with_reducible exact LeO.refl _)
      | (with_reducible exact LeO.none _)
      | (with_reducible refine LeO.ite ?_ ?_)
      | (with_reducible refine LeO.bind ?_ (fun _ => ?_))
      | exact ih0 _ _ _
      | exact ih1 _ _ _
      | exact ih2 _ _ _ _ _
      | exact ih3 _ _ _ _ _ _ _ _ _ _ _
      | exact nat_big.mono _ _
      | exact nat_cut.mono _ _
      | exact nat_size.mono _ _
      | exact LeO.none _
      | refine LeO.ite ?_ ?_
      | refine LeO.bind ?_ (fun _ => ?_)
    · intro y0 y1 y2 y3 y4 y5 y6 y7 y8 y9 y10
      unfold nat_Mul.l1
      repeat' first
      | (with_reducible exact ih0 _ _ _)
      | (with_reducible exact ih1 _ _ _)
      | (with_reducible exact ih2 _ _ _ _ _)
      | (with_reducible exact ih3 _ _ _ _ _ _ _ _ _ _ _)
      | (with_reducible exact nat_big.mono _ _)
      | (with_reducible exact nat_cut.mono _ _)
      | (with_reducible exact nat_size.mono _ _)
      | (with_reducible exact LeO.refl _)
      | (with_reducible exact LeO.none _)
      | (with_reducible refine LeO.ite ?_ ?_)
      | (with_reducible refine LeO.bind ?_ (fun _ => ?_))
      | exact ih0 _ _ _
      | exact ih1 _ _ _
      | exact ih2 _ _ _ _ _
      | exact ih3 _ _ _ _ _ _ _ _ _ _ _
      | exact nat_big.mono _ _
      | exact nat_cut.mono _ _
      | exact nat_size.mono _ _
      | exact LeO.none _
      | refine LeO.ite ?_ ?_
      | refine LeO.bind ?_ (fun _ => ?_)
theorem nat_Mul.mono : ∀ a0 a1 k, LeO (nat_Mul.f k a0 a1) (nat_Mul.f (k + 1) a0 a1) := by
  intro a0 a1 k
  obtain ⟨ih0, ih1, ih2, ih3⟩ := nat_Mul.mono_l k
  unfold nat_Mul.f
  repeat' first
      | (with_reducible exact ih0 _ _ _)
      | (with_reducible exact ih1 _ _ _)
      | (with_reducible exact ih2 _ _ _ _ _)
      | (with_reducible exact ih3 _ _ _ _ _ _ _ _ _ _ _)
      | (with_reducible exact nat_big.mono _ _)
      | (with_reducible exact nat_cut.mono _ _)
      | (with_reducible exact nat_size.mono _ _)
      | (with_reducible exact LeO.refl _)
      | (with_reducible exact LeO.none _)
      | (with_reducible refine LeO.ite ?_ ?_)
      | (with_reducible refine LeO.bind ?_ (fun _ => ?_))
      | exact ih0 _ _ _
      | exact ih1 _ _ _
      | exact ih2 _ _ _ _ _
      | exact ih3 _ _ _ _ _ _ _ _ _ _ _
      | exact nat_big.mono _ _
      | exact nat_cut.mono _ _
      | exact nat_size.mono _ _
      | exact LeO.none _
      | refine LeO.ite ?_ ?_
      | refine LeO.bind ?_ (fun _ => ?_)
set_option maxHeartbeats 8000000 in
set_option maxRecDepth 100000 in
theorem nat_Mul.calls (k : Nat) (A0 : Option Addr) (c0 : Nat) (l0 : List Int) (A1 : Option Addr) (c1 : Nat) (l1 : List Int) (r1 : List Int) (r2 : Int) (w : World) (hr0 : Kd.C (Kd.int .u64) w A0 l0.length l0) (hc0 : l0.length ≤ c0) (hr1 : Kd.C (Kd.int .u64) w A1 l1.length l1) (hc1 : l1.length ≤ c1) (h : nat_Mul.f k l0 l1 = some (r1, r2)) :
    Calls Tryd.prog 14 #[.slice A0 l0.length c0, .slice A1 l1.length c1] w fun e w' => ∃ v0_ : Value, e = .returned (.tuple #[v0_, .int .i64 r2]) ∧ Kd.V (Kd.int .u64) 27 w' w.heap.size (fun k_ => (w.heap.size ≤ k_)) v0_ r1 ∧ Below w.heap.size w w' := by
  have HR0 := Aside0.mk hr0
  have HC0 := Aside0.mk hc0
  clear hr0 hc0
  have HR1 := Aside0.mk hr1
  have HC1 := Aside0.mk hc1
  clear hr1 hc1
  have HB := Aside0.mk (Below.refl w.heap.size w)
  have H : ((nat_big.f k l0).bind fun t209 => (if t209 = true then (nat_Mul.j0 k l0 l1 true) else ((nat_big.f k l1).bind fun t210 => (nat_Mul.j0 k l0 l1 t210)))) = some (r1, r2) := h
  clear h
  have HC3 := Aside0.mk H
  clear H
  go_enter Tryd.func14, Tryd.ntmps14
  go_upto_region 1 with (fail)
  repeat (go_quiet (fail); go_upto_region 1 with (fail))
  go_cut [20] (fun v20 wc => ∃ (kq : Nat) (x20_2 : Bool), v20 = .bool x20_2 ∧ Aside0 (nat_Mul.j0 kq l0 l1 x20_2 = some (r1, r2)) ∧ Aside0 (kq ≤ k) ∧ Aside0 (Below w.heap.size w wc))
  case first =>
    have H := HC3.out
    clear HC3
    replace H := Option.bind_eq_some_iff.mp H
    obtain ⟨t209, A40, H⟩ := H
    replace H : (if t209 = true then (nat_Mul.j0 k l0 l1 true) else ((nat_big.f k l1).bind fun t210 => (nat_Mul.j0 k l0 l1 t210))) = some (r1, r2) := H
    have A4 := Aside0.mk A40
    clear A40
    by_cases c5 : t209 = true
    · subst c5
      have H1 : (nat_Mul.j0 k l0 l1 true) = some (r1, r2) := by rw [if_pos rfl] at H; exact H
      clear H
      have H := H1
      clear H1
      have H' := Aside0.mk H
      clear H
      go_wp2_with (first | (go_at_call 38; (with_reducible refine (nat_big.calls k _ _ l0 true _ ?side1 ?side2 A4.out).mono ?_); (case side1 => repeat (first | exact (Kd.C_below HR0.out HB.out) | (with_reducible refine Kd.C_alloc ?_ _) | (with_reducible refine Kd.C_drewN ?_ _) | (with_reducible refine Kd.C_drew ?_))); (case side2 => exact HC0.out); rintro e w' ⟨rfl, ⟨nd, rfl⟩⟩; (try first | exact ⟨rfl, _, World.drewN_drewN _ _ _⟩ | exact ⟨rfl, _, Eq.trans (World.drewN_drewN _ _ _) (congrArg (World.drewN _) (Nat.add_assoc _ _ _))⟩)))
      repeat (go_quiet (first | (go_at_call 38; (with_reducible refine (nat_big.calls k _ _ l0 true _ ?side1 ?side2 A4.out).mono ?_); (case side1 => repeat (first | exact (Kd.C_below HR0.out HB.out) | (with_reducible refine Kd.C_alloc ?_ _) | (with_reducible refine Kd.C_drewN ?_ _) | (with_reducible refine Kd.C_drew ?_))); (case side2 => exact HC0.out); rintro e w' ⟨rfl, ⟨nd, rfl⟩⟩; (try first | exact ⟨rfl, _, World.drewN_drewN _ _ _⟩ | exact ⟨rfl, _, Eq.trans (World.drewN_drewN _ _ _) (congrArg (World.drewN _) (Nat.add_assoc _ _ _))⟩))); try go_wp2_with (first | (go_at_call 38; (with_reducible refine (nat_big.calls k _ _ l0 true _ ?side1 ?side2 A4.out).mono ?_); (case side1 => repeat (first | exact (Kd.C_below HR0.out HB.out) | (with_reducible refine Kd.C_alloc ?_ _) | (with_reducible refine Kd.C_drewN ?_ _) | (with_reducible refine Kd.C_drew ?_))); (case side2 => exact HC0.out); rintro e w' ⟨rfl, ⟨nd, rfl⟩⟩; (try first | exact ⟨rfl, _, World.drewN_drewN _ _ _⟩ | exact ⟨rfl, _, Eq.trans (World.drewN_drewN _ _ _) (congrArg (World.drewN _) (Nat.add_assoc _ _ _))⟩))))
      go_meet
      case rel => exact ⟨_, (true), (by first | rfl | (simp; done) | (simp [*]; done)), H', ⟨by first | omega | exact Nat.le_refl _⟩, ⟨by repeat (first | (with_reducible first | exact HB.out | apply below_alloc | apply pw_below_drewN | apply below_drew1) | exact HB.out)⟩⟩
    · replace c5 := Bool.eq_false_iff.mpr c5
      subst c5
      have H1 : ((nat_big.f k l1).bind fun t210 => (nat_Mul.j0 k l0 l1 t210)) = some (r1, r2) := by rw [if_neg (show ¬ (false = true) by decide)] at H; exact H
      clear H
      have H := H1
      clear H1
      replace H := Option.bind_eq_some_iff.mp H
      obtain ⟨t210, A60, H⟩ := H
      replace H : (nat_Mul.j0 k l0 l1 t210) = some (r1, r2) := H
      have A6 := Aside0.mk A60
      clear A60
      have H' := Aside0.mk H
      clear H
      go_wp2_with (first | (go_at_call 38; (with_reducible refine (nat_big.calls k _ _ l0 false _ ?side1 ?side2 A4.out).mono ?_); (case side1 => repeat (first | exact (Kd.C_below HR0.out HB.out) | (with_reducible refine Kd.C_alloc ?_ _) | (with_reducible refine Kd.C_drewN ?_ _) | (with_reducible refine Kd.C_drew ?_))); (case side2 => exact HC0.out); rintro e w' ⟨rfl, ⟨nd, rfl⟩⟩; (try first | exact ⟨rfl, _, World.drewN_drewN _ _ _⟩ | exact ⟨rfl, _, Eq.trans (World.drewN_drewN _ _ _) (congrArg (World.drewN _) (Nat.add_assoc _ _ _))⟩)) | (go_at_call 38; (with_reducible refine (nat_big.calls k _ _ l1 t210 _ ?side1 ?side2 A6.out).mono ?_); (case side1 => repeat (first | exact (Kd.C_below HR1.out (by repeat (first | (with_reducible first | exact HB.out | apply below_alloc | apply pw_below_drewN | apply below_drew1) | exact HB.out))) | (with_reducible refine Kd.C_alloc ?_ _) | (with_reducible refine Kd.C_drewN ?_ _) | (with_reducible refine Kd.C_drew ?_))); (case side2 => exact HC1.out); rintro e w' ⟨rfl, ⟨nd, rfl⟩⟩; (try first | exact ⟨rfl, _, World.drewN_drewN _ _ _⟩ | exact ⟨rfl, _, Eq.trans (World.drewN_drewN _ _ _) (congrArg (World.drewN _) (Nat.add_assoc _ _ _))⟩)))
      repeat (go_quiet (first | (go_at_call 38; (with_reducible refine (nat_big.calls k _ _ l0 false _ ?side1 ?side2 A4.out).mono ?_); (case side1 => repeat (first | exact (Kd.C_below HR0.out HB.out) | (with_reducible refine Kd.C_alloc ?_ _) | (with_reducible refine Kd.C_drewN ?_ _) | (with_reducible refine Kd.C_drew ?_))); (case side2 => exact HC0.out); rintro e w' ⟨rfl, ⟨nd, rfl⟩⟩; (try first | exact ⟨rfl, _, World.drewN_drewN _ _ _⟩ | exact ⟨rfl, _, Eq.trans (World.drewN_drewN _ _ _) (congrArg (World.drewN _) (Nat.add_assoc _ _ _))⟩)) | (go_at_call 38; (with_reducible refine (nat_big.calls k _ _ l1 t210 _ ?side1 ?side2 A6.out).mono ?_); (case side1 => repeat (first | exact (Kd.C_below HR1.out (by repeat (first | (with_reducible first | exact HB.out | apply below_alloc | apply pw_below_drewN | apply below_drew1) | exact HB.out))) | (with_reducible refine Kd.C_alloc ?_ _) | (with_reducible refine Kd.C_drewN ?_ _) | (with_reducible refine Kd.C_drew ?_))); (case side2 => exact HC1.out); rintro e w' ⟨rfl, ⟨nd, rfl⟩⟩; (try first | exact ⟨rfl, _, World.drewN_drewN _ _ _⟩ | exact ⟨rfl, _, Eq.trans (World.drewN_drewN _ _ _) (congrArg (World.drewN _) (Nat.add_assoc _ _ _))⟩))); try go_wp2_with (first | (go_at_call 38; (with_reducible refine (nat_big.calls k _ _ l0 false _ ?side1 ?side2 A4.out).mono ?_); (case side1 => repeat (first | exact (Kd.C_below HR0.out HB.out) | (with_reducible refine Kd.C_alloc ?_ _) | (with_reducible refine Kd.C_drewN ?_ _) | (with_reducible refine Kd.C_drew ?_))); (case side2 => exact HC0.out); rintro e w' ⟨rfl, ⟨nd, rfl⟩⟩; (try first | exact ⟨rfl, _, World.drewN_drewN _ _ _⟩ | exact ⟨rfl, _, Eq.trans (World.drewN_drewN _ _ _) (congrArg (World.drewN _) (Nat.add_assoc _ _ _))⟩)) | (go_at_call 38; (with_reducible refine (nat_big.calls k _ _ l1 t210 _ ?side1 ?side2 A6.out).mono ?_); (case side1 => repeat (first | exact (Kd.C_below HR1.out (by repeat (first | (with_reducible first | exact HB.out | apply below_alloc | apply pw_below_drewN | apply below_drew1) | exact HB.out))) | (with_reducible refine Kd.C_alloc ?_ _) | (with_reducible refine Kd.C_drewN ?_ _) | (with_reducible refine Kd.C_drew ?_))); (case side2 => exact HC1.out); rintro e w' ⟨rfl, ⟨nd, rfl⟩⟩; (try first | exact ⟨rfl, _, World.drewN_drewN _ _ _⟩ | exact ⟨rfl, _, Eq.trans (World.drewN_drewN _ _ _) (congrArg (World.drewN _) (Nat.add_assoc _ _ _))⟩))))
      go_meet
      case rel => exact ⟨_, (t210), (by first | rfl | (simp; done) | (simp [*]; done)), H', ⟨by first | omega | exact Nat.le_refl _⟩, ⟨by repeat (first | (with_reducible first | exact HB.out | apply below_alloc | apply pw_below_drewN | apply below_drew1) | exact HB.out)⟩⟩
  case rest =>
    clear HC3
    try clear c1
    try clear p2
    try clear c5
    obtain ⟨kq, x20_2, rfl, HA, HJ2, HB⟩ := hcut
    cases kq with
    | zero => exact absurd HA.out (by simp [nat_Mul.j0])
    | succ kj2 =>
      have H := HA.out
      clear HA
      simp only [nat_Mul.j0] at H
      by_cases c7 : x20_2 = true
      · subst c7
        have H1 : (some (([] : List Int), 2)) = some (r1, r2) := by rw [if_pos rfl] at H; exact H
        clear H
        have H := H1
        clear H1
        simp only [Option.some.injEq, Prod.mk.injEq] at H
        obtain ⟨rfl, rfl⟩ := H
        go_wp2
        repeat (go_quiet (fail); try go_wp2)
        go_ret2
        exact ⟨.slice none 0 0, by first | rfl | (simp [errW_none, errW_some] <;> rfl) | (simp [*, errW_none, errW_some] <;> rfl), Kd.V_nil _ _ _ _ _, by repeat (first | (with_reducible first | exact HB.out | apply below_alloc | apply pw_below_drewN | apply below_drew1) | exact HB.out)⟩
      · replace c7 := Bool.eq_false_iff.mpr c7
        subst c7
        have H1 : ((nat_size.f kj2 l0).bind fun t211 => (if 0 ≤ t211 then (if t211 ≤ (l0.length : Int) then ((some (l0.take (t211 : Int).toNat : List Int)).bind fun y212 => ((nat_size.f kj2 l1).bind fun t216 => (if 0 ≤ t216 then (if t216 ≤ (l1.length : Int) then ((some (l1.take (t216 : Int).toNat : List Int)).bind fun y217 => (if (y212.length : Int) = 0 then (nat_Mul.j1 kj2 y212 y217 true) else (nat_Mul.j1 kj2 y212 y217 ((y217.length : Int) == 0)))) else (none)) else (none)))) else (none)) else (none))) = some (r1, r2) := by rw [if_neg (show ¬ (false = true) by decide)] at H; exact H
        clear H
        have H := H1
        clear H1
        replace H := Option.bind_eq_some_iff.mp H
        obtain ⟨t211, A80, H⟩ := H
        replace H : (if 0 ≤ t211 then (if t211 ≤ (l0.length : Int) then ((some (l0.take (t211 : Int).toNat : List Int)).bind fun y212 => ((nat_size.f kj2 l1).bind fun t216 => (if 0 ≤ t216 then (if t216 ≤ (l1.length : Int) then ((some (l1.take (t216 : Int).toNat : List Int)).bind fun y217 => (if (y212.length : Int) = 0 then (nat_Mul.j1 kj2 y212 y217 true) else (nat_Mul.j1 kj2 y212 y217 ((y217.length : Int) == 0)))) else (none)) else (none)))) else (none)) else (none)) = some (r1, r2) := H
        have A8 := Aside0.mk A80
        clear A80
        by_cases c9 : 0 ≤ t211
        · rw [if_pos c9] at H
          have c9b0 := eq_true c9
          have c9b1 : decide (0 ≤ t211) = true := decide_eq_true c9
          clear c9
          by_cases c10 : t211 ≤ (l0.length : Int)
          · rw [if_pos c10] at H
            have c10b0 := eq_true c10
            have c10b1 : decide (t211 ≤ (l0.length : Int)) = true := decide_eq_true c10
            clear c10
            obtain ⟨y212, hy212⟩ : ∃ y_ : List Int, y_ = (l0.take (t211 : Int).toNat) := ⟨_, rfl⟩
            replace H : ((nat_size.f kj2 l1).bind fun t216 => (if 0 ≤ t216 then (if t216 ≤ (l1.length : Int) then ((some (l1.take (t216 : Int).toNat : List Int)).bind fun y217 => (if (y212.length : Int) = 0 then (nat_Mul.j1 kj2 y212 y217 true) else (nat_Mul.j1 kj2 y212 y217 ((y217.length : Int) == 0)))) else (none)) else (none))) = some (r1, r2) := by first | (rw [hy212]; with_reducible exact H) | (have H2_ := (Option.bind_some _ _).symm.trans H; rw [hy212]; with_reducible exact H2_) | (have H2_ := (Option.bind_some _ _).symm.trans H; with_reducible exact H2_) | with_reducible exact H | (rw [hy212]; exact H) | exact H
            have Ny212 := Aside0.mk hy212
            clear hy212
            replace H := Option.bind_eq_some_iff.mp H
            obtain ⟨t216, A110, H⟩ := H
            replace H : (if 0 ≤ t216 then (if t216 ≤ (l1.length : Int) then ((some (l1.take (t216 : Int).toNat : List Int)).bind fun y217 => (if (y212.length : Int) = 0 then (nat_Mul.j1 kj2 y212 y217 true) else (nat_Mul.j1 kj2 y212 y217 ((y217.length : Int) == 0)))) else (none)) else (none)) = some (r1, r2) := H
            have A11 := Aside0.mk A110
            clear A110
            by_cases c12 : 0 ≤ t216
            · rw [if_pos c12] at H
              have c12b0 := eq_true c12
              have c12b1 : decide (0 ≤ t216) = true := decide_eq_true c12
              clear c12
              by_cases c13 : t216 ≤ (l1.length : Int)
              · rw [if_pos c13] at H
                have c13b0 := eq_true c13
                have c13b1 : decide (t216 ≤ (l1.length : Int)) = true := decide_eq_true c13
                clear c13
                obtain ⟨y217, hy217⟩ : ∃ y_ : List Int, y_ = (l1.take (t216 : Int).toNat) := ⟨_, rfl⟩
                replace H : (if (y212.length : Int) = 0 then (nat_Mul.j1 kj2 y212 y217 true) else (nat_Mul.j1 kj2 y212 y217 ((y217.length : Int) == 0))) = some (r1, r2) := by first | (rw [hy217]; with_reducible exact H) | (have H2_ := (Option.bind_some _ _).symm.trans H; rw [hy217]; with_reducible exact H2_) | (have H2_ := (Option.bind_some _ _).symm.trans H; with_reducible exact H2_) | with_reducible exact H | (rw [hy217]; exact H) | exact H
                have Ny217 := Aside0.mk hy217
                clear hy217
                have HC14 := Aside0.mk H
                clear H
                go_upto_region 4 with (first | (go_at_call 39; (with_reducible refine (nat_size.calls kj2 _ _ l0 t211 _ ?side1 ?side2 A8.out).mono ?_); (case side1 => repeat (first | exact (Kd.C_below HR0.out HB.out) | (with_reducible refine Kd.C_alloc ?_ _) | (with_reducible refine Kd.C_drewN ?_ _) | (with_reducible refine Kd.C_drew ?_))); (case side2 => exact HC0.out); rintro e w' ⟨rfl, ⟨nd, rfl⟩⟩; (try first | exact ⟨rfl, _, World.drewN_drewN _ _ _⟩ | exact ⟨rfl, _, Eq.trans (World.drewN_drewN _ _ _) (congrArg (World.drewN _) (Nat.add_assoc _ _ _))⟩); have q15 : (t211 : Int) ≤ ((l0.length : Int) : Int) := of_decide_eq_true (by first | (with_reducible assumption) | assumption); obtain ⟨i015, hi015, _, hsz15, _⟩ := info_parts info27; have hroom15 : l0.length ≤ c0 := HC0.out; have hC15 : Kd.C (Kd.int .u64) _ A0 l0.length l0 := HR0.out; have hcut15 := cut_to (P := Tryd.prog) 22 27 .i64 Tryd.underlying22 hi015 A0 l0.length c0 t211 (of_decide_eq_true (by first | (with_reducible assumption) | assumption)) q15 hroom15; have hr15 := Kd.C_take (m := (t211 : Int).toNat) hC15 (by omega); have hy15 : y212.length = (t211 : Int).toNat := (by rw [Ny212.out, List.length_take]; omega); rw [← Ny212.out] at hr15; rw [← hy15] at hcut15; have HR215 := Aside0.mk hr15; have HC215 := Aside0.mk (show y212.length ≤ c0 from by omega); clear hr15 hC15 hroom15 hi015 hsz15; have KY15 := Aside0.mk hy15; clear hy15; replace q15 := eq_true q15) | (go_at_call 39; (with_reducible refine (nat_size.calls kj2 _ _ l1 t216 _ ?side1 ?side2 A11.out).mono ?_); (case side1 => repeat (first | exact (Kd.C_below HR1.out (by repeat (first | (with_reducible first | exact HB.out | apply below_alloc | apply pw_below_drewN | apply below_drew1) | exact HB.out))) | (with_reducible refine Kd.C_alloc ?_ _) | (with_reducible refine Kd.C_drewN ?_ _) | (with_reducible refine Kd.C_drew ?_))); (case side2 => exact HC1.out); rintro e w' ⟨rfl, ⟨nd, rfl⟩⟩; (try first | exact ⟨rfl, _, World.drewN_drewN _ _ _⟩ | exact ⟨rfl, _, Eq.trans (World.drewN_drewN _ _ _) (congrArg (World.drewN _) (Nat.add_assoc _ _ _))⟩); have q16 : (t216 : Int) ≤ ((l1.length : Int) : Int) := of_decide_eq_true (by first | (with_reducible assumption) | assumption); obtain ⟨i016, hi016, _, hsz16, _⟩ := info_parts info27; have hroom16 : l1.length ≤ c1 := HC1.out; have hC16 : Kd.C (Kd.int .u64) _ A1 l1.length l1 := HR1.out; have hcut16 := cut_to (P := Tryd.prog) 22 27 .i64 Tryd.underlying22 hi016 A1 l1.length c1 t216 (of_decide_eq_true (by first | (with_reducible assumption) | assumption)) q16 hroom16; have hr16 := Kd.C_take (m := (t216 : Int).toNat) hC16 (by omega); have hy16 : y217.length = (t216 : Int).toNat := (by rw [Ny217.out, List.length_take]; omega); rw [← Ny217.out] at hr16; rw [← hy16] at hcut16; have HR220 := Aside0.mk hr16; have HC220 := Aside0.mk (show y217.length ≤ c1 from by omega); clear hr16 hC16 hroom16 hi016 hsz16; have KY16 := Aside0.mk hy16; clear hy16; replace q16 := eq_true q16))
                repeat (go_quiet (first | (go_at_call 39; (with_reducible refine (nat_size.calls kj2 _ _ l0 t211 _ ?side1 ?side2 A8.out).mono ?_); (case side1 => repeat (first | exact (Kd.C_below HR0.out HB.out) | (with_reducible refine Kd.C_alloc ?_ _) | (with_reducible refine Kd.C_drewN ?_ _) | (with_reducible refine Kd.C_drew ?_))); (case side2 => exact HC0.out); rintro e w' ⟨rfl, ⟨nd, rfl⟩⟩; (try first | exact ⟨rfl, _, World.drewN_drewN _ _ _⟩ | exact ⟨rfl, _, Eq.trans (World.drewN_drewN _ _ _) (congrArg (World.drewN _) (Nat.add_assoc _ _ _))⟩); have q15 : (t211 : Int) ≤ ((l0.length : Int) : Int) := of_decide_eq_true (by first | (with_reducible assumption) | assumption); obtain ⟨i015, hi015, _, hsz15, _⟩ := info_parts info27; have hroom15 : l0.length ≤ c0 := HC0.out; have hC15 : Kd.C (Kd.int .u64) _ A0 l0.length l0 := HR0.out; have hcut15 := cut_to (P := Tryd.prog) 22 27 .i64 Tryd.underlying22 hi015 A0 l0.length c0 t211 (of_decide_eq_true (by first | (with_reducible assumption) | assumption)) q15 hroom15; have hr15 := Kd.C_take (m := (t211 : Int).toNat) hC15 (by omega); have hy15 : y212.length = (t211 : Int).toNat := (by rw [Ny212.out, List.length_take]; omega); rw [← Ny212.out] at hr15; rw [← hy15] at hcut15; have HR215 := Aside0.mk hr15; have HC215 := Aside0.mk (show y212.length ≤ c0 from by omega); clear hr15 hC15 hroom15 hi015 hsz15; have KY15 := Aside0.mk hy15; clear hy15; replace q15 := eq_true q15) | (go_at_call 39; (with_reducible refine (nat_size.calls kj2 _ _ l1 t216 _ ?side1 ?side2 A11.out).mono ?_); (case side1 => repeat (first | exact (Kd.C_below HR1.out (by repeat (first | (with_reducible first | exact HB.out | apply below_alloc | apply pw_below_drewN | apply below_drew1) | exact HB.out))) | (with_reducible refine Kd.C_alloc ?_ _) | (with_reducible refine Kd.C_drewN ?_ _) | (with_reducible refine Kd.C_drew ?_))); (case side2 => exact HC1.out); rintro e w' ⟨rfl, ⟨nd, rfl⟩⟩; (try first | exact ⟨rfl, _, World.drewN_drewN _ _ _⟩ | exact ⟨rfl, _, Eq.trans (World.drewN_drewN _ _ _) (congrArg (World.drewN _) (Nat.add_assoc _ _ _))⟩); have q16 : (t216 : Int) ≤ ((l1.length : Int) : Int) := of_decide_eq_true (by first | (with_reducible assumption) | assumption); obtain ⟨i016, hi016, _, hsz16, _⟩ := info_parts info27; have hroom16 : l1.length ≤ c1 := HC1.out; have hC16 : Kd.C (Kd.int .u64) _ A1 l1.length l1 := HR1.out; have hcut16 := cut_to (P := Tryd.prog) 22 27 .i64 Tryd.underlying22 hi016 A1 l1.length c1 t216 (of_decide_eq_true (by first | (with_reducible assumption) | assumption)) q16 hroom16; have hr16 := Kd.C_take (m := (t216 : Int).toNat) hC16 (by omega); have hy16 : y217.length = (t216 : Int).toNat := (by rw [Ny217.out, List.length_take]; omega); rw [← Ny217.out] at hr16; rw [← hy16] at hcut16; have HR220 := Aside0.mk hr16; have HC220 := Aside0.mk (show y217.length ≤ c1 from by omega); clear hr16 hC16 hroom16 hi016 hsz16; have KY16 := Aside0.mk hy16; clear hy16; replace q16 := eq_true q16)); go_upto_region 4 with (first | (go_at_call 39; (with_reducible refine (nat_size.calls kj2 _ _ l0 t211 _ ?side1 ?side2 A8.out).mono ?_); (case side1 => repeat (first | exact (Kd.C_below HR0.out HB.out) | (with_reducible refine Kd.C_alloc ?_ _) | (with_reducible refine Kd.C_drewN ?_ _) | (with_reducible refine Kd.C_drew ?_))); (case side2 => exact HC0.out); rintro e w' ⟨rfl, ⟨nd, rfl⟩⟩; (try first | exact ⟨rfl, _, World.drewN_drewN _ _ _⟩ | exact ⟨rfl, _, Eq.trans (World.drewN_drewN _ _ _) (congrArg (World.drewN _) (Nat.add_assoc _ _ _))⟩); have q15 : (t211 : Int) ≤ ((l0.length : Int) : Int) := of_decide_eq_true (by first | (with_reducible assumption) | assumption); obtain ⟨i015, hi015, _, hsz15, _⟩ := info_parts info27; have hroom15 : l0.length ≤ c0 := HC0.out; have hC15 : Kd.C (Kd.int .u64) _ A0 l0.length l0 := HR0.out; have hcut15 := cut_to (P := Tryd.prog) 22 27 .i64 Tryd.underlying22 hi015 A0 l0.length c0 t211 (of_decide_eq_true (by first | (with_reducible assumption) | assumption)) q15 hroom15; have hr15 := Kd.C_take (m := (t211 : Int).toNat) hC15 (by omega); have hy15 : y212.length = (t211 : Int).toNat := (by rw [Ny212.out, List.length_take]; omega); rw [← Ny212.out] at hr15; rw [← hy15] at hcut15; have HR215 := Aside0.mk hr15; have HC215 := Aside0.mk (show y212.length ≤ c0 from by omega); clear hr15 hC15 hroom15 hi015 hsz15; have KY15 := Aside0.mk hy15; clear hy15; replace q15 := eq_true q15) | (go_at_call 39; (with_reducible refine (nat_size.calls kj2 _ _ l1 t216 _ ?side1 ?side2 A11.out).mono ?_); (case side1 => repeat (first | exact (Kd.C_below HR1.out (by repeat (first | (with_reducible first | exact HB.out | apply below_alloc | apply pw_below_drewN | apply below_drew1) | exact HB.out))) | (with_reducible refine Kd.C_alloc ?_ _) | (with_reducible refine Kd.C_drewN ?_ _) | (with_reducible refine Kd.C_drew ?_))); (case side2 => exact HC1.out); rintro e w' ⟨rfl, ⟨nd, rfl⟩⟩; (try first | exact ⟨rfl, _, World.drewN_drewN _ _ _⟩ | exact ⟨rfl, _, Eq.trans (World.drewN_drewN _ _ _) (congrArg (World.drewN _) (Nat.add_assoc _ _ _))⟩); have q16 : (t216 : Int) ≤ ((l1.length : Int) : Int) := of_decide_eq_true (by first | (with_reducible assumption) | assumption); obtain ⟨i016, hi016, _, hsz16, _⟩ := info_parts info27; have hroom16 : l1.length ≤ c1 := HC1.out; have hC16 : Kd.C (Kd.int .u64) _ A1 l1.length l1 := HR1.out; have hcut16 := cut_to (P := Tryd.prog) 22 27 .i64 Tryd.underlying22 hi016 A1 l1.length c1 t216 (of_decide_eq_true (by first | (with_reducible assumption) | assumption)) q16 hroom16; have hr16 := Kd.C_take (m := (t216 : Int).toNat) hC16 (by omega); have hy16 : y217.length = (t216 : Int).toNat := (by rw [Ny217.out, List.length_take]; omega); rw [← Ny217.out] at hr16; rw [← hy16] at hcut16; have HR220 := Aside0.mk hr16; have HC220 := Aside0.mk (show y217.length ≤ c1 from by omega); clear hr16 hC16 hroom16 hi016 hsz16; have KY16 := Aside0.mk hy16; clear hy16; replace q16 := eq_true q16)))
                (try simp only [Act.put, List.setIfInBounds_toArray, List.set_cons_zero, List.set_cons_succ])
                go_cut [36] (fun v36 wc => ∃ (kq : Nat) (x36_13 : Bool), v36 = .bool x36_13 ∧ Aside0 (nat_Mul.j1 kq y212 y217 x36_13 = some (r1, r2)) ∧ Aside0 (kq ≤ kj2) ∧ Aside0 (Below w.heap.size w wc))
                case first =>
                  have H := HC14.out
                  clear HC14
                  by_cases c17 : (y212.length : Int) = 0
                  · rw [if_pos c17] at H
                    have c17b0 : ((y212.length : Int) == 0) = true := beq_iff_eq.mpr c17
                    have c17b1 : ((y212.length : Int) != 0) = false := bne_eq_false_iff_eq.mpr c17
                    clear c17
                    (first | rw [c17b0] | (simp only [i64_w, i32_w]; rw [c17b0]) | rw [c17b1] | skip)
                    have H' := Aside0.mk H
                    clear H
                    go_wp2
                    repeat (go_quiet (fail); try go_wp2)
                    go_meet
                    case rel => exact ⟨_, (true), (by first | rfl | (simp; done) | (simp [*]; done)), H', ⟨by have := HJ2.out; first | omega | exact Nat.le_refl _⟩, ⟨by repeat (first | (with_reducible first | exact HB.out | apply below_alloc | apply pw_below_drewN | apply below_drew1) | exact HB.out)⟩⟩
                  · rw [if_neg c17] at H
                    have c17b0 : ((y212.length : Int) == 0) = false := beq_eq_false_iff_ne.mpr c17
                    have c17b1 : ((y212.length : Int) != 0) = true := bne_iff_ne.mpr c17
                    have c17b2 : ¬ (y212 = []) := fun h_ => c17 (by rw [h_]; rfl)
                    (first | rw [c17b0] | (simp only [i64_w, i32_w]; rw [c17b0]) | rw [c17b1] | skip)
                    have H' := Aside0.mk H
                    clear H
                    go_wp2
                    repeat (go_quiet (fail); try go_wp2)
                    go_meet
                    case rel => exact ⟨_, (((y217.length : Int) == 0)), (by first | rfl | (simp; done) | (simp [*]; done)), H', ⟨by have := HJ2.out; first | omega | exact Nat.le_refl _⟩, ⟨by repeat (first | (with_reducible first | exact HB.out | apply below_alloc | apply pw_below_drewN | apply below_drew1) | exact HB.out)⟩⟩
                case rest =>
                  clear HC14
                  try clear c1
                  try clear q1
                  try clear p2
                  try clear c5
                  try clear c7
                  try clear c9
                  try clear c9b0
                  try clear c9b1
                  try clear c10
                  try clear c10b0
                  try clear c10b1
                  try clear c12
                  try clear c12b0
                  try clear c12b1
                  try clear c13
                  try clear c13b0
                  try clear c13b1
                  try clear c14
                  try clear q15
                  try clear q16
                  try clear c17
                  try clear c17b0
                  try clear c17b1
                  try clear c17b2
                  try clear p2
                  try clear q15
                  try clear q16
                  obtain ⟨kq, x36_13, rfl, HA, HJ13, HB⟩ := hcut
                  cases kq with
                  | zero => exact absurd HA.out (by simp [nat_Mul.j1])
                  | succ kj13 =>
                    have H := HA.out
                    clear HA
                    simp only [nat_Mul.j1] at H
                    by_cases c18 : x36_13 = true
                    · subst c18
                      have H1 : (some (([] : List Int), 0)) = some (r1, r2) := by rw [if_pos rfl] at H; exact H
                      clear H
                      have H := H1
                      clear H1
                      simp only [Option.some.injEq, Prod.mk.injEq] at H
                      obtain ⟨rfl, rfl⟩ := H
                      go_wp2
                      repeat (go_quiet (fail); try go_wp2)
                      go_ret2
                      exact ⟨.slice none 0 0, by first | rfl | (simp [errW_none, errW_some] <;> rfl) | (simp [*, errW_none, errW_some] <;> rfl), Kd.V_nil _ _ _ _ _, by repeat (first | (with_reducible first | exact HB.out | apply below_alloc | apply pw_below_drewN | apply below_drew1) | exact HB.out)⟩
                    · replace c18 := Bool.eq_false_iff.mpr c18
                      subst c18
                      have H1 : (if (wrap64 ((wrap64 ((y212.length : Int) + (y217.length : Int))) - 1)) > 4096 then (some (([] : List Int), 2)) else (if 0 ≤ (wrap64 ((y212.length : Int) + (y217.length : Int))) then (if (wrap64 ((y212.length : Int) + (y217.length : Int)) : Int).toNat ≤ 35184372088832 then (nat_Mul.l0 kj13 y217 (List.replicate (wrap64 ((y212.length : Int) + (y217.length : Int)) : Int).toNat 0) y212 (y212.length : Int) 0) else (none)) else (none))) = some (r1, r2) := by rw [if_neg (show ¬ (false = true) by decide)] at H; exact H
                      clear H
                      have H := H1
                      clear H1
                      by_cases c19 : (wrap64 ((wrap64 ((y212.length : Int) + (y217.length : Int))) - 1)) > 4096
                      · rw [if_pos c19] at H
                        have c19b0 : decide (4096 < (wrap64 ((wrap64 ((y212.length : Int) + (y217.length : Int))) - 1))) = true := decide_eq_true c19
                        clear c19
                        simp only [Option.some.injEq, Prod.mk.injEq] at H
                        obtain ⟨rfl, rfl⟩ := H
                        go_wp2
                        repeat (go_quiet (fail); try go_wp2)
                        go_ret2
                        exact ⟨.slice none 0 0, by first | rfl | (simp [errW_none, errW_some] <;> rfl) | (simp [*, errW_none, errW_some] <;> rfl), Kd.V_nil _ _ _ _ _, by repeat (first | (with_reducible first | exact HB.out | apply below_alloc | apply pw_below_drewN | apply below_drew1) | exact HB.out)⟩
                      · rw [if_neg c19] at H
                        have c19b0 : decide (4096 < (wrap64 ((wrap64 ((y212.length : Int) + (y217.length : Int))) - 1))) = false := decide_eq_false c19
                        clear c19
                        obtain ⟨ji20, hji20⟩ : ∃ j_ : Int, (wrap64 ((y212.length : Int) + (y217.length : Int))) = j_ := ⟨_, rfl⟩
                        replace H : (if 0 ≤ (ji20) then (if (ji20 : Int).toNat ≤ 35184372088832 then (nat_Mul.l0 kj13 y217 (List.replicate (ji20 : Int).toNat 0) y212 (y212.length : Int) 0) else (none)) else (none)) = some (r1, r2) := by first | (rw [hji20] at H; exact H) | (simp only [hji20] at H ⊢; exact H)
                        (try rw [hji20] at c19b0)
                        have hji20w : (IntKind.i64.wrap ((y212.length : Int) + (y217.length : Int))) = ji20 := (i64_w _).trans hji20
                        by_cases c21 : 0 ≤ (ji20)
                        · rw [if_pos c21] at H
                          have c21b0 := eq_true c21
                          have c21b1 : decide (0 ≤ (ji20)) = true := decide_eq_true c21
                          clear c21
                          by_cases c22 : (ji20 : Int).toNat ≤ 35184372088832
                          · rw [if_pos c22] at H
                            have c22b0 := eq_true c22
                            have c22b1 : decide ((ji20 : Int).toNat ≤ 35184372088832) = true := decide_eq_true c22
                            clear c22
                            obtain ⟨y221, hy221⟩ : ∃ y_ : List Int, y_ = (List.replicate (ji20 : Int).toNat 0) := ⟨_, rfl⟩
                            replace H : (nat_Mul.l0 kj13 y217 y221 y212 (y212.length : Int) 0) = some (r1, r2) := by first | (rw [hy221]; with_reducible exact H) | (have H2_ := (Option.bind_some _ _).symm.trans H; rw [hy221]; with_reducible exact H2_) | (have H2_ := (Option.bind_some _ _).symm.trans H; with_reducible exact H2_) | with_reducible exact H | (rw [hy221]; exact H) | exact H
                            have Ny221 := Aside0.mk hy221
                            clear hy221
                            have H' := Aside0.mk H
                            clear H
                            go_wp2_with (first | ((with_reducible refine gate_dst (N := 49) rfl ?_); (try (refine gate_guard (by rfl) ?_; dsimp only)); refine Kd.R_make (Kd.int .u64) _ 27 rfl (N := 49) rfl 22 _ _ rfl ji20 rfl rfl Tryd.underlying22 (.int .u64 0) 8 info27 rfl (by decide) (by omega) 0 (ok := fun _ => True) (okp := fun _ => True) rfl (fun _ hk => hk) trivial (of_decide_eq_true (by first | (with_reducible assumption) | assumption)) (Nat.le_trans (Nat.mul_le_mul_right _ (of_decide_eq_true (by first | (with_reducible assumption) | assumption) : ji20.toNat ≤ 35184372088832)) (by omega)) (Below.refl _ _) (Nat.le_refl _) ?_; intro v222 w23 ho24 hb hg_ hnew_; clear hg_ hnew_; (first | rw [← Ny221.out] at ho24 | (simp only [Int.reduceToNat] at ho24; rw [← Ny221.out] at ho24)); have n0_ := Aside0.mk (Kd.R_lower (Kd.R_newM (M := fun k_ => (w.heap.size ≤ k_)) ho24 (below_size (by repeat (first | (with_reducible first | exact HB.out | apply below_alloc | apply pw_below_drewN | apply below_drew1) | exact HB.out))) (fun k_ h_ => h_)) (below_size (by repeat (first | (with_reducible first | exact HB.out | apply below_alloc | apply pw_below_drewN | apply below_drew1) | exact HB.out)))); have n1_ := Aside0.mk (below_step (by repeat (first | (with_reducible first | exact HB.out | apply below_alloc | apply pw_below_drewN | apply below_drew1) | exact HB.out)) hb); clear HB; have HO223 := n0_; have HB := n1_; clear n0_ n1_; clear hb ho24))
                            repeat (go_quiet (first | ((with_reducible refine gate_dst (N := 49) rfl ?_); (try (refine gate_guard (by rfl) ?_; dsimp only)); refine Kd.R_make (Kd.int .u64) _ 27 rfl (N := 49) rfl 22 _ _ rfl ji20 rfl rfl Tryd.underlying22 (.int .u64 0) 8 info27 rfl (by decide) (by omega) 0 (ok := fun _ => True) (okp := fun _ => True) rfl (fun _ hk => hk) trivial (of_decide_eq_true (by first | (with_reducible assumption) | assumption)) (Nat.le_trans (Nat.mul_le_mul_right _ (of_decide_eq_true (by first | (with_reducible assumption) | assumption) : ji20.toNat ≤ 35184372088832)) (by omega)) (Below.refl _ _) (Nat.le_refl _) ?_; intro v222 w23 ho24 hb hg_ hnew_; clear hg_ hnew_; (first | rw [← Ny221.out] at ho24 | (simp only [Int.reduceToNat] at ho24; rw [← Ny221.out] at ho24)); have n0_ := Aside0.mk (Kd.R_lower (Kd.R_newM (M := fun k_ => (w.heap.size ≤ k_)) ho24 (below_size (by repeat (first | (with_reducible first | exact HB.out | apply below_alloc | apply pw_below_drewN | apply below_drew1) | exact HB.out))) (fun k_ h_ => h_)) (below_size (by repeat (first | (with_reducible first | exact HB.out | apply below_alloc | apply pw_below_drewN | apply below_drew1) | exact HB.out)))); have n1_ := Aside0.mk (below_step (by repeat (first | (with_reducible first | exact HB.out | apply below_alloc | apply pw_below_drewN | apply below_drew1) | exact HB.out)) hb); clear HB; have HO223 := n0_; have HB := n1_; clear n0_ n1_; clear hb ho24)); try go_wp2_with (first | ((with_reducible refine gate_dst (N := 49) rfl ?_); (try (refine gate_guard (by rfl) ?_; dsimp only)); refine Kd.R_make (Kd.int .u64) _ 27 rfl (N := 49) rfl 22 _ _ rfl ji20 rfl rfl Tryd.underlying22 (.int .u64 0) 8 info27 rfl (by decide) (by omega) 0 (ok := fun _ => True) (okp := fun _ => True) rfl (fun _ hk => hk) trivial (of_decide_eq_true (by first | (with_reducible assumption) | assumption)) (Nat.le_trans (Nat.mul_le_mul_right _ (of_decide_eq_true (by first | (with_reducible assumption) | assumption) : ji20.toNat ≤ 35184372088832)) (by omega)) (Below.refl _ _) (Nat.le_refl _) ?_; intro v222 w23 ho24 hb hg_ hnew_; clear hg_ hnew_; (first | rw [← Ny221.out] at ho24 | (simp only [Int.reduceToNat] at ho24; rw [← Ny221.out] at ho24)); have n0_ := Aside0.mk (Kd.R_lower (Kd.R_newM (M := fun k_ => (w.heap.size ≤ k_)) ho24 (below_size (by repeat (first | (with_reducible first | exact HB.out | apply below_alloc | apply pw_below_drewN | apply below_drew1) | exact HB.out))) (fun k_ h_ => h_)) (below_size (by repeat (first | (with_reducible first | exact HB.out | apply below_alloc | apply pw_below_drewN | apply below_drew1) | exact HB.out)))); have n1_ := Aside0.mk (below_step (by repeat (first | (with_reducible first | exact HB.out | apply below_alloc | apply pw_below_drewN | apply below_drew1) | exact HB.out)) hb); clear HB; have HO223 := n0_; have HB := n1_; clear n0_ n1_; clear hb ho24)))
                            go_loopg [52] kj13 (fun kq v52 w' => ∃ (x6_3 : List Int) (x52_3 : Int), v52 = .int .i64 x52_3 ∧ Aside0 (nat_Mul.l0 kq y217 x6_3 y212 (y212.length : Int) x52_3 = some (r1, r2)) ∧ Aside0 (kq ≤ kj13) ∧ Aside0 (Kd.R (Kd.int .u64) 27 w' w.heap.size (fun k_ => (w.heap.size ≤ k_)) v222 x6_3) ∧ Aside0 (Below w.heap.size w w'))
                            case atStart => exact ⟨(y221), (0), (by first | rfl | (simp; done) | (simp [*]; done)), H', ⟨Nat.le_refl _⟩, ⟨by (with_reducible repeat (first | apply Kd.R_alloc | apply Kd.R_drewN | apply Kd.R_drew)); exact Kd.R_mono HO223.out (fun _ hk => hk.1)⟩, ⟨by repeat (first | (with_reducible first | exact HB.out | apply below_alloc | apply pw_below_drewN | apply below_drew1) | exact HB.out)⟩⟩
                            case round =>
                              clear H'
                              try clear c1
                              try clear q1
                              try clear c2
                              try clear p2
                              try clear c5
                              try clear p6
                              try clear c7
                              try clear c9
                              try clear c9b0
                              try clear c9b1
                              try clear c10
                              try clear c10b0
                              try clear c10b1
                              try clear c12
                              try clear c12b0
                              try clear c12b1
                              try clear c13
                              try clear c13b0
                              try clear c13b1
                              try clear c14
                              try clear q15
                              try clear q16
                              try clear c17
                              try clear c17b0
                              try clear c17b1
                              try clear c17b2
                              try clear c18
                              try clear c19
                              try clear c19b0
                              try clear c21
                              try clear c21b0
                              try clear c21b1
                              try clear c22
                              try clear c22b0
                              try clear c22b1
                              try clear p2
                              try clear q1
                              try clear q15
                              try clear q16
                              obtain ⟨x6_3, x52_3, rfl, HA, HK3, HO_6, HB⟩ := hrel
                              cases gk with
                              | zero => exact absurd HA.out (by simp [nat_Mul.l0])
                              | succ k3 =>
                                have H := HA.out
                                clear HA
                                simp only [nat_Mul.l0] at H
                                by_cases c25 : x52_3 < (y212.length : Int)
                                · rw [if_pos c25] at H
                                  have c25b0 : decide (x52_3 < (y212.length : Int)) = true := decide_eq_true c25
                                  clear c25
                                  by_cases c26 : 0 ≤ x52_3
                                  · rw [if_pos c26] at H
                                    have c26b0 : decide (0 ≤ x52_3) = true := decide_eq_true c26
                                    clear c26
                                    by_cases c27 : x52_3 < (y212.length : Int)
                                    · rw [if_pos c27] at H
                                      have c27b0 : decide (x52_3 < (y212.length : Int)) = true := decide_eq_true c27
                                      clear c27
                                      have H' := Aside0.mk H
                                      clear H
                                      have p228 : 0 ≤ (x52_3 : Int) := of_decide_eq_true (by first | (with_reducible assumption) | assumption)
                                      have q228 : x52_3 < (y212.length : Int) := of_decide_eq_true (by first | (with_reducible assumption) | assumption)
                                      obtain ⟨ad228, e228, hx228_0⟩ := Kd.at_int HR215.out x52_3 p228 q228
                                      cases e228
                                      replace hx228_0 := (HB.out.cell (World.block_lt_of_cell? w _ hx228_0)).trans hx228_0
                                      replace p228 := eq_true p228
                                      replace q228 := eq_true q228
                                      go_wp2
                                      repeat (go_quiet (fail); try go_wp2)
                                      go_loopg [9, 59] k3 (fun kq v9 v59 w' => ∃ (x6_4 : List Int) (x9_4 : Int) (x59_4 : Int), v9 = .int .u64 x9_4 ∧ v59 = .int .i64 x59_4 ∧ Aside0 (nat_Mul.l1 kq y217 x6_4 x52_3 (rd y212 x52_3) x9_4 y212 (y212.length : Int) x52_3 y217 (y217.length : Int) x59_4 = some (r1, r2)) ∧ Aside0 (kq ≤ k3) ∧ Aside0 (Kd.R (Kd.int .u64) 27 w' w.heap.size (fun k_ => (w.heap.size ≤ k_)) v222 x6_4) ∧ Aside0 (Below w.heap.size w w'))
                                      case atStart => exact ⟨(x6_3), (0), (0), (by first | rfl | (simp; done) | (simp [*]; done)), (by first | rfl | (simp; done) | (simp [*]; done)), H', ⟨Nat.le_refl _⟩, ⟨by (with_reducible repeat (first | apply Kd.R_alloc | apply Kd.R_drewN | apply Kd.R_drew)); exact HO_6.out⟩, ⟨by repeat (first | (with_reducible first | exact HB.out | apply below_alloc | apply pw_below_drewN | apply below_drew1) | exact HB.out)⟩⟩
                                      case round =>
                                        clear H'
                                        try clear c1
                                        try clear q1
                                        try clear c2
                                        try clear p2
                                        try clear q2
                                        try clear hx2
                                        try clear c5
                                        try clear p6
                                        try clear c7
                                        try clear c9
                                        try clear c9b0
                                        try clear c9b1
                                        try clear c10
                                        try clear c10b0
                                        try clear c10b1
                                        try clear c12
                                        try clear c12b0
                                        try clear c12b1
                                        try clear c13
                                        try clear c13b0
                                        try clear c13b1
                                        try clear c14
                                        try clear q15
                                        try clear q16
                                        try clear c17
                                        try clear c17b0
                                        try clear c17b1
                                        try clear c17b2
                                        try clear c18
                                        try clear c19
                                        try clear c19b0
                                        try clear c21
                                        try clear c21b0
                                        try clear c21b1
                                        try clear c22
                                        try clear c22b0
                                        try clear c22b1
                                        try clear p22
                                        try clear q22
                                        try clear hx22
                                        try clear c25
                                        try clear c25b0
                                        try clear c26
                                        try clear c26b0
                                        try clear c27
                                        try clear c27b0
                                        try clear hx228_0
                                        try clear p2
                                        try clear p228
                                        try clear p6
                                        try clear q1
                                        try clear q15
                                        try clear q16
                                        try clear q228
                                        obtain ⟨x6_4, x9_4, x59_4, rfl, rfl, HA, HK4, HO_6, HB⟩ := hrel
                                        cases gk with
                                        | zero => exact absurd HA.out (by simp [nat_Mul.l1])
                                        | succ k4 =>
                                          have H := HA.out
                                          clear HA
                                          simp only [nat_Mul.l1] at H
                                          by_cases c28 : x59_4 < (y217.length : Int)
                                          · rw [if_pos c28] at H
                                            have c28b0 : decide (x59_4 < (y217.length : Int)) = true := decide_eq_true c28
                                            clear c28
                                            by_cases c29 : 0 ≤ x59_4
                                            · rw [if_pos c29] at H
                                              have c29b0 : decide (0 ≤ x59_4) = true := decide_eq_true c29
                                              clear c29
                                              by_cases c30 : x59_4 < (y217.length : Int)
                                              · rw [if_pos c30] at H
                                                have c30b0 : decide (x59_4 < (y217.length : Int)) = true := decide_eq_true c30
                                                clear c30
                                                replace H := Option.bind_eq_some_iff.mp H
                                                obtain ⟨⟨t230, t231⟩, A310, H⟩ := H
                                                replace H : (if 0 ≤ (wrap64 (x52_3 + x59_4)) then (if (wrap64 (x52_3 + x59_4)) < (x6_4.length : Int) then ((bits_Add64.f t231 (rd x6_4 (wrap64 (x52_3 + x59_4))) 0).bind fun bt233 => ((bits_Add64.f bt233.1 x9_4 0).bind fun bt235 => (nat_Mul.l1 k4 y217 (x6_4.set ((wrap64 (x52_3 + x59_4)) : Int).toNat bt235.1) x52_3 (rd y212 x52_3) (IntKind.u64.wrap ((IntKind.u64.wrap (t230 + bt233.2)) + bt235.2)) y212 (y212.length : Int) x52_3 y217 (y217.length : Int) (wrap64 (x59_4 + 1))))) else (none)) else (none)) = some (r1, r2) := H
                                                have A31 := Aside0.mk A310
                                                clear A310
                                                obtain ⟨ji32, hji32⟩ : ∃ j_ : Int, (wrap64 (x52_3 + x59_4)) = j_ := ⟨_, rfl⟩
                                                replace H : (if 0 ≤ (ji32) then (if (ji32) < (x6_4.length : Int) then ((bits_Add64.f t231 (rd x6_4 (ji32)) 0).bind fun bt233 => ((bits_Add64.f bt233.1 x9_4 0).bind fun bt235 => (nat_Mul.l1 k4 y217 (x6_4.set ((ji32) : Int).toNat bt235.1) x52_3 (rd y212 x52_3) (IntKind.u64.wrap ((IntKind.u64.wrap (t230 + bt233.2)) + bt235.2)) y212 (y212.length : Int) x52_3 y217 (y217.length : Int) (wrap64 (x59_4 + 1))))) else (none)) else (none)) = some (r1, r2) := by first | (rw [hji32] at H; exact H) | (simp only [hji32] at H ⊢; exact H)
                                                (try rw [hji32] at A31)
                                                have hji32w : (IntKind.i64.wrap (x52_3 + x59_4)) = ji32 := (i64_w _).trans hji32
                                                by_cases c33 : 0 ≤ (ji32)
                                                · rw [if_pos c33] at H
                                                  have c33b0 : decide (0 ≤ (ji32)) = true := decide_eq_true c33
                                                  clear c33
                                                  by_cases c34 : (ji32) < (x6_4.length : Int)
                                                  · rw [if_pos c34] at H
                                                    have c34b0 : decide ((ji32) < (x6_4.length : Int)) = true := decide_eq_true c34
                                                    clear c34
                                                    replace H := Option.bind_eq_some_iff.mp H
                                                    obtain ⟨⟨t233, t234⟩, A350, H⟩ := H
                                                    replace H : ((bits_Add64.f t233 x9_4 0).bind fun bt235 => (nat_Mul.l1 k4 y217 (x6_4.set ((ji32) : Int).toNat bt235.1) x52_3 (rd y212 x52_3) (IntKind.u64.wrap ((IntKind.u64.wrap (t230 + t234)) + bt235.2)) y212 (y212.length : Int) x52_3 y217 (y217.length : Int) (wrap64 (x59_4 + 1)))) = some (r1, r2) := H
                                                    have A35 := Aside0.mk A350
                                                    clear A350
                                                    replace H := Option.bind_eq_some_iff.mp H
                                                    obtain ⟨⟨t235, t236⟩, A360, H⟩ := H
                                                    replace H : (nat_Mul.l1 k4 y217 (x6_4.set ((ji32) : Int).toNat t235) x52_3 (rd y212 x52_3) (IntKind.u64.wrap ((IntKind.u64.wrap (t230 + t234)) + t236)) y212 (y212.length : Int) x52_3 y217 (y217.length : Int) (wrap64 (x59_4 + 1))) = some (r1, r2) := H
                                                    have A36 := Aside0.mk A360
                                                    clear A360
                                                    obtain ⟨y237, hy237⟩ : ∃ y_ : List Int, y_ = (x6_4.set ((ji32) : Int).toNat t235) := ⟨_, rfl⟩
                                                    replace H : (nat_Mul.l1 k4 y217 y237 x52_3 (rd y212 x52_3) (IntKind.u64.wrap ((IntKind.u64.wrap (t230 + t234)) + t236)) y212 (y212.length : Int) x52_3 y217 (y217.length : Int) (wrap64 (x59_4 + 1))) = some (r1, r2) := by first | (rw [hy237]; with_reducible exact H) | (have H2_ := (Option.bind_some _ _).symm.trans H; rw [hy237]; with_reducible exact H2_) | (have H2_ := (Option.bind_some _ _).symm.trans H; with_reducible exact H2_) | with_reducible exact H | (rw [hy237]; exact H) | exact H
                                                    have Ny237 := Aside0.mk hy237
                                                    clear hy237
                                                    have H' := Aside0.mk H
                                                    clear H
                                                    have p229 : 0 ≤ (x59_4 : Int) := of_decide_eq_true (by first | (with_reducible assumption) | assumption)
                                                    have q229 : x59_4 < (y217.length : Int) := of_decide_eq_true (by first | (with_reducible assumption) | assumption)
                                                    obtain ⟨ad229, e229, hx229_0⟩ := Kd.at_int HR220.out x59_4 p229 q229
                                                    cases e229
                                                    replace hx229_0 := (HB.out.cell (World.block_lt_of_cell? w _ hx229_0)).trans hx229_0
                                                    replace p229 := eq_true p229
                                                    replace q229 := eq_true q229
                                                    go_wp2_with (first | (go_at_call 40; (with_reducible refine (bits_Mul64.calls (rd y212 x52_3) (rd y217 x59_4) t230 t231 _ A31.out).mono ?_); rintro e w' ⟨rfl, ⟨nd, rfl⟩⟩; (try first | exact ⟨rfl, _, World.drewN_drewN _ _ _⟩ | exact ⟨rfl, _, Eq.trans (World.drewN_drewN _ _ _) (congrArg (World.drewN _) (Nat.add_assoc _ _ _))⟩); obtain ⟨Ao38, co38, eo38⟩ := Kd.R_slice HO_6.out; subst eo38; have p232 : 0 ≤ ((ji32) : Int) := of_decide_eq_true (by first | (with_reducible assumption) | assumption); have q232 : (ji32) < (x6_4.length : Int) := of_decide_eq_true (by first | (with_reducible assumption) | assumption); obtain ⟨ad232, e232, hx232_0⟩ := Kd.at_int (Kd.R_reads' HO_6.out).2.2 (ji32) p232 q232; cases e232; replace p232 := eq_true p232; replace q232 := eq_true q232) | ((with_reducible refine gate_callee (f := 41) rfl ?_); refine goesX_ (some 78) rfl rfl Tryd.func41 (by kernel_rfl) rfl #[.int .u64 t231, .int .u64 (rd x6_4 (ji32)), .int .u64 0] rfl (by (try simp only [List.map_toArray, List.map_cons, List.map_nil]); first | done | (simp only [hji32]; rfl) | rfl | (simp only [List.length_drop, List.length_take]; rfl) | (simp only [gt_iff_lt, Int.natCast_pos]; done) | (simp only [gt_iff_lt, Int.natCast_pos]; rfl)) ?_; (with_reducible refine (bits_Add64.calls t231 (rd x6_4 (ji32)) 0 t233 t234 _ A35.out).mono ?_); rintro e w' ⟨rfl, rfl⟩; refine ⟨_, rfl, ?_⟩) | ((with_reducible refine gate_callee (f := 41) rfl ?_); refine goesX_ (some 87) rfl rfl Tryd.func41 (by kernel_rfl) rfl #[.int .u64 t233, .int .u64 x9_4, .int .u64 0] rfl (by (try simp only [List.map_toArray, List.map_cons, List.map_nil]); first | done | rfl | (simp only [List.length_drop, List.length_take]; rfl) | (simp only [gt_iff_lt, Int.natCast_pos]; done) | (simp only [gt_iff_lt, Int.natCast_pos]; rfl)) ?_; (with_reducible refine (bits_Add64.calls t233 x9_4 0 t235 t236 _ A36.out).mono ?_); rintro e w' ⟨rfl, rfl⟩; refine ⟨_, rfl, ?_⟩; have p37 : 0 ≤ ((ji32) : Int) := of_decide_eq_true (by first | (with_reducible assumption) | assumption); have q37 : ((ji32) : Int) < ((x6_4.length : Int) : Int) := of_decide_eq_true (by first | (with_reducible assumption) | assumption); obtain ⟨go37, co37, eo37, gb37, gl37, cl37, HG37⟩ := Kd.R_form HO_6.out (by omega); (first | cases eo37 | (injection eo37 with ea_ en_ ec_; (first | subst ea_ | (injection ea_ with ea_; subst ea_)); subst ec_; clear en_)); have GB37 := Aside0.mk gb37; have GG37 := Aside0.mk HG37; clear gb37 gl37 HG37; (first | simp only [add_plain] at hx232_0 | skip); obtain ⟨hx37_0, hf37_0⟩ := Kd.R_celln 0 HO_6.out ((ji32) : Int) p37 q37; replace p37 := eq_true p37; replace q37 := eq_true q37; obtain ⟨hy39_, hz39_⟩ := Kd.R_celln 0 HO_6.out ((ji32) : Int) (of_decide_eq_true (by first | (with_reducible assumption) | assumption)) (of_decide_eq_true (by first | (with_reducible assumption) | assumption)); have HP39 := Kd.R_putg HO_6.out ((ji32) : Int) t235) | ((with_reducible refine gate_store (t := 27) (p := 98) rfl ?_); (try (rw [drewN_self wr]; generalize hq_ : World.drewN wr _ = wr; have n0_ := Aside0.mk (Kd.R_at hq_ HO_6.out); have n1_ := Aside0.mk (below_at hq_ HB.out); clear hq_ HO_6 HB; have HO_6 := n0_; have HB := n1_; clear n0_ n1_; (try (obtain ⟨hy39_, hz39_⟩ := Kd.R_celln 0 HO_6.out ((ji32) : Int) (of_decide_eq_true (by first | (with_reducible assumption) | assumption)) (of_decide_eq_true (by first | (with_reducible assumption) | assumption)))); (try (have HP39 := Kd.R_putg HO_6.out ((ji32) : Int) t235)))); refine store_event (t := 27) (p := 98) (v := ?vo_w40) (w1 := (wr.setCell ⟨go37, ((ji32) : Int).toNat, none⟩ (.int .u64 t235))) ?hg ?ho ?hn ?hr ?_; (case ho => rfl); (case hg => rfl); (case hn => rfl); (case hr => first | (go_simp; done) | (go_simp; rfl)); intro w40 hw; have hg : wr.grownBy w40 (some go37) := (by rw [hw]; exact HP39.2); have hp_ : Kd.R (Kd.int .u64) 27 w40 w.heap.size (fun k_ => (w.heap.size ≤ k_)) (.slice (some ⟨go37, 0, none⟩) x6_4.length co38) y237 := (by rw [hw, Ny237.out]; exact HP39.1); clear HP39; have n0_ := Aside0.mk (hp_); have n1_ := Aside0.mk ((by rw [hw]; exact below_set (HB.out) GB37.out : Below w.heap.size w w40)); clear HO_6; clear HB; have HO_6 := n0_; have HB := n1_; clear n0_ n1_; clear hg hw hp_))
                                                    repeat (go_quiet (first | (go_at_call 40; (with_reducible refine (bits_Mul64.calls (rd y212 x52_3) (rd y217 x59_4) t230 t231 _ A31.out).mono ?_); rintro e w' ⟨rfl, ⟨nd, rfl⟩⟩; (try first | exact ⟨rfl, _, World.drewN_drewN _ _ _⟩ | exact ⟨rfl, _, Eq.trans (World.drewN_drewN _ _ _) (congrArg (World.drewN _) (Nat.add_assoc _ _ _))⟩); obtain ⟨Ao38, co38, eo38⟩ := Kd.R_slice HO_6.out; subst eo38; have p232 : 0 ≤ ((ji32) : Int) := of_decide_eq_true (by first | (with_reducible assumption) | assumption); have q232 : (ji32) < (x6_4.length : Int) := of_decide_eq_true (by first | (with_reducible assumption) | assumption); obtain ⟨ad232, e232, hx232_0⟩ := Kd.at_int (Kd.R_reads' HO_6.out).2.2 (ji32) p232 q232; cases e232; replace p232 := eq_true p232; replace q232 := eq_true q232) | ((with_reducible refine gate_callee (f := 41) rfl ?_); refine goesX_ (some 78) rfl rfl Tryd.func41 (by kernel_rfl) rfl #[.int .u64 t231, .int .u64 (rd x6_4 (ji32)), .int .u64 0] rfl (by (try simp only [List.map_toArray, List.map_cons, List.map_nil]); first | done | (simp only [hji32]; rfl) | rfl | (simp only [List.length_drop, List.length_take]; rfl) | (simp only [gt_iff_lt, Int.natCast_pos]; done) | (simp only [gt_iff_lt, Int.natCast_pos]; rfl)) ?_; (with_reducible refine (bits_Add64.calls t231 (rd x6_4 (ji32)) 0 t233 t234 _ A35.out).mono ?_); rintro e w' ⟨rfl, rfl⟩; refine ⟨_, rfl, ?_⟩) | ((with_reducible refine gate_callee (f := 41) rfl ?_); refine goesX_ (some 87) rfl rfl Tryd.func41 (by kernel_rfl) rfl #[.int .u64 t233, .int .u64 x9_4, .int .u64 0] rfl (by (try simp only [List.map_toArray, List.map_cons, List.map_nil]); first | done | rfl | (simp only [List.length_drop, List.length_take]; rfl) | (simp only [gt_iff_lt, Int.natCast_pos]; done) | (simp only [gt_iff_lt, Int.natCast_pos]; rfl)) ?_; (with_reducible refine (bits_Add64.calls t233 x9_4 0 t235 t236 _ A36.out).mono ?_); rintro e w' ⟨rfl, rfl⟩; refine ⟨_, rfl, ?_⟩; have p37 : 0 ≤ ((ji32) : Int) := of_decide_eq_true (by first | (with_reducible assumption) | assumption); have q37 : ((ji32) : Int) < ((x6_4.length : Int) : Int) := of_decide_eq_true (by first | (with_reducible assumption) | assumption); obtain ⟨go37, co37, eo37, gb37, gl37, cl37, HG37⟩ := Kd.R_form HO_6.out (by omega); (first | cases eo37 | (injection eo37 with ea_ en_ ec_; (first | subst ea_ | (injection ea_ with ea_; subst ea_)); subst ec_; clear en_)); have GB37 := Aside0.mk gb37; have GG37 := Aside0.mk HG37; clear gb37 gl37 HG37; (first | simp only [add_plain] at hx232_0 | skip); obtain ⟨hx37_0, hf37_0⟩ := Kd.R_celln 0 HO_6.out ((ji32) : Int) p37 q37; replace p37 := eq_true p37; replace q37 := eq_true q37; obtain ⟨hy39_, hz39_⟩ := Kd.R_celln 0 HO_6.out ((ji32) : Int) (of_decide_eq_true (by first | (with_reducible assumption) | assumption)) (of_decide_eq_true (by first | (with_reducible assumption) | assumption)); have HP39 := Kd.R_putg HO_6.out ((ji32) : Int) t235) | ((with_reducible refine gate_store (t := 27) (p := 98) rfl ?_); (try (rw [drewN_self wr]; generalize hq_ : World.drewN wr _ = wr; have n0_ := Aside0.mk (Kd.R_at hq_ HO_6.out); have n1_ := Aside0.mk (below_at hq_ HB.out); clear hq_ HO_6 HB; have HO_6 := n0_; have HB := n1_; clear n0_ n1_; (try (obtain ⟨hy39_, hz39_⟩ := Kd.R_celln 0 HO_6.out ((ji32) : Int) (of_decide_eq_true (by first | (with_reducible assumption) | assumption)) (of_decide_eq_true (by first | (with_reducible assumption) | assumption)))); (try (have HP39 := Kd.R_putg HO_6.out ((ji32) : Int) t235)))); refine store_event (t := 27) (p := 98) (v := ?vo_w40) (w1 := (wr.setCell ⟨go37, ((ji32) : Int).toNat, none⟩ (.int .u64 t235))) ?hg ?ho ?hn ?hr ?_; (case ho => rfl); (case hg => rfl); (case hn => rfl); (case hr => first | (go_simp; done) | (go_simp; rfl)); intro w40 hw; have hg : wr.grownBy w40 (some go37) := (by rw [hw]; exact HP39.2); have hp_ : Kd.R (Kd.int .u64) 27 w40 w.heap.size (fun k_ => (w.heap.size ≤ k_)) (.slice (some ⟨go37, 0, none⟩) x6_4.length co38) y237 := (by rw [hw, Ny237.out]; exact HP39.1); clear HP39; have n0_ := Aside0.mk (hp_); have n1_ := Aside0.mk ((by rw [hw]; exact below_set (HB.out) GB37.out : Below w.heap.size w w40)); clear HO_6; clear HB; have HO_6 := n0_; have HB := n1_; clear n0_ n1_; clear hg hw hp_)); try go_wp2_with (first | (go_at_call 40; (with_reducible refine (bits_Mul64.calls (rd y212 x52_3) (rd y217 x59_4) t230 t231 _ A31.out).mono ?_); rintro e w' ⟨rfl, ⟨nd, rfl⟩⟩; (try first | exact ⟨rfl, _, World.drewN_drewN _ _ _⟩ | exact ⟨rfl, _, Eq.trans (World.drewN_drewN _ _ _) (congrArg (World.drewN _) (Nat.add_assoc _ _ _))⟩); obtain ⟨Ao38, co38, eo38⟩ := Kd.R_slice HO_6.out; subst eo38; have p232 : 0 ≤ ((ji32) : Int) := of_decide_eq_true (by first | (with_reducible assumption) | assumption); have q232 : (ji32) < (x6_4.length : Int) := of_decide_eq_true (by first | (with_reducible assumption) | assumption); obtain ⟨ad232, e232, hx232_0⟩ := Kd.at_int (Kd.R_reads' HO_6.out).2.2 (ji32) p232 q232; cases e232; replace p232 := eq_true p232; replace q232 := eq_true q232) | ((with_reducible refine gate_callee (f := 41) rfl ?_); refine goesX_ (some 78) rfl rfl Tryd.func41 (by kernel_rfl) rfl #[.int .u64 t231, .int .u64 (rd x6_4 (ji32)), .int .u64 0] rfl (by (try simp only [List.map_toArray, List.map_cons, List.map_nil]); first | done | (simp only [hji32]; rfl) | rfl | (simp only [List.length_drop, List.length_take]; rfl) | (simp only [gt_iff_lt, Int.natCast_pos]; done) | (simp only [gt_iff_lt, Int.natCast_pos]; rfl)) ?_; (with_reducible refine (bits_Add64.calls t231 (rd x6_4 (ji32)) 0 t233 t234 _ A35.out).mono ?_); rintro e w' ⟨rfl, rfl⟩; refine ⟨_, rfl, ?_⟩) | ((with_reducible refine gate_callee (f := 41) rfl ?_); refine goesX_ (some 87) rfl rfl Tryd.func41 (by kernel_rfl) rfl #[.int .u64 t233, .int .u64 x9_4, .int .u64 0] rfl (by (try simp only [List.map_toArray, List.map_cons, List.map_nil]); first | done | rfl | (simp only [List.length_drop, List.length_take]; rfl) | (simp only [gt_iff_lt, Int.natCast_pos]; done) | (simp only [gt_iff_lt, Int.natCast_pos]; rfl)) ?_; (with_reducible refine (bits_Add64.calls t233 x9_4 0 t235 t236 _ A36.out).mono ?_); rintro e w' ⟨rfl, rfl⟩; refine ⟨_, rfl, ?_⟩; have p37 : 0 ≤ ((ji32) : Int) := of_decide_eq_true (by first | (with_reducible assumption) | assumption); have q37 : ((ji32) : Int) < ((x6_4.length : Int) : Int) := of_decide_eq_true (by first | (with_reducible assumption) | assumption); obtain ⟨go37, co37, eo37, gb37, gl37, cl37, HG37⟩ := Kd.R_form HO_6.out (by omega); (first | cases eo37 | (injection eo37 with ea_ en_ ec_; (first | subst ea_ | (injection ea_ with ea_; subst ea_)); subst ec_; clear en_)); have GB37 := Aside0.mk gb37; have GG37 := Aside0.mk HG37; clear gb37 gl37 HG37; (first | simp only [add_plain] at hx232_0 | skip); obtain ⟨hx37_0, hf37_0⟩ := Kd.R_celln 0 HO_6.out ((ji32) : Int) p37 q37; replace p37 := eq_true p37; replace q37 := eq_true q37; obtain ⟨hy39_, hz39_⟩ := Kd.R_celln 0 HO_6.out ((ji32) : Int) (of_decide_eq_true (by first | (with_reducible assumption) | assumption)) (of_decide_eq_true (by first | (with_reducible assumption) | assumption)); have HP39 := Kd.R_putg HO_6.out ((ji32) : Int) t235) | ((with_reducible refine gate_store (t := 27) (p := 98) rfl ?_); (try (rw [drewN_self wr]; generalize hq_ : World.drewN wr _ = wr; have n0_ := Aside0.mk (Kd.R_at hq_ HO_6.out); have n1_ := Aside0.mk (below_at hq_ HB.out); clear hq_ HO_6 HB; have HO_6 := n0_; have HB := n1_; clear n0_ n1_; (try (obtain ⟨hy39_, hz39_⟩ := Kd.R_celln 0 HO_6.out ((ji32) : Int) (of_decide_eq_true (by first | (with_reducible assumption) | assumption)) (of_decide_eq_true (by first | (with_reducible assumption) | assumption)))); (try (have HP39 := Kd.R_putg HO_6.out ((ji32) : Int) t235)))); refine store_event (t := 27) (p := 98) (v := ?vo_w40) (w1 := (wr.setCell ⟨go37, ((ji32) : Int).toNat, none⟩ (.int .u64 t235))) ?hg ?ho ?hn ?hr ?_; (case ho => rfl); (case hg => rfl); (case hn => rfl); (case hr => first | (go_simp; done) | (go_simp; rfl)); intro w40 hw; have hg : wr.grownBy w40 (some go37) := (by rw [hw]; exact HP39.2); have hp_ : Kd.R (Kd.int .u64) 27 w40 w.heap.size (fun k_ => (w.heap.size ≤ k_)) (.slice (some ⟨go37, 0, none⟩) x6_4.length co38) y237 := (by rw [hw, Ny237.out]; exact HP39.1); clear HP39; have n0_ := Aside0.mk (hp_); have n1_ := Aside0.mk ((by rw [hw]; exact below_set (HB.out) GB37.out : Below w.heap.size w w40)); clear HO_6; clear HB; have HO_6 := n0_; have HB := n1_; clear n0_ n1_; clear hg hw hp_)))
                                                    go_roundg k4
                                                    case measure => have := HJ2.out; have := HJ13.out; have := HK3.out; have := HK4.out; omega
                                                    case rel => exact ⟨(y237), (IntKind.u64.wrap ((IntKind.u64.wrap (t230 + t234)) + t236)), (wrap64 (x59_4 + 1)), (by first | rfl | (simp; done) | (simp [*]; done)), (by first | rfl | (simp; done) | (simp [*]; done)), H', ⟨by have := HJ2.out; have := HJ13.out; have := HK3.out; have := HK4.out; omega⟩, ⟨by (with_reducible repeat (first | apply Kd.R_alloc | apply Kd.R_drewN | apply Kd.R_drew)); exact HO_6.out⟩, ⟨by repeat (first | (with_reducible first | exact HB.out | apply below_alloc | apply pw_below_drewN | apply below_drew1) | exact HB.out)⟩⟩
                                                  · rw [if_neg c34] at H
                                                    exact absurd H (by simp)
                                                · rw [if_neg c33] at H
                                                  exact absurd H (by simp)
                                              · rw [if_neg c30] at H
                                                exact absurd H (by simp)
                                            · rw [if_neg c29] at H
                                              exact absurd H (by simp)
                                          · rw [if_neg c28] at H
                                            have c28b0 : decide (x59_4 < (y217.length : Int)) = false := decide_eq_false c28
                                            clear c28
                                            obtain ⟨ji41, hji41⟩ : ∃ j_ : Int, (wrap64 (x52_3 + (y217.length : Int))) = j_ := ⟨_, rfl⟩
                                            replace H : (if 0 ≤ (ji41) then (if (ji41) < (x6_4.length : Int) then (nat_Mul.l0 k4 y217 (x6_4.set ((ji41) : Int).toNat x9_4) y212 (y212.length : Int) (wrap64 (x52_3 + 1))) else (none)) else (none)) = some (r1, r2) := by first | (rw [hji41] at H; exact H) | (simp only [hji41] at H ⊢; exact H)
                                            have hji41w : (IntKind.i64.wrap (x52_3 + (y217.length : Int))) = ji41 := (i64_w _).trans hji41
                                            by_cases c42 : 0 ≤ (ji41)
                                            · rw [if_pos c42] at H
                                              have c42b0 : decide (0 ≤ (ji41)) = true := decide_eq_true c42
                                              clear c42
                                              by_cases c43 : (ji41) < (x6_4.length : Int)
                                              · rw [if_pos c43] at H
                                                have c43b0 : decide ((ji41) < (x6_4.length : Int)) = true := decide_eq_true c43
                                                clear c43
                                                obtain ⟨y238, hy238⟩ : ∃ y_ : List Int, y_ = (x6_4.set ((ji41) : Int).toNat x9_4) := ⟨_, rfl⟩
                                                replace H : (nat_Mul.l0 k4 y217 y238 y212 (y212.length : Int) (wrap64 (x52_3 + 1))) = some (r1, r2) := by first | (rw [hy238]; with_reducible exact H) | (have H2_ := (Option.bind_some _ _).symm.trans H; rw [hy238]; with_reducible exact H2_) | (have H2_ := (Option.bind_some _ _).symm.trans H; with_reducible exact H2_) | with_reducible exact H | (rw [hy238]; exact H) | exact H
                                                have Ny238 := Aside0.mk hy238
                                                clear hy238
                                                have H' := Aside0.mk H
                                                clear H
                                                have p44 : 0 ≤ ((ji41) : Int) := of_decide_eq_true (by first | (with_reducible assumption) | assumption)
                                                have q44 : ((ji41) : Int) < ((x6_4.length : Int) : Int) := of_decide_eq_true (by first | (with_reducible assumption) | assumption)
                                                obtain ⟨go44, co44, eo44, gb44, gl44, cl44, HG44⟩ := Kd.R_form HO_6.out (by omega)
                                                (first | cases eo44 | (injection eo44 with ea_ en_ ec_; (first | subst ea_ | (injection ea_ with ea_; subst ea_)); subst ec_; clear en_))
                                                have GB44 := Aside0.mk gb44
                                                have GG44 := Aside0.mk HG44
                                                clear gb44 gl44 HG44
                                                obtain ⟨hx44_0, hf44_0⟩ := Kd.R_celln 0 HO_6.out ((ji41) : Int) p44 q44
                                                replace p44 := eq_true p44
                                                replace q44 := eq_true q44
                                                have HP45 := Kd.R_putg HO_6.out ((ji41) : Int) x9_4
                                                go_wp2_with (first | ((with_reducible refine gate_store (t := 27) (p := 107) rfl ?_); (try (rw [drewN_self wr]; generalize hq_ : World.drewN wr _ = wr; have n0_ := Aside0.mk (Kd.R_at hq_ HO_6.out); have n1_ := Aside0.mk (below_at hq_ HB.out); clear hq_ HO_6 HB; have HO_6 := n0_; have HB := n1_; clear n0_ n1_; (try (have HP45 := Kd.R_putg HO_6.out ((ji41) : Int) x9_4)))); refine store_event (t := 27) (p := 107) (v := ?vo_w46) (w1 := (wr.setCell ⟨go44, ((ji41) : Int).toNat, none⟩ (.int .u64 x9_4))) ?hg ?ho ?hn ?hr ?_; (case ho => rfl); (case hg => rfl); (case hn => rfl); (case hr => first | (go_simp; done) | (go_simp; rfl)); intro w46 hw; have hg : wr.grownBy w46 (some go44) := (by rw [hw]; exact HP45.2); have hp_ : Kd.R (Kd.int .u64) 27 w46 w.heap.size (fun k_ => (w.heap.size ≤ k_)) (.slice (some ⟨go44, 0, none⟩) x6_4.length co44) y238 := (by rw [hw, Ny238.out]; exact HP45.1); clear HP45; have n0_ := Aside0.mk (hp_); have n1_ := Aside0.mk ((by rw [hw]; exact below_set (HB.out) GB44.out : Below w.heap.size w w46)); clear HO_6; clear HB; have HO_6 := n0_; have HB := n1_; clear n0_ n1_; clear hg hw hp_))
                                                repeat (go_quiet (first | ((with_reducible refine gate_store (t := 27) (p := 107) rfl ?_); (try (rw [drewN_self wr]; generalize hq_ : World.drewN wr _ = wr; have n0_ := Aside0.mk (Kd.R_at hq_ HO_6.out); have n1_ := Aside0.mk (below_at hq_ HB.out); clear hq_ HO_6 HB; have HO_6 := n0_; have HB := n1_; clear n0_ n1_; (try (have HP45 := Kd.R_putg HO_6.out ((ji41) : Int) x9_4)))); refine store_event (t := 27) (p := 107) (v := ?vo_w46) (w1 := (wr.setCell ⟨go44, ((ji41) : Int).toNat, none⟩ (.int .u64 x9_4))) ?hg ?ho ?hn ?hr ?_; (case ho => rfl); (case hg => rfl); (case hn => rfl); (case hr => first | (go_simp; done) | (go_simp; rfl)); intro w46 hw; have hg : wr.grownBy w46 (some go44) := (by rw [hw]; exact HP45.2); have hp_ : Kd.R (Kd.int .u64) 27 w46 w.heap.size (fun k_ => (w.heap.size ≤ k_)) (.slice (some ⟨go44, 0, none⟩) x6_4.length co44) y238 := (by rw [hw, Ny238.out]; exact HP45.1); clear HP45; have n0_ := Aside0.mk (hp_); have n1_ := Aside0.mk ((by rw [hw]; exact below_set (HB.out) GB44.out : Below w.heap.size w w46)); clear HO_6; clear HB; have HO_6 := n0_; have HB := n1_; clear n0_ n1_; clear hg hw hp_)); try go_wp2_with (first | ((with_reducible refine gate_store (t := 27) (p := 107) rfl ?_); (try (rw [drewN_self wr]; generalize hq_ : World.drewN wr _ = wr; have n0_ := Aside0.mk (Kd.R_at hq_ HO_6.out); have n1_ := Aside0.mk (below_at hq_ HB.out); clear hq_ HO_6 HB; have HO_6 := n0_; have HB := n1_; clear n0_ n1_; (try (have HP45 := Kd.R_putg HO_6.out ((ji41) : Int) x9_4)))); refine store_event (t := 27) (p := 107) (v := ?vo_w46) (w1 := (wr.setCell ⟨go44, ((ji41) : Int).toNat, none⟩ (.int .u64 x9_4))) ?hg ?ho ?hn ?hr ?_; (case ho => rfl); (case hg => rfl); (case hn => rfl); (case hr => first | (go_simp; done) | (go_simp; rfl)); intro w46 hw; have hg : wr.grownBy w46 (some go44) := (by rw [hw]; exact HP45.2); have hp_ : Kd.R (Kd.int .u64) 27 w46 w.heap.size (fun k_ => (w.heap.size ≤ k_)) (.slice (some ⟨go44, 0, none⟩) x6_4.length co44) y238 := (by rw [hw, Ny238.out]; exact HP45.1); clear HP45; have n0_ := Aside0.mk (hp_); have n1_ := Aside0.mk ((by rw [hw]; exact below_set (HB.out) GB44.out : Below w.heap.size w w46)); clear HO_6; clear HB; have HO_6 := n0_; have HB := n1_; clear n0_ n1_; clear hg hw hp_)))
                                                go_roundg k4
                                                case measure => have := HJ2.out; have := HJ13.out; have := HK3.out; have := HK4.out; omega
                                                case rel => exact ⟨(y238), (wrap64 (x52_3 + 1)), (by first | rfl | (simp; done) | (simp [*]; done)), H', ⟨by have := HJ2.out; have := HJ13.out; have := HK3.out; have := HK4.out; omega⟩, ⟨by (with_reducible repeat (first | apply Kd.R_alloc | apply Kd.R_drewN | apply Kd.R_drew)); exact HO_6.out⟩, ⟨by repeat (first | (with_reducible first | exact HB.out | apply below_alloc | apply pw_below_drewN | apply below_drew1) | exact HB.out)⟩⟩
                                              · rw [if_neg c43] at H
                                                exact absurd H (by simp)
                                            · rw [if_neg c42] at H
                                              exact absurd H (by simp)
                                    · rw [if_neg c27] at H
                                      exact absurd H (by simp)
                                  · rw [if_neg c26] at H
                                    exact absurd H (by simp)
                                · rw [if_neg c25] at H
                                  have c25b0 : decide (x52_3 < (y212.length : Int)) = false := decide_eq_false c25
                                  clear c25
                                  replace H := Option.bind_eq_some_iff.mp H
                                  obtain ⟨⟨t224, t227⟩, A470, H⟩ := H
                                  replace H : (some (t224, t227)) = some (r1, r2) := H
                                  have A47 := Aside0.mk A470
                                  clear A470
                                  simp only [Option.some.injEq, Prod.mk.injEq] at H
                                  obtain ⟨rfl, rfl⟩ := H
                                  obtain ⟨Ao48, co48, eo48⟩ := Kd.R_slice HO_6.out
                                  subst eo48
                                  go_wp2_with (first | (go_at_call 42; (with_reducible refine (nat_cut.calls k3 (fun k_ => some k_ = (.slice Ao48 x6_3.length co48 : Value).ownBlock) _ _ x6_3 t224 t227 _ ?side1 A47.out).mono ?_); (case side1 => exact Kd.R_V (Kd.R_tight rfl (HO_6.out))); rintro e w49 ⟨v225, rfl, ho0, hb⟩; have n0_ := Aside0.mk (Kd.R_below (by (with_reducible repeat (first | apply Kd.R_alloc | apply Kd.R_drewN | apply Kd.R_drew)); exact HO_6.out) hb); have n1_ := Aside0.mk (Kd.V_lower (Kd.V_mono (ok' := fun k_ => (w.heap.size ≤ k_)) ho0 (fun k_ hk_ => Or.elim hk_ (fun hs_ => ((HO_6.out).1 k_ hs_.symm)) (fun hn_ => (Nat.le_trans (below_size (by repeat (first | (with_reducible first | exact HB.out | apply below_alloc | apply pw_below_drewN | apply below_drew1) | exact HB.out))) hn_)))) (below_size (by repeat (first | (with_reducible first | exact HB.out | apply below_alloc | apply pw_below_drewN | apply below_drew1) | exact HB.out)))); have n2_ := Aside0.mk (below_step (by repeat (first | (with_reducible first | exact HB.out | apply below_alloc | apply pw_below_drewN | apply below_drew1) | exact HB.out)) hb); clear HO_6; clear HB; have HO_6 := n0_; have HO226 := n1_; have HB := n2_; clear n0_ n1_ n2_; (try clear hb); (try clear hb2); (try clear hk); (try clear hi); (try clear ho0)))
                                  repeat (go_quiet (first | (go_at_call 42; (with_reducible refine (nat_cut.calls k3 (fun k_ => some k_ = (.slice Ao48 x6_3.length co48 : Value).ownBlock) _ _ x6_3 t224 t227 _ ?side1 A47.out).mono ?_); (case side1 => exact Kd.R_V (Kd.R_tight rfl (HO_6.out))); rintro e w49 ⟨v225, rfl, ho0, hb⟩; have n0_ := Aside0.mk (Kd.R_below (by (with_reducible repeat (first | apply Kd.R_alloc | apply Kd.R_drewN | apply Kd.R_drew)); exact HO_6.out) hb); have n1_ := Aside0.mk (Kd.V_lower (Kd.V_mono (ok' := fun k_ => (w.heap.size ≤ k_)) ho0 (fun k_ hk_ => Or.elim hk_ (fun hs_ => ((HO_6.out).1 k_ hs_.symm)) (fun hn_ => (Nat.le_trans (below_size (by repeat (first | (with_reducible first | exact HB.out | apply below_alloc | apply pw_below_drewN | apply below_drew1) | exact HB.out))) hn_)))) (below_size (by repeat (first | (with_reducible first | exact HB.out | apply below_alloc | apply pw_below_drewN | apply below_drew1) | exact HB.out)))); have n2_ := Aside0.mk (below_step (by repeat (first | (with_reducible first | exact HB.out | apply below_alloc | apply pw_below_drewN | apply below_drew1) | exact HB.out)) hb); clear HO_6; clear HB; have HO_6 := n0_; have HO226 := n1_; have HB := n2_; clear n0_ n1_ n2_; (try clear hb); (try clear hb2); (try clear hk); (try clear hi); (try clear ho0))); try go_wp2_with (first | (go_at_call 42; (with_reducible refine (nat_cut.calls k3 (fun k_ => some k_ = (.slice Ao48 x6_3.length co48 : Value).ownBlock) _ _ x6_3 t224 t227 _ ?side1 A47.out).mono ?_); (case side1 => exact Kd.R_V (Kd.R_tight rfl (HO_6.out))); rintro e w49 ⟨v225, rfl, ho0, hb⟩; have n0_ := Aside0.mk (Kd.R_below (by (with_reducible repeat (first | apply Kd.R_alloc | apply Kd.R_drewN | apply Kd.R_drew)); exact HO_6.out) hb); have n1_ := Aside0.mk (Kd.V_lower (Kd.V_mono (ok' := fun k_ => (w.heap.size ≤ k_)) ho0 (fun k_ hk_ => Or.elim hk_ (fun hs_ => ((HO_6.out).1 k_ hs_.symm)) (fun hn_ => (Nat.le_trans (below_size (by repeat (first | (with_reducible first | exact HB.out | apply below_alloc | apply pw_below_drewN | apply below_drew1) | exact HB.out))) hn_)))) (below_size (by repeat (first | (with_reducible first | exact HB.out | apply below_alloc | apply pw_below_drewN | apply below_drew1) | exact HB.out)))); have n2_ := Aside0.mk (below_step (by repeat (first | (with_reducible first | exact HB.out | apply below_alloc | apply pw_below_drewN | apply below_drew1) | exact HB.out)) hb); clear HO_6; clear HB; have HO_6 := n0_; have HO226 := n1_; have HB := n2_; clear n0_ n1_ n2_; (try clear hb); (try clear hb2); (try clear hk); (try clear hi); (try clear ho0))))
                                  go_ret2
                                  exact ⟨_, by first | rfl | (simp [errW_none, errW_some] <;> rfl) | (simp only [← hji20]; first | rfl | (simp [errW_none, errW_some] <;> rfl)) | (simp [*, errW_none, errW_some] <;> rfl), by (with_reducible repeat (first | apply Kd.V_alloc | apply Kd.V_drewN | apply Kd.V_drew)); exact HO226.out, by repeat (first | (with_reducible first | exact HB.out | apply below_alloc | apply pw_below_drewN | apply below_drew1) | exact HB.out)⟩
                          · rw [if_neg c22] at H
                            exact absurd H (by simp)
                        · rw [if_neg c21] at H
                          exact absurd H (by simp)
              · rw [if_neg c13] at H
                exact absurd H (by simp)
            · rw [if_neg c12] at H
              exact absurd H (by simp)
          · rw [if_neg c10] at H
            exact absurd H (by simp)
        · rw [if_neg c9] at H
          exact absurd H (by simp)

end Go.Proofs.YtegollbojafekaaDoor.PS
