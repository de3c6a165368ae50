-- printed by a program
import Derived.Test.YtegollbojafekaaPAx0
import Derived.Test.YtegollbojafekaaPAx1
namespace Go.Proofs.Ytegollbojafekaa.PA
open Go.Proofs.YtegollbojafekaaX
open Go.RowKit Go.Proofs.YtegollbojafekaaW.PrintWords Go.Proofs.YtegollbojafekaaW.PrintLast Go.Proofs.YtegollbojafekaaW.PrintMore
attribute [local go_sem] max2_int min2_int max_two min_two max_three min_three max_four min_four   -- for this text's walks alone
set_option linter.unusedVariables false
set_option linter.unusedSimpArgs false

/-! ### nat_Mul: function 11 -/
mutual
def nat_Mul.j0 : Nat → List Int → List Int → Bool → Option (List Int × Int)
  | 0, _, _, _ => none
  | k + 1, x0, x1, x20 => if x20 = true then (some (([] : List Int), 2)) else ((nat_size.f k x0).bind fun t111 => (if 0 ≤ t111 then (if t111 ≤ (x0.length : Int) then ((some (x0.take (t111 : Int).toNat : List Int)).bind fun y112 => ((nat_size.f k x1).bind fun t116 => (if 0 ≤ t116 then (if t116 ≤ (x1.length : Int) then ((some (x1.take (t116 : Int).toNat : List Int)).bind fun y117 => (if (y112.length : Int) = 0 then (nat_Mul.j1 k y112 y117 true) else (nat_Mul.j1 k y112 y117 ((y117.length : Int) == 0)))) else (none)) else (none)))) else (none)) else (none)))
def nat_Mul.j1 : Nat → List Int → List Int → Bool → Option (List Int × Int)
  | 0, _, _, _ => none
  | k + 1, x0, x1, x36 => if x36 = true then (some (([] : List Int), 0)) else (if (wrap64 ((wrap64 ((x0.length : Int) + (x1.length : Int))) - 1)) > 4096 then (some (([] : List Int), 2)) else (if 0 ≤ (wrap64 ((x0.length : Int) + (x1.length : Int))) then (if (wrap64 ((x0.length : Int) + (x1.length : Int)) : Int).toNat ≤ 35184372088832 then (nat_Mul.l0 k x1 (List.replicate (wrap64 ((x0.length : Int) + (x1.length : Int)) : Int).toNat 0) x0 (x0.length : Int) 0) else (none)) else (none)))
def nat_Mul.l0 : Nat → List Int → List Int → List Int → Int → Int → Option (List Int × Int)
  | 0, _, _, _, _, _ => none
  | k + 1, x1, x6, x50, x51, x52 => if x52 < x51 then (if 0 ≤ x52 then (if x52 < (x50.length : Int) then (nat_Mul.l1 k x1 x6 x52 (rd x50 x52) 0 x50 x51 x52 x1 (x1.length : Int) 0) else (none)) else (none)) else ((nat_cut.f k x6).bind fun bt124 => (some (bt124.1, bt124.2)))
def nat_Mul.l1 : Nat → List Int → List Int → Int → Int → Int → List Int → Int → Int → List Int → Int → Int → Option (List Int × Int)
  | 0, _, _, _, _, _, _, _, _, _, _, _ => none
  | k + 1, x1, x6, x7, x8, x9, x50, x51, x52, x57, x58, x59 => if x59 < x58 then (if 0 ≤ x59 then (if x59 < (x57.length : Int) then ((bits_Mul64.f x8 (rd x57 x59)).bind fun bt130 => (if 0 ≤ (wrap64 (x7 + x59)) then (if (wrap64 (x7 + x59)) < (x6.length : Int) then ((bits_Add64.f bt130.2 (rd x6 (wrap64 (x7 + x59))) 0).bind fun bt133 => ((bits_Add64.f bt133.1 x9 0).bind fun bt135 => (nat_Mul.l1 k x1 (x6.set ((wrap64 (x7 + x59)) : Int).toNat bt135.1) x7 x8 (IntKind.u64.wrap ((IntKind.u64.wrap (bt130.1 + bt133.2)) + bt135.2)) x50 x51 x52 x57 x58 (wrap64 (x59 + 1))))) else (none)) else (none))) else (none)) else (none)) else (if 0 ≤ (wrap64 (x7 + (x1.length : Int))) then (if (wrap64 (x7 + (x1.length : Int))) < (x6.length : Int) then (nat_Mul.l0 k x1 (x6.set ((wrap64 (x7 + (x1.length : Int))) : Int).toNat x9) x50 x51 (wrap64 (x52 + 1))) else (none)) else (none))
end
def nat_Mul.f (k : Nat) (l0 : List Int) (l1 : List Int) : Option (List Int × Int) := (nat_big.f k l0).bind fun t109 => (if t109 = true then (nat_Mul.j0 k l0 l1 true) else ((nat_big.f k l1).bind fun t110 => (nat_Mul.j0 k l0 l1 t110)))
theorem nat_Mul.mono_l : ∀ k, (∀ y0 y1 y2, LeO (nat_Mul.j0 k y0 y1 y2) (nat_Mul.j0 (k + 1) y0 y1 y2)) ∧ (∀ y0 y1 y2, LeO (nat_Mul.j1 k y0 y1 y2) (nat_Mul.j1 (k + 1) y0 y1 y2)) ∧ (∀ y0 y1 y2 y3 y4, LeO (nat_Mul.l0 k y0 y1 y2 y3 y4) (nat_Mul.l0 (k + 1) y0 y1 y2 y3 y4)) ∧ (∀ y0 y1 y2 y3 y4 y5 y6 y7 y8 y9 y10, LeO (nat_Mul.l1 k y0 y1 y2 y3 y4 y5 y6 y7 y8 y9 y10) (nat_Mul.l1 (k + 1) y0 y1 y2 y3 y4 y5 y6 y7 y8 y9 y10))
  | 0 => ⟨fun _ _ _ r h => by simp [nat_Mul.j0] at h, fun _ _ _ r h => by simp [nat_Mul.j1] at h, fun _ _ _ _ _ r h => by simp [nat_Mul.l0] at h, fun _ _ _ _ _ _ _ _ _ _ _ r h => by simp [nat_Mul.l1] at h⟩
  | k + 1 => by
    obtain ⟨ih0, ih1, ih2, ih3⟩ := nat_Mul.mono_l k
    refine ⟨?_, ?_, ?_, ?_⟩
    · intro y0 y1 y2
      unfold nat_Mul.j0
      repeat' first
      | (with_reducible exact ih0 _ _ _)
      | (with_reducible exact ih1 _ _ _)
      | (with_reducible exact ih2 _ _ _ _ _)
      | (with_reducible exact ih3 _ _ _ _ _ _ _ _ _ _ _)
      | (with_reducible exact nat_big.mono _ _)
      | (with_reducible exact nat_cut.mono _ _)
      | (with_reducible exact nat_size.mono _ _)
      | (with_reducible exact LeO.refl _)
      | (with_reducible exact LeO.none _)
      | (with_reducible refine LeO.ite ?_ ?_)
      | (with_reducible refine LeO.bind ?_ (fun _ => ?_))
      | exact ih0 _ _ _
      | exact ih1 _ _ _
      | exact ih2 _ _ _ _ _
      | exact ih3 _ _ _ _ _ _ _ _ _ _ _
      | exact nat_big.mono _ _
      | exact nat_cut.mono _ _
      | exact nat_size.mono _ _
      | exact LeO.none _
      | refine LeO.ite ?_ ?_
      | refine LeO.bind ?_ (fun _ => ?_)
    · intro y0 y1 y2
      unfold nat_Mul.j1
      repeat' first
      | (with_reducible exact ih0 _ _ _)
      | (with_reducible exact ih1 _ _ _)
      | (with_reducible exact ih2 _ _ _ _ _)
      | (with_reducible exact ih3 _ _ _ _ _ _ _ _ _ _ _)
      | (with_reducible exact nat_big.mono _ _)
      | (with_reducible exact nat_cut.mono _ _)
      | (with_reducible exact nat_size.mono _ _)
      | (with_reducible exact LeO.refl _)
      | (with_reducible exact LeO.none _)
      | (with_reducible refine LeO.ite ?_ ?_)
      | (with_reducible refine LeO.bind ?_ (fun _ => ?_))
      | exact ih0 _ _ _
      | exact ih1 _ _ _
      | exact ih2 _ _ _ _ _
      | exact ih3 _ _ _ _ _ _ _ _ _ _ _
      | exact nat_big.mono _ _
      | exact nat_cut.mono _ _
      | exact nat_size.mono _ _
      | exact LeO.none _
      | refine LeO.ite ?_ ?_
      | refine LeO.bind ?_ (fun _ => ?_)
    · intro y0 y1 y2 y3 y4
      unfold nat_Mul.l0
      repeat' first
      | (with_reducible exact ih0 _ _ _)
      | (with_reducible exact ih1 _ _ _)
      | (with_reducible exact ih2 _ _ _ _ _)
      | (with_reducible exact ih3 _ _ _ _ _ _ _ _ _ _ _)
      | (with_reducible exact nat_big.mono _ _)
      | (with_reducible exact nat_cut.mono _ _)
      | (with_reducible exact nat_size.mono _ _)
      | (with_reducible exact LeO.refl _)
      | (with_reducible exact LeO.none _)
      | (with_reducible refine LeO.ite ?_ ?_)
      | (with_reducible refine LeO.bind ?_ (fun _ => ?_))
      | exact ih0 _ _ _
      | exact ih1 _ _ _
      | exact ih2 _ _ _ _ _
      | exact ih3 _ _ _ _ _ _ _ _ _ _ _
      | exact nat_big.mono _ _
      | exact nat_cut.mono _ _
      | exact nat_size.mono _ _
      | exact LeO.none _
      | refine LeO.ite ?_ ?_
      | refine LeO.bind ?_ (fun _ => ?_)
    · intro y0 y1 y2 y3 y4 y5 y6 y7 y8 y9 y10
      unfold nat_Mul.l1
      repeat' first
      | (with_reducible exact ih0 _ _ _)
      | (with_reducible exact ih1 _ _ _)
      | (with_reducible exact ih2 _ _ _ _ _)
      | (with_reducible exact ih3 _ _ _ _ _ _ _ _ _ _ _)
      | (with_reducible exact nat_big.mono _ _)
      | (with_reducible exact nat_cut.mono _ _)
      | (with_reducible exact nat_size.mono _ _)
      | (with_reducible exact LeO.refl _)
      | (with_reducible exact LeO.none _)
      | (with_reducible refine LeO.ite ?_ ?_)
      | (with_reducible refine LeO.bind ?_ (fun _ => ?_))
      | exact ih0 _ _ _
      | exact ih1 _ _ _
      | exact ih2 _ _ _ _ _
      | exact ih3 _ _ _ _ _ _ _ _ _ _ _
      | exact nat_big.mono _ _
      | exact nat_cut.mono _ _
      | exact nat_size.mono _ _
      | exact LeO.none _
      | refine LeO.ite ?_ ?_
      | refine LeO.bind ?_ (fun _ => ?_)
theorem nat_Mul.mono : ∀ a0 a1 k, LeO (nat_Mul.f k a0 a1) (nat_Mul.f (k + 1) a0 a1) := by
  intro a0 a1 k
  obtain ⟨ih0, ih1, ih2, ih3⟩ := nat_Mul.mono_l k
  unfold nat_Mul.f
  repeat' first
      | (with_reducible exact ih0 _ _ _)
      | (with_reducible exact ih1 _ _ _)
      | (with_reducible exact ih2 _ _ _ _ _)
      | (with_reducible exact ih3 _ _ _ _ _ _ _ _ _ _ _)
      | (with_reducible exact nat_big.mono _ _)
      | (with_reducible exact nat_cut.mono _ _)
      | (with_reducible exact nat_size.mono _ _)
      | (with_reducible exact LeO.refl _)
      | (with_reducible exact LeO.none _)
      | (with_reducible refine LeO.ite ?_ ?_)
      | (with_reducible refine LeO.bind ?_ (fun _ => ?_))
      | exact ih0 _ _ _
      | exact ih1 _ _ _
      | exact ih2 _ _ _ _ _
      | exact ih3 _ _ _ _ _ _ _ _ _ _ _
      | exact nat_big.mono _ _
      | exact nat_cut.mono _ _
      | exact nat_size.mono _ _
      | exact LeO.none _
      | refine LeO.ite ?_ ?_
      | refine LeO.bind ?_ (fun _ => ?_)
set_option maxHeartbeats 8000000 in
set_option maxRecDepth 100000 in
theorem nat_Mul.calls (k : Nat) (A0 : Option Addr) (c0 : Nat) (l0 : List Int) (A1 : Option Addr) (c1 : Nat) (l1 : List Int) (r1 : List Int) (r2 : Int) (w : World) (hr0 : Kd.C (Kd.int .u64) w A0 l0.length l0) (hc0 : l0.length ≤ c0) (hr1 : Kd.C (Kd.int .u64) w A1 l1.length l1) (hc1 : l1.length ≤ c1) (h : nat_Mul.f k l0 l1 = some (r1, r2)) :
    Calls Try.prog 11 #[.slice A0 l0.length c0, .slice A1 l1.length c1] w fun e w' => ∃ v0_ : Value, e = .returned (.tuple #[v0_, .int .i64 r2]) ∧ Kd.V (Kd.int .u64) 27 w' w.heap.size (fun k_ => (w.heap.size ≤ k_)) v0_ r1 ∧ Below w.heap.size w w' := by
  have HR0 := Aside0.mk hr0
  have HC0 := Aside0.mk hc0
  clear hr0 hc0
  have HR1 := Aside0.mk hr1
  have HC1 := Aside0.mk hc1
  clear hr1 hc1
  have HB := Aside0.mk (Below.refl w.heap.size w)
  have H : ((nat_big.f k l0).bind fun t109 => (if t109 = true then (nat_Mul.j0 k l0 l1 true) else ((nat_big.f k l1).bind fun t110 => (nat_Mul.j0 k l0 l1 t110)))) = some (r1, r2) := h
  clear h
  have HC3 := Aside0.mk H
  clear H
  go_enter Try.func11, Try.ntmps11
  go_upto_region 1 with (fail)
  repeat (go_quiet (fail); go_upto_region 1 with (fail))
  go_cut [20] (fun v20 wc => ∃ (kq : Nat) (x20_2 : Bool), v20 = .bool x20_2 ∧ Aside0 (nat_Mul.j0 kq l0 l1 x20_2 = some (r1, r2)) ∧ Aside0 (kq ≤ k) ∧ Aside0 (Below w.heap.size w wc))
  case first =>
    have H := HC3.out
    clear HC3
    replace H := Option.bind_eq_some_iff.mp H
    obtain ⟨t109, A40, H⟩ := H
    replace H : (if t109 = true then (nat_Mul.j0 k l0 l1 true) else ((nat_big.f k l1).bind fun t110 => (nat_Mul.j0 k l0 l1 t110))) = some (r1, r2) := H
    have A4 := Aside0.mk A40
    clear A40
    by_cases c5 : t109 = true
    · subst c5
      have H1 : (nat_Mul.j0 k l0 l1 true) = some (r1, r2) := by rw [if_pos rfl] at H; exact H
      clear H
      have H := H1
      clear H1
      have H' := Aside0.mk H
      clear H
      go_wp2_with (first | (go_at_call 15; (with_reducible refine (nat_big.calls k _ _ l0 true _ ?side1 ?side2 A4.out).mono ?_); (case side1 => repeat (first | exact (Kd.C_below HR0.out HB.out) | (with_reducible refine Kd.C_alloc ?_ _) | (with_reducible refine Kd.C_drewN ?_ _) | (with_reducible refine Kd.C_drew ?_))); (case side2 => exact HC0.out); rintro e w' ⟨rfl, ⟨nd, rfl⟩⟩; (try first | exact ⟨rfl, _, World.drewN_drewN _ _ _⟩ | exact ⟨rfl, _, Eq.trans (World.drewN_drewN _ _ _) (congrArg (World.drewN _) (Nat.add_assoc _ _ _))⟩)))
      repeat (go_quiet (first | (go_at_call 15; (with_reducible refine (nat_big.calls k _ _ l0 true _ ?side1 ?side2 A4.out).mono ?_); (case side1 => repeat (first | exact (Kd.C_below HR0.out HB.out) | (with_reducible refine Kd.C_alloc ?_ _) | (with_reducible refine Kd.C_drewN ?_ _) | (with_reducible refine Kd.C_drew ?_))); (case side2 => exact HC0.out); rintro e w' ⟨rfl, ⟨nd, rfl⟩⟩; (try first | exact ⟨rfl, _, World.drewN_drewN _ _ _⟩ | exact ⟨rfl, _, Eq.trans (World.drewN_drewN _ _ _) (congrArg (World.drewN _) (Nat.add_assoc _ _ _))⟩))); try go_wp2_with (first | (go_at_call 15; (with_reducible refine (nat_big.calls k _ _ l0 true _ ?side1 ?side2 A4.out).mono ?_); (case side1 => repeat (first | exact (Kd.C_below HR0.out HB.out) | (with_reducible refine Kd.C_alloc ?_ _) | (with_reducible refine Kd.C_drewN ?_ _) | (with_reducible refine Kd.C_drew ?_))); (case side2 => exact HC0.out); rintro e w' ⟨rfl, ⟨nd, rfl⟩⟩; (try first | exact ⟨rfl, _, World.drewN_drewN _ _ _⟩ | exact ⟨rfl, _, Eq.trans (World.drewN_drewN _ _ _) (congrArg (World.drewN _) (Nat.add_assoc _ _ _))⟩))))
      go_meet
      case rel => exact ⟨_, (true), (by first | rfl | (simp; done) | (simp [*]; done)), H', ⟨by first | omega | exact Nat.le_refl _⟩, ⟨by repeat (first | (with_reducible first | exact HB.out | apply below_alloc | apply pw_below_drewN | apply below_drew1) | exact HB.out)⟩⟩
    · replace c5 := Bool.eq_false_iff.mpr c5
      subst c5
      have H1 : ((nat_big.f k l1).bind fun t110 => (nat_Mul.j0 k l0 l1 t110)) = some (r1, r2) := by rw [if_neg (show ¬ (false = true) by decide)] at H; exact H
      clear H
      have H := H1
      clear H1
      replace H := Option.bind_eq_some_iff.mp H
      obtain ⟨t110, A60, H⟩ := H
      replace H : (nat_Mul.j0 k l0 l1 t110) = some (r1, r2) := H
      have A6 := Aside0.mk A60
      clear A60
      have H' := Aside0.mk H
      clear H
      go_wp2_with (first | (go_at_call 15; (with_reducible refine (nat_big.calls k _ _ l0 false _ ?side1 ?side2 A4.out).mono ?_); (case side1 => repeat (first | exact (Kd.C_below HR0.out HB.out) | (with_reducible refine Kd.C_alloc ?_ _) | (with_reducible refine Kd.C_drewN ?_ _) | (with_reducible refine Kd.C_drew ?_))); (case side2 => exact HC0.out); rintro e w' ⟨rfl, ⟨nd, rfl⟩⟩; (try first | exact ⟨rfl, _, World.drewN_drewN _ _ _⟩ | exact ⟨rfl, _, Eq.trans (World.drewN_drewN _ _ _) (congrArg (World.drewN _) (Nat.add_assoc _ _ _))⟩)) | (go_at_call 15; (with_reducible refine (nat_big.calls k _ _ l1 t110 _ ?side1 ?side2 A6.out).mono ?_); (case side1 => repeat (first | exact (Kd.C_below HR1.out (by repeat (first | (with_reducible first | exact HB.out | apply below_alloc | apply pw_below_drewN | apply below_drew1) | exact HB.out))) | (with_reducible refine Kd.C_alloc ?_ _) | (with_reducible refine Kd.C_drewN ?_ _) | (with_reducible refine Kd.C_drew ?_))); (case side2 => exact HC1.out); rintro e w' ⟨rfl, ⟨nd, rfl⟩⟩; (try first | exact ⟨rfl, _, World.drewN_drewN _ _ _⟩ | exact ⟨rfl, _, Eq.trans (World.drewN_drewN _ _ _) (congrArg (World.drewN _) (Nat.add_assoc _ _ _))⟩)))
      repeat (go_quiet (first | (go_at_call 15; (with_reducible refine (nat_big.calls k _ _ l0 false _ ?side1 ?side2 A4.out).mono ?_); (case side1 => repeat (first | exact (Kd.C_below HR0.out HB.out) | (with_reducible refine Kd.C_alloc ?_ _) | (with_reducible refine Kd.C_drewN ?_ _) | (with_reducible refine Kd.C_drew ?_))); (case side2 => exact HC0.out); rintro e w' ⟨rfl, ⟨nd, rfl⟩⟩; (try first | exact ⟨rfl, _, World.drewN_drewN _ _ _⟩ | exact ⟨rfl, _, Eq.trans (World.drewN_drewN _ _ _) (congrArg (World.drewN _) (Nat.add_assoc _ _ _))⟩)) | (go_at_call 15; (with_reducible refine (nat_big.calls k _ _ l1 t110 _ ?side1 ?side2 A6.out).mono ?_); (case side1 => repeat (first | exact (Kd.C_below HR1.out (by repeat (first | (with_reducible first | exact HB.out | apply below_alloc | apply pw_below_drewN | apply below_drew1) | exact HB.out))) | (with_reducible refine Kd.C_alloc ?_ _) | (with_reducible refine Kd.C_drewN ?_ _) | (with_reducible refine Kd.C_drew ?_))); (case side2 => exact HC1.out); rintro e w' ⟨rfl, ⟨nd, rfl⟩⟩; (try first | exact ⟨rfl, _, World.drewN_drewN _ _ _⟩ | exact ⟨rfl, _, Eq.trans (World.drewN_drewN _ _ _) (congrArg (World.drewN _) (Nat.add_assoc _ _ _))⟩))); try go_wp2_with (first | (go_at_call 15; (with_reducible refine (nat_big.calls k _ _ l0 false _ ?side1 ?side2 A4.out).mono ?_); (case side1 => repeat (first | exact (Kd.C_below HR0.out HB.out) | (with_reducible refine Kd.C_alloc ?_ _) | (with_reducible refine Kd.C_drewN ?_ _) | (with_reducible refine Kd.C_drew ?_))); (case side2 => exact HC0.out); rintro e w' ⟨rfl, ⟨nd, rfl⟩⟩; (try first | exact ⟨rfl, _, World.drewN_drewN _ _ _⟩ | exact ⟨rfl, _, Eq.trans (World.drewN_drewN _ _ _) (congrArg (World.drewN _) (Nat.add_assoc _ _ _))⟩)) | (go_at_call 15; (with_reducible refine (nat_big.calls k _ _ l1 t110 _ ?side1 ?side2 A6.out).mono ?_); (case side1 => repeat (first | exact (Kd.C_below HR1.out (by repeat (first | (with_reducible first | exact HB.out | apply below_alloc | apply pw_below_drewN | apply below_drew1) | exact HB.out))) | (with_reducible refine Kd.C_alloc ?_ _) | (with_reducible refine Kd.C_drewN ?_ _) | (with_reducible refine Kd.C_drew ?_))); (case side2 => exact HC1.out); rintro e w' ⟨rfl, ⟨nd, rfl⟩⟩; (try first | exact ⟨rfl, _, World.drewN_drewN _ _ _⟩ | exact ⟨rfl, _, Eq.trans (World.drewN_drewN _ _ _) (congrArg (World.drewN _) (Nat.add_assoc _ _ _))⟩))))
      go_meet
      case rel => exact ⟨_, (t110), (by first | rfl | (simp; done) | (simp [*]; done)), H', ⟨by first | omega | exact Nat.le_refl _⟩, ⟨by repeat (first | (with_reducible first | exact HB.out | apply below_alloc | apply pw_below_drewN | apply below_drew1) | exact HB.out)⟩⟩
  case rest =>
    clear HC3
    try clear c1
    try clear p2
    try clear c5
    obtain ⟨kq, x20_2, rfl, HA, HJ2, HB⟩ := hcut
    cases kq with
    | zero => exact absurd HA.out (by simp [nat_Mul.j0])
    | succ kj2 =>
      have H := HA.out
      clear HA
      simp only [nat_Mul.j0] at H
      by_cases c7 : x20_2 = true
      · subst c7
        have H1 : (some (([] : List Int), 2)) = some (r1, r2) := by rw [if_pos rfl] at H; exact H
        clear H
        have H := H1
        clear H1
        simp only [Option.some.injEq, Prod.mk.injEq] at H
        obtain ⟨rfl, rfl⟩ := H
        go_wp2
        repeat (go_quiet (fail); try go_wp2)
        go_ret2
        exact ⟨.slice none 0 0, by first | rfl | (simp [errW_none, errW_some] <;> rfl) | (simp [*, errW_none, errW_some] <;> rfl), Kd.V_nil _ _ _ _ _, by repeat (first | (with_reducible first | exact HB.out | apply below_alloc | apply pw_below_drewN | apply below_drew1) | exact HB.out)⟩
      · replace c7 := Bool.eq_false_iff.mpr c7
        subst c7
        have H1 : ((nat_size.f kj2 l0).bind fun t111 => (if 0 ≤ t111 then (if t111 ≤ (l0.length : Int) then ((some (l0.take (t111 : Int).toNat : List Int)).bind fun y112 => ((nat_size.f kj2 l1).bind fun t116 => (if 0 ≤ t116 then (if t116 ≤ (l1.length : Int) then ((some (l1.take (t116 : Int).toNat : List Int)).bind fun y117 => (if (y112.length : Int) = 0 then (nat_Mul.j1 kj2 y112 y117 true) else (nat_Mul.j1 kj2 y112 y117 ((y117.length : Int) == 0)))) else (none)) else (none)))) else (none)) else (none))) = some (r1, r2) := by rw [if_neg (show ¬ (false = true) by decide)] at H; exact H
        clear H
        have H := H1
        clear H1
        replace H := Option.bind_eq_some_iff.mp H
        obtain ⟨t111, A80, H⟩ := H
        replace H : (if 0 ≤ t111 then (if t111 ≤ (l0.length : Int) then ((some (l0.take (t111 : Int).toNat : List Int)).bind fun y112 => ((nat_size.f kj2 l1).bind fun t116 => (if 0 ≤ t116 then (if t116 ≤ (l1.length : Int) then ((some (l1.take (t116 : Int).toNat : List Int)).bind fun y117 => (if (y112.length : Int) = 0 then (nat_Mul.j1 kj2 y112 y117 true) else (nat_Mul.j1 kj2 y112 y117 ((y117.length : Int) == 0)))) else (none)) else (none)))) else (none)) else (none)) = some (r1, r2) := H
        have A8 := Aside0.mk A80
        clear A80
        by_cases c9 : 0 ≤ t111
        · rw [if_pos c9] at H
          have c9b0 := eq_true c9
          have c9b1 : decide (0 ≤ t111) = true := decide_eq_true c9
          clear c9
          by_cases c10 : t111 ≤ (l0.length : Int)
          · rw [if_pos c10] at H
            have c10b0 := eq_true c10
            have c10b1 : decide (t111 ≤ (l0.length : Int)) = true := decide_eq_true c10
            clear c10
            obtain ⟨y112, hy112⟩ : ∃ y_ : List Int, y_ = (l0.take (t111 : Int).toNat) := ⟨_, rfl⟩
            replace H : ((nat_size.f kj2 l1).bind fun t116 => (if 0 ≤ t116 then (if t116 ≤ (l1.length : Int) then ((some (l1.take (t116 : Int).toNat : List Int)).bind fun y117 => (if (y112.length : Int) = 0 then (nat_Mul.j1 kj2 y112 y117 true) else (nat_Mul.j1 kj2 y112 y117 ((y117.length : Int) == 0)))) else (none)) else (none))) = some (r1, r2) := by first | (rw [hy112]; with_reducible exact H) | (have H2_ := (Option.bind_some _ _).symm.trans H; rw [hy112]; with_reducible exact H2_) | (have H2_ := (Option.bind_some _ _).symm.trans H; with_reducible exact H2_) | with_reducible exact H | (rw [hy112]; exact H) | exact H
            have Ny112 := Aside0.mk hy112
            clear hy112
            replace H := Option.bind_eq_some_iff.mp H
            obtain ⟨t116, A110, H⟩ := H
            replace H : (if 0 ≤ t116 then (if t116 ≤ (l1.length : Int) then ((some (l1.take (t116 : Int).toNat : List Int)).bind fun y117 => (if (y112.length : Int) = 0 then (nat_Mul.j1 kj2 y112 y117 true) else (nat_Mul.j1 kj2 y112 y117 ((y117.length : Int) == 0)))) else (none)) else (none)) = some (r1, r2) := H
            have A11 := Aside0.mk A110
            clear A110
            by_cases c12 : 0 ≤ t116
            · rw [if_pos c12] at H
              have c12b0 := eq_true c12
              have c12b1 : decide (0 ≤ t116) = true := decide_eq_true c12
              clear c12
              by_cases c13 : t116 ≤ (l1.length : Int)
              · rw [if_pos c13] at H
                have c13b0 := eq_true c13
                have c13b1 : decide (t116 ≤ (l1.length : Int)) = true := decide_eq_true c13
                clear c13
                obtain ⟨y117, hy117⟩ : ∃ y_ : List Int, y_ = (l1.take (t116 : Int).toNat) := ⟨_, rfl⟩
                replace H : (if (y112.length : Int) = 0 then (nat_Mul.j1 kj2 y112 y117 true) else (nat_Mul.j1 kj2 y112 y117 ((y117.length : Int) == 0))) = some (r1, r2) := by first | (rw [hy117]; with_reducible exact H) | (have H2_ := (Option.bind_some _ _).symm.trans H; rw [hy117]; with_reducible exact H2_) | (have H2_ := (Option.bind_some _ _).symm.trans H; with_reducible exact H2_) | with_reducible exact H | (rw [hy117]; exact H) | exact H
                have Ny117 := Aside0.mk hy117
                clear hy117
                have HC14 := Aside0.mk H
                clear H
                go_upto_region 4 with (first | (go_at_call 16; (with_reducible refine (nat_size.calls kj2 _ _ l0 t111 _ ?side1 ?side2 A8.out).mono ?_); (case side1 => repeat (first | exact (Kd.C_below HR0.out HB.out) | (with_reducible refine Kd.C_alloc ?_ _) | (with_reducible refine Kd.C_drewN ?_ _) | (with_reducible refine Kd.C_drew ?_))); (case side2 => exact HC0.out); rintro e w' ⟨rfl, ⟨nd, rfl⟩⟩; (try first | exact ⟨rfl, _, World.drewN_drewN _ _ _⟩ | exact ⟨rfl, _, Eq.trans (World.drewN_drewN _ _ _) (congrArg (World.drewN _) (Nat.add_assoc _ _ _))⟩); have q15 : (t111 : Int) ≤ ((l0.length : Int) : Int) := of_decide_eq_true (by first | (with_reducible assumption) | assumption); obtain ⟨i015, hi015, _, hsz15, _⟩ := info_parts info27; have hroom15 : l0.length ≤ c0 := HC0.out; have hC15 : Kd.C (Kd.int .u64) _ A0 l0.length l0 := HR0.out; have hcut15 := cut_to (P := Try.prog) 22 27 .i64 Try.underlying22 hi015 A0 l0.length c0 t111 (of_decide_eq_true (by first | (with_reducible assumption) | assumption)) q15 hroom15; have hr15 := Kd.C_take (m := (t111 : Int).toNat) hC15 (by omega); have hy15 : y112.length = (t111 : Int).toNat := (by rw [Ny112.out, List.length_take]; omega); rw [← Ny112.out] at hr15; rw [← hy15] at hcut15; have HR115 := Aside0.mk hr15; have HC115 := Aside0.mk (show y112.length ≤ c0 from by omega); clear hr15 hC15 hroom15 hi015 hsz15; have KY15 := Aside0.mk hy15; clear hy15; replace q15 := eq_true q15) | (go_at_call 16; (with_reducible refine (nat_size.calls kj2 _ _ l1 t116 _ ?side1 ?side2 A11.out).mono ?_); (case side1 => repeat (first | exact (Kd.C_below HR1.out (by repeat (first | (with_reducible first | exact HB.out | apply below_alloc | apply pw_below_drewN | apply below_drew1) | exact HB.out))) | (with_reducible refine Kd.C_alloc ?_ _) | (with_reducible refine Kd.C_drewN ?_ _) | (with_reducible refine Kd.C_drew ?_))); (case side2 => exact HC1.out); rintro e w' ⟨rfl, ⟨nd, rfl⟩⟩; (try first | exact ⟨rfl, _, World.drewN_drewN _ _ _⟩ | exact ⟨rfl, _, Eq.trans (World.drewN_drewN _ _ _) (congrArg (World.drewN _) (Nat.add_assoc _ _ _))⟩); have q16 : (t116 : Int) ≤ ((l1.length : Int) : Int) := of_decide_eq_true (by first | (with_reducible assumption) | assumption); obtain ⟨i016, hi016, _, hsz16, _⟩ := info_parts info27; have hroom16 : l1.length ≤ c1 := HC1.out; have hC16 : Kd.C (Kd.int .u64) _ A1 l1.length l1 := HR1.out; have hcut16 := cut_to (P := Try.prog) 22 27 .i64 Try.underlying22 hi016 A1 l1.length c1 t116 (of_decide_eq_true (by first | (with_reducible assumption) | assumption)) q16 hroom16; have hr16 := Kd.C_take (m := (t116 : Int).toNat) hC16 (by omega); have hy16 : y117.length = (t116 : Int).toNat := (by rw [Ny117.out, List.length_take]; omega); rw [← Ny117.out] at hr16; rw [← hy16] at hcut16; have HR120 := Aside0.mk hr16; have HC120 := Aside0.mk (show y117.length ≤ c1 from by omega); clear hr16 hC16 hroom16 hi016 hsz16; have KY16 := Aside0.mk hy16; clear hy16; replace q16 := eq_true q16))
                repeat (go_quiet (first | (go_at_call 16; (with_reducible refine (nat_size.calls kj2 _ _ l0 t111 _ ?side1 ?side2 A8.out).mono ?_); (case side1 => repeat (first | exact (Kd.C_below HR0.out HB.out) | (with_reducible refine Kd.C_alloc ?_ _) | (with_reducible refine Kd.C_drewN ?_ _) | (with_reducible refine Kd.C_drew ?_))); (case side2 => exact HC0.out); rintro e w' ⟨rfl, ⟨nd, rfl⟩⟩; (try first | exact ⟨rfl, _, World.drewN_drewN _ _ _⟩ | exact ⟨rfl, _, Eq.trans (World.drewN_drewN _ _ _) (congrArg (World.drewN _) (Nat.add_assoc _ _ _))⟩); have q15 : (t111 : Int) ≤ ((l0.length : Int) : Int) := of_decide_eq_true (by first | (with_reducible assumption) | assumption); obtain ⟨i015, hi015, _, hsz15, _⟩ := info_parts info27; have hroom15 : l0.length ≤ c0 := HC0.out; have hC15 : Kd.C (Kd.int .u64) _ A0 l0.length l0 := HR0.out; have hcut15 := cut_to (P := Try.prog) 22 27 .i64 Try.underlying22 hi015 A0 l0.length c0 t111 (of_decide_eq_true (by first | (with_reducible assumption) | assumption)) q15 hroom15; have hr15 := Kd.C_take (m := (t111 : Int).toNat) hC15 (by omega); have hy15 : y112.length = (t111 : Int).toNat := (by rw [Ny112.out, List.length_take]; omega); rw [← Ny112.out] at hr15; rw [← hy15] at hcut15; have HR115 := Aside0.mk hr15; have HC115 := Aside0.mk (show y112.length ≤ c0 from by omega); clear hr15 hC15 hroom15 hi015 hsz15; have KY15 := Aside0.mk hy15; clear hy15; replace q15 := eq_true q15) | (go_at_call 16; (with_reducible refine (nat_size.calls kj2 _ _ l1 t116 _ ?side1 ?side2 A11.out).mono ?_); (case side1 => repeat (first | exact (Kd.C_below HR1.out (by repeat (first | (with_reducible first | exact HB.out | apply below_alloc | apply pw_below_drewN | apply below_drew1) | exact HB.out))) | (with_reducible refine Kd.C_alloc ?_ _) | (with_reducible refine Kd.C_drewN ?_ _) | (with_reducible refine Kd.C_drew ?_))); (case side2 => exact HC1.out); rintro e w' ⟨rfl, ⟨nd, rfl⟩⟩; (try first | exact ⟨rfl, _, World.drewN_drewN _ _ _⟩ | exact ⟨rfl, _, Eq.trans (World.drewN_drewN _ _ _) (congrArg (World.drewN _) (Nat.add_assoc _ _ _))⟩); have q16 : (t116 : Int) ≤ ((l1.length : Int) : Int) := of_decide_eq_true (by first | (with_reducible assumption) | assumption); obtain ⟨i016, hi016, _, hsz16, _⟩ := info_parts info27; have hroom16 : l1.length ≤ c1 := HC1.out; have hC16 : Kd.C (Kd.int .u64) _ A1 l1.length l1 := HR1.out; have hcut16 := cut_to (P := Try.prog) 22 27 .i64 Try.underlying22 hi016 A1 l1.length c1 t116 (of_decide_eq_true (by first | (with_reducible assumption) | assumption)) q16 hroom16; have hr16 := Kd.C_take (m := (t116 : Int).toNat) hC16 (by omega); have hy16 : y117.length = (t116 : Int).toNat := (by rw [Ny117.out, List.length_take]; omega); rw [← Ny117.out] at hr16; rw [← hy16] at hcut16; have HR120 := Aside0.mk hr16; have HC120 := Aside0.mk (show y117.length ≤ c1 from by omega); clear hr16 hC16 hroom16 hi016 hsz16; have KY16 := Aside0.mk hy16; clear hy16; replace q16 := eq_true q16)); go_upto_region 4 with (first | (go_at_call 16; (with_reducible refine (nat_size.calls kj2 _ _ l0 t111 _ ?side1 ?side2 A8.out).mono ?_); (case side1 => repeat (first | exact (Kd.C_below HR0.out HB.out) | (with_reducible refine Kd.C_alloc ?_ _) | (with_reducible refine Kd.C_drewN ?_ _) | (with_reducible refine Kd.C_drew ?_))); (case side2 => exact HC0.out); rintro e w' ⟨rfl, ⟨nd, rfl⟩⟩; (try first | exact ⟨rfl, _, World.drewN_drewN _ _ _⟩ | exact ⟨rfl, _, Eq.trans (World.drewN_drewN _ _ _) (congrArg (World.drewN _) (Nat.add_assoc _ _ _))⟩); have q15 : (t111 : Int) ≤ ((l0.length : Int) : Int) := of_decide_eq_true (by first | (with_reducible assumption) | assumption); obtain ⟨i015, hi015, _, hsz15, _⟩ := info_parts info27; have hroom15 : l0.length ≤ c0 := HC0.out; have hC15 : Kd.C (Kd.int .u64) _ A0 l0.length l0 := HR0.out; have hcut15 := cut_to (P := Try.prog) 22 27 .i64 Try.underlying22 hi015 A0 l0.length c0 t111 (of_decide_eq_true (by first | (with_reducible assumption) | assumption)) q15 hroom15; have hr15 := Kd.C_take (m := (t111 : Int).toNat) hC15 (by omega); have hy15 : y112.length = (t111 : Int).toNat := (by rw [Ny112.out, List.length_take]; omega); rw [← Ny112.out] at hr15; rw [← hy15] at hcut15; have HR115 := Aside0.mk hr15; have HC115 := Aside0.mk (show y112.length ≤ c0 from by omega); clear hr15 hC15 hroom15 hi015 hsz15; have KY15 := Aside0.mk hy15; clear hy15; replace q15 := eq_true q15) | (go_at_call 16; (with_reducible refine (nat_size.calls kj2 _ _ l1 t116 _ ?side1 ?side2 A11.out).mono ?_); (case side1 => repeat (first | exact (Kd.C_below HR1.out (by repeat (first | (with_reducible first | exact HB.out | apply below_alloc | apply pw_below_drewN | apply below_drew1) | exact HB.out))) | (with_reducible refine Kd.C_alloc ?_ _) | (with_reducible refine Kd.C_drewN ?_ _) | (with_reducible refine Kd.C_drew ?_))); (case side2 => exact HC1.out); rintro e w' ⟨rfl, ⟨nd, rfl⟩⟩; (try first | exact ⟨rfl, _, World.drewN_drewN _ _ _⟩ | exact ⟨rfl, _, Eq.trans (World.drewN_drewN _ _ _) (congrArg (World.drewN _) (Nat.add_assoc _ _ _))⟩); have q16 : (t116 : Int) ≤ ((l1.length : Int) : Int) := of_decide_eq_true (by first | (with_reducible assumption) | assumption); obtain ⟨i016, hi016, _, hsz16, _⟩ := info_parts info27; have hroom16 : l1.length ≤ c1 := HC1.out; have hC16 : Kd.C (Kd.int .u64) _ A1 l1.length l1 := HR1.out; have hcut16 := cut_to (P := Try.prog) 22 27 .i64 Try.underlying22 hi016 A1 l1.length c1 t116 (of_decide_eq_true (by first | (with_reducible assumption) | assumption)) q16 hroom16; have hr16 := Kd.C_take (m := (t116 : Int).toNat) hC16 (by omega); have hy16 : y117.length = (t116 : Int).toNat := (by rw [Ny117.out, List.length_take]; omega); rw [← Ny117.out] at hr16; rw [← hy16] at hcut16; have HR120 := Aside0.mk hr16; have HC120 := Aside0.mk (show y117.length ≤ c1 from by omega); clear hr16 hC16 hroom16 hi016 hsz16; have KY16 := Aside0.mk hy16; clear hy16; replace q16 := eq_true q16)))
                (try simp only [Act.put, List.setIfInBounds_toArray, List.set_cons_zero, List.set_cons_succ])
                go_cut [36] (fun v36 wc => ∃ (kq : Nat) (x36_13 : Bool), v36 = .bool x36_13 ∧ Aside0 (nat_Mul.j1 kq y112 y117 x36_13 = some (r1, r2)) ∧ Aside0 (kq ≤ kj2) ∧ Aside0 (Below w.heap.size w wc))
                case first =>
                  have H := HC14.out
                  clear HC14
                  by_cases c17 : (y112.length : Int) = 0
                  · rw [if_pos c17] at H
                    have c17b0 : ((y112.length : Int) == 0) = true := beq_iff_eq.mpr c17
                    have c17b1 : ((y112.length : Int) != 0) = false := bne_eq_false_iff_eq.mpr c17
                    clear c17
                    (first | rw [c17b0] | (simp only [i64_w, i32_w]; rw [c17b0]) | rw [c17b1] | skip)
                    have H' := Aside0.mk H
                    clear H
                    go_wp2
                    repeat (go_quiet (fail); try go_wp2)
                    go_meet
                    case rel => exact ⟨_, (true), (by first | rfl | (simp; done) | (simp [*]; done)), H', ⟨by have := HJ2.out; first | omega | exact Nat.le_refl _⟩, ⟨by repeat (first | (with_reducible first | exact HB.out | apply below_alloc | apply pw_below_drewN | apply below_drew1) | exact HB.out)⟩⟩
                  · rw [if_neg c17] at H
                    have c17b0 : ((y112.length : Int) == 0) = false := beq_eq_false_iff_ne.mpr c17
                    have c17b1 : ((y112.length : Int) != 0) = true := bne_iff_ne.mpr c17
                    have c17b2 : ¬ (y112 = []) := fun h_ => c17 (by rw [h_]; rfl)
                    (first | rw [c17b0] | (simp only [i64_w, i32_w]; rw [c17b0]) | rw [c17b1] | skip)
                    have H' := Aside0.mk H
                    clear H
                    go_wp2
                    repeat (go_quiet (fail); try go_wp2)
                    go_meet
                    case rel => exact ⟨_, (((y117.length : Int) == 0)), (by first | rfl | (simp; done) | (simp [*]; done)), H', ⟨by have := HJ2.out; first | omega | exact Nat.le_refl _⟩, ⟨by repeat (first | (with_reducible first | exact HB.out | apply below_alloc | apply pw_below_drewN | apply below_drew1) | exact HB.out)⟩⟩
                case rest =>
                  clear HC14
                  try clear c1
                  try clear q1
                  try clear p2
                  try clear c5
                  try clear c7
                  try clear c9
                  try clear c9b0
                  try clear c9b1
                  try clear c10
                  try clear c10b0
                  try clear c10b1
                  try clear c11
                  try clear c12
                  try clear c12b0
                  try clear c12b1
                  try clear c13
                  try clear c13b0
                  try clear c13b1
                  try clear q15
                  try clear q16
                  try clear c17
                  try clear c17b0
                  try clear c17b1
                  try clear c17b2
                  try clear p2
                  try clear q15
                  try clear q16
                  obtain ⟨kq, x36_13, rfl, HA, HJ13, HB⟩ := hcut
                  cases kq with
                  | zero => exact absurd HA.out (by simp [nat_Mul.j1])
                  | succ kj13 =>
                    have H := HA.out
                    clear HA
                    simp only [nat_Mul.j1] at H
                    by_cases c18 : x36_13 = true
                    · subst c18
                      have H1 : (some (([] : List Int), 0)) = some (r1, r2) := by rw [if_pos rfl] at H; exact H
                      clear H
                      have H := H1
                      clear H1
                      simp only [Option.some.injEq, Prod.mk.injEq] at H
                      obtain ⟨rfl, rfl⟩ := H
                      go_wp2
                      repeat (go_quiet (fail); try go_wp2)
                      go_ret2
                      exact ⟨.slice none 0 0, by first | rfl | (simp [errW_none, errW_some] <;> rfl) | (simp [*, errW_none, errW_some] <;> rfl), Kd.V_nil _ _ _ _ _, by repeat (first | (with_reducible first | exact HB.out | apply below_alloc | apply pw_below_drewN | apply below_drew1) | exact HB.out)⟩
                    · replace c18 := Bool.eq_false_iff.mpr c18
                      subst c18
                      have H1 : (if (wrap64 ((wrap64 ((y112.length : Int) + (y117.length : Int))) - 1)) > 4096 then (some (([] : List Int), 2)) else (if 0 ≤ (wrap64 ((y112.length : Int) + (y117.length : Int))) then (if (wrap64 ((y112.length : Int) + (y117.length : Int)) : Int).toNat ≤ 35184372088832 then (nat_Mul.l0 kj13 y117 (List.replicate (wrap64 ((y112.length : Int) + (y117.length : Int)) : Int).toNat 0) y112 (y112.length : Int) 0) else (none)) else (none))) = some (r1, r2) := by rw [if_neg (show ¬ (false = true) by decide)] at H; exact H
                      clear H
                      have H := H1
                      clear H1
                      by_cases c19 : (wrap64 ((wrap64 ((y112.length : Int) + (y117.length : Int))) - 1)) > 4096
                      · rw [if_pos c19] at H
                        have c19b0 : decide (4096 < (wrap64 ((wrap64 ((y112.length : Int) + (y117.length : Int))) - 1))) = true := decide_eq_true c19
                        clear c19
                        simp only [Option.some.injEq, Prod.mk.injEq] at H
                        obtain ⟨rfl, rfl⟩ := H
                        go_wp2
                        repeat (go_quiet (fail); try go_wp2)
                        go_ret2
                        exact ⟨.slice none 0 0, by first | rfl | (simp [errW_none, errW_some] <;> rfl) | (simp [*, errW_none, errW_some] <;> rfl), Kd.V_nil _ _ _ _ _, by repeat (first | (with_reducible first | exact HB.out | apply below_alloc | apply pw_below_drewN | apply below_drew1) | exact HB.out)⟩
                      · rw [if_neg c19] at H
                        have c19b0 : decide (4096 < (wrap64 ((wrap64 ((y112.length : Int) + (y117.length : Int))) - 1))) = false := decide_eq_false c19
                        clear c19
                        obtain ⟨ji20, hji20⟩ : ∃ j_ : Int, (wrap64 ((y112.length : Int) + (y117.length : Int))) = j_ := ⟨_, rfl⟩
                        replace H : (if 0 ≤ (ji20) then (if (ji20 : Int).toNat ≤ 35184372088832 then (nat_Mul.l0 kj13 y117 (List.replicate (ji20 : Int).toNat 0) y112 (y112.length : Int) 0) else (none)) else (none)) = some (r1, r2) := by first | (rw [hji20] at H; exact H) | (simp only [hji20] at H ⊢; exact H)
                        (try rw [hji20] at c19b0)
                        have hji20w : (IntKind.i64.wrap ((y112.length : Int) + (y117.length : Int))) = ji20 := (i64_w _).trans hji20
                        by_cases c21 : 0 ≤ (ji20)
                        · rw [if_pos c21] at H
                          have c21b0 := eq_true c21
                          have c21b1 : decide (0 ≤ (ji20)) = true := decide_eq_true c21
                          clear c21
                          by_cases c22 : (ji20 : Int).toNat ≤ 35184372088832
                          · rw [if_pos c22] at H
                            have c22b0 := eq_true c22
                            have c22b1 : decide ((ji20 : Int).toNat ≤ 35184372088832) = true := decide_eq_true c22
                            clear c22
                            obtain ⟨y121, hy121⟩ : ∃ y_ : List Int, y_ = (List.replicate (ji20 : Int).toNat 0) := ⟨_, rfl⟩
                            replace H : (nat_Mul.l0 kj13 y117 y121 y112 (y112.length : Int) 0) = some (r1, r2) := by first | (rw [hy121]; with_reducible exact H) | (have H2_ := (Option.bind_some _ _).symm.trans H; rw [hy121]; with_reducible exact H2_) | (have H2_ := (Option.bind_some _ _).symm.trans H; with_reducible exact H2_) | with_reducible exact H | (rw [hy121]; exact H) | exact H
                            have Ny121 := Aside0.mk hy121
                            clear hy121
                            have H' := Aside0.mk H
                            clear H
                            go_wp2_with (first | ((with_reducible refine gate_dst (N := 49) rfl ?_); (try (refine gate_guard (by rfl) ?_; dsimp only)); refine Kd.R_make (Kd.int .u64) _ 27 rfl (N := 49) rfl 22 _ _ rfl ji20 rfl rfl Try.underlying22 (.int .u64 0) 8 info27 rfl (by decide) (by omega) 0 (ok := fun _ => True) (okp := fun _ => True) rfl (fun _ hk => hk) trivial (of_decide_eq_true (by first | (with_reducible assumption) | assumption)) (Nat.le_trans (Nat.mul_le_mul_right _ (of_decide_eq_true (by first | (with_reducible assumption) | assumption) : ji20.toNat ≤ 35184372088832)) (by omega)) (Below.refl _ _) (Nat.le_refl _) ?_; intro v122 w23 ho24 hb hg_ hnew_; clear hg_ hnew_; (first | rw [← Ny121.out] at ho24 | (simp only [Int.reduceToNat] at ho24; rw [← Ny121.out] at ho24)); have n0_ := Aside0.mk (Kd.R_lower (Kd.R_newM (M := fun k_ => (w.heap.size ≤ k_)) ho24 (below_size (by repeat (first | (with_reducible first | exact HB.out | apply below_alloc | apply pw_below_drewN | apply below_drew1) | exact HB.out))) (fun k_ h_ => h_)) (below_size (by repeat (first | (with_reducible first | exact HB.out | apply below_alloc | apply pw_below_drewN | apply below_drew1) | exact HB.out)))); have n1_ := Aside0.mk (below_step (by repeat (first | (with_reducible first | exact HB.out | apply below_alloc | apply pw_below_drewN | apply below_drew1) | exact HB.out)) hb); clear HB; have HO123 := n0_; have HB := n1_; clear n0_ n1_; clear hb ho24))
                            repeat (go_quiet (first | ((with_reducible refine gate_dst (N := 49) rfl ?_); (try (refine gate_guard (by rfl) ?_; dsimp only)); refine Kd.R_make (Kd.int .u64) _ 27 rfl (N := 49) rfl 22 _ _ rfl ji20 rfl rfl Try.underlying22 (.int .u64 0) 8 info27 rfl (by decide) (by omega) 0 (ok := fun _ => True) (okp := fun _ => True) rfl (fun _ hk => hk) trivial (of_decide_eq_true (by first | (with_reducible assumption) | assumption)) (Nat.le_trans (Nat.mul_le_mul_right _ (of_decide_eq_true (by first | (with_reducible assumption) | assumption) : ji20.toNat ≤ 35184372088832)) (by omega)) (Below.refl _ _) (Nat.le_refl _) ?_; intro v122 w23 ho24 hb hg_ hnew_; clear hg_ hnew_; (first | rw [← Ny121.out] at ho24 | (simp only [Int.reduceToNat] at ho24; rw [← Ny121.out] at ho24)); have n0_ := Aside0.mk (Kd.R_lower (Kd.R_newM (M := fun k_ => (w.heap.size ≤ k_)) ho24 (below_size (by repeat (first | (with_reducible first | exact HB.out | apply below_alloc | apply pw_below_drewN | apply below_drew1) | exact HB.out))) (fun k_ h_ => h_)) (below_size (by repeat (first | (with_reducible first | exact HB.out | apply below_alloc | apply pw_below_drewN | apply below_drew1) | exact HB.out)))); have n1_ := Aside0.mk (below_step (by repeat (first | (with_reducible first | exact HB.out | apply below_alloc | apply pw_below_drewN | apply below_drew1) | exact HB.out)) hb); clear HB; have HO123 := n0_; have HB := n1_; clear n0_ n1_; clear hb ho24)); try go_wp2_with (first | ((with_reducible refine gate_dst (N := 49) rfl ?_); (try (refine gate_guard (by rfl) ?_; dsimp only)); refine Kd.R_make (Kd.int .u64) _ 27 rfl (N := 49) rfl 22 _ _ rfl ji20 rfl rfl Try.underlying22 (.int .u64 0) 8 info27 rfl (by decide) (by omega) 0 (ok := fun _ => True) (okp := fun _ => True) rfl (fun _ hk => hk) trivial (of_decide_eq_true (by first | (with_reducible assumption) | assumption)) (Nat.le_trans (Nat.mul_le_mul_right _ (of_decide_eq_true (by first | (with_reducible assumption) | assumption) : ji20.toNat ≤ 35184372088832)) (by omega)) (Below.refl _ _) (Nat.le_refl _) ?_; intro v122 w23 ho24 hb hg_ hnew_; clear hg_ hnew_; (first | rw [← Ny121.out] at ho24 | (simp only [Int.reduceToNat] at ho24; rw [← Ny121.out] at ho24)); have n0_ := Aside0.mk (Kd.R_lower (Kd.R_newM (M := fun k_ => (w.heap.size ≤ k_)) ho24 (below_size (by repeat (first | (with_reducible first | exact HB.out | apply below_alloc | apply pw_below_drewN | apply below_drew1) | exact HB.out))) (fun k_ h_ => h_)) (below_size (by repeat (first | (with_reducible first | exact HB.out | apply below_alloc | apply pw_below_drewN | apply below_drew1) | exact HB.out)))); have n1_ := Aside0.mk (below_step (by repeat (first | (with_reducible first | exact HB.out | apply below_alloc | apply pw_below_drewN | apply below_drew1) | exact HB.out)) hb); clear HB; have HO123 := n0_; have HB := n1_; clear n0_ n1_; clear hb ho24)))
                            go_loopg [52] kj13 (fun kq v52 w' => ∃ (x6_3 : List Int) (x52_3 : Int), v52 = .int .i64 x52_3 ∧ Aside0 (nat_Mul.l0 kq y117 x6_3 y112 (y112.length : Int) x52_3 = some (r1, r2)) ∧ Aside0 (kq ≤ kj13) ∧ Aside0 (Kd.R (Kd.int .u64) 27 w' w.heap.size (fun k_ => (w.heap.size ≤ k_)) v122 x6_3) ∧ Aside0 (Below w.heap.size w w'))
                            case atStart => exact ⟨(y121), (0), (by first | rfl | (simp; done) | (simp [*]; done)), H', ⟨Nat.le_refl _⟩, ⟨by (with_reducible repeat (first | apply Kd.R_alloc | apply Kd.R_drewN | apply Kd.R_drew)); exact Kd.R_mono HO123.out (fun _ hk => hk.1)⟩, ⟨by repeat (first | (with_reducible first | exact HB.out | apply below_alloc | apply pw_below_drewN | apply below_drew1) | exact HB.out)⟩⟩
                            case round =>
                              clear H'
                              try clear c1
                              try clear q1
                              try clear c2
                              try clear p2
                              try clear c5
                              try clear p6
                              try clear c7
                              try clear c9
                              try clear c9b0
                              try clear c9b1
                              try clear c10
                              try clear c10b0
                              try clear c10b1
                              try clear c11
                              try clear c12
                              try clear c12b0
                              try clear c12b1
                              try clear c13
                              try clear c13b0
                              try clear c13b1
                              try clear q15
                              try clear q16
                              try clear c17
                              try clear c17b0
                              try clear c17b1
                              try clear c17b2
                              try clear c18
                              try clear c19
                              try clear c19b0
                              try clear c21
                              try clear c21b0
                              try clear c21b1
                              try clear c22
                              try clear c22b0
                              try clear c22b1
                              try clear p2
                              try clear q1
                              try clear q15
                              try clear q16
                              obtain ⟨x6_3, x52_3, rfl, HA, HK3, HO_6, HB⟩ := hrel
                              cases gk with
                              | zero => exact absurd HA.out (by simp [nat_Mul.l0])
                              | succ k3 =>
                                have H := HA.out
                                clear HA
                                simp only [nat_Mul.l0] at H
                                by_cases c25 : x52_3 < (y112.length : Int)
                                · rw [if_pos c25] at H
                                  have c25b0 : decide (x52_3 < (y112.length : Int)) = true := decide_eq_true c25
                                  clear c25
                                  by_cases c26 : 0 ≤ x52_3
                                  · rw [if_pos c26] at H
                                    have c26b0 : decide (0 ≤ x52_3) = true := decide_eq_true c26
                                    clear c26
                                    by_cases c27 : x52_3 < (y112.length : Int)
                                    · rw [if_pos c27] at H
                                      have c27b0 : decide (x52_3 < (y112.length : Int)) = true := decide_eq_true c27
                                      clear c27
                                      have H' := Aside0.mk H
                                      clear H
                                      have p128 : 0 ≤ (x52_3 : Int) := of_decide_eq_true (by first | (with_reducible assumption) | assumption)
                                      have q128 : x52_3 < (y112.length : Int) := of_decide_eq_true (by first | (with_reducible assumption) | assumption)
                                      obtain ⟨ad128, e128, hx128_0⟩ := Kd.at_int HR115.out x52_3 p128 q128
                                      cases e128
                                      replace hx128_0 := (HB.out.cell (World.block_lt_of_cell? w _ hx128_0)).trans hx128_0
                                      replace p128 := eq_true p128
                                      replace q128 := eq_true q128
                                      go_wp2
                                      repeat (go_quiet (fail); try go_wp2)
                                      go_loopg [9, 59] k3 (fun kq v9 v59 w' => ∃ (x6_4 : List Int) (x9_4 : Int) (x59_4 : Int), v9 = .int .u64 x9_4 ∧ v59 = .int .i64 x59_4 ∧ Aside0 (nat_Mul.l1 kq y117 x6_4 x52_3 (rd y112 x52_3) x9_4 y112 (y112.length : Int) x52_3 y117 (y117.length : Int) x59_4 = some (r1, r2)) ∧ Aside0 (kq ≤ k3) ∧ Aside0 (Kd.R (Kd.int .u64) 27 w' w.heap.size (fun k_ => (w.heap.size ≤ k_)) v122 x6_4) ∧ Aside0 (Below w.heap.size w w'))
                                      case atStart => exact ⟨(x6_3), (0), (0), (by first | rfl | (simp; done) | (simp [*]; done)), (by first | rfl | (simp; done) | (simp [*]; done)), H', ⟨Nat.le_refl _⟩, ⟨by (with_reducible repeat (first | apply Kd.R_alloc | apply Kd.R_drewN | apply Kd.R_drew)); exact HO_6.out⟩, ⟨by repeat (first | (with_reducible first | exact HB.out | apply below_alloc | apply pw_below_drewN | apply below_drew1) | exact HB.out)⟩⟩
                                      case round =>
                                        clear H'
                                        try clear c1
                                        try clear p1
                                        try clear q1
                                        try clear hx1
                                        try clear c2
                                        try clear p2
                                        try clear c5
                                        try clear p6
                                        try clear c7
                                        try clear c9
                                        try clear c9b0
                                        try clear c9b1
                                        try clear c10
                                        try clear c10b0
                                        try clear c10b1
                                        try clear c11
                                        try clear c12
                                        try clear c12b0
                                        try clear c12b1
                                        try clear p12
                                        try clear q12
                                        try clear hx12
                                        try clear c13
                                        try clear c13b0
                                        try clear c13b1
                                        try clear q15
                                        try clear q16
                                        try clear c17
                                        try clear c17b0
                                        try clear c17b1
                                        try clear c17b2
                                        try clear c18
                                        try clear c19
                                        try clear c19b0
                                        try clear c21
                                        try clear c21b0
                                        try clear c21b1
                                        try clear c22
                                        try clear c22b0
                                        try clear c22b1
                                        try clear c25
                                        try clear c25b0
                                        try clear c26
                                        try clear c26b0
                                        try clear c27
                                        try clear c27b0
                                        try clear hx128_0
                                        try clear p128
                                        try clear p2
                                        try clear p6
                                        try clear q1
                                        try clear q128
                                        try clear q15
                                        try clear q16
                                        obtain ⟨x6_4, x9_4, x59_4, rfl, rfl, HA, HK4, HO_6, HB⟩ := hrel
                                        cases gk with
                                        | zero => exact absurd HA.out (by simp [nat_Mul.l1])
                                        | succ k4 =>
                                          have H := HA.out
                                          clear HA
                                          simp only [nat_Mul.l1] at H
                                          by_cases c28 : x59_4 < (y117.length : Int)
                                          · rw [if_pos c28] at H
                                            have c28b0 : decide (x59_4 < (y117.length : Int)) = true := decide_eq_true c28
                                            clear c28
                                            by_cases c29 : 0 ≤ x59_4
                                            · rw [if_pos c29] at H
                                              have c29b0 : decide (0 ≤ x59_4) = true := decide_eq_true c29
                                              clear c29
                                              by_cases c30 : x59_4 < (y117.length : Int)
                                              · rw [if_pos c30] at H
                                                have c30b0 : decide (x59_4 < (y117.length : Int)) = true := decide_eq_true c30
                                                clear c30
                                                replace H := Option.bind_eq_some_iff.mp H
                                                obtain ⟨⟨t130, t131⟩, A310, H⟩ := H
                                                replace H : (if 0 ≤ (wrap64 (x52_3 + x59_4)) then (if (wrap64 (x52_3 + x59_4)) < (x6_4.length : Int) then ((bits_Add64.f t131 (rd x6_4 (wrap64 (x52_3 + x59_4))) 0).bind fun bt133 => ((bits_Add64.f bt133.1 x9_4 0).bind fun bt135 => (nat_Mul.l1 k4 y117 (x6_4.set ((wrap64 (x52_3 + x59_4)) : Int).toNat bt135.1) x52_3 (rd y112 x52_3) (IntKind.u64.wrap ((IntKind.u64.wrap (t130 + bt133.2)) + bt135.2)) y112 (y112.length : Int) x52_3 y117 (y117.length : Int) (wrap64 (x59_4 + 1))))) else (none)) else (none)) = some (r1, r2) := H
                                                have A31 := Aside0.mk A310
                                                clear A310
                                                obtain ⟨ji32, hji32⟩ : ∃ j_ : Int, (wrap64 (x52_3 + x59_4)) = j_ := ⟨_, rfl⟩
                                                replace H : (if 0 ≤ (ji32) then (if (ji32) < (x6_4.length : Int) then ((bits_Add64.f t131 (rd x6_4 (ji32)) 0).bind fun bt133 => ((bits_Add64.f bt133.1 x9_4 0).bind fun bt135 => (nat_Mul.l1 k4 y117 (x6_4.set ((ji32) : Int).toNat bt135.1) x52_3 (rd y112 x52_3) (IntKind.u64.wrap ((IntKind.u64.wrap (t130 + bt133.2)) + bt135.2)) y112 (y112.length : Int) x52_3 y117 (y117.length : Int) (wrap64 (x59_4 + 1))))) else (none)) else (none)) = some (r1, r2) := by first | (rw [hji32] at H; exact H) | (simp only [hji32] at H ⊢; exact H)
                                                (try rw [hji32] at A31)
                                                have hji32w : (IntKind.i64.wrap (x52_3 + x59_4)) = ji32 := (i64_w _).trans hji32
                                                by_cases c33 : 0 ≤ (ji32)
                                                · rw [if_pos c33] at H
                                                  have c33b0 : decide (0 ≤ (ji32)) = true := decide_eq_true c33
                                                  clear c33
                                                  by_cases c34 : (ji32) < (x6_4.length : Int)
                                                  · rw [if_pos c34] at H
                                                    have c34b0 : decide ((ji32) < (x6_4.length : Int)) = true := decide_eq_true c34
                                                    clear c34
                                                    replace H := Option.bind_eq_some_iff.mp H
                                                    obtain ⟨⟨t133, t134⟩, A350, H⟩ := H
                                                    replace H : ((bits_Add64.f t133 x9_4 0).bind fun bt135 => (nat_Mul.l1 k4 y117 (x6_4.set ((ji32) : Int).toNat bt135.1) x52_3 (rd y112 x52_3) (IntKind.u64.wrap ((IntKind.u64.wrap (t130 + t134)) + bt135.2)) y112 (y112.length : Int) x52_3 y117 (y117.length : Int) (wrap64 (x59_4 + 1)))) = some (r1, r2) := H
                                                    have A35 := Aside0.mk A350
                                                    clear A350
                                                    replace H := Option.bind_eq_some_iff.mp H
                                                    obtain ⟨⟨t135, t136⟩, A360, H⟩ := H
                                                    replace H : (nat_Mul.l1 k4 y117 (x6_4.set ((ji32) : Int).toNat t135) x52_3 (rd y112 x52_3) (IntKind.u64.wrap ((IntKind.u64.wrap (t130 + t134)) + t136)) y112 (y112.length : Int) x52_3 y117 (y117.length : Int) (wrap64 (x59_4 + 1))) = some (r1, r2) := H
                                                    have A36 := Aside0.mk A360
                                                    clear A360
                                                    obtain ⟨y137, hy137⟩ : ∃ y_ : List Int, y_ = (x6_4.set ((ji32) : Int).toNat t135) := ⟨_, rfl⟩
                                                    replace H : (nat_Mul.l1 k4 y117 y137 x52_3 (rd y112 x52_3) (IntKind.u64.wrap ((IntKind.u64.wrap (t130 + t134)) + t136)) y112 (y112.length : Int) x52_3 y117 (y117.length : Int) (wrap64 (x59_4 + 1))) = some (r1, r2) := by first | (rw [hy137]; with_reducible exact H) | (have H2_ := (Option.bind_some _ _).symm.trans H; rw [hy137]; with_reducible exact H2_) | (have H2_ := (Option.bind_some _ _).symm.trans H; with_reducible exact H2_) | with_reducible exact H | (rw [hy137]; exact H) | exact H
                                                    have Ny137 := Aside0.mk hy137
                                                    clear hy137
                                                    have H' := Aside0.mk H
                                                    clear H
                                                    have p129 : 0 ≤ (x59_4 : Int) := of_decide_eq_true (by first | (with_reducible assumption) | assumption)
                                                    have q129 : x59_4 < (y117.length : Int) := of_decide_eq_true (by first | (with_reducible assumption) | assumption)
                                                    obtain ⟨ad129, e129, hx129_0⟩ := Kd.at_int HR120.out x59_4 p129 q129
                                                    cases e129
                                                    replace hx129_0 := (HB.out.cell (World.block_lt_of_cell? w _ hx129_0)).trans hx129_0
                                                    replace p129 := eq_true p129
                                                    replace q129 := eq_true q129
                                                    go_wp2_with (first | (go_at_call 17; (with_reducible refine (bits_Mul64.calls (rd y112 x52_3) (rd y117 x59_4) t130 t131 _ A31.out).mono ?_); rintro e w' ⟨rfl, ⟨nd, rfl⟩⟩; (try first | exact ⟨rfl, _, World.drewN_drewN _ _ _⟩ | exact ⟨rfl, _, Eq.trans (World.drewN_drewN _ _ _) (congrArg (World.drewN _) (Nat.add_assoc _ _ _))⟩); obtain ⟨Ao38, co38, eo38⟩ := Kd.R_slice HO_6.out; subst eo38; have p132 : 0 ≤ ((ji32) : Int) := of_decide_eq_true (by first | (with_reducible assumption) | assumption); have q132 : (ji32) < (x6_4.length : Int) := of_decide_eq_true (by first | (with_reducible assumption) | assumption); obtain ⟨ad132, e132, hx132_0⟩ := Kd.at_int (Kd.R_reads' HO_6.out).2.2 (ji32) p132 q132; cases e132; replace p132 := eq_true p132; replace q132 := eq_true q132) | ((with_reducible refine gate_callee (f := 19) rfl ?_); refine goesX_ (some 78) rfl rfl Try.func19 (by kernel_rfl) rfl #[.int .u64 t131, .int .u64 (rd x6_4 (ji32)), .int .u64 0] rfl (by (try simp only [List.map_toArray, List.map_cons, List.map_nil]); first | done | (simp only [hji32]; rfl) | rfl | (simp only [List.length_drop, List.length_take]; rfl)) ?_; (with_reducible refine (bits_Add64.calls t131 (rd x6_4 (ji32)) 0 t133 t134 _ A35.out).mono ?_); rintro e w' ⟨rfl, rfl⟩; refine ⟨_, rfl, ?_⟩) | ((with_reducible refine gate_callee (f := 19) rfl ?_); refine goesX_ (some 87) rfl rfl Try.func19 (by kernel_rfl) rfl #[.int .u64 t133, .int .u64 x9_4, .int .u64 0] rfl (by (try simp only [List.map_toArray, List.map_cons, List.map_nil]); first | done | rfl | (simp only [List.length_drop, List.length_take]; rfl)) ?_; (with_reducible refine (bits_Add64.calls t133 x9_4 0 t135 t136 _ A36.out).mono ?_); rintro e w' ⟨rfl, rfl⟩; refine ⟨_, rfl, ?_⟩; have p37 : 0 ≤ ((ji32) : Int) := of_decide_eq_true (by first | (with_reducible assumption) | assumption); have q37 : ((ji32) : Int) < ((x6_4.length : Int) : Int) := of_decide_eq_true (by first | (with_reducible assumption) | assumption); obtain ⟨go37, co37, eo37, gb37, gl37, cl37, HG37⟩ := Kd.R_form HO_6.out (by omega); (first | cases eo37 | (injection eo37 with ea_ en_ ec_; (first | subst ea_ | (injection ea_ with ea_; subst ea_)); subst ec_; clear en_)); have GB37 := Aside0.mk gb37; have GG37 := Aside0.mk HG37; clear gb37 gl37 HG37; (first | simp only [add_plain] at hx132_0 | skip); obtain ⟨hx37_0, hf37_0⟩ := Kd.R_celln 0 HO_6.out ((ji32) : Int) p37 q37; replace p37 := eq_true p37; replace q37 := eq_true q37; obtain ⟨hy39_, hz39_⟩ := Kd.R_celln 0 HO_6.out ((ji32) : Int) (of_decide_eq_true (by first | (with_reducible assumption) | assumption)) (of_decide_eq_true (by first | (with_reducible assumption) | assumption)); have HP39 := Kd.R_putg HO_6.out ((ji32) : Int) t135) | ((with_reducible refine gate_store (t := 27) (p := 98) rfl ?_); (try (rw [drewN_self wr]; generalize hq_ : World.drewN wr _ = wr; have n0_ := Aside0.mk (Kd.R_at hq_ HO_6.out); have n1_ := Aside0.mk (below_at hq_ HB.out); clear hq_ HO_6 HB; have HO_6 := n0_; have HB := n1_; clear n0_ n1_; (try (obtain ⟨hy39_, hz39_⟩ := Kd.R_celln 0 HO_6.out ((ji32) : Int) (of_decide_eq_true (by first | (with_reducible assumption) | assumption)) (of_decide_eq_true (by first | (with_reducible assumption) | assumption)))); (try (have HP39 := Kd.R_putg HO_6.out ((ji32) : Int) t135)))); refine store_event (t := 27) (p := 98) (v := ?vo_w40) (w1 := (wr.setCell ⟨go37, ((ji32) : Int).toNat, none⟩ (.int .u64 t135))) ?hg ?ho ?hn ?hr ?_; (case ho => rfl); (case hg => rfl); (case hn => rfl); (case hr => first | (go_simp; done) | (go_simp; rfl)); intro w40 hw; have hg : wr.grownBy w40 (some go37) := (by rw [hw]; exact HP39.2); have hp_ : Kd.R (Kd.int .u64) 27 w40 w.heap.size (fun k_ => (w.heap.size ≤ k_)) (.slice (some ⟨go37, 0, none⟩) x6_4.length co38) y137 := (by rw [hw, Ny137.out]; exact HP39.1); clear HP39; have n0_ := Aside0.mk (hp_); have n1_ := Aside0.mk ((by rw [hw]; exact below_set (HB.out) GB37.out : Below w.heap.size w w40)); clear HO_6; clear HB; have HO_6 := n0_; have HB := n1_; clear n0_ n1_; clear hg hw hp_))
                                                    repeat (go_quiet (first | (go_at_call 17; (with_reducible refine (bits_Mul64.calls (rd y112 x52_3) (rd y117 x59_4) t130 t131 _ A31.out).mono ?_); rintro e w' ⟨rfl, ⟨nd, rfl⟩⟩; (try first | exact ⟨rfl, _, World.drewN_drewN _ _ _⟩ | exact ⟨rfl, _, Eq.trans (World.drewN_drewN _ _ _) (congrArg (World.drewN _) (Nat.add_assoc _ _ _))⟩); obtain ⟨Ao38, co38, eo38⟩ := Kd.R_slice HO_6.out; subst eo38; have p132 : 0 ≤ ((ji32) : Int) := of_decide_eq_true (by first | (with_reducible assumption) | assumption); have q132 : (ji32) < (x6_4.length : Int) := of_decide_eq_true (by first | (with_reducible assumption) | assumption); obtain ⟨ad132, e132, hx132_0⟩ := Kd.at_int (Kd.R_reads' HO_6.out).2.2 (ji32) p132 q132; cases e132; replace p132 := eq_true p132; replace q132 := eq_true q132) | ((with_reducible refine gate_callee (f := 19) rfl ?_); refine goesX_ (some 78) rfl rfl Try.func19 (by kernel_rfl) rfl #[.int .u64 t131, .int .u64 (rd x6_4 (ji32)), .int .u64 0] rfl (by (try simp only [List.map_toArray, List.map_cons, List.map_nil]); first | done | (simp only [hji32]; rfl) | rfl | (simp only [List.length_drop, List.length_take]; rfl)) ?_; (with_reducible refine (bits_Add64.calls t131 (rd x6_4 (ji32)) 0 t133 t134 _ A35.out).mono ?_); rintro e w' ⟨rfl, rfl⟩; refine ⟨_, rfl, ?_⟩) | ((with_reducible refine gate_callee (f := 19) rfl ?_); refine goesX_ (some 87) rfl rfl Try.func19 (by kernel_rfl) rfl #[.int .u64 t133, .int .u64 x9_4, .int .u64 0] rfl (by (try simp only [List.map_toArray, List.map_cons, List.map_nil]); first | done | rfl | (simp only [List.length_drop, List.length_take]; rfl)) ?_; (with_reducible refine (bits_Add64.calls t133 x9_4 0 t135 t136 _ A36.out).mono ?_); rintro e w' ⟨rfl, rfl⟩; refine ⟨_, rfl, ?_⟩; have p37 : 0 ≤ ((ji32) : Int) := of_decide_eq_true (by first | (with_reducible assumption) | assumption); have q37 : ((ji32) : Int) < ((x6_4.length : Int) : Int) := of_decide_eq_true (by first | (with_reducible assumption) | assumption); obtain ⟨go37, co37, eo37, gb37, gl37, cl37, HG37⟩ := Kd.R_form HO_6.out (by omega); (first | cases eo37 | (injection eo37 with ea_ en_ ec_; (first | subst ea_ | (injection ea_ with ea_; subst ea_)); subst ec_; clear en_)); have GB37 := Aside0.mk gb37; have GG37 := Aside0.mk HG37; clear gb37 gl37 HG37; (first | simp only [add_plain] at hx132_0 | skip); obtain ⟨hx37_0, hf37_0⟩ := Kd.R_celln 0 HO_6.out ((ji32) : Int) p37 q37; replace p37 := eq_true p37; replace q37 := eq_true q37; obtain ⟨hy39_, hz39_⟩ := Kd.R_celln 0 HO_6.out ((ji32) : Int) (of_decide_eq_true (by first | (with_reducible assumption) | assumption)) (of_decide_eq_true (by first | (with_reducible assumption) | assumption)); have HP39 := Kd.R_putg HO_6.out ((ji32) : Int) t135) | ((with_reducible refine gate_store (t := 27) (p := 98) rfl ?_); (try (rw [drewN_self wr]; generalize hq_ : World.drewN wr _ = wr; have n0_ := Aside0.mk (Kd.R_at hq_ HO_6.out); have n1_ := Aside0.mk (below_at hq_ HB.out); clear hq_ HO_6 HB; have HO_6 := n0_; have HB := n1_; clear n0_ n1_; (try (obtain ⟨hy39_, hz39_⟩ := Kd.R_celln 0 HO_6.out ((ji32) : Int) (of_decide_eq_true (by first | (with_reducible assumption) | assumption)) (of_decide_eq_true (by first | (with_reducible assumption) | assumption)))); (try (have HP39 := Kd.R_putg HO_6.out ((ji32) : Int) t135)))); refine store_event (t := 27) (p := 98) (v := ?vo_w40) (w1 := (wr.setCell ⟨go37, ((ji32) : Int).toNat, none⟩ (.int .u64 t135))) ?hg ?ho ?hn ?hr ?_; (case ho => rfl); (case hg => rfl); (case hn => rfl); (case hr => first | (go_simp; done) | (go_simp; rfl)); intro w40 hw; have hg : wr.grownBy w40 (some go37) := (by rw [hw]; exact HP39.2); have hp_ : Kd.R (Kd.int .u64) 27 w40 w.heap.size (fun k_ => (w.heap.size ≤ k_)) (.slice (some ⟨go37, 0, none⟩) x6_4.length co38) y137 := (by rw [hw, Ny137.out]; exact HP39.1); clear HP39; have n0_ := Aside0.mk (hp_); have n1_ := Aside0.mk ((by rw [hw]; exact below_set (HB.out) GB37.out : Below w.heap.size w w40)); clear HO_6; clear HB; have HO_6 := n0_; have HB := n1_; clear n0_ n1_; clear hg hw hp_)); try go_wp2_with (first | (go_at_call 17; (with_reducible refine (bits_Mul64.calls (rd y112 x52_3) (rd y117 x59_4) t130 t131 _ A31.out).mono ?_); rintro e w' ⟨rfl, ⟨nd, rfl⟩⟩; (try first | exact ⟨rfl, _, World.drewN_drewN _ _ _⟩ | exact ⟨rfl, _, Eq.trans (World.drewN_drewN _ _ _) (congrArg (World.drewN _) (Nat.add_assoc _ _ _))⟩); obtain ⟨Ao38, co38, eo38⟩ := Kd.R_slice HO_6.out; subst eo38; have p132 : 0 ≤ ((ji32) : Int) := of_decide_eq_true (by first | (with_reducible assumption) | assumption); have q132 : (ji32) < (x6_4.length : Int) := of_decide_eq_true (by first | (with_reducible assumption) | assumption); obtain ⟨ad132, e132, hx132_0⟩ := Kd.at_int (Kd.R_reads' HO_6.out).2.2 (ji32) p132 q132; cases e132; replace p132 := eq_true p132; replace q132 := eq_true q132) | ((with_reducible refine gate_callee (f := 19) rfl ?_); refine goesX_ (some 78) rfl rfl Try.func19 (by kernel_rfl) rfl #[.int .u64 t131, .int .u64 (rd x6_4 (ji32)), .int .u64 0] rfl (by (try simp only [List.map_toArray, List.map_cons, List.map_nil]); first | done | (simp only [hji32]; rfl) | rfl | (simp only [List.length_drop, List.length_take]; rfl)) ?_; (with_reducible refine (bits_Add64.calls t131 (rd x6_4 (ji32)) 0 t133 t134 _ A35.out).mono ?_); rintro e w' ⟨rfl, rfl⟩; refine ⟨_, rfl, ?_⟩) | ((with_reducible refine gate_callee (f := 19) rfl ?_); refine goesX_ (some 87) rfl rfl Try.func19 (by kernel_rfl) rfl #[.int .u64 t133, .int .u64 x9_4, .int .u64 0] rfl (by (try simp only [List.map_toArray, List.map_cons, List.map_nil]); first | done | rfl | (simp only [List.length_drop, List.length_take]; rfl)) ?_; (with_reducible refine (bits_Add64.calls t133 x9_4 0 t135 t136 _ A36.out).mono ?_); rintro e w' ⟨rfl, rfl⟩; refine ⟨_, rfl, ?_⟩; have p37 : 0 ≤ ((ji32) : Int) := of_decide_eq_true (by first | (with_reducible assumption) | assumption); have q37 : ((ji32) : Int) < ((x6_4.length : Int) : Int) := of_decide_eq_true (by first | (with_reducible assumption) | assumption); obtain ⟨go37, co37, eo37, gb37, gl37, cl37, HG37⟩ := Kd.R_form HO_6.out (by omega); (first | cases eo37 | (injection eo37 with ea_ en_ ec_; (first | subst ea_ | (injection ea_ with ea_; subst ea_)); subst ec_; clear en_)); have GB37 := Aside0.mk gb37; have GG37 := Aside0.mk HG37; clear gb37 gl37 HG37; (first | simp only [add_plain] at hx132_0 | skip); obtain ⟨hx37_0, hf37_0⟩ := Kd.R_celln 0 HO_6.out ((ji32) : Int) p37 q37; replace p37 := eq_true p37; replace q37 := eq_true q37; obtain ⟨hy39_, hz39_⟩ := Kd.R_celln 0 HO_6.out ((ji32) : Int) (of_decide_eq_true (by first | (with_reducible assumption) | assumption)) (of_decide_eq_true (by first | (with_reducible assumption) | assumption)); have HP39 := Kd.R_putg HO_6.out ((ji32) : Int) t135) | ((with_reducible refine gate_store (t := 27) (p := 98) rfl ?_); (try (rw [drewN_self wr]; generalize hq_ : World.drewN wr _ = wr; have n0_ := Aside0.mk (Kd.R_at hq_ HO_6.out); have n1_ := Aside0.mk (below_at hq_ HB.out); clear hq_ HO_6 HB; have HO_6 := n0_; have HB := n1_; clear n0_ n1_; (try (obtain ⟨hy39_, hz39_⟩ := Kd.R_celln 0 HO_6.out ((ji32) : Int) (of_decide_eq_true (by first | (with_reducible assumption) | assumption)) (of_decide_eq_true (by first | (with_reducible assumption) | assumption)))); (try (have HP39 := Kd.R_putg HO_6.out ((ji32) : Int) t135)))); refine store_event (t := 27) (p := 98) (v := ?vo_w40) (w1 := (wr.setCell ⟨go37, ((ji32) : Int).toNat, none⟩ (.int .u64 t135))) ?hg ?ho ?hn ?hr ?_; (case ho => rfl); (case hg => rfl); (case hn => rfl); (case hr => first | (go_simp; done) | (go_simp; rfl)); intro w40 hw; have hg : wr.grownBy w40 (some go37) := (by rw [hw]; exact HP39.2); have hp_ : Kd.R (Kd.int .u64) 27 w40 w.heap.size (fun k_ => (w.heap.size ≤ k_)) (.slice (some ⟨go37, 0, none⟩) x6_4.length co38) y137 := (by rw [hw, Ny137.out]; exact HP39.1); clear HP39; have n0_ := Aside0.mk (hp_); have n1_ := Aside0.mk ((by rw [hw]; exact below_set (HB.out) GB37.out : Below w.heap.size w w40)); clear HO_6; clear HB; have HO_6 := n0_; have HB := n1_; clear n0_ n1_; clear hg hw hp_)))
                                                    go_roundg k4
                                                    case measure => have := HJ2.out; have := HJ13.out; have := HK3.out; have := HK4.out; omega
                                                    case rel => exact ⟨(y137), (IntKind.u64.wrap ((IntKind.u64.wrap (t130 + t134)) + t136)), (wrap64 (x59_4 + 1)), (by first | rfl | (simp; done) | (simp [*]; done)), (by first | rfl | (simp; done) | (simp [*]; done)), H', ⟨by have := HJ2.out; have := HJ13.out; have := HK3.out; have := HK4.out; omega⟩, ⟨by (with_reducible repeat (first | apply Kd.R_alloc | apply Kd.R_drewN | apply Kd.R_drew)); exact HO_6.out⟩, ⟨by repeat (first | (with_reducible first | exact HB.out | apply below_alloc | apply pw_below_drewN | apply below_drew1) | exact HB.out)⟩⟩
                                                  · rw [if_neg c34] at H
                                                    exact absurd H (by simp)
                                                · rw [if_neg c33] at H
                                                  exact absurd H (by simp)
                                              · rw [if_neg c30] at H
                                                exact absurd H (by simp)
                                            · rw [if_neg c29] at H
                                              exact absurd H (by simp)
                                          · rw [if_neg c28] at H
                                            have c28b0 : decide (x59_4 < (y117.length : Int)) = false := decide_eq_false c28
                                            clear c28
                                            obtain ⟨ji41, hji41⟩ : ∃ j_ : Int, (wrap64 (x52_3 + (y117.length : Int))) = j_ := ⟨_, rfl⟩
                                            replace H : (if 0 ≤ (ji41) then (if (ji41) < (x6_4.length : Int) then (nat_Mul.l0 k4 y117 (x6_4.set ((ji41) : Int).toNat x9_4) y112 (y112.length : Int) (wrap64 (x52_3 + 1))) else (none)) else (none)) = some (r1, r2) := by first | (rw [hji41] at H; exact H) | (simp only [hji41] at H ⊢; exact H)
                                            have hji41w : (IntKind.i64.wrap (x52_3 + (y117.length : Int))) = ji41 := (i64_w _).trans hji41
                                            by_cases c42 : 0 ≤ (ji41)
                                            · rw [if_pos c42] at H
                                              have c42b0 : decide (0 ≤ (ji41)) = true := decide_eq_true c42
                                              clear c42
                                              by_cases c43 : (ji41) < (x6_4.length : Int)
                                              · rw [if_pos c43] at H
                                                have c43b0 : decide ((ji41) < (x6_4.length : Int)) = true := decide_eq_true c43
                                                clear c43
                                                obtain ⟨y138, hy138⟩ : ∃ y_ : List Int, y_ = (x6_4.set ((ji41) : Int).toNat x9_4) := ⟨_, rfl⟩
                                                replace H : (nat_Mul.l0 k4 y117 y138 y112 (y112.length : Int) (wrap64 (x52_3 + 1))) = some (r1, r2) := by first | (rw [hy138]; with_reducible exact H) | (have H2_ := (Option.bind_some _ _).symm.trans H; rw [hy138]; with_reducible exact H2_) | (have H2_ := (Option.bind_some _ _).symm.trans H; with_reducible exact H2_) | with_reducible exact H | (rw [hy138]; exact H) | exact H
                                                have Ny138 := Aside0.mk hy138
                                                clear hy138
                                                have H' := Aside0.mk H
                                                clear H
                                                have p44 : 0 ≤ ((ji41) : Int) := of_decide_eq_true (by first | (with_reducible assumption) | assumption)
                                                have q44 : ((ji41) : Int) < ((x6_4.length : Int) : Int) := of_decide_eq_true (by first | (with_reducible assumption) | assumption)
                                                obtain ⟨go44, co44, eo44, gb44, gl44, cl44, HG44⟩ := Kd.R_form HO_6.out (by omega)
                                                (first | cases eo44 | (injection eo44 with ea_ en_ ec_; (first | subst ea_ | (injection ea_ with ea_; subst ea_)); subst ec_; clear en_))
                                                have GB44 := Aside0.mk gb44
                                                have GG44 := Aside0.mk HG44
                                                clear gb44 gl44 HG44
                                                obtain ⟨hx44_0, hf44_0⟩ := Kd.R_celln 0 HO_6.out ((ji41) : Int) p44 q44
                                                replace p44 := eq_true p44
                                                replace q44 := eq_true q44
                                                have HP45 := Kd.R_putg HO_6.out ((ji41) : Int) x9_4
                                                go_wp2_with (first | ((with_reducible refine gate_store (t := 27) (p := 107) rfl ?_); (try (rw [drewN_self wr]; generalize hq_ : World.drewN wr _ = wr; have n0_ := Aside0.mk (Kd.R_at hq_ HO_6.out); have n1_ := Aside0.mk (below_at hq_ HB.out); clear hq_ HO_6 HB; have HO_6 := n0_; have HB := n1_; clear n0_ n1_; (try (have HP45 := Kd.R_putg HO_6.out ((ji41) : Int) x9_4)))); refine store_event (t := 27) (p := 107) (v := ?vo_w46) (w1 := (wr.setCell ⟨go44, ((ji41) : Int).toNat, none⟩ (.int .u64 x9_4))) ?hg ?ho ?hn ?hr ?_; (case ho => rfl); (case hg => rfl); (case hn => rfl); (case hr => first | (go_simp; done) | (go_simp; rfl)); intro w46 hw; have hg : wr.grownBy w46 (some go44) := (by rw [hw]; exact HP45.2); have hp_ : Kd.R (Kd.int .u64) 27 w46 w.heap.size (fun k_ => (w.heap.size ≤ k_)) (.slice (some ⟨go44, 0, none⟩) x6_4.length co44) y138 := (by rw [hw, Ny138.out]; exact HP45.1); clear HP45; have n0_ := Aside0.mk (hp_); have n1_ := Aside0.mk ((by rw [hw]; exact below_set (HB.out) GB44.out : Below w.heap.size w w46)); clear HO_6; clear HB; have HO_6 := n0_; have HB := n1_; clear n0_ n1_; clear hg hw hp_))
                                                repeat (go_quiet (first | ((with_reducible refine gate_store (t := 27) (p := 107) rfl ?_); (try (rw [drewN_self wr]; generalize hq_ : World.drewN wr _ = wr; have n0_ := Aside0.mk (Kd.R_at hq_ HO_6.out); have n1_ := Aside0.mk (below_at hq_ HB.out); clear hq_ HO_6 HB; have HO_6 := n0_; have HB := n1_; clear n0_ n1_; (try (have HP45 := Kd.R_putg HO_6.out ((ji41) : Int) x9_4)))); refine store_event (t := 27) (p := 107) (v := ?vo_w46) (w1 := (wr.setCell ⟨go44, ((ji41) : Int).toNat, none⟩ (.int .u64 x9_4))) ?hg ?ho ?hn ?hr ?_; (case ho => rfl); (case hg => rfl); (case hn => rfl); (case hr => first | (go_simp; done) | (go_simp; rfl)); intro w46 hw; have hg : wr.grownBy w46 (some go44) := (by rw [hw]; exact HP45.2); have hp_ : Kd.R (Kd.int .u64) 27 w46 w.heap.size (fun k_ => (w.heap.size ≤ k_)) (.slice (some ⟨go44, 0, none⟩) x6_4.length co44) y138 := (by rw [hw, Ny138.out]; exact HP45.1); clear HP45; have n0_ := Aside0.mk (hp_); have n1_ := Aside0.mk ((by rw [hw]; exact below_set (HB.out) GB44.out : Below w.heap.size w w46)); clear HO_6; clear HB; have HO_6 := n0_; have HB := n1_; clear n0_ n1_; clear hg hw hp_)); try go_wp2_with (first | ((with_reducible refine gate_store (t := 27) (p := 107) rfl ?_); (try (rw [drewN_self wr]; generalize hq_ : World.drewN wr _ = wr; have n0_ := Aside0.mk (Kd.R_at hq_ HO_6.out); have n1_ := Aside0.mk (below_at hq_ HB.out); clear hq_ HO_6 HB; have HO_6 := n0_; have HB := n1_; clear n0_ n1_; (try (have HP45 := Kd.R_putg HO_6.out ((ji41) : Int) x9_4)))); refine store_event (t := 27) (p := 107) (v := ?vo_w46) (w1 := (wr.setCell ⟨go44, ((ji41) : Int).toNat, none⟩ (.int .u64 x9_4))) ?hg ?ho ?hn ?hr ?_; (case ho => rfl); (case hg => rfl); (case hn => rfl); (case hr => first | (go_simp; done) | (go_simp; rfl)); intro w46 hw; have hg : wr.grownBy w46 (some go44) := (by rw [hw]; exact HP45.2); have hp_ : Kd.R (Kd.int .u64) 27 w46 w.heap.size (fun k_ => (w.heap.size ≤ k_)) (.slice (some ⟨go44, 0, none⟩) x6_4.length co44) y138 := (by rw [hw, Ny138.out]; exact HP45.1); clear HP45; have n0_ := Aside0.mk (hp_); have n1_ := Aside0.mk ((by rw [hw]; exact below_set (HB.out) GB44.out : Below w.heap.size w w46)); clear HO_6; clear HB; have HO_6 := n0_; have HB := n1_; clear n0_ n1_; clear hg hw hp_)))
                                                go_roundg k4
                                                case measure => have := HJ2.out; have := HJ13.out; have := HK3.out; have := HK4.out; omega
                                                case rel => exact ⟨(y138), (wrap64 (x52_3 + 1)), (by first | rfl | (simp; done) | (simp [*]; done)), H', ⟨by have := HJ2.out; have := HJ13.out; have := HK3.out; have := HK4.out; omega⟩, ⟨by (with_reducible repeat (first | apply Kd.R_alloc | apply Kd.R_drewN | apply Kd.R_drew)); exact HO_6.out⟩, ⟨by repeat (first | (with_reducible first | exact HB.out | apply below_alloc | apply pw_below_drewN | apply below_drew1) | exact HB.out)⟩⟩
                                              · rw [if_neg c43] at H
                                                exact absurd H (by simp)
                                            · rw [if_neg c42] at H
                                              exact absurd H (by simp)
                                    · rw [if_neg c27] at H
                                      exact absurd H (by simp)
                                  · rw [if_neg c26] at H
                                    exact absurd H (by simp)
                                · rw [if_neg c25] at H
                                  have c25b0 : decide (x52_3 < (y112.length : Int)) = false := decide_eq_false c25
                                  clear c25
                                  replace H := Option.bind_eq_some_iff.mp H
                                  obtain ⟨⟨t124, t127⟩, A470, H⟩ := H
                                  replace H : (some (t124, t127)) = some (r1, r2) := H
                                  have A47 := Aside0.mk A470
                                  clear A470
                                  simp only [Option.some.injEq, Prod.mk.injEq] at H
                                  obtain ⟨rfl, rfl⟩ := H
                                  obtain ⟨Ao48, co48, eo48⟩ := Kd.R_slice HO_6.out
                                  subst eo48
                                  go_wp2_with (first | (go_at_call 18; (with_reducible refine (nat_cut.calls k3 (fun k_ => some k_ = (.slice Ao48 x6_3.length co48 : Value).ownBlock) _ _ x6_3 t124 t127 _ ?side1 A47.out).mono ?_); (case side1 => exact Kd.R_V (Kd.R_tight rfl (HO_6.out))); rintro e w49 ⟨v125, rfl, ho0, hb⟩; have n0_ := Aside0.mk (Kd.R_below (by (with_reducible repeat (first | apply Kd.R_alloc | apply Kd.R_drewN | apply Kd.R_drew)); exact HO_6.out) hb); have n1_ := Aside0.mk (Kd.V_lower (Kd.V_mono (ok' := fun k_ => (w.heap.size ≤ k_)) ho0 (fun k_ hk_ => Or.elim hk_ (fun hs_ => ((HO_6.out).1 k_ hs_.symm)) (fun hn_ => (Nat.le_trans (below_size (by repeat (first | (with_reducible first | exact HB.out | apply below_alloc | apply pw_below_drewN | apply below_drew1) | exact HB.out))) hn_)))) (below_size (by repeat (first | (with_reducible first | exact HB.out | apply below_alloc | apply pw_below_drewN | apply below_drew1) | exact HB.out)))); have n2_ := Aside0.mk (below_step (by repeat (first | (with_reducible first | exact HB.out | apply below_alloc | apply pw_below_drewN | apply below_drew1) | exact HB.out)) hb); clear HO_6; clear HB; have HO_6 := n0_; have HO126 := n1_; have HB := n2_; clear n0_ n1_ n2_; (try clear hb); (try clear hb2); (try clear hk); (try clear hi); (try clear ho0)))
                                  repeat (go_quiet (first | (go_at_call 18; (with_reducible refine (nat_cut.calls k3 (fun k_ => some k_ = (.slice Ao48 x6_3.length co48 : Value).ownBlock) _ _ x6_3 t124 t127 _ ?side1 A47.out).mono ?_); (case side1 => exact Kd.R_V (Kd.R_tight rfl (HO_6.out))); rintro e w49 ⟨v125, rfl, ho0, hb⟩; have n0_ := Aside0.mk (Kd.R_below (by (with_reducible repeat (first | apply Kd.R_alloc | apply Kd.R_drewN | apply Kd.R_drew)); exact HO_6.out) hb); have n1_ := Aside0.mk (Kd.V_lower (Kd.V_mono (ok' := fun k_ => (w.heap.size ≤ k_)) ho0 (fun k_ hk_ => Or.elim hk_ (fun hs_ => ((HO_6.out).1 k_ hs_.symm)) (fun hn_ => (Nat.le_trans (below_size (by repeat (first | (with_reducible first | exact HB.out | apply below_alloc | apply pw_below_drewN | apply below_drew1) | exact HB.out))) hn_)))) (below_size (by repeat (first | (with_reducible first | exact HB.out | apply below_alloc | apply pw_below_drewN | apply below_drew1) | exact HB.out)))); have n2_ := Aside0.mk (below_step (by repeat (first | (with_reducible first | exact HB.out | apply below_alloc | apply pw_below_drewN | apply below_drew1) | exact HB.out)) hb); clear HO_6; clear HB; have HO_6 := n0_; have HO126 := n1_; have HB := n2_; clear n0_ n1_ n2_; (try clear hb); (try clear hb2); (try clear hk); (try clear hi); (try clear ho0))); try go_wp2_with (first | (go_at_call 18; (with_reducible refine (nat_cut.calls k3 (fun k_ => some k_ = (.slice Ao48 x6_3.length co48 : Value).ownBlock) _ _ x6_3 t124 t127 _ ?side1 A47.out).mono ?_); (case side1 => exact Kd.R_V (Kd.R_tight rfl (HO_6.out))); rintro e w49 ⟨v125, rfl, ho0, hb⟩; have n0_ := Aside0.mk (Kd.R_below (by (with_reducible repeat (first | apply Kd.R_alloc | apply Kd.R_drewN | apply Kd.R_drew)); exact HO_6.out) hb); have n1_ := Aside0.mk (Kd.V_lower (Kd.V_mono (ok' := fun k_ => (w.heap.size ≤ k_)) ho0 (fun k_ hk_ => Or.elim hk_ (fun hs_ => ((HO_6.out).1 k_ hs_.symm)) (fun hn_ => (Nat.le_trans (below_size (by repeat (first | (with_reducible first | exact HB.out | apply below_alloc | apply pw_below_drewN | apply below_drew1) | exact HB.out))) hn_)))) (below_size (by repeat (first | (with_reducible first | exact HB.out | apply below_alloc | apply pw_below_drewN | apply below_drew1) | exact HB.out)))); have n2_ := Aside0.mk (below_step (by repeat (first | (with_reducible first | exact HB.out | apply below_alloc | apply pw_below_drewN | apply below_drew1) | exact HB.out)) hb); clear HO_6; clear HB; have HO_6 := n0_; have HO126 := n1_; have HB := n2_; clear n0_ n1_ n2_; (try clear hb); (try clear hb2); (try clear hk); (try clear hi); (try clear ho0))))
                                  go_ret2
                                  exact ⟨_, by first | rfl | (simp [errW_none, errW_some] <;> rfl) | (simp only [← hji20]; first | rfl | (simp [errW_none, errW_some] <;> rfl)) | (simp [*, errW_none, errW_some] <;> rfl), by (with_reducible repeat (first | apply Kd.V_alloc | apply Kd.V_drewN | apply Kd.V_drew)); exact HO126.out, by repeat (first | (with_reducible first | exact HB.out | apply below_alloc | apply pw_below_drewN | apply below_drew1) | exact HB.out)⟩
                          · rw [if_neg c22] at H
                            exact absurd H (by simp)
                        · rw [if_neg c21] at H
                          exact absurd H (by simp)
              · rw [if_neg c13] at H
                exact absurd H (by simp)
            · rw [if_neg c12] at H
              exact absurd H (by simp)
          · rw [if_neg c10] at H
            exact absurd H (by simp)
        · rw [if_neg c9] at H
          exact absurd H (by simp)

/-! ### nat_Trim: function 20 (its contract by hand) -/
def nat_Trim.f (k : Nat) (l0 : List Int) : Option (List Int) := (nat_size.f k l0).bind fun t => if 0 ≤ t ∧ t ≤ (l0.length : Int) ∧ t.toNat ≤ 35184372088832 then some (l0.take t.toNat) else none
theorem nat_Trim.mono : ∀ a0 k, LeO (nat_Trim.f k a0) (nat_Trim.f (k + 1) a0) := by
  intro a0 k
  unfold nat_Trim.f
  exact LeO.bind (nat_size.mono _ _) (fun _ => LeO.refl _)
set_option maxHeartbeats 4000000 in
set_option maxRecDepth 100000 in
theorem nat_Trim.calls (k : Nat) (A0 : Option Addr) (c0 : Nat) (l0 : List Int) (r : List Int) (w : World) (hr0 : Kd.C (Kd.int .u64) w A0 l0.length l0) (hc0 : l0.length ≤ c0) (h : nat_Trim.f k l0 = some r) :
    Calls Try.prog 20 #[.slice A0 l0.length c0] w fun e w' => ∃ v0_ : Value, e = .returned (v0_) ∧ Kd.R (Kd.int .u64) 27 w' w.heap.size (fun _ => True) v0_ r ∧ Below w.heap.size w w' := by
  obtain ⟨t, A2, H⟩ := Option.bind_eq_some_iff.mp h
  clear h
  split at H
  · rename_i hh
    obtain ⟨h0, h1, h2⟩ := hh
    obtain ⟨y, hy⟩ : ∃ y, y = l0.take t.toNat := ⟨_, rfl⟩
    rw [← hy] at H
    obtain rfl := Option.some.inj H
    clear H
    have HA := Aside0.mk A2
    have HR0 := Aside0.mk hr0
    have HC0 := Aside0.mk hc0
    obtain ⟨i0, hi0, _, hsz, _⟩ := info_parts info27
    have hcut := cut_to (P := Try.prog) 22 27 .i64 Try.underlying22 hi0 A0 l0.length c0 t h0 h1 hc0
    have hyl : y.length = t.toNat := by rw [hy, List.length_take]; omega
    rw [← hyl] at hcut
    have hC := Kd.C_take (m := t.toNat) hr0 (by omega)
    rw [← hy] at hC
    have HY := Aside0.mk hC
    have HL := Aside0.mk hyl
    have hz : (Try.prog.info? 27).map (·.size) = some 1 := by rw [hi0]; exact congrArg some hsz
    have HZ := Aside0.mk hz
    clear hy hyl hC hr0 hc0 A2 hsz hz
    go_enter Try.func20, Try.ntmps20
    go_wp2_with (first | ((with_reducible refine gate_callee (f := 16) rfl ?_); refine goesL_ (some 6) rfl rfl Try.func16 (by kernel_rfl) rfl #[.slice A0 l0.length c0] rfl (by (try simp only [List.map_toArray, List.map_cons, List.map_nil]); first | done | rfl) ?_; (with_reducible refine (nat_size.calls k _ _ l0 t _ ?side1 ?side2 HA.out).mono ?_); (case side1 => exact HR0.out); (case side2 => exact HC0.out); rintro e w' ⟨rfl, ⟨nd, rfl⟩⟩; refine ⟨_, rfl, ?_⟩) | ((with_reducible refine gate_dst (N := 8) rfl ?_); refine Kd.R_make (Kd.int .u64) w.heap.size 27 rfl (N := 8) rfl 22 _ _ rfl t rfl rfl Try.underlying22 (.int .u64 0) 8 info27 rfl (by decide) (by omega) 0 (ok := fun _ => True) (okp := fun _ => True) rfl (fun _ hk => hk) trivial h0 (by omega) (w0 := w) (pw_below_drewN (Below.refl w.heap.size w) nd) (pw_below_drewN (Below.refl w.heap.size w) nd).size ?_; intro v1 w1 ho hb hg_ hn_; clear hg_ hn_; have HO := Aside0.mk ho; have HB := Aside0.mk hb; clear ho hb) | ((with_reducible refine gate_builtin (b := .copy) rfl ?_); refine Kd.R_copy (k := .u64) rfl (.tmp 9) (.tmp 12) 22 22 rfl Try.underlying22 HZ.out HO.out (Kd.C_below HY.out HB.out) (by rw [HL.out, List.length_replicate]) rfl rfl HB.out ?_; intro w2 ho2 hb2; have HO2 := Aside0.mk ho2; have HB2 := Aside0.mk hb2; clear ho2 hb2))
    go_ret
    exact ⟨_, rfl, HO2.out, HB2.out⟩
  · exact absurd H (by simp)

/-! ### quot_small: function 12 -/
def quot_small.f (k : Nat) (l0 : List Int) (a1 : Int) : Option (List Int × Bool) := (nat_Trim.f k l0).bind fun t139 => (some (t139, decide ((t139.length : Int) ≤ a1)))
theorem quot_small.mono : ∀ a0 a1 k, LeO (quot_small.f k a0 a1) (quot_small.f (k + 1) a0 a1) := by
  intro a0 a1 k
  unfold quot_small.f
  repeat' first
      | (with_reducible exact nat_Trim.mono _ _)
      | (with_reducible exact LeO.refl _)
      | (with_reducible exact LeO.none _)
      | (with_reducible refine LeO.ite ?_ ?_)
      | (with_reducible refine LeO.bind ?_ (fun _ => ?_))
      | exact nat_Trim.mono _ _
      | exact LeO.none _
      | refine LeO.ite ?_ ?_
      | refine LeO.bind ?_ (fun _ => ?_)
set_option maxHeartbeats 8000000 in
set_option maxRecDepth 100000 in
theorem quot_small.calls (k : Nat) (A0 : Option Addr) (c0 : Nat) (l0 : List Int) (a1 : Int) (r1 : List Int) (r2 : Bool) (w : World) (hr0 : Kd.C (Kd.int .u64) w A0 l0.length l0) (hc0 : l0.length ≤ c0) (h : quot_small.f k l0 a1 = some (r1, r2)) :
    Calls Try.prog 12 #[.slice A0 l0.length c0, .int .i64 a1] w fun e w' => ∃ v0_ : Value, e = .returned (.tuple #[v0_, .bool r2]) ∧ Kd.R (Kd.int .u64) 27 w' w.heap.size (fun _ => True) v0_ r1 ∧ Below w.heap.size w w' := by
  have HR0 := Aside0.mk hr0
  have HC0 := Aside0.mk hc0
  clear hr0 hc0
  have HB := Aside0.mk (Below.refl w.heap.size w)
  have H : ((nat_Trim.f k l0).bind fun t139 => (some (t139, decide ((t139.length : Int) ≤ a1)))) = some (r1, r2) := h
  clear h
  replace H := Option.bind_eq_some_iff.mp H
  obtain ⟨t139, A30, H⟩ := H
  replace H : (some (t139, decide ((t139.length : Int) ≤ a1))) = some (r1, r2) := H
  have A3 := Aside0.mk A30
  clear A30
  simp only [Option.some.injEq, Prod.mk.injEq] at H
  obtain ⟨rfl, rfl⟩ := H
  go_enter Try.func12, Try.ntmps12
  go_wp2_with (first | ((with_reducible refine gate_callee (f := 20) rfl ?_); refine goesL_ (some 8) rfl rfl Try.func20 (by kernel_rfl) rfl #[.slice A0 l0.length c0] rfl (by (try simp only [List.map_toArray, List.map_cons, List.map_nil]); first | done | rfl | (simp only [List.length_drop, List.length_take]; rfl)) ?_; (with_reducible refine (nat_Trim.calls k _ _ l0 t139 _ ?side1 ?side2 A3.out).mono ?_); (case side1 => repeat (first | exact HR0.out | (with_reducible refine Kd.C_alloc ?_ _) | (with_reducible refine Kd.C_drewN ?_ _) | (with_reducible refine Kd.C_drew ?_))); (case side2 => exact HC0.out); rintro e w4 ⟨v140, rfl, ho0, hb⟩; refine ⟨_, rfl, ?_⟩; have n0_ := Aside0.mk (Kd.R_lower ho0 (below_size (by repeat (first | (with_reducible first | exact HB.out | apply below_alloc | apply pw_below_drewN | apply below_drew1) | exact HB.out)))); have n1_ := Aside0.mk (below_step (by repeat (first | (with_reducible first | exact HB.out | apply below_alloc | apply pw_below_drewN | apply below_drew1) | exact HB.out)) hb); clear HB; have HO141 := n0_; have HB := n1_; clear n0_ n1_; (try clear hb); (try clear hb2); (try clear hk); (try clear hi); (try clear ho0); obtain ⟨Ao5, co5, eo5⟩ := Kd.R_slice HO141.out; subst eo5))
  go_ret2
  exact ⟨_, by first | rfl | (simp [errW_none, errW_some] <;> rfl) | (simp [*, errW_none, errW_some] <;> rfl), by (with_reducible repeat (first | apply Kd.R_alloc | apply Kd.R_drewN | apply Kd.R_drew)); exact HO141.out, by repeat (first | (with_reducible first | exact HB.out | apply below_alloc | apply pw_below_drewN | apply below_drew1) | exact HB.out)⟩

/-! ### bits_Len64: function 21 (its contract by hand) -/
def bits_Len64.f (a0 : Int) : Option Int := if 0 ≤ a0 ∧ a0 ≤ 18446744073709551615 then some (Lib.bitLen a0.toNat : Nat) else none
theorem bits_Len64.calls (a0 r : Int) (w : World) (h : bits_Len64.f a0 = some r) :
    Calls Try.prog 21 #[.int .u64 a0] w fun e w' => e = .returned (.int .i64 r) ∧ Drawn0 w w' := by
  unfold bits_Len64.f at h
  split at h
  · rename_i hh
    obtain rfl := Option.some.inj h
    refine (Go.Proofs.YtegollbojafekaaG.len64 a0 w hh.1 hh.2).mono ?_
    rintro e w' ⟨rfl, rfl⟩
    exact ⟨rfl, Drawn0.refl _⟩
  · exact absurd h (by simp)

/-! ### nat_BitLen: function 13 -/
def nat_BitLen.f (k : Nat) (l0 : List Int) : Option (Int) := (nat_size.f k l0).bind fun t142 => (if t142 = 0 then (some 0) else (if 0 ≤ (wrap64 (t142 - 1)) then (if (wrap64 (t142 - 1)) < (l0.length : Int) then ((bits_Len64.f (rd l0 (wrap64 (t142 - 1)))).bind fun t144 => (some (wrap64 ((wrap64 (64 * (wrap64 (t142 - 1)))) + t144)))) else (none)) else (none)))
theorem nat_BitLen.mono : ∀ a0 k, LeO (nat_BitLen.f k a0) (nat_BitLen.f (k + 1) a0) := by
  intro a0 k
  unfold nat_BitLen.f
  repeat' first
      | (with_reducible exact nat_size.mono _ _)
      | (with_reducible exact LeO.refl _)
      | (with_reducible exact LeO.none _)
      | (with_reducible refine LeO.ite ?_ ?_)
      | (with_reducible refine LeO.bind ?_ (fun _ => ?_))
      | exact nat_size.mono _ _
      | exact LeO.none _
      | refine LeO.ite ?_ ?_
      | refine LeO.bind ?_ (fun _ => ?_)
set_option maxHeartbeats 8000000 in
set_option maxRecDepth 100000 in
theorem nat_BitLen.calls (k : Nat) (A0 : Option Addr) (c0 : Nat) (l0 : List Int) (r : Int) (w : World) (hr0 : Kd.C (Kd.int .u64) w A0 l0.length l0) (hc0 : l0.length ≤ c0) (h : nat_BitLen.f k l0 = some r) :
    Calls Try.prog 13 #[.slice A0 l0.length c0] w fun e w' => e = .returned (.int .i64 r) ∧ Drawn0 w w' := by
  have HR0 := Aside0.mk hr0
  have HC0 := Aside0.mk hc0
  clear hr0 hc0
  have H : ((nat_size.f k l0).bind fun t142 => (if t142 = 0 then (some 0) else (if 0 ≤ (wrap64 (t142 - 1)) then (if (wrap64 (t142 - 1)) < (l0.length : Int) then ((bits_Len64.f (rd l0 (wrap64 (t142 - 1)))).bind fun t144 => (some (wrap64 ((wrap64 (64 * (wrap64 (t142 - 1)))) + t144)))) else (none)) else (none)))) = some r := h
  clear h
  replace H := Option.bind_eq_some_iff.mp H
  obtain ⟨t142, A20, H⟩ := H
  replace H : (if t142 = 0 then (some 0) else (if 0 ≤ (wrap64 (t142 - 1)) then (if (wrap64 (t142 - 1)) < (l0.length : Int) then ((bits_Len64.f (rd l0 (wrap64 (t142 - 1)))).bind fun t144 => (some (wrap64 ((wrap64 (64 * (wrap64 (t142 - 1)))) + t144)))) else (none)) else (none))) = some r := H
  have A2 := Aside0.mk A20
  clear A20
  by_cases c3 : t142 = 0
  · rw [if_pos c3] at H
    have c3b0 : (t142 == 0) = true := beq_iff_eq.mpr c3
    have c3b1 : (t142 != 0) = false := bne_eq_false_iff_eq.mpr c3
    clear c3
    obtain rfl := Option.some.inj H
    go_enter Try.func13, Try.ntmps13
    go_wp2_with (first | ((with_reducible refine gate_callee (f := 16) rfl ?_); refine goesL_ (some 5) rfl rfl Try.func16 (by kernel_rfl) rfl #[.slice A0 l0.length c0] rfl (by (try simp only [List.map_toArray, List.map_cons, List.map_nil]); first | done | rfl | (simp only [List.length_drop, List.length_take]; rfl)) ?_; (with_reducible refine (nat_size.calls k _ _ l0 t142 _ ?side1 ?side2 A2.out).mono ?_); (case side1 => repeat (first | exact HR0.out | (with_reducible refine Kd.C_alloc ?_ _) | (with_reducible refine Kd.C_drewN ?_ _) | (with_reducible refine Kd.C_drew ?_))); (case side2 => exact HC0.out); rintro e w' ⟨rfl, ⟨nd, rfl⟩⟩; refine ⟨_, rfl, ?_⟩))
    go_ret
    exact ⟨by first | rfl | (simp; done) | (simp [*]; done), by repeat (first | exact Drawn0.refl _ | apply Drawn0.step)⟩
  · rw [if_neg c3] at H
    have c3b0 : (t142 == 0) = false := beq_eq_false_iff_ne.mpr c3
    have c3b1 : (t142 != 0) = true := bne_iff_ne.mpr c3
    obtain ⟨ji4, hji4⟩ : ∃ j_ : Int, (wrap64 (t142 - 1)) = j_ := ⟨_, rfl⟩
    replace H : (if 0 ≤ (ji4) then (if (ji4) < (l0.length : Int) then ((bits_Len64.f (rd l0 (ji4))).bind fun t144 => (some (wrap64 ((wrap64 (64 * (ji4))) + t144)))) else (none)) else (none)) = some r := by first | (rw [hji4] at H; exact H) | (simp only [hji4] at H ⊢; exact H)
    (try rw [hji4] at A2)
    have hji4w : (IntKind.i64.wrap (t142 - 1)) = ji4 := (i64_w _).trans hji4
    by_cases c5 : 0 ≤ (ji4)
    · rw [if_pos c5] at H
      have c5b0 : decide (0 ≤ (ji4)) = true := decide_eq_true c5
      clear c5
      by_cases c6 : (ji4) < (l0.length : Int)
      · rw [if_pos c6] at H
        have c6b0 : decide ((ji4) < (l0.length : Int)) = true := decide_eq_true c6
        clear c6
        replace H := Option.bind_eq_some_iff.mp H
        obtain ⟨t144, A70, H⟩ := H
        replace H : (some (wrap64 ((wrap64 (64 * (ji4))) + t144))) = some r := H
        have A7 := Aside0.mk A70
        clear A70
        obtain rfl := Option.some.inj H
        go_enter Try.func13, Try.ntmps13
        go_wp2_with (first | ((with_reducible refine gate_callee (f := 16) rfl ?_); refine goesL_ (some 5) rfl rfl Try.func16 (by kernel_rfl) rfl #[.slice A0 l0.length c0] rfl (by (try simp only [List.map_toArray, List.map_cons, List.map_nil]); first | done | rfl | (simp only [List.length_drop, List.length_take]; rfl)) ?_; (with_reducible refine (nat_size.calls k _ _ l0 t142 _ ?side1 ?side2 A2.out).mono ?_); (case side1 => repeat (first | exact HR0.out | (with_reducible refine Kd.C_alloc ?_ _) | (with_reducible refine Kd.C_drewN ?_ _) | (with_reducible refine Kd.C_drew ?_))); (case side2 => exact HC0.out); rintro e w' ⟨rfl, ⟨nd, rfl⟩⟩; refine ⟨_, rfl, ?_⟩; have p143 : 0 ≤ ((ji4) : Int) := of_decide_eq_true (by first | (with_reducible assumption) | assumption); have q143 : (ji4) < (l0.length : Int) := of_decide_eq_true (by first | (with_reducible assumption) | assumption); obtain ⟨ad143, e143, hx143_0⟩ := Kd.at_int HR0.out (ji4) p143 q143; cases e143; replace p143 := eq_true p143; replace q143 := eq_true q143) | ((with_reducible refine gate_callee (f := 21) rfl ?_); refine goesL_ (some 16) rfl rfl Try.func21 (by kernel_rfl) rfl #[.int .u64 (rd l0 (ji4))] rfl (by (try simp only [List.map_toArray, List.map_cons, List.map_nil]); first | done | (simp only [hji4]; rfl) | rfl | (simp only [List.length_drop, List.length_take]; rfl)) ?_; (with_reducible refine (bits_Len64.calls (rd l0 (ji4)) t144 _ A7.out).mono ?_); rintro e w' ⟨rfl, ⟨nd, rfl⟩⟩; refine ⟨_, rfl, ?_⟩))
        go_ret
        exact ⟨by first | rfl | (simp; done) | (simp only [← hji4] <;> (first | rfl | simp)) | (simp [*]; done), by repeat (first | exact Drawn0.refl _ | apply Drawn0.step)⟩
      · rw [if_neg c6] at H
        exact absurd H (by simp)
    · rw [if_neg c5] at H
      exact absurd H (by simp)

/-! ### bits_Len32: function 22 (its contract by hand) -/
def bits_Len32.f (_ : Int) : Option Int := none
theorem bits_Len32.calls (a0 r : Int) (w : World) (h : bits_Len32.f a0 = some r) :
    Calls Try.prog 22 #[.int .u32 a0] w fun e w' => e = .returned (.int .i64 r) ∧ Drawn0 w w' := by cases h

/-! ### bits_Len: function 14 -/
def bits_Len.f (a0 : Int) : Option (Int) := (bits_Len64.f a0).bind fun t145 => (some t145)
set_option maxHeartbeats 8000000 in
set_option maxRecDepth 100000 in
theorem bits_Len.calls (a0 : Int) (r : Int) (w : World) (h : bits_Len.f a0 = some r) :
    Calls Try.prog 14 #[.int .u64 a0] w fun e w' => e = .returned (.int .i64 r) ∧ Drawn0 w w' := by
  have H : ((bits_Len64.f a0).bind fun t145 => (some t145)) = some r := h
  clear h
  replace H := Option.bind_eq_some_iff.mp H
  obtain ⟨t145, A20, H⟩ := H
  replace H : (some t145) = some r := H
  have A2 := Aside0.mk A20
  clear A20
  obtain rfl := Option.some.inj H
  go_enter Try.func14, Try.ntmps14
  go_wp2_with (first | ((with_reducible refine gate_callee (f := 21) rfl ?_); refine goesL_ (some 7) rfl rfl Try.func21 (by kernel_rfl) rfl #[.int .u64 a0] rfl (by (try simp only [List.map_toArray, List.map_cons, List.map_nil]); first | done | rfl | (simp only [List.length_drop, List.length_take]; rfl)) ?_; (with_reducible refine (bits_Len64.calls a0 t145 _ A2.out).mono ?_); rintro e w' ⟨rfl, ⟨nd, rfl⟩⟩; refine ⟨_, rfl, ?_⟩))
  go_ret
  exact ⟨by first | rfl | (simp; done) | (simp [*]; done), by repeat (first | exact Drawn0.refl _ | apply Drawn0.step)⟩

end Go.Proofs.Ytegollbojafekaa.PA
