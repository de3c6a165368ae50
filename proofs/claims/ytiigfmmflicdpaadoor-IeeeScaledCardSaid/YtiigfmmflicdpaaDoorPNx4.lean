-- printed by a program
import Derived.Test.YtiigfmmflicdpaaDoorPNx0
import Derived.Test.YtiigfmmflicdpaaDoorPNx1
import Derived.Test.YtiigfmmflicdpaaDoorPNx3
namespace Go.Proofs.YtiigfmmflicdpaaDoor.PN
open Go.Proofs.YtiigfmmflicdpaaDoorX
open Go.RowKit Go.Proofs.YtiigfmmflicdpaaDoorW.PrintWords Go.Proofs.YtiigfmmflicdpaaDoorW.PrintLast Go.Proofs.YtiigfmmflicdpaaDoorW.PrintMore
attribute [local go_sem] max2_int min2_int max_two min_two max_three min_three max_four min_four   -- for this text's walks alone
set_option linter.unusedVariables false
set_option linter.unusedSimpArgs false

/-! ### nat_Add: function 37 -/
mutual
def nat_Add.j0 : Nat → List Int → List Int → Bool → Option (List Int × Int)
  | 0, _, _, _ => none
  | k + 1, x0, x1, x16 => if x16 = true then (some (([] : List Int), 2)) else ((nat_size.f k x0).bind fun t202 => (if 0 ≤ t202 then (if t202 ≤ (x0.length : Int) then ((some (x0.take (t202 : Int).toNat : List Int)).bind fun y203 => ((nat_size.f k x1).bind fun t208 => (if 0 ≤ t208 then (if t208 ≤ (x1.length : Int) then ((some (x1.take (t208 : Int).toNat : List Int)).bind fun y209 => (if (y203.length : Int) < (y209.length : Int) then (nat_Add.j1 k y209 y203) else (nat_Add.j1 k y203 y209))) else (none)) else (none)))) else (none)) else (none)))
def nat_Add.j1 : Nat → List Int → List Int → Option (List Int × Int)
  | 0, _, _ => none
  | k + 1, x0, x1 => if 0 ≤ (wrap64 ((x0.length : Int) + 1)) then (if (wrap64 ((x0.length : Int) + 1) : Int).toNat ≤ 35184372088832 then (nat_Add.l0 k x0 x1 (List.replicate (wrap64 ((x0.length : Int) + 1) : Int).toNat 0) 0 x0 (x0.length : Int) 0) else (none)) else (none)
def nat_Add.l0 : Nat → List Int → List Int → List Int → Int → List Int → Int → Int → Option (List Int × Int)
  | 0, _, _, _, _, _, _, _ => none
  | k + 1, x0, x1, x6, x7, x36, x37, x38 => if x38 < x37 then (if 0 ≤ x38 then (if x38 < (x36.length : Int) then (if x38 < (x1.length : Int) then ((bits_Add64.f (rd x36 x38) (rd x1 x38) x7).bind fun bt219 => (if x38 < (x6.length : Int) then (nat_Add.l0 k x0 x1 (x6.set (x38 : Int).toNat bt219.1) bt219.2 x36 x37 (wrap64 (x38 + 1))) else (none))) else ((bits_Add64.f (rd x36 x38) 0 x7).bind fun bt222 => (if x38 < (x6.length : Int) then (nat_Add.l0 k x0 x1 (x6.set (x38 : Int).toNat bt222.1) bt222.2 x36 x37 (wrap64 (x38 + 1))) else (none)))) else (none)) else (none)) else (if 0 ≤ (x0.length : Int) then (if (x0.length : Int) < (x6.length : Int) then ((nat_cut.f k (x6.set ((x0.length : Int) : Int).toNat x7)).bind fun bt226 => (some (bt226.1, bt226.2))) else (none)) else (none))
end
def nat_Add.f (k : Nat) (l0 : List Int) (l1 : List Int) : Option (List Int × Int) := (nat_big.f k l0).bind fun t200 => (if t200 = true then (nat_Add.j0 k l0 l1 true) else ((nat_big.f k l1).bind fun t201 => (nat_Add.j0 k l0 l1 t201)))
theorem nat_Add.mono_l : ∀ k, (∀ y0 y1 y2, LeO (nat_Add.j0 k y0 y1 y2) (nat_Add.j0 (k + 1) y0 y1 y2)) ∧ (∀ y0 y1, LeO (nat_Add.j1 k y0 y1) (nat_Add.j1 (k + 1) y0 y1)) ∧ (∀ y0 y1 y2 y3 y4 y5 y6, LeO (nat_Add.l0 k y0 y1 y2 y3 y4 y5 y6) (nat_Add.l0 (k + 1) y0 y1 y2 y3 y4 y5 y6))
  | 0 => ⟨fun _ _ _ r h => by simp [nat_Add.j0] at h, fun _ _ r h => by simp [nat_Add.j1] at h, fun _ _ _ _ _ _ _ r h => by simp [nat_Add.l0] at h⟩
  | k + 1 => by
    obtain ⟨ih0, ih1, ih2⟩ := nat_Add.mono_l k
    refine ⟨?_, ?_, ?_⟩
    · intro y0 y1 y2
      unfold nat_Add.j0
      repeat' first
      | (with_reducible exact ih0 _ _ _)
      | (with_reducible exact ih1 _ _)
      | (with_reducible exact ih2 _ _ _ _ _ _ _)
      | (with_reducible exact nat_big.mono _ _)
      | (with_reducible exact nat_cut.mono _ _)
      | (with_reducible exact nat_size.mono _ _)
      | (with_reducible exact LeO.refl _)
      | (with_reducible exact LeO.none _)
      | (with_reducible refine LeO.ite ?_ ?_)
      | (with_reducible refine LeO.bind ?_ (fun _ => ?_))
      | exact ih0 _ _ _
      | exact ih1 _ _
      | exact ih2 _ _ _ _ _ _ _
      | exact nat_big.mono _ _
      | exact nat_cut.mono _ _
      | exact nat_size.mono _ _
      | exact LeO.none _
      | refine LeO.ite ?_ ?_
      | refine LeO.bind ?_ (fun _ => ?_)
    · intro y0 y1
      unfold nat_Add.j1
      repeat' first
      | (with_reducible exact ih0 _ _ _)
      | (with_reducible exact ih1 _ _)
      | (with_reducible exact ih2 _ _ _ _ _ _ _)
      | (with_reducible exact nat_big.mono _ _)
      | (with_reducible exact nat_cut.mono _ _)
      | (with_reducible exact nat_size.mono _ _)
      | (with_reducible exact LeO.refl _)
      | (with_reducible exact LeO.none _)
      | (with_reducible refine LeO.ite ?_ ?_)
      | (with_reducible refine LeO.bind ?_ (fun _ => ?_))
      | exact ih0 _ _ _
      | exact ih1 _ _
      | exact ih2 _ _ _ _ _ _ _
      | exact nat_big.mono _ _
      | exact nat_cut.mono _ _
      | exact nat_size.mono _ _
      | exact LeO.none _
      | refine LeO.ite ?_ ?_
      | refine LeO.bind ?_ (fun _ => ?_)
    · intro y0 y1 y2 y3 y4 y5 y6
      unfold nat_Add.l0
      repeat' first
      | (with_reducible exact ih0 _ _ _)
      | (with_reducible exact ih1 _ _)
      | (with_reducible exact ih2 _ _ _ _ _ _ _)
      | (with_reducible exact nat_big.mono _ _)
      | (with_reducible exact nat_cut.mono _ _)
      | (with_reducible exact nat_size.mono _ _)
      | (with_reducible exact LeO.refl _)
      | (with_reducible exact LeO.none _)
      | (with_reducible refine LeO.ite ?_ ?_)
      | (with_reducible refine LeO.bind ?_ (fun _ => ?_))
      | exact ih0 _ _ _
      | exact ih1 _ _
      | exact ih2 _ _ _ _ _ _ _
      | exact nat_big.mono _ _
      | exact nat_cut.mono _ _
      | exact nat_size.mono _ _
      | exact LeO.none _
      | refine LeO.ite ?_ ?_
      | refine LeO.bind ?_ (fun _ => ?_)
theorem nat_Add.mono : ∀ a0 a1 k, LeO (nat_Add.f k a0 a1) (nat_Add.f (k + 1) a0 a1) := by
  intro a0 a1 k
  obtain ⟨ih0, ih1, ih2⟩ := nat_Add.mono_l k
  unfold nat_Add.f
  repeat' first
      | (with_reducible exact ih0 _ _ _)
      | (with_reducible exact ih1 _ _)
      | (with_reducible exact ih2 _ _ _ _ _ _ _)
      | (with_reducible exact nat_big.mono _ _)
      | (with_reducible exact nat_cut.mono _ _)
      | (with_reducible exact nat_size.mono _ _)
      | (with_reducible exact LeO.refl _)
      | (with_reducible exact LeO.none _)
      | (with_reducible refine LeO.ite ?_ ?_)
      | (with_reducible refine LeO.bind ?_ (fun _ => ?_))
      | exact ih0 _ _ _
      | exact ih1 _ _
      | exact ih2 _ _ _ _ _ _ _
      | exact nat_big.mono _ _
      | exact nat_cut.mono _ _
      | exact nat_size.mono _ _
      | exact LeO.none _
      | refine LeO.ite ?_ ?_
      | refine LeO.bind ?_ (fun _ => ?_)
set_option maxHeartbeats 8000000 in
set_option maxRecDepth 100000 in
theorem nat_Add.calls (k : Nat) (P0_ : Nat → Prop) (A0 : Option Addr) (c0 : Nat) (l0 : List Int) (P1_ : Nat → Prop) (A1 : Option Addr) (c1 : Nat) (l1 : List Int) (r1 : List Int) (r2 : Int) (w : World) (hs0 : Kd.V (Kd.int .u64) 28 w w.heap.size (fun k_ => P0_ k_) (.slice A0 l0.length c0) l0) (hs1 : Kd.V (Kd.int .u64) 28 w w.heap.size (fun k_ => P1_ k_) (.slice A1 l1.length c1) l1) (h : nat_Add.f k l0 l1 = some (r1, r2)) :
    Calls Tryd.prog 37 #[.slice A0 l0.length c0, .slice A1 l1.length c1] w fun e w' => ∃ v0_ : Value, e = .returned (.tuple #[v0_, .int .i64 r2]) ∧ Kd.V (Kd.int .u64) 28 w' w.heap.size (fun k_ => ((P0_ k_ ∨ P1_ k_) ∨ w.heap.size ≤ k_)) v0_ r1 ∧ Below w.heap.size w w' := by
  have HO0 := Aside0.mk (show Kd.V (Kd.int .u64) 28 w w.heap.size (fun k_ => ((P0_ k_ ∨ P1_ k_) ∨ w.heap.size ≤ k_)) (.slice A0 l0.length c0) l0 from Kd.V_mono hs0 (fun k_ hk => .inl (.inl hk)))
  have HO1 := Aside0.mk (show Kd.V (Kd.int .u64) 28 w w.heap.size (fun k_ => ((P0_ k_ ∨ P1_ k_) ∨ w.heap.size ≤ k_)) (.slice A1 l1.length c1) l1 from Kd.V_mono hs1 (fun k_ hk => .inl (.inr hk)))
  have HB := Aside0.mk (Below.refl w.heap.size w)
  have H : ((nat_big.f k l0).bind fun t200 => (if t200 = true then (nat_Add.j0 k l0 l1 true) else ((nat_big.f k l1).bind fun t201 => (nat_Add.j0 k l0 l1 t201)))) = some (r1, r2) := h
  clear h
  have HC3 := Aside0.mk H
  clear H
  go_enter Tryd.func37, Tryd.ntmps37
  go_upto_region 1 with (fail)
  repeat (go_quiet (fail); go_upto_region 1 with (fail))
  go_cut [16] (fun v16 wc => ∃ (kq : Nat) (x16_2 : Bool), v16 = .bool x16_2 ∧ Aside0 (nat_Add.j0 kq l0 l1 x16_2 = some (r1, r2)) ∧ Aside0 (kq ≤ k) ∧ Aside0 (Kd.V (Kd.int .u64) 28 wc w.heap.size (fun k_ => ((P0_ k_ ∨ P1_ k_) ∨ w.heap.size ≤ k_)) (.slice A0 l0.length c0) l0) ∧ Aside0 (Kd.V (Kd.int .u64) 28 wc w.heap.size (fun k_ => ((P0_ k_ ∨ P1_ k_) ∨ w.heap.size ≤ k_)) (.slice A1 l1.length c1) l1) ∧ Aside0 (Below w.heap.size w wc))
  case first =>
    have H := HC3.out
    clear HC3
    replace H := Option.bind_eq_some_iff.mp H
    obtain ⟨t200, A40, H⟩ := H
    replace H : (if t200 = true then (nat_Add.j0 k l0 l1 true) else ((nat_big.f k l1).bind fun t201 => (nat_Add.j0 k l0 l1 t201))) = some (r1, r2) := H
    have A4 := Aside0.mk A40
    clear A40
    by_cases c5 : t200 = true
    · subst c5
      have H1 : (nat_Add.j0 k l0 l1 true) = some (r1, r2) := by rw [if_pos rfl] at H; exact H
      clear H
      have H := H1
      clear H1
      have H' := Aside0.mk H
      clear H
      go_wp2_with (first | (go_at_call 54; (with_reducible refine (nat_big.calls k _ _ l0 true _ ?side1 ?side2 A4.out).mono ?_); (case side1 => repeat (first | exact (Kd.V_reads' HO0.out).2.2 | (with_reducible refine Kd.C_alloc ?_ _) | (with_reducible refine Kd.C_drewN ?_ _) | (with_reducible refine Kd.C_drew ?_))); (case side2 => exact (Kd.V_reads' HO0.out).2.1); rintro e w' ⟨rfl, ⟨nd, rfl⟩⟩; (try first | exact ⟨rfl, _, World.drewN_drewN _ _ _⟩ | exact ⟨rfl, _, Eq.trans (World.drewN_drewN _ _ _) (congrArg (World.drewN _) (Nat.add_assoc _ _ _))⟩)))
      repeat (go_quiet (first | (go_at_call 54; (with_reducible refine (nat_big.calls k _ _ l0 true _ ?side1 ?side2 A4.out).mono ?_); (case side1 => repeat (first | exact (Kd.V_reads' HO0.out).2.2 | (with_reducible refine Kd.C_alloc ?_ _) | (with_reducible refine Kd.C_drewN ?_ _) | (with_reducible refine Kd.C_drew ?_))); (case side2 => exact (Kd.V_reads' HO0.out).2.1); rintro e w' ⟨rfl, ⟨nd, rfl⟩⟩; (try first | exact ⟨rfl, _, World.drewN_drewN _ _ _⟩ | exact ⟨rfl, _, Eq.trans (World.drewN_drewN _ _ _) (congrArg (World.drewN _) (Nat.add_assoc _ _ _))⟩))); try go_wp2_with (first | (go_at_call 54; (with_reducible refine (nat_big.calls k _ _ l0 true _ ?side1 ?side2 A4.out).mono ?_); (case side1 => repeat (first | exact (Kd.V_reads' HO0.out).2.2 | (with_reducible refine Kd.C_alloc ?_ _) | (with_reducible refine Kd.C_drewN ?_ _) | (with_reducible refine Kd.C_drew ?_))); (case side2 => exact (Kd.V_reads' HO0.out).2.1); rintro e w' ⟨rfl, ⟨nd, rfl⟩⟩; (try first | exact ⟨rfl, _, World.drewN_drewN _ _ _⟩ | exact ⟨rfl, _, Eq.trans (World.drewN_drewN _ _ _) (congrArg (World.drewN _) (Nat.add_assoc _ _ _))⟩))))
      go_meet
      case rel => exact ⟨_, (true), (by first | rfl | (simp; done) | (simp [*]; done)), H', ⟨by first | omega | exact Nat.le_refl _⟩, ⟨by (with_reducible repeat (first | apply Kd.V_alloc | apply Kd.V_drewN | apply Kd.V_drew)); exact HO0.out⟩, ⟨by (with_reducible repeat (first | apply Kd.V_alloc | apply Kd.V_drewN | apply Kd.V_drew)); exact HO1.out⟩, ⟨by repeat (first | (with_reducible first | exact HB.out | apply below_alloc | apply pw_below_drewN | apply below_drew1) | exact HB.out)⟩⟩
    · replace c5 := Bool.eq_false_iff.mpr c5
      subst c5
      have H1 : ((nat_big.f k l1).bind fun t201 => (nat_Add.j0 k l0 l1 t201)) = some (r1, r2) := by rw [if_neg (show ¬ (false = true) by decide)] at H; exact H
      clear H
      have H := H1
      clear H1
      replace H := Option.bind_eq_some_iff.mp H
      obtain ⟨t201, A60, H⟩ := H
      replace H : (nat_Add.j0 k l0 l1 t201) = some (r1, r2) := H
      have A6 := Aside0.mk A60
      clear A60
      have H' := Aside0.mk H
      clear H
      go_wp2_with (first | (go_at_call 54; (with_reducible refine (nat_big.calls k _ _ l0 false _ ?side1 ?side2 A4.out).mono ?_); (case side1 => repeat (first | exact (Kd.V_reads' HO0.out).2.2 | (with_reducible refine Kd.C_alloc ?_ _) | (with_reducible refine Kd.C_drewN ?_ _) | (with_reducible refine Kd.C_drew ?_))); (case side2 => exact (Kd.V_reads' HO0.out).2.1); rintro e w' ⟨rfl, ⟨nd, rfl⟩⟩; (try first | exact ⟨rfl, _, World.drewN_drewN _ _ _⟩ | exact ⟨rfl, _, Eq.trans (World.drewN_drewN _ _ _) (congrArg (World.drewN _) (Nat.add_assoc _ _ _))⟩)) | (go_at_call 54; (with_reducible refine (nat_big.calls k _ _ l1 t201 _ ?side1 ?side2 A6.out).mono ?_); (case side1 => repeat (first | exact (Kd.V_reads' HO1.out).2.2 | (with_reducible refine Kd.C_alloc ?_ _) | (with_reducible refine Kd.C_drewN ?_ _) | (with_reducible refine Kd.C_drew ?_))); (case side2 => exact (Kd.V_reads' HO1.out).2.1); rintro e w' ⟨rfl, ⟨nd, rfl⟩⟩; (try first | exact ⟨rfl, _, World.drewN_drewN _ _ _⟩ | exact ⟨rfl, _, Eq.trans (World.drewN_drewN _ _ _) (congrArg (World.drewN _) (Nat.add_assoc _ _ _))⟩)))
      repeat (go_quiet (first | (go_at_call 54; (with_reducible refine (nat_big.calls k _ _ l0 false _ ?side1 ?side2 A4.out).mono ?_); (case side1 => repeat (first | exact (Kd.V_reads' HO0.out).2.2 | (with_reducible refine Kd.C_alloc ?_ _) | (with_reducible refine Kd.C_drewN ?_ _) | (with_reducible refine Kd.C_drew ?_))); (case side2 => exact (Kd.V_reads' HO0.out).2.1); rintro e w' ⟨rfl, ⟨nd, rfl⟩⟩; (try first | exact ⟨rfl, _, World.drewN_drewN _ _ _⟩ | exact ⟨rfl, _, Eq.trans (World.drewN_drewN _ _ _) (congrArg (World.drewN _) (Nat.add_assoc _ _ _))⟩)) | (go_at_call 54; (with_reducible refine (nat_big.calls k _ _ l1 t201 _ ?side1 ?side2 A6.out).mono ?_); (case side1 => repeat (first | exact (Kd.V_reads' HO1.out).2.2 | (with_reducible refine Kd.C_alloc ?_ _) | (with_reducible refine Kd.C_drewN ?_ _) | (with_reducible refine Kd.C_drew ?_))); (case side2 => exact (Kd.V_reads' HO1.out).2.1); rintro e w' ⟨rfl, ⟨nd, rfl⟩⟩; (try first | exact ⟨rfl, _, World.drewN_drewN _ _ _⟩ | exact ⟨rfl, _, Eq.trans (World.drewN_drewN _ _ _) (congrArg (World.drewN _) (Nat.add_assoc _ _ _))⟩))); try go_wp2_with (first | (go_at_call 54; (with_reducible refine (nat_big.calls k _ _ l0 false _ ?side1 ?side2 A4.out).mono ?_); (case side1 => repeat (first | exact (Kd.V_reads' HO0.out).2.2 | (with_reducible refine Kd.C_alloc ?_ _) | (with_reducible refine Kd.C_drewN ?_ _) | (with_reducible refine Kd.C_drew ?_))); (case side2 => exact (Kd.V_reads' HO0.out).2.1); rintro e w' ⟨rfl, ⟨nd, rfl⟩⟩; (try first | exact ⟨rfl, _, World.drewN_drewN _ _ _⟩ | exact ⟨rfl, _, Eq.trans (World.drewN_drewN _ _ _) (congrArg (World.drewN _) (Nat.add_assoc _ _ _))⟩)) | (go_at_call 54; (with_reducible refine (nat_big.calls k _ _ l1 t201 _ ?side1 ?side2 A6.out).mono ?_); (case side1 => repeat (first | exact (Kd.V_reads' HO1.out).2.2 | (with_reducible refine Kd.C_alloc ?_ _) | (with_reducible refine Kd.C_drewN ?_ _) | (with_reducible refine Kd.C_drew ?_))); (case side2 => exact (Kd.V_reads' HO1.out).2.1); rintro e w' ⟨rfl, ⟨nd, rfl⟩⟩; (try first | exact ⟨rfl, _, World.drewN_drewN _ _ _⟩ | exact ⟨rfl, _, Eq.trans (World.drewN_drewN _ _ _) (congrArg (World.drewN _) (Nat.add_assoc _ _ _))⟩))))
      go_meet
      case rel => exact ⟨_, (t201), (by first | rfl | (have e_ := Option.some.inj (A4.out.symm.trans A6.out); cases e_; rfl) | (simp; done) | (simp [*]; done)), H', ⟨by first | omega | exact Nat.le_refl _⟩, ⟨by (with_reducible repeat (first | apply Kd.V_alloc | apply Kd.V_drewN | apply Kd.V_drew)); exact HO0.out⟩, ⟨by (with_reducible repeat (first | apply Kd.V_alloc | apply Kd.V_drewN | apply Kd.V_drew)); exact HO1.out⟩, ⟨by repeat (first | (with_reducible first | exact HB.out | apply below_alloc | apply pw_below_drewN | apply below_drew1) | exact HB.out)⟩⟩
  case rest =>
    clear HC3
    try clear c1
    try clear p2
    try clear c3
    try clear c5
    obtain ⟨kq, x16_2, rfl, HA, HJ2, HO_0, HO_1, HB⟩ := hcut
    cases kq with
    | zero => exact absurd HA.out (by simp [nat_Add.j0])
    | succ kj2 =>
      have H := HA.out
      clear HA
      simp only [nat_Add.j0] at H
      by_cases c7 : x16_2 = true
      · subst c7
        have H1 : (some (([] : List Int), 2)) = some (r1, r2) := by rw [if_pos rfl] at H; exact H
        clear H
        have H := H1
        clear H1
        simp only [Option.some.injEq, Prod.mk.injEq] at H
        obtain ⟨rfl, rfl⟩ := H
        go_wp2
        repeat (go_quiet (fail); try go_wp2)
        go_ret2
        exact ⟨.slice none 0 0, by first | rfl | (simp [errW_none, errW_some] <;> rfl) | (simp [*, errW_none, errW_some] <;> rfl), Kd.V_nil _ _ _ _ _, by repeat (first | (with_reducible first | exact HB.out | apply below_alloc | apply pw_below_drewN | apply below_drew1) | exact HB.out)⟩
      · replace c7 := Bool.eq_false_iff.mpr c7
        subst c7
        have H1 : ((nat_size.f kj2 l0).bind fun t202 => (if 0 ≤ t202 then (if t202 ≤ (l0.length : Int) then ((some (l0.take (t202 : Int).toNat : List Int)).bind fun y203 => ((nat_size.f kj2 l1).bind fun t208 => (if 0 ≤ t208 then (if t208 ≤ (l1.length : Int) then ((some (l1.take (t208 : Int).toNat : List Int)).bind fun y209 => (if (y203.length : Int) < (y209.length : Int) then (nat_Add.j1 kj2 y209 y203) else (nat_Add.j1 kj2 y203 y209))) else (none)) else (none)))) else (none)) else (none))) = some (r1, r2) := by rw [if_neg (show ¬ (false = true) by decide)] at H; exact H
        clear H
        have H := H1
        clear H1
        replace H := Option.bind_eq_some_iff.mp H
        obtain ⟨t202, A80, H⟩ := H
        replace H : (if 0 ≤ t202 then (if t202 ≤ (l0.length : Int) then ((some (l0.take (t202 : Int).toNat : List Int)).bind fun y203 => ((nat_size.f kj2 l1).bind fun t208 => (if 0 ≤ t208 then (if t208 ≤ (l1.length : Int) then ((some (l1.take (t208 : Int).toNat : List Int)).bind fun y209 => (if (y203.length : Int) < (y209.length : Int) then (nat_Add.j1 kj2 y209 y203) else (nat_Add.j1 kj2 y203 y209))) else (none)) else (none)))) else (none)) else (none)) = some (r1, r2) := H
        have A8 := Aside0.mk A80
        clear A80
        by_cases c9 : 0 ≤ t202
        · rw [if_pos c9] at H
          have c9b0 := eq_true c9
          have c9b1 : decide (0 ≤ t202) = true := decide_eq_true c9
          clear c9
          by_cases c10 : t202 ≤ (l0.length : Int)
          · rw [if_pos c10] at H
            have c10b0 := eq_true c10
            have c10b1 : decide (t202 ≤ (l0.length : Int)) = true := decide_eq_true c10
            clear c10
            obtain ⟨y203, hy203⟩ : ∃ y_ : List Int, y_ = (l0.take (t202 : Int).toNat) := ⟨_, rfl⟩
            replace H : ((nat_size.f kj2 l1).bind fun t208 => (if 0 ≤ t208 then (if t208 ≤ (l1.length : Int) then ((some (l1.take (t208 : Int).toNat : List Int)).bind fun y209 => (if (y203.length : Int) < (y209.length : Int) then (nat_Add.j1 kj2 y209 y203) else (nat_Add.j1 kj2 y203 y209))) else (none)) else (none))) = some (r1, r2) := by first | (rw [hy203]; with_reducible exact H) | (have H2_ := (Option.bind_some _ _).symm.trans H; rw [hy203]; with_reducible exact H2_) | (have H2_ := (Option.bind_some _ _).symm.trans H; with_reducible exact H2_) | with_reducible exact H | (rw [hy203]; exact H) | exact H
            have Ny203 := Aside0.mk hy203
            clear hy203
            replace H := Option.bind_eq_some_iff.mp H
            obtain ⟨t208, A110, H⟩ := H
            replace H : (if 0 ≤ t208 then (if t208 ≤ (l1.length : Int) then ((some (l1.take (t208 : Int).toNat : List Int)).bind fun y209 => (if (y203.length : Int) < (y209.length : Int) then (nat_Add.j1 kj2 y209 y203) else (nat_Add.j1 kj2 y203 y209))) else (none)) else (none)) = some (r1, r2) := H
            have A11 := Aside0.mk A110
            clear A110
            by_cases c12 : 0 ≤ t208
            · rw [if_pos c12] at H
              have c12b0 := eq_true c12
              have c12b1 : decide (0 ≤ t208) = true := decide_eq_true c12
              clear c12
              by_cases c13 : t208 ≤ (l1.length : Int)
              · rw [if_pos c13] at H
                have c13b0 := eq_true c13
                have c13b1 : decide (t208 ≤ (l1.length : Int)) = true := decide_eq_true c13
                clear c13
                obtain ⟨y209, hy209⟩ : ∃ y_ : List Int, y_ = (l1.take (t208 : Int).toNat) := ⟨_, rfl⟩
                replace H : (if (y203.length : Int) < (y209.length : Int) then (nat_Add.j1 kj2 y209 y203) else (nat_Add.j1 kj2 y203 y209)) = some (r1, r2) := by first | (rw [hy209]; with_reducible exact H) | (have H2_ := (Option.bind_some _ _).symm.trans H; rw [hy209]; with_reducible exact H2_) | (have H2_ := (Option.bind_some _ _).symm.trans H; with_reducible exact H2_) | with_reducible exact H | (rw [hy209]; exact H) | exact H
                have Ny209 := Aside0.mk hy209
                clear hy209
                have HC14 := Aside0.mk H
                clear H
                go_upto_if 29 with (first | (go_at_call 45; (with_reducible refine (nat_size.calls kj2 _ _ l0 t202 _ ?side1 ?side2 A8.out).mono ?_); (case side1 => repeat (first | exact (Kd.V_reads' HO_0.out).2.2 | (with_reducible refine Kd.C_alloc ?_ _) | (with_reducible refine Kd.C_drewN ?_ _) | (with_reducible refine Kd.C_drew ?_))); (case side2 => exact (Kd.V_reads' HO_0.out).2.1); rintro e w' ⟨rfl, ⟨nd, rfl⟩⟩; (try first | exact ⟨rfl, _, World.drewN_drewN _ _ _⟩ | exact ⟨rfl, _, Eq.trans (World.drewN_drewN _ _ _) (congrArg (World.drewN _) (Nat.add_assoc _ _ _))⟩); have q15 : (t202 : Int) ≤ ((l0.length : Int) : Int) := of_decide_eq_true (by first | (with_reducible assumption) | assumption); obtain ⟨i015, hi015, _, hsz15, _⟩ := info_parts info28; have hroom15 : l0.length ≤ c0 := (Kd.V_reads' HO_0.out).2.1; have hC15 : Kd.F (Kd.int .u64) _ _ A0 l0.length l0 := (Kd.V_at (base := w.heap.size) HO_0.out).2.2; have hcut15 := cut_to (P := Tryd.prog) 22 28 .i64 Tryd.underlying22 hi015 A0 l0.length c0 t202 (of_decide_eq_true (by first | (with_reducible assumption) | assumption)) q15 hroom15; have hr15 := Kd.F_take (m := (t202 : Int).toNat) hC15 (by omega); have hy15 : y203.length = (t202 : Int).toNat := (by rw [Ny203.out, List.length_take]; omega); rw [← Ny203.out] at hr15; rw [← hy15] at hcut15; have HO207 := Aside0.mk (show Kd.V (Kd.int .u64) 28 _ w.heap.size _ (.slice A0 y203.length c0) y203 from Kd.V_mk (by omega) hr15); have HC207 := Aside0.mk (show y203.length ≤ c0 from by omega); clear hr15 hC15 hroom15 hi015 hsz15; have KY15 := Aside0.mk hy15; clear hy15; replace q15 := eq_true q15) | (go_at_call 45; (with_reducible refine (nat_size.calls kj2 _ _ l1 t208 _ ?side1 ?side2 A11.out).mono ?_); (case side1 => repeat (first | exact (Kd.V_reads' HO_1.out).2.2 | (with_reducible refine Kd.C_alloc ?_ _) | (with_reducible refine Kd.C_drewN ?_ _) | (with_reducible refine Kd.C_drew ?_))); (case side2 => exact (Kd.V_reads' HO_1.out).2.1); rintro e w' ⟨rfl, ⟨nd, rfl⟩⟩; (try first | exact ⟨rfl, _, World.drewN_drewN _ _ _⟩ | exact ⟨rfl, _, Eq.trans (World.drewN_drewN _ _ _) (congrArg (World.drewN _) (Nat.add_assoc _ _ _))⟩); have q16 : (t208 : Int) ≤ ((l1.length : Int) : Int) := of_decide_eq_true (by first | (with_reducible assumption) | assumption); obtain ⟨i016, hi016, _, hsz16, _⟩ := info_parts info28; have hroom16 : l1.length ≤ c1 := (Kd.V_reads' HO_1.out).2.1; have hC16 : Kd.F (Kd.int .u64) _ _ A1 l1.length l1 := (Kd.V_at (base := w.heap.size) HO_1.out).2.2; have hcut16 := cut_to (P := Tryd.prog) 22 28 .i64 Tryd.underlying22 hi016 A1 l1.length c1 t208 (of_decide_eq_true (by first | (with_reducible assumption) | assumption)) q16 hroom16; have hr16 := Kd.F_take (m := (t208 : Int).toNat) hC16 (by omega); have hy16 : y209.length = (t208 : Int).toNat := (by rw [Ny209.out, List.length_take]; omega); rw [← Ny209.out] at hr16; rw [← hy16] at hcut16; have HO213 := Aside0.mk (show Kd.V (Kd.int .u64) 28 _ w.heap.size _ (.slice A1 y209.length c1) y209 from Kd.V_mk (by omega) hr16); have HC213 := Aside0.mk (show y209.length ≤ c1 from by omega); clear hr16 hC16 hroom16 hi016 hsz16; have KY16 := Aside0.mk hy16; clear hy16; replace q16 := eq_true q16))
                repeat (go_quiet (first | (go_at_call 45; (with_reducible refine (nat_size.calls kj2 _ _ l0 t202 _ ?side1 ?side2 A8.out).mono ?_); (case side1 => repeat (first | exact (Kd.V_reads' HO_0.out).2.2 | (with_reducible refine Kd.C_alloc ?_ _) | (with_reducible refine Kd.C_drewN ?_ _) | (with_reducible refine Kd.C_drew ?_))); (case side2 => exact (Kd.V_reads' HO_0.out).2.1); rintro e w' ⟨rfl, ⟨nd, rfl⟩⟩; (try first | exact ⟨rfl, _, World.drewN_drewN _ _ _⟩ | exact ⟨rfl, _, Eq.trans (World.drewN_drewN _ _ _) (congrArg (World.drewN _) (Nat.add_assoc _ _ _))⟩); have q15 : (t202 : Int) ≤ ((l0.length : Int) : Int) := of_decide_eq_true (by first | (with_reducible assumption) | assumption); obtain ⟨i015, hi015, _, hsz15, _⟩ := info_parts info28; have hroom15 : l0.length ≤ c0 := (Kd.V_reads' HO_0.out).2.1; have hC15 : Kd.F (Kd.int .u64) _ _ A0 l0.length l0 := (Kd.V_at (base := w.heap.size) HO_0.out).2.2; have hcut15 := cut_to (P := Tryd.prog) 22 28 .i64 Tryd.underlying22 hi015 A0 l0.length c0 t202 (of_decide_eq_true (by first | (with_reducible assumption) | assumption)) q15 hroom15; have hr15 := Kd.F_take (m := (t202 : Int).toNat) hC15 (by omega); have hy15 : y203.length = (t202 : Int).toNat := (by rw [Ny203.out, List.length_take]; omega); rw [← Ny203.out] at hr15; rw [← hy15] at hcut15; have HO207 := Aside0.mk (show Kd.V (Kd.int .u64) 28 _ w.heap.size _ (.slice A0 y203.length c0) y203 from Kd.V_mk (by omega) hr15); have HC207 := Aside0.mk (show y203.length ≤ c0 from by omega); clear hr15 hC15 hroom15 hi015 hsz15; have KY15 := Aside0.mk hy15; clear hy15; replace q15 := eq_true q15) | (go_at_call 45; (with_reducible refine (nat_size.calls kj2 _ _ l1 t208 _ ?side1 ?side2 A11.out).mono ?_); (case side1 => repeat (first | exact (Kd.V_reads' HO_1.out).2.2 | (with_reducible refine Kd.C_alloc ?_ _) | (with_reducible refine Kd.C_drewN ?_ _) | (with_reducible refine Kd.C_drew ?_))); (case side2 => exact (Kd.V_reads' HO_1.out).2.1); rintro e w' ⟨rfl, ⟨nd, rfl⟩⟩; (try first | exact ⟨rfl, _, World.drewN_drewN _ _ _⟩ | exact ⟨rfl, _, Eq.trans (World.drewN_drewN _ _ _) (congrArg (World.drewN _) (Nat.add_assoc _ _ _))⟩); have q16 : (t208 : Int) ≤ ((l1.length : Int) : Int) := of_decide_eq_true (by first | (with_reducible assumption) | assumption); obtain ⟨i016, hi016, _, hsz16, _⟩ := info_parts info28; have hroom16 : l1.length ≤ c1 := (Kd.V_reads' HO_1.out).2.1; have hC16 : Kd.F (Kd.int .u64) _ _ A1 l1.length l1 := (Kd.V_at (base := w.heap.size) HO_1.out).2.2; have hcut16 := cut_to (P := Tryd.prog) 22 28 .i64 Tryd.underlying22 hi016 A1 l1.length c1 t208 (of_decide_eq_true (by first | (with_reducible assumption) | assumption)) q16 hroom16; have hr16 := Kd.F_take (m := (t208 : Int).toNat) hC16 (by omega); have hy16 : y209.length = (t208 : Int).toNat := (by rw [Ny209.out, List.length_take]; omega); rw [← Ny209.out] at hr16; rw [← hy16] at hcut16; have HO213 := Aside0.mk (show Kd.V (Kd.int .u64) 28 _ w.heap.size _ (.slice A1 y209.length c1) y209 from Kd.V_mk (by omega) hr16); have HC213 := Aside0.mk (show y209.length ≤ c1 from by omega); clear hr16 hC16 hroom16 hi016 hsz16; have KY16 := Aside0.mk hy16; clear hy16; replace q16 := eq_true q16)); go_upto_if 29 with (first | (go_at_call 45; (with_reducible refine (nat_size.calls kj2 _ _ l0 t202 _ ?side1 ?side2 A8.out).mono ?_); (case side1 => repeat (first | exact (Kd.V_reads' HO_0.out).2.2 | (with_reducible refine Kd.C_alloc ?_ _) | (with_reducible refine Kd.C_drewN ?_ _) | (with_reducible refine Kd.C_drew ?_))); (case side2 => exact (Kd.V_reads' HO_0.out).2.1); rintro e w' ⟨rfl, ⟨nd, rfl⟩⟩; (try first | exact ⟨rfl, _, World.drewN_drewN _ _ _⟩ | exact ⟨rfl, _, Eq.trans (World.drewN_drewN _ _ _) (congrArg (World.drewN _) (Nat.add_assoc _ _ _))⟩); have q15 : (t202 : Int) ≤ ((l0.length : Int) : Int) := of_decide_eq_true (by first | (with_reducible assumption) | assumption); obtain ⟨i015, hi015, _, hsz15, _⟩ := info_parts info28; have hroom15 : l0.length ≤ c0 := (Kd.V_reads' HO_0.out).2.1; have hC15 : Kd.F (Kd.int .u64) _ _ A0 l0.length l0 := (Kd.V_at (base := w.heap.size) HO_0.out).2.2; have hcut15 := cut_to (P := Tryd.prog) 22 28 .i64 Tryd.underlying22 hi015 A0 l0.length c0 t202 (of_decide_eq_true (by first | (with_reducible assumption) | assumption)) q15 hroom15; have hr15 := Kd.F_take (m := (t202 : Int).toNat) hC15 (by omega); have hy15 : y203.length = (t202 : Int).toNat := (by rw [Ny203.out, List.length_take]; omega); rw [← Ny203.out] at hr15; rw [← hy15] at hcut15; have HO207 := Aside0.mk (show Kd.V (Kd.int .u64) 28 _ w.heap.size _ (.slice A0 y203.length c0) y203 from Kd.V_mk (by omega) hr15); have HC207 := Aside0.mk (show y203.length ≤ c0 from by omega); clear hr15 hC15 hroom15 hi015 hsz15; have KY15 := Aside0.mk hy15; clear hy15; replace q15 := eq_true q15) | (go_at_call 45; (with_reducible refine (nat_size.calls kj2 _ _ l1 t208 _ ?side1 ?side2 A11.out).mono ?_); (case side1 => repeat (first | exact (Kd.V_reads' HO_1.out).2.2 | (with_reducible refine Kd.C_alloc ?_ _) | (with_reducible refine Kd.C_drewN ?_ _) | (with_reducible refine Kd.C_drew ?_))); (case side2 => exact (Kd.V_reads' HO_1.out).2.1); rintro e w' ⟨rfl, ⟨nd, rfl⟩⟩; (try first | exact ⟨rfl, _, World.drewN_drewN _ _ _⟩ | exact ⟨rfl, _, Eq.trans (World.drewN_drewN _ _ _) (congrArg (World.drewN _) (Nat.add_assoc _ _ _))⟩); have q16 : (t208 : Int) ≤ ((l1.length : Int) : Int) := of_decide_eq_true (by first | (with_reducible assumption) | assumption); obtain ⟨i016, hi016, _, hsz16, _⟩ := info_parts info28; have hroom16 : l1.length ≤ c1 := (Kd.V_reads' HO_1.out).2.1; have hC16 : Kd.F (Kd.int .u64) _ _ A1 l1.length l1 := (Kd.V_at (base := w.heap.size) HO_1.out).2.2; have hcut16 := cut_to (P := Tryd.prog) 22 28 .i64 Tryd.underlying22 hi016 A1 l1.length c1 t208 (of_decide_eq_true (by first | (with_reducible assumption) | assumption)) q16 hroom16; have hr16 := Kd.F_take (m := (t208 : Int).toNat) hC16 (by omega); have hy16 : y209.length = (t208 : Int).toNat := (by rw [Ny209.out, List.length_take]; omega); rw [← Ny209.out] at hr16; rw [← hy16] at hcut16; have HO213 := Aside0.mk (show Kd.V (Kd.int .u64) 28 _ w.heap.size _ (.slice A1 y209.length c1) y209 from Kd.V_mk (by omega) hr16); have HC213 := Aside0.mk (show y209.length ≤ c1 from by omega); clear hr16 hC16 hroom16 hi016 hsz16; have KY16 := Aside0.mk hy16; clear hy16; replace q16 := eq_true q16)))
                (try simp only [Act.put, List.setIfInBounds_toArray, List.set_cons_zero, List.set_cons_succ])
                go_cut [0, 1] (fun v0 v1 wc => ∃ (kq : Nat) (x0_13 : List Int) (x1_13 : List Int), Aside0 (nat_Add.j1 kq x0_13 x1_13 = some (r1, r2)) ∧ Aside0 (kq ≤ kj2) ∧ Aside0 (Kd.V (Kd.int .u64) 28 wc w.heap.size (fun k_ => ((P0_ k_ ∨ P1_ k_) ∨ w.heap.size ≤ k_)) v0 x0_13) ∧ Aside0 (Kd.V (Kd.int .u64) 28 wc w.heap.size (fun k_ => ((P0_ k_ ∨ P1_ k_) ∨ w.heap.size ≤ k_)) v1 x1_13) ∧ Aside0 (Below w.heap.size w wc))
                case first =>
                  have H := HC14.out
                  clear HC14
                  by_cases c17 : (y203.length : Int) < (y209.length : Int)
                  · rw [if_pos c17] at H
                    have c17b0 : decide ((y203.length : Int) < (y209.length : Int)) = true := decide_eq_true c17
                    have c17b1 : decide (y203.length < y209.length) = true := decide_eq_true (Int.ofNat_lt.mp c17)
                    clear c17
                    (first | rw [c17b0] | (simp only [i64_w, i32_w]; rw [c17b0]) | rw [c17b1] | skip)
                    have H' := Aside0.mk H
                    clear H
                    go_wp2
                    repeat (go_quiet (fail); try go_wp2)
                    go_meet
                    case rel => exact ⟨_, (y209), (y203), H', ⟨by have := HJ2.out; first | omega | exact Nat.le_refl _⟩, ⟨by (with_reducible repeat (first | apply Kd.V_alloc | apply Kd.V_drewN | apply Kd.V_drew)); exact HO213.out⟩, ⟨by (with_reducible repeat (first | apply Kd.V_alloc | apply Kd.V_drewN | apply Kd.V_drew)); exact HO207.out⟩, ⟨by repeat (first | (with_reducible first | exact HB.out | apply below_alloc | apply pw_below_drewN | apply below_drew1) | exact HB.out)⟩⟩
                  · rw [if_neg c17] at H
                    have c17b0 : decide ((y203.length : Int) < (y209.length : Int)) = false := decide_eq_false c17
                    have c17b1 : decide (y203.length < y209.length) = false := decide_eq_false (fun h => c17 (Int.ofNat_lt.mpr h))
                    clear c17
                    (first | rw [c17b0] | (simp only [i64_w, i32_w]; rw [c17b0]) | rw [c17b1] | skip)
                    have H' := Aside0.mk H
                    clear H
                    go_wp2
                    repeat (go_quiet (fail); try go_wp2)
                    go_meet
                    case rel => exact ⟨_, (y203), (y209), H', ⟨by have := HJ2.out; first | omega | exact Nat.le_refl _⟩, ⟨by (with_reducible repeat (first | apply Kd.V_alloc | apply Kd.V_drewN | apply Kd.V_drew)); exact HO207.out⟩, ⟨by (with_reducible repeat (first | apply Kd.V_alloc | apply Kd.V_drewN | apply Kd.V_drew)); exact HO213.out⟩, ⟨by repeat (first | (with_reducible first | exact HB.out | apply below_alloc | apply pw_below_drewN | apply below_drew1) | exact HB.out)⟩⟩
                case rest =>
                  clear HC14
                  try clear c1
                  try clear q1
                  try clear p2
                  try clear c3
                  try clear c5
                  try clear c7
                  try clear c9
                  try clear c9b0
                  try clear c9b1
                  try clear c10
                  try clear c10b0
                  try clear c10b1
                  try clear c12
                  try clear c12b0
                  try clear c12b1
                  try clear c13
                  try clear c13b0
                  try clear c13b1
                  try clear q15
                  try clear q16
                  try clear c17
                  try clear c17b0
                  try clear c17b1
                  try clear p2
                  try clear q15
                  try clear q16
                  obtain ⟨kq, x0_13, x1_13, HA, HJ13, HO_0, HO_1, HB⟩ := hcut
                  cases kq with
                  | zero => exact absurd HA.out (by simp [nat_Add.j1])
                  | succ kj13 =>
                    have H := HA.out
                    clear HA
                    simp only [nat_Add.j1] at H
                    obtain ⟨ji18, hji18⟩ : ∃ j_ : Int, (wrap64 ((x0_13.length : Int) + 1)) = j_ := ⟨_, rfl⟩
                    replace H : (if 0 ≤ (ji18) then (if (ji18 : Int).toNat ≤ 35184372088832 then (nat_Add.l0 kj13 x0_13 x1_13 (List.replicate (ji18 : Int).toNat 0) 0 x0_13 (x0_13.length : Int) 0) else (none)) else (none)) = some (r1, r2) := by first | (rw [hji18] at H; exact H) | (simp only [hji18] at H ⊢; exact H)
                    have hji18w : (IntKind.i64.wrap ((x0_13.length : Int) + 1)) = ji18 := (i64_w _).trans hji18
                    by_cases c19 : 0 ≤ (ji18)
                    · rw [if_pos c19] at H
                      have c19b0 := eq_true c19
                      have c19b1 : decide (0 ≤ (ji18)) = true := decide_eq_true c19
                      clear c19
                      by_cases c20 : (ji18 : Int).toNat ≤ 35184372088832
                      · rw [if_pos c20] at H
                        have c20b0 := eq_true c20
                        have c20b1 : decide ((ji18 : Int).toNat ≤ 35184372088832) = true := decide_eq_true c20
                        clear c20
                        obtain ⟨y214, hy214⟩ : ∃ y_ : List Int, y_ = (List.replicate (ji18 : Int).toNat 0) := ⟨_, rfl⟩
                        replace H : (nat_Add.l0 kj13 x0_13 x1_13 y214 0 x0_13 (x0_13.length : Int) 0) = some (r1, r2) := by first | (rw [hy214]; with_reducible exact H) | (have H2_ := (Option.bind_some _ _).symm.trans H; rw [hy214]; with_reducible exact H2_) | (have H2_ := (Option.bind_some _ _).symm.trans H; with_reducible exact H2_) | with_reducible exact H | (rw [hy214]; exact H) | exact H
                        have Ny214 := Aside0.mk hy214
                        clear hy214
                        have H' := Aside0.mk H
                        clear H
                        obtain ⟨Ao21, co21, eo21⟩ := Kd.V_slice HO_0.out
                        subst eo21
                        go_wp2_with (first | ((with_reducible refine gate_dst (N := 35) rfl ?_); refine Kd.R_make (Kd.int .u64) _ 28 rfl (N := 35) rfl 22 _ _ rfl ji18 rfl rfl Tryd.underlying22 (.int .u64 0) 8 info28 rfl (by decide) (by omega) 0 (ok := fun _ => True) (okp := fun _ => True) rfl (fun _ hk => hk) trivial (of_decide_eq_true (by first | (with_reducible assumption) | assumption)) (Nat.le_trans (Nat.mul_le_mul_right _ (of_decide_eq_true (by first | (with_reducible assumption) | assumption) : ji18.toNat ≤ 35184372088832)) (by omega)) (Below.refl _ _) (Nat.le_refl _) ?_; intro v215 w22 ho23 hb hg_ hnew_; clear hg_ hnew_; (first | rw [← Ny214.out] at ho23 | (simp only [Int.reduceToNat] at ho23; rw [← Ny214.out] at ho23)); have n0_ := Aside0.mk (Kd.V_elder' (by (with_reducible repeat (first | apply Kd.V_alloc | apply Kd.V_drewN | apply Kd.V_drew)); exact HO_0.out) (Kd.R_base ho23) hb); have n1_ := Aside0.mk (Kd.V_elder' (by (with_reducible repeat (first | apply Kd.V_alloc | apply Kd.V_drewN | apply Kd.V_drew)); exact HO_1.out) (Kd.R_base ho23) hb); have n2_ := Aside0.mk (Kd.R_lower (Kd.R_newM (M := fun k_ => (w.heap.size ≤ k_)) ho23 (below_size (by repeat (first | (with_reducible first | exact HB.out | apply below_alloc | apply pw_below_drewN | apply below_drew1) | exact HB.out))) (fun k_ h_ => h_)) (below_size (by repeat (first | (with_reducible first | exact HB.out | apply below_alloc | apply pw_below_drewN | apply below_drew1) | exact HB.out)))); have n3_ := Aside0.mk (below_step (by repeat (first | (with_reducible first | exact HB.out | apply below_alloc | apply pw_below_drewN | apply below_drew1) | exact HB.out)) hb); clear HO_0; clear HO_1; clear HB; have HO_0 := n0_; have HO_1 := n1_; have HO216 := n2_; have HB := n3_; clear n0_ n1_ n2_ n3_; clear hb ho23))
                        repeat (go_quiet (first | ((with_reducible refine gate_dst (N := 35) rfl ?_); refine Kd.R_make (Kd.int .u64) _ 28 rfl (N := 35) rfl 22 _ _ rfl ji18 rfl rfl Tryd.underlying22 (.int .u64 0) 8 info28 rfl (by decide) (by omega) 0 (ok := fun _ => True) (okp := fun _ => True) rfl (fun _ hk => hk) trivial (of_decide_eq_true (by first | (with_reducible assumption) | assumption)) (Nat.le_trans (Nat.mul_le_mul_right _ (of_decide_eq_true (by first | (with_reducible assumption) | assumption) : ji18.toNat ≤ 35184372088832)) (by omega)) (Below.refl _ _) (Nat.le_refl _) ?_; intro v215 w22 ho23 hb hg_ hnew_; clear hg_ hnew_; (first | rw [← Ny214.out] at ho23 | (simp only [Int.reduceToNat] at ho23; rw [← Ny214.out] at ho23)); have n0_ := Aside0.mk (Kd.V_elder' (by (with_reducible repeat (first | apply Kd.V_alloc | apply Kd.V_drewN | apply Kd.V_drew)); exact HO_0.out) (Kd.R_base ho23) hb); have n1_ := Aside0.mk (Kd.V_elder' (by (with_reducible repeat (first | apply Kd.V_alloc | apply Kd.V_drewN | apply Kd.V_drew)); exact HO_1.out) (Kd.R_base ho23) hb); have n2_ := Aside0.mk (Kd.R_lower (Kd.R_newM (M := fun k_ => (w.heap.size ≤ k_)) ho23 (below_size (by repeat (first | (with_reducible first | exact HB.out | apply below_alloc | apply pw_below_drewN | apply below_drew1) | exact HB.out))) (fun k_ h_ => h_)) (below_size (by repeat (first | (with_reducible first | exact HB.out | apply below_alloc | apply pw_below_drewN | apply below_drew1) | exact HB.out)))); have n3_ := Aside0.mk (below_step (by repeat (first | (with_reducible first | exact HB.out | apply below_alloc | apply pw_below_drewN | apply below_drew1) | exact HB.out)) hb); clear HO_0; clear HO_1; clear HB; have HO_0 := n0_; have HO_1 := n1_; have HO216 := n2_; have HB := n3_; clear n0_ n1_ n2_ n3_; clear hb ho23)); try go_wp2_with (first | ((with_reducible refine gate_dst (N := 35) rfl ?_); refine Kd.R_make (Kd.int .u64) _ 28 rfl (N := 35) rfl 22 _ _ rfl ji18 rfl rfl Tryd.underlying22 (.int .u64 0) 8 info28 rfl (by decide) (by omega) 0 (ok := fun _ => True) (okp := fun _ => True) rfl (fun _ hk => hk) trivial (of_decide_eq_true (by first | (with_reducible assumption) | assumption)) (Nat.le_trans (Nat.mul_le_mul_right _ (of_decide_eq_true (by first | (with_reducible assumption) | assumption) : ji18.toNat ≤ 35184372088832)) (by omega)) (Below.refl _ _) (Nat.le_refl _) ?_; intro v215 w22 ho23 hb hg_ hnew_; clear hg_ hnew_; (first | rw [← Ny214.out] at ho23 | (simp only [Int.reduceToNat] at ho23; rw [← Ny214.out] at ho23)); have n0_ := Aside0.mk (Kd.V_elder' (by (with_reducible repeat (first | apply Kd.V_alloc | apply Kd.V_drewN | apply Kd.V_drew)); exact HO_0.out) (Kd.R_base ho23) hb); have n1_ := Aside0.mk (Kd.V_elder' (by (with_reducible repeat (first | apply Kd.V_alloc | apply Kd.V_drewN | apply Kd.V_drew)); exact HO_1.out) (Kd.R_base ho23) hb); have n2_ := Aside0.mk (Kd.R_lower (Kd.R_newM (M := fun k_ => (w.heap.size ≤ k_)) ho23 (below_size (by repeat (first | (with_reducible first | exact HB.out | apply below_alloc | apply pw_below_drewN | apply below_drew1) | exact HB.out))) (fun k_ h_ => h_)) (below_size (by repeat (first | (with_reducible first | exact HB.out | apply below_alloc | apply pw_below_drewN | apply below_drew1) | exact HB.out)))); have n3_ := Aside0.mk (below_step (by repeat (first | (with_reducible first | exact HB.out | apply below_alloc | apply pw_below_drewN | apply below_drew1) | exact HB.out)) hb); clear HO_0; clear HO_1; clear HB; have HO_0 := n0_; have HO_1 := n1_; have HO216 := n2_; have HB := n3_; clear n0_ n1_ n2_ n3_; clear hb ho23)))
                        go_loopg [7, 38] kj13 (fun kq v7 v38 w' => ∃ (x6_3 : List Int) (x7_3 : Int) (x38_3 : Int), v7 = .int .u64 x7_3 ∧ v38 = .int .i64 x38_3 ∧ Aside0 (nat_Add.l0 kq x0_13 x1_13 x6_3 x7_3 x0_13 (x0_13.length : Int) x38_3 = some (r1, r2)) ∧ Aside0 (kq ≤ kj13) ∧ Aside0 (Kd.V (Kd.int .u64) 28 w' w.heap.size (fun k_ => ((P0_ k_ ∨ P1_ k_) ∨ w.heap.size ≤ k_) ∧ some k_ ≠ (v215 : Value).ownBlock) (.slice Ao21 x0_13.length co21) x0_13) ∧ Aside0 (Kd.V (Kd.int .u64) 28 w' w.heap.size (fun k_ => ((P0_ k_ ∨ P1_ k_) ∨ w.heap.size ≤ k_) ∧ some k_ ≠ (v215 : Value).ownBlock) u1 x1_13) ∧ Aside0 (Kd.R (Kd.int .u64) 28 w' w.heap.size (fun k_ => (w.heap.size ≤ k_)) v215 x6_3) ∧ Aside0 (Kd.V (Kd.int .u64) 28 w' w.heap.size (fun k_ => ((P0_ k_ ∨ P1_ k_) ∨ w.heap.size ≤ k_) ∧ some k_ ≠ (v215 : Value).ownBlock) (.slice Ao21 x0_13.length co21) x0_13) ∧ Aside0 (Below w.heap.size w w'))
                        case atStart => exact ⟨(y214), (0), (0), (by first | rfl | (simp; done) | (simp [*]; done)), (by first | rfl | (simp; done) | (simp [*]; done)), H', ⟨Nat.le_refl _⟩, ⟨by (with_reducible repeat (first | apply Kd.V_alloc | apply Kd.V_drewN | apply Kd.V_drew)); exact HO_0.out⟩, ⟨by (with_reducible repeat (first | apply Kd.V_alloc | apply Kd.V_drewN | apply Kd.V_drew)); exact HO_1.out⟩, ⟨by (with_reducible repeat (first | apply Kd.R_alloc | apply Kd.R_drewN | apply Kd.R_drew)); exact Kd.R_mono HO216.out (fun _ hk => hk.1)⟩, ⟨by (with_reducible repeat (first | apply Kd.V_alloc | apply Kd.V_drewN | apply Kd.V_drew)); exact HO_0.out⟩, ⟨by repeat (first | (with_reducible first | exact HB.out | apply below_alloc | apply pw_below_drewN | apply below_drew1) | exact HB.out)⟩⟩
                        case round =>
                          clear H'
                          try clear c1
                          try clear q1
                          try clear c2
                          try clear p2
                          try clear c3
                          try clear c5
                          try clear p6
                          try clear c7
                          try clear c9
                          try clear c9b0
                          try clear c9b1
                          try clear c10
                          try clear c10b0
                          try clear c10b1
                          try clear c12
                          try clear c12b0
                          try clear c12b1
                          try clear c13
                          try clear c13b0
                          try clear c13b1
                          try clear q15
                          try clear q16
                          try clear c17
                          try clear c17b0
                          try clear c17b1
                          try clear c19
                          try clear c19b0
                          try clear c19b1
                          try clear c20
                          try clear c20b0
                          try clear c20b1
                          try clear p2
                          try clear q1
                          try clear q15
                          try clear q16
                          obtain ⟨x6_3, x7_3, x38_3, rfl, rfl, HA, HK3, HO_0, HO_1, HO_6, HO_36, HB⟩ := hrel
                          cases gk with
                          | zero => exact absurd HA.out (by simp [nat_Add.l0])
                          | succ k3 =>
                            have H := HA.out
                            clear HA
                            simp only [nat_Add.l0] at H
                            by_cases c24 : x38_3 < (x0_13.length : Int)
                            · rw [if_pos c24] at H
                              have c24b0 : decide (x38_3 < (x0_13.length : Int)) = true := decide_eq_true c24
                              clear c24
                              by_cases c25 : 0 ≤ x38_3
                              · rw [if_pos c25] at H
                                have c25b0 : decide (0 ≤ x38_3) = true := decide_eq_true c25
                                clear c25
                                by_cases c26 : x38_3 < (x0_13.length : Int)
                                · rw [if_pos c26] at H
                                  have c26b0 : decide (x38_3 < (x0_13.length : Int)) = true := decide_eq_true c26
                                  clear c26
                                  by_cases c27 : x38_3 < (x1_13.length : Int)
                                  · rw [if_pos c27] at H
                                    have c27b0 : decide (x38_3 < (x1_13.length : Int)) = true := decide_eq_true c27
                                    clear c27
                                    replace H := Option.bind_eq_some_iff.mp H
                                    obtain ⟨⟨t219, t220⟩, A280, H⟩ := H
                                    replace H : (if x38_3 < (x6_3.length : Int) then (nat_Add.l0 k3 x0_13 x1_13 (x6_3.set (x38_3 : Int).toNat t219) t220 x0_13 (x0_13.length : Int) (wrap64 (x38_3 + 1))) else (none)) = some (r1, r2) := H
                                    have A28 := Aside0.mk A280
                                    clear A280
                                    by_cases c29 : x38_3 < (x6_3.length : Int)
                                    · rw [if_pos c29] at H
                                      have c29b0 : decide (x38_3 < (x6_3.length : Int)) = true := decide_eq_true c29
                                      clear c29
                                      obtain ⟨y221, hy221⟩ : ∃ y_ : List Int, y_ = (x6_3.set (x38_3 : Int).toNat t219) := ⟨_, rfl⟩
                                      replace H : (nat_Add.l0 k3 x0_13 x1_13 y221 t220 x0_13 (x0_13.length : Int) (wrap64 (x38_3 + 1))) = some (r1, r2) := by first | (rw [hy221]; with_reducible exact H) | (have H2_ := (Option.bind_some _ _).symm.trans H; rw [hy221]; with_reducible exact H2_) | (have H2_ := (Option.bind_some _ _).symm.trans H; with_reducible exact H2_) | with_reducible exact H | (rw [hy221]; exact H) | exact H
                                      have Ny221 := Aside0.mk hy221
                                      clear hy221
                                      have H' := Aside0.mk H
                                      clear H
                                      have p217 : 0 ≤ (x38_3 : Int) := of_decide_eq_true (by first | (with_reducible assumption) | assumption)
                                      have q217 : x38_3 < (x0_13.length : Int) := of_decide_eq_true (by first | (with_reducible assumption) | assumption)
                                      obtain ⟨ad217, e217, hx217_0⟩ := Kd.at_int (Kd.V_reads' HO_36.out).2.2 x38_3 p217 q217
                                      cases e217
                                      replace p217 := eq_true p217
                                      replace q217 := eq_true q217
                                      obtain ⟨Ao31, co31, eo31⟩ := Kd.V_slice HO_1.out
                                      subst eo31
                                      have p218 : 0 ≤ (x38_3 : Int) := of_decide_eq_true (by first | (with_reducible assumption) | assumption)
                                      have q218 : x38_3 < (x1_13.length : Int) := of_decide_eq_true (by first | (with_reducible assumption) | assumption)
                                      obtain ⟨ad218, e218, hx218_0⟩ := Kd.at_int (Kd.V_reads' HO_1.out).2.2 x38_3 p218 q218
                                      cases e218
                                      replace p218 := eq_true p218
                                      replace q218 := eq_true q218
                                      go_wp2_with (first | ((with_reducible refine gate_callee (f := 57) rfl ?_); refine goesX_ (some 57) rfl rfl Tryd.func57 (by kernel_rfl) rfl #[.int .u64 (rd x0_13 x38_3), .int .u64 (rd x1_13 x38_3), .int .u64 x7_3] rfl (by (try simp only [List.map_toArray, List.map_cons, List.map_nil]); first | done | rfl | (simp only [List.length_drop, List.length_take]; rfl) | (simp only [gt_iff_lt, Int.natCast_pos]; done) | (simp only [gt_iff_lt, Int.natCast_pos]; rfl)) ?_; (with_reducible refine (bits_Add64.calls (rd x0_13 x38_3) (rd x1_13 x38_3) x7_3 t219 t220 _ A28.out).mono ?_); rintro e w' ⟨rfl, rfl⟩; refine ⟨_, rfl, ?_⟩; have p30 : 0 ≤ (x38_3 : Int) := of_decide_eq_true (by first | (with_reducible assumption) | assumption); have q30 : (x38_3 : Int) < ((x6_3.length : Int) : Int) := of_decide_eq_true (by first | (with_reducible assumption) | assumption); obtain ⟨go30, co30, eo30, gb30, gl30, cl30, HG30⟩ := Kd.R_form HO_6.out (by omega); (first | cases eo30 | (injection eo30 with ea_ en_ ec_; (first | subst ea_ | (injection ea_ with ea_; subst ea_)); subst ec_; clear en_)); have GB30 := Aside0.mk gb30; have GG30 := Aside0.mk HG30; clear gb30 gl30 HG30; obtain ⟨hx30_0, hf30_0⟩ := Kd.R_celln 0 HO_6.out (x38_3 : Int) p30 q30; replace p30 := eq_true p30; replace q30 := eq_true q30; obtain ⟨hy32_, hz32_⟩ := Kd.R_celln 0 HO_6.out (x38_3 : Int) (of_decide_eq_true (by first | (with_reducible assumption) | assumption)) (of_decide_eq_true (by first | (with_reducible assumption) | assumption)); have HP32 := Kd.R_putg HO_6.out (x38_3 : Int) t219) | ((with_reducible refine gate_store (t := 28) (p := 60) rfl ?_); (try (rw [drewN_self wr]; generalize hq_ : World.drewN wr _ = wr; have n0_ := Aside0.mk (Kd.V_at hq_ HO_0.out); have n1_ := Aside0.mk (Kd.V_at hq_ HO_1.out); have n2_ := Aside0.mk (Kd.R_at hq_ HO_6.out); have n3_ := Aside0.mk (Kd.V_at hq_ HO_36.out); have n4_ := Aside0.mk (below_at hq_ HB.out); clear hq_ HO_0 HO_1 HO_6 HO_36 HB; have HO_0 := n0_; have HO_1 := n1_; have HO_6 := n2_; have HO_36 := n3_; have HB := n4_; clear n0_ n1_ n2_ n3_ n4_; (try (obtain ⟨hy32_, hz32_⟩ := Kd.R_celln 0 HO_6.out (x38_3 : Int) (of_decide_eq_true (by first | (with_reducible assumption) | assumption)) (of_decide_eq_true (by first | (with_reducible assumption) | assumption)))); (try (have HP32 := Kd.R_putg HO_6.out (x38_3 : Int) t219)))); refine store_event (t := 28) (p := 60) (v := ?vo_w33) (w1 := (wr.setCell ⟨go30, (x38_3 : Int).toNat, none⟩ (.int .u64 t219))) ?hg ?ho ?hn ?hr ?_; (case ho => rfl); (case hg => rfl); (case hn => rfl); (case hr => first | (go_simp; done) | (go_simp; rfl)); intro w33 hw; have hg : wr.grownBy w33 (some go30) := (by rw [hw]; exact HP32.2); have hp_ : Kd.R (Kd.int .u64) 28 w33 w.heap.size (fun k_ => (w.heap.size ≤ k_)) (.slice (some ⟨go30, 0, none⟩) x6_3.length co30) y221 := (by rw [hw, Ny221.out]; exact HP32.1); clear HP32; have n0_ := Aside0.mk (Kd.V_afterv (v := (.slice (some ⟨go30, 0, none⟩) x6_3.length co30)) (v1 := (.slice (some ⟨go30, 0, none⟩) x6_3.length co30)) (ok := (fun k_ => ((P0_ k_ ∨ P1_ k_) ∨ w.heap.size ≤ k_))) (by (with_reducible repeat (first | apply Kd.V_alloc | apply Kd.V_drewN | apply Kd.V_drew)); exact HO_0.out) hg (.inl rfl)); have n1_ := Aside0.mk (Kd.V_afterv (v := (.slice (some ⟨go30, 0, none⟩) x6_3.length co30)) (v1 := (.slice (some ⟨go30, 0, none⟩) x6_3.length co30)) (ok := (fun k_ => ((P0_ k_ ∨ P1_ k_) ∨ w.heap.size ≤ k_))) (by (with_reducible repeat (first | apply Kd.V_alloc | apply Kd.V_drewN | apply Kd.V_drew)); exact HO_1.out) hg (.inl rfl)); have n2_ := Aside0.mk (hp_); have n3_ := Aside0.mk (Kd.V_afterv (v := (.slice (some ⟨go30, 0, none⟩) x6_3.length co30)) (v1 := (.slice (some ⟨go30, 0, none⟩) x6_3.length co30)) (ok := (fun k_ => ((P0_ k_ ∨ P1_ k_) ∨ w.heap.size ≤ k_))) (by (with_reducible repeat (first | apply Kd.V_alloc | apply Kd.V_drewN | apply Kd.V_drew)); exact HO_36.out) hg (.inl rfl)); have n4_ := Aside0.mk ((by rw [hw]; exact below_set (HB.out) GB30.out : Below w.heap.size w w33)); clear HO_0; clear HO_1; clear HO_6; clear HO_36; clear HB; have HO_0 := n0_; have HO_1 := n1_; have HO_6 := n2_; have HO_36 := n3_; have HB := n4_; clear n0_ n1_ n2_ n3_ n4_; clear hg hw hp_))
                                      repeat (go_quiet (first | ((with_reducible refine gate_callee (f := 57) rfl ?_); refine goesX_ (some 57) rfl rfl Tryd.func57 (by kernel_rfl) rfl #[.int .u64 (rd x0_13 x38_3), .int .u64 (rd x1_13 x38_3), .int .u64 x7_3] rfl (by (try simp only [List.map_toArray, List.map_cons, List.map_nil]); first | done | rfl | (simp only [List.length_drop, List.length_take]; rfl) | (simp only [gt_iff_lt, Int.natCast_pos]; done) | (simp only [gt_iff_lt, Int.natCast_pos]; rfl)) ?_; (with_reducible refine (bits_Add64.calls (rd x0_13 x38_3) (rd x1_13 x38_3) x7_3 t219 t220 _ A28.out).mono ?_); rintro e w' ⟨rfl, rfl⟩; refine ⟨_, rfl, ?_⟩; have p30 : 0 ≤ (x38_3 : Int) := of_decide_eq_true (by first | (with_reducible assumption) | assumption); have q30 : (x38_3 : Int) < ((x6_3.length : Int) : Int) := of_decide_eq_true (by first | (with_reducible assumption) | assumption); obtain ⟨go30, co30, eo30, gb30, gl30, cl30, HG30⟩ := Kd.R_form HO_6.out (by omega); (first | cases eo30 | (injection eo30 with ea_ en_ ec_; (first | subst ea_ | (injection ea_ with ea_; subst ea_)); subst ec_; clear en_)); have GB30 := Aside0.mk gb30; have GG30 := Aside0.mk HG30; clear gb30 gl30 HG30; obtain ⟨hx30_0, hf30_0⟩ := Kd.R_celln 0 HO_6.out (x38_3 : Int) p30 q30; replace p30 := eq_true p30; replace q30 := eq_true q30; obtain ⟨hy32_, hz32_⟩ := Kd.R_celln 0 HO_6.out (x38_3 : Int) (of_decide_eq_true (by first | (with_reducible assumption) | assumption)) (of_decide_eq_true (by first | (with_reducible assumption) | assumption)); have HP32 := Kd.R_putg HO_6.out (x38_3 : Int) t219) | ((with_reducible refine gate_store (t := 28) (p := 60) rfl ?_); (try (rw [drewN_self wr]; generalize hq_ : World.drewN wr _ = wr; have n0_ := Aside0.mk (Kd.V_at hq_ HO_0.out); have n1_ := Aside0.mk (Kd.V_at hq_ HO_1.out); have n2_ := Aside0.mk (Kd.R_at hq_ HO_6.out); have n3_ := Aside0.mk (Kd.V_at hq_ HO_36.out); have n4_ := Aside0.mk (below_at hq_ HB.out); clear hq_ HO_0 HO_1 HO_6 HO_36 HB; have HO_0 := n0_; have HO_1 := n1_; have HO_6 := n2_; have HO_36 := n3_; have HB := n4_; clear n0_ n1_ n2_ n3_ n4_; (try (obtain ⟨hy32_, hz32_⟩ := Kd.R_celln 0 HO_6.out (x38_3 : Int) (of_decide_eq_true (by first | (with_reducible assumption) | assumption)) (of_decide_eq_true (by first | (with_reducible assumption) | assumption)))); (try (have HP32 := Kd.R_putg HO_6.out (x38_3 : Int) t219)))); refine store_event (t := 28) (p := 60) (v := ?vo_w33) (w1 := (wr.setCell ⟨go30, (x38_3 : Int).toNat, none⟩ (.int .u64 t219))) ?hg ?ho ?hn ?hr ?_; (case ho => rfl); (case hg => rfl); (case hn => rfl); (case hr => first | (go_simp; done) | (go_simp; rfl)); intro w33 hw; have hg : wr.grownBy w33 (some go30) := (by rw [hw]; exact HP32.2); have hp_ : Kd.R (Kd.int .u64) 28 w33 w.heap.size (fun k_ => (w.heap.size ≤ k_)) (.slice (some ⟨go30, 0, none⟩) x6_3.length co30) y221 := (by rw [hw, Ny221.out]; exact HP32.1); clear HP32; have n0_ := Aside0.mk (Kd.V_afterv (v := (.slice (some ⟨go30, 0, none⟩) x6_3.length co30)) (v1 := (.slice (some ⟨go30, 0, none⟩) x6_3.length co30)) (ok := (fun k_ => ((P0_ k_ ∨ P1_ k_) ∨ w.heap.size ≤ k_))) (by (with_reducible repeat (first | apply Kd.V_alloc | apply Kd.V_drewN | apply Kd.V_drew)); exact HO_0.out) hg (.inl rfl)); have n1_ := Aside0.mk (Kd.V_afterv (v := (.slice (some ⟨go30, 0, none⟩) x6_3.length co30)) (v1 := (.slice (some ⟨go30, 0, none⟩) x6_3.length co30)) (ok := (fun k_ => ((P0_ k_ ∨ P1_ k_) ∨ w.heap.size ≤ k_))) (by (with_reducible repeat (first | apply Kd.V_alloc | apply Kd.V_drewN | apply Kd.V_drew)); exact HO_1.out) hg (.inl rfl)); have n2_ := Aside0.mk (hp_); have n3_ := Aside0.mk (Kd.V_afterv (v := (.slice (some ⟨go30, 0, none⟩) x6_3.length co30)) (v1 := (.slice (some ⟨go30, 0, none⟩) x6_3.length co30)) (ok := (fun k_ => ((P0_ k_ ∨ P1_ k_) ∨ w.heap.size ≤ k_))) (by (with_reducible repeat (first | apply Kd.V_alloc | apply Kd.V_drewN | apply Kd.V_drew)); exact HO_36.out) hg (.inl rfl)); have n4_ := Aside0.mk ((by rw [hw]; exact below_set (HB.out) GB30.out : Below w.heap.size w w33)); clear HO_0; clear HO_1; clear HO_6; clear HO_36; clear HB; have HO_0 := n0_; have HO_1 := n1_; have HO_6 := n2_; have HO_36 := n3_; have HB := n4_; clear n0_ n1_ n2_ n3_ n4_; clear hg hw hp_)); try go_wp2_with (first | ((with_reducible refine gate_callee (f := 57) rfl ?_); refine goesX_ (some 57) rfl rfl Tryd.func57 (by kernel_rfl) rfl #[.int .u64 (rd x0_13 x38_3), .int .u64 (rd x1_13 x38_3), .int .u64 x7_3] rfl (by (try simp only [List.map_toArray, List.map_cons, List.map_nil]); first | done | rfl | (simp only [List.length_drop, List.length_take]; rfl) | (simp only [gt_iff_lt, Int.natCast_pos]; done) | (simp only [gt_iff_lt, Int.natCast_pos]; rfl)) ?_; (with_reducible refine (bits_Add64.calls (rd x0_13 x38_3) (rd x1_13 x38_3) x7_3 t219 t220 _ A28.out).mono ?_); rintro e w' ⟨rfl, rfl⟩; refine ⟨_, rfl, ?_⟩; have p30 : 0 ≤ (x38_3 : Int) := of_decide_eq_true (by first | (with_reducible assumption) | assumption); have q30 : (x38_3 : Int) < ((x6_3.length : Int) : Int) := of_decide_eq_true (by first | (with_reducible assumption) | assumption); obtain ⟨go30, co30, eo30, gb30, gl30, cl30, HG30⟩ := Kd.R_form HO_6.out (by omega); (first | cases eo30 | (injection eo30 with ea_ en_ ec_; (first | subst ea_ | (injection ea_ with ea_; subst ea_)); subst ec_; clear en_)); have GB30 := Aside0.mk gb30; have GG30 := Aside0.mk HG30; clear gb30 gl30 HG30; obtain ⟨hx30_0, hf30_0⟩ := Kd.R_celln 0 HO_6.out (x38_3 : Int) p30 q30; replace p30 := eq_true p30; replace q30 := eq_true q30; obtain ⟨hy32_, hz32_⟩ := Kd.R_celln 0 HO_6.out (x38_3 : Int) (of_decide_eq_true (by first | (with_reducible assumption) | assumption)) (of_decide_eq_true (by first | (with_reducible assumption) | assumption)); have HP32 := Kd.R_putg HO_6.out (x38_3 : Int) t219) | ((with_reducible refine gate_store (t := 28) (p := 60) rfl ?_); (try (rw [drewN_self wr]; generalize hq_ : World.drewN wr _ = wr; have n0_ := Aside0.mk (Kd.V_at hq_ HO_0.out); have n1_ := Aside0.mk (Kd.V_at hq_ HO_1.out); have n2_ := Aside0.mk (Kd.R_at hq_ HO_6.out); have n3_ := Aside0.mk (Kd.V_at hq_ HO_36.out); have n4_ := Aside0.mk (below_at hq_ HB.out); clear hq_ HO_0 HO_1 HO_6 HO_36 HB; have HO_0 := n0_; have HO_1 := n1_; have HO_6 := n2_; have HO_36 := n3_; have HB := n4_; clear n0_ n1_ n2_ n3_ n4_; (try (obtain ⟨hy32_, hz32_⟩ := Kd.R_celln 0 HO_6.out (x38_3 : Int) (of_decide_eq_true (by first | (with_reducible assumption) | assumption)) (of_decide_eq_true (by first | (with_reducible assumption) | assumption)))); (try (have HP32 := Kd.R_putg HO_6.out (x38_3 : Int) t219)))); refine store_event (t := 28) (p := 60) (v := ?vo_w33) (w1 := (wr.setCell ⟨go30, (x38_3 : Int).toNat, none⟩ (.int .u64 t219))) ?hg ?ho ?hn ?hr ?_; (case ho => rfl); (case hg => rfl); (case hn => rfl); (case hr => first | (go_simp; done) | (go_simp; rfl)); intro w33 hw; have hg : wr.grownBy w33 (some go30) := (by rw [hw]; exact HP32.2); have hp_ : Kd.R (Kd.int .u64) 28 w33 w.heap.size (fun k_ => (w.heap.size ≤ k_)) (.slice (some ⟨go30, 0, none⟩) x6_3.length co30) y221 := (by rw [hw, Ny221.out]; exact HP32.1); clear HP32; have n0_ := Aside0.mk (Kd.V_afterv (v := (.slice (some ⟨go30, 0, none⟩) x6_3.length co30)) (v1 := (.slice (some ⟨go30, 0, none⟩) x6_3.length co30)) (ok := (fun k_ => ((P0_ k_ ∨ P1_ k_) ∨ w.heap.size ≤ k_))) (by (with_reducible repeat (first | apply Kd.V_alloc | apply Kd.V_drewN | apply Kd.V_drew)); exact HO_0.out) hg (.inl rfl)); have n1_ := Aside0.mk (Kd.V_afterv (v := (.slice (some ⟨go30, 0, none⟩) x6_3.length co30)) (v1 := (.slice (some ⟨go30, 0, none⟩) x6_3.length co30)) (ok := (fun k_ => ((P0_ k_ ∨ P1_ k_) ∨ w.heap.size ≤ k_))) (by (with_reducible repeat (first | apply Kd.V_alloc | apply Kd.V_drewN | apply Kd.V_drew)); exact HO_1.out) hg (.inl rfl)); have n2_ := Aside0.mk (hp_); have n3_ := Aside0.mk (Kd.V_afterv (v := (.slice (some ⟨go30, 0, none⟩) x6_3.length co30)) (v1 := (.slice (some ⟨go30, 0, none⟩) x6_3.length co30)) (ok := (fun k_ => ((P0_ k_ ∨ P1_ k_) ∨ w.heap.size ≤ k_))) (by (with_reducible repeat (first | apply Kd.V_alloc | apply Kd.V_drewN | apply Kd.V_drew)); exact HO_36.out) hg (.inl rfl)); have n4_ := Aside0.mk ((by rw [hw]; exact below_set (HB.out) GB30.out : Below w.heap.size w w33)); clear HO_0; clear HO_1; clear HO_6; clear HO_36; clear HB; have HO_0 := n0_; have HO_1 := n1_; have HO_6 := n2_; have HO_36 := n3_; have HB := n4_; clear n0_ n1_ n2_ n3_ n4_; clear hg hw hp_)))
                                      go_roundg k3
                                      case measure => have := HJ2.out; have := HJ13.out; have := HK3.out; omega
                                      case rel => exact ⟨(y221), (t220), (wrap64 (x38_3 + 1)), (by first | rfl | (have e_ := Option.some.inj (A8.out.symm.trans A11.out); cases e_; rfl) | (simp; done) | (simp [*]; done)), (by first | rfl | (have e_ := Option.some.inj (A8.out.symm.trans A11.out); cases e_; rfl) | (simp; done) | (simp [*]; done)), H', ⟨by have := HJ2.out; have := HJ13.out; have := HK3.out; omega⟩, ⟨by (with_reducible repeat (first | apply Kd.V_alloc | apply Kd.V_drewN | apply Kd.V_drew)); exact HO_0.out⟩, ⟨by (with_reducible repeat (first | apply Kd.V_alloc | apply Kd.V_drewN | apply Kd.V_drew)); exact HO_1.out⟩, ⟨by (with_reducible repeat (first | apply Kd.R_alloc | apply Kd.R_drewN | apply Kd.R_drew)); exact HO_6.out⟩, ⟨by (with_reducible repeat (first | apply Kd.V_alloc | apply Kd.V_drewN | apply Kd.V_drew)); exact HO_36.out⟩, ⟨by repeat (first | (with_reducible first | exact HB.out | apply below_alloc | apply pw_below_drewN | apply below_drew1) | exact HB.out)⟩⟩
                                    · rw [if_neg c29] at H
                                      exact absurd H (by simp)
                                  · rw [if_neg c27] at H
                                    have c27b0 : decide (x38_3 < (x1_13.length : Int)) = false := decide_eq_false c27
                                    clear c27
                                    replace H := Option.bind_eq_some_iff.mp H
                                    obtain ⟨⟨t222, t223⟩, A340, H⟩ := H
                                    replace H : (if x38_3 < (x6_3.length : Int) then (nat_Add.l0 k3 x0_13 x1_13 (x6_3.set (x38_3 : Int).toNat t222) t223 x0_13 (x0_13.length : Int) (wrap64 (x38_3 + 1))) else (none)) = some (r1, r2) := H
                                    have A34 := Aside0.mk A340
                                    clear A340
                                    by_cases c35 : x38_3 < (x6_3.length : Int)
                                    · rw [if_pos c35] at H
                                      have c35b0 : decide (x38_3 < (x6_3.length : Int)) = true := decide_eq_true c35
                                      clear c35
                                      obtain ⟨y224, hy224⟩ : ∃ y_ : List Int, y_ = (x6_3.set (x38_3 : Int).toNat t222) := ⟨_, rfl⟩
                                      replace H : (nat_Add.l0 k3 x0_13 x1_13 y224 t223 x0_13 (x0_13.length : Int) (wrap64 (x38_3 + 1))) = some (r1, r2) := by first | (rw [hy224]; with_reducible exact H) | (have H2_ := (Option.bind_some _ _).symm.trans H; rw [hy224]; with_reducible exact H2_) | (have H2_ := (Option.bind_some _ _).symm.trans H; with_reducible exact H2_) | with_reducible exact H | (rw [hy224]; exact H) | exact H
                                      have Ny224 := Aside0.mk hy224
                                      clear hy224
                                      have H' := Aside0.mk H
                                      clear H
                                      have p217 : 0 ≤ (x38_3 : Int) := of_decide_eq_true (by first | (with_reducible assumption) | assumption)
                                      have q217 : x38_3 < (x0_13.length : Int) := of_decide_eq_true (by first | (with_reducible assumption) | assumption)
                                      obtain ⟨ad217, e217, hx217_0⟩ := Kd.at_int (Kd.V_reads' HO_36.out).2.2 x38_3 p217 q217
                                      cases e217
                                      replace p217 := eq_true p217
                                      replace q217 := eq_true q217
                                      obtain ⟨Ao37, co37, eo37⟩ := Kd.V_slice HO_1.out
                                      subst eo37
                                      go_wp2_with (first | ((with_reducible refine gate_callee (f := 57) rfl ?_); refine goesX_ (some 57) rfl rfl Tryd.func57 (by kernel_rfl) rfl #[.int .u64 (rd x0_13 x38_3), .int .u64 0, .int .u64 x7_3] rfl (by (try simp only [List.map_toArray, List.map_cons, List.map_nil]); first | done | rfl | (simp only [List.length_drop, List.length_take]; rfl) | (simp only [gt_iff_lt, Int.natCast_pos]; done) | (simp only [gt_iff_lt, Int.natCast_pos]; rfl)) ?_; (with_reducible refine (bits_Add64.calls (rd x0_13 x38_3) 0 x7_3 t222 t223 _ A34.out).mono ?_); rintro e w' ⟨rfl, rfl⟩; refine ⟨_, rfl, ?_⟩; have p36 : 0 ≤ (x38_3 : Int) := of_decide_eq_true (by first | (with_reducible assumption) | assumption); have q36 : (x38_3 : Int) < ((x6_3.length : Int) : Int) := of_decide_eq_true (by first | (with_reducible assumption) | assumption); obtain ⟨go36, co36, eo36, gb36, gl36, cl36, HG36⟩ := Kd.R_form HO_6.out (by omega); (first | cases eo36 | (injection eo36 with ea_ en_ ec_; (first | subst ea_ | (injection ea_ with ea_; subst ea_)); subst ec_; clear en_)); have GB36 := Aside0.mk gb36; have GG36 := Aside0.mk HG36; clear gb36 gl36 HG36; obtain ⟨hx36_0, hf36_0⟩ := Kd.R_celln 0 HO_6.out (x38_3 : Int) p36 q36; replace p36 := eq_true p36; replace q36 := eq_true q36; obtain ⟨hy38_, hz38_⟩ := Kd.R_celln 0 HO_6.out (x38_3 : Int) (of_decide_eq_true (by first | (with_reducible assumption) | assumption)) (of_decide_eq_true (by first | (with_reducible assumption) | assumption)); have HP38 := Kd.R_putg HO_6.out (x38_3 : Int) t222) | ((with_reducible refine gate_store (t := 28) (p := 60) rfl ?_); (try (rw [drewN_self wr]; generalize hq_ : World.drewN wr _ = wr; have n0_ := Aside0.mk (Kd.V_at hq_ HO_0.out); have n1_ := Aside0.mk (Kd.V_at hq_ HO_1.out); have n2_ := Aside0.mk (Kd.R_at hq_ HO_6.out); have n3_ := Aside0.mk (Kd.V_at hq_ HO_36.out); have n4_ := Aside0.mk (below_at hq_ HB.out); clear hq_ HO_0 HO_1 HO_6 HO_36 HB; have HO_0 := n0_; have HO_1 := n1_; have HO_6 := n2_; have HO_36 := n3_; have HB := n4_; clear n0_ n1_ n2_ n3_ n4_; (try (obtain ⟨hy38_, hz38_⟩ := Kd.R_celln 0 HO_6.out (x38_3 : Int) (of_decide_eq_true (by first | (with_reducible assumption) | assumption)) (of_decide_eq_true (by first | (with_reducible assumption) | assumption)))); (try (have HP38 := Kd.R_putg HO_6.out (x38_3 : Int) t222)))); refine store_event (t := 28) (p := 60) (v := ?vo_w39) (w1 := (wr.setCell ⟨go36, (x38_3 : Int).toNat, none⟩ (.int .u64 t222))) ?hg ?ho ?hn ?hr ?_; (case ho => rfl); (case hg => rfl); (case hn => rfl); (case hr => first | (go_simp; done) | (go_simp; rfl)); intro w39 hw; have hg : wr.grownBy w39 (some go36) := (by rw [hw]; exact HP38.2); have hp_ : Kd.R (Kd.int .u64) 28 w39 w.heap.size (fun k_ => (w.heap.size ≤ k_)) (.slice (some ⟨go36, 0, none⟩) x6_3.length co36) y224 := (by rw [hw, Ny224.out]; exact HP38.1); clear HP38; have n0_ := Aside0.mk (Kd.V_afterv (v := (.slice (some ⟨go36, 0, none⟩) x6_3.length co36)) (v1 := (.slice (some ⟨go36, 0, none⟩) x6_3.length co36)) (ok := (fun k_ => ((P0_ k_ ∨ P1_ k_) ∨ w.heap.size ≤ k_))) (by (with_reducible repeat (first | apply Kd.V_alloc | apply Kd.V_drewN | apply Kd.V_drew)); exact HO_0.out) hg (.inl rfl)); have n1_ := Aside0.mk (Kd.V_afterv (v := (.slice (some ⟨go36, 0, none⟩) x6_3.length co36)) (v1 := (.slice (some ⟨go36, 0, none⟩) x6_3.length co36)) (ok := (fun k_ => ((P0_ k_ ∨ P1_ k_) ∨ w.heap.size ≤ k_))) (by (with_reducible repeat (first | apply Kd.V_alloc | apply Kd.V_drewN | apply Kd.V_drew)); exact HO_1.out) hg (.inl rfl)); have n2_ := Aside0.mk (hp_); have n3_ := Aside0.mk (Kd.V_afterv (v := (.slice (some ⟨go36, 0, none⟩) x6_3.length co36)) (v1 := (.slice (some ⟨go36, 0, none⟩) x6_3.length co36)) (ok := (fun k_ => ((P0_ k_ ∨ P1_ k_) ∨ w.heap.size ≤ k_))) (by (with_reducible repeat (first | apply Kd.V_alloc | apply Kd.V_drewN | apply Kd.V_drew)); exact HO_36.out) hg (.inl rfl)); have n4_ := Aside0.mk ((by rw [hw]; exact below_set (HB.out) GB36.out : Below w.heap.size w w39)); clear HO_0; clear HO_1; clear HO_6; clear HO_36; clear HB; have HO_0 := n0_; have HO_1 := n1_; have HO_6 := n2_; have HO_36 := n3_; have HB := n4_; clear n0_ n1_ n2_ n3_ n4_; clear hg hw hp_))
                                      repeat (go_quiet (first | ((with_reducible refine gate_callee (f := 57) rfl ?_); refine goesX_ (some 57) rfl rfl Tryd.func57 (by kernel_rfl) rfl #[.int .u64 (rd x0_13 x38_3), .int .u64 0, .int .u64 x7_3] rfl (by (try simp only [List.map_toArray, List.map_cons, List.map_nil]); first | done | rfl | (simp only [List.length_drop, List.length_take]; rfl) | (simp only [gt_iff_lt, Int.natCast_pos]; done) | (simp only [gt_iff_lt, Int.natCast_pos]; rfl)) ?_; (with_reducible refine (bits_Add64.calls (rd x0_13 x38_3) 0 x7_3 t222 t223 _ A34.out).mono ?_); rintro e w' ⟨rfl, rfl⟩; refine ⟨_, rfl, ?_⟩; have p36 : 0 ≤ (x38_3 : Int) := of_decide_eq_true (by first | (with_reducible assumption) | assumption); have q36 : (x38_3 : Int) < ((x6_3.length : Int) : Int) := of_decide_eq_true (by first | (with_reducible assumption) | assumption); obtain ⟨go36, co36, eo36, gb36, gl36, cl36, HG36⟩ := Kd.R_form HO_6.out (by omega); (first | cases eo36 | (injection eo36 with ea_ en_ ec_; (first | subst ea_ | (injection ea_ with ea_; subst ea_)); subst ec_; clear en_)); have GB36 := Aside0.mk gb36; have GG36 := Aside0.mk HG36; clear gb36 gl36 HG36; obtain ⟨hx36_0, hf36_0⟩ := Kd.R_celln 0 HO_6.out (x38_3 : Int) p36 q36; replace p36 := eq_true p36; replace q36 := eq_true q36; obtain ⟨hy38_, hz38_⟩ := Kd.R_celln 0 HO_6.out (x38_3 : Int) (of_decide_eq_true (by first | (with_reducible assumption) | assumption)) (of_decide_eq_true (by first | (with_reducible assumption) | assumption)); have HP38 := Kd.R_putg HO_6.out (x38_3 : Int) t222) | ((with_reducible refine gate_store (t := 28) (p := 60) rfl ?_); (try (rw [drewN_self wr]; generalize hq_ : World.drewN wr _ = wr; have n0_ := Aside0.mk (Kd.V_at hq_ HO_0.out); have n1_ := Aside0.mk (Kd.V_at hq_ HO_1.out); have n2_ := Aside0.mk (Kd.R_at hq_ HO_6.out); have n3_ := Aside0.mk (Kd.V_at hq_ HO_36.out); have n4_ := Aside0.mk (below_at hq_ HB.out); clear hq_ HO_0 HO_1 HO_6 HO_36 HB; have HO_0 := n0_; have HO_1 := n1_; have HO_6 := n2_; have HO_36 := n3_; have HB := n4_; clear n0_ n1_ n2_ n3_ n4_; (try (obtain ⟨hy38_, hz38_⟩ := Kd.R_celln 0 HO_6.out (x38_3 : Int) (of_decide_eq_true (by first | (with_reducible assumption) | assumption)) (of_decide_eq_true (by first | (with_reducible assumption) | assumption)))); (try (have HP38 := Kd.R_putg HO_6.out (x38_3 : Int) t222)))); refine store_event (t := 28) (p := 60) (v := ?vo_w39) (w1 := (wr.setCell ⟨go36, (x38_3 : Int).toNat, none⟩ (.int .u64 t222))) ?hg ?ho ?hn ?hr ?_; (case ho => rfl); (case hg => rfl); (case hn => rfl); (case hr => first | (go_simp; done) | (go_simp; rfl)); intro w39 hw; have hg : wr.grownBy w39 (some go36) := (by rw [hw]; exact HP38.2); have hp_ : Kd.R (Kd.int .u64) 28 w39 w.heap.size (fun k_ => (w.heap.size ≤ k_)) (.slice (some ⟨go36, 0, none⟩) x6_3.length co36) y224 := (by rw [hw, Ny224.out]; exact HP38.1); clear HP38; have n0_ := Aside0.mk (Kd.V_afterv (v := (.slice (some ⟨go36, 0, none⟩) x6_3.length co36)) (v1 := (.slice (some ⟨go36, 0, none⟩) x6_3.length co36)) (ok := (fun k_ => ((P0_ k_ ∨ P1_ k_) ∨ w.heap.size ≤ k_))) (by (with_reducible repeat (first | apply Kd.V_alloc | apply Kd.V_drewN | apply Kd.V_drew)); exact HO_0.out) hg (.inl rfl)); have n1_ := Aside0.mk (Kd.V_afterv (v := (.slice (some ⟨go36, 0, none⟩) x6_3.length co36)) (v1 := (.slice (some ⟨go36, 0, none⟩) x6_3.length co36)) (ok := (fun k_ => ((P0_ k_ ∨ P1_ k_) ∨ w.heap.size ≤ k_))) (by (with_reducible repeat (first | apply Kd.V_alloc | apply Kd.V_drewN | apply Kd.V_drew)); exact HO_1.out) hg (.inl rfl)); have n2_ := Aside0.mk (hp_); have n3_ := Aside0.mk (Kd.V_afterv (v := (.slice (some ⟨go36, 0, none⟩) x6_3.length co36)) (v1 := (.slice (some ⟨go36, 0, none⟩) x6_3.length co36)) (ok := (fun k_ => ((P0_ k_ ∨ P1_ k_) ∨ w.heap.size ≤ k_))) (by (with_reducible repeat (first | apply Kd.V_alloc | apply Kd.V_drewN | apply Kd.V_drew)); exact HO_36.out) hg (.inl rfl)); have n4_ := Aside0.mk ((by rw [hw]; exact below_set (HB.out) GB36.out : Below w.heap.size w w39)); clear HO_0; clear HO_1; clear HO_6; clear HO_36; clear HB; have HO_0 := n0_; have HO_1 := n1_; have HO_6 := n2_; have HO_36 := n3_; have HB := n4_; clear n0_ n1_ n2_ n3_ n4_; clear hg hw hp_)); try go_wp2_with (first | ((with_reducible refine gate_callee (f := 57) rfl ?_); refine goesX_ (some 57) rfl rfl Tryd.func57 (by kernel_rfl) rfl #[.int .u64 (rd x0_13 x38_3), .int .u64 0, .int .u64 x7_3] rfl (by (try simp only [List.map_toArray, List.map_cons, List.map_nil]); first | done | rfl | (simp only [List.length_drop, List.length_take]; rfl) | (simp only [gt_iff_lt, Int.natCast_pos]; done) | (simp only [gt_iff_lt, Int.natCast_pos]; rfl)) ?_; (with_reducible refine (bits_Add64.calls (rd x0_13 x38_3) 0 x7_3 t222 t223 _ A34.out).mono ?_); rintro e w' ⟨rfl, rfl⟩; refine ⟨_, rfl, ?_⟩; have p36 : 0 ≤ (x38_3 : Int) := of_decide_eq_true (by first | (with_reducible assumption) | assumption); have q36 : (x38_3 : Int) < ((x6_3.length : Int) : Int) := of_decide_eq_true (by first | (with_reducible assumption) | assumption); obtain ⟨go36, co36, eo36, gb36, gl36, cl36, HG36⟩ := Kd.R_form HO_6.out (by omega); (first | cases eo36 | (injection eo36 with ea_ en_ ec_; (first | subst ea_ | (injection ea_ with ea_; subst ea_)); subst ec_; clear en_)); have GB36 := Aside0.mk gb36; have GG36 := Aside0.mk HG36; clear gb36 gl36 HG36; obtain ⟨hx36_0, hf36_0⟩ := Kd.R_celln 0 HO_6.out (x38_3 : Int) p36 q36; replace p36 := eq_true p36; replace q36 := eq_true q36; obtain ⟨hy38_, hz38_⟩ := Kd.R_celln 0 HO_6.out (x38_3 : Int) (of_decide_eq_true (by first | (with_reducible assumption) | assumption)) (of_decide_eq_true (by first | (with_reducible assumption) | assumption)); have HP38 := Kd.R_putg HO_6.out (x38_3 : Int) t222) | ((with_reducible refine gate_store (t := 28) (p := 60) rfl ?_); (try (rw [drewN_self wr]; generalize hq_ : World.drewN wr _ = wr; have n0_ := Aside0.mk (Kd.V_at hq_ HO_0.out); have n1_ := Aside0.mk (Kd.V_at hq_ HO_1.out); have n2_ := Aside0.mk (Kd.R_at hq_ HO_6.out); have n3_ := Aside0.mk (Kd.V_at hq_ HO_36.out); have n4_ := Aside0.mk (below_at hq_ HB.out); clear hq_ HO_0 HO_1 HO_6 HO_36 HB; have HO_0 := n0_; have HO_1 := n1_; have HO_6 := n2_; have HO_36 := n3_; have HB := n4_; clear n0_ n1_ n2_ n3_ n4_; (try (obtain ⟨hy38_, hz38_⟩ := Kd.R_celln 0 HO_6.out (x38_3 : Int) (of_decide_eq_true (by first | (with_reducible assumption) | assumption)) (of_decide_eq_true (by first | (with_reducible assumption) | assumption)))); (try (have HP38 := Kd.R_putg HO_6.out (x38_3 : Int) t222)))); refine store_event (t := 28) (p := 60) (v := ?vo_w39) (w1 := (wr.setCell ⟨go36, (x38_3 : Int).toNat, none⟩ (.int .u64 t222))) ?hg ?ho ?hn ?hr ?_; (case ho => rfl); (case hg => rfl); (case hn => rfl); (case hr => first | (go_simp; done) | (go_simp; rfl)); intro w39 hw; have hg : wr.grownBy w39 (some go36) := (by rw [hw]; exact HP38.2); have hp_ : Kd.R (Kd.int .u64) 28 w39 w.heap.size (fun k_ => (w.heap.size ≤ k_)) (.slice (some ⟨go36, 0, none⟩) x6_3.length co36) y224 := (by rw [hw, Ny224.out]; exact HP38.1); clear HP38; have n0_ := Aside0.mk (Kd.V_afterv (v := (.slice (some ⟨go36, 0, none⟩) x6_3.length co36)) (v1 := (.slice (some ⟨go36, 0, none⟩) x6_3.length co36)) (ok := (fun k_ => ((P0_ k_ ∨ P1_ k_) ∨ w.heap.size ≤ k_))) (by (with_reducible repeat (first | apply Kd.V_alloc | apply Kd.V_drewN | apply Kd.V_drew)); exact HO_0.out) hg (.inl rfl)); have n1_ := Aside0.mk (Kd.V_afterv (v := (.slice (some ⟨go36, 0, none⟩) x6_3.length co36)) (v1 := (.slice (some ⟨go36, 0, none⟩) x6_3.length co36)) (ok := (fun k_ => ((P0_ k_ ∨ P1_ k_) ∨ w.heap.size ≤ k_))) (by (with_reducible repeat (first | apply Kd.V_alloc | apply Kd.V_drewN | apply Kd.V_drew)); exact HO_1.out) hg (.inl rfl)); have n2_ := Aside0.mk (hp_); have n3_ := Aside0.mk (Kd.V_afterv (v := (.slice (some ⟨go36, 0, none⟩) x6_3.length co36)) (v1 := (.slice (some ⟨go36, 0, none⟩) x6_3.length co36)) (ok := (fun k_ => ((P0_ k_ ∨ P1_ k_) ∨ w.heap.size ≤ k_))) (by (with_reducible repeat (first | apply Kd.V_alloc | apply Kd.V_drewN | apply Kd.V_drew)); exact HO_36.out) hg (.inl rfl)); have n4_ := Aside0.mk ((by rw [hw]; exact below_set (HB.out) GB36.out : Below w.heap.size w w39)); clear HO_0; clear HO_1; clear HO_6; clear HO_36; clear HB; have HO_0 := n0_; have HO_1 := n1_; have HO_6 := n2_; have HO_36 := n3_; have HB := n4_; clear n0_ n1_ n2_ n3_ n4_; clear hg hw hp_)))
                                      go_roundg k3
                                      case measure => have := HJ2.out; have := HJ13.out; have := HK3.out; omega
                                      case rel => exact ⟨(y224), (t223), (wrap64 (x38_3 + 1)), (by first | rfl | (have e_ := Option.some.inj (A8.out.symm.trans A11.out); cases e_; rfl) | (simp; done) | (simp [*]; done)), (by first | rfl | (have e_ := Option.some.inj (A8.out.symm.trans A11.out); cases e_; rfl) | (simp; done) | (simp [*]; done)), H', ⟨by have := HJ2.out; have := HJ13.out; have := HK3.out; omega⟩, ⟨by (with_reducible repeat (first | apply Kd.V_alloc | apply Kd.V_drewN | apply Kd.V_drew)); exact HO_0.out⟩, ⟨by (with_reducible repeat (first | apply Kd.V_alloc | apply Kd.V_drewN | apply Kd.V_drew)); exact HO_1.out⟩, ⟨by (with_reducible repeat (first | apply Kd.R_alloc | apply Kd.R_drewN | apply Kd.R_drew)); exact HO_6.out⟩, ⟨by (with_reducible repeat (first | apply Kd.V_alloc | apply Kd.V_drewN | apply Kd.V_drew)); exact HO_36.out⟩, ⟨by repeat (first | (with_reducible first | exact HB.out | apply below_alloc | apply pw_below_drewN | apply below_drew1) | exact HB.out)⟩⟩
                                    · rw [if_neg c35] at H
                                      exact absurd H (by simp)
                                · rw [if_neg c26] at H
                                  exact absurd H (by simp)
                              · rw [if_neg c25] at H
                                exact absurd H (by simp)
                            · rw [if_neg c24] at H
                              have c24b0 : decide (x38_3 < (x0_13.length : Int)) = false := decide_eq_false c24
                              clear c24
                              by_cases c40 : 0 ≤ (x0_13.length : Int)
                              · rw [if_pos c40] at H
                                have c40b0 : decide (0 ≤ (x0_13.length : Int)) = true := decide_eq_true c40
                                have c40b1 : decide (0 ≤ x0_13.length) = true := decide_eq_true (by omega)
                                clear c40
                                by_cases c41 : (x0_13.length : Int) < (x6_3.length : Int)
                                · rw [if_pos c41] at H
                                  have c41b0 : decide ((x0_13.length : Int) < (x6_3.length : Int)) = true := decide_eq_true c41
                                  have c41b1 : decide (x0_13.length < x6_3.length) = true := decide_eq_true (Int.ofNat_lt.mp c41)
                                  clear c41
                                  obtain ⟨y225, hy225⟩ : ∃ y_ : List Int, y_ = (x6_3.set ((x0_13.length : Int) : Int).toNat x7_3) := ⟨_, rfl⟩
                                  replace H : ((nat_cut.f k3 y225).bind fun bt226 => (some (bt226.1, bt226.2))) = some (r1, r2) := by first | (rw [hy225]; with_reducible exact H) | (have H2_ := (Option.bind_some _ _).symm.trans H; rw [hy225]; with_reducible exact H2_) | (have H2_ := (Option.bind_some _ _).symm.trans H; with_reducible exact H2_) | with_reducible exact H | (rw [hy225]; exact H) | exact H
                                  have Ny225 := Aside0.mk hy225
                                  clear hy225
                                  replace H := Option.bind_eq_some_iff.mp H
                                  obtain ⟨⟨t226, t229⟩, A430, H⟩ := H
                                  replace H : (some (t226, t229)) = some (r1, r2) := H
                                  have A43 := Aside0.mk A430
                                  clear A430
                                  simp only [Option.some.injEq, Prod.mk.injEq] at H
                                  obtain ⟨rfl, rfl⟩ := H
                                  have p42 : 0 ≤ ((x0_13.length : Int) : Int) := of_decide_eq_true (by first | (with_reducible assumption) | assumption)
                                  have q42 : ((x0_13.length : Int) : Int) < ((x6_3.length : Int) : Int) := of_decide_eq_true (by first | (with_reducible assumption) | assumption)
                                  obtain ⟨go42, co42, eo42, gb42, gl42, cl42, HG42⟩ := Kd.R_form HO_6.out (by omega)
                                  (first | cases eo42 | (injection eo42 with ea_ en_ ec_; (first | subst ea_ | (injection ea_ with ea_; subst ea_)); subst ec_; clear en_))
                                  have GB42 := Aside0.mk gb42
                                  have GG42 := Aside0.mk HG42
                                  clear gb42 gl42 HG42
                                  obtain ⟨hx42_0, hf42_0⟩ := Kd.R_celln 0 HO_6.out ((x0_13.length : Int) : Int) p42 q42
                                  (try simp only [Int.toNat_natCast] at hx42_0 hf42_0)
                                  replace p42 := eq_true p42
                                  replace q42 := eq_true q42
                                  have HP44 := Kd.R_putg HO_6.out ((x0_13.length : Int) : Int) x7_3
                                  go_wp2_with (first | ((with_reducible refine gate_store (t := 28) (p := 66) rfl ?_); (try (rw [drewN_self wr]; generalize hq_ : World.drewN wr _ = wr; have n0_ := Aside0.mk (Kd.V_at hq_ HO_0.out); have n1_ := Aside0.mk (Kd.V_at hq_ HO_1.out); have n2_ := Aside0.mk (Kd.R_at hq_ HO_6.out); have n3_ := Aside0.mk (Kd.V_at hq_ HO_36.out); have n4_ := Aside0.mk (below_at hq_ HB.out); clear hq_ HO_0 HO_1 HO_6 HO_36 HB; have HO_0 := n0_; have HO_1 := n1_; have HO_6 := n2_; have HO_36 := n3_; have HB := n4_; clear n0_ n1_ n2_ n3_ n4_; (try (have HP44 := Kd.R_putg HO_6.out ((x0_13.length : Int) : Int) x7_3)))); refine store_event (t := 28) (p := 66) (v := ?vo_w45) (w1 := (wr.setCell ⟨go42, ((x0_13.length : Int) : Int).toNat, none⟩ (.int .u64 x7_3))) ?hg ?ho ?hn ?hr ?_; (case ho => rfl); (case hg => rfl); (case hn => rfl); (case hr => first | (go_simp; done) | (go_simp; rfl)); intro w45 hw; have hg : wr.grownBy w45 (some go42) := (by rw [hw]; exact HP44.2); have hp_ : Kd.R (Kd.int .u64) 28 w45 w.heap.size (fun k_ => (w.heap.size ≤ k_)) (.slice (some ⟨go42, 0, none⟩) x6_3.length co42) y225 := (by rw [hw, Ny225.out]; exact HP44.1); clear HP44; have n0_ := Aside0.mk (Kd.V_afterv (v := (.slice (some ⟨go42, 0, none⟩) x6_3.length co42)) (v1 := (.slice (some ⟨go42, 0, none⟩) x6_3.length co42)) (ok := (fun k_ => ((P0_ k_ ∨ P1_ k_) ∨ w.heap.size ≤ k_))) (by (with_reducible repeat (first | apply Kd.V_alloc | apply Kd.V_drewN | apply Kd.V_drew)); exact HO_0.out) hg (.inl rfl)); have n1_ := Aside0.mk (Kd.V_afterv (v := (.slice (some ⟨go42, 0, none⟩) x6_3.length co42)) (v1 := (.slice (some ⟨go42, 0, none⟩) x6_3.length co42)) (ok := (fun k_ => ((P0_ k_ ∨ P1_ k_) ∨ w.heap.size ≤ k_))) (by (with_reducible repeat (first | apply Kd.V_alloc | apply Kd.V_drewN | apply Kd.V_drew)); exact HO_1.out) hg (.inl rfl)); have n2_ := Aside0.mk (hp_); have n3_ := Aside0.mk (Kd.V_afterv (v := (.slice (some ⟨go42, 0, none⟩) x6_3.length co42)) (v1 := (.slice (some ⟨go42, 0, none⟩) x6_3.length co42)) (ok := (fun k_ => ((P0_ k_ ∨ P1_ k_) ∨ w.heap.size ≤ k_))) (by (with_reducible repeat (first | apply Kd.V_alloc | apply Kd.V_drewN | apply Kd.V_drew)); exact HO_36.out) hg (.inl rfl)); have n4_ := Aside0.mk ((by rw [hw]; exact below_set (HB.out) GB42.out : Below w.heap.size w w45)); clear HO_0; clear HO_1; clear HO_6; clear HO_36; clear HB; have HO_0 := n0_; have HO_1 := n1_; have HO_6 := n2_; have HO_36 := n3_; have HB := n4_; clear n0_ n1_ n2_ n3_ n4_; clear hg hw hp_) | (go_at_call 56; refine calls_of_args (args' := #[.slice (some ⟨go42, 0, none⟩) y225.length co42]) (by first | (rw [show y225.length = x6_3.length from (Kd.R_reads' HO_6.out).1.symm] <;> rfl) | rfl) ?_; (with_reducible refine (nat_cut.calls k3 (fun k_ => some k_ = (.slice (some ⟨go42, 0, none⟩) x6_3.length co42 : Value).ownBlock) _ _ y225 t226 t229 _ ?side1 A43.out).mono ?_); (case side1 => rw [show y225.length = x6_3.length from (Kd.R_reads' HO_6.out).1.symm]; exact Kd.R_V (Kd.R_tight rfl (HO_6.out))); rintro e w46 ⟨v227, rfl, ho0, hb⟩; have n0_ := Aside0.mk (Kd.V_below (by (with_reducible repeat (first | apply Kd.V_alloc | apply Kd.V_drewN | apply Kd.V_drew)); exact HO_0.out) hb); have n1_ := Aside0.mk (Kd.V_below (by (with_reducible repeat (first | apply Kd.V_alloc | apply Kd.V_drewN | apply Kd.V_drew)); exact HO_1.out) hb); have n2_ := Aside0.mk (Kd.R_below (by (with_reducible repeat (first | apply Kd.R_alloc | apply Kd.R_drewN | apply Kd.R_drew)); exact HO_6.out) hb); have n3_ := Aside0.mk (Kd.V_below (by (with_reducible repeat (first | apply Kd.V_alloc | apply Kd.V_drewN | apply Kd.V_drew)); exact HO_36.out) hb); have n4_ := Aside0.mk (Kd.V_lower (Kd.V_mono (ok' := fun k_ => ((P0_ k_ ∨ P1_ k_) ∨ w.heap.size ≤ k_)) ho0 (fun k_ hk_ => Or.elim hk_ (fun hs_ => (.inr (((HO_6.out).1 k_ hs_.symm)))) (fun hn_ => (.inr (Nat.le_trans (below_size (by repeat (first | (with_reducible first | exact HB.out | apply below_alloc | apply pw_below_drewN | apply below_drew1) | exact HB.out))) hn_))))) (below_size (by repeat (first | (with_reducible first | exact HB.out | apply below_alloc | apply pw_below_drewN | apply below_drew1) | exact HB.out)))); have n5_ := Aside0.mk (below_step (by repeat (first | (with_reducible first | exact HB.out | apply below_alloc | apply pw_below_drewN | apply below_drew1) | exact HB.out)) hb); clear HO_0; clear HO_1; clear HO_6; clear HO_36; clear HB; have HO_0 := n0_; have HO_1 := n1_; have HO_6 := n2_; have HO_36 := n3_; have HO228 := n4_; have HB := n5_; clear n0_ n1_ n2_ n3_ n4_ n5_; (try clear hb); (try clear hb2); (try clear hk); (try clear hi); (try clear ho0)))
                                  repeat (go_quiet (first | ((with_reducible refine gate_store (t := 28) (p := 66) rfl ?_); (try (rw [drewN_self wr]; generalize hq_ : World.drewN wr _ = wr; have n0_ := Aside0.mk (Kd.V_at hq_ HO_0.out); have n1_ := Aside0.mk (Kd.V_at hq_ HO_1.out); have n2_ := Aside0.mk (Kd.R_at hq_ HO_6.out); have n3_ := Aside0.mk (Kd.V_at hq_ HO_36.out); have n4_ := Aside0.mk (below_at hq_ HB.out); clear hq_ HO_0 HO_1 HO_6 HO_36 HB; have HO_0 := n0_; have HO_1 := n1_; have HO_6 := n2_; have HO_36 := n3_; have HB := n4_; clear n0_ n1_ n2_ n3_ n4_; (try (have HP44 := Kd.R_putg HO_6.out ((x0_13.length : Int) : Int) x7_3)))); refine store_event (t := 28) (p := 66) (v := ?vo_w45) (w1 := (wr.setCell ⟨go42, ((x0_13.length : Int) : Int).toNat, none⟩ (.int .u64 x7_3))) ?hg ?ho ?hn ?hr ?_; (case ho => rfl); (case hg => rfl); (case hn => rfl); (case hr => first | (go_simp; done) | (go_simp; rfl)); intro w45 hw; have hg : wr.grownBy w45 (some go42) := (by rw [hw]; exact HP44.2); have hp_ : Kd.R (Kd.int .u64) 28 w45 w.heap.size (fun k_ => (w.heap.size ≤ k_)) (.slice (some ⟨go42, 0, none⟩) x6_3.length co42) y225 := (by rw [hw, Ny225.out]; exact HP44.1); clear HP44; have n0_ := Aside0.mk (Kd.V_afterv (v := (.slice (some ⟨go42, 0, none⟩) x6_3.length co42)) (v1 := (.slice (some ⟨go42, 0, none⟩) x6_3.length co42)) (ok := (fun k_ => ((P0_ k_ ∨ P1_ k_) ∨ w.heap.size ≤ k_))) (by (with_reducible repeat (first | apply Kd.V_alloc | apply Kd.V_drewN | apply Kd.V_drew)); exact HO_0.out) hg (.inl rfl)); have n1_ := Aside0.mk (Kd.V_afterv (v := (.slice (some ⟨go42, 0, none⟩) x6_3.length co42)) (v1 := (.slice (some ⟨go42, 0, none⟩) x6_3.length co42)) (ok := (fun k_ => ((P0_ k_ ∨ P1_ k_) ∨ w.heap.size ≤ k_))) (by (with_reducible repeat (first | apply Kd.V_alloc | apply Kd.V_drewN | apply Kd.V_drew)); exact HO_1.out) hg (.inl rfl)); have n2_ := Aside0.mk (hp_); have n3_ := Aside0.mk (Kd.V_afterv (v := (.slice (some ⟨go42, 0, none⟩) x6_3.length co42)) (v1 := (.slice (some ⟨go42, 0, none⟩) x6_3.length co42)) (ok := (fun k_ => ((P0_ k_ ∨ P1_ k_) ∨ w.heap.size ≤ k_))) (by (with_reducible repeat (first | apply Kd.V_alloc | apply Kd.V_drewN | apply Kd.V_drew)); exact HO_36.out) hg (.inl rfl)); have n4_ := Aside0.mk ((by rw [hw]; exact below_set (HB.out) GB42.out : Below w.heap.size w w45)); clear HO_0; clear HO_1; clear HO_6; clear HO_36; clear HB; have HO_0 := n0_; have HO_1 := n1_; have HO_6 := n2_; have HO_36 := n3_; have HB := n4_; clear n0_ n1_ n2_ n3_ n4_; clear hg hw hp_) | (go_at_call 56; refine calls_of_args (args' := #[.slice (some ⟨go42, 0, none⟩) y225.length co42]) (by first | (rw [show y225.length = x6_3.length from (Kd.R_reads' HO_6.out).1.symm] <;> rfl) | rfl) ?_; (with_reducible refine (nat_cut.calls k3 (fun k_ => some k_ = (.slice (some ⟨go42, 0, none⟩) x6_3.length co42 : Value).ownBlock) _ _ y225 t226 t229 _ ?side1 A43.out).mono ?_); (case side1 => rw [show y225.length = x6_3.length from (Kd.R_reads' HO_6.out).1.symm]; exact Kd.R_V (Kd.R_tight rfl (HO_6.out))); rintro e w46 ⟨v227, rfl, ho0, hb⟩; have n0_ := Aside0.mk (Kd.V_below (by (with_reducible repeat (first | apply Kd.V_alloc | apply Kd.V_drewN | apply Kd.V_drew)); exact HO_0.out) hb); have n1_ := Aside0.mk (Kd.V_below (by (with_reducible repeat (first | apply Kd.V_alloc | apply Kd.V_drewN | apply Kd.V_drew)); exact HO_1.out) hb); have n2_ := Aside0.mk (Kd.R_below (by (with_reducible repeat (first | apply Kd.R_alloc | apply Kd.R_drewN | apply Kd.R_drew)); exact HO_6.out) hb); have n3_ := Aside0.mk (Kd.V_below (by (with_reducible repeat (first | apply Kd.V_alloc | apply Kd.V_drewN | apply Kd.V_drew)); exact HO_36.out) hb); have n4_ := Aside0.mk (Kd.V_lower (Kd.V_mono (ok' := fun k_ => ((P0_ k_ ∨ P1_ k_) ∨ w.heap.size ≤ k_)) ho0 (fun k_ hk_ => Or.elim hk_ (fun hs_ => (.inr (((HO_6.out).1 k_ hs_.symm)))) (fun hn_ => (.inr (Nat.le_trans (below_size (by repeat (first | (with_reducible first | exact HB.out | apply below_alloc | apply pw_below_drewN | apply below_drew1) | exact HB.out))) hn_))))) (below_size (by repeat (first | (with_reducible first | exact HB.out | apply below_alloc | apply pw_below_drewN | apply below_drew1) | exact HB.out)))); have n5_ := Aside0.mk (below_step (by repeat (first | (with_reducible first | exact HB.out | apply below_alloc | apply pw_below_drewN | apply below_drew1) | exact HB.out)) hb); clear HO_0; clear HO_1; clear HO_6; clear HO_36; clear HB; have HO_0 := n0_; have HO_1 := n1_; have HO_6 := n2_; have HO_36 := n3_; have HO228 := n4_; have HB := n5_; clear n0_ n1_ n2_ n3_ n4_ n5_; (try clear hb); (try clear hb2); (try clear hk); (try clear hi); (try clear ho0))); try go_wp2_with (first | ((with_reducible refine gate_store (t := 28) (p := 66) rfl ?_); (try (rw [drewN_self wr]; generalize hq_ : World.drewN wr _ = wr; have n0_ := Aside0.mk (Kd.V_at hq_ HO_0.out); have n1_ := Aside0.mk (Kd.V_at hq_ HO_1.out); have n2_ := Aside0.mk (Kd.R_at hq_ HO_6.out); have n3_ := Aside0.mk (Kd.V_at hq_ HO_36.out); have n4_ := Aside0.mk (below_at hq_ HB.out); clear hq_ HO_0 HO_1 HO_6 HO_36 HB; have HO_0 := n0_; have HO_1 := n1_; have HO_6 := n2_; have HO_36 := n3_; have HB := n4_; clear n0_ n1_ n2_ n3_ n4_; (try (have HP44 := Kd.R_putg HO_6.out ((x0_13.length : Int) : Int) x7_3)))); refine store_event (t := 28) (p := 66) (v := ?vo_w45) (w1 := (wr.setCell ⟨go42, ((x0_13.length : Int) : Int).toNat, none⟩ (.int .u64 x7_3))) ?hg ?ho ?hn ?hr ?_; (case ho => rfl); (case hg => rfl); (case hn => rfl); (case hr => first | (go_simp; done) | (go_simp; rfl)); intro w45 hw; have hg : wr.grownBy w45 (some go42) := (by rw [hw]; exact HP44.2); have hp_ : Kd.R (Kd.int .u64) 28 w45 w.heap.size (fun k_ => (w.heap.size ≤ k_)) (.slice (some ⟨go42, 0, none⟩) x6_3.length co42) y225 := (by rw [hw, Ny225.out]; exact HP44.1); clear HP44; have n0_ := Aside0.mk (Kd.V_afterv (v := (.slice (some ⟨go42, 0, none⟩) x6_3.length co42)) (v1 := (.slice (some ⟨go42, 0, none⟩) x6_3.length co42)) (ok := (fun k_ => ((P0_ k_ ∨ P1_ k_) ∨ w.heap.size ≤ k_))) (by (with_reducible repeat (first | apply Kd.V_alloc | apply Kd.V_drewN | apply Kd.V_drew)); exact HO_0.out) hg (.inl rfl)); have n1_ := Aside0.mk (Kd.V_afterv (v := (.slice (some ⟨go42, 0, none⟩) x6_3.length co42)) (v1 := (.slice (some ⟨go42, 0, none⟩) x6_3.length co42)) (ok := (fun k_ => ((P0_ k_ ∨ P1_ k_) ∨ w.heap.size ≤ k_))) (by (with_reducible repeat (first | apply Kd.V_alloc | apply Kd.V_drewN | apply Kd.V_drew)); exact HO_1.out) hg (.inl rfl)); have n2_ := Aside0.mk (hp_); have n3_ := Aside0.mk (Kd.V_afterv (v := (.slice (some ⟨go42, 0, none⟩) x6_3.length co42)) (v1 := (.slice (some ⟨go42, 0, none⟩) x6_3.length co42)) (ok := (fun k_ => ((P0_ k_ ∨ P1_ k_) ∨ w.heap.size ≤ k_))) (by (with_reducible repeat (first | apply Kd.V_alloc | apply Kd.V_drewN | apply Kd.V_drew)); exact HO_36.out) hg (.inl rfl)); have n4_ := Aside0.mk ((by rw [hw]; exact below_set (HB.out) GB42.out : Below w.heap.size w w45)); clear HO_0; clear HO_1; clear HO_6; clear HO_36; clear HB; have HO_0 := n0_; have HO_1 := n1_; have HO_6 := n2_; have HO_36 := n3_; have HB := n4_; clear n0_ n1_ n2_ n3_ n4_; clear hg hw hp_) | (go_at_call 56; refine calls_of_args (args' := #[.slice (some ⟨go42, 0, none⟩) y225.length co42]) (by first | (rw [show y225.length = x6_3.length from (Kd.R_reads' HO_6.out).1.symm] <;> rfl) | rfl) ?_; (with_reducible refine (nat_cut.calls k3 (fun k_ => some k_ = (.slice (some ⟨go42, 0, none⟩) x6_3.length co42 : Value).ownBlock) _ _ y225 t226 t229 _ ?side1 A43.out).mono ?_); (case side1 => rw [show y225.length = x6_3.length from (Kd.R_reads' HO_6.out).1.symm]; exact Kd.R_V (Kd.R_tight rfl (HO_6.out))); rintro e w46 ⟨v227, rfl, ho0, hb⟩; have n0_ := Aside0.mk (Kd.V_below (by (with_reducible repeat (first | apply Kd.V_alloc | apply Kd.V_drewN | apply Kd.V_drew)); exact HO_0.out) hb); have n1_ := Aside0.mk (Kd.V_below (by (with_reducible repeat (first | apply Kd.V_alloc | apply Kd.V_drewN | apply Kd.V_drew)); exact HO_1.out) hb); have n2_ := Aside0.mk (Kd.R_below (by (with_reducible repeat (first | apply Kd.R_alloc | apply Kd.R_drewN | apply Kd.R_drew)); exact HO_6.out) hb); have n3_ := Aside0.mk (Kd.V_below (by (with_reducible repeat (first | apply Kd.V_alloc | apply Kd.V_drewN | apply Kd.V_drew)); exact HO_36.out) hb); have n4_ := Aside0.mk (Kd.V_lower (Kd.V_mono (ok' := fun k_ => ((P0_ k_ ∨ P1_ k_) ∨ w.heap.size ≤ k_)) ho0 (fun k_ hk_ => Or.elim hk_ (fun hs_ => (.inr (((HO_6.out).1 k_ hs_.symm)))) (fun hn_ => (.inr (Nat.le_trans (below_size (by repeat (first | (with_reducible first | exact HB.out | apply below_alloc | apply pw_below_drewN | apply below_drew1) | exact HB.out))) hn_))))) (below_size (by repeat (first | (with_reducible first | exact HB.out | apply below_alloc | apply pw_below_drewN | apply below_drew1) | exact HB.out)))); have n5_ := Aside0.mk (below_step (by repeat (first | (with_reducible first | exact HB.out | apply below_alloc | apply pw_below_drewN | apply below_drew1) | exact HB.out)) hb); clear HO_0; clear HO_1; clear HO_6; clear HO_36; clear HB; have HO_0 := n0_; have HO_1 := n1_; have HO_6 := n2_; have HO_36 := n3_; have HO228 := n4_; have HB := n5_; clear n0_ n1_ n2_ n3_ n4_ n5_; (try clear hb); (try clear hb2); (try clear hk); (try clear hi); (try clear ho0))))
                                  go_ret2
                                  exact ⟨_, by first | rfl | (simp [errW_none, errW_some] <;> rfl) | (simp only [← hji18]; first | rfl | (simp [errW_none, errW_some] <;> rfl)) | (simp [*, errW_none, errW_some] <;> rfl), by (with_reducible repeat (first | apply Kd.V_alloc | apply Kd.V_drewN | apply Kd.V_drew)); exact HO228.out, by repeat (first | (with_reducible first | exact HB.out | apply below_alloc | apply pw_below_drewN | apply below_drew1) | exact HB.out)⟩
                                · rw [if_neg c41] at H
                                  exact absurd H (by simp)
                              · rw [if_neg c40] at H
                                exact absurd H (by simp)
                      · rw [if_neg c20] at H
                        exact absurd H (by simp)
                    · rw [if_neg c19] at H
                      exact absurd H (by simp)
              · rw [if_neg c13] at H
                exact absurd H (by simp)
            · rw [if_neg c12] at H
              exact absurd H (by simp)
          · rw [if_neg c10] at H
            exact absurd H (by simp)
        · rw [if_neg c9] at H
          exact absurd H (by simp)

/-! ### nat_FromUint: function 59 -/
def nat_FromUint.f (a0 : Int) : Option (List Int) := if a0 = 0 then (some ([] : List Int)) else (some (([a0] : List Int)))
set_option maxHeartbeats 8000000 in
set_option maxRecDepth 100000 in
theorem nat_FromUint.calls (a0 : Int) (r : List Int) (w : World) (h : nat_FromUint.f a0 = some r) :
    Calls Tryd.prog 59 #[.int .u64 a0] w fun e w' => ∃ v0_ : Value, e = .returned (v0_) ∧ Kd.R (Kd.int .u64) 28 w' w.heap.size (fun _ => True) v0_ r ∧ Below w.heap.size w w' := by
  have HB := Aside0.mk (Below.refl w.heap.size w)
  have H : (if a0 = 0 then (some ([] : List Int)) else (some (([a0] : List Int)))) = some r := h
  clear h
  by_cases c2 : a0 = 0
  · rw [if_pos c2] at H
    have c2b0 : (a0 == 0) = true := beq_iff_eq.mpr c2
    have c2b1 : (a0 != 0) = false := bne_eq_false_iff_eq.mpr c2
    clear c2
    obtain rfl := Option.some.inj H
    go_enter Tryd.func59, Tryd.ntmps59
    go_wp2
    go_ret
    exact ⟨.slice none 0 0, by first | rfl | (simp [errW_none, errW_some] <;> rfl) | (simp [*, errW_none, errW_some] <;> rfl), by first | exact Kd.R_nil _ _ _ _ _ | exact Kd.N_nil _ _ _ _ _ | exact Kd.V_nil _ _ _ _ _ | exact Kd.Q_nil _ _ _ _ _ | exact Kd.S_nil _ _ _ _ _, by repeat (first | (with_reducible first | exact HB.out | apply below_alloc | apply pw_below_drewN | apply below_drew1) | exact HB.out)⟩
  · rw [if_neg c2] at H
    have c2b0 : (a0 == 0) = false := beq_eq_false_iff_ne.mpr c2
    have c2b1 : (a0 != 0) = true := bne_iff_ne.mpr c2
    obtain ⟨y230, hy230⟩ : ∃ y_ : List Int, y_ = (([a0] : List Int)) := ⟨_, rfl⟩
    replace H : (some y230) = some r := by first | (rw [hy230]; with_reducible exact H) | (have H2_ := (Option.bind_some _ _).symm.trans H; rw [hy230]; with_reducible exact H2_) | (have H2_ := (Option.bind_some _ _).symm.trans H; with_reducible exact H2_) | with_reducible exact H | (rw [hy230]; exact H) | exact H
    have Ny230 := Aside0.mk hy230
    clear hy230
    obtain rfl := Option.some.inj H
    go_enter Tryd.func59, Tryd.ntmps59
    go_wp2_with (first | ((with_reducible refine gate_dst (N := 6) rfl ?_); refine Kd.R_lit (Kd.int .u64) _ 28 ?hg (N := 6) ?hd (xs := ([a0] : List Int)) (inner := [.int .u64 a0]) (ok := fun _ => True) (okp := fun _ => True) ?hr ?hp (fun _ hk => hk) trivial (Below.refl _ _) (Nat.le_refl _) (by simp) ?_; (case hd => rfl); (case hg => rfl); (case hr => first | (go_simp; done) | (go_simp; rfl)); (case hp => exact (Reps.one (show Kd.M (Kd.int .u64) _ _ _ a0 [.int .u64 a0] from rfl) (Reps.none _ _))); intro v231 w3 ho4 hb hg_ hnew_; clear hg_ hnew_; (first | rw [← Ny230.out] at ho4 | (simp only [Int.reduceToNat] at ho4; rw [← Ny230.out] at ho4)); have n0_ := Aside0.mk (Kd.R_lower ho4 (below_size (by repeat (first | (with_reducible first | exact HB.out | apply below_alloc | apply pw_below_drewN | apply below_drew1) | exact HB.out)))); have n1_ := Aside0.mk (below_step (by repeat (first | (with_reducible first | exact HB.out | apply below_alloc | apply pw_below_drewN | apply below_drew1) | exact HB.out)) hb); clear HB; have HO232 := n0_; have HB := n1_; clear n0_ n1_; clear hb ho4))
    go_ret
    exact ⟨_, by first | rfl | (simp [errW_none, errW_some] <;> rfl) | (simp [*, errW_none, errW_some] <;> rfl), by (with_reducible repeat (first | apply Kd.R_alloc | apply Kd.R_drewN | apply Kd.R_drew)); exact HO232.out, by repeat (first | (with_reducible first | exact HB.out | apply below_alloc | apply pw_below_drewN | apply below_drew1) | exact HB.out)⟩

/-! ### nat_Trim: function 53 (its contract by hand) -/
def nat_Trim.f (k : Nat) (l0 : List Int) : Option (List Int) := (nat_size.f k l0).bind fun t => if 0 ≤ t ∧ t ≤ (l0.length : Int) ∧ t.toNat ≤ 35184372088832 then some (l0.take t.toNat) else none
theorem nat_Trim.mono : ∀ a0 k, LeO (nat_Trim.f k a0) (nat_Trim.f (k + 1) a0) := by
  intro a0 k
  unfold nat_Trim.f
  exact LeO.bind (nat_size.mono _ _) (fun _ => LeO.refl _)
set_option maxHeartbeats 4000000 in
set_option maxRecDepth 100000 in
theorem nat_Trim.calls (k : Nat) (A0 : Option Addr) (c0 : Nat) (l0 : List Int) (r : List Int) (w : World) (hr0 : Kd.C (Kd.int .u64) w A0 l0.length l0) (hc0 : l0.length ≤ c0) (h : nat_Trim.f k l0 = some r) :
    Calls Tryd.prog 53 #[.slice A0 l0.length c0] w fun e w' => ∃ v0_ : Value, e = .returned (v0_) ∧ Kd.R (Kd.int .u64) 28 w' w.heap.size (fun _ => True) v0_ r ∧ Below w.heap.size w w' := by
  obtain ⟨t, A2, H⟩ := Option.bind_eq_some_iff.mp h
  clear h
  split at H
  · rename_i hh
    obtain ⟨h0, h1, h2⟩ := hh
    obtain ⟨y, hy⟩ : ∃ y, y = l0.take t.toNat := ⟨_, rfl⟩
    rw [← hy] at H
    obtain rfl := Option.some.inj H
    clear H
    have HA := Aside0.mk A2
    have HR0 := Aside0.mk hr0
    have HC0 := Aside0.mk hc0
    obtain ⟨i0, hi0, _, hsz, _⟩ := info_parts info28
    have hcut := cut_to (P := Tryd.prog) 22 28 .i64 Tryd.underlying22 hi0 A0 l0.length c0 t h0 h1 hc0
    have hyl : y.length = t.toNat := by rw [hy, List.length_take]; omega
    rw [← hyl] at hcut
    have hC := Kd.C_take (m := t.toNat) hr0 (by omega)
    rw [← hy] at hC
    have HY := Aside0.mk hC
    have HL := Aside0.mk hyl
    have hz : (Tryd.prog.info? 28).map (·.size) = some 1 := by rw [hi0]; exact congrArg some hsz
    have HZ := Aside0.mk hz
    clear hy hyl hC hr0 hc0 A2 hsz hz
    go_enter Tryd.func53, Tryd.ntmps53
    go_wp2_with (first | ((with_reducible refine gate_callee (f := 45) rfl ?_); refine goesL_ (some 6) rfl rfl Tryd.func45 (by kernel_rfl) rfl #[.slice A0 l0.length c0] rfl (by (try simp only [List.map_toArray, List.map_cons, List.map_nil]); first | done | rfl) ?_; (with_reducible refine (nat_size.calls k _ _ l0 t _ ?side1 ?side2 HA.out).mono ?_); (case side1 => exact HR0.out); (case side2 => exact HC0.out); rintro e w' ⟨rfl, ⟨nd, rfl⟩⟩; refine ⟨_, rfl, ?_⟩) | ((with_reducible refine gate_dst (N := 8) rfl ?_); refine Kd.R_make (Kd.int .u64) w.heap.size 28 rfl (N := 8) rfl 22 _ _ rfl t rfl rfl Tryd.underlying22 (.int .u64 0) 8 info28 rfl (by decide) (by omega) 0 (ok := fun _ => True) (okp := fun _ => True) rfl (fun _ hk => hk) trivial h0 (by omega) (w0 := w) (pw_below_drewN (Below.refl w.heap.size w) nd) (pw_below_drewN (Below.refl w.heap.size w) nd).size ?_; intro v1 w1 ho hb hg_ hn_; clear hg_ hn_; have HO := Aside0.mk ho; have HB := Aside0.mk hb; clear ho hb) | ((with_reducible refine gate_builtin (b := .copy) rfl ?_); refine Kd.R_copy (k := .u64) rfl (.tmp 9) (.tmp 12) 22 22 rfl Tryd.underlying22 HZ.out HO.out (Kd.C_below HY.out HB.out) (by rw [HL.out, List.length_replicate]) rfl rfl HB.out ?_; intro w2 ho2 hb2; have HO2 := Aside0.mk ho2; have HB2 := Aside0.mk hb2; clear ho2 hb2))
    go_ret
    exact ⟨_, rfl, HO2.out, HB2.out⟩
  · exact absurd H (by simp)

/-! ### quot_small: function 81 -/
def quot_small.f (k : Nat) (l0 : List Int) (a1 : Int) : Option (List Int × Bool) := (nat_Trim.f k l0).bind fun t233 => (some (t233, decide ((t233.length : Int) ≤ a1)))
theorem quot_small.mono : ∀ a0 a1 k, LeO (quot_small.f k a0 a1) (quot_small.f (k + 1) a0 a1) := by
  intro a0 a1 k
  unfold quot_small.f
  repeat' first
      | (with_reducible exact nat_Trim.mono _ _)
      | (with_reducible exact LeO.refl _)
      | (with_reducible exact LeO.none _)
      | (with_reducible refine LeO.ite ?_ ?_)
      | (with_reducible refine LeO.bind ?_ (fun _ => ?_))
      | exact nat_Trim.mono _ _
      | exact LeO.none _
      | refine LeO.ite ?_ ?_
      | refine LeO.bind ?_ (fun _ => ?_)
set_option maxHeartbeats 8000000 in
set_option maxRecDepth 100000 in
theorem quot_small.calls (k : Nat) (A0 : Option Addr) (c0 : Nat) (l0 : List Int) (a1 : Int) (r1 : List Int) (r2 : Bool) (w : World) (hr0 : Kd.C (Kd.int .u64) w A0 l0.length l0) (hc0 : l0.length ≤ c0) (h : quot_small.f k l0 a1 = some (r1, r2)) :
    Calls Tryd.prog 81 #[.slice A0 l0.length c0, .int .i64 a1] w fun e w' => ∃ v0_ : Value, e = .returned (.tuple #[v0_, .bool r2]) ∧ Kd.R (Kd.int .u64) 28 w' w.heap.size (fun _ => True) v0_ r1 ∧ Below w.heap.size w w' := by
  have HR0 := Aside0.mk hr0
  have HC0 := Aside0.mk hc0
  clear hr0 hc0
  have HB := Aside0.mk (Below.refl w.heap.size w)
  have H : ((nat_Trim.f k l0).bind fun t233 => (some (t233, decide ((t233.length : Int) ≤ a1)))) = some (r1, r2) := h
  clear h
  replace H := Option.bind_eq_some_iff.mp H
  obtain ⟨t233, A30, H⟩ := H
  replace H : (some (t233, decide ((t233.length : Int) ≤ a1))) = some (r1, r2) := H
  have A3 := Aside0.mk A30
  clear A30
  simp only [Option.some.injEq, Prod.mk.injEq] at H
  obtain ⟨rfl, rfl⟩ := H
  go_enter Tryd.func81, Tryd.ntmps81
  go_wp2_with (first | ((with_reducible refine gate_callee (f := 53) rfl ?_); refine goesL_ (some 8) rfl rfl Tryd.func53 (by kernel_rfl) rfl #[.slice A0 l0.length c0] rfl (by (try simp only [List.map_toArray, List.map_cons, List.map_nil]); first | done | rfl | (simp only [List.length_drop, List.length_take]; rfl) | (simp only [gt_iff_lt, Int.natCast_pos]; done) | (simp only [gt_iff_lt, Int.natCast_pos]; rfl)) ?_; (with_reducible refine (nat_Trim.calls k _ _ l0 t233 _ ?side1 ?side2 A3.out).mono ?_); (case side1 => repeat (first | exact HR0.out | (with_reducible refine Kd.C_alloc ?_ _) | (with_reducible refine Kd.C_drewN ?_ _) | (with_reducible refine Kd.C_drew ?_))); (case side2 => exact HC0.out); rintro e w4 ⟨v234, rfl, ho0, hb⟩; refine ⟨_, rfl, ?_⟩; have n0_ := Aside0.mk (Kd.R_lower ho0 (below_size (by repeat (first | (with_reducible first | exact HB.out | apply below_alloc | apply pw_below_drewN | apply below_drew1) | exact HB.out)))); have n1_ := Aside0.mk (below_step (by repeat (first | (with_reducible first | exact HB.out | apply below_alloc | apply pw_below_drewN | apply below_drew1) | exact HB.out)) hb); clear HB; have HO235 := n0_; have HB := n1_; clear n0_ n1_; (try clear hb); (try clear hb2); (try clear hk); (try clear hi); (try clear ho0); obtain ⟨Ao5, co5, eo5⟩ := Kd.R_slice HO235.out; subst eo5))
  go_ret2
  exact ⟨_, by first | rfl | (simp [errW_none, errW_some] <;> rfl) | (simp [*, errW_none, errW_some] <;> rfl), by (with_reducible repeat (first | apply Kd.R_alloc | apply Kd.R_drewN | apply Kd.R_drew)); exact HO235.out, by repeat (first | (with_reducible first | exact HB.out | apply below_alloc | apply pw_below_drewN | apply below_drew1) | exact HB.out)⟩

/-! ### bits_LeadingZeros64: function 99 -/
def bits_LeadingZeros64.f (a0 : Int) : Option (Int) := (bits_Len64.f a0).bind fun t236 => (some (wrap64 (64 - t236)))
set_option maxHeartbeats 8000000 in
set_option maxRecDepth 100000 in
theorem bits_LeadingZeros64.calls (a0 : Int) (r : Int) (w : World) (h : bits_LeadingZeros64.f a0 = some r) :
    Calls Tryd.prog 99 #[.int .u64 a0] w fun e w' => e = .returned (.int .i64 r) ∧ Drawn0 w w' := by
  have H : ((bits_Len64.f a0).bind fun t236 => (some (wrap64 (64 - t236)))) = some r := h
  clear h
  replace H := Option.bind_eq_some_iff.mp H
  obtain ⟨t236, A20, H⟩ := H
  replace H : (some (wrap64 (64 - t236))) = some r := H
  have A2 := Aside0.mk A20
  clear A20
  obtain rfl := Option.some.inj H
  go_enter Tryd.func99, Tryd.ntmps99
  go_wp2_with (first | ((with_reducible refine gate_callee (f := 46) rfl ?_); refine goesL_ (some 4) rfl rfl Tryd.func46 (by kernel_rfl) rfl #[.int .u64 a0] rfl (by (try simp only [List.map_toArray, List.map_cons, List.map_nil]); first | done | rfl | (simp only [List.length_drop, List.length_take]; rfl) | (simp only [gt_iff_lt, Int.natCast_pos]; done) | (simp only [gt_iff_lt, Int.natCast_pos]; rfl)) ?_; (with_reducible refine (bits_Len64.calls a0 t236 _ A2.out).mono ?_); rintro e w' ⟨rfl, ⟨nd, rfl⟩⟩; refine ⟨_, rfl, ?_⟩))
  go_ret
  exact ⟨by first | rfl | (simp; done) | (simp [*]; done), by repeat (first | exact Drawn0.refl _ | apply Drawn0.step)⟩

end Go.Proofs.YtiigfmmflicdpaaDoor.PN
