-- printed by a program
import Derived.Test.YtiigfmmflicdpaaDoorPNx0
import Derived.Test.YtiigfmmflicdpaaDoorPNx1
import Derived.Test.YtiigfmmflicdpaaDoorPNx3
import Derived.Test.YtiigfmmflicdpaaDoorPNx4
import Derived.Test.YtiigfmmflicdpaaDoorPNx7
namespace Go.Proofs.YtiigfmmflicdpaaDoor.PN
open Go.Proofs.YtiigfmmflicdpaaDoorX
open Go.RowKit Go.Proofs.YtiigfmmflicdpaaDoorW.PrintWords Go.Proofs.YtiigfmmflicdpaaDoorW.PrintLast Go.Proofs.YtiigfmmflicdpaaDoorW.PrintMore
attribute [local go_sem] max2_int min2_int max_two min_two max_three min_three max_four min_four   -- for this text's walks alone
set_option linter.unusedVariables false
set_option linter.unusedSimpArgs false

/-! ### ieee_RoundRatio: function 16 -/
mutual
noncomputable def ieee_RoundRatio.j0 : Nat → Bool → List Int → List Int → Int → Bool → Option (Int × Int)
  | 0, _, _, _, _, _ => none
  | k + 1, x0, x1, x2, x3, x28 => if x28 = true then (some (0, 2)) else (if (x2.length : Int) = 0 then (some (0, 4)) else (if (x1.length : Int) = 0 then ((ieee_Round.f k x0 ([] : List Int) 0 false).bind fun bt329 => (some (bt329.1, bt329.2))) else ((ieee_near.f x3).bind fun t331 => ((nat_BitLen.f k x2).bind fun t332 => ((nat_BitLen.f k x1).bind fun t333 => (if (wrap64 (t332 - t333)) > 0 then ((nat_Shl.f k x1 (wrap64 (t332 - t333))).bind fun bt334 => (ieee_RoundRatio.j1 k x0 bt334.1 x2 (wrap64 (t331 - (wrap64 (t332 - t333)))))) else (ieee_RoundRatio.j1 k x0 x1 x2 t331)))))))
noncomputable def ieee_RoundRatio.j1 : Nat → Bool → List Int → List Int → Int → Option (Int × Int)
  | 0, _, _, _, _ => none
  | k + 1, x0, x1, x2, x3 => (quot_DivMod.f k x1 x2).bind fun bt338 => (if bt338.2.2 = 0 then (ieee_RoundRatio.l0 k x0 x2 x3 bt338.1 bt338.2.1) else (some (0, bt338.2.2)))
noncomputable def ieee_RoundRatio.l0 : Nat → Bool → List Int → Int → List Int → List Int → Option (Int × Int)
  | 0, _, _, _, _, _ => none
  | k + 1, x0, x2, x3, x13, x14 => (nat_BitLen.f k x13).bind fun t345 => (if t345 < 66 then ((nat_Sub.f k x2 x14).bind fun bt348 => ((nat_Cmp.f k x14 bt348.1).bind fun t352 => (if t352 ≥ 0 then ((nat_Sub.f k x14 bt348.1).bind fun bt353 => ((nat_MulAdd.f k x13 2 1).bind fun bt357 => (ieee_RoundRatio.l0 k x0 x2 (wrap64 (x3 - 1)) bt357.1 bt353.1))) else ((nat_Add.f k x14 x14).bind fun bt361 => ((nat_MulAdd.f k x13 2 0).bind fun bt365 => (ieee_RoundRatio.l0 k x0 x2 (wrap64 (x3 - 1)) bt365.1 bt361.1)))))) else ((ieee_Round.f k x0 x13 x3 (decide ((x14.length : Int) > 0))).bind fun bt346 => (some (bt346.1, bt346.2))))
end
noncomputable def ieee_RoundRatio.f (k : Nat) (a0 : Bool) (l1 : List Int) (l2 : List Int) (a3 : Int) : Option (Int × Int) := (nat_Shl.f k l1 0).bind fun bt321 => ((nat_Shl.f k l2 0).bind fun bt325 => (if bt321.2 = 0 then (ieee_RoundRatio.j0 k a0 bt321.1 bt325.1 a3 (bt325.2 != 0)) else (ieee_RoundRatio.j0 k a0 bt321.1 bt325.1 a3 true)))
theorem ieee_RoundRatio.mono_l : ∀ k, (∀ y0 y1 y2 y3 y4, LeO (ieee_RoundRatio.j0 k y0 y1 y2 y3 y4) (ieee_RoundRatio.j0 (k + 1) y0 y1 y2 y3 y4)) ∧ (∀ y0 y1 y2 y3, LeO (ieee_RoundRatio.j1 k y0 y1 y2 y3) (ieee_RoundRatio.j1 (k + 1) y0 y1 y2 y3)) ∧ (∀ y0 y1 y2 y3 y4, LeO (ieee_RoundRatio.l0 k y0 y1 y2 y3 y4) (ieee_RoundRatio.l0 (k + 1) y0 y1 y2 y3 y4))
  | 0 => ⟨fun _ _ _ _ _ r h => by simp [ieee_RoundRatio.j0] at h, fun _ _ _ _ r h => by simp [ieee_RoundRatio.j1] at h, fun _ _ _ _ _ r h => by simp [ieee_RoundRatio.l0] at h⟩
  | k + 1 => by
    obtain ⟨ih0, ih1, ih2⟩ := ieee_RoundRatio.mono_l k
    refine ⟨?_, ?_, ?_⟩
    · intro y0 y1 y2 y3 y4
      unfold ieee_RoundRatio.j0
      repeat' first
      | (with_reducible exact ih0 _ _ _ _ _)
      | (with_reducible exact ih1 _ _ _ _)
      | (with_reducible exact ih2 _ _ _ _ _)
      | (with_reducible exact ieee_Round.mono _ _ _ _ _)
      | (with_reducible exact nat_Add.mono _ _ _)
      | (with_reducible exact nat_BitLen.mono _ _)
      | (with_reducible exact nat_Cmp.mono _ _ _)
      | (with_reducible exact nat_MulAdd.mono _ _ _ _)
      | (with_reducible exact nat_Shl.mono _ _ _)
      | (with_reducible exact nat_Sub.mono _ _ _)
      | (with_reducible exact quot_DivMod.mono _ _ _)
      | (with_reducible exact LeO.refl _)
      | (with_reducible exact LeO.none _)
      | (with_reducible refine LeO.ite ?_ ?_)
      | (with_reducible refine LeO.bind ?_ (fun _ => ?_))
      | exact ih0 _ _ _ _ _
      | exact ih1 _ _ _ _
      | exact ih2 _ _ _ _ _
      | exact ieee_Round.mono _ _ _ _ _
      | exact nat_Add.mono _ _ _
      | exact nat_BitLen.mono _ _
      | exact nat_Cmp.mono _ _ _
      | exact nat_MulAdd.mono _ _ _ _
      | exact nat_Shl.mono _ _ _
      | exact nat_Sub.mono _ _ _
      | exact quot_DivMod.mono _ _ _
      | exact LeO.none _
      | refine LeO.ite ?_ ?_
      | refine LeO.bind ?_ (fun _ => ?_)
    · intro y0 y1 y2 y3
      unfold ieee_RoundRatio.j1
      repeat' first
      | (with_reducible exact ih0 _ _ _ _ _)
      | (with_reducible exact ih1 _ _ _ _)
      | (with_reducible exact ih2 _ _ _ _ _)
      | (with_reducible exact ieee_Round.mono _ _ _ _ _)
      | (with_reducible exact nat_Add.mono _ _ _)
      | (with_reducible exact nat_BitLen.mono _ _)
      | (with_reducible exact nat_Cmp.mono _ _ _)
      | (with_reducible exact nat_MulAdd.mono _ _ _ _)
      | (with_reducible exact nat_Shl.mono _ _ _)
      | (with_reducible exact nat_Sub.mono _ _ _)
      | (with_reducible exact quot_DivMod.mono _ _ _)
      | (with_reducible exact LeO.refl _)
      | (with_reducible exact LeO.none _)
      | (with_reducible refine LeO.ite ?_ ?_)
      | (with_reducible refine LeO.bind ?_ (fun _ => ?_))
      | exact ih0 _ _ _ _ _
      | exact ih1 _ _ _ _
      | exact ih2 _ _ _ _ _
      | exact ieee_Round.mono _ _ _ _ _
      | exact nat_Add.mono _ _ _
      | exact nat_BitLen.mono _ _
      | exact nat_Cmp.mono _ _ _
      | exact nat_MulAdd.mono _ _ _ _
      | exact nat_Shl.mono _ _ _
      | exact nat_Sub.mono _ _ _
      | exact quot_DivMod.mono _ _ _
      | exact LeO.none _
      | refine LeO.ite ?_ ?_
      | refine LeO.bind ?_ (fun _ => ?_)
    · intro y0 y1 y2 y3 y4
      unfold ieee_RoundRatio.l0
      repeat' first
      | (with_reducible exact ih0 _ _ _ _ _)
      | (with_reducible exact ih1 _ _ _ _)
      | (with_reducible exact ih2 _ _ _ _ _)
      | (with_reducible exact ieee_Round.mono _ _ _ _ _)
      | (with_reducible exact nat_Add.mono _ _ _)
      | (with_reducible exact nat_BitLen.mono _ _)
      | (with_reducible exact nat_Cmp.mono _ _ _)
      | (with_reducible exact nat_MulAdd.mono _ _ _ _)
      | (with_reducible exact nat_Shl.mono _ _ _)
      | (with_reducible exact nat_Sub.mono _ _ _)
      | (with_reducible exact quot_DivMod.mono _ _ _)
      | (with_reducible exact LeO.refl _)
      | (with_reducible exact LeO.none _)
      | (with_reducible refine LeO.ite ?_ ?_)
      | (with_reducible refine LeO.bind ?_ (fun _ => ?_))
      | exact ih0 _ _ _ _ _
      | exact ih1 _ _ _ _
      | exact ih2 _ _ _ _ _
      | exact ieee_Round.mono _ _ _ _ _
      | exact nat_Add.mono _ _ _
      | exact nat_BitLen.mono _ _
      | exact nat_Cmp.mono _ _ _
      | exact nat_MulAdd.mono _ _ _ _
      | exact nat_Shl.mono _ _ _
      | exact nat_Sub.mono _ _ _
      | exact quot_DivMod.mono _ _ _
      | exact LeO.none _
      | refine LeO.ite ?_ ?_
      | refine LeO.bind ?_ (fun _ => ?_)
theorem ieee_RoundRatio.mono : ∀ a0 a1 a2 a3 k, LeO (ieee_RoundRatio.f k a0 a1 a2 a3) (ieee_RoundRatio.f (k + 1) a0 a1 a2 a3) := by
  intro a0 a1 a2 a3 k
  obtain ⟨ih0, ih1, ih2⟩ := ieee_RoundRatio.mono_l k
  unfold ieee_RoundRatio.f
  repeat' first
      | (with_reducible exact ih0 _ _ _ _ _)
      | (with_reducible exact ih1 _ _ _ _)
      | (with_reducible exact ih2 _ _ _ _ _)
      | (with_reducible exact ieee_Round.mono _ _ _ _ _)
      | (with_reducible exact nat_Add.mono _ _ _)
      | (with_reducible exact nat_BitLen.mono _ _)
      | (with_reducible exact nat_Cmp.mono _ _ _)
      | (with_reducible exact nat_MulAdd.mono _ _ _ _)
      | (with_reducible exact nat_Shl.mono _ _ _)
      | (with_reducible exact nat_Sub.mono _ _ _)
      | (with_reducible exact quot_DivMod.mono _ _ _)
      | (with_reducible exact LeO.refl _)
      | (with_reducible exact LeO.none _)
      | (with_reducible refine LeO.ite ?_ ?_)
      | (with_reducible refine LeO.bind ?_ (fun _ => ?_))
      | exact ih0 _ _ _ _ _
      | exact ih1 _ _ _ _
      | exact ih2 _ _ _ _ _
      | exact ieee_Round.mono _ _ _ _ _
      | exact nat_Add.mono _ _ _
      | exact nat_BitLen.mono _ _
      | exact nat_Cmp.mono _ _ _
      | exact nat_MulAdd.mono _ _ _ _
      | exact nat_Shl.mono _ _ _
      | exact nat_Sub.mono _ _ _
      | exact quot_DivMod.mono _ _ _
      | exact LeO.none _
      | refine LeO.ite ?_ ?_
      | refine LeO.bind ?_ (fun _ => ?_)
set_option maxHeartbeats 8000000 in
set_option maxRecDepth 100000 in
theorem ieee_RoundRatio.calls (k : Nat) (a0 : Bool) (A1 : Option Addr) (c1 : Nat) (l1 : List Int) (A2 : Option Addr) (c2 : Nat) (l2 : List Int) (a3 : Int) (r1 : Int) (r2 : Int) (w : World) (hT : Kd.C (Kd.int .u8) w (some ⟨0, 0, none⟩) 64 tabL) (hr1 : Kd.C (Kd.int .u64) w A1 l1.length l1) (hc1 : l1.length ≤ c1) (hr2 : Kd.C (Kd.int .u64) w A2 l2.length l2) (hc2 : l2.length ≤ c2) (h : ieee_RoundRatio.f k a0 l1 l2 a3 = some (r1, r2)) :
    Calls Tryd.prog 16 #[.bool a0, .slice A1 l1.length c1, .slice A2 l2.length c2, .int .i64 a3] w fun e w' => e = .returned (.tuple #[.int .u64 r1, .int .i64 r2]) ∧ Below w.heap.size w w' := by
  have HT := Aside0.mk hT
  clear hT
  have HR1 := Aside0.mk hr1
  have HC1 := Aside0.mk hc1
  clear hr1 hc1
  have HR2 := Aside0.mk hr2
  have HC2 := Aside0.mk hc2
  clear hr2 hc2
  have HB := Aside0.mk (Below.refl w.heap.size w)
  have H : ((nat_Shl.f k l1 0).bind fun bt321 => ((nat_Shl.f k l2 0).bind fun bt325 => (if bt321.2 = 0 then (ieee_RoundRatio.j0 k a0 bt321.1 bt325.1 a3 (bt325.2 != 0)) else (ieee_RoundRatio.j0 k a0 bt321.1 bt325.1 a3 true)))) = some (r1, r2) := h
  clear h
  replace H := Option.bind_eq_some_iff.mp H
  obtain ⟨⟨t321, t324⟩, A50, H⟩ := H
  replace H : ((nat_Shl.f k l2 0).bind fun bt325 => (if t324 = 0 then (ieee_RoundRatio.j0 k a0 t321 bt325.1 a3 (bt325.2 != 0)) else (ieee_RoundRatio.j0 k a0 t321 bt325.1 a3 true))) = some (r1, r2) := H
  have A5 := Aside0.mk A50
  clear A50
  replace H := Option.bind_eq_some_iff.mp H
  obtain ⟨⟨t325, t328⟩, A60, H⟩ := H
  replace H : (if t324 = 0 then (ieee_RoundRatio.j0 k a0 t321 t325 a3 (t328 != 0)) else (ieee_RoundRatio.j0 k a0 t321 t325 a3 true)) = some (r1, r2) := H
  have A6 := Aside0.mk A60
  clear A60
  have HC7 := Aside0.mk H
  clear H
  go_enter Tryd.func16, Tryd.ntmps16
  go_upto_region 3 with (first | ((with_reducible refine gate_callee (f := 29) rfl ?_); refine goesL_ (some 20) rfl rfl Tryd.func29 (by kernel_rfl) rfl #[.slice A1 l1.length c1, .int .i64 0] rfl (by (try simp only [List.map_toArray, List.map_cons, List.map_nil]); first | done | rfl | (simp only [List.length_drop, List.length_take]; rfl) | (simp only [gt_iff_lt, Int.natCast_pos]; done) | (simp only [gt_iff_lt, Int.natCast_pos]; rfl)) ?_; (with_reducible refine (nat_Shl.calls k _ _ l1 0 t321 t324 _ ?side1 ?side2 A5.out).mono ?_); (case side1 => repeat (first | exact HR1.out | (with_reducible refine Kd.C_alloc ?_ _) | (with_reducible refine Kd.C_drewN ?_ _) | (with_reducible refine Kd.C_drew ?_))); (case side2 => exact HC1.out); rintro e w8 ⟨v322, rfl, ho0, hb⟩; refine ⟨_, rfl, ?_⟩; have n0_ := Aside0.mk (Kd.V_lower (Kd.V_mono (ok' := fun k_ => True) ho0 (fun k_ hk_ => trivial)) (below_size (by repeat (first | (with_reducible first | exact HB.out | apply below_alloc | apply pw_below_drewN | apply below_drew1) | exact HB.out)))); have n1_ := Aside0.mk (below_step (by repeat (first | (with_reducible first | exact HB.out | apply below_alloc | apply pw_below_drewN | apply below_drew1) | exact HB.out)) hb); clear HB; have HO323 := n0_; have HB := n1_; clear n0_ n1_; (try clear hb); (try clear hb2); (try clear hk); (try clear hi); (try clear ho0)) | ((with_reducible refine gate_callee (f := 29) rfl ?_); refine goesL_ (some 25) rfl rfl Tryd.func29 (by kernel_rfl) rfl #[.slice A2 l2.length c2, .int .i64 0] rfl (by (try simp only [List.map_toArray, List.map_cons, List.map_nil]); first | done | rfl | (simp only [List.length_drop, List.length_take]; rfl) | (simp only [gt_iff_lt, Int.natCast_pos]; done) | (simp only [gt_iff_lt, Int.natCast_pos]; rfl)) ?_; (with_reducible refine (nat_Shl.calls k _ _ l2 0 t325 t328 _ ?side1 ?side2 A6.out).mono ?_); (case side1 => repeat (first | exact (Kd.C_below HR2.out HB.out) | (with_reducible refine Kd.C_alloc ?_ _) | (with_reducible refine Kd.C_drewN ?_ _) | (with_reducible refine Kd.C_drew ?_))); (case side2 => exact HC2.out); rintro e w9 ⟨v326, rfl, ho0, hb⟩; refine ⟨_, rfl, ?_⟩; have n0_ := Aside0.mk (Kd.V_below (by (with_reducible repeat (first | apply Kd.V_alloc | apply Kd.V_drewN | apply Kd.V_drew)); exact HO323.out) hb); have n1_ := Aside0.mk (Kd.V_lower (Kd.V_mono (ok' := fun k_ => True) ho0 (fun k_ hk_ => trivial)) (below_size (by repeat (first | (with_reducible first | exact HB.out | apply below_alloc | apply pw_below_drewN | apply below_drew1) | exact HB.out)))); have n2_ := Aside0.mk (below_step (by repeat (first | (with_reducible first | exact HB.out | apply below_alloc | apply pw_below_drewN | apply below_drew1) | exact HB.out)) hb); clear HO323; clear HB; have HO323 := n0_; have HO327 := n1_; have HB := n2_; clear n0_ n1_ n2_; (try clear hb); (try clear hb2); (try clear hk); (try clear hi); (try clear ho0)))
  (try simp only [Act.put, List.setIfInBounds_toArray, List.set_cons_zero, List.set_cons_succ])
  go_cut [28] (fun v28 wc => ∃ (kq : Nat) (x28_6 : Bool), v28 = .bool x28_6 ∧ Aside0 (ieee_RoundRatio.j0 kq a0 t321 t325 a3 x28_6 = some (r1, r2)) ∧ Aside0 (kq ≤ k) ∧ Aside0 (Kd.V (Kd.int .u64) 28 wc w.heap.size (fun _ => True) v322 t321) ∧ Aside0 (Kd.V (Kd.int .u64) 28 wc w.heap.size (fun _ => True) v326 t325) ∧ Aside0 (Below w.heap.size w wc))
  case first =>
    have H := HC7.out
    clear HC7
    by_cases c10 : t324 = 0
    · rw [if_pos c10] at H
      have c10b0 : (t324 == 0) = true := beq_iff_eq.mpr c10
      have c10b1 : (t324 != 0) = false := bne_eq_false_iff_eq.mpr c10
      clear c10
      (first | rw [c10b0] | (simp only [i64_w, i32_w]; rw [c10b0]) | rw [c10b1] | skip)
      have H' := Aside0.mk H
      clear H
      go_wp2
      go_meet
      case rel => exact ⟨_, ((t328 != 0)), (by first | rfl | (simp; done) | (simp [*]; done)), H', ⟨by first | omega | exact Nat.le_refl _⟩, ⟨by (with_reducible repeat (first | apply Kd.V_alloc | apply Kd.V_drewN | apply Kd.V_drew)); exact HO323.out⟩, ⟨by (with_reducible repeat (first | apply Kd.V_alloc | apply Kd.V_drewN | apply Kd.V_drew)); exact HO327.out⟩, ⟨by repeat (first | (with_reducible first | exact HB.out | apply below_alloc | apply pw_below_drewN | apply below_drew1) | exact HB.out)⟩⟩
    · rw [if_neg c10] at H
      have c10b0 : (t324 == 0) = false := beq_eq_false_iff_ne.mpr c10
      have c10b1 : (t324 != 0) = true := bne_iff_ne.mpr c10
      (first | rw [c10b0] | (simp only [i64_w, i32_w]; rw [c10b0]) | rw [c10b1] | skip)
      have H' := Aside0.mk H
      clear H
      go_wp2
      go_meet
      case rel => exact ⟨_, (true), (by first | rfl | (simp; done) | (simp [*]; done)), H', ⟨by first | omega | exact Nat.le_refl _⟩, ⟨by (with_reducible repeat (first | apply Kd.V_alloc | apply Kd.V_drewN | apply Kd.V_drew)); exact HO323.out⟩, ⟨by (with_reducible repeat (first | apply Kd.V_alloc | apply Kd.V_drewN | apply Kd.V_drew)); exact HO327.out⟩, ⟨by repeat (first | (with_reducible first | exact HB.out | apply below_alloc | apply pw_below_drewN | apply below_drew1) | exact HB.out)⟩⟩
  case rest =>
    clear HC7
    try clear c1
    try clear c2
    try clear p2
    try clear c10
    try clear c10b0
    try clear c10b1
    obtain ⟨kq, x28_6, rfl, HA, HJ6, HO_1, HO_2, HB⟩ := hcut
    cases kq with
    | zero => exact absurd HA.out (by simp [ieee_RoundRatio.j0])
    | succ kj6 =>
      have H := HA.out
      clear HA
      simp only [ieee_RoundRatio.j0] at H
      by_cases c11 : x28_6 = true
      · subst c11
        have H1 : (some (0, 2)) = some (r1, r2) := by rw [if_pos rfl] at H; exact H
        clear H
        have H := H1
        clear H1
        simp only [Option.some.injEq, Prod.mk.injEq] at H
        obtain ⟨rfl, rfl⟩ := H
        go_wp2
        go_ret2
        exact ⟨by first | rfl | (simp [errW_none, errW_some] <;> rfl) | (simp [*, errW_none, errW_some] <;> rfl), by repeat (first | (with_reducible first | exact HB.out | apply below_alloc | apply pw_below_drewN | apply below_drew1) | exact HB.out)⟩
      · replace c11 := Bool.eq_false_iff.mpr c11
        subst c11
        have H1 : (if (t325.length : Int) = 0 then (some (0, 4)) else (if (t321.length : Int) = 0 then ((ieee_Round.f kj6 a0 ([] : List Int) 0 false).bind fun bt329 => (some (bt329.1, bt329.2))) else ((ieee_near.f a3).bind fun t331 => ((nat_BitLen.f kj6 t325).bind fun t332 => ((nat_BitLen.f kj6 t321).bind fun t333 => (if (wrap64 (t332 - t333)) > 0 then ((nat_Shl.f kj6 t321 (wrap64 (t332 - t333))).bind fun bt334 => (ieee_RoundRatio.j1 kj6 a0 bt334.1 t325 (wrap64 (t331 - (wrap64 (t332 - t333)))))) else (ieee_RoundRatio.j1 kj6 a0 t321 t325 t331))))))) = some (r1, r2) := by rw [if_neg (show ¬ (false = true) by decide)] at H; exact H
        clear H
        have H := H1
        clear H1
        by_cases c12 : (t325.length : Int) = 0
        · rw [if_pos c12] at H
          have c12b0 : ((t325.length : Int) == 0) = true := beq_iff_eq.mpr c12
          have c12b1 : ((t325.length : Int) != 0) = false := bne_eq_false_iff_eq.mpr c12
          clear c12
          simp only [Option.some.injEq, Prod.mk.injEq] at H
          obtain ⟨rfl, rfl⟩ := H
          obtain ⟨Ao13, co13, eo13⟩ := Kd.V_slice HO_2.out
          subst eo13
          go_wp2
          go_ret2
          exact ⟨by first | rfl | (simp [errW_none, errW_some] <;> rfl) | (simp [*, errW_none, errW_some] <;> rfl), by repeat (first | (with_reducible first | exact HB.out | apply below_alloc | apply pw_below_drewN | apply below_drew1) | exact HB.out)⟩
        · rw [if_neg c12] at H
          have c12b0 : ((t325.length : Int) == 0) = false := beq_eq_false_iff_ne.mpr c12
          have c12b1 : ((t325.length : Int) != 0) = true := bne_iff_ne.mpr c12
          have c12b2 : ¬ (t325 = []) := fun h_ => c12 (by rw [h_]; rfl)
          by_cases c14 : (t321.length : Int) = 0
          · rw [if_pos c14] at H
            have c14b0 : ((t321.length : Int) == 0) = true := beq_iff_eq.mpr c14
            have c14b1 : ((t321.length : Int) != 0) = false := bne_eq_false_iff_eq.mpr c14
            clear c14
            replace H := Option.bind_eq_some_iff.mp H
            obtain ⟨⟨t329, t330⟩, A150, H⟩ := H
            replace H : (some (t329, t330)) = some (r1, r2) := H
            have A15 := Aside0.mk A150
            clear A150
            simp only [Option.some.injEq, Prod.mk.injEq] at H
            obtain ⟨rfl, rfl⟩ := H
            obtain ⟨Ao16, co16, eo16⟩ := Kd.V_slice HO_2.out
            subst eo16
            obtain ⟨Ao17, co17, eo17⟩ := Kd.V_slice HO_1.out
            subst eo17
            go_wp2_with (first | ((with_reducible refine gate_callee (f := 15) rfl ?_); refine goesL_ (some 44) rfl rfl Tryd.func15 (by kernel_rfl) rfl #[.bool a0, .slice none 0 0, .int .i64 0, .bool false] rfl (by (try simp only [List.map_toArray, List.map_cons, List.map_nil]); first | done | rfl | (simp only [List.length_drop, List.length_take]; rfl) | (simp only [gt_iff_lt, Int.natCast_pos]; done) | (simp only [gt_iff_lt, Int.natCast_pos]; rfl)) ?_; (refine (ieee_Round.calls kj6 a0 _ _ ([] : List Int) 0 false t329 t330 _ ?side3 ?side1 ?side2 A15.out).mono ?_); (case side1 => exact Kd.C_nil _ _); (case side2 => exact Nat.le_refl _); (case side3 => repeat (first | exact (Kd.C_below HT.out HB.out) | (with_reducible refine Kd.C_alloc ?_ _) | (with_reducible refine Kd.C_drewN ?_ _) | (with_reducible refine Kd.C_drew ?_))); rintro e w18 ⟨rfl, hb⟩; refine ⟨_, rfl, ?_⟩; have n0_ := Aside0.mk (Kd.V_below (by (with_reducible repeat (first | apply Kd.V_alloc | apply Kd.V_drewN | apply Kd.V_drew)); exact HO_1.out) hb); have n1_ := Aside0.mk (Kd.V_below (by (with_reducible repeat (first | apply Kd.V_alloc | apply Kd.V_drewN | apply Kd.V_drew)); exact HO_2.out) hb); have n2_ := Aside0.mk (below_step (by repeat (first | (with_reducible first | exact HB.out | apply below_alloc | apply pw_below_drewN | apply below_drew1) | exact HB.out)) hb); clear HO_1; clear HO_2; clear HB; have HO_1 := n0_; have HO_2 := n1_; have HB := n2_; clear n0_ n1_ n2_; (try clear hb); (try clear hb2); (try clear hk); (try clear hi)))
            go_ret2
            exact ⟨by first | rfl | (simp [errW_none, errW_some] <;> rfl) | (simp [*, errW_none, errW_some] <;> rfl), by repeat (first | (with_reducible first | exact HB.out | apply below_alloc | apply pw_below_drewN | apply below_drew1) | exact HB.out)⟩
          · rw [if_neg c14] at H
            have c14b0 : ((t321.length : Int) == 0) = false := beq_eq_false_iff_ne.mpr c14
            have c14b1 : ((t321.length : Int) != 0) = true := bne_iff_ne.mpr c14
            have c14b2 : ¬ (t321 = []) := fun h_ => c14 (by rw [h_]; rfl)
            replace H := Option.bind_eq_some_iff.mp H
            obtain ⟨t331, A190, H⟩ := H
            replace H : ((nat_BitLen.f kj6 t325).bind fun t332 => ((nat_BitLen.f kj6 t321).bind fun t333 => (if (wrap64 (t332 - t333)) > 0 then ((nat_Shl.f kj6 t321 (wrap64 (t332 - t333))).bind fun bt334 => (ieee_RoundRatio.j1 kj6 a0 bt334.1 t325 (wrap64 (t331 - (wrap64 (t332 - t333)))))) else (ieee_RoundRatio.j1 kj6 a0 t321 t325 t331)))) = some (r1, r2) := H
            have A19 := Aside0.mk A190
            clear A190
            replace H := Option.bind_eq_some_iff.mp H
            obtain ⟨t332, A200, H⟩ := H
            replace H : ((nat_BitLen.f kj6 t321).bind fun t333 => (if (wrap64 (t332 - t333)) > 0 then ((nat_Shl.f kj6 t321 (wrap64 (t332 - t333))).bind fun bt334 => (ieee_RoundRatio.j1 kj6 a0 bt334.1 t325 (wrap64 (t331 - (wrap64 (t332 - t333)))))) else (ieee_RoundRatio.j1 kj6 a0 t321 t325 t331))) = some (r1, r2) := H
            have A20 := Aside0.mk A200
            clear A200
            replace H := Option.bind_eq_some_iff.mp H
            obtain ⟨t333, A210, H⟩ := H
            replace H : (if (wrap64 (t332 - t333)) > 0 then ((nat_Shl.f kj6 t321 (wrap64 (t332 - t333))).bind fun bt334 => (ieee_RoundRatio.j1 kj6 a0 bt334.1 t325 (wrap64 (t331 - (wrap64 (t332 - t333)))))) else (ieee_RoundRatio.j1 kj6 a0 t321 t325 t331)) = some (r1, r2) := H
            have A21 := Aside0.mk A210
            clear A210
            have HC22 := Aside0.mk H
            clear H
            obtain ⟨Ao23, co23, eo23⟩ := Kd.V_slice HO_2.out
            subst eo23
            obtain ⟨Ao24, co24, eo24⟩ := Kd.V_slice HO_1.out
            subst eo24
            go_upto_if 55 with (first | ((with_reducible refine gate_callee (f := 48) rfl ?_); refine goesL_ (some 48) rfl rfl Tryd.func48 (by kernel_rfl) rfl #[.int .i64 a3] rfl (by (try simp only [List.map_toArray, List.map_cons, List.map_nil]); first | done | rfl | (simp only [List.length_drop, List.length_take]; rfl) | (simp only [gt_iff_lt, Int.natCast_pos]; done) | (simp only [gt_iff_lt, Int.natCast_pos]; rfl)) ?_; (with_reducible refine (ieee_near.calls a3 t331 _ A19.out).mono ?_); rintro e w25 ⟨rfl, hb⟩; refine ⟨_, rfl, ?_⟩; have n0_ := Aside0.mk (Kd.V_below (by (with_reducible repeat (first | apply Kd.V_alloc | apply Kd.V_drewN | apply Kd.V_drew)); exact HO_1.out) hb); have n1_ := Aside0.mk (Kd.V_below (by (with_reducible repeat (first | apply Kd.V_alloc | apply Kd.V_drewN | apply Kd.V_drew)); exact HO_2.out) hb); have n2_ := Aside0.mk (below_step (by repeat (first | (with_reducible first | exact HB.out | apply below_alloc | apply pw_below_drewN | apply below_drew1) | exact HB.out)) hb); clear HO_1; clear HO_2; clear HB; have HO_1 := n0_; have HO_2 := n1_; have HB := n2_; clear n0_ n1_ n2_; (try clear hb); (try clear hb2); (try clear hk); (try clear hi)) | ((with_reducible refine gate_callee (f := 13) rfl ?_); refine goesL_ (some 50) rfl rfl Tryd.func13 (by kernel_rfl) rfl #[.slice Ao23 t325.length co23] rfl (by (try simp only [List.map_toArray, List.map_cons, List.map_nil]); first | done | rfl | (simp only [List.length_drop, List.length_take]; rfl) | (simp only [gt_iff_lt, Int.natCast_pos]; done) | (simp only [gt_iff_lt, Int.natCast_pos]; rfl)) ?_; (with_reducible refine (nat_BitLen.calls kj6 _ _ t325 t332 _ ?side1 ?side2 A20.out).mono ?_); (case side1 => repeat (first | exact (Kd.V_reads' HO_2.out).2.2 | (with_reducible refine Kd.C_alloc ?_ _) | (with_reducible refine Kd.C_drewN ?_ _) | (with_reducible refine Kd.C_drew ?_))); (case side2 => exact (Kd.V_reads' HO_2.out).2.1); rintro e w' ⟨rfl, ⟨nd, rfl⟩⟩; refine ⟨_, rfl, ?_⟩) | ((with_reducible refine gate_callee (f := 13) rfl ?_); refine goesL_ (some 52) rfl rfl Tryd.func13 (by kernel_rfl) rfl #[.slice Ao24 t321.length co24] rfl (by (try simp only [List.map_toArray, List.map_cons, List.map_nil]); first | done | rfl | (simp only [List.length_drop, List.length_take]; rfl) | (simp only [gt_iff_lt, Int.natCast_pos]; done) | (simp only [gt_iff_lt, Int.natCast_pos]; rfl)) ?_; (with_reducible refine (nat_BitLen.calls kj6 _ _ t321 t333 _ ?side1 ?side2 A21.out).mono ?_); (case side1 => repeat (first | exact (Kd.V_reads' HO_1.out).2.2 | (with_reducible refine Kd.C_alloc ?_ _) | (with_reducible refine Kd.C_drewN ?_ _) | (with_reducible refine Kd.C_drew ?_))); (case side2 => exact (Kd.V_reads' HO_1.out).2.1); rintro e w' ⟨rfl, ⟨nd, rfl⟩⟩; refine ⟨_, rfl, ?_⟩))
            (try simp only [Act.put, List.setIfInBounds_toArray, List.set_cons_zero, List.set_cons_succ])
            go_cut [1, 3] (fun v1 v3 wc => ∃ (kq : Nat) (x1_21 : List Int) (x3_21 : Int), v3 = .int .i64 x3_21 ∧ Aside0 (ieee_RoundRatio.j1 kq a0 x1_21 t325 x3_21 = some (r1, r2)) ∧ Aside0 (kq ≤ kj6) ∧ Aside0 (Kd.V (Kd.int .u64) 28 wc w.heap.size (fun _ => True) v1 x1_21) ∧ Aside0 (Kd.V (Kd.int .u64) 28 wc w.heap.size (fun _ => True) (.slice Ao23 t325.length co23) t325) ∧ Aside0 (Below w.heap.size w wc))
            case first =>
              have H := HC22.out
              clear HC22
              by_cases c26 : (wrap64 (t332 - t333)) > 0
              · rw [if_pos c26] at H
                have c26b0 : decide (0 < (wrap64 (t332 - t333))) = true := decide_eq_true c26
                clear c26
                (first | rw [c26b0] | (simp only [i64_w, i32_w]; rw [c26b0]) | rw [c26b1] | skip)
                replace H := Option.bind_eq_some_iff.mp H
                obtain ⟨⟨t334, t337⟩, A270, H⟩ := H
                replace H : (ieee_RoundRatio.j1 kj6 a0 t334 t325 (wrap64 (t331 - (wrap64 (t332 - t333))))) = some (r1, r2) := H
                have A27 := Aside0.mk A270
                clear A270
                have H' := Aside0.mk H
                clear H
                go_wp2_with (first | ((with_reducible refine gate_callee (f := 29) rfl ?_); refine goesL_ (some 59) rfl rfl Tryd.func29 (by kernel_rfl) rfl #[.slice Ao24 t321.length co24, .int .i64 (wrap64 (t332 - t333))] rfl (by (try simp only [List.map_toArray, List.map_cons, List.map_nil]); first | done | rfl | (simp only [List.length_drop, List.length_take]; rfl) | (simp only [gt_iff_lt, Int.natCast_pos]; done) | (simp only [gt_iff_lt, Int.natCast_pos]; rfl)) ?_; (with_reducible refine (nat_Shl.calls kj6 _ _ t321 (wrap64 (t332 - t333)) t334 t337 _ ?side1 ?side2 A27.out).mono ?_); (case side1 => repeat (first | exact (Kd.V_reads' HO_1.out).2.2 | (with_reducible refine Kd.C_alloc ?_ _) | (with_reducible refine Kd.C_drewN ?_ _) | (with_reducible refine Kd.C_drew ?_))); (case side2 => exact (Kd.V_reads' HO_1.out).2.1); rintro e w28 ⟨v335, rfl, ho0, hb⟩; refine ⟨_, rfl, ?_⟩; have n0_ := Aside0.mk (Kd.V_below (by (with_reducible repeat (first | apply Kd.V_alloc | apply Kd.V_drewN | apply Kd.V_drew)); exact HO_1.out) hb); have n1_ := Aside0.mk (Kd.V_below (by (with_reducible repeat (first | apply Kd.V_alloc | apply Kd.V_drewN | apply Kd.V_drew)); exact HO_2.out) hb); have n2_ := Aside0.mk (Kd.V_lower (Kd.V_mono (ok' := fun k_ => True) ho0 (fun k_ hk_ => trivial)) (below_size (by repeat (first | (with_reducible first | exact HB.out | apply below_alloc | apply pw_below_drewN | apply below_drew1) | exact HB.out)))); have n3_ := Aside0.mk (below_step (by repeat (first | (with_reducible first | exact HB.out | apply below_alloc | apply pw_below_drewN | apply below_drew1) | exact HB.out)) hb); clear HO_1; clear HO_2; clear HB; have HO_1 := n0_; have HO_2 := n1_; have HO336 := n2_; have HB := n3_; clear n0_ n1_ n2_ n3_; (try clear hb); (try clear hb2); (try clear hk); (try clear hi); (try clear ho0)))
                go_meet
                case rel => exact ⟨_, (t334), (wrap64 (t331 - (wrap64 (t332 - t333)))), (by first | rfl | (have e_ := Option.some.inj (A20.out.symm.trans A21.out); cases e_; rfl) | (simp; done) | (simp [*]; done)), H', ⟨by have := HJ6.out; first | omega | exact Nat.le_refl _⟩, ⟨by (with_reducible repeat (first | apply Kd.V_alloc | apply Kd.V_drewN | apply Kd.V_drew)); exact HO336.out⟩, ⟨by (with_reducible repeat (first | apply Kd.V_alloc | apply Kd.V_drewN | apply Kd.V_drew)); exact HO_2.out⟩, ⟨by repeat (first | (with_reducible first | exact HB.out | apply below_alloc | apply pw_below_drewN | apply below_drew1) | exact HB.out)⟩⟩
              · rw [if_neg c26] at H
                have c26b0 : decide (0 < (wrap64 (t332 - t333))) = false := decide_eq_false c26
                clear c26
                (first | rw [c26b0] | (simp only [i64_w, i32_w]; rw [c26b0]) | rw [c26b1] | skip)
                have H' := Aside0.mk H
                clear H
                go_wp2
                go_meet
                case rel => exact ⟨_, (t321), (t331), (by first | rfl | (have e_ := Option.some.inj (A20.out.symm.trans A21.out); cases e_; rfl) | (simp; done) | (simp [*]; done)), H', ⟨by have := HJ6.out; first | omega | exact Nat.le_refl _⟩, ⟨by (with_reducible repeat (first | apply Kd.V_alloc | apply Kd.V_drewN | apply Kd.V_drew)); exact HO_1.out⟩, ⟨by (with_reducible repeat (first | apply Kd.V_alloc | apply Kd.V_drewN | apply Kd.V_drew)); exact HO_2.out⟩, ⟨by repeat (first | (with_reducible first | exact HB.out | apply below_alloc | apply pw_below_drewN | apply below_drew1) | exact HB.out)⟩⟩
            case rest =>
              clear HC22
              try clear c1
              try clear c2
              try clear p2
              try clear c4
              try clear p6
              try clear c10
              try clear c10b0
              try clear c10b1
              try clear c11
              try clear c12
              try clear c12b0
              try clear c12b1
              try clear c12b2
              try clear c13
              try clear c14
              try clear c14b0
              try clear c14b1
              try clear c14b2
              try clear c15
              try clear c16
              try clear c26
              try clear c26b0
              try clear c26b1
              try clear p2
              obtain ⟨kq, x1_21, x3_21, rfl, HA, HJ21, HO_1, HO_2, HB⟩ := hcut
              cases kq with
              | zero => exact absurd HA.out (by simp [ieee_RoundRatio.j1])
              | succ kj21 =>
                have H := HA.out
                clear HA
                simp only [ieee_RoundRatio.j1] at H
                replace H := Option.bind_eq_some_iff.mp H
                obtain ⟨⟨t338, t341, t344⟩, A290, H⟩ := H
                replace H : (if t344 = 0 then (ieee_RoundRatio.l0 kj21 a0 t325 x3_21 t338 t341) else (some (0, t344))) = some (r1, r2) := H
                have A29 := Aside0.mk A290
                clear A290
                by_cases c30 : t344 = 0
                · rw [if_pos c30] at H
                  have c30b0 : (t344 == 0) = true := beq_iff_eq.mpr c30
                  have c30b1 : (t344 != 0) = false := bne_eq_false_iff_eq.mpr c30
                  clear c30
                  have H' := Aside0.mk H
                  clear H
                  obtain ⟨Ao31, co31, eo31⟩ := Kd.V_slice HO_1.out
                  subst eo31
                  go_wp2_with (first | ((with_reducible refine gate_callee (f := 49) rfl ?_); refine goesL_ (some 68) rfl rfl Tryd.func49 (by kernel_rfl) rfl #[.slice Ao31 x1_21.length co31, .slice Ao23 t325.length co23] rfl (by (try simp only [List.map_toArray, List.map_cons, List.map_nil]); first | done | rfl | (simp only [List.length_drop, List.length_take]; rfl) | (simp only [gt_iff_lt, Int.natCast_pos]; done) | (simp only [gt_iff_lt, Int.natCast_pos]; rfl)) ?_; (with_reducible refine (quot_DivMod.calls kj21 _ _ x1_21 _ _ t325 t338 t341 t344 _ ?side5 ?side1 ?side2 ?side3 ?side4 A29.out).mono ?_); (case side1 => repeat (first | exact (Kd.V_reads' HO_1.out).2.2 | (with_reducible refine Kd.C_alloc ?_ _) | (with_reducible refine Kd.C_drewN ?_ _) | (with_reducible refine Kd.C_drew ?_))); (case side2 => exact (Kd.V_reads' HO_1.out).2.1); (case side3 => repeat (first | exact (Kd.V_reads' HO_2.out).2.2 | (with_reducible refine Kd.C_alloc ?_ _) | (with_reducible refine Kd.C_drewN ?_ _) | (with_reducible refine Kd.C_drew ?_))); (case side4 => exact (Kd.V_reads' HO_2.out).2.1); (case side5 => repeat (first | exact (Kd.C_below HT.out HB.out) | (with_reducible refine Kd.C_alloc ?_ _) | (with_reducible refine Kd.C_drewN ?_ _) | (with_reducible refine Kd.C_drew ?_))); rintro e w32 ⟨v339, v342, rfl, ho0, ho1, hb⟩; refine ⟨_, rfl, ?_⟩; have n0_ := Aside0.mk (Kd.V_below (by (with_reducible repeat (first | apply Kd.V_alloc | apply Kd.V_drewN | apply Kd.V_drew)); exact HO_1.out) hb); have n1_ := Aside0.mk (Kd.V_below (by (with_reducible repeat (first | apply Kd.V_alloc | apply Kd.V_drewN | apply Kd.V_drew)); exact HO_2.out) hb); have n2_ := Aside0.mk (Kd.V_lower (Kd.V_mono (ok' := fun k_ => True) ho0 (fun k_ hk_ => trivial)) (below_size (by repeat (first | (with_reducible first | exact HB.out | apply below_alloc | apply pw_below_drewN | apply below_drew1) | exact HB.out)))); have n3_ := Aside0.mk (Kd.V_lower (Kd.V_mono (ok' := fun k_ => True) ho1 (fun k_ hk_ => trivial)) (below_size (by repeat (first | (with_reducible first | exact HB.out | apply below_alloc | apply pw_below_drewN | apply below_drew1) | exact HB.out)))); have n4_ := Aside0.mk (below_step (by repeat (first | (with_reducible first | exact HB.out | apply below_alloc | apply pw_below_drewN | apply below_drew1) | exact HB.out)) hb); clear HO_1; clear HO_2; clear HB; have HO_1 := n0_; have HO_2 := n1_; have HO340 := n2_; have HO343 := n3_; have HB := n4_; clear n0_ n1_ n2_ n3_ n4_; (try clear hb); (try clear hb2); (try clear hk); (try clear hi); (try clear ho0); (try clear ho1)))
                  go_loopg [3, 13, 14] kj21 (fun kq v3 v13 v14 w' => ∃ (x3_3 : Int) (x13_3 : List Int) (x14_3 : List Int), v3 = .int .i64 x3_3 ∧ Aside0 (ieee_RoundRatio.l0 kq a0 t325 x3_3 x13_3 x14_3 = some (r1, r2)) ∧ Aside0 (kq ≤ kj21) ∧ Aside0 (Kd.V (Kd.int .u64) 28 w' w.heap.size (fun _ => True) (.slice Ao23 t325.length co23) t325) ∧ Aside0 (Kd.V (Kd.int .u64) 28 w' w.heap.size (fun _ => True) v13 x13_3) ∧ Aside0 (Kd.V (Kd.int .u64) 28 w' w.heap.size (fun _ => True) v14 x14_3) ∧ Aside0 (Below w.heap.size w w'))
                  case atStart => exact ⟨(x3_21), (t338), (t341), (by first | rfl | (simp; done) | (simp [*]; done)), H', ⟨Nat.le_refl _⟩, ⟨by (with_reducible repeat (first | apply Kd.V_alloc | apply Kd.V_drewN | apply Kd.V_drew)); exact HO_2.out⟩, ⟨by (with_reducible repeat (first | apply Kd.V_alloc | apply Kd.V_drewN | apply Kd.V_drew)); exact HO340.out⟩, ⟨by (with_reducible repeat (first | apply Kd.V_alloc | apply Kd.V_drewN | apply Kd.V_drew)); exact HO343.out⟩, ⟨by repeat (first | (with_reducible first | exact HB.out | apply below_alloc | apply pw_below_drewN | apply below_drew1) | exact HB.out)⟩⟩
                  case round =>
                    clear H'
                    try clear c1
                    try clear c2
                    try clear p2
                    try clear c3
                    try clear c4
                    try clear p6
                    try clear c10
                    try clear c10b0
                    try clear c10b1
                    try clear c11
                    try clear c12
                    try clear c12b0
                    try clear c12b1
                    try clear c12b2
                    try clear c13
                    try clear c14
                    try clear c14b0
                    try clear c14b1
                    try clear c14b2
                    try clear c15
                    try clear c16
                    try clear c26
                    try clear c26b0
                    try clear c26b1
                    try clear c29
                    try clear c30
                    try clear c30b0
                    try clear c30b1
                    try clear p2
                    try clear p6
                    obtain ⟨x3_3, x13_3, x14_3, rfl, HA, HK3, HO_2, HO_13, HO_14, HB⟩ := hrel
                    cases gk with
                    | zero => exact absurd HA.out (by simp [ieee_RoundRatio.l0])
                    | succ k3 =>
                      have H := HA.out
                      clear HA
                      simp only [ieee_RoundRatio.l0] at H
                      replace H := Option.bind_eq_some_iff.mp H
                      obtain ⟨t345, A330, H⟩ := H
                      replace H : (if t345 < 66 then ((nat_Sub.f k3 t325 x14_3).bind fun bt348 => ((nat_Cmp.f k3 x14_3 bt348.1).bind fun t352 => (if t352 ≥ 0 then ((nat_Sub.f k3 x14_3 bt348.1).bind fun bt353 => ((nat_MulAdd.f k3 x13_3 2 1).bind fun bt357 => (ieee_RoundRatio.l0 k3 a0 t325 (wrap64 (x3_3 - 1)) bt357.1 bt353.1))) else ((nat_Add.f k3 x14_3 x14_3).bind fun bt361 => ((nat_MulAdd.f k3 x13_3 2 0).bind fun bt365 => (ieee_RoundRatio.l0 k3 a0 t325 (wrap64 (x3_3 - 1)) bt365.1 bt361.1)))))) else ((ieee_Round.f k3 a0 x13_3 x3_3 (decide ((x14_3.length : Int) > 0))).bind fun bt346 => (some (bt346.1, bt346.2)))) = some (r1, r2) := H
                      have A33 := Aside0.mk A330
                      clear A330
                      by_cases c34 : t345 < 66
                      · rw [if_pos c34] at H
                        have c34b0 : decide (t345 < 66) = true := decide_eq_true c34
                        clear c34
                        replace H := Option.bind_eq_some_iff.mp H
                        obtain ⟨⟨t348, t351⟩, A350, H⟩ := H
                        replace H : ((nat_Cmp.f k3 x14_3 t348).bind fun t352 => (if t352 ≥ 0 then ((nat_Sub.f k3 x14_3 t348).bind fun bt353 => ((nat_MulAdd.f k3 x13_3 2 1).bind fun bt357 => (ieee_RoundRatio.l0 k3 a0 t325 (wrap64 (x3_3 - 1)) bt357.1 bt353.1))) else ((nat_Add.f k3 x14_3 x14_3).bind fun bt361 => ((nat_MulAdd.f k3 x13_3 2 0).bind fun bt365 => (ieee_RoundRatio.l0 k3 a0 t325 (wrap64 (x3_3 - 1)) bt365.1 bt361.1))))) = some (r1, r2) := H
                        have A35 := Aside0.mk A350
                        clear A350
                        replace H := Option.bind_eq_some_iff.mp H
                        obtain ⟨t352, A360, H⟩ := H
                        replace H : (if t352 ≥ 0 then ((nat_Sub.f k3 x14_3 t348).bind fun bt353 => ((nat_MulAdd.f k3 x13_3 2 1).bind fun bt357 => (ieee_RoundRatio.l0 k3 a0 t325 (wrap64 (x3_3 - 1)) bt357.1 bt353.1))) else ((nat_Add.f k3 x14_3 x14_3).bind fun bt361 => ((nat_MulAdd.f k3 x13_3 2 0).bind fun bt365 => (ieee_RoundRatio.l0 k3 a0 t325 (wrap64 (x3_3 - 1)) bt365.1 bt361.1)))) = some (r1, r2) := H
                        have A36 := Aside0.mk A360
                        clear A360
                        by_cases c37 : t352 ≥ 0
                        · rw [if_pos c37] at H
                          have c37b0 : decide (0 ≤ t352) = true := decide_eq_true c37
                          clear c37
                          replace H := Option.bind_eq_some_iff.mp H
                          obtain ⟨⟨t353, t356⟩, A380, H⟩ := H
                          replace H : ((nat_MulAdd.f k3 x13_3 2 1).bind fun bt357 => (ieee_RoundRatio.l0 k3 a0 t325 (wrap64 (x3_3 - 1)) bt357.1 t353)) = some (r1, r2) := H
                          have A38 := Aside0.mk A380
                          clear A380
                          replace H := Option.bind_eq_some_iff.mp H
                          obtain ⟨⟨t357, t360⟩, A390, H⟩ := H
                          replace H : (ieee_RoundRatio.l0 k3 a0 t325 (wrap64 (x3_3 - 1)) t357 t353) = some (r1, r2) := H
                          have A39 := Aside0.mk A390
                          clear A390
                          have H' := Aside0.mk H
                          clear H
                          obtain ⟨Ao40, co40, eo40⟩ := Kd.V_slice HO_13.out
                          subst eo40
                          go_wp2_with (first | ((with_reducible refine gate_callee (f := 13) rfl ?_); refine goesL_ (some 76) rfl rfl Tryd.func13 (by kernel_rfl) rfl #[.slice Ao40 x13_3.length co40] rfl (by (try simp only [List.map_toArray, List.map_cons, List.map_nil]); first | done | rfl | (simp only [List.length_drop, List.length_take]; rfl) | (simp only [gt_iff_lt, Int.natCast_pos]; done) | (simp only [gt_iff_lt, Int.natCast_pos]; rfl)) ?_; (with_reducible refine (nat_BitLen.calls k3 _ _ x13_3 t345 _ ?side1 ?side2 A33.out).mono ?_); (case side1 => repeat (first | exact (Kd.V_reads' HO_13.out).2.2 | (with_reducible refine Kd.C_alloc ?_ _) | (with_reducible refine Kd.C_drewN ?_ _) | (with_reducible refine Kd.C_drew ?_))); (case side2 => exact (Kd.V_reads' HO_13.out).2.1); rintro e w' ⟨rfl, ⟨nd, rfl⟩⟩; refine ⟨_, rfl, ?_⟩; obtain ⟨Ao41, co41, eo41⟩ := Kd.V_slice HO_14.out; subst eo41) | ((with_reducible refine gate_callee (f := 50) rfl ?_); refine goesL_ (some 81) rfl rfl Tryd.func50 (by kernel_rfl) rfl #[.slice Ao23 t325.length co23, .slice Ao41 x14_3.length co41] rfl (by (try simp only [List.map_toArray, List.map_cons, List.map_nil]); first | done | rfl | (simp only [List.length_drop, List.length_take]; rfl) | (simp only [gt_iff_lt, Int.natCast_pos]; done) | (simp only [gt_iff_lt, Int.natCast_pos]; rfl)) ?_; (with_reducible refine (nat_Sub.calls k3 _ _ t325 _ _ x14_3 t348 t351 _ ?side1 ?side2 ?side3 ?side4 A35.out).mono ?_); (case side1 => repeat (first | exact (Kd.V_reads' HO_2.out).2.2 | (with_reducible refine Kd.C_alloc ?_ _) | (with_reducible refine Kd.C_drewN ?_ _) | (with_reducible refine Kd.C_drew ?_))); (case side2 => exact (Kd.V_reads' HO_2.out).2.1); (case side3 => repeat (first | exact (Kd.V_reads' HO_14.out).2.2 | (with_reducible refine Kd.C_alloc ?_ _) | (with_reducible refine Kd.C_drewN ?_ _) | (with_reducible refine Kd.C_drew ?_))); (case side4 => exact (Kd.V_reads' HO_14.out).2.1); rintro e w42 ⟨v349, rfl, ho0, hb⟩; refine ⟨_, rfl, ?_⟩; have n0_ := Aside0.mk (Kd.V_below (by (with_reducible repeat (first | apply Kd.V_alloc | apply Kd.V_drewN | apply Kd.V_drew)); exact HO_2.out) hb); have n1_ := Aside0.mk (Kd.V_below (by (with_reducible repeat (first | apply Kd.V_alloc | apply Kd.V_drewN | apply Kd.V_drew)); exact HO_13.out) hb); have n2_ := Aside0.mk (Kd.V_below (by (with_reducible repeat (first | apply Kd.V_alloc | apply Kd.V_drewN | apply Kd.V_drew)); exact HO_14.out) hb); have n3_ := Aside0.mk (Kd.V_lower (Kd.V_mono (ok' := fun k_ => True) ho0 (fun k_ hk_ => trivial)) (below_size (by repeat (first | (with_reducible first | exact HB.out | apply below_alloc | apply pw_below_drewN | apply below_drew1) | exact HB.out)))); have n4_ := Aside0.mk (below_step (by repeat (first | (with_reducible first | exact HB.out | apply below_alloc | apply pw_below_drewN | apply below_drew1) | exact HB.out)) hb); clear HO_2; clear HO_13; clear HO_14; clear HB; have HO_2 := n0_; have HO_13 := n1_; have HO_14 := n2_; have HO350 := n3_; have HB := n4_; clear n0_ n1_ n2_ n3_ n4_; (try clear hb); (try clear hb2); (try clear hk); (try clear hi); (try clear ho0); obtain ⟨Ao43, co43, eo43⟩ := Kd.V_slice HO350.out; subst eo43) | ((with_reducible refine gate_callee (f := 14) rfl ?_); refine goesL_ (some 86) rfl rfl Tryd.func14 (by kernel_rfl) rfl #[.slice Ao41 x14_3.length co41, .slice Ao43 t348.length co43] rfl (by (try simp only [List.map_toArray, List.map_cons, List.map_nil]); first | done | rfl | (simp only [List.length_drop, List.length_take]; rfl) | (simp only [gt_iff_lt, Int.natCast_pos]; done) | (simp only [gt_iff_lt, Int.natCast_pos]; rfl)) ?_; (with_reducible refine (nat_Cmp.calls k3 _ _ x14_3 _ _ t348 t352 _ ?side1 ?side2 ?side3 ?side4 A36.out).mono ?_); (case side1 => repeat (first | exact (Kd.V_reads' HO_14.out).2.2 | (with_reducible refine Kd.C_alloc ?_ _) | (with_reducible refine Kd.C_drewN ?_ _) | (with_reducible refine Kd.C_drew ?_))); (case side2 => exact (Kd.V_reads' HO_14.out).2.1); (case side3 => repeat (first | exact (Kd.V_reads' HO350.out).2.2 | (with_reducible refine Kd.C_alloc ?_ _) | (with_reducible refine Kd.C_drewN ?_ _) | (with_reducible refine Kd.C_drew ?_))); (case side4 => exact (Kd.V_reads' HO350.out).2.1); rintro e w' ⟨rfl, ⟨nd, rfl⟩⟩; refine ⟨_, rfl, ?_⟩) | ((with_reducible refine gate_callee (f := 50) rfl ?_); refine goesL_ (some 91) rfl rfl Tryd.func50 (by kernel_rfl) rfl #[.slice Ao41 x14_3.length co41, .slice Ao43 t348.length co43] rfl (by (try simp only [List.map_toArray, List.map_cons, List.map_nil]); first | done | rfl | (simp only [List.length_drop, List.length_take]; rfl) | (simp only [gt_iff_lt, Int.natCast_pos]; done) | (simp only [gt_iff_lt, Int.natCast_pos]; rfl)) ?_; (with_reducible refine (nat_Sub.calls k3 _ _ x14_3 _ _ t348 t353 t356 _ ?side1 ?side2 ?side3 ?side4 A38.out).mono ?_); (case side1 => repeat (first | exact (Kd.V_reads' HO_14.out).2.2 | (with_reducible refine Kd.C_alloc ?_ _) | (with_reducible refine Kd.C_drewN ?_ _) | (with_reducible refine Kd.C_drew ?_))); (case side2 => exact (Kd.V_reads' HO_14.out).2.1); (case side3 => repeat (first | exact (Kd.V_reads' HO350.out).2.2 | (with_reducible refine Kd.C_alloc ?_ _) | (with_reducible refine Kd.C_drewN ?_ _) | (with_reducible refine Kd.C_drew ?_))); (case side4 => exact (Kd.V_reads' HO350.out).2.1); rintro e w44 ⟨v354, rfl, ho0, hb⟩; refine ⟨_, rfl, ?_⟩; have n0_ := Aside0.mk (Kd.V_below (by (with_reducible repeat (first | apply Kd.V_alloc | apply Kd.V_drewN | apply Kd.V_drew)); exact HO_2.out) hb); have n1_ := Aside0.mk (Kd.V_below (by (with_reducible repeat (first | apply Kd.V_alloc | apply Kd.V_drewN | apply Kd.V_drew)); exact HO_13.out) hb); have n2_ := Aside0.mk (Kd.V_below (by (with_reducible repeat (first | apply Kd.V_alloc | apply Kd.V_drewN | apply Kd.V_drew)); exact HO_14.out) hb); have n3_ := Aside0.mk (Kd.V_below (by (with_reducible repeat (first | apply Kd.V_alloc | apply Kd.V_drewN | apply Kd.V_drew)); exact HO350.out) hb); have n4_ := Aside0.mk (Kd.V_lower (Kd.V_mono (ok' := fun k_ => True) ho0 (fun k_ hk_ => trivial)) (below_size (by repeat (first | (with_reducible first | exact HB.out | apply below_alloc | apply pw_below_drewN | apply below_drew1) | exact HB.out)))); have n5_ := Aside0.mk (below_step (by repeat (first | (with_reducible first | exact HB.out | apply below_alloc | apply pw_below_drewN | apply below_drew1) | exact HB.out)) hb); clear HO_2; clear HO_13; clear HO_14; clear HO350; clear HB; have HO_2 := n0_; have HO_13 := n1_; have HO_14 := n2_; have HO350 := n3_; have HO355 := n4_; have HB := n5_; clear n0_ n1_ n2_ n3_ n4_ n5_; (try clear hb); (try clear hb2); (try clear hk); (try clear hi); (try clear ho0)) | ((with_reducible refine gate_callee (f := 31) rfl ?_); refine goesL_ (some 103) rfl rfl Tryd.func31 (by kernel_rfl) rfl #[.slice Ao40 x13_3.length co40, .int .u64 2, .int .u64 1] rfl (by (try simp only [List.map_toArray, List.map_cons, List.map_nil]); first | done | rfl | (simp only [List.length_drop, List.length_take]; rfl) | (simp only [gt_iff_lt, Int.natCast_pos]; done) | (simp only [gt_iff_lt, Int.natCast_pos]; rfl)) ?_; (with_reducible refine (nat_MulAdd.calls k3 _ _ x13_3 2 1 t357 t360 _ ?side1 ?side2 A39.out).mono ?_); (case side1 => repeat (first | exact (Kd.V_reads' HO_13.out).2.2 | (with_reducible refine Kd.C_alloc ?_ _) | (with_reducible refine Kd.C_drewN ?_ _) | (with_reducible refine Kd.C_drew ?_))); (case side2 => exact (Kd.V_reads' HO_13.out).2.1); rintro e w45 ⟨v358, rfl, ho0, hb⟩; refine ⟨_, rfl, ?_⟩; have n0_ := Aside0.mk (Kd.V_below (by (with_reducible repeat (first | apply Kd.V_alloc | apply Kd.V_drewN | apply Kd.V_drew)); exact HO_2.out) hb); have n1_ := Aside0.mk (Kd.V_below (by (with_reducible repeat (first | apply Kd.V_alloc | apply Kd.V_drewN | apply Kd.V_drew)); exact HO_13.out) hb); have n2_ := Aside0.mk (Kd.V_below (by (with_reducible repeat (first | apply Kd.V_alloc | apply Kd.V_drewN | apply Kd.V_drew)); exact HO_14.out) hb); have n3_ := Aside0.mk (Kd.V_below (by (with_reducible repeat (first | apply Kd.V_alloc | apply Kd.V_drewN | apply Kd.V_drew)); exact HO350.out) hb); have n4_ := Aside0.mk (Kd.V_below (by (with_reducible repeat (first | apply Kd.V_alloc | apply Kd.V_drewN | apply Kd.V_drew)); exact HO355.out) hb); have n5_ := Aside0.mk (Kd.V_lower (Kd.V_mono (ok' := fun k_ => True) ho0 (fun k_ hk_ => trivial)) (below_size (by repeat (first | (with_reducible first | exact HB.out | apply below_alloc | apply pw_below_drewN | apply below_drew1) | exact HB.out)))); have n6_ := Aside0.mk (below_step (by repeat (first | (with_reducible first | exact HB.out | apply below_alloc | apply pw_below_drewN | apply below_drew1) | exact HB.out)) hb); clear HO_2; clear HO_13; clear HO_14; clear HO350; clear HO355; clear HB; have HO_2 := n0_; have HO_13 := n1_; have HO_14 := n2_; have HO350 := n3_; have HO355 := n4_; have HO359 := n5_; have HB := n6_; clear n0_ n1_ n2_ n3_ n4_ n5_ n6_; (try clear hb); (try clear hb2); (try clear hk); (try clear hi); (try clear ho0)))
                          go_roundg k3
                          case measure => have := HJ6.out; have := HJ21.out; have := HK3.out; omega
                          case rel => exact ⟨(wrap64 (x3_3 - 1)), (t357), (t353), (by first | rfl | (have e_ := Option.some.inj (A20.out.symm.trans A21.out); cases e_; rfl) | (have e_ := Option.some.inj (A20.out.symm.trans A33.out); cases e_; rfl) | (have e_ := Option.some.inj (A21.out.symm.trans A33.out); cases e_; rfl) | (simp; done) | (simp [*]; done)), H', ⟨by have := HJ6.out; have := HJ21.out; have := HK3.out; omega⟩, ⟨by (with_reducible repeat (first | apply Kd.V_alloc | apply Kd.V_drewN | apply Kd.V_drew)); exact HO_2.out⟩, ⟨by (with_reducible repeat (first | apply Kd.V_alloc | apply Kd.V_drewN | apply Kd.V_drew)); exact HO359.out⟩, ⟨by (with_reducible repeat (first | apply Kd.V_alloc | apply Kd.V_drewN | apply Kd.V_drew)); exact HO355.out⟩, ⟨by repeat (first | (with_reducible first | exact HB.out | apply below_alloc | apply pw_below_drewN | apply below_drew1) | exact HB.out)⟩⟩
                        · rw [if_neg c37] at H
                          have c37b0 : decide (0 ≤ t352) = false := decide_eq_false c37
                          clear c37
                          replace H := Option.bind_eq_some_iff.mp H
                          obtain ⟨⟨t361, t364⟩, A460, H⟩ := H
                          replace H : ((nat_MulAdd.f k3 x13_3 2 0).bind fun bt365 => (ieee_RoundRatio.l0 k3 a0 t325 (wrap64 (x3_3 - 1)) bt365.1 t361)) = some (r1, r2) := H
                          have A46 := Aside0.mk A460
                          clear A460
                          replace H := Option.bind_eq_some_iff.mp H
                          obtain ⟨⟨t365, t368⟩, A470, H⟩ := H
                          replace H : (ieee_RoundRatio.l0 k3 a0 t325 (wrap64 (x3_3 - 1)) t365 t361) = some (r1, r2) := H
                          have A47 := Aside0.mk A470
                          clear A470
                          have H' := Aside0.mk H
                          clear H
                          obtain ⟨Ao48, co48, eo48⟩ := Kd.V_slice HO_13.out
                          subst eo48
                          go_wp2_with (first | ((with_reducible refine gate_callee (f := 13) rfl ?_); refine goesL_ (some 76) rfl rfl Tryd.func13 (by kernel_rfl) rfl #[.slice Ao48 x13_3.length co48] rfl (by (try simp only [List.map_toArray, List.map_cons, List.map_nil]); first | done | rfl | (simp only [List.length_drop, List.length_take]; rfl) | (simp only [gt_iff_lt, Int.natCast_pos]; done) | (simp only [gt_iff_lt, Int.natCast_pos]; rfl)) ?_; (with_reducible refine (nat_BitLen.calls k3 _ _ x13_3 t345 _ ?side1 ?side2 A33.out).mono ?_); (case side1 => repeat (first | exact (Kd.V_reads' HO_13.out).2.2 | (with_reducible refine Kd.C_alloc ?_ _) | (with_reducible refine Kd.C_drewN ?_ _) | (with_reducible refine Kd.C_drew ?_))); (case side2 => exact (Kd.V_reads' HO_13.out).2.1); rintro e w' ⟨rfl, ⟨nd, rfl⟩⟩; refine ⟨_, rfl, ?_⟩; obtain ⟨Ao49, co49, eo49⟩ := Kd.V_slice HO_14.out; subst eo49) | ((with_reducible refine gate_callee (f := 50) rfl ?_); refine goesL_ (some 81) rfl rfl Tryd.func50 (by kernel_rfl) rfl #[.slice Ao23 t325.length co23, .slice Ao49 x14_3.length co49] rfl (by (try simp only [List.map_toArray, List.map_cons, List.map_nil]); first | done | rfl | (simp only [List.length_drop, List.length_take]; rfl) | (simp only [gt_iff_lt, Int.natCast_pos]; done) | (simp only [gt_iff_lt, Int.natCast_pos]; rfl)) ?_; (with_reducible refine (nat_Sub.calls k3 _ _ t325 _ _ x14_3 t348 t351 _ ?side1 ?side2 ?side3 ?side4 A35.out).mono ?_); (case side1 => repeat (first | exact (Kd.V_reads' HO_2.out).2.2 | (with_reducible refine Kd.C_alloc ?_ _) | (with_reducible refine Kd.C_drewN ?_ _) | (with_reducible refine Kd.C_drew ?_))); (case side2 => exact (Kd.V_reads' HO_2.out).2.1); (case side3 => repeat (first | exact (Kd.V_reads' HO_14.out).2.2 | (with_reducible refine Kd.C_alloc ?_ _) | (with_reducible refine Kd.C_drewN ?_ _) | (with_reducible refine Kd.C_drew ?_))); (case side4 => exact (Kd.V_reads' HO_14.out).2.1); rintro e w50 ⟨v349, rfl, ho0, hb⟩; refine ⟨_, rfl, ?_⟩; have n0_ := Aside0.mk (Kd.V_below (by (with_reducible repeat (first | apply Kd.V_alloc | apply Kd.V_drewN | apply Kd.V_drew)); exact HO_2.out) hb); have n1_ := Aside0.mk (Kd.V_below (by (with_reducible repeat (first | apply Kd.V_alloc | apply Kd.V_drewN | apply Kd.V_drew)); exact HO_13.out) hb); have n2_ := Aside0.mk (Kd.V_below (by (with_reducible repeat (first | apply Kd.V_alloc | apply Kd.V_drewN | apply Kd.V_drew)); exact HO_14.out) hb); have n3_ := Aside0.mk (Kd.V_lower (Kd.V_mono (ok' := fun k_ => True) ho0 (fun k_ hk_ => trivial)) (below_size (by repeat (first | (with_reducible first | exact HB.out | apply below_alloc | apply pw_below_drewN | apply below_drew1) | exact HB.out)))); have n4_ := Aside0.mk (below_step (by repeat (first | (with_reducible first | exact HB.out | apply below_alloc | apply pw_below_drewN | apply below_drew1) | exact HB.out)) hb); clear HO_2; clear HO_13; clear HO_14; clear HB; have HO_2 := n0_; have HO_13 := n1_; have HO_14 := n2_; have HO350 := n3_; have HB := n4_; clear n0_ n1_ n2_ n3_ n4_; (try clear hb); (try clear hb2); (try clear hk); (try clear hi); (try clear ho0); obtain ⟨Ao51, co51, eo51⟩ := Kd.V_slice HO350.out; subst eo51) | ((with_reducible refine gate_callee (f := 14) rfl ?_); refine goesL_ (some 86) rfl rfl Tryd.func14 (by kernel_rfl) rfl #[.slice Ao49 x14_3.length co49, .slice Ao51 t348.length co51] rfl (by (try simp only [List.map_toArray, List.map_cons, List.map_nil]); first | done | rfl | (simp only [List.length_drop, List.length_take]; rfl) | (simp only [gt_iff_lt, Int.natCast_pos]; done) | (simp only [gt_iff_lt, Int.natCast_pos]; rfl)) ?_; (with_reducible refine (nat_Cmp.calls k3 _ _ x14_3 _ _ t348 t352 _ ?side1 ?side2 ?side3 ?side4 A36.out).mono ?_); (case side1 => repeat (first | exact (Kd.V_reads' HO_14.out).2.2 | (with_reducible refine Kd.C_alloc ?_ _) | (with_reducible refine Kd.C_drewN ?_ _) | (with_reducible refine Kd.C_drew ?_))); (case side2 => exact (Kd.V_reads' HO_14.out).2.1); (case side3 => repeat (first | exact (Kd.V_reads' HO350.out).2.2 | (with_reducible refine Kd.C_alloc ?_ _) | (with_reducible refine Kd.C_drewN ?_ _) | (with_reducible refine Kd.C_drew ?_))); (case side4 => exact (Kd.V_reads' HO350.out).2.1); rintro e w' ⟨rfl, ⟨nd, rfl⟩⟩; refine ⟨_, rfl, ?_⟩) | ((with_reducible refine gate_callee (f := 37) rfl ?_); refine goesL_ (some 97) rfl rfl Tryd.func37 (by kernel_rfl) rfl #[.slice Ao49 x14_3.length co49, .slice Ao49 x14_3.length co49] rfl (by (try simp only [List.map_toArray, List.map_cons, List.map_nil]); first | done | rfl | (simp only [List.length_drop, List.length_take]; rfl) | (simp only [gt_iff_lt, Int.natCast_pos]; done) | (simp only [gt_iff_lt, Int.natCast_pos]; rfl)) ?_; (with_reducible refine (nat_Add.calls k3 (fun k_ => True) _ _ x14_3 (fun k_ => True) _ _ x14_3 t361 t364 _ ?side1 ?side2 A46.out).mono ?_); (case side1 => exact HO_14.out); (case side2 => exact HO_14.out); rintro e w52 ⟨v362, rfl, ho0, hb⟩; refine ⟨_, rfl, ?_⟩; have n0_ := Aside0.mk (Kd.V_below (by (with_reducible repeat (first | apply Kd.V_alloc | apply Kd.V_drewN | apply Kd.V_drew)); exact HO_2.out) hb); have n1_ := Aside0.mk (Kd.V_below (by (with_reducible repeat (first | apply Kd.V_alloc | apply Kd.V_drewN | apply Kd.V_drew)); exact HO_13.out) hb); have n2_ := Aside0.mk (Kd.V_below (by (with_reducible repeat (first | apply Kd.V_alloc | apply Kd.V_drewN | apply Kd.V_drew)); exact HO_14.out) hb); have n3_ := Aside0.mk (Kd.V_below (by (with_reducible repeat (first | apply Kd.V_alloc | apply Kd.V_drewN | apply Kd.V_drew)); exact HO350.out) hb); have n4_ := Aside0.mk (Kd.V_lower (Kd.V_mono (ok' := fun k_ => True) ho0 (fun k_ hk_ => trivial)) (below_size (by repeat (first | (with_reducible first | exact HB.out | apply below_alloc | apply pw_below_drewN | apply below_drew1) | exact HB.out)))); have n5_ := Aside0.mk (below_step (by repeat (first | (with_reducible first | exact HB.out | apply below_alloc | apply pw_below_drewN | apply below_drew1) | exact HB.out)) hb); clear HO_2; clear HO_13; clear HO_14; clear HO350; clear HB; have HO_2 := n0_; have HO_13 := n1_; have HO_14 := n2_; have HO350 := n3_; have HO363 := n4_; have HB := n5_; clear n0_ n1_ n2_ n3_ n4_ n5_; (try clear hb); (try clear hb2); (try clear hk); (try clear hi); (try clear ho0)) | ((with_reducible refine gate_callee (f := 31) rfl ?_); refine goesL_ (some 103) rfl rfl Tryd.func31 (by kernel_rfl) rfl #[.slice Ao48 x13_3.length co48, .int .u64 2, .int .u64 0] rfl (by (try simp only [List.map_toArray, List.map_cons, List.map_nil]); first | done | rfl | (simp only [List.length_drop, List.length_take]; rfl) | (simp only [gt_iff_lt, Int.natCast_pos]; done) | (simp only [gt_iff_lt, Int.natCast_pos]; rfl)) ?_; (with_reducible refine (nat_MulAdd.calls k3 _ _ x13_3 2 0 t365 t368 _ ?side1 ?side2 A47.out).mono ?_); (case side1 => repeat (first | exact (Kd.V_reads' HO_13.out).2.2 | (with_reducible refine Kd.C_alloc ?_ _) | (with_reducible refine Kd.C_drewN ?_ _) | (with_reducible refine Kd.C_drew ?_))); (case side2 => exact (Kd.V_reads' HO_13.out).2.1); rintro e w53 ⟨v366, rfl, ho0, hb⟩; refine ⟨_, rfl, ?_⟩; have n0_ := Aside0.mk (Kd.V_below (by (with_reducible repeat (first | apply Kd.V_alloc | apply Kd.V_drewN | apply Kd.V_drew)); exact HO_2.out) hb); have n1_ := Aside0.mk (Kd.V_below (by (with_reducible repeat (first | apply Kd.V_alloc | apply Kd.V_drewN | apply Kd.V_drew)); exact HO_13.out) hb); have n2_ := Aside0.mk (Kd.V_below (by (with_reducible repeat (first | apply Kd.V_alloc | apply Kd.V_drewN | apply Kd.V_drew)); exact HO_14.out) hb); have n3_ := Aside0.mk (Kd.V_below (by (with_reducible repeat (first | apply Kd.V_alloc | apply Kd.V_drewN | apply Kd.V_drew)); exact HO350.out) hb); have n4_ := Aside0.mk (Kd.V_below (by (with_reducible repeat (first | apply Kd.V_alloc | apply Kd.V_drewN | apply Kd.V_drew)); exact HO363.out) hb); have n5_ := Aside0.mk (Kd.V_lower (Kd.V_mono (ok' := fun k_ => True) ho0 (fun k_ hk_ => trivial)) (below_size (by repeat (first | (with_reducible first | exact HB.out | apply below_alloc | apply pw_below_drewN | apply below_drew1) | exact HB.out)))); have n6_ := Aside0.mk (below_step (by repeat (first | (with_reducible first | exact HB.out | apply below_alloc | apply pw_below_drewN | apply below_drew1) | exact HB.out)) hb); clear HO_2; clear HO_13; clear HO_14; clear HO350; clear HO363; clear HB; have HO_2 := n0_; have HO_13 := n1_; have HO_14 := n2_; have HO350 := n3_; have HO363 := n4_; have HO367 := n5_; have HB := n6_; clear n0_ n1_ n2_ n3_ n4_ n5_ n6_; (try clear hb); (try clear hb2); (try clear hk); (try clear hi); (try clear ho0)))
                          go_roundg k3
                          case measure => have := HJ6.out; have := HJ21.out; have := HK3.out; omega
                          case rel => exact ⟨(wrap64 (x3_3 - 1)), (t365), (t361), (by first | rfl | (have e_ := Option.some.inj (A20.out.symm.trans A21.out); cases e_; rfl) | (have e_ := Option.some.inj (A20.out.symm.trans A33.out); cases e_; rfl) | (have e_ := Option.some.inj (A21.out.symm.trans A33.out); cases e_; rfl) | (simp; done) | (simp [*]; done)), H', ⟨by have := HJ6.out; have := HJ21.out; have := HK3.out; omega⟩, ⟨by (with_reducible repeat (first | apply Kd.V_alloc | apply Kd.V_drewN | apply Kd.V_drew)); exact HO_2.out⟩, ⟨by (with_reducible repeat (first | apply Kd.V_alloc | apply Kd.V_drewN | apply Kd.V_drew)); exact HO367.out⟩, ⟨by (with_reducible repeat (first | apply Kd.V_alloc | apply Kd.V_drewN | apply Kd.V_drew)); exact HO363.out⟩, ⟨by repeat (first | (with_reducible first | exact HB.out | apply below_alloc | apply pw_below_drewN | apply below_drew1) | exact HB.out)⟩⟩
                      · rw [if_neg c34] at H
                        have c34b0 : decide (t345 < 66) = false := decide_eq_false c34
                        clear c34
                        replace H := Option.bind_eq_some_iff.mp H
                        obtain ⟨⟨t346, t347⟩, A540, H⟩ := H
                        replace H : (some (t346, t347)) = some (r1, r2) := H
                        have A54 := Aside0.mk A540
                        clear A540
                        simp only [Option.some.injEq, Prod.mk.injEq] at H
                        obtain ⟨rfl, rfl⟩ := H
                        obtain ⟨Ao55, co55, eo55⟩ := Kd.V_slice HO_13.out
                        subst eo55
                        go_wp2_with (first | ((with_reducible refine gate_callee (f := 13) rfl ?_); refine goesL_ (some 76) rfl rfl Tryd.func13 (by kernel_rfl) rfl #[.slice Ao55 x13_3.length co55] rfl (by (try simp only [List.map_toArray, List.map_cons, List.map_nil]); first | done | rfl | (simp only [List.length_drop, List.length_take]; rfl) | (simp only [gt_iff_lt, Int.natCast_pos]; done) | (simp only [gt_iff_lt, Int.natCast_pos]; rfl)) ?_; (with_reducible refine (nat_BitLen.calls k3 _ _ x13_3 t345 _ ?side1 ?side2 A33.out).mono ?_); (case side1 => repeat (first | exact (Kd.V_reads' HO_13.out).2.2 | (with_reducible refine Kd.C_alloc ?_ _) | (with_reducible refine Kd.C_drewN ?_ _) | (with_reducible refine Kd.C_drew ?_))); (case side2 => exact (Kd.V_reads' HO_13.out).2.1); rintro e w' ⟨rfl, ⟨nd, rfl⟩⟩; refine ⟨_, rfl, ?_⟩; obtain ⟨Ao56, co56, eo56⟩ := Kd.V_slice HO_14.out; subst eo56) | ((with_reducible refine gate_callee (f := 15) rfl ?_); refine goesL_ (some 114) rfl rfl Tryd.func15 (by kernel_rfl) rfl #[.bool a0, .slice Ao55 x13_3.length co55, .int .i64 x3_3, .bool (decide ((x14_3.length : Int) > 0))] rfl (by (try simp only [List.map_toArray, List.map_cons, List.map_nil]); first | done | rfl | (simp only [List.length_drop, List.length_take]; rfl) | (simp only [gt_iff_lt, Int.natCast_pos]; done) | (simp only [gt_iff_lt, Int.natCast_pos]; rfl)) ?_; (with_reducible refine (ieee_Round.calls k3 a0 _ _ x13_3 x3_3 (decide ((x14_3.length : Int) > 0)) t346 t347 _ ?side3 ?side1 ?side2 A54.out).mono ?_); (case side1 => repeat (first | exact (Kd.V_reads' HO_13.out).2.2 | (with_reducible refine Kd.C_alloc ?_ _) | (with_reducible refine Kd.C_drewN ?_ _) | (with_reducible refine Kd.C_drew ?_))); (case side2 => exact (Kd.V_reads' HO_13.out).2.1); (case side3 => repeat (first | exact (Kd.C_below HT.out (by repeat (first | (with_reducible first | exact HB.out | apply below_alloc | apply pw_below_drewN | apply below_drew1) | exact HB.out))) | (with_reducible refine Kd.C_alloc ?_ _) | (with_reducible refine Kd.C_drewN ?_ _) | (with_reducible refine Kd.C_drew ?_))); rintro e w57 ⟨rfl, hb⟩; refine ⟨_, rfl, ?_⟩; have n0_ := Aside0.mk (Kd.V_below (by (with_reducible repeat (first | apply Kd.V_alloc | apply Kd.V_drewN | apply Kd.V_drew)); exact HO_2.out) hb); have n1_ := Aside0.mk (Kd.V_below (by (with_reducible repeat (first | apply Kd.V_alloc | apply Kd.V_drewN | apply Kd.V_drew)); exact HO_13.out) hb); have n2_ := Aside0.mk (Kd.V_below (by (with_reducible repeat (first | apply Kd.V_alloc | apply Kd.V_drewN | apply Kd.V_drew)); exact HO_14.out) hb); have n3_ := Aside0.mk (below_step (by repeat (first | (with_reducible first | exact HB.out | apply below_alloc | apply pw_below_drewN | apply below_drew1) | exact HB.out)) hb); clear HO_2; clear HO_13; clear HO_14; clear HB; have HO_2 := n0_; have HO_13 := n1_; have HO_14 := n2_; have HB := n3_; clear n0_ n1_ n2_ n3_; (try clear hb); (try clear hb2); (try clear hk); (try clear hi)))
                        go_ret2
                        exact ⟨by first | rfl | (have e_ := Option.some.inj (A20.out.symm.trans A21.out); cases e_; rfl) | (have e_ := Option.some.inj (A20.out.symm.trans A33.out); cases e_; rfl) | (have e_ := Option.some.inj (A21.out.symm.trans A33.out); cases e_; rfl) | (simp [errW_none, errW_some] <;> rfl) | (simp [*, errW_none, errW_some] <;> rfl), by repeat (first | (with_reducible first | exact HB.out | apply below_alloc | apply pw_below_drewN | apply below_drew1) | exact HB.out)⟩
                · rw [if_neg c30] at H
                  have c30b0 : (t344 == 0) = false := beq_eq_false_iff_ne.mpr c30
                  have c30b1 : (t344 != 0) = true := bne_iff_ne.mpr c30
                  simp only [Option.some.injEq, Prod.mk.injEq] at H
                  obtain ⟨rfl, rfl⟩ := H
                  obtain ⟨Ao58, co58, eo58⟩ := Kd.V_slice HO_1.out
                  subst eo58
                  go_wp2_with (first | ((with_reducible refine gate_callee (f := 49) rfl ?_); refine goesL_ (some 68) rfl rfl Tryd.func49 (by kernel_rfl) rfl #[.slice Ao58 x1_21.length co58, .slice Ao23 t325.length co23] rfl (by (try simp only [List.map_toArray, List.map_cons, List.map_nil]); first | done | rfl | (simp only [List.length_drop, List.length_take]; rfl) | (simp only [gt_iff_lt, Int.natCast_pos]; done) | (simp only [gt_iff_lt, Int.natCast_pos]; rfl)) ?_; (with_reducible refine (quot_DivMod.calls kj21 _ _ x1_21 _ _ t325 t338 t341 t344 _ ?side5 ?side1 ?side2 ?side3 ?side4 A29.out).mono ?_); (case side1 => repeat (first | exact (Kd.V_reads' HO_1.out).2.2 | (with_reducible refine Kd.C_alloc ?_ _) | (with_reducible refine Kd.C_drewN ?_ _) | (with_reducible refine Kd.C_drew ?_))); (case side2 => exact (Kd.V_reads' HO_1.out).2.1); (case side3 => repeat (first | exact (Kd.V_reads' HO_2.out).2.2 | (with_reducible refine Kd.C_alloc ?_ _) | (with_reducible refine Kd.C_drewN ?_ _) | (with_reducible refine Kd.C_drew ?_))); (case side4 => exact (Kd.V_reads' HO_2.out).2.1); (case side5 => repeat (first | exact (Kd.C_below HT.out HB.out) | (with_reducible refine Kd.C_alloc ?_ _) | (with_reducible refine Kd.C_drewN ?_ _) | (with_reducible refine Kd.C_drew ?_))); rintro e w59 ⟨v339, v342, rfl, ho0, ho1, hb⟩; refine ⟨_, rfl, ?_⟩; have n0_ := Aside0.mk (Kd.V_below (by (with_reducible repeat (first | apply Kd.V_alloc | apply Kd.V_drewN | apply Kd.V_drew)); exact HO_1.out) hb); have n1_ := Aside0.mk (Kd.V_below (by (with_reducible repeat (first | apply Kd.V_alloc | apply Kd.V_drewN | apply Kd.V_drew)); exact HO_2.out) hb); have n2_ := Aside0.mk (Kd.V_lower (Kd.V_mono (ok' := fun k_ => True) ho0 (fun k_ hk_ => trivial)) (below_size (by repeat (first | (with_reducible first | exact HB.out | apply below_alloc | apply pw_below_drewN | apply below_drew1) | exact HB.out)))); have n3_ := Aside0.mk (Kd.V_lower (Kd.V_mono (ok' := fun k_ => True) ho1 (fun k_ hk_ => trivial)) (below_size (by repeat (first | (with_reducible first | exact HB.out | apply below_alloc | apply pw_below_drewN | apply below_drew1) | exact HB.out)))); have n4_ := Aside0.mk (below_step (by repeat (first | (with_reducible first | exact HB.out | apply below_alloc | apply pw_below_drewN | apply below_drew1) | exact HB.out)) hb); clear HO_1; clear HO_2; clear HB; have HO_1 := n0_; have HO_2 := n1_; have HO340 := n2_; have HO343 := n3_; have HB := n4_; clear n0_ n1_ n2_ n3_ n4_; (try clear hb); (try clear hb2); (try clear hk); (try clear hi); (try clear ho0); (try clear ho1)))
                  go_ret2
                  exact ⟨by first | rfl | (have e_ := Option.some.inj (A20.out.symm.trans A21.out); cases e_; rfl) | (simp [errW_none, errW_some] <;> rfl) | (simp [*, errW_none, errW_some] <;> rfl), by repeat (first | (with_reducible first | exact HB.out | apply below_alloc | apply pw_below_drewN | apply below_drew1) | exact HB.out)⟩

/-! ### ieee_Abs: function 20 -/
def ieee_Abs.f (a0 : Int) : Option (Int) := some (Go.bits .andNot .u64 a0 9223372036854775808)
set_option maxHeartbeats 8000000 in
set_option maxRecDepth 100000 in
theorem ieee_Abs.calls (a0 : Int) (r : Int) (w : World) (h : ieee_Abs.f a0 = some r) :
    Calls Tryd.prog 20 #[.int .u64 a0] w fun e w' => e = .returned (.int .u64 r) ∧ Drawn0 w w' := by
  have H : (some (Go.bits .andNot .u64 a0 9223372036854775808)) = some r := h
  clear h
  obtain rfl := Option.some.inj H
  go_enter Tryd.func20, Tryd.ntmps20
  go_wp2
  go_ret
  exact ⟨by first | rfl | (simp; done) | (simp [*]; done), by repeat (first | exact Drawn0.refl _ | apply Drawn0.step)⟩

/-! ### ieee_Class: function 19 -/
def ieee_Class.f (a0 : Int) : Option (Int) := (ieee_Abs.f a0).bind fun t369 => (if t369 = 0 then (some 0) else (if t369 < 4503599627370496 then (some 1) else (if t369 < 9218868437227405312 then (some 2) else (if t369 = 9218868437227405312 then (some 3) else (some 4)))))
set_option maxHeartbeats 8000000 in
set_option maxRecDepth 100000 in
theorem ieee_Class.calls (a0 : Int) (r : Int) (w : World) (h : ieee_Class.f a0 = some r) :
    Calls Tryd.prog 19 #[.int .u64 a0] w fun e w' => e = .returned (.int .i64 r) ∧ Drawn0 w w' := by
  have H : ((ieee_Abs.f a0).bind fun t369 => (if t369 = 0 then (some 0) else (if t369 < 4503599627370496 then (some 1) else (if t369 < 9218868437227405312 then (some 2) else (if t369 = 9218868437227405312 then (some 3) else (some 4)))))) = some r := h
  clear h
  replace H := Option.bind_eq_some_iff.mp H
  obtain ⟨t369, A20, H⟩ := H
  replace H : (if t369 = 0 then (some 0) else (if t369 < 4503599627370496 then (some 1) else (if t369 < 9218868437227405312 then (some 2) else (if t369 = 9218868437227405312 then (some 3) else (some 4))))) = some r := H
  have A2 := Aside0.mk A20
  clear A20
  by_cases c3 : t369 = 0
  · rw [if_pos c3] at H
    have c3b0 : (t369 == 0) = true := beq_iff_eq.mpr c3
    have c3b1 : (t369 != 0) = false := bne_eq_false_iff_eq.mpr c3
    clear c3
    obtain rfl := Option.some.inj H
    go_enter Tryd.func19, Tryd.ntmps19
    go_wp2_with (first | ((with_reducible refine gate_callee (f := 20) rfl ?_); refine goesL_ (some 4) rfl rfl Tryd.func20 (by kernel_rfl) rfl #[.int .u64 a0] rfl (by (try simp only [List.map_toArray, List.map_cons, List.map_nil]); first | done | rfl | (simp only [List.length_drop, List.length_take]; rfl) | (simp only [gt_iff_lt, Int.natCast_pos]; done) | (simp only [gt_iff_lt, Int.natCast_pos]; rfl)) ?_; (with_reducible refine (ieee_Abs.calls a0 t369 _ A2.out).mono ?_); rintro e w' ⟨rfl, ⟨nd, rfl⟩⟩; refine ⟨_, rfl, ?_⟩))
    go_ret
    exact ⟨by first | rfl | (simp; done) | (simp [*]; done), by repeat (first | exact Drawn0.refl _ | apply Drawn0.step)⟩
  · rw [if_neg c3] at H
    have c3b0 : (t369 == 0) = false := beq_eq_false_iff_ne.mpr c3
    have c3b1 : (t369 != 0) = true := bne_iff_ne.mpr c3
    by_cases c4 : t369 < 4503599627370496
    · rw [if_pos c4] at H
      have c4b0 : decide (t369 < 4503599627370496) = true := decide_eq_true c4
      clear c4
      obtain rfl := Option.some.inj H
      go_enter Tryd.func19, Tryd.ntmps19
      go_wp2_with (first | ((with_reducible refine gate_callee (f := 20) rfl ?_); refine goesL_ (some 4) rfl rfl Tryd.func20 (by kernel_rfl) rfl #[.int .u64 a0] rfl (by (try simp only [List.map_toArray, List.map_cons, List.map_nil]); first | done | rfl | (simp only [List.length_drop, List.length_take]; rfl) | (simp only [gt_iff_lt, Int.natCast_pos]; done) | (simp only [gt_iff_lt, Int.natCast_pos]; rfl)) ?_; (with_reducible refine (ieee_Abs.calls a0 t369 _ A2.out).mono ?_); rintro e w' ⟨rfl, ⟨nd, rfl⟩⟩; refine ⟨_, rfl, ?_⟩))
      go_ret
      exact ⟨by first | rfl | (simp; done) | (simp [*]; done), by repeat (first | exact Drawn0.refl _ | apply Drawn0.step)⟩
    · rw [if_neg c4] at H
      have c4b0 : decide (t369 < 4503599627370496) = false := decide_eq_false c4
      clear c4
      by_cases c5 : t369 < 9218868437227405312
      · rw [if_pos c5] at H
        have c5b0 : decide (t369 < 9218868437227405312) = true := decide_eq_true c5
        clear c5
        obtain rfl := Option.some.inj H
        go_enter Tryd.func19, Tryd.ntmps19
        go_wp2_with (first | ((with_reducible refine gate_callee (f := 20) rfl ?_); refine goesL_ (some 4) rfl rfl Tryd.func20 (by kernel_rfl) rfl #[.int .u64 a0] rfl (by (try simp only [List.map_toArray, List.map_cons, List.map_nil]); first | done | rfl | (simp only [List.length_drop, List.length_take]; rfl) | (simp only [gt_iff_lt, Int.natCast_pos]; done) | (simp only [gt_iff_lt, Int.natCast_pos]; rfl)) ?_; (with_reducible refine (ieee_Abs.calls a0 t369 _ A2.out).mono ?_); rintro e w' ⟨rfl, ⟨nd, rfl⟩⟩; refine ⟨_, rfl, ?_⟩))
        go_ret
        exact ⟨by first | rfl | (simp; done) | (simp [*]; done), by repeat (first | exact Drawn0.refl _ | apply Drawn0.step)⟩
      · rw [if_neg c5] at H
        have c5b0 : decide (t369 < 9218868437227405312) = false := decide_eq_false c5
        clear c5
        by_cases c6 : t369 = 9218868437227405312
        · rw [if_pos c6] at H
          have c6b0 : (t369 == 9218868437227405312) = true := beq_iff_eq.mpr c6
          have c6b1 : (t369 != 9218868437227405312) = false := bne_eq_false_iff_eq.mpr c6
          clear c6
          obtain rfl := Option.some.inj H
          go_enter Tryd.func19, Tryd.ntmps19
          go_wp2_with (first | ((with_reducible refine gate_callee (f := 20) rfl ?_); refine goesL_ (some 4) rfl rfl Tryd.func20 (by kernel_rfl) rfl #[.int .u64 a0] rfl (by (try simp only [List.map_toArray, List.map_cons, List.map_nil]); first | done | rfl | (simp only [List.length_drop, List.length_take]; rfl) | (simp only [gt_iff_lt, Int.natCast_pos]; done) | (simp only [gt_iff_lt, Int.natCast_pos]; rfl)) ?_; (with_reducible refine (ieee_Abs.calls a0 t369 _ A2.out).mono ?_); rintro e w' ⟨rfl, ⟨nd, rfl⟩⟩; refine ⟨_, rfl, ?_⟩))
          go_ret
          exact ⟨by first | rfl | (simp; done) | (simp [*]; done), by repeat (first | exact Drawn0.refl _ | apply Drawn0.step)⟩
        · rw [if_neg c6] at H
          have c6b0 : (t369 == 9218868437227405312) = false := beq_eq_false_iff_ne.mpr c6
          have c6b1 : (t369 != 9218868437227405312) = true := bne_iff_ne.mpr c6
          obtain rfl := Option.some.inj H
          go_enter Tryd.func19, Tryd.ntmps19
          go_wp2_with (first | ((with_reducible refine gate_callee (f := 20) rfl ?_); refine goesL_ (some 4) rfl rfl Tryd.func20 (by kernel_rfl) rfl #[.int .u64 a0] rfl (by (try simp only [List.map_toArray, List.map_cons, List.map_nil]); first | done | rfl | (simp only [List.length_drop, List.length_take]; rfl) | (simp only [gt_iff_lt, Int.natCast_pos]; done) | (simp only [gt_iff_lt, Int.natCast_pos]; rfl)) ?_; (with_reducible refine (ieee_Abs.calls a0 t369 _ A2.out).mono ?_); rintro e w' ⟨rfl, ⟨nd, rfl⟩⟩; refine ⟨_, rfl, ?_⟩))
          go_ret
          exact ⟨by first | rfl | (simp; done) | (simp [*]; done), by repeat (first | exact Drawn0.refl _ | apply Drawn0.step)⟩

/-! ### ieee_Decode: function 17 (its contract by hand) -/
/-- Whatever is known of a world: it goes by a name of its own. -/
theorem ieee_Decode.gen {G : World → Prop} {W : World} (P : World → Prop) (hP : P W) (h : ∀ W', P W' → G W') : G W := h W hP
def ieee_Decode.f (a0 : Int) : Option (Bool × Int × Int × Int) := (ieee_Class.f a0).bind fun t => (if t = 1 then (some (((Go.bits .and .u64 a0 9223372036854775808) != 0), t, Go.bits .and .u64 a0 4503599627370495, (-1074))) else (if t = 2 then (some (((Go.bits .and .u64 a0 9223372036854775808) != 0), t, Go.bits .or .u64 4503599627370496 (Go.bits .and .u64 a0 4503599627370495), wrap64 ((wrap64 (Go.bits .and .u64 (a0 / 4503599627370496) 2047)) - 1075))) else (if t = 4 then (some (((Go.bits .and .u64 a0 9223372036854775808) != 0), t, Go.bits .and .u64 a0 4503599627370495, 0)) else (some (((Go.bits .and .u64 a0 9223372036854775808) != 0), t, 0, 0)))))
set_option maxHeartbeats 4000000 in
set_option maxRecDepth 100000 in
theorem ieee_Decode.calls (a0 : Int) (r1 : Bool) (r2 : Int) (r3 : Int) (r4 : Int) (w : World) (h : ieee_Decode.f a0 = some (r1, r2, r3, r4)) :
    Calls Tryd.prog 17 #[.int .u64 a0] w fun e w' => e = .returned (.agg #[.bool r1, .int .i64 r2, .int .u64 r3, .int .i64 r4]) ∧ Below w.heap.size w w' := by
  have hu35 := Tryd.underlying35
  have HB := Aside0.mk (Below.refl w.heap.size w)
  replace h := Option.bind_eq_some_iff.mp h
  obtain ⟨t, A20, H⟩ := h
  have A2 := Aside0.mk A20
  clear A20
  replace H : (if t = 1 then (some (((Go.bits .and .u64 a0 9223372036854775808) != 0), t, Go.bits .and .u64 a0 4503599627370495, (-1074))) else (if t = 2 then (some (((Go.bits .and .u64 a0 9223372036854775808) != 0), t, Go.bits .or .u64 4503599627370496 (Go.bits .and .u64 a0 4503599627370495), wrap64 ((wrap64 (Go.bits .and .u64 (a0 / 4503599627370496) 2047)) - 1075))) else (if t = 4 then (some (((Go.bits .and .u64 a0 9223372036854775808) != 0), t, Go.bits .and .u64 a0 4503599627370495, 0)) else (some (((Go.bits .and .u64 a0 9223372036854775808) != 0), t, 0, 0))))) = some (r1, r2, r3, r4) := H
  by_cases c1 : t = 1
  · rw [if_pos c1] at H
    have b1 : (t == 1) = true := beq_iff_eq.mpr c1
    clear c1
    simp only [Option.some.injEq, Prod.mk.injEq] at H
    obtain ⟨rfl, rfl, rfl, rfl⟩ := H
    go_enter Tryd.func17, Tryd.ntmps17
    go_upto_region 11 with (first | ((with_reducible refine gate_dst (N := 2) rfl ?_); refine box_event ?hg (N := 2) ?hd (cs := #[.bool false, .int .i64 0, .int .u64 (0), .int .i64 (0)]) (t := 35) ?hr ?_; (case hd => rfl); (case hg => rfl); (case hr => first | (go_simp; done) | (go_simp; rfl)); intro g1 hg w4 hbox hb; have n0_ := Aside0.mk (below_step (by repeat (first | (with_reducible first | exact HB.out | apply below_alloc | apply pw_below_drewN | apply below_drew1) | exact HB.out)) hb); have n1_ := Aside0.mk (hbox); have n2_ := Aside0.mk ((by rw [hg]; exact (below_size (by repeat (first | (with_reducible first | exact HB.out | apply below_alloc | apply pw_below_drewN | apply below_drew1) | exact HB.out))) : w.heap.size ≤ g1)); clear HB; have HB := n0_; have BK1 := n1_; have GE1 := n2_; clear n0_ n1_ n2_; clear hb hbox hg) | ((with_reducible refine gate_callee (f := 19) rfl ?_); refine goesL_ (some 8) rfl rfl Tryd.func19 (by kernel_rfl) rfl #[.int .u64 a0] rfl (by (try simp only [List.map_toArray, List.map_cons, List.map_nil]); first | done | rfl) ?_; (with_reducible refine (ieee_Class.calls a0 t _ A2.out).mono ?_); rintro e w' ⟨rfl, ⟨nd, rfl⟩⟩; refine ⟨_, rfl, ?_⟩) | ((with_reducible refine gate_dst (N := 3) rfl ?_); refine box_event ?hg (N := 3) ?hd (cs := #[.bool false, .int .i64 0, .int .u64 (0), .int .i64 (0)]) (t := 35) ?hr ?_; (case hd => rfl); (case hg => rfl); (case hr => first | (go_simp; done) | (go_simp; rfl)); intro g2 hg w5 hbox hb; have n0_ := Aside0.mk (blk_below (g := g1) (o := .cells #[.bool false, .int .i64 0, .int .u64 (0), .int .i64 (0)] 35 (0, 0)) (by (with_reducible repeat (first | refine blk_drewN ?_ _ | refine blk_drew ?_ | refine blk_alloc ?_ _)); exact BK1.out) hb); have n1_ := Aside0.mk (below_step (by repeat (first | (with_reducible first | exact HB.out | apply below_alloc | apply pw_below_drewN | apply below_drew1 | refine below_set ?_ GE1.out) | exact HB.out)) hb); have n2_ := Aside0.mk (hbox); have n3_ := Aside0.mk ((by rw [hg]; exact (below_size (by repeat (first | (with_reducible first | exact HB.out | apply below_alloc | apply pw_below_drewN | apply below_drew1 | refine below_set ?_ GE1.out) | exact HB.out))) : w.heap.size ≤ g2)); have n5_ := Aside0.mk ((by rw [hg]; exact Nat.ne_of_lt (blk_lt (g := g1) (o := .cells #[.bool false, .int .i64 0, .int .u64 (0), .int .i64 (0)] 35 (0, 0)) (by (with_reducible repeat (first | refine blk_drewN ?_ _ | refine blk_drew ?_ | refine blk_alloc ?_ _)); exact BK1.out)) : g1 ≠ g2)); clear BK1; clear HB; have BK1 := n0_; have HB := n1_; have BK2 := n2_; have GE2 := n3_; have NB := n5_; clear n0_ n1_ n2_ n3_ n5_; clear hb hbox hg; have hc0 : w5.cell? ⟨g2, 0, none⟩ = some (.bool false) := (blk_cell BK2.out 0).trans rfl; have hc1 : w5.cell? ⟨g2, 1, none⟩ = some (.int .i64 0) := (blk_cell BK2.out 1).trans rfl; have hc2 : w5.cell? ⟨g2, 2, none⟩ = some (.int .u64 0) := (blk_cell BK2.out 2).trans rfl; have hc3 : w5.cell? ⟨g2, 3, none⟩ = some (.int .i64 0) := (blk_cell BK2.out 3).trans rfl; have hf0 := blk_frozen BK2.out 0; have hf1 := blk_frozen BK2.out 1; have hf2 := blk_frozen BK2.out 2; have hf3 := blk_frozen BK2.out 3))
    refine ieee_Decode.gen (fun W' => W'.heap[g2]? = some (.cells #[.bool ((Go.bits .and .u64 a0 9223372036854775808) != 0), .int .i64 t, .int .u64 (Go.bits .and .u64 a0 4503599627370495), .int .i64 ((-1074))] 35 (0, 0)) ∧ W'.heap[g1]? = some (.cells #[.bool false, .int .i64 0, .int .u64 (0), .int .i64 (0)] 35 (0, 0)) ∧ Below w.heap.size w W') ⟨?_, ?_, ?_⟩ (fun W6 h6 => ?_)
    · (with_reducible repeat (first | refine blk_drewN ?_ _ | refine blk_drew ?_ | refine blk_alloc ?_ _)); refine blk_put (cs := #[.bool ((Go.bits .and .u64 a0 9223372036854775808) != 0), .int .i64 t, .int .u64 (Go.bits .and .u64 a0 4503599627370495), .int .i64 (0)]) ?_ 3 _ rfl; (with_reducible repeat (first | refine blk_drewN ?_ _ | refine blk_drew ?_ | refine blk_alloc ?_ _)); refine blk_put (cs := #[.bool ((Go.bits .and .u64 a0 9223372036854775808) != 0), .int .i64 t, .int .u64 (0), .int .i64 (0)]) ?_ 2 _ rfl; (with_reducible repeat (first | refine blk_drewN ?_ _ | refine blk_drew ?_ | refine blk_alloc ?_ _)); refine blk_put (cs := #[.bool ((Go.bits .and .u64 a0 9223372036854775808) != 0), .int .i64 t, .int .u64 (0), .int .i64 (0)]) ?_ 3 _ rfl; (with_reducible repeat (first | refine blk_drewN ?_ _ | refine blk_drew ?_ | refine blk_alloc ?_ _)); refine blk_put (cs := #[.bool ((Go.bits .and .u64 a0 9223372036854775808) != 0), .int .i64 t, .int .u64 (0), .int .i64 (0)]) ?_ 2 _ rfl; (with_reducible repeat (first | refine blk_drewN ?_ _ | refine blk_drew ?_ | refine blk_alloc ?_ _)); refine blk_put (cs := #[.bool ((Go.bits .and .u64 a0 9223372036854775808) != 0), .int .i64 0, .int .u64 (0), .int .i64 (0)]) ?_ 1 _ rfl; (with_reducible repeat (first | refine blk_drewN ?_ _ | refine blk_drew ?_ | refine blk_alloc ?_ _)); refine blk_put (cs := #[.bool false, .int .i64 0, .int .u64 (0), .int .i64 (0)]) ?_ 0 _ rfl; (with_reducible repeat (first | refine blk_drewN ?_ _ | refine blk_drew ?_ | refine blk_alloc ?_ _)); exact BK2.out
    · (with_reducible repeat (first | refine blk_drewN ?_ _ | refine blk_drew ?_ | refine blk_alloc ?_ _)); refine blk_far ?_ NB.out _; (with_reducible repeat (first | refine blk_drewN ?_ _ | refine blk_drew ?_ | refine blk_alloc ?_ _)); refine blk_far ?_ NB.out _; (with_reducible repeat (first | refine blk_drewN ?_ _ | refine blk_drew ?_ | refine blk_alloc ?_ _)); refine blk_far ?_ NB.out _; (with_reducible repeat (first | refine blk_drewN ?_ _ | refine blk_drew ?_ | refine blk_alloc ?_ _)); refine blk_far ?_ NB.out _; (with_reducible repeat (first | refine blk_drewN ?_ _ | refine blk_drew ?_ | refine blk_alloc ?_ _)); refine blk_far ?_ NB.out _; (with_reducible repeat (first | refine blk_drewN ?_ _ | refine blk_drew ?_ | refine blk_alloc ?_ _)); refine blk_far ?_ NB.out _; (with_reducible repeat (first | refine blk_drewN ?_ _ | refine blk_drew ?_ | refine blk_alloc ?_ _)); exact BK1.out
    · repeat (first | (with_reducible first | exact HB.out | apply below_alloc | apply pw_below_drewN | apply below_drew1 | refine below_set ?_ GE1.out | refine below_set ?_ GE2.out) | exact HB.out)
    clear hc0 hc1 hc2 hc3 hf0 hf1 hf2 hf3 HB BK1 BK2
    obtain ⟨k2, k1, k3⟩ := h6
    have hd0 : W6.cell? ⟨g2, 0, none⟩ = some (.bool ((Go.bits .and .u64 a0 9223372036854775808) != 0)) := (blk_cell k2 0).trans rfl
    have hd1 : W6.cell? ⟨g2, 1, none⟩ = some (.int .i64 t) := (blk_cell k2 1).trans rfl
    have hd2 : W6.cell? ⟨g2, 2, none⟩ = some (.int .u64 (Go.bits .and .u64 a0 4503599627370495)) := (blk_cell k2 2).trans rfl
    have hd3 : W6.cell? ⟨g2, 3, none⟩ = some (.int .i64 ((-1074))) := (blk_cell k2 3).trans rfl
    have he0 : W6.cell? ⟨g1, 0, none⟩ = some (.bool false) := (blk_cell k1 0).trans rfl
    have hf0 := blk_frozen k1 0
    have he1 : W6.cell? ⟨g1, 1, none⟩ = some (.int .i64 0) := (blk_cell k1 1).trans rfl
    have hf1 := blk_frozen k1 1
    have he2 : W6.cell? ⟨g1, 2, none⟩ = some (.int .u64 0) := (blk_cell k1 2).trans rfl
    have hf2 := blk_frozen k1 2
    have he3 : W6.cell? ⟨g1, 3, none⟩ = some (.int .i64 0) := (blk_cell k1 3).trans rfl
    have hf3 := blk_frozen k1 3
    have K1 := Aside0.mk k1
    have K3 := Aside0.mk k3
    clear k1 k2 k3
    go_wp2
    refine bodyPost_ret (results_cell_row rfl _ _ g1 35 #[.bool ((Go.bits .and .u64 a0 9223372036854775808) != 0), .int .i64 t, .int .u64 (Go.bits .and .u64 a0 4503599627370495), .int .i64 ((-1074))] (0, 0) _ rfl (by (with_reducible repeat (first | refine blk_drewN ?_ _ | refine blk_drew ?_ | refine blk_alloc ?_ _)); refine blk_put (cs := #[.bool ((Go.bits .and .u64 a0 9223372036854775808) != 0), .int .i64 t, .int .u64 (Go.bits .and .u64 a0 4503599627370495), .int .i64 (0)]) ?_ 3 _ rfl; (with_reducible repeat (first | refine blk_drewN ?_ _ | refine blk_drew ?_ | refine blk_alloc ?_ _)); refine blk_put (cs := #[.bool ((Go.bits .and .u64 a0 9223372036854775808) != 0), .int .i64 t, .int .u64 (0), .int .i64 (0)]) ?_ 2 _ rfl; (with_reducible repeat (first | refine blk_drewN ?_ _ | refine blk_drew ?_ | refine blk_alloc ?_ _)); refine blk_put (cs := #[.bool ((Go.bits .and .u64 a0 9223372036854775808) != 0), .int .i64 0, .int .u64 (0), .int .i64 (0)]) ?_ 1 _ rfl; (with_reducible repeat (first | refine blk_drewN ?_ _ | refine blk_drew ?_ | refine blk_alloc ?_ _)); refine blk_put (cs := #[.bool false, .int .i64 0, .int .u64 (0), .int .i64 (0)]) ?_ 0 _ rfl; (with_reducible repeat (first | refine blk_drewN ?_ _ | refine blk_drew ?_ | refine blk_alloc ?_ _)); exact K1.out) Tryd.underlying35 rfl (by kernel_rfl)) rfl ?_
    exact ⟨rfl, by repeat (first | (with_reducible first | exact K3.out | apply below_alloc | apply pw_below_drewN | apply below_drew1 | refine below_set ?_ GE1.out) | exact K3.out)⟩
  · rw [if_neg c1] at H
    have b1 : (t == 1) = false := beq_eq_false_iff_ne.mpr c1
    clear c1
    by_cases c2 : t = 2
    · rw [if_pos c2] at H
      have b2 : (t == 2) = true := beq_iff_eq.mpr c2
      clear c2
      simp only [Option.some.injEq, Prod.mk.injEq] at H
      obtain ⟨rfl, rfl, rfl, rfl⟩ := H
      go_enter Tryd.func17, Tryd.ntmps17
      go_upto_region 11 with (first | ((with_reducible refine gate_dst (N := 2) rfl ?_); refine box_event ?hg (N := 2) ?hd (cs := #[.bool false, .int .i64 0, .int .u64 (0), .int .i64 (0)]) (t := 35) ?hr ?_; (case hd => rfl); (case hg => rfl); (case hr => first | (go_simp; done) | (go_simp; rfl)); intro g1 hg w4 hbox hb; have n0_ := Aside0.mk (below_step (by repeat (first | (with_reducible first | exact HB.out | apply below_alloc | apply pw_below_drewN | apply below_drew1) | exact HB.out)) hb); have n1_ := Aside0.mk (hbox); have n2_ := Aside0.mk ((by rw [hg]; exact (below_size (by repeat (first | (with_reducible first | exact HB.out | apply below_alloc | apply pw_below_drewN | apply below_drew1) | exact HB.out))) : w.heap.size ≤ g1)); clear HB; have HB := n0_; have BK1 := n1_; have GE1 := n2_; clear n0_ n1_ n2_; clear hb hbox hg) | ((with_reducible refine gate_callee (f := 19) rfl ?_); refine goesL_ (some 8) rfl rfl Tryd.func19 (by kernel_rfl) rfl #[.int .u64 a0] rfl (by (try simp only [List.map_toArray, List.map_cons, List.map_nil]); first | done | rfl) ?_; (with_reducible refine (ieee_Class.calls a0 t _ A2.out).mono ?_); rintro e w' ⟨rfl, ⟨nd, rfl⟩⟩; refine ⟨_, rfl, ?_⟩) | ((with_reducible refine gate_dst (N := 3) rfl ?_); refine box_event ?hg (N := 3) ?hd (cs := #[.bool false, .int .i64 0, .int .u64 (0), .int .i64 (0)]) (t := 35) ?hr ?_; (case hd => rfl); (case hg => rfl); (case hr => first | (go_simp; done) | (go_simp; rfl)); intro g2 hg w5 hbox hb; have n0_ := Aside0.mk (blk_below (g := g1) (o := .cells #[.bool false, .int .i64 0, .int .u64 (0), .int .i64 (0)] 35 (0, 0)) (by (with_reducible repeat (first | refine blk_drewN ?_ _ | refine blk_drew ?_ | refine blk_alloc ?_ _)); exact BK1.out) hb); have n1_ := Aside0.mk (below_step (by repeat (first | (with_reducible first | exact HB.out | apply below_alloc | apply pw_below_drewN | apply below_drew1 | refine below_set ?_ GE1.out) | exact HB.out)) hb); have n2_ := Aside0.mk (hbox); have n3_ := Aside0.mk ((by rw [hg]; exact (below_size (by repeat (first | (with_reducible first | exact HB.out | apply below_alloc | apply pw_below_drewN | apply below_drew1 | refine below_set ?_ GE1.out) | exact HB.out))) : w.heap.size ≤ g2)); have n5_ := Aside0.mk ((by rw [hg]; exact Nat.ne_of_lt (blk_lt (g := g1) (o := .cells #[.bool false, .int .i64 0, .int .u64 (0), .int .i64 (0)] 35 (0, 0)) (by (with_reducible repeat (first | refine blk_drewN ?_ _ | refine blk_drew ?_ | refine blk_alloc ?_ _)); exact BK1.out)) : g1 ≠ g2)); clear BK1; clear HB; have BK1 := n0_; have HB := n1_; have BK2 := n2_; have GE2 := n3_; have NB := n5_; clear n0_ n1_ n2_ n3_ n5_; clear hb hbox hg; have hc0 : w5.cell? ⟨g2, 0, none⟩ = some (.bool false) := (blk_cell BK2.out 0).trans rfl; have hc1 : w5.cell? ⟨g2, 1, none⟩ = some (.int .i64 0) := (blk_cell BK2.out 1).trans rfl; have hc2 : w5.cell? ⟨g2, 2, none⟩ = some (.int .u64 0) := (blk_cell BK2.out 2).trans rfl; have hc3 : w5.cell? ⟨g2, 3, none⟩ = some (.int .i64 0) := (blk_cell BK2.out 3).trans rfl; have hf0 := blk_frozen BK2.out 0; have hf1 := blk_frozen BK2.out 1; have hf2 := blk_frozen BK2.out 2; have hf3 := blk_frozen BK2.out 3))
      refine ieee_Decode.gen (fun W' => W'.heap[g2]? = some (.cells #[.bool ((Go.bits .and .u64 a0 9223372036854775808) != 0), .int .i64 t, .int .u64 (Go.bits .or .u64 4503599627370496 (Go.bits .and .u64 a0 4503599627370495)), .int .i64 (wrap64 ((wrap64 (Go.bits .and .u64 (a0 / 4503599627370496) 2047)) - 1075))] 35 (0, 0)) ∧ W'.heap[g1]? = some (.cells #[.bool false, .int .i64 0, .int .u64 (0), .int .i64 (0)] 35 (0, 0)) ∧ Below w.heap.size w W') ⟨?_, ?_, ?_⟩ (fun W6 h6 => ?_)
      · (with_reducible repeat (first | refine blk_drewN ?_ _ | refine blk_drew ?_ | refine blk_alloc ?_ _)); refine blk_put (cs := #[.bool ((Go.bits .and .u64 a0 9223372036854775808) != 0), .int .i64 t, .int .u64 (Go.bits .or .u64 4503599627370496 (Go.bits .and .u64 a0 4503599627370495)), .int .i64 (0)]) ?_ 3 _ rfl; (with_reducible repeat (first | refine blk_drewN ?_ _ | refine blk_drew ?_ | refine blk_alloc ?_ _)); refine blk_put (cs := #[.bool ((Go.bits .and .u64 a0 9223372036854775808) != 0), .int .i64 t, .int .u64 (0), .int .i64 (0)]) ?_ 2 _ rfl; (with_reducible repeat (first | refine blk_drewN ?_ _ | refine blk_drew ?_ | refine blk_alloc ?_ _)); refine blk_put (cs := #[.bool ((Go.bits .and .u64 a0 9223372036854775808) != 0), .int .i64 t, .int .u64 (0), .int .i64 (0)]) ?_ 3 _ rfl; (with_reducible repeat (first | refine blk_drewN ?_ _ | refine blk_drew ?_ | refine blk_alloc ?_ _)); refine blk_put (cs := #[.bool ((Go.bits .and .u64 a0 9223372036854775808) != 0), .int .i64 t, .int .u64 (0), .int .i64 (0)]) ?_ 2 _ rfl; (with_reducible repeat (first | refine blk_drewN ?_ _ | refine blk_drew ?_ | refine blk_alloc ?_ _)); refine blk_put (cs := #[.bool ((Go.bits .and .u64 a0 9223372036854775808) != 0), .int .i64 0, .int .u64 (0), .int .i64 (0)]) ?_ 1 _ rfl; (with_reducible repeat (first | refine blk_drewN ?_ _ | refine blk_drew ?_ | refine blk_alloc ?_ _)); refine blk_put (cs := #[.bool false, .int .i64 0, .int .u64 (0), .int .i64 (0)]) ?_ 0 _ rfl; (with_reducible repeat (first | refine blk_drewN ?_ _ | refine blk_drew ?_ | refine blk_alloc ?_ _)); exact BK2.out
      · (with_reducible repeat (first | refine blk_drewN ?_ _ | refine blk_drew ?_ | refine blk_alloc ?_ _)); refine blk_far ?_ NB.out _; (with_reducible repeat (first | refine blk_drewN ?_ _ | refine blk_drew ?_ | refine blk_alloc ?_ _)); refine blk_far ?_ NB.out _; (with_reducible repeat (first | refine blk_drewN ?_ _ | refine blk_drew ?_ | refine blk_alloc ?_ _)); refine blk_far ?_ NB.out _; (with_reducible repeat (first | refine blk_drewN ?_ _ | refine blk_drew ?_ | refine blk_alloc ?_ _)); refine blk_far ?_ NB.out _; (with_reducible repeat (first | refine blk_drewN ?_ _ | refine blk_drew ?_ | refine blk_alloc ?_ _)); refine blk_far ?_ NB.out _; (with_reducible repeat (first | refine blk_drewN ?_ _ | refine blk_drew ?_ | refine blk_alloc ?_ _)); refine blk_far ?_ NB.out _; (with_reducible repeat (first | refine blk_drewN ?_ _ | refine blk_drew ?_ | refine blk_alloc ?_ _)); exact BK1.out
      · repeat (first | (with_reducible first | exact HB.out | apply below_alloc | apply pw_below_drewN | apply below_drew1 | refine below_set ?_ GE1.out | refine below_set ?_ GE2.out) | exact HB.out)
      clear hc0 hc1 hc2 hc3 hf0 hf1 hf2 hf3 HB BK1 BK2
      obtain ⟨k2, k1, k3⟩ := h6
      have hd0 : W6.cell? ⟨g2, 0, none⟩ = some (.bool ((Go.bits .and .u64 a0 9223372036854775808) != 0)) := (blk_cell k2 0).trans rfl
      have hd1 : W6.cell? ⟨g2, 1, none⟩ = some (.int .i64 t) := (blk_cell k2 1).trans rfl
      have hd2 : W6.cell? ⟨g2, 2, none⟩ = some (.int .u64 (Go.bits .or .u64 4503599627370496 (Go.bits .and .u64 a0 4503599627370495))) := (blk_cell k2 2).trans rfl
      have hd3 : W6.cell? ⟨g2, 3, none⟩ = some (.int .i64 (wrap64 ((wrap64 (Go.bits .and .u64 (a0 / 4503599627370496) 2047)) - 1075))) := (blk_cell k2 3).trans rfl
      have he0 : W6.cell? ⟨g1, 0, none⟩ = some (.bool false) := (blk_cell k1 0).trans rfl
      have hf0 := blk_frozen k1 0
      have he1 : W6.cell? ⟨g1, 1, none⟩ = some (.int .i64 0) := (blk_cell k1 1).trans rfl
      have hf1 := blk_frozen k1 1
      have he2 : W6.cell? ⟨g1, 2, none⟩ = some (.int .u64 0) := (blk_cell k1 2).trans rfl
      have hf2 := blk_frozen k1 2
      have he3 : W6.cell? ⟨g1, 3, none⟩ = some (.int .i64 0) := (blk_cell k1 3).trans rfl
      have hf3 := blk_frozen k1 3
      have K1 := Aside0.mk k1
      have K3 := Aside0.mk k3
      clear k1 k2 k3
      go_wp2
      refine bodyPost_ret (results_cell_row rfl _ _ g1 35 #[.bool ((Go.bits .and .u64 a0 9223372036854775808) != 0), .int .i64 t, .int .u64 (Go.bits .or .u64 4503599627370496 (Go.bits .and .u64 a0 4503599627370495)), .int .i64 (wrap64 ((wrap64 (Go.bits .and .u64 (a0 / 4503599627370496) 2047)) - 1075))] (0, 0) _ rfl (by (with_reducible repeat (first | refine blk_drewN ?_ _ | refine blk_drew ?_ | refine blk_alloc ?_ _)); refine blk_put (cs := #[.bool ((Go.bits .and .u64 a0 9223372036854775808) != 0), .int .i64 t, .int .u64 (Go.bits .or .u64 4503599627370496 (Go.bits .and .u64 a0 4503599627370495)), .int .i64 (0)]) ?_ 3 _ rfl; (with_reducible repeat (first | refine blk_drewN ?_ _ | refine blk_drew ?_ | refine blk_alloc ?_ _)); refine blk_put (cs := #[.bool ((Go.bits .and .u64 a0 9223372036854775808) != 0), .int .i64 t, .int .u64 (0), .int .i64 (0)]) ?_ 2 _ rfl; (with_reducible repeat (first | refine blk_drewN ?_ _ | refine blk_drew ?_ | refine blk_alloc ?_ _)); refine blk_put (cs := #[.bool ((Go.bits .and .u64 a0 9223372036854775808) != 0), .int .i64 0, .int .u64 (0), .int .i64 (0)]) ?_ 1 _ rfl; (with_reducible repeat (first | refine blk_drewN ?_ _ | refine blk_drew ?_ | refine blk_alloc ?_ _)); refine blk_put (cs := #[.bool false, .int .i64 0, .int .u64 (0), .int .i64 (0)]) ?_ 0 _ rfl; (with_reducible repeat (first | refine blk_drewN ?_ _ | refine blk_drew ?_ | refine blk_alloc ?_ _)); exact K1.out) Tryd.underlying35 rfl (by kernel_rfl)) rfl ?_
      exact ⟨rfl, by repeat (first | (with_reducible first | exact K3.out | apply below_alloc | apply pw_below_drewN | apply below_drew1 | refine below_set ?_ GE1.out) | exact K3.out)⟩
    · rw [if_neg c2] at H
      have b2 : (t == 2) = false := beq_eq_false_iff_ne.mpr c2
      clear c2
      by_cases c4 : t = 4
      · rw [if_pos c4] at H
        have b4 : (t == 4) = true := beq_iff_eq.mpr c4
        clear c4
        simp only [Option.some.injEq, Prod.mk.injEq] at H
        obtain ⟨rfl, rfl, rfl, rfl⟩ := H
        go_enter Tryd.func17, Tryd.ntmps17
        go_upto_region 11 with (first | ((with_reducible refine gate_dst (N := 2) rfl ?_); refine box_event ?hg (N := 2) ?hd (cs := #[.bool false, .int .i64 0, .int .u64 (0), .int .i64 (0)]) (t := 35) ?hr ?_; (case hd => rfl); (case hg => rfl); (case hr => first | (go_simp; done) | (go_simp; rfl)); intro g1 hg w4 hbox hb; have n0_ := Aside0.mk (below_step (by repeat (first | (with_reducible first | exact HB.out | apply below_alloc | apply pw_below_drewN | apply below_drew1) | exact HB.out)) hb); have n1_ := Aside0.mk (hbox); have n2_ := Aside0.mk ((by rw [hg]; exact (below_size (by repeat (first | (with_reducible first | exact HB.out | apply below_alloc | apply pw_below_drewN | apply below_drew1) | exact HB.out))) : w.heap.size ≤ g1)); clear HB; have HB := n0_; have BK1 := n1_; have GE1 := n2_; clear n0_ n1_ n2_; clear hb hbox hg) | ((with_reducible refine gate_callee (f := 19) rfl ?_); refine goesL_ (some 8) rfl rfl Tryd.func19 (by kernel_rfl) rfl #[.int .u64 a0] rfl (by (try simp only [List.map_toArray, List.map_cons, List.map_nil]); first | done | rfl) ?_; (with_reducible refine (ieee_Class.calls a0 t _ A2.out).mono ?_); rintro e w' ⟨rfl, ⟨nd, rfl⟩⟩; refine ⟨_, rfl, ?_⟩) | ((with_reducible refine gate_dst (N := 3) rfl ?_); refine box_event ?hg (N := 3) ?hd (cs := #[.bool false, .int .i64 0, .int .u64 (0), .int .i64 (0)]) (t := 35) ?hr ?_; (case hd => rfl); (case hg => rfl); (case hr => first | (go_simp; done) | (go_simp; rfl)); intro g2 hg w5 hbox hb; have n0_ := Aside0.mk (blk_below (g := g1) (o := .cells #[.bool false, .int .i64 0, .int .u64 (0), .int .i64 (0)] 35 (0, 0)) (by (with_reducible repeat (first | refine blk_drewN ?_ _ | refine blk_drew ?_ | refine blk_alloc ?_ _)); exact BK1.out) hb); have n1_ := Aside0.mk (below_step (by repeat (first | (with_reducible first | exact HB.out | apply below_alloc | apply pw_below_drewN | apply below_drew1 | refine below_set ?_ GE1.out) | exact HB.out)) hb); have n2_ := Aside0.mk (hbox); have n3_ := Aside0.mk ((by rw [hg]; exact (below_size (by repeat (first | (with_reducible first | exact HB.out | apply below_alloc | apply pw_below_drewN | apply below_drew1 | refine below_set ?_ GE1.out) | exact HB.out))) : w.heap.size ≤ g2)); have n5_ := Aside0.mk ((by rw [hg]; exact Nat.ne_of_lt (blk_lt (g := g1) (o := .cells #[.bool false, .int .i64 0, .int .u64 (0), .int .i64 (0)] 35 (0, 0)) (by (with_reducible repeat (first | refine blk_drewN ?_ _ | refine blk_drew ?_ | refine blk_alloc ?_ _)); exact BK1.out)) : g1 ≠ g2)); clear BK1; clear HB; have BK1 := n0_; have HB := n1_; have BK2 := n2_; have GE2 := n3_; have NB := n5_; clear n0_ n1_ n2_ n3_ n5_; clear hb hbox hg; have hc0 : w5.cell? ⟨g2, 0, none⟩ = some (.bool false) := (blk_cell BK2.out 0).trans rfl; have hc1 : w5.cell? ⟨g2, 1, none⟩ = some (.int .i64 0) := (blk_cell BK2.out 1).trans rfl; have hc2 : w5.cell? ⟨g2, 2, none⟩ = some (.int .u64 0) := (blk_cell BK2.out 2).trans rfl; have hc3 : w5.cell? ⟨g2, 3, none⟩ = some (.int .i64 0) := (blk_cell BK2.out 3).trans rfl; have hf0 := blk_frozen BK2.out 0; have hf1 := blk_frozen BK2.out 1; have hf2 := blk_frozen BK2.out 2; have hf3 := blk_frozen BK2.out 3))
        refine ieee_Decode.gen (fun W' => W'.heap[g2]? = some (.cells #[.bool ((Go.bits .and .u64 a0 9223372036854775808) != 0), .int .i64 t, .int .u64 (Go.bits .and .u64 a0 4503599627370495), .int .i64 (0)] 35 (0, 0)) ∧ W'.heap[g1]? = some (.cells #[.bool false, .int .i64 0, .int .u64 (0), .int .i64 (0)] 35 (0, 0)) ∧ Below w.heap.size w W') ⟨?_, ?_, ?_⟩ (fun W6 h6 => ?_)
        · (with_reducible repeat (first | refine blk_drewN ?_ _ | refine blk_drew ?_ | refine blk_alloc ?_ _)); refine blk_put (cs := #[.bool ((Go.bits .and .u64 a0 9223372036854775808) != 0), .int .i64 t, .int .u64 (0), .int .i64 (0)]) ?_ 2 _ rfl; (with_reducible repeat (first | refine blk_drewN ?_ _ | refine blk_drew ?_ | refine blk_alloc ?_ _)); refine blk_put (cs := #[.bool ((Go.bits .and .u64 a0 9223372036854775808) != 0), .int .i64 t, .int .u64 (0), .int .i64 (0)]) ?_ 3 _ rfl; (with_reducible repeat (first | refine blk_drewN ?_ _ | refine blk_drew ?_ | refine blk_alloc ?_ _)); refine blk_put (cs := #[.bool ((Go.bits .and .u64 a0 9223372036854775808) != 0), .int .i64 t, .int .u64 (0), .int .i64 (0)]) ?_ 2 _ rfl; (with_reducible repeat (first | refine blk_drewN ?_ _ | refine blk_drew ?_ | refine blk_alloc ?_ _)); refine blk_put (cs := #[.bool ((Go.bits .and .u64 a0 9223372036854775808) != 0), .int .i64 0, .int .u64 (0), .int .i64 (0)]) ?_ 1 _ rfl; (with_reducible repeat (first | refine blk_drewN ?_ _ | refine blk_drew ?_ | refine blk_alloc ?_ _)); refine blk_put (cs := #[.bool false, .int .i64 0, .int .u64 (0), .int .i64 (0)]) ?_ 0 _ rfl; (with_reducible repeat (first | refine blk_drewN ?_ _ | refine blk_drew ?_ | refine blk_alloc ?_ _)); exact BK2.out
        · (with_reducible repeat (first | refine blk_drewN ?_ _ | refine blk_drew ?_ | refine blk_alloc ?_ _)); refine blk_far ?_ NB.out _; (with_reducible repeat (first | refine blk_drewN ?_ _ | refine blk_drew ?_ | refine blk_alloc ?_ _)); refine blk_far ?_ NB.out _; (with_reducible repeat (first | refine blk_drewN ?_ _ | refine blk_drew ?_ | refine blk_alloc ?_ _)); refine blk_far ?_ NB.out _; (with_reducible repeat (first | refine blk_drewN ?_ _ | refine blk_drew ?_ | refine blk_alloc ?_ _)); refine blk_far ?_ NB.out _; (with_reducible repeat (first | refine blk_drewN ?_ _ | refine blk_drew ?_ | refine blk_alloc ?_ _)); refine blk_far ?_ NB.out _; (with_reducible repeat (first | refine blk_drewN ?_ _ | refine blk_drew ?_ | refine blk_alloc ?_ _)); exact BK1.out
        · repeat (first | (with_reducible first | exact HB.out | apply below_alloc | apply pw_below_drewN | apply below_drew1 | refine below_set ?_ GE1.out | refine below_set ?_ GE2.out) | exact HB.out)
        clear hc0 hc1 hc2 hc3 hf0 hf1 hf2 hf3 HB BK1 BK2
        obtain ⟨k2, k1, k3⟩ := h6
        have hd0 : W6.cell? ⟨g2, 0, none⟩ = some (.bool ((Go.bits .and .u64 a0 9223372036854775808) != 0)) := (blk_cell k2 0).trans rfl
        have hd1 : W6.cell? ⟨g2, 1, none⟩ = some (.int .i64 t) := (blk_cell k2 1).trans rfl
        have hd2 : W6.cell? ⟨g2, 2, none⟩ = some (.int .u64 (Go.bits .and .u64 a0 4503599627370495)) := (blk_cell k2 2).trans rfl
        have hd3 : W6.cell? ⟨g2, 3, none⟩ = some (.int .i64 (0)) := (blk_cell k2 3).trans rfl
        have he0 : W6.cell? ⟨g1, 0, none⟩ = some (.bool false) := (blk_cell k1 0).trans rfl
        have hf0 := blk_frozen k1 0
        have he1 : W6.cell? ⟨g1, 1, none⟩ = some (.int .i64 0) := (blk_cell k1 1).trans rfl
        have hf1 := blk_frozen k1 1
        have he2 : W6.cell? ⟨g1, 2, none⟩ = some (.int .u64 0) := (blk_cell k1 2).trans rfl
        have hf2 := blk_frozen k1 2
        have he3 : W6.cell? ⟨g1, 3, none⟩ = some (.int .i64 0) := (blk_cell k1 3).trans rfl
        have hf3 := blk_frozen k1 3
        have K1 := Aside0.mk k1
        have K3 := Aside0.mk k3
        clear k1 k2 k3
        go_wp2
        refine bodyPost_ret (results_cell_row rfl _ _ g1 35 #[.bool ((Go.bits .and .u64 a0 9223372036854775808) != 0), .int .i64 t, .int .u64 (Go.bits .and .u64 a0 4503599627370495), .int .i64 (0)] (0, 0) _ rfl (by (with_reducible repeat (first | refine blk_drewN ?_ _ | refine blk_drew ?_ | refine blk_alloc ?_ _)); refine blk_put (cs := #[.bool ((Go.bits .and .u64 a0 9223372036854775808) != 0), .int .i64 t, .int .u64 (Go.bits .and .u64 a0 4503599627370495), .int .i64 (0)]) ?_ 3 _ rfl; (with_reducible repeat (first | refine blk_drewN ?_ _ | refine blk_drew ?_ | refine blk_alloc ?_ _)); refine blk_put (cs := #[.bool ((Go.bits .and .u64 a0 9223372036854775808) != 0), .int .i64 t, .int .u64 (0), .int .i64 (0)]) ?_ 2 _ rfl; (with_reducible repeat (first | refine blk_drewN ?_ _ | refine blk_drew ?_ | refine blk_alloc ?_ _)); refine blk_put (cs := #[.bool ((Go.bits .and .u64 a0 9223372036854775808) != 0), .int .i64 0, .int .u64 (0), .int .i64 (0)]) ?_ 1 _ rfl; (with_reducible repeat (first | refine blk_drewN ?_ _ | refine blk_drew ?_ | refine blk_alloc ?_ _)); refine blk_put (cs := #[.bool false, .int .i64 0, .int .u64 (0), .int .i64 (0)]) ?_ 0 _ rfl; (with_reducible repeat (first | refine blk_drewN ?_ _ | refine blk_drew ?_ | refine blk_alloc ?_ _)); exact K1.out) Tryd.underlying35 rfl (by kernel_rfl)) rfl ?_
        exact ⟨rfl, by repeat (first | (with_reducible first | exact K3.out | apply below_alloc | apply pw_below_drewN | apply below_drew1 | refine below_set ?_ GE1.out) | exact K3.out)⟩
      · rw [if_neg c4] at H
        have b4 : (t == 4) = false := beq_eq_false_iff_ne.mpr c4
        clear c4
        simp only [Option.some.injEq, Prod.mk.injEq] at H
        obtain ⟨rfl, rfl, rfl, rfl⟩ := H
        go_enter Tryd.func17, Tryd.ntmps17
        go_upto_region 11 with (first | ((with_reducible refine gate_dst (N := 2) rfl ?_); refine box_event ?hg (N := 2) ?hd (cs := #[.bool false, .int .i64 0, .int .u64 (0), .int .i64 (0)]) (t := 35) ?hr ?_; (case hd => rfl); (case hg => rfl); (case hr => first | (go_simp; done) | (go_simp; rfl)); intro g1 hg w4 hbox hb; have n0_ := Aside0.mk (below_step (by repeat (first | (with_reducible first | exact HB.out | apply below_alloc | apply pw_below_drewN | apply below_drew1) | exact HB.out)) hb); have n1_ := Aside0.mk (hbox); have n2_ := Aside0.mk ((by rw [hg]; exact (below_size (by repeat (first | (with_reducible first | exact HB.out | apply below_alloc | apply pw_below_drewN | apply below_drew1) | exact HB.out))) : w.heap.size ≤ g1)); clear HB; have HB := n0_; have BK1 := n1_; have GE1 := n2_; clear n0_ n1_ n2_; clear hb hbox hg) | ((with_reducible refine gate_callee (f := 19) rfl ?_); refine goesL_ (some 8) rfl rfl Tryd.func19 (by kernel_rfl) rfl #[.int .u64 a0] rfl (by (try simp only [List.map_toArray, List.map_cons, List.map_nil]); first | done | rfl) ?_; (with_reducible refine (ieee_Class.calls a0 t _ A2.out).mono ?_); rintro e w' ⟨rfl, ⟨nd, rfl⟩⟩; refine ⟨_, rfl, ?_⟩) | ((with_reducible refine gate_dst (N := 3) rfl ?_); refine box_event ?hg (N := 3) ?hd (cs := #[.bool false, .int .i64 0, .int .u64 (0), .int .i64 (0)]) (t := 35) ?hr ?_; (case hd => rfl); (case hg => rfl); (case hr => first | (go_simp; done) | (go_simp; rfl)); intro g2 hg w5 hbox hb; have n0_ := Aside0.mk (blk_below (g := g1) (o := .cells #[.bool false, .int .i64 0, .int .u64 (0), .int .i64 (0)] 35 (0, 0)) (by (with_reducible repeat (first | refine blk_drewN ?_ _ | refine blk_drew ?_ | refine blk_alloc ?_ _)); exact BK1.out) hb); have n1_ := Aside0.mk (below_step (by repeat (first | (with_reducible first | exact HB.out | apply below_alloc | apply pw_below_drewN | apply below_drew1 | refine below_set ?_ GE1.out) | exact HB.out)) hb); have n2_ := Aside0.mk (hbox); have n3_ := Aside0.mk ((by rw [hg]; exact (below_size (by repeat (first | (with_reducible first | exact HB.out | apply below_alloc | apply pw_below_drewN | apply below_drew1 | refine below_set ?_ GE1.out) | exact HB.out))) : w.heap.size ≤ g2)); have n5_ := Aside0.mk ((by rw [hg]; exact Nat.ne_of_lt (blk_lt (g := g1) (o := .cells #[.bool false, .int .i64 0, .int .u64 (0), .int .i64 (0)] 35 (0, 0)) (by (with_reducible repeat (first | refine blk_drewN ?_ _ | refine blk_drew ?_ | refine blk_alloc ?_ _)); exact BK1.out)) : g1 ≠ g2)); clear BK1; clear HB; have BK1 := n0_; have HB := n1_; have BK2 := n2_; have GE2 := n3_; have NB := n5_; clear n0_ n1_ n2_ n3_ n5_; clear hb hbox hg; have hc0 : w5.cell? ⟨g2, 0, none⟩ = some (.bool false) := (blk_cell BK2.out 0).trans rfl; have hc1 : w5.cell? ⟨g2, 1, none⟩ = some (.int .i64 0) := (blk_cell BK2.out 1).trans rfl; have hc2 : w5.cell? ⟨g2, 2, none⟩ = some (.int .u64 0) := (blk_cell BK2.out 2).trans rfl; have hc3 : w5.cell? ⟨g2, 3, none⟩ = some (.int .i64 0) := (blk_cell BK2.out 3).trans rfl; have hf0 := blk_frozen BK2.out 0; have hf1 := blk_frozen BK2.out 1; have hf2 := blk_frozen BK2.out 2; have hf3 := blk_frozen BK2.out 3))
        refine ieee_Decode.gen (fun W' => W'.heap[g2]? = some (.cells #[.bool ((Go.bits .and .u64 a0 9223372036854775808) != 0), .int .i64 t, .int .u64 (0), .int .i64 (0)] 35 (0, 0)) ∧ W'.heap[g1]? = some (.cells #[.bool false, .int .i64 0, .int .u64 (0), .int .i64 (0)] 35 (0, 0)) ∧ Below w.heap.size w W') ⟨?_, ?_, ?_⟩ (fun W6 h6 => ?_)
        · (with_reducible repeat (first | refine blk_drewN ?_ _ | refine blk_drew ?_ | refine blk_alloc ?_ _)); refine blk_put (cs := #[.bool ((Go.bits .and .u64 a0 9223372036854775808) != 0), .int .i64 t, .int .u64 (0), .int .i64 (0)]) ?_ 3 _ rfl; (with_reducible repeat (first | refine blk_drewN ?_ _ | refine blk_drew ?_ | refine blk_alloc ?_ _)); refine blk_put (cs := #[.bool ((Go.bits .and .u64 a0 9223372036854775808) != 0), .int .i64 t, .int .u64 (0), .int .i64 (0)]) ?_ 2 _ rfl; (with_reducible repeat (first | refine blk_drewN ?_ _ | refine blk_drew ?_ | refine blk_alloc ?_ _)); refine blk_put (cs := #[.bool ((Go.bits .and .u64 a0 9223372036854775808) != 0), .int .i64 0, .int .u64 (0), .int .i64 (0)]) ?_ 1 _ rfl; (with_reducible repeat (first | refine blk_drewN ?_ _ | refine blk_drew ?_ | refine blk_alloc ?_ _)); refine blk_put (cs := #[.bool false, .int .i64 0, .int .u64 (0), .int .i64 (0)]) ?_ 0 _ rfl; (with_reducible repeat (first | refine blk_drewN ?_ _ | refine blk_drew ?_ | refine blk_alloc ?_ _)); exact BK2.out
        · (with_reducible repeat (first | refine blk_drewN ?_ _ | refine blk_drew ?_ | refine blk_alloc ?_ _)); refine blk_far ?_ NB.out _; (with_reducible repeat (first | refine blk_drewN ?_ _ | refine blk_drew ?_ | refine blk_alloc ?_ _)); refine blk_far ?_ NB.out _; (with_reducible repeat (first | refine blk_drewN ?_ _ | refine blk_drew ?_ | refine blk_alloc ?_ _)); refine blk_far ?_ NB.out _; (with_reducible repeat (first | refine blk_drewN ?_ _ | refine blk_drew ?_ | refine blk_alloc ?_ _)); refine blk_far ?_ NB.out _; (with_reducible repeat (first | refine blk_drewN ?_ _ | refine blk_drew ?_ | refine blk_alloc ?_ _)); exact BK1.out
        · repeat (first | (with_reducible first | exact HB.out | apply below_alloc | apply pw_below_drewN | apply below_drew1 | refine below_set ?_ GE1.out | refine below_set ?_ GE2.out) | exact HB.out)
        clear hc0 hc1 hc2 hc3 hf0 hf1 hf2 hf3 HB BK1 BK2
        obtain ⟨k2, k1, k3⟩ := h6
        have hd0 : W6.cell? ⟨g2, 0, none⟩ = some (.bool ((Go.bits .and .u64 a0 9223372036854775808) != 0)) := (blk_cell k2 0).trans rfl
        have hd1 : W6.cell? ⟨g2, 1, none⟩ = some (.int .i64 t) := (blk_cell k2 1).trans rfl
        have hd2 : W6.cell? ⟨g2, 2, none⟩ = some (.int .u64 (0)) := (blk_cell k2 2).trans rfl
        have hd3 : W6.cell? ⟨g2, 3, none⟩ = some (.int .i64 (0)) := (blk_cell k2 3).trans rfl
        have he0 : W6.cell? ⟨g1, 0, none⟩ = some (.bool false) := (blk_cell k1 0).trans rfl
        have hf0 := blk_frozen k1 0
        have he1 : W6.cell? ⟨g1, 1, none⟩ = some (.int .i64 0) := (blk_cell k1 1).trans rfl
        have hf1 := blk_frozen k1 1
        have he2 : W6.cell? ⟨g1, 2, none⟩ = some (.int .u64 0) := (blk_cell k1 2).trans rfl
        have hf2 := blk_frozen k1 2
        have he3 : W6.cell? ⟨g1, 3, none⟩ = some (.int .i64 0) := (blk_cell k1 3).trans rfl
        have hf3 := blk_frozen k1 3
        have K1 := Aside0.mk k1
        have K3 := Aside0.mk k3
        clear k1 k2 k3
        go_wp2
        refine bodyPost_ret (results_cell_row rfl _ _ g1 35 #[.bool ((Go.bits .and .u64 a0 9223372036854775808) != 0), .int .i64 t, .int .u64 (0), .int .i64 (0)] (0, 0) _ rfl (by (with_reducible repeat (first | refine blk_drewN ?_ _ | refine blk_drew ?_ | refine blk_alloc ?_ _)); refine blk_put (cs := #[.bool ((Go.bits .and .u64 a0 9223372036854775808) != 0), .int .i64 t, .int .u64 (0), .int .i64 (0)]) ?_ 3 _ rfl; (with_reducible repeat (first | refine blk_drewN ?_ _ | refine blk_drew ?_ | refine blk_alloc ?_ _)); refine blk_put (cs := #[.bool ((Go.bits .and .u64 a0 9223372036854775808) != 0), .int .i64 t, .int .u64 (0), .int .i64 (0)]) ?_ 2 _ rfl; (with_reducible repeat (first | refine blk_drewN ?_ _ | refine blk_drew ?_ | refine blk_alloc ?_ _)); refine blk_put (cs := #[.bool ((Go.bits .and .u64 a0 9223372036854775808) != 0), .int .i64 0, .int .u64 (0), .int .i64 (0)]) ?_ 1 _ rfl; (with_reducible repeat (first | refine blk_drewN ?_ _ | refine blk_drew ?_ | refine blk_alloc ?_ _)); refine blk_put (cs := #[.bool false, .int .i64 0, .int .u64 (0), .int .i64 (0)]) ?_ 0 _ rfl; (with_reducible repeat (first | refine blk_drewN ?_ _ | refine blk_drew ?_ | refine blk_alloc ?_ _)); exact K1.out) Tryd.underlying35 rfl (by kernel_rfl)) rfl ?_
        exact ⟨rfl, by repeat (first | (with_reducible first | exact K3.out | apply below_alloc | apply pw_below_drewN | apply below_drew1 | refine below_set ?_ GE1.out) | exact K3.out)⟩

/-! ### ieee_AtRank: function 22 -/
def ieee_AtRank.j0 : Nat → Int → Bool → Option (Int × Bool)
  | 0, _, _ => none
  | k + 1, x0, x4 => if x4 = true then (some (0, false)) else (if x0 < 0 then ((ieee_Neg.f (IntKind.u64.wrap (wrap64 (-x0)))).bind fun t370 => (some (t370, true))) else (some (IntKind.u64.wrap (x0), true)))
def ieee_AtRank.f (k : Nat) (a0 : Int) : Option (Int × Bool) := if a0 > 9218868437227405312 then (ieee_AtRank.j0 k a0 true) else (ieee_AtRank.j0 k a0 (decide (a0 < (-9218868437227405312))))
theorem ieee_AtRank.mono_l : ∀ k, (∀ y0 y1, LeO (ieee_AtRank.j0 k y0 y1) (ieee_AtRank.j0 (k + 1) y0 y1))
  | 0 => fun _ _ r h => by simp [ieee_AtRank.j0] at h
  | k + 1 => by
    have ih0 := ieee_AtRank.mono_l k
    · intro y0 y1
      unfold ieee_AtRank.j0
      repeat' first
      | (with_reducible exact ih0 _ _)
      | (with_reducible exact LeO.refl _)
      | (with_reducible exact LeO.none _)
      | (with_reducible refine LeO.ite ?_ ?_)
      | (with_reducible refine LeO.bind ?_ (fun _ => ?_))
      | exact ih0 _ _
      | exact LeO.none _
      | refine LeO.ite ?_ ?_
      | refine LeO.bind ?_ (fun _ => ?_)
theorem ieee_AtRank.mono : ∀ a0 k, LeO (ieee_AtRank.f k a0) (ieee_AtRank.f (k + 1) a0) := by
  intro a0 k
  have ih0 := ieee_AtRank.mono_l k
  unfold ieee_AtRank.f
  repeat' first
      | (with_reducible exact ih0 _ _)
      | (with_reducible exact LeO.refl _)
      | (with_reducible exact LeO.none _)
      | (with_reducible refine LeO.ite ?_ ?_)
      | (with_reducible refine LeO.bind ?_ (fun _ => ?_))
      | exact ih0 _ _
      | exact LeO.none _
      | refine LeO.ite ?_ ?_
      | refine LeO.bind ?_ (fun _ => ?_)
set_option maxHeartbeats 8000000 in
set_option maxRecDepth 100000 in
theorem ieee_AtRank.calls (k : Nat) (a0 : Int) (r1 : Int) (r2 : Bool) (w : World) (h : ieee_AtRank.f k a0 = some (r1, r2)) :
    Calls Tryd.prog 22 #[.int .i64 a0] w fun e w' => e = .returned (.tuple #[.int .u64 r1, .bool r2]) ∧ Drawn0 w w' := by
  have H : (if a0 > 9218868437227405312 then (ieee_AtRank.j0 k a0 true) else (ieee_AtRank.j0 k a0 (decide (a0 < (-9218868437227405312))))) = some (r1, r2) := h
  clear h
  have HC2 := Aside0.mk H
  clear H
  go_enter Tryd.func22, Tryd.ntmps22
  go_upto_region 1 with (fail)
  go_cut [4] (fun v4 wc => ∃ (kq : Nat) (x4_1 : Bool), v4 = .bool x4_1 ∧ Aside0 (ieee_AtRank.j0 kq a0 x4_1 = some (r1, r2)) ∧ Aside0 (kq ≤ k) ∧ Drawn0 w wc)
  case first =>
    have H := HC2.out
    clear HC2
    by_cases c3 : a0 > 9218868437227405312
    · rw [if_pos c3] at H
      have c3b0 : decide (9218868437227405312 < a0) = true := decide_eq_true c3
      clear c3
      (first | rw [c3b0] | (simp only [i64_w, i32_w]; rw [c3b0]) | rw [c3b1] | skip)
      have H' := Aside0.mk H
      clear H
      go_wp2
      go_meet
      case rel => exact ⟨_, (true), (by first | rfl | (simp; done) | (simp [*]; done)), H', ⟨by first | omega | exact Nat.le_refl _⟩, by repeat (first | exact Drawn0.refl _ | apply Drawn0.step)⟩
    · rw [if_neg c3] at H
      have c3b0 : decide (9218868437227405312 < a0) = false := decide_eq_false c3
      clear c3
      (first | rw [c3b0] | (simp only [i64_w, i32_w]; rw [c3b0]) | rw [c3b1] | skip)
      have H' := Aside0.mk H
      clear H
      go_wp2
      go_meet
      case rel => exact ⟨_, (decide (a0 < (-9218868437227405312))), (by first | rfl | (simp; done) | (simp [*]; done)), H', ⟨by first | omega | exact Nat.le_refl _⟩, by repeat (first | exact Drawn0.refl _ | apply Drawn0.step)⟩
  case rest =>
    clear HC2
    try clear c2
    try clear p2
    try clear c3
    try clear c3b0
    try clear c3b1
    obtain ⟨kq, x4_1, rfl, HA, HJ1, ⟨mc1, rfl⟩⟩ := hcut
    cases kq with
    | zero => exact absurd HA.out (by simp [ieee_AtRank.j0])
    | succ kj1 =>
      have H := HA.out
      clear HA
      simp only [ieee_AtRank.j0] at H
      by_cases c4 : x4_1 = true
      · subst c4
        have H1 : (some (0, false)) = some (r1, r2) := by rw [if_pos rfl] at H; exact H
        clear H
        have H := H1
        clear H1
        simp only [Option.some.injEq, Prod.mk.injEq] at H
        obtain ⟨rfl, rfl⟩ := H
        go_wp2
        go_ret2
        exact ⟨by first | rfl | (simp; done) | (simp [*]; done), by repeat (first | exact Drawn0.refl _ | apply Drawn0.step)⟩
      · replace c4 := Bool.eq_false_iff.mpr c4
        subst c4
        have H1 : (if a0 < 0 then ((ieee_Neg.f (IntKind.u64.wrap (wrap64 (-a0)))).bind fun t370 => (some (t370, true))) else (some (IntKind.u64.wrap (a0), true))) = some (r1, r2) := by rw [if_neg (show ¬ (false = true) by decide)] at H; exact H
        clear H
        have H := H1
        clear H1
        by_cases c5 : a0 < 0
        · rw [if_pos c5] at H
          have c5b0 : decide (a0 < 0) = true := decide_eq_true c5
          clear c5
          replace H := Option.bind_eq_some_iff.mp H
          obtain ⟨t370, A60, H⟩ := H
          replace H : (some (t370, true)) = some (r1, r2) := H
          have A6 := Aside0.mk A60
          clear A60
          simp only [Option.some.injEq, Prod.mk.injEq] at H
          obtain ⟨rfl, rfl⟩ := H
          go_wp2_with (first | ((with_reducible refine gate_callee (f := 21) rfl ?_); refine goesL_ (some 17) rfl rfl Tryd.func21 (by kernel_rfl) rfl #[.int .u64 (IntKind.u64.wrap (wrap64 (-a0)))] rfl (by (try simp only [List.map_toArray, List.map_cons, List.map_nil]); first | done | rfl | (simp only [List.length_drop, List.length_take]; rfl) | (simp only [gt_iff_lt, Int.natCast_pos]; done) | (simp only [gt_iff_lt, Int.natCast_pos]; rfl)) ?_; (with_reducible refine (ieee_Neg.calls (IntKind.u64.wrap (wrap64 (-a0))) t370 _ A6.out).mono ?_); rintro e w' ⟨rfl, ⟨nd, rfl⟩⟩; refine ⟨_, rfl, ?_⟩))
          go_ret2
          exact ⟨by first | rfl | (simp; done) | (simp [*]; done), by repeat (first | exact Drawn0.refl _ | apply Drawn0.step)⟩
        · rw [if_neg c5] at H
          have c5b0 : decide (a0 < 0) = false := decide_eq_false c5
          clear c5
          simp only [Option.some.injEq, Prod.mk.injEq] at H
          obtain ⟨rfl, rfl⟩ := H
          go_wp2
          go_ret2
          exact ⟨by first | rfl | (simp; done) | (simp [*]; done), by repeat (first | exact Drawn0.refl _ | apply Drawn0.step)⟩

/-! ### ieee_Rank: function 23 -/
def ieee_Rank.f (a0 : Int) : Option (Int × Bool) := (ieee_Abs.f a0).bind fun t371 => (if (wrap64 (t371)) > 9218868437227405312 then (some (0, false)) else (if (Go.bits .and .u64 a0 9223372036854775808) = 0 then (some (wrap64 (t371), true)) else (some (wrap64 (-(wrap64 (t371))), true))))
set_option maxHeartbeats 8000000 in
set_option maxRecDepth 100000 in
theorem ieee_Rank.calls (a0 : Int) (r1 : Int) (r2 : Bool) (w : World) (h : ieee_Rank.f a0 = some (r1, r2)) :
    Calls Tryd.prog 23 #[.int .u64 a0] w fun e w' => e = .returned (.tuple #[.int .i64 r1, .bool r2]) ∧ Drawn0 w w' := by
  have H : ((ieee_Abs.f a0).bind fun t371 => (if (wrap64 (t371)) > 9218868437227405312 then (some (0, false)) else (if (Go.bits .and .u64 a0 9223372036854775808) = 0 then (some (wrap64 (t371), true)) else (some (wrap64 (-(wrap64 (t371))), true))))) = some (r1, r2) := h
  clear h
  replace H := Option.bind_eq_some_iff.mp H
  obtain ⟨t371, A20, H⟩ := H
  replace H : (if (wrap64 (t371)) > 9218868437227405312 then (some (0, false)) else (if (Go.bits .and .u64 a0 9223372036854775808) = 0 then (some (wrap64 (t371), true)) else (some (wrap64 (-(wrap64 (t371))), true)))) = some (r1, r2) := H
  have A2 := Aside0.mk A20
  clear A20
  by_cases c3 : (wrap64 (t371)) > 9218868437227405312
  · rw [if_pos c3] at H
    have c3b0 : decide (9218868437227405312 < (wrap64 (t371))) = true := decide_eq_true c3
    clear c3
    simp only [Option.some.injEq, Prod.mk.injEq] at H
    obtain ⟨rfl, rfl⟩ := H
    go_enter Tryd.func23, Tryd.ntmps23
    go_wp2_with (first | ((with_reducible refine gate_callee (f := 20) rfl ?_); refine goesL_ (some 6) rfl rfl Tryd.func20 (by kernel_rfl) rfl #[.int .u64 a0] rfl (by (try simp only [List.map_toArray, List.map_cons, List.map_nil]); first | done | rfl | (simp only [List.length_drop, List.length_take]; rfl) | (simp only [gt_iff_lt, Int.natCast_pos]; done) | (simp only [gt_iff_lt, Int.natCast_pos]; rfl)) ?_; (with_reducible refine (ieee_Abs.calls a0 t371 _ A2.out).mono ?_); rintro e w' ⟨rfl, ⟨nd, rfl⟩⟩; refine ⟨_, rfl, ?_⟩))
    go_ret2
    exact ⟨by first | rfl | (simp; done) | (simp [*]; done), by repeat (first | exact Drawn0.refl _ | apply Drawn0.step)⟩
  · rw [if_neg c3] at H
    have c3b0 : decide (9218868437227405312 < (wrap64 (t371))) = false := decide_eq_false c3
    clear c3
    by_cases c4 : (Go.bits .and .u64 a0 9223372036854775808) = 0
    · rw [if_pos c4] at H
      have c4b0 : ((Go.bits .and .u64 a0 9223372036854775808) == 0) = true := beq_iff_eq.mpr c4
      have c4b1 : ((Go.bits .and .u64 a0 9223372036854775808) != 0) = false := bne_eq_false_iff_eq.mpr c4
      clear c4
      simp only [Option.some.injEq, Prod.mk.injEq] at H
      obtain ⟨rfl, rfl⟩ := H
      go_enter Tryd.func23, Tryd.ntmps23
      go_wp2_with (first | ((with_reducible refine gate_callee (f := 20) rfl ?_); refine goesL_ (some 6) rfl rfl Tryd.func20 (by kernel_rfl) rfl #[.int .u64 a0] rfl (by (try simp only [List.map_toArray, List.map_cons, List.map_nil]); first | done | rfl | (simp only [List.length_drop, List.length_take]; rfl) | (simp only [gt_iff_lt, Int.natCast_pos]; done) | (simp only [gt_iff_lt, Int.natCast_pos]; rfl)) ?_; (with_reducible refine (ieee_Abs.calls a0 t371 _ A2.out).mono ?_); rintro e w' ⟨rfl, ⟨nd, rfl⟩⟩; refine ⟨_, rfl, ?_⟩))
      go_ret2
      exact ⟨by first | rfl | (simp; done) | (simp [*]; done), by repeat (first | exact Drawn0.refl _ | apply Drawn0.step)⟩
    · rw [if_neg c4] at H
      have c4b0 : ((Go.bits .and .u64 a0 9223372036854775808) == 0) = false := beq_eq_false_iff_ne.mpr c4
      have c4b1 : ((Go.bits .and .u64 a0 9223372036854775808) != 0) = true := bne_iff_ne.mpr c4
      simp only [Option.some.injEq, Prod.mk.injEq] at H
      obtain ⟨rfl, rfl⟩ := H
      go_enter Tryd.func23, Tryd.ntmps23
      go_wp2_with (first | ((with_reducible refine gate_callee (f := 20) rfl ?_); refine goesL_ (some 6) rfl rfl Tryd.func20 (by kernel_rfl) rfl #[.int .u64 a0] rfl (by (try simp only [List.map_toArray, List.map_cons, List.map_nil]); first | done | rfl | (simp only [List.length_drop, List.length_take]; rfl) | (simp only [gt_iff_lt, Int.natCast_pos]; done) | (simp only [gt_iff_lt, Int.natCast_pos]; rfl)) ?_; (with_reducible refine (ieee_Abs.calls a0 t371 _ A2.out).mono ?_); rintro e w' ⟨rfl, ⟨nd, rfl⟩⟩; refine ⟨_, rfl, ?_⟩))
      go_ret2
      exact ⟨by first | rfl | (simp; done) | (simp [*]; done), by repeat (first | exact Drawn0.refl _ | apply Drawn0.step)⟩

end Go.Proofs.YtiigfmmflicdpaaDoor.PN
