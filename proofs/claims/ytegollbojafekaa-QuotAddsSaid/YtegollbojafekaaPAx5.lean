-- printed by a program
import Derived.Test.YtegollbojafekaaPAx0
import Derived.Test.YtegollbojafekaaPAx2
import Derived.Test.YtegollbojafekaaPAx3
import Derived.Test.YtegollbojafekaaPAx4
namespace Go.Proofs.Ytegollbojafekaa.PA
open Go.Proofs.YtegollbojafekaaX
open Go.RowKit Go.Proofs.YtegollbojafekaaW.PrintWords Go.Proofs.YtegollbojafekaaW.PrintLast Go.Proofs.YtegollbojafekaaW.PrintMore
attribute [local go_sem] max2_int min2_int max_two min_two max_three min_three max_four min_four   -- for this text's walks alone
set_option linter.unusedVariables false
set_option linter.unusedSimpArgs false

/-! ### abacuslaw02_QuotAdds: function 3 -/
mutual
def abacuslaw02_QuotAdds.j0 : Nat → List Int → Int → Int → Bool → Option (Bool)
  | 0, _, _, _, _ => none
  | k + 1, x0, x1, x2, x33 => if x33 = true then (some false) else (if x1 < 0 then (abacuslaw02_QuotAdds.j1 k x0 x1 x2 true) else (if x2 < 0 then (abacuslaw02_QuotAdds.j1 k x0 x1 x2 true) else (if x1 > 2305843009213693952 then (abacuslaw02_QuotAdds.j1 k x0 x1 x2 true) else (if x2 > 2305843009213693952 then (abacuslaw02_QuotAdds.j1 k x0 x1 x2 true) else ((abacusref02_Top.f k x0).bind fun t216 => (abacuslaw02_QuotAdds.j1 k x0 x1 x2 (decide (t216 > 4096))))))))
def abacuslaw02_QuotAdds.j1 : Nat → List Int → Int → Int → Bool → Option (Bool)
  | 0, _, _, _, _ => none
  | k + 1, x0, x1, x2, x52 => if x52 = true then (some true) else ((quot_Pow.f k x0 x1).bind fun bt217 => ((quot_Pow.f k x0 x2).bind fun bt221 => ((quot_Pow.f k x0 (wrap64 (x1 + x2))).bind fun bt225 => ((quot_Pow10.f k x2).bind fun bt229 => ((quot_Pow5.f k x2).bind fun bt233 => (if bt233.2 = 0 then ((nat_Shl.f k bt233.1 x2).bind fun bt237 => (if bt237.2 = bt229.2 then (if bt229.2 = 0 then ((abacuslaw02_alike.f k bt229.1 bt237.1).bind fun t241 => (if t241 = true then (abacuslaw02_QuotAdds.j2 k bt217.1 bt217.2 bt221.1 bt221.2 bt225.1 bt225.2) else (some false))) else (abacuslaw02_QuotAdds.j2 k bt217.1 bt217.2 bt221.1 bt221.2 bt225.1 bt225.2)) else (some false))) else (if bt233.2 = 2 then (if bt229.2 = 2 then (abacuslaw02_QuotAdds.j2 k bt217.1 bt217.2 bt221.1 bt221.2 bt225.1 bt225.2) else (some false)) else (some false))))))))
def abacuslaw02_QuotAdds.j2 : Nat → List Int → Int → List Int → Int → List Int → Int → Option (Bool)
  | 0, _, _, _, _, _, _ => none
  | k + 1, x7, x8, x9, x10, x11, x12 => if x8 = 0 then (abacuslaw02_QuotAdds.j3 k x7 x8 x9 x10 x11 x12 (x10 != 0)) else (abacuslaw02_QuotAdds.j3 k x7 x8 x9 x10 x11 x12 true)
def abacuslaw02_QuotAdds.j3 : Nat → List Int → Int → List Int → Int → List Int → Int → Bool → Option (Bool)
  | 0, _, _, _, _, _, _, _ => none
  | k + 1, x7, x8, x9, x10, x11, x12, x115 => if x115 = true then (if x8 = 0 then (if x10 = 0 then (some (x12 == 2)) else (if x10 = 2 then (some (x12 == 2)) else (some false))) else (if x8 = 2 then (if x10 = 0 then (some (x12 == 2)) else (if x10 = 2 then (some (x12 == 2)) else (some false))) else (some false))) else ((nat_Mul.f k x7 x9).bind fun bt242 => (if bt242.2 = x12 then (if x12 = 0 then ((abacuslaw02_alike.f k x11 bt242.1).bind fun t246 => (some t246)) else (some true)) else (some false)))
end
def abacuslaw02_QuotAdds.f (k : Nat) (l0 : List Int) (a1 : Int) (a2 : Int) : Option (Bool) := (abacuslaw02_one.f 3).bind fun t205 => ((quot_Pow.f k t205 5).bind fun bt208 => (if bt208.2 = 0 then ((abacuslaw02_one.f 243).bind fun t212 => ((abacuslaw02_alike.f k bt208.1 t212).bind fun t215 => (abacuslaw02_QuotAdds.j0 k l0 a1 a2 (!t215)))) else (abacuslaw02_QuotAdds.j0 k l0 a1 a2 true)))
theorem abacuslaw02_QuotAdds.mono_l : ∀ k, (∀ y0 y1 y2 y3, LeO (abacuslaw02_QuotAdds.j0 k y0 y1 y2 y3) (abacuslaw02_QuotAdds.j0 (k + 1) y0 y1 y2 y3)) ∧ (∀ y0 y1 y2 y3, LeO (abacuslaw02_QuotAdds.j1 k y0 y1 y2 y3) (abacuslaw02_QuotAdds.j1 (k + 1) y0 y1 y2 y3)) ∧ (∀ y0 y1 y2 y3 y4 y5, LeO (abacuslaw02_QuotAdds.j2 k y0 y1 y2 y3 y4 y5) (abacuslaw02_QuotAdds.j2 (k + 1) y0 y1 y2 y3 y4 y5)) ∧ (∀ y0 y1 y2 y3 y4 y5 y6, LeO (abacuslaw02_QuotAdds.j3 k y0 y1 y2 y3 y4 y5 y6) (abacuslaw02_QuotAdds.j3 (k + 1) y0 y1 y2 y3 y4 y5 y6))
  | 0 => ⟨fun _ _ _ _ r h => by simp [abacuslaw02_QuotAdds.j0] at h, fun _ _ _ _ r h => by simp [abacuslaw02_QuotAdds.j1] at h, fun _ _ _ _ _ _ r h => by simp [abacuslaw02_QuotAdds.j2] at h, fun _ _ _ _ _ _ _ r h => by simp [abacuslaw02_QuotAdds.j3] at h⟩
  | k + 1 => by
    obtain ⟨ih0, ih1, ih2, ih3⟩ := abacuslaw02_QuotAdds.mono_l k
    refine ⟨?_, ?_, ?_, ?_⟩
    · intro y0 y1 y2 y3
      unfold abacuslaw02_QuotAdds.j0
      repeat' first
      | (with_reducible exact ih0 _ _ _ _)
      | (with_reducible exact ih1 _ _ _ _)
      | (with_reducible exact ih2 _ _ _ _ _ _)
      | (with_reducible exact ih3 _ _ _ _ _ _ _)
      | (with_reducible exact abacuslaw02_alike.mono _ _ _)
      | (with_reducible exact abacusref02_Top.mono _ _)
      | (with_reducible exact nat_Mul.mono _ _ _)
      | (with_reducible exact nat_Shl.mono _ _ _)
      | (with_reducible exact quot_Pow.mono _ _ _)
      | (with_reducible exact quot_Pow10.mono _ _)
      | (with_reducible exact quot_Pow5.mono _ _)
      | (with_reducible exact LeO.refl _)
      | (with_reducible exact LeO.none _)
      | (with_reducible refine LeO.ite ?_ ?_)
      | (with_reducible refine LeO.bind ?_ (fun _ => ?_))
      | exact ih0 _ _ _ _
      | exact ih1 _ _ _ _
      | exact ih2 _ _ _ _ _ _
      | exact ih3 _ _ _ _ _ _ _
      | exact abacuslaw02_alike.mono _ _ _
      | exact abacusref02_Top.mono _ _
      | exact nat_Mul.mono _ _ _
      | exact nat_Shl.mono _ _ _
      | exact quot_Pow.mono _ _ _
      | exact quot_Pow10.mono _ _
      | exact quot_Pow5.mono _ _
      | exact LeO.none _
      | refine LeO.ite ?_ ?_
      | refine LeO.bind ?_ (fun _ => ?_)
    · intro y0 y1 y2 y3
      unfold abacuslaw02_QuotAdds.j1
      repeat' first
      | (with_reducible exact ih0 _ _ _ _)
      | (with_reducible exact ih1 _ _ _ _)
      | (with_reducible exact ih2 _ _ _ _ _ _)
      | (with_reducible exact ih3 _ _ _ _ _ _ _)
      | (with_reducible exact abacuslaw02_alike.mono _ _ _)
      | (with_reducible exact abacusref02_Top.mono _ _)
      | (with_reducible exact nat_Mul.mono _ _ _)
      | (with_reducible exact nat_Shl.mono _ _ _)
      | (with_reducible exact quot_Pow.mono _ _ _)
      | (with_reducible exact quot_Pow10.mono _ _)
      | (with_reducible exact quot_Pow5.mono _ _)
      | (with_reducible exact LeO.refl _)
      | (with_reducible exact LeO.none _)
      | (with_reducible refine LeO.ite ?_ ?_)
      | (with_reducible refine LeO.bind ?_ (fun _ => ?_))
      | exact ih0 _ _ _ _
      | exact ih1 _ _ _ _
      | exact ih2 _ _ _ _ _ _
      | exact ih3 _ _ _ _ _ _ _
      | exact abacuslaw02_alike.mono _ _ _
      | exact abacusref02_Top.mono _ _
      | exact nat_Mul.mono _ _ _
      | exact nat_Shl.mono _ _ _
      | exact quot_Pow.mono _ _ _
      | exact quot_Pow10.mono _ _
      | exact quot_Pow5.mono _ _
      | exact LeO.none _
      | refine LeO.ite ?_ ?_
      | refine LeO.bind ?_ (fun _ => ?_)
    · intro y0 y1 y2 y3 y4 y5
      unfold abacuslaw02_QuotAdds.j2
      repeat' first
      | (with_reducible exact ih0 _ _ _ _)
      | (with_reducible exact ih1 _ _ _ _)
      | (with_reducible exact ih2 _ _ _ _ _ _)
      | (with_reducible exact ih3 _ _ _ _ _ _ _)
      | (with_reducible exact abacuslaw02_alike.mono _ _ _)
      | (with_reducible exact abacusref02_Top.mono _ _)
      | (with_reducible exact nat_Mul.mono _ _ _)
      | (with_reducible exact nat_Shl.mono _ _ _)
      | (with_reducible exact quot_Pow.mono _ _ _)
      | (with_reducible exact quot_Pow10.mono _ _)
      | (with_reducible exact quot_Pow5.mono _ _)
      | (with_reducible exact LeO.refl _)
      | (with_reducible exact LeO.none _)
      | (with_reducible refine LeO.ite ?_ ?_)
      | (with_reducible refine LeO.bind ?_ (fun _ => ?_))
      | exact ih0 _ _ _ _
      | exact ih1 _ _ _ _
      | exact ih2 _ _ _ _ _ _
      | exact ih3 _ _ _ _ _ _ _
      | exact abacuslaw02_alike.mono _ _ _
      | exact abacusref02_Top.mono _ _
      | exact nat_Mul.mono _ _ _
      | exact nat_Shl.mono _ _ _
      | exact quot_Pow.mono _ _ _
      | exact quot_Pow10.mono _ _
      | exact quot_Pow5.mono _ _
      | exact LeO.none _
      | refine LeO.ite ?_ ?_
      | refine LeO.bind ?_ (fun _ => ?_)
    · intro y0 y1 y2 y3 y4 y5 y6
      unfold abacuslaw02_QuotAdds.j3
      repeat' first
      | (with_reducible exact ih0 _ _ _ _)
      | (with_reducible exact ih1 _ _ _ _)
      | (with_reducible exact ih2 _ _ _ _ _ _)
      | (with_reducible exact ih3 _ _ _ _ _ _ _)
      | (with_reducible exact abacuslaw02_alike.mono _ _ _)
      | (with_reducible exact abacusref02_Top.mono _ _)
      | (with_reducible exact nat_Mul.mono _ _ _)
      | (with_reducible exact nat_Shl.mono _ _ _)
      | (with_reducible exact quot_Pow.mono _ _ _)
      | (with_reducible exact quot_Pow10.mono _ _)
      | (with_reducible exact quot_Pow5.mono _ _)
      | (with_reducible exact LeO.refl _)
      | (with_reducible exact LeO.none _)
      | (with_reducible refine LeO.ite ?_ ?_)
      | (with_reducible refine LeO.bind ?_ (fun _ => ?_))
      | exact ih0 _ _ _ _
      | exact ih1 _ _ _ _
      | exact ih2 _ _ _ _ _ _
      | exact ih3 _ _ _ _ _ _ _
      | exact abacuslaw02_alike.mono _ _ _
      | exact abacusref02_Top.mono _ _
      | exact nat_Mul.mono _ _ _
      | exact nat_Shl.mono _ _ _
      | exact quot_Pow.mono _ _ _
      | exact quot_Pow10.mono _ _
      | exact quot_Pow5.mono _ _
      | exact LeO.none _
      | refine LeO.ite ?_ ?_
      | refine LeO.bind ?_ (fun _ => ?_)
theorem abacuslaw02_QuotAdds.mono : ∀ a0 a1 a2 k, LeO (abacuslaw02_QuotAdds.f k a0 a1 a2) (abacuslaw02_QuotAdds.f (k + 1) a0 a1 a2) := by
  intro a0 a1 a2 k
  obtain ⟨ih0, ih1, ih2, ih3⟩ := abacuslaw02_QuotAdds.mono_l k
  unfold abacuslaw02_QuotAdds.f
  repeat' first
      | (with_reducible exact ih0 _ _ _ _)
      | (with_reducible exact ih1 _ _ _ _)
      | (with_reducible exact ih2 _ _ _ _ _ _)
      | (with_reducible exact ih3 _ _ _ _ _ _ _)
      | (with_reducible exact abacuslaw02_alike.mono _ _ _)
      | (with_reducible exact abacusref02_Top.mono _ _)
      | (with_reducible exact nat_Mul.mono _ _ _)
      | (with_reducible exact nat_Shl.mono _ _ _)
      | (with_reducible exact quot_Pow.mono _ _ _)
      | (with_reducible exact quot_Pow10.mono _ _)
      | (with_reducible exact quot_Pow5.mono _ _)
      | (with_reducible exact LeO.refl _)
      | (with_reducible exact LeO.none _)
      | (with_reducible refine LeO.ite ?_ ?_)
      | (with_reducible refine LeO.bind ?_ (fun _ => ?_))
      | exact ih0 _ _ _ _
      | exact ih1 _ _ _ _
      | exact ih2 _ _ _ _ _ _
      | exact ih3 _ _ _ _ _ _ _
      | exact abacuslaw02_alike.mono _ _ _
      | exact abacusref02_Top.mono _ _
      | exact nat_Mul.mono _ _ _
      | exact nat_Shl.mono _ _ _
      | exact quot_Pow.mono _ _ _
      | exact quot_Pow10.mono _ _
      | exact quot_Pow5.mono _ _
      | exact LeO.none _
      | refine LeO.ite ?_ ?_
      | refine LeO.bind ?_ (fun _ => ?_)
set_option maxHeartbeats 8000000 in
set_option maxRecDepth 100000 in
theorem abacuslaw02_QuotAdds.calls (k : Nat) (A0 : Option Addr) (c0 : Nat) (l0 : List Int) (a1 : Int) (a2 : Int) (r : Bool) (w : World) (hr0 : Kd.C (Kd.int .u64) w A0 l0.length l0) (hc0 : l0.length ≤ c0) (h : abacuslaw02_QuotAdds.f k l0 a1 a2 = some r) :
    Calls Try.prog 3 #[.slice A0 l0.length c0, .int .i64 a1, .int .i64 a2] w fun e w' => e = .returned (.bool r) ∧ Below w.heap.size w w' := by
  have HR0 := Aside0.mk hr0
  have HC0 := Aside0.mk hc0
  clear hr0 hc0
  have HB := Aside0.mk (Below.refl w.heap.size w)
  have H : ((abacuslaw02_one.f 3).bind fun t205 => ((quot_Pow.f k t205 5).bind fun bt208 => (if bt208.2 = 0 then ((abacuslaw02_one.f 243).bind fun t212 => ((abacuslaw02_alike.f k bt208.1 t212).bind fun t215 => (abacuslaw02_QuotAdds.j0 k l0 a1 a2 (!t215)))) else (abacuslaw02_QuotAdds.j0 k l0 a1 a2 true)))) = some r := h
  clear h
  replace H := Option.bind_eq_some_iff.mp H
  obtain ⟨t205, A40, H⟩ := H
  replace H : ((quot_Pow.f k t205 5).bind fun bt208 => (if bt208.2 = 0 then ((abacuslaw02_one.f 243).bind fun t212 => ((abacuslaw02_alike.f k bt208.1 t212).bind fun t215 => (abacuslaw02_QuotAdds.j0 k l0 a1 a2 (!t215)))) else (abacuslaw02_QuotAdds.j0 k l0 a1 a2 true))) = some r := H
  have A4 := Aside0.mk A40
  clear A40
  replace H := Option.bind_eq_some_iff.mp H
  obtain ⟨⟨t208, t211⟩, A50, H⟩ := H
  replace H : (if t211 = 0 then ((abacuslaw02_one.f 243).bind fun t212 => ((abacuslaw02_alike.f k t208 t212).bind fun t215 => (abacuslaw02_QuotAdds.j0 k l0 a1 a2 (!t215)))) else (abacuslaw02_QuotAdds.j0 k l0 a1 a2 true)) = some r := H
  have A5 := Aside0.mk A50
  clear A50
  have HC6 := Aside0.mk H
  clear H
  go_enter Try.func3, Try.ntmps3
  go_upto_region 2 with (first | ((with_reducible refine gate_callee (f := 5) rfl ?_); refine goesL_ (some 22) rfl rfl Try.func5 (by kernel_rfl) rfl #[.int .u64 3] rfl (by (try simp only [List.map_toArray, List.map_cons, List.map_nil]); first | done | rfl | (simp only [List.length_drop, List.length_take]; rfl)) ?_; (with_reducible refine (abacuslaw02_one.calls 3 t205 _ A4.out).mono ?_); rintro e w7 ⟨v206, rfl, ho0, hb⟩; refine ⟨_, rfl, ?_⟩; have n0_ := Aside0.mk (Kd.R_lower ho0 (below_size (by repeat (first | (with_reducible first | exact HB.out | apply below_alloc | apply pw_below_drewN | apply below_drew1) | exact HB.out)))); have n1_ := Aside0.mk (below_step (by repeat (first | (with_reducible first | exact HB.out | apply below_alloc | apply pw_below_drewN | apply below_drew1) | exact HB.out)) hb); clear HB; have HO207 := n0_; have HB := n1_; clear n0_ n1_; (try clear hb); (try clear hb2); (try clear hk); (try clear hi); (try clear ho0); obtain ⟨Ao8, co8, eo8⟩ := Kd.R_slice HO207.out; subst eo8) | ((with_reducible refine gate_callee (f := 4) rfl ?_); refine goesL_ (some 23) rfl rfl Try.func4 (by kernel_rfl) rfl #[.slice Ao8 t205.length co8, .int .i64 5] rfl (by (try simp only [List.map_toArray, List.map_cons, List.map_nil]); first | done | rfl | (simp only [List.length_drop, List.length_take]; rfl)) ?_; (with_reducible refine (quot_Pow.calls k _ _ t205 5 t208 t211 _ ?side1 ?side2 A5.out).mono ?_); (case side1 => repeat (first | exact (Kd.R_reads' HO207.out).2.2 | (with_reducible refine Kd.C_alloc ?_ _) | (with_reducible refine Kd.C_drewN ?_ _) | (with_reducible refine Kd.C_drew ?_))); (case side2 => exact (Kd.R_reads' HO207.out).2.1); rintro e w9 ⟨v209, rfl, ho0, hb⟩; refine ⟨_, rfl, ?_⟩; have n0_ := Aside0.mk (Kd.R_below (by (with_reducible repeat (first | apply Kd.R_alloc | apply Kd.R_drewN | apply Kd.R_drew)); exact HO207.out) hb); have n1_ := Aside0.mk (Kd.V_lower (Kd.V_mono (ok' := fun k_ => some k_ ≠ (.slice Ao8 t205.length co8 : Value).ownBlock) ho0 (fun k_ hk_ => (Kd.fresh' (Kd.R_lt (by (with_reducible repeat (first | apply Kd.R_alloc | apply Kd.R_drewN | apply Kd.R_drew)); exact HO207.out)) k_ hk_))) (below_size (by repeat (first | (with_reducible first | exact HB.out | apply below_alloc | apply pw_below_drewN | apply below_drew1) | exact HB.out)))); have n2_ := Aside0.mk (below_step (by repeat (first | (with_reducible first | exact HB.out | apply below_alloc | apply pw_below_drewN | apply below_drew1) | exact HB.out)) hb); clear HO207; clear HB; have HO207 := n0_; have HO210 := n1_; have HB := n2_; clear n0_ n1_ n2_; (try clear hb); (try clear hb2); (try clear hk); (try clear hi); (try clear ho0)))
  (try simp only [Act.put, List.setIfInBounds_toArray, List.set_cons_zero, List.set_cons_succ])
  go_cut [33] (fun v33 wc => ∃ (kq : Nat) (x33_5 : Bool), v33 = .bool x33_5 ∧ Aside0 (abacuslaw02_QuotAdds.j0 kq l0 a1 a2 x33_5 = some r) ∧ Aside0 (kq ≤ k) ∧ Aside0 (Below w.heap.size w wc))
  case first =>
    have H := HC6.out
    clear HC6
    by_cases c10 : t211 = 0
    · rw [if_pos c10] at H
      have c10b0 : (t211 == 0) = true := beq_iff_eq.mpr c10
      have c10b1 : (t211 != 0) = false := bne_eq_false_iff_eq.mpr c10
      clear c10
      (first | rw [c10b0] | (simp only [i64_w, i32_w]; rw [c10b0]) | rw [c10b1] | skip)
      replace H := Option.bind_eq_some_iff.mp H
      obtain ⟨t212, A110, H⟩ := H
      replace H : ((abacuslaw02_alike.f k t208 t212).bind fun t215 => (abacuslaw02_QuotAdds.j0 k l0 a1 a2 (!t215))) = some r := H
      have A11 := Aside0.mk A110
      clear A110
      replace H := Option.bind_eq_some_iff.mp H
      obtain ⟨t215, A120, H⟩ := H
      replace H : (abacuslaw02_QuotAdds.j0 k l0 a1 a2 (!t215)) = some r := H
      have A12 := Aside0.mk A120
      clear A120
      have H' := Aside0.mk H
      clear H
      go_wp2_with (first | (go_at_call 5; (with_reducible refine (abacuslaw02_one.calls 243 t212 _ A11.out).mono ?_); rintro e w13 ⟨v213, rfl, ho0, hb⟩; have n0_ := Aside0.mk (Kd.R_elder' (by (with_reducible repeat (first | apply Kd.R_alloc | apply Kd.R_drewN | apply Kd.R_drew)); exact HO207.out) (Kd.R_base ho0) hb); have n1_ := Aside0.mk (Kd.V_elder' (by (with_reducible repeat (first | apply Kd.V_alloc | apply Kd.V_drewN | apply Kd.V_drew)); exact HO210.out) (Kd.R_base ho0) hb); have n2_ := Aside0.mk (Kd.R_lower (Kd.R_new' ho0 (Kd.R_lt (by (with_reducible repeat (first | apply Kd.R_alloc | apply Kd.R_drewN | apply Kd.R_drew)); exact HO207.out))) (below_size (by repeat (first | (with_reducible first | exact HB.out | apply below_alloc | apply pw_below_drewN | apply below_drew1) | exact HB.out)))); have n3_ := Aside0.mk (below_step (by repeat (first | (with_reducible first | exact HB.out | apply below_alloc | apply pw_below_drewN | apply below_drew1) | exact HB.out)) hb); clear HO207; clear HO210; clear HB; have HO207 := n0_; have HO210 := n1_; have HO214 := n2_; have HB := n3_; clear n0_ n1_ n2_ n3_; (try clear hb); (try clear hb2); (try clear hk); (try clear hi); (try clear ho0); obtain ⟨Ao14, co14, eo14⟩ := Kd.V_slice HO210.out; subst eo14; obtain ⟨Ao15, co15, eo15⟩ := Kd.R_slice HO214.out; subst eo15) | (go_at_call 6; (with_reducible refine (abacuslaw02_alike.calls k _ _ t208 _ _ t212 t215 _ ?side1 ?side2 ?side3 ?side4 A12.out).mono ?_); (case side1 => repeat (first | exact (Kd.V_reads' HO210.out).2.2 | (with_reducible refine Kd.C_alloc ?_ _) | (with_reducible refine Kd.C_drewN ?_ _) | (with_reducible refine Kd.C_drew ?_))); (case side2 => exact (Kd.V_reads' HO210.out).2.1); (case side3 => repeat (first | exact (Kd.R_reads' HO214.out).2.2 | (with_reducible refine Kd.C_alloc ?_ _) | (with_reducible refine Kd.C_drewN ?_ _) | (with_reducible refine Kd.C_drew ?_))); (case side4 => exact (Kd.R_reads' HO214.out).2.1); rintro e w' ⟨rfl, ⟨nd, rfl⟩⟩))
      go_meet
      case rel => exact ⟨_, (!t215), (by first | rfl | (simp; done) | (simp [*]; done)), H', ⟨by first | omega | exact Nat.le_refl _⟩, ⟨by repeat (first | (with_reducible first | exact HB.out | apply below_alloc | apply pw_below_drewN | apply below_drew1) | exact HB.out)⟩⟩
    · rw [if_neg c10] at H
      have c10b0 : (t211 == 0) = false := beq_eq_false_iff_ne.mpr c10
      have c10b1 : (t211 != 0) = true := bne_iff_ne.mpr c10
      (first | rw [c10b0] | (simp only [i64_w, i32_w]; rw [c10b0]) | rw [c10b1] | skip)
      have H' := Aside0.mk H
      clear H
      go_wp2
      go_meet
      case rel => exact ⟨_, (true), (by first | rfl | (simp; done) | (simp [*]; done)), H', ⟨by first | omega | exact Nat.le_refl _⟩, ⟨by repeat (first | (with_reducible first | exact HB.out | apply below_alloc | apply pw_below_drewN | apply below_drew1) | exact HB.out)⟩⟩
  case rest =>
    clear HC6
    try clear c1
    try clear p2
    try clear c3
    try clear c4
    try clear c5
    try clear c10
    try clear c10b0
    try clear c10b1
    obtain ⟨kq, x33_5, rfl, HA, HJ5, HB⟩ := hcut
    cases kq with
    | zero => exact absurd HA.out (by simp [abacuslaw02_QuotAdds.j0])
    | succ kj5 =>
      have H := HA.out
      clear HA
      simp only [abacuslaw02_QuotAdds.j0] at H
      by_cases c16 : x33_5 = true
      · subst c16
        have H1 : (some false) = some r := by rw [if_pos rfl] at H; exact H
        clear H
        have H := H1
        clear H1
        obtain rfl := Option.some.inj H
        go_wp2
        go_ret
        exact ⟨by first | rfl | (simp [errW_none, errW_some] <;> rfl) | (simp [*, errW_none, errW_some] <;> rfl), by repeat (first | (with_reducible first | exact HB.out | apply below_alloc | apply pw_below_drewN | apply below_drew1) | exact HB.out)⟩
      · replace c16 := Bool.eq_false_iff.mpr c16
        subst c16
        have H1 : (if a1 < 0 then (abacuslaw02_QuotAdds.j1 kj5 l0 a1 a2 true) else (if a2 < 0 then (abacuslaw02_QuotAdds.j1 kj5 l0 a1 a2 true) else (if a1 > 2305843009213693952 then (abacuslaw02_QuotAdds.j1 kj5 l0 a1 a2 true) else (if a2 > 2305843009213693952 then (abacuslaw02_QuotAdds.j1 kj5 l0 a1 a2 true) else ((abacusref02_Top.f kj5 l0).bind fun t216 => (abacuslaw02_QuotAdds.j1 kj5 l0 a1 a2 (decide (t216 > 4096)))))))) = some r := by rw [if_neg (show ¬ (false = true) by decide)] at H; exact H
        clear H
        have H := H1
        clear H1
        have HC17 := Aside0.mk H
        clear H
        go_upto_region 4 with (fail)
        go_cut [52] (fun v52 wc => ∃ (kq : Nat) (x52_16 : Bool), v52 = .bool x52_16 ∧ Aside0 (abacuslaw02_QuotAdds.j1 kq l0 a1 a2 x52_16 = some r) ∧ Aside0 (kq ≤ kj5) ∧ Aside0 (Below w.heap.size w wc))
        case first =>
          have H := HC17.out
          clear HC17
          by_cases c18 : a1 < 0
          · rw [if_pos c18] at H
            have c18b0 : decide (a1 < 0) = true := decide_eq_true c18
            clear c18
            (first | rw [c18b0] | (simp only [i64_w, i32_w]; rw [c18b0]) | rw [c18b1] | skip)
            have H' := Aside0.mk H
            clear H
            go_wp2
            go_meet
            case rel => exact ⟨_, (true), (by first | rfl | (simp; done) | (simp [*]; done)), H', ⟨by have := HJ5.out; first | omega | exact Nat.le_refl _⟩, ⟨by repeat (first | (with_reducible first | exact HB.out | apply below_alloc | apply pw_below_drewN | apply below_drew1) | exact HB.out)⟩⟩
          · rw [if_neg c18] at H
            have c18b0 : decide (a1 < 0) = false := decide_eq_false c18
            clear c18
            (first | rw [c18b0] | (simp only [i64_w, i32_w]; rw [c18b0]) | rw [c18b1] | skip)
            by_cases c19 : a2 < 0
            · rw [if_pos c19] at H
              have c19b0 : decide (a2 < 0) = true := decide_eq_true c19
              clear c19
              have H' := Aside0.mk H
              clear H
              go_wp2
              go_meet
              case rel => exact ⟨_, (true), (by first | rfl | (simp; done) | (simp [*]; done)), H', ⟨by have := HJ5.out; first | omega | exact Nat.le_refl _⟩, ⟨by repeat (first | (with_reducible first | exact HB.out | apply below_alloc | apply pw_below_drewN | apply below_drew1) | exact HB.out)⟩⟩
            · rw [if_neg c19] at H
              have c19b0 : decide (a2 < 0) = false := decide_eq_false c19
              clear c19
              by_cases c20 : a1 > 2305843009213693952
              · rw [if_pos c20] at H
                have c20b0 : decide (2305843009213693952 < a1) = true := decide_eq_true c20
                clear c20
                have H' := Aside0.mk H
                clear H
                go_wp2
                go_meet
                case rel => exact ⟨_, (true), (by first | rfl | (simp; done) | (simp [*]; done)), H', ⟨by have := HJ5.out; first | omega | exact Nat.le_refl _⟩, ⟨by repeat (first | (with_reducible first | exact HB.out | apply below_alloc | apply pw_below_drewN | apply below_drew1) | exact HB.out)⟩⟩
              · rw [if_neg c20] at H
                have c20b0 : decide (2305843009213693952 < a1) = false := decide_eq_false c20
                clear c20
                by_cases c21 : a2 > 2305843009213693952
                · rw [if_pos c21] at H
                  have c21b0 : decide (2305843009213693952 < a2) = true := decide_eq_true c21
                  clear c21
                  have H' := Aside0.mk H
                  clear H
                  go_wp2
                  go_meet
                  case rel => exact ⟨_, (true), (by first | rfl | (simp; done) | (simp [*]; done)), H', ⟨by have := HJ5.out; first | omega | exact Nat.le_refl _⟩, ⟨by repeat (first | (with_reducible first | exact HB.out | apply below_alloc | apply pw_below_drewN | apply below_drew1) | exact HB.out)⟩⟩
                · rw [if_neg c21] at H
                  have c21b0 : decide (2305843009213693952 < a2) = false := decide_eq_false c21
                  clear c21
                  replace H := Option.bind_eq_some_iff.mp H
                  obtain ⟨t216, A220, H⟩ := H
                  replace H : (abacuslaw02_QuotAdds.j1 kj5 l0 a1 a2 (decide (t216 > 4096))) = some r := H
                  have A22 := Aside0.mk A220
                  clear A220
                  have H' := Aside0.mk H
                  clear H
                  go_wp2_with (first | (go_at_call 7; (with_reducible refine (abacusref02_Top.calls kj5 _ _ l0 t216 _ ?side1 ?side2 A22.out).mono ?_); (case side1 => repeat (first | exact (Kd.C_below HR0.out HB.out) | (with_reducible refine Kd.C_alloc ?_ _) | (with_reducible refine Kd.C_drewN ?_ _) | (with_reducible refine Kd.C_drew ?_))); (case side2 => exact HC0.out); rintro e w' ⟨rfl, ⟨nd, rfl⟩⟩))
                  go_meet
                  case rel => exact ⟨_, (decide (t216 > 4096)), (by first | rfl | (simp; done) | (simp [*]; done)), H', ⟨by have := HJ5.out; first | omega | exact Nat.le_refl _⟩, ⟨by repeat (first | (with_reducible first | exact HB.out | apply below_alloc | apply pw_below_drewN | apply below_drew1) | exact HB.out)⟩⟩
        case rest =>
          clear HC17
          try clear c1
          try clear c2
          try clear p2
          try clear c3
          try clear c4
          try clear c5
          try clear c10
          try clear c10b0
          try clear c10b1
          try clear c16
          try clear c18
          try clear c18b0
          try clear c18b1
          try clear c19
          try clear c19b0
          try clear c20
          try clear c20b0
          try clear c21
          try clear c21b0
          try clear p2
          obtain ⟨kq, x52_16, rfl, HA, HJ16, HB⟩ := hcut
          cases kq with
          | zero => exact absurd HA.out (by simp [abacuslaw02_QuotAdds.j1])
          | succ kj16 =>
            have H := HA.out
            clear HA
            simp only [abacuslaw02_QuotAdds.j1] at H
            by_cases c23 : x52_16 = true
            · subst c23
              have H1 : (some true) = some r := by rw [if_pos rfl] at H; exact H
              clear H
              have H := H1
              clear H1
              obtain rfl := Option.some.inj H
              go_wp2
              go_ret
              exact ⟨by first | rfl | (simp [errW_none, errW_some] <;> rfl) | (simp [*, errW_none, errW_some] <;> rfl), by repeat (first | (with_reducible first | exact HB.out | apply below_alloc | apply pw_below_drewN | apply below_drew1) | exact HB.out)⟩
            · replace c23 := Bool.eq_false_iff.mpr c23
              subst c23
              have H1 : ((quot_Pow.f kj16 l0 a1).bind fun bt217 => ((quot_Pow.f kj16 l0 a2).bind fun bt221 => ((quot_Pow.f kj16 l0 (wrap64 (a1 + a2))).bind fun bt225 => ((quot_Pow10.f kj16 a2).bind fun bt229 => ((quot_Pow5.f kj16 a2).bind fun bt233 => (if bt233.2 = 0 then ((nat_Shl.f kj16 bt233.1 a2).bind fun bt237 => (if bt237.2 = bt229.2 then (if bt229.2 = 0 then ((abacuslaw02_alike.f kj16 bt229.1 bt237.1).bind fun t241 => (if t241 = true then (abacuslaw02_QuotAdds.j2 kj16 bt217.1 bt217.2 bt221.1 bt221.2 bt225.1 bt225.2) else (some false))) else (abacuslaw02_QuotAdds.j2 kj16 bt217.1 bt217.2 bt221.1 bt221.2 bt225.1 bt225.2)) else (some false))) else (if bt233.2 = 2 then (if bt229.2 = 2 then (abacuslaw02_QuotAdds.j2 kj16 bt217.1 bt217.2 bt221.1 bt221.2 bt225.1 bt225.2) else (some false)) else (some false)))))))) = some r := by rw [if_neg (show ¬ (false = true) by decide)] at H; exact H
              clear H
              have H := H1
              clear H1
              replace H := Option.bind_eq_some_iff.mp H
              obtain ⟨⟨t217, t220⟩, A240, H⟩ := H
              replace H : ((quot_Pow.f kj16 l0 a2).bind fun bt221 => ((quot_Pow.f kj16 l0 (wrap64 (a1 + a2))).bind fun bt225 => ((quot_Pow10.f kj16 a2).bind fun bt229 => ((quot_Pow5.f kj16 a2).bind fun bt233 => (if bt233.2 = 0 then ((nat_Shl.f kj16 bt233.1 a2).bind fun bt237 => (if bt237.2 = bt229.2 then (if bt229.2 = 0 then ((abacuslaw02_alike.f kj16 bt229.1 bt237.1).bind fun t241 => (if t241 = true then (abacuslaw02_QuotAdds.j2 kj16 t217 t220 bt221.1 bt221.2 bt225.1 bt225.2) else (some false))) else (abacuslaw02_QuotAdds.j2 kj16 t217 t220 bt221.1 bt221.2 bt225.1 bt225.2)) else (some false))) else (if bt233.2 = 2 then (if bt229.2 = 2 then (abacuslaw02_QuotAdds.j2 kj16 t217 t220 bt221.1 bt221.2 bt225.1 bt225.2) else (some false)) else (some false))))))) = some r := H
              have A24 := Aside0.mk A240
              clear A240
              replace H := Option.bind_eq_some_iff.mp H
              obtain ⟨⟨t221, t224⟩, A250, H⟩ := H
              replace H : ((quot_Pow.f kj16 l0 (wrap64 (a1 + a2))).bind fun bt225 => ((quot_Pow10.f kj16 a2).bind fun bt229 => ((quot_Pow5.f kj16 a2).bind fun bt233 => (if bt233.2 = 0 then ((nat_Shl.f kj16 bt233.1 a2).bind fun bt237 => (if bt237.2 = bt229.2 then (if bt229.2 = 0 then ((abacuslaw02_alike.f kj16 bt229.1 bt237.1).bind fun t241 => (if t241 = true then (abacuslaw02_QuotAdds.j2 kj16 t217 t220 t221 t224 bt225.1 bt225.2) else (some false))) else (abacuslaw02_QuotAdds.j2 kj16 t217 t220 t221 t224 bt225.1 bt225.2)) else (some false))) else (if bt233.2 = 2 then (if bt229.2 = 2 then (abacuslaw02_QuotAdds.j2 kj16 t217 t220 t221 t224 bt225.1 bt225.2) else (some false)) else (some false)))))) = some r := H
              have A25 := Aside0.mk A250
              clear A250
              replace H := Option.bind_eq_some_iff.mp H
              obtain ⟨⟨t225, t228⟩, A260, H⟩ := H
              replace H : ((quot_Pow10.f kj16 a2).bind fun bt229 => ((quot_Pow5.f kj16 a2).bind fun bt233 => (if bt233.2 = 0 then ((nat_Shl.f kj16 bt233.1 a2).bind fun bt237 => (if bt237.2 = bt229.2 then (if bt229.2 = 0 then ((abacuslaw02_alike.f kj16 bt229.1 bt237.1).bind fun t241 => (if t241 = true then (abacuslaw02_QuotAdds.j2 kj16 t217 t220 t221 t224 t225 t228) else (some false))) else (abacuslaw02_QuotAdds.j2 kj16 t217 t220 t221 t224 t225 t228)) else (some false))) else (if bt233.2 = 2 then (if bt229.2 = 2 then (abacuslaw02_QuotAdds.j2 kj16 t217 t220 t221 t224 t225 t228) else (some false)) else (some false))))) = some r := H
              have A26 := Aside0.mk A260
              clear A260
              replace H := Option.bind_eq_some_iff.mp H
              obtain ⟨⟨t229, t232⟩, A270, H⟩ := H
              replace H : ((quot_Pow5.f kj16 a2).bind fun bt233 => (if bt233.2 = 0 then ((nat_Shl.f kj16 bt233.1 a2).bind fun bt237 => (if bt237.2 = t232 then (if t232 = 0 then ((abacuslaw02_alike.f kj16 t229 bt237.1).bind fun t241 => (if t241 = true then (abacuslaw02_QuotAdds.j2 kj16 t217 t220 t221 t224 t225 t228) else (some false))) else (abacuslaw02_QuotAdds.j2 kj16 t217 t220 t221 t224 t225 t228)) else (some false))) else (if bt233.2 = 2 then (if t232 = 2 then (abacuslaw02_QuotAdds.j2 kj16 t217 t220 t221 t224 t225 t228) else (some false)) else (some false)))) = some r := H
              have A27 := Aside0.mk A270
              clear A270
              replace H := Option.bind_eq_some_iff.mp H
              obtain ⟨⟨t233, t236⟩, A280, H⟩ := H
              replace H : (if t236 = 0 then ((nat_Shl.f kj16 t233 a2).bind fun bt237 => (if bt237.2 = t232 then (if t232 = 0 then ((abacuslaw02_alike.f kj16 t229 bt237.1).bind fun t241 => (if t241 = true then (abacuslaw02_QuotAdds.j2 kj16 t217 t220 t221 t224 t225 t228) else (some false))) else (abacuslaw02_QuotAdds.j2 kj16 t217 t220 t221 t224 t225 t228)) else (some false))) else (if t236 = 2 then (if t232 = 2 then (abacuslaw02_QuotAdds.j2 kj16 t217 t220 t221 t224 t225 t228) else (some false)) else (some false))) = some r := H
              have A28 := Aside0.mk A280
              clear A280
              have HC29 := Aside0.mk H
              clear H
              go_upto_if 84 with (first | ((with_reducible refine gate_callee (f := 4) rfl ?_); refine goesL_ (some 56) rfl rfl Try.func4 (by kernel_rfl) rfl #[.slice A0 l0.length c0, .int .i64 a1] rfl (by (try simp only [List.map_toArray, List.map_cons, List.map_nil]); first | done | rfl | (simp only [List.length_drop, List.length_take]; rfl)) ?_; (with_reducible refine (quot_Pow.calls kj16 _ _ l0 a1 t217 t220 _ ?side1 ?side2 A24.out).mono ?_); (case side1 => repeat (first | exact (Kd.C_below HR0.out HB.out) | (with_reducible refine Kd.C_alloc ?_ _) | (with_reducible refine Kd.C_drewN ?_ _) | (with_reducible refine Kd.C_drew ?_))); (case side2 => exact HC0.out); rintro e w30 ⟨v218, rfl, ho0, hb⟩; refine ⟨_, rfl, ?_⟩; have n0_ := Aside0.mk (Kd.V_lower (Kd.V_mono (ok' := fun k_ => True) ho0 (fun k_ hk_ => trivial)) (below_size (by repeat (first | (with_reducible first | exact HB.out | apply below_alloc | apply pw_below_drewN | apply below_drew1) | exact HB.out)))); have n1_ := Aside0.mk (below_step (by repeat (first | (with_reducible first | exact HB.out | apply below_alloc | apply pw_below_drewN | apply below_drew1) | exact HB.out)) hb); clear HB; have HO219 := n0_; have HB := n1_; clear n0_ n1_; (try clear hb); (try clear hb2); (try clear hk); (try clear hi); (try clear ho0)) | ((with_reducible refine gate_callee (f := 4) rfl ?_); refine goesL_ (some 62) rfl rfl Try.func4 (by kernel_rfl) rfl #[.slice A0 l0.length c0, .int .i64 a2] rfl (by (try simp only [List.map_toArray, List.map_cons, List.map_nil]); first | done | rfl | (simp only [List.length_drop, List.length_take]; rfl)) ?_; (with_reducible refine (quot_Pow.calls kj16 _ _ l0 a2 t221 t224 _ ?side1 ?side2 A25.out).mono ?_); (case side1 => repeat (first | exact (Kd.C_below HR0.out HB.out) | (with_reducible refine Kd.C_alloc ?_ _) | (with_reducible refine Kd.C_drewN ?_ _) | (with_reducible refine Kd.C_drew ?_))); (case side2 => exact HC0.out); rintro e w31 ⟨v222, rfl, ho0, hb⟩; refine ⟨_, rfl, ?_⟩; have n0_ := Aside0.mk (Kd.V_below (by (with_reducible repeat (first | apply Kd.V_alloc | apply Kd.V_drewN | apply Kd.V_drew)); exact HO219.out) hb); have n1_ := Aside0.mk (Kd.V_lower (Kd.V_mono (ok' := fun k_ => True) ho0 (fun k_ hk_ => trivial)) (below_size (by repeat (first | (with_reducible first | exact HB.out | apply below_alloc | apply pw_below_drewN | apply below_drew1) | exact HB.out)))); have n2_ := Aside0.mk (below_step (by repeat (first | (with_reducible first | exact HB.out | apply below_alloc | apply pw_below_drewN | apply below_drew1) | exact HB.out)) hb); clear HO219; clear HB; have HO219 := n0_; have HO223 := n1_; have HB := n2_; clear n0_ n1_ n2_; (try clear hb); (try clear hb2); (try clear hk); (try clear hi); (try clear ho0)) | ((with_reducible refine gate_callee (f := 4) rfl ?_); refine goesL_ (some 70) rfl rfl Try.func4 (by kernel_rfl) rfl #[.slice A0 l0.length c0, .int .i64 (wrap64 (a1 + a2))] rfl (by (try simp only [List.map_toArray, List.map_cons, List.map_nil]); first | done | rfl | (simp only [List.length_drop, List.length_take]; rfl)) ?_; (with_reducible refine (quot_Pow.calls kj16 _ _ l0 (wrap64 (a1 + a2)) t225 t228 _ ?side1 ?side2 A26.out).mono ?_); (case side1 => repeat (first | exact (Kd.C_below HR0.out HB.out) | (with_reducible refine Kd.C_alloc ?_ _) | (with_reducible refine Kd.C_drewN ?_ _) | (with_reducible refine Kd.C_drew ?_))); (case side2 => exact HC0.out); rintro e w32 ⟨v226, rfl, ho0, hb⟩; refine ⟨_, rfl, ?_⟩; have n0_ := Aside0.mk (Kd.V_below (by (with_reducible repeat (first | apply Kd.V_alloc | apply Kd.V_drewN | apply Kd.V_drew)); exact HO219.out) hb); have n1_ := Aside0.mk (Kd.V_below (by (with_reducible repeat (first | apply Kd.V_alloc | apply Kd.V_drewN | apply Kd.V_drew)); exact HO223.out) hb); have n2_ := Aside0.mk (Kd.V_lower (Kd.V_mono (ok' := fun k_ => True) ho0 (fun k_ hk_ => trivial)) (below_size (by repeat (first | (with_reducible first | exact HB.out | apply below_alloc | apply pw_below_drewN | apply below_drew1) | exact HB.out)))); have n3_ := Aside0.mk (below_step (by repeat (first | (with_reducible first | exact HB.out | apply below_alloc | apply pw_below_drewN | apply below_drew1) | exact HB.out)) hb); clear HO219; clear HO223; clear HB; have HO219 := n0_; have HO223 := n1_; have HO227 := n2_; have HB := n3_; clear n0_ n1_ n2_ n3_; (try clear hb); (try clear hb2); (try clear hk); (try clear hi); (try clear ho0)) | ((with_reducible refine gate_callee (f := 8) rfl ?_); refine goesL_ (some 75) rfl rfl Try.func8 (by kernel_rfl) rfl #[.int .i64 a2] rfl (by (try simp only [List.map_toArray, List.map_cons, List.map_nil]); first | done | rfl | (simp only [List.length_drop, List.length_take]; rfl)) ?_; (with_reducible refine (quot_Pow10.calls kj16 a2 t229 t232 _ A27.out).mono ?_); rintro e w33 ⟨v230, rfl, ho0, hb⟩; refine ⟨_, rfl, ?_⟩; have n0_ := Aside0.mk (Kd.V_below (by (with_reducible repeat (first | apply Kd.V_alloc | apply Kd.V_drewN | apply Kd.V_drew)); exact HO219.out) hb); have n1_ := Aside0.mk (Kd.V_below (by (with_reducible repeat (first | apply Kd.V_alloc | apply Kd.V_drewN | apply Kd.V_drew)); exact HO223.out) hb); have n2_ := Aside0.mk (Kd.V_below (by (with_reducible repeat (first | apply Kd.V_alloc | apply Kd.V_drewN | apply Kd.V_drew)); exact HO227.out) hb); have n3_ := Aside0.mk (Kd.V_lower (Kd.V_mono (ok' := fun k_ => True) ho0 (fun k_ hk_ => trivial)) (below_size (by repeat (first | (with_reducible first | exact HB.out | apply below_alloc | apply pw_below_drewN | apply below_drew1) | exact HB.out)))); have n4_ := Aside0.mk (below_step (by repeat (first | (with_reducible first | exact HB.out | apply below_alloc | apply pw_below_drewN | apply below_drew1) | exact HB.out)) hb); clear HO219; clear HO223; clear HO227; clear HB; have HO219 := n0_; have HO223 := n1_; have HO227 := n2_; have HO231 := n3_; have HB := n4_; clear n0_ n1_ n2_ n3_ n4_; (try clear hb); (try clear hb2); (try clear hk); (try clear hi); (try clear ho0)) | ((with_reducible refine gate_callee (f := 9) rfl ?_); refine goesL_ (some 80) rfl rfl Try.func9 (by kernel_rfl) rfl #[.int .i64 a2] rfl (by (try simp only [List.map_toArray, List.map_cons, List.map_nil]); first | done | rfl | (simp only [List.length_drop, List.length_take]; rfl)) ?_; (with_reducible refine (quot_Pow5.calls kj16 a2 t233 t236 _ A28.out).mono ?_); rintro e w34 ⟨v234, rfl, ho0, hb⟩; refine ⟨_, rfl, ?_⟩; have n0_ := Aside0.mk (Kd.V_below (by (with_reducible repeat (first | apply Kd.V_alloc | apply Kd.V_drewN | apply Kd.V_drew)); exact HO219.out) hb); have n1_ := Aside0.mk (Kd.V_below (by (with_reducible repeat (first | apply Kd.V_alloc | apply Kd.V_drewN | apply Kd.V_drew)); exact HO223.out) hb); have n2_ := Aside0.mk (Kd.V_below (by (with_reducible repeat (first | apply Kd.V_alloc | apply Kd.V_drewN | apply Kd.V_drew)); exact HO227.out) hb); have n3_ := Aside0.mk (Kd.V_below (by (with_reducible repeat (first | apply Kd.V_alloc | apply Kd.V_drewN | apply Kd.V_drew)); exact HO231.out) hb); have n4_ := Aside0.mk (Kd.V_lower (Kd.V_mono (ok' := fun k_ => True) ho0 (fun k_ hk_ => trivial)) (below_size (by repeat (first | (with_reducible first | exact HB.out | apply below_alloc | apply pw_below_drewN | apply below_drew1) | exact HB.out)))); have n5_ := Aside0.mk (below_step (by repeat (first | (with_reducible first | exact HB.out | apply below_alloc | apply pw_below_drewN | apply below_drew1) | exact HB.out)) hb); clear HO219; clear HO223; clear HO227; clear HO231; clear HB; have HO219 := n0_; have HO223 := n1_; have HO227 := n2_; have HO231 := n3_; have HO235 := n4_; have HB := n5_; clear n0_ n1_ n2_ n3_ n4_ n5_; (try clear hb); (try clear hb2); (try clear hk); (try clear hi); (try clear ho0)))
              (try simp only [Act.put, List.setIfInBounds_toArray, List.set_cons_zero, List.set_cons_succ])
              go_cut [] (fun wc => ∃ (kq : Nat), Aside0 (abacuslaw02_QuotAdds.j2 kq t217 t220 t221 t224 t225 t228 = some r) ∧ Aside0 (kq ≤ kj16) ∧ Aside0 (Kd.V (Kd.int .u64) 27 wc w.heap.size (fun _ => True) v218 t217) ∧ Aside0 (Kd.V (Kd.int .u64) 27 wc w.heap.size (fun _ => True) v222 t221) ∧ Aside0 (Kd.V (Kd.int .u64) 27 wc w.heap.size (fun _ => True) v226 t225) ∧ Aside0 (Below w.heap.size w wc))
              case first =>
                have H := HC29.out
                clear HC29
                by_cases c35 : t236 = 0
                · rw [if_pos c35] at H
                  have c35b0 : (t236 == 0) = true := beq_iff_eq.mpr c35
                  have c35b1 : (t236 != 0) = false := bne_eq_false_iff_eq.mpr c35
                  clear c35
                  (first | rw [c35b0] | (simp only [i64_w, i32_w]; rw [c35b0]) | rw [c35b1] | skip)
                  replace H := Option.bind_eq_some_iff.mp H
                  obtain ⟨⟨t237, t240⟩, A360, H⟩ := H
                  replace H : (if t240 = t232 then (if t232 = 0 then ((abacuslaw02_alike.f kj16 t229 t237).bind fun t241 => (if t241 = true then (abacuslaw02_QuotAdds.j2 kj16 t217 t220 t221 t224 t225 t228) else (some false))) else (abacuslaw02_QuotAdds.j2 kj16 t217 t220 t221 t224 t225 t228)) else (some false)) = some r := H
                  have A36 := Aside0.mk A360
                  clear A360
                  by_cases c37 : t240 = t232
                  · rw [if_pos c37] at H
                    have c37b0 : (t240 == t232) = true := beq_iff_eq.mpr c37
                    have c37b1 : (t240 != t232) = false := bne_eq_false_iff_eq.mpr c37
                    clear c37
                    by_cases c38 : t232 = 0
                    · rw [if_pos c38] at H
                      have c38b0 : (t232 == 0) = true := beq_iff_eq.mpr c38
                      have c38b1 : (t232 != 0) = false := bne_eq_false_iff_eq.mpr c38
                      clear c38
                      replace H := Option.bind_eq_some_iff.mp H
                      obtain ⟨t241, A390, H⟩ := H
                      replace H : (if t241 = true then (abacuslaw02_QuotAdds.j2 kj16 t217 t220 t221 t224 t225 t228) else (some false)) = some r := H
                      have A39 := Aside0.mk A390
                      clear A390
                      by_cases c40 : t241 = true
                      · subst c40
                        have H1 : (abacuslaw02_QuotAdds.j2 kj16 t217 t220 t221 t224 t225 t228) = some r := by rw [if_pos rfl] at H; exact H
                        clear H
                        have H := H1
                        clear H1
                        have H' := Aside0.mk H
                        clear H
                        obtain ⟨Ao41, co41, eo41⟩ := Kd.V_slice HO235.out
                        subst eo41
                        go_wp2_with (first | ((with_reducible refine gate_callee (f := 10) rfl ?_); refine goesL_ (some 88) rfl rfl Try.func10 (by kernel_rfl) rfl #[.slice Ao41 t233.length co41, .int .i64 a2] rfl (by (try simp only [List.map_toArray, List.map_cons, List.map_nil]); first | done | rfl | (simp only [List.length_drop, List.length_take]; rfl)) ?_; (with_reducible refine (nat_Shl.calls kj16 _ _ t233 a2 t237 t240 _ ?side1 ?side2 A36.out).mono ?_); (case side1 => repeat (first | exact (Kd.V_reads' HO235.out).2.2 | (with_reducible refine Kd.C_alloc ?_ _) | (with_reducible refine Kd.C_drewN ?_ _) | (with_reducible refine Kd.C_drew ?_))); (case side2 => exact (Kd.V_reads' HO235.out).2.1); rintro e w42 ⟨v238, rfl, ho0, hb⟩; refine ⟨_, rfl, ?_⟩; have n0_ := Aside0.mk (Kd.V_below (by (with_reducible repeat (first | apply Kd.V_alloc | apply Kd.V_drewN | apply Kd.V_drew)); exact HO219.out) hb); have n1_ := Aside0.mk (Kd.V_below (by (with_reducible repeat (first | apply Kd.V_alloc | apply Kd.V_drewN | apply Kd.V_drew)); exact HO223.out) hb); have n2_ := Aside0.mk (Kd.V_below (by (with_reducible repeat (first | apply Kd.V_alloc | apply Kd.V_drewN | apply Kd.V_drew)); exact HO227.out) hb); have n3_ := Aside0.mk (Kd.V_below (by (with_reducible repeat (first | apply Kd.V_alloc | apply Kd.V_drewN | apply Kd.V_drew)); exact HO231.out) hb); have n4_ := Aside0.mk (Kd.V_below (by (with_reducible repeat (first | apply Kd.V_alloc | apply Kd.V_drewN | apply Kd.V_drew)); exact HO235.out) hb); have n5_ := Aside0.mk (Kd.V_lower (Kd.V_mono (ok' := fun k_ => True) ho0 (fun k_ hk_ => trivial)) (below_size (by repeat (first | (with_reducible first | exact HB.out | apply below_alloc | apply pw_below_drewN | apply below_drew1) | exact HB.out)))); have n6_ := Aside0.mk (below_step (by repeat (first | (with_reducible first | exact HB.out | apply below_alloc | apply pw_below_drewN | apply below_drew1) | exact HB.out)) hb); clear HO219; clear HO223; clear HO227; clear HO231; clear HO235; clear HB; have HO219 := n0_; have HO223 := n1_; have HO227 := n2_; have HO231 := n3_; have HO235 := n4_; have HO239 := n5_; have HB := n6_; clear n0_ n1_ n2_ n3_ n4_ n5_ n6_; (try clear hb); (try clear hb2); (try clear hk); (try clear hi); (try clear ho0); obtain ⟨Ao43, co43, eo43⟩ := Kd.V_slice HO231.out; subst eo43; obtain ⟨Ao44, co44, eo44⟩ := Kd.V_slice HO239.out; subst eo44) | (go_at_call 6; (with_reducible refine (abacuslaw02_alike.calls kj16 _ _ t229 _ _ t237 true _ ?side1 ?side2 ?side3 ?side4 A39.out).mono ?_); (case side1 => repeat (first | exact (Kd.V_reads' HO231.out).2.2 | (with_reducible refine Kd.C_alloc ?_ _) | (with_reducible refine Kd.C_drewN ?_ _) | (with_reducible refine Kd.C_drew ?_))); (case side2 => exact (Kd.V_reads' HO231.out).2.1); (case side3 => repeat (first | exact (Kd.V_reads' HO239.out).2.2 | (with_reducible refine Kd.C_alloc ?_ _) | (with_reducible refine Kd.C_drewN ?_ _) | (with_reducible refine Kd.C_drew ?_))); (case side4 => exact (Kd.V_reads' HO239.out).2.1); rintro e w' ⟨rfl, ⟨nd, rfl⟩⟩))
                        go_meet
                        case rel => exact ⟨_, H', ⟨by have := HJ5.out; have := HJ16.out; first | omega | exact Nat.le_refl _⟩, ⟨by (with_reducible repeat (first | apply Kd.V_alloc | apply Kd.V_drewN | apply Kd.V_drew)); exact HO219.out⟩, ⟨by (with_reducible repeat (first | apply Kd.V_alloc | apply Kd.V_drewN | apply Kd.V_drew)); exact HO223.out⟩, ⟨by (with_reducible repeat (first | apply Kd.V_alloc | apply Kd.V_drewN | apply Kd.V_drew)); exact HO227.out⟩, ⟨by repeat (first | (with_reducible first | exact HB.out | apply below_alloc | apply pw_below_drewN | apply below_drew1) | exact HB.out)⟩⟩
                      · replace c40 := Bool.eq_false_iff.mpr c40
                        subst c40
                        have H1 : (some false) = some r := by rw [if_neg (show ¬ (false = true) by decide)] at H; exact H
                        clear H
                        have H := H1
                        clear H1
                        obtain rfl := Option.some.inj H
                        obtain ⟨Ao45, co45, eo45⟩ := Kd.V_slice HO235.out
                        subst eo45
                        go_wp2_with (first | ((with_reducible refine gate_callee (f := 10) rfl ?_); refine goesL_ (some 88) rfl rfl Try.func10 (by kernel_rfl) rfl #[.slice Ao45 t233.length co45, .int .i64 a2] rfl (by (try simp only [List.map_toArray, List.map_cons, List.map_nil]); first | done | rfl | (simp only [List.length_drop, List.length_take]; rfl)) ?_; (with_reducible refine (nat_Shl.calls kj16 _ _ t233 a2 t237 t240 _ ?side1 ?side2 A36.out).mono ?_); (case side1 => repeat (first | exact (Kd.V_reads' HO235.out).2.2 | (with_reducible refine Kd.C_alloc ?_ _) | (with_reducible refine Kd.C_drewN ?_ _) | (with_reducible refine Kd.C_drew ?_))); (case side2 => exact (Kd.V_reads' HO235.out).2.1); rintro e w46 ⟨v238, rfl, ho0, hb⟩; refine ⟨_, rfl, ?_⟩; have n0_ := Aside0.mk (Kd.V_below (by (with_reducible repeat (first | apply Kd.V_alloc | apply Kd.V_drewN | apply Kd.V_drew)); exact HO219.out) hb); have n1_ := Aside0.mk (Kd.V_below (by (with_reducible repeat (first | apply Kd.V_alloc | apply Kd.V_drewN | apply Kd.V_drew)); exact HO223.out) hb); have n2_ := Aside0.mk (Kd.V_below (by (with_reducible repeat (first | apply Kd.V_alloc | apply Kd.V_drewN | apply Kd.V_drew)); exact HO227.out) hb); have n3_ := Aside0.mk (Kd.V_below (by (with_reducible repeat (first | apply Kd.V_alloc | apply Kd.V_drewN | apply Kd.V_drew)); exact HO231.out) hb); have n4_ := Aside0.mk (Kd.V_below (by (with_reducible repeat (first | apply Kd.V_alloc | apply Kd.V_drewN | apply Kd.V_drew)); exact HO235.out) hb); have n5_ := Aside0.mk (Kd.V_lower (Kd.V_mono (ok' := fun k_ => True) ho0 (fun k_ hk_ => trivial)) (below_size (by repeat (first | (with_reducible first | exact HB.out | apply below_alloc | apply pw_below_drewN | apply below_drew1) | exact HB.out)))); have n6_ := Aside0.mk (below_step (by repeat (first | (with_reducible first | exact HB.out | apply below_alloc | apply pw_below_drewN | apply below_drew1) | exact HB.out)) hb); clear HO219; clear HO223; clear HO227; clear HO231; clear HO235; clear HB; have HO219 := n0_; have HO223 := n1_; have HO227 := n2_; have HO231 := n3_; have HO235 := n4_; have HO239 := n5_; have HB := n6_; clear n0_ n1_ n2_ n3_ n4_ n5_ n6_; (try clear hb); (try clear hb2); (try clear hk); (try clear hi); (try clear ho0); obtain ⟨Ao47, co47, eo47⟩ := Kd.V_slice HO231.out; subst eo47; obtain ⟨Ao48, co48, eo48⟩ := Kd.V_slice HO239.out; subst eo48) | (go_at_call 6; (with_reducible refine (abacuslaw02_alike.calls kj16 _ _ t229 _ _ t237 false _ ?side1 ?side2 ?side3 ?side4 A39.out).mono ?_); (case side1 => repeat (first | exact (Kd.V_reads' HO231.out).2.2 | (with_reducible refine Kd.C_alloc ?_ _) | (with_reducible refine Kd.C_drewN ?_ _) | (with_reducible refine Kd.C_drew ?_))); (case side2 => exact (Kd.V_reads' HO231.out).2.1); (case side3 => repeat (first | exact (Kd.V_reads' HO239.out).2.2 | (with_reducible refine Kd.C_alloc ?_ _) | (with_reducible refine Kd.C_drewN ?_ _) | (with_reducible refine Kd.C_drew ?_))); (case side4 => exact (Kd.V_reads' HO239.out).2.1); rintro e w' ⟨rfl, ⟨nd, rfl⟩⟩))
                        go_ret
                        exact ⟨by first | rfl | (simp [errW_none, errW_some] <;> rfl) | (simp [*, errW_none, errW_some] <;> rfl), by repeat (first | (with_reducible first | exact HB.out | apply below_alloc | apply pw_below_drewN | apply below_drew1) | exact HB.out)⟩
                    · rw [if_neg c38] at H
                      have c38b0 : (t232 == 0) = false := beq_eq_false_iff_ne.mpr c38
                      have c38b1 : (t232 != 0) = true := bne_iff_ne.mpr c38
                      have H' := Aside0.mk H
                      clear H
                      obtain ⟨Ao49, co49, eo49⟩ := Kd.V_slice HO235.out
                      subst eo49
                      go_wp2_with (first | ((with_reducible refine gate_callee (f := 10) rfl ?_); refine goesL_ (some 88) rfl rfl Try.func10 (by kernel_rfl) rfl #[.slice Ao49 t233.length co49, .int .i64 a2] rfl (by (try simp only [List.map_toArray, List.map_cons, List.map_nil]); first | done | rfl | (simp only [List.length_drop, List.length_take]; rfl)) ?_; (with_reducible refine (nat_Shl.calls kj16 _ _ t233 a2 t237 t240 _ ?side1 ?side2 A36.out).mono ?_); (case side1 => repeat (first | exact (Kd.V_reads' HO235.out).2.2 | (with_reducible refine Kd.C_alloc ?_ _) | (with_reducible refine Kd.C_drewN ?_ _) | (with_reducible refine Kd.C_drew ?_))); (case side2 => exact (Kd.V_reads' HO235.out).2.1); rintro e w50 ⟨v238, rfl, ho0, hb⟩; refine ⟨_, rfl, ?_⟩; have n0_ := Aside0.mk (Kd.V_below (by (with_reducible repeat (first | apply Kd.V_alloc | apply Kd.V_drewN | apply Kd.V_drew)); exact HO219.out) hb); have n1_ := Aside0.mk (Kd.V_below (by (with_reducible repeat (first | apply Kd.V_alloc | apply Kd.V_drewN | apply Kd.V_drew)); exact HO223.out) hb); have n2_ := Aside0.mk (Kd.V_below (by (with_reducible repeat (first | apply Kd.V_alloc | apply Kd.V_drewN | apply Kd.V_drew)); exact HO227.out) hb); have n3_ := Aside0.mk (Kd.V_below (by (with_reducible repeat (first | apply Kd.V_alloc | apply Kd.V_drewN | apply Kd.V_drew)); exact HO231.out) hb); have n4_ := Aside0.mk (Kd.V_below (by (with_reducible repeat (first | apply Kd.V_alloc | apply Kd.V_drewN | apply Kd.V_drew)); exact HO235.out) hb); have n5_ := Aside0.mk (Kd.V_lower (Kd.V_mono (ok' := fun k_ => True) ho0 (fun k_ hk_ => trivial)) (below_size (by repeat (first | (with_reducible first | exact HB.out | apply below_alloc | apply pw_below_drewN | apply below_drew1) | exact HB.out)))); have n6_ := Aside0.mk (below_step (by repeat (first | (with_reducible first | exact HB.out | apply below_alloc | apply pw_below_drewN | apply below_drew1) | exact HB.out)) hb); clear HO219; clear HO223; clear HO227; clear HO231; clear HO235; clear HB; have HO219 := n0_; have HO223 := n1_; have HO227 := n2_; have HO231 := n3_; have HO235 := n4_; have HO239 := n5_; have HB := n6_; clear n0_ n1_ n2_ n3_ n4_ n5_ n6_; (try clear hb); (try clear hb2); (try clear hk); (try clear hi); (try clear ho0)))
                      go_meet
                      case rel => exact ⟨_, H', ⟨by have := HJ5.out; have := HJ16.out; first | omega | exact Nat.le_refl _⟩, ⟨by (with_reducible repeat (first | apply Kd.V_alloc | apply Kd.V_drewN | apply Kd.V_drew)); exact HO219.out⟩, ⟨by (with_reducible repeat (first | apply Kd.V_alloc | apply Kd.V_drewN | apply Kd.V_drew)); exact HO223.out⟩, ⟨by (with_reducible repeat (first | apply Kd.V_alloc | apply Kd.V_drewN | apply Kd.V_drew)); exact HO227.out⟩, ⟨by repeat (first | (with_reducible first | exact HB.out | apply below_alloc | apply pw_below_drewN | apply below_drew1) | exact HB.out)⟩⟩
                  · rw [if_neg c37] at H
                    have c37b0 : (t240 == t232) = false := beq_eq_false_iff_ne.mpr c37
                    have c37b1 : (t240 != t232) = true := bne_iff_ne.mpr c37
                    obtain rfl := Option.some.inj H
                    obtain ⟨Ao51, co51, eo51⟩ := Kd.V_slice HO235.out
                    subst eo51
                    go_wp2_with (first | ((with_reducible refine gate_callee (f := 10) rfl ?_); refine goesL_ (some 88) rfl rfl Try.func10 (by kernel_rfl) rfl #[.slice Ao51 t233.length co51, .int .i64 a2] rfl (by (try simp only [List.map_toArray, List.map_cons, List.map_nil]); first | done | rfl | (simp only [List.length_drop, List.length_take]; rfl)) ?_; (with_reducible refine (nat_Shl.calls kj16 _ _ t233 a2 t237 t240 _ ?side1 ?side2 A36.out).mono ?_); (case side1 => repeat (first | exact (Kd.V_reads' HO235.out).2.2 | (with_reducible refine Kd.C_alloc ?_ _) | (with_reducible refine Kd.C_drewN ?_ _) | (with_reducible refine Kd.C_drew ?_))); (case side2 => exact (Kd.V_reads' HO235.out).2.1); rintro e w52 ⟨v238, rfl, ho0, hb⟩; refine ⟨_, rfl, ?_⟩; have n0_ := Aside0.mk (Kd.V_below (by (with_reducible repeat (first | apply Kd.V_alloc | apply Kd.V_drewN | apply Kd.V_drew)); exact HO219.out) hb); have n1_ := Aside0.mk (Kd.V_below (by (with_reducible repeat (first | apply Kd.V_alloc | apply Kd.V_drewN | apply Kd.V_drew)); exact HO223.out) hb); have n2_ := Aside0.mk (Kd.V_below (by (with_reducible repeat (first | apply Kd.V_alloc | apply Kd.V_drewN | apply Kd.V_drew)); exact HO227.out) hb); have n3_ := Aside0.mk (Kd.V_below (by (with_reducible repeat (first | apply Kd.V_alloc | apply Kd.V_drewN | apply Kd.V_drew)); exact HO231.out) hb); have n4_ := Aside0.mk (Kd.V_below (by (with_reducible repeat (first | apply Kd.V_alloc | apply Kd.V_drewN | apply Kd.V_drew)); exact HO235.out) hb); have n5_ := Aside0.mk (Kd.V_lower (Kd.V_mono (ok' := fun k_ => True) ho0 (fun k_ hk_ => trivial)) (below_size (by repeat (first | (with_reducible first | exact HB.out | apply below_alloc | apply pw_below_drewN | apply below_drew1) | exact HB.out)))); have n6_ := Aside0.mk (below_step (by repeat (first | (with_reducible first | exact HB.out | apply below_alloc | apply pw_below_drewN | apply below_drew1) | exact HB.out)) hb); clear HO219; clear HO223; clear HO227; clear HO231; clear HO235; clear HB; have HO219 := n0_; have HO223 := n1_; have HO227 := n2_; have HO231 := n3_; have HO235 := n4_; have HO239 := n5_; have HB := n6_; clear n0_ n1_ n2_ n3_ n4_ n5_ n6_; (try clear hb); (try clear hb2); (try clear hk); (try clear hi); (try clear ho0)))
                    go_ret
                    exact ⟨by first | rfl | (simp [errW_none, errW_some] <;> rfl) | (simp [*, errW_none, errW_some] <;> rfl), by repeat (first | (with_reducible first | exact HB.out | apply below_alloc | apply pw_below_drewN | apply below_drew1) | exact HB.out)⟩
                · rw [if_neg c35] at H
                  have c35b0 : (t236 == 0) = false := beq_eq_false_iff_ne.mpr c35
                  have c35b1 : (t236 != 0) = true := bne_iff_ne.mpr c35
                  (first | rw [c35b0] | (simp only [i64_w, i32_w]; rw [c35b0]) | rw [c35b1] | skip)
                  by_cases c53 : t236 = 2
                  · rw [if_pos c53] at H
                    have c53b0 : (t236 == 2) = true := beq_iff_eq.mpr c53
                    have c53b1 : (t236 != 2) = false := bne_eq_false_iff_eq.mpr c53
                    clear c53
                    by_cases c54 : t232 = 2
                    · rw [if_pos c54] at H
                      have c54b0 : (t232 == 2) = true := beq_iff_eq.mpr c54
                      have c54b1 : (t232 != 2) = false := bne_eq_false_iff_eq.mpr c54
                      clear c54
                      have H' := Aside0.mk H
                      clear H
                      go_wp2
                      go_meet
                      case rel => exact ⟨_, H', ⟨by have := HJ5.out; have := HJ16.out; first | omega | exact Nat.le_refl _⟩, ⟨by (with_reducible repeat (first | apply Kd.V_alloc | apply Kd.V_drewN | apply Kd.V_drew)); exact HO219.out⟩, ⟨by (with_reducible repeat (first | apply Kd.V_alloc | apply Kd.V_drewN | apply Kd.V_drew)); exact HO223.out⟩, ⟨by (with_reducible repeat (first | apply Kd.V_alloc | apply Kd.V_drewN | apply Kd.V_drew)); exact HO227.out⟩, ⟨by repeat (first | (with_reducible first | exact HB.out | apply below_alloc | apply pw_below_drewN | apply below_drew1) | exact HB.out)⟩⟩
                    · rw [if_neg c54] at H
                      have c54b0 : (t232 == 2) = false := beq_eq_false_iff_ne.mpr c54
                      have c54b1 : (t232 != 2) = true := bne_iff_ne.mpr c54
                      obtain rfl := Option.some.inj H
                      go_wp2
                      go_ret
                      exact ⟨by first | rfl | (simp [errW_none, errW_some] <;> rfl) | (simp [*, errW_none, errW_some] <;> rfl), by repeat (first | (with_reducible first | exact HB.out | apply below_alloc | apply pw_below_drewN | apply below_drew1) | exact HB.out)⟩
                  · rw [if_neg c53] at H
                    have c53b0 : (t236 == 2) = false := beq_eq_false_iff_ne.mpr c53
                    have c53b1 : (t236 != 2) = true := bne_iff_ne.mpr c53
                    obtain rfl := Option.some.inj H
                    go_wp2
                    go_ret
                    exact ⟨by first | rfl | (simp [errW_none, errW_some] <;> rfl) | (simp [*, errW_none, errW_some] <;> rfl), by repeat (first | (with_reducible first | exact HB.out | apply below_alloc | apply pw_below_drewN | apply below_drew1) | exact HB.out)⟩
              case rest =>
                clear HC29
                try clear c1
                try clear c2
                try clear p2
                try clear c3
                try clear c4
                try clear c5
                try clear p6
                try clear c8
                try clear c9
                try clear c10
                try clear c10b0
                try clear c10b1
                try clear c16
                try clear c18
                try clear c18b0
                try clear c18b1
                try clear c19
                try clear c19b0
                try clear c20
                try clear c20b0
                try clear c21
                try clear c21b0
                try clear c23
                try clear c35
                try clear c35b0
                try clear c35b1
                try clear c37
                try clear c37b0
                try clear c37b1
                try clear c38
                try clear c38b0
                try clear c38b1
                try clear c40
                try clear c53
                try clear c53b0
                try clear c53b1
                try clear c54
                try clear c54b0
                try clear c54b1
                try clear p2
                obtain ⟨kq, HA, HJ28, HO_7, HO_9, HO_11, HB⟩ := hcut
                cases kq with
                | zero => exact absurd HA.out (by simp [abacuslaw02_QuotAdds.j2])
                | succ kj28 =>
                  have H := HA.out
                  clear HA
                  simp only [abacuslaw02_QuotAdds.j2] at H
                  have HC55 := Aside0.mk H
                  clear H
                  go_upto_region 17 with (fail)
                  go_cut [115] (fun v115 wc => ∃ (kq : Nat) (x115_54 : Bool), v115 = .bool x115_54 ∧ Aside0 (abacuslaw02_QuotAdds.j3 kq t217 t220 t221 t224 t225 t228 x115_54 = some r) ∧ Aside0 (kq ≤ kj28) ∧ Aside0 (Kd.V (Kd.int .u64) 27 wc w.heap.size (fun _ => True) v218 t217) ∧ Aside0 (Kd.V (Kd.int .u64) 27 wc w.heap.size (fun _ => True) v222 t221) ∧ Aside0 (Kd.V (Kd.int .u64) 27 wc w.heap.size (fun _ => True) v226 t225) ∧ Aside0 (Below w.heap.size w wc))
                  case first =>
                    have H := HC55.out
                    clear HC55
                    by_cases c56 : t220 = 0
                    · rw [if_pos c56] at H
                      have c56b0 : (t220 == 0) = true := beq_iff_eq.mpr c56
                      have c56b1 : (t220 != 0) = false := bne_eq_false_iff_eq.mpr c56
                      clear c56
                      (first | rw [c56b0] | (simp only [i64_w, i32_w]; rw [c56b0]) | rw [c56b1] | skip)
                      have H' := Aside0.mk H
                      clear H
                      go_wp2
                      go_meet
                      case rel => exact ⟨_, ((t224 != 0)), (by first | rfl | (simp; done) | (simp [*]; done)), H', ⟨by have := HJ5.out; have := HJ16.out; have := HJ28.out; first | omega | exact Nat.le_refl _⟩, ⟨by (with_reducible repeat (first | apply Kd.V_alloc | apply Kd.V_drewN | apply Kd.V_drew)); exact HO_7.out⟩, ⟨by (with_reducible repeat (first | apply Kd.V_alloc | apply Kd.V_drewN | apply Kd.V_drew)); exact HO_9.out⟩, ⟨by (with_reducible repeat (first | apply Kd.V_alloc | apply Kd.V_drewN | apply Kd.V_drew)); exact HO_11.out⟩, ⟨by repeat (first | (with_reducible first | exact HB.out | apply below_alloc | apply pw_below_drewN | apply below_drew1) | exact HB.out)⟩⟩
                    · rw [if_neg c56] at H
                      have c56b0 : (t220 == 0) = false := beq_eq_false_iff_ne.mpr c56
                      have c56b1 : (t220 != 0) = true := bne_iff_ne.mpr c56
                      (first | rw [c56b0] | (simp only [i64_w, i32_w]; rw [c56b0]) | rw [c56b1] | skip)
                      have H' := Aside0.mk H
                      clear H
                      go_wp2
                      go_meet
                      case rel => exact ⟨_, (true), (by first | rfl | (simp; done) | (simp [*]; done)), H', ⟨by have := HJ5.out; have := HJ16.out; have := HJ28.out; first | omega | exact Nat.le_refl _⟩, ⟨by (with_reducible repeat (first | apply Kd.V_alloc | apply Kd.V_drewN | apply Kd.V_drew)); exact HO_7.out⟩, ⟨by (with_reducible repeat (first | apply Kd.V_alloc | apply Kd.V_drewN | apply Kd.V_drew)); exact HO_9.out⟩, ⟨by (with_reducible repeat (first | apply Kd.V_alloc | apply Kd.V_drewN | apply Kd.V_drew)); exact HO_11.out⟩, ⟨by repeat (first | (with_reducible first | exact HB.out | apply below_alloc | apply pw_below_drewN | apply below_drew1) | exact HB.out)⟩⟩
                  case rest =>
                    clear HC55
                    try clear c1
                    try clear c2
                    try clear p2
                    try clear c3
                    try clear c4
                    try clear c5
                    try clear p6
                    try clear c8
                    try clear c9
                    try clear c10
                    try clear c10b0
                    try clear c10b1
                    try clear c16
                    try clear c18
                    try clear c18b0
                    try clear c18b1
                    try clear c19
                    try clear c19b0
                    try clear c20
                    try clear c20b0
                    try clear c21
                    try clear c21b0
                    try clear c23
                    try clear c35
                    try clear c35b0
                    try clear c35b1
                    try clear c37
                    try clear c37b0
                    try clear c37b1
                    try clear c38
                    try clear c38b0
                    try clear c38b1
                    try clear c40
                    try clear c53
                    try clear c53b0
                    try clear c53b1
                    try clear c54
                    try clear c54b0
                    try clear c54b1
                    try clear c56
                    try clear c56b0
                    try clear c56b1
                    try clear p2
                    try clear p6
                    obtain ⟨kq, x115_54, rfl, HA, HJ54, HO_7, HO_9, HO_11, HB⟩ := hcut
                    cases kq with
                    | zero => exact absurd HA.out (by simp [abacuslaw02_QuotAdds.j3])
                    | succ kj54 =>
                      have H := HA.out
                      clear HA
                      simp only [abacuslaw02_QuotAdds.j3] at H
                      by_cases c57 : x115_54 = true
                      · subst c57
                        have H1 : (if t220 = 0 then (if t224 = 0 then (some (t228 == 2)) else (if t224 = 2 then (some (t228 == 2)) else (some false))) else (if t220 = 2 then (if t224 = 0 then (some (t228 == 2)) else (if t224 = 2 then (some (t228 == 2)) else (some false))) else (some false))) = some r := by rw [if_pos rfl] at H; exact H
                        clear H
                        have H := H1
                        clear H1
                        by_cases c58 : t220 = 0
                        · rw [if_pos c58] at H
                          have c58b0 : (t220 == 0) = true := beq_iff_eq.mpr c58
                          have c58b1 : (t220 != 0) = false := bne_eq_false_iff_eq.mpr c58
                          clear c58
                          by_cases c59 : t224 = 0
                          · rw [if_pos c59] at H
                            have c59b0 : (t224 == 0) = true := beq_iff_eq.mpr c59
                            have c59b1 : (t224 != 0) = false := bne_eq_false_iff_eq.mpr c59
                            clear c59
                            obtain rfl := Option.some.inj H
                            go_wp2
                            go_ret
                            exact ⟨by first | rfl | (simp [errW_none, errW_some] <;> rfl) | (simp [*, errW_none, errW_some] <;> rfl), by repeat (first | (with_reducible first | exact HB.out | apply below_alloc | apply pw_below_drewN | apply below_drew1) | exact HB.out)⟩
                          · rw [if_neg c59] at H
                            have c59b0 : (t224 == 0) = false := beq_eq_false_iff_ne.mpr c59
                            have c59b1 : (t224 != 0) = true := bne_iff_ne.mpr c59
                            by_cases c60 : t224 = 2
                            · rw [if_pos c60] at H
                              have c60b0 : (t224 == 2) = true := beq_iff_eq.mpr c60
                              have c60b1 : (t224 != 2) = false := bne_eq_false_iff_eq.mpr c60
                              clear c60
                              obtain rfl := Option.some.inj H
                              go_wp2
                              go_ret
                              exact ⟨by first | rfl | (simp [errW_none, errW_some] <;> rfl) | (simp [*, errW_none, errW_some] <;> rfl), by repeat (first | (with_reducible first | exact HB.out | apply below_alloc | apply pw_below_drewN | apply below_drew1) | exact HB.out)⟩
                            · rw [if_neg c60] at H
                              have c60b0 : (t224 == 2) = false := beq_eq_false_iff_ne.mpr c60
                              have c60b1 : (t224 != 2) = true := bne_iff_ne.mpr c60
                              obtain rfl := Option.some.inj H
                              go_wp2
                              go_ret
                              exact ⟨by first | rfl | (simp [errW_none, errW_some] <;> rfl) | (simp [*, errW_none, errW_some] <;> rfl), by repeat (first | (with_reducible first | exact HB.out | apply below_alloc | apply pw_below_drewN | apply below_drew1) | exact HB.out)⟩
                        · rw [if_neg c58] at H
                          have c58b0 : (t220 == 0) = false := beq_eq_false_iff_ne.mpr c58
                          have c58b1 : (t220 != 0) = true := bne_iff_ne.mpr c58
                          by_cases c61 : t220 = 2
                          · rw [if_pos c61] at H
                            have c61b0 : (t220 == 2) = true := beq_iff_eq.mpr c61
                            have c61b1 : (t220 != 2) = false := bne_eq_false_iff_eq.mpr c61
                            clear c61
                            by_cases c62 : t224 = 0
                            · rw [if_pos c62] at H
                              have c62b0 : (t224 == 0) = true := beq_iff_eq.mpr c62
                              have c62b1 : (t224 != 0) = false := bne_eq_false_iff_eq.mpr c62
                              clear c62
                              obtain rfl := Option.some.inj H
                              go_wp2
                              go_ret
                              exact ⟨by first | rfl | (simp [errW_none, errW_some] <;> rfl) | (simp [*, errW_none, errW_some] <;> rfl), by repeat (first | (with_reducible first | exact HB.out | apply below_alloc | apply pw_below_drewN | apply below_drew1) | exact HB.out)⟩
                            · rw [if_neg c62] at H
                              have c62b0 : (t224 == 0) = false := beq_eq_false_iff_ne.mpr c62
                              have c62b1 : (t224 != 0) = true := bne_iff_ne.mpr c62
                              by_cases c63 : t224 = 2
                              · rw [if_pos c63] at H
                                have c63b0 : (t224 == 2) = true := beq_iff_eq.mpr c63
                                have c63b1 : (t224 != 2) = false := bne_eq_false_iff_eq.mpr c63
                                clear c63
                                obtain rfl := Option.some.inj H
                                go_wp2
                                go_ret
                                exact ⟨by first | rfl | (simp [errW_none, errW_some] <;> rfl) | (simp [*, errW_none, errW_some] <;> rfl), by repeat (first | (with_reducible first | exact HB.out | apply below_alloc | apply pw_below_drewN | apply below_drew1) | exact HB.out)⟩
                              · rw [if_neg c63] at H
                                have c63b0 : (t224 == 2) = false := beq_eq_false_iff_ne.mpr c63
                                have c63b1 : (t224 != 2) = true := bne_iff_ne.mpr c63
                                obtain rfl := Option.some.inj H
                                go_wp2
                                go_ret
                                exact ⟨by first | rfl | (simp [errW_none, errW_some] <;> rfl) | (simp [*, errW_none, errW_some] <;> rfl), by repeat (first | (with_reducible first | exact HB.out | apply below_alloc | apply pw_below_drewN | apply below_drew1) | exact HB.out)⟩
                          · rw [if_neg c61] at H
                            have c61b0 : (t220 == 2) = false := beq_eq_false_iff_ne.mpr c61
                            have c61b1 : (t220 != 2) = true := bne_iff_ne.mpr c61
                            obtain rfl := Option.some.inj H
                            go_wp2
                            go_ret
                            exact ⟨by first | rfl | (simp [errW_none, errW_some] <;> rfl) | (simp [*, errW_none, errW_some] <;> rfl), by repeat (first | (with_reducible first | exact HB.out | apply below_alloc | apply pw_below_drewN | apply below_drew1) | exact HB.out)⟩
                      · replace c57 := Bool.eq_false_iff.mpr c57
                        subst c57
                        have H1 : ((nat_Mul.f kj54 t217 t221).bind fun bt242 => (if bt242.2 = t228 then (if t228 = 0 then ((abacuslaw02_alike.f kj54 t225 bt242.1).bind fun t246 => (some t246)) else (some true)) else (some false))) = some r := by rw [if_neg (show ¬ (false = true) by decide)] at H; exact H
                        clear H
                        have H := H1
                        clear H1
                        replace H := Option.bind_eq_some_iff.mp H
                        obtain ⟨⟨t242, t245⟩, A640, H⟩ := H
                        replace H : (if t245 = t228 then (if t228 = 0 then ((abacuslaw02_alike.f kj54 t225 t242).bind fun t246 => (some t246)) else (some true)) else (some false)) = some r := H
                        have A64 := Aside0.mk A640
                        clear A640
                        by_cases c65 : t245 = t228
                        · rw [if_pos c65] at H
                          have c65b0 : (t245 == t228) = true := beq_iff_eq.mpr c65
                          have c65b1 : (t245 != t228) = false := bne_eq_false_iff_eq.mpr c65
                          clear c65
                          by_cases c66 : t228 = 0
                          · rw [if_pos c66] at H
                            have c66b0 : (t228 == 0) = true := beq_iff_eq.mpr c66
                            have c66b1 : (t228 != 0) = false := bne_eq_false_iff_eq.mpr c66
                            clear c66
                            replace H := Option.bind_eq_some_iff.mp H
                            obtain ⟨t246, A670, H⟩ := H
                            replace H : (some t246) = some r := H
                            have A67 := Aside0.mk A670
                            clear A670
                            obtain rfl := Option.some.inj H
                            obtain ⟨Ao68, co68, eo68⟩ := Kd.V_slice HO_7.out
                            subst eo68
                            obtain ⟨Ao69, co69, eo69⟩ := Kd.V_slice HO_9.out
                            subst eo69
                            go_wp2_with (first | ((with_reducible refine gate_callee (f := 11) rfl ?_); refine goesL_ (some 137) rfl rfl Try.func11 (by kernel_rfl) rfl #[.slice Ao68 t217.length co68, .slice Ao69 t221.length co69] rfl (by (try simp only [List.map_toArray, List.map_cons, List.map_nil]); first | done | rfl | (simp only [List.length_drop, List.length_take]; rfl)) ?_; (with_reducible refine (nat_Mul.calls kj54 _ _ t217 _ _ t221 t242 t245 _ ?side1 ?side2 ?side3 ?side4 A64.out).mono ?_); (case side1 => repeat (first | exact (Kd.V_reads' HO_7.out).2.2 | (with_reducible refine Kd.C_alloc ?_ _) | (with_reducible refine Kd.C_drewN ?_ _) | (with_reducible refine Kd.C_drew ?_))); (case side2 => exact (Kd.V_reads' HO_7.out).2.1); (case side3 => repeat (first | exact (Kd.V_reads' HO_9.out).2.2 | (with_reducible refine Kd.C_alloc ?_ _) | (with_reducible refine Kd.C_drewN ?_ _) | (with_reducible refine Kd.C_drew ?_))); (case side4 => exact (Kd.V_reads' HO_9.out).2.1); rintro e w70 ⟨v243, rfl, ho0, hb⟩; refine ⟨_, rfl, ?_⟩; have n0_ := Aside0.mk (Kd.V_below (by (with_reducible repeat (first | apply Kd.V_alloc | apply Kd.V_drewN | apply Kd.V_drew)); exact HO_7.out) hb); have n1_ := Aside0.mk (Kd.V_below (by (with_reducible repeat (first | apply Kd.V_alloc | apply Kd.V_drewN | apply Kd.V_drew)); exact HO_9.out) hb); have n2_ := Aside0.mk (Kd.V_below (by (with_reducible repeat (first | apply Kd.V_alloc | apply Kd.V_drewN | apply Kd.V_drew)); exact HO_11.out) hb); have n3_ := Aside0.mk (Kd.V_lower (Kd.V_mono (ok' := fun k_ => True) ho0 (fun k_ hk_ => trivial)) (below_size (by repeat (first | (with_reducible first | exact HB.out | apply below_alloc | apply pw_below_drewN | apply below_drew1) | exact HB.out)))); have n4_ := Aside0.mk (below_step (by repeat (first | (with_reducible first | exact HB.out | apply below_alloc | apply pw_below_drewN | apply below_drew1) | exact HB.out)) hb); clear HO_7; clear HO_9; clear HO_11; clear HB; have HO_7 := n0_; have HO_9 := n1_; have HO_11 := n2_; have HO244 := n3_; have HB := n4_; clear n0_ n1_ n2_ n3_ n4_; (try clear hb); (try clear hb2); (try clear hk); (try clear hi); (try clear ho0); obtain ⟨Ao71, co71, eo71⟩ := Kd.V_slice HO_11.out; subst eo71; obtain ⟨Ao72, co72, eo72⟩ := Kd.V_slice HO244.out; subst eo72) | (go_at_call 6; (with_reducible refine (abacuslaw02_alike.calls kj54 _ _ t225 _ _ t242 t246 _ ?side1 ?side2 ?side3 ?side4 A67.out).mono ?_); (case side1 => repeat (first | exact (Kd.V_reads' HO_11.out).2.2 | (with_reducible refine Kd.C_alloc ?_ _) | (with_reducible refine Kd.C_drewN ?_ _) | (with_reducible refine Kd.C_drew ?_))); (case side2 => exact (Kd.V_reads' HO_11.out).2.1); (case side3 => repeat (first | exact (Kd.V_reads' HO244.out).2.2 | (with_reducible refine Kd.C_alloc ?_ _) | (with_reducible refine Kd.C_drewN ?_ _) | (with_reducible refine Kd.C_drew ?_))); (case side4 => exact (Kd.V_reads' HO244.out).2.1); rintro e w' ⟨rfl, ⟨nd, rfl⟩⟩))
                            go_ret
                            exact ⟨by first | rfl | (simp [errW_none, errW_some] <;> rfl) | (simp [*, errW_none, errW_some] <;> rfl), by repeat (first | (with_reducible first | exact HB.out | apply below_alloc | apply pw_below_drewN | apply below_drew1) | exact HB.out)⟩
                          · rw [if_neg c66] at H
                            have c66b0 : (t228 == 0) = false := beq_eq_false_iff_ne.mpr c66
                            have c66b1 : (t228 != 0) = true := bne_iff_ne.mpr c66
                            obtain rfl := Option.some.inj H
                            obtain ⟨Ao73, co73, eo73⟩ := Kd.V_slice HO_7.out
                            subst eo73
                            obtain ⟨Ao74, co74, eo74⟩ := Kd.V_slice HO_9.out
                            subst eo74
                            go_wp2_with (first | ((with_reducible refine gate_callee (f := 11) rfl ?_); refine goesL_ (some 137) rfl rfl Try.func11 (by kernel_rfl) rfl #[.slice Ao73 t217.length co73, .slice Ao74 t221.length co74] rfl (by (try simp only [List.map_toArray, List.map_cons, List.map_nil]); first | done | rfl | (simp only [List.length_drop, List.length_take]; rfl)) ?_; (with_reducible refine (nat_Mul.calls kj54 _ _ t217 _ _ t221 t242 t245 _ ?side1 ?side2 ?side3 ?side4 A64.out).mono ?_); (case side1 => repeat (first | exact (Kd.V_reads' HO_7.out).2.2 | (with_reducible refine Kd.C_alloc ?_ _) | (with_reducible refine Kd.C_drewN ?_ _) | (with_reducible refine Kd.C_drew ?_))); (case side2 => exact (Kd.V_reads' HO_7.out).2.1); (case side3 => repeat (first | exact (Kd.V_reads' HO_9.out).2.2 | (with_reducible refine Kd.C_alloc ?_ _) | (with_reducible refine Kd.C_drewN ?_ _) | (with_reducible refine Kd.C_drew ?_))); (case side4 => exact (Kd.V_reads' HO_9.out).2.1); rintro e w75 ⟨v243, rfl, ho0, hb⟩; refine ⟨_, rfl, ?_⟩; have n0_ := Aside0.mk (Kd.V_below (by (with_reducible repeat (first | apply Kd.V_alloc | apply Kd.V_drewN | apply Kd.V_drew)); exact HO_7.out) hb); have n1_ := Aside0.mk (Kd.V_below (by (with_reducible repeat (first | apply Kd.V_alloc | apply Kd.V_drewN | apply Kd.V_drew)); exact HO_9.out) hb); have n2_ := Aside0.mk (Kd.V_below (by (with_reducible repeat (first | apply Kd.V_alloc | apply Kd.V_drewN | apply Kd.V_drew)); exact HO_11.out) hb); have n3_ := Aside0.mk (Kd.V_lower (Kd.V_mono (ok' := fun k_ => True) ho0 (fun k_ hk_ => trivial)) (below_size (by repeat (first | (with_reducible first | exact HB.out | apply below_alloc | apply pw_below_drewN | apply below_drew1) | exact HB.out)))); have n4_ := Aside0.mk (below_step (by repeat (first | (with_reducible first | exact HB.out | apply below_alloc | apply pw_below_drewN | apply below_drew1) | exact HB.out)) hb); clear HO_7; clear HO_9; clear HO_11; clear HB; have HO_7 := n0_; have HO_9 := n1_; have HO_11 := n2_; have HO244 := n3_; have HB := n4_; clear n0_ n1_ n2_ n3_ n4_; (try clear hb); (try clear hb2); (try clear hk); (try clear hi); (try clear ho0)))
                            go_ret
                            exact ⟨by first | rfl | (simp [errW_none, errW_some] <;> rfl) | (simp [*, errW_none, errW_some] <;> rfl), by repeat (first | (with_reducible first | exact HB.out | apply below_alloc | apply pw_below_drewN | apply below_drew1) | exact HB.out)⟩
                        · rw [if_neg c65] at H
                          have c65b0 : (t245 == t228) = false := beq_eq_false_iff_ne.mpr c65
                          have c65b1 : (t245 != t228) = true := bne_iff_ne.mpr c65
                          obtain rfl := Option.some.inj H
                          obtain ⟨Ao76, co76, eo76⟩ := Kd.V_slice HO_7.out
                          subst eo76
                          obtain ⟨Ao77, co77, eo77⟩ := Kd.V_slice HO_9.out
                          subst eo77
                          go_wp2_with (first | ((with_reducible refine gate_callee (f := 11) rfl ?_); refine goesL_ (some 137) rfl rfl Try.func11 (by kernel_rfl) rfl #[.slice Ao76 t217.length co76, .slice Ao77 t221.length co77] rfl (by (try simp only [List.map_toArray, List.map_cons, List.map_nil]); first | done | rfl | (simp only [List.length_drop, List.length_take]; rfl)) ?_; (with_reducible refine (nat_Mul.calls kj54 _ _ t217 _ _ t221 t242 t245 _ ?side1 ?side2 ?side3 ?side4 A64.out).mono ?_); (case side1 => repeat (first | exact (Kd.V_reads' HO_7.out).2.2 | (with_reducible refine Kd.C_alloc ?_ _) | (with_reducible refine Kd.C_drewN ?_ _) | (with_reducible refine Kd.C_drew ?_))); (case side2 => exact (Kd.V_reads' HO_7.out).2.1); (case side3 => repeat (first | exact (Kd.V_reads' HO_9.out).2.2 | (with_reducible refine Kd.C_alloc ?_ _) | (with_reducible refine Kd.C_drewN ?_ _) | (with_reducible refine Kd.C_drew ?_))); (case side4 => exact (Kd.V_reads' HO_9.out).2.1); rintro e w78 ⟨v243, rfl, ho0, hb⟩; refine ⟨_, rfl, ?_⟩; have n0_ := Aside0.mk (Kd.V_below (by (with_reducible repeat (first | apply Kd.V_alloc | apply Kd.V_drewN | apply Kd.V_drew)); exact HO_7.out) hb); have n1_ := Aside0.mk (Kd.V_below (by (with_reducible repeat (first | apply Kd.V_alloc | apply Kd.V_drewN | apply Kd.V_drew)); exact HO_9.out) hb); have n2_ := Aside0.mk (Kd.V_below (by (with_reducible repeat (first | apply Kd.V_alloc | apply Kd.V_drewN | apply Kd.V_drew)); exact HO_11.out) hb); have n3_ := Aside0.mk (Kd.V_lower (Kd.V_mono (ok' := fun k_ => True) ho0 (fun k_ hk_ => trivial)) (below_size (by repeat (first | (with_reducible first | exact HB.out | apply below_alloc | apply pw_below_drewN | apply below_drew1) | exact HB.out)))); have n4_ := Aside0.mk (below_step (by repeat (first | (with_reducible first | exact HB.out | apply below_alloc | apply pw_below_drewN | apply below_drew1) | exact HB.out)) hb); clear HO_7; clear HO_9; clear HO_11; clear HB; have HO_7 := n0_; have HO_9 := n1_; have HO_11 := n2_; have HO244 := n3_; have HB := n4_; clear n0_ n1_ n2_ n3_ n4_; (try clear hb); (try clear hb2); (try clear hk); (try clear hi); (try clear ho0)))
                          go_ret
                          exact ⟨by first | rfl | (simp [errW_none, errW_some] <;> rfl) | (simp [*, errW_none, errW_some] <;> rfl), by repeat (first | (with_reducible first | exact HB.out | apply below_alloc | apply pw_below_drewN | apply below_drew1) | exact HB.out)⟩

/-- THE ONE PURE STATEMENT of abacuslaw02_QuotAdds: yours. -/
def abacuslaw02_QuotAdds.Pure : Prop := ∀ (l0 : List Int) (a1 : Int) (a2 : Int), l0.length ≤ maxLen → l0.length * 8 ≤ 140737488351232 → (∀ x ∈ l0, (Lit.int .u64 x).wf = true) → (Lit.int .i64 a1).wf = true → (Lit.int .i64 a2).wf = true → ∃ k, abacuslaw02_QuotAdds.f k l0 a1 a2 = some true
theorem abacuslaw02_QuotAdds.walk (P : abacuslaw02_QuotAdds.Pure) (a0 : Option Addr) (len0 cap0 : Nat) (z0 : List Int) (a1 : Int) (a2 : Int) (w : World) (w0 : (a0 = none ∧ len0 = 0 ∧ cap0 = 0 ∧ z0 = []) ∨ ∃ x, a0 = some x ∧ len0 ≤ cap0 ∧ cap0 ≤ maxLen ∧ z0.length = cap0 ∧ (∀ i, i < z0.length → w.cell? (x.add i) = some (.int .u64 (z0.getD i 0))) ∧ ∀ n ∈ z0, (Lit.int .u64 n).wf = true) (y0 : len0 * 8 ≤ 140737488351232) (w1 : (Lit.int .i64 a1).wf = true) (w2 : (Lit.int .i64 a2).wf = true) :
    Calls Try.prog 3 #[.slice a0 len0 cap0, .int .i64 a1, .int .i64 a2] w fun e w' => e = .returned (.bool true) ∧ Below w.heap.size w w' := by
  obtain ⟨l0, rfl, hr0, hm0, hw0, hc0⟩ := ReadsInt.ofRowC w0
  obtain ⟨k, h⟩ := P l0 a1 a2 hm0 y0 hw0 w1 w2
  refine (abacuslaw02_QuotAdds.calls k _ _ l0 a1 a2 true w (Kd.C_of_reads (d := (0 : Int)) (h1 := fun _ => rfl) hr0) hc0 h).mono ?_
  rintro e w' ⟨rfl, hd⟩
  exact ⟨rfl, hd⟩

end Go.Proofs.Ytegollbojafekaa.PA
