-- printed by a program
import Derived.Test.YtiigfmmflicdpaaDoorPAx0
import Derived.Test.YtiigfmmflicdpaaDoorPAx1
import Derived.Test.YtiigfmmflicdpaaDoorPAx6
namespace Go.Proofs.YtiigfmmflicdpaaDoor.PA
open Go.Proofs.YtiigfmmflicdpaaDoorX
open Go.RowKit Go.Proofs.YtiigfmmflicdpaaDoorW.PrintWords Go.Proofs.YtiigfmmflicdpaaDoorW.PrintLast Go.Proofs.YtiigfmmflicdpaaDoorW.PrintMore
attribute [local go_sem] max2_int min2_int max_two min_two max_three min_three max_four min_four   -- for this text's walks alone
set_option linter.unusedVariables false
set_option linter.unusedSimpArgs false

/-! ### abacuslaw04_IeeeRanks: function 5 -/
mutual
def abacuslaw04_IeeeRanks.j0 : Nat → Int → Int → Bool → Bool → Option (Bool)
  | 0, _, _, _, _ => none
  | k + 1, x0, x3, x4, x26 => if x26 = true then (if x4 = true then (some false) else (some (x3 == 0))) else ((ieee_Rank.f x3).bind fun bt369 => (if x4 = true then (if bt369.2 = true then (abacuslaw04_IeeeRanks.j1 k x0 x3 (bt369.1 != x0)) else (abacuslaw04_IeeeRanks.j1 k x0 x3 true)) else (abacuslaw04_IeeeRanks.j1 k x0 x3 true)))
def abacuslaw04_IeeeRanks.j1 : Nat → Int → Int → Bool → Option (Bool)
  | 0, _, _, _ => none
  | k + 1, x0, x3, x48 => if x48 = true then (some false) else ((ieee_AtRank.f k (wrap64 (-x0))).bind fun bt371 => (if x0 = 0 then (abacuslaw04_IeeeRanks.j2 k x0 x3 (x3 != 0)) else ((ieee_Neg.f x3).bind fun t373 => (if bt371.1 = t373 then (abacuslaw04_IeeeRanks.j2 k x0 x3 false) else (abacuslaw04_IeeeRanks.j2 k x0 x3 true)))))
def abacuslaw04_IeeeRanks.j2 : Nat → Int → Int → Bool → Option (Bool)
  | 0, _, _, _ => none
  | k + 1, x0, x3, x70 => if x70 = true then (some false) else ((ieee_Up.f k x3).bind fun t374 => (if x0 = 9218868437227405312 then (if t374 = x3 then ((ieee_Neg.f x3).bind fun t375 => ((ieee_Down.f k t375).bind fun t376 => ((ieee_Neg.f x3).bind fun t377 => (some (t376 == t377))))) else (some false)) else ((ieee_Compare.f t374 x3).bind fun bt378 => ((ieee_Rank.f t374).bind fun bt380 => (if bt378.1 = 1 then (if bt380.1 = (wrap64 (x0 + 1)) then ((ieee_Down.f k t374).bind fun t382 => (if t382 = x3 then (if x0 = (-1) then (some (t374 == 9223372036854775808)) else (some true)) else (some false))) else (some false)) else (some false))))))
end
def abacuslaw04_IeeeRanks.f (k : Nat) (a0 : Int) : Option (Bool) := (abacuslaw04_awake.f k).bind fun t366 => (if t366 = true then ((ieee_AtRank.f k a0).bind fun bt367 => (if a0 > 9218868437227405312 then (abacuslaw04_IeeeRanks.j0 k a0 bt367.1 bt367.2 true) else (abacuslaw04_IeeeRanks.j0 k a0 bt367.1 bt367.2 (decide (a0 < (-9218868437227405312)))))) else (some false))
theorem abacuslaw04_IeeeRanks.mono_l : ∀ k, (∀ y0 y1 y2 y3, LeO (abacuslaw04_IeeeRanks.j0 k y0 y1 y2 y3) (abacuslaw04_IeeeRanks.j0 (k + 1) y0 y1 y2 y3)) ∧ (∀ y0 y1 y2, LeO (abacuslaw04_IeeeRanks.j1 k y0 y1 y2) (abacuslaw04_IeeeRanks.j1 (k + 1) y0 y1 y2)) ∧ (∀ y0 y1 y2, LeO (abacuslaw04_IeeeRanks.j2 k y0 y1 y2) (abacuslaw04_IeeeRanks.j2 (k + 1) y0 y1 y2))
  | 0 => ⟨fun _ _ _ _ r h => by simp [abacuslaw04_IeeeRanks.j0] at h, fun _ _ _ r h => by simp [abacuslaw04_IeeeRanks.j1] at h, fun _ _ _ r h => by simp [abacuslaw04_IeeeRanks.j2] at h⟩
  | k + 1 => by
    obtain ⟨ih0, ih1, ih2⟩ := abacuslaw04_IeeeRanks.mono_l k
    refine ⟨?_, ?_, ?_⟩
    · intro y0 y1 y2 y3
      unfold abacuslaw04_IeeeRanks.j0
      repeat' first
      | (with_reducible exact ih0 _ _ _ _)
      | (with_reducible exact ih1 _ _ _)
      | (with_reducible exact ih2 _ _ _)
      | (with_reducible exact abacuslaw04_awake.mono _)
      | (with_reducible exact ieee_AtRank.mono _ _)
      | (with_reducible exact ieee_Down.mono _ _)
      | (with_reducible exact ieee_Up.mono _ _)
      | (with_reducible exact LeO.refl _)
      | (with_reducible exact LeO.none _)
      | (with_reducible refine LeO.ite ?_ ?_)
      | (with_reducible refine LeO.bind ?_ (fun _ => ?_))
      | exact ih0 _ _ _ _
      | exact ih1 _ _ _
      | exact ih2 _ _ _
      | exact abacuslaw04_awake.mono _
      | exact ieee_AtRank.mono _ _
      | exact ieee_Down.mono _ _
      | exact ieee_Up.mono _ _
      | exact LeO.none _
      | refine LeO.ite ?_ ?_
      | refine LeO.bind ?_ (fun _ => ?_)
    · intro y0 y1 y2
      unfold abacuslaw04_IeeeRanks.j1
      repeat' first
      | (with_reducible exact ih0 _ _ _ _)
      | (with_reducible exact ih1 _ _ _)
      | (with_reducible exact ih2 _ _ _)
      | (with_reducible exact abacuslaw04_awake.mono _)
      | (with_reducible exact ieee_AtRank.mono _ _)
      | (with_reducible exact ieee_Down.mono _ _)
      | (with_reducible exact ieee_Up.mono _ _)
      | (with_reducible exact LeO.refl _)
      | (with_reducible exact LeO.none _)
      | (with_reducible refine LeO.ite ?_ ?_)
      | (with_reducible refine LeO.bind ?_ (fun _ => ?_))
      | exact ih0 _ _ _ _
      | exact ih1 _ _ _
      | exact ih2 _ _ _
      | exact abacuslaw04_awake.mono _
      | exact ieee_AtRank.mono _ _
      | exact ieee_Down.mono _ _
      | exact ieee_Up.mono _ _
      | exact LeO.none _
      | refine LeO.ite ?_ ?_
      | refine LeO.bind ?_ (fun _ => ?_)
    · intro y0 y1 y2
      unfold abacuslaw04_IeeeRanks.j2
      repeat' first
      | (with_reducible exact ih0 _ _ _ _)
      | (with_reducible exact ih1 _ _ _)
      | (with_reducible exact ih2 _ _ _)
      | (with_reducible exact abacuslaw04_awake.mono _)
      | (with_reducible exact ieee_AtRank.mono _ _)
      | (with_reducible exact ieee_Down.mono _ _)
      | (with_reducible exact ieee_Up.mono _ _)
      | (with_reducible exact LeO.refl _)
      | (with_reducible exact LeO.none _)
      | (with_reducible refine LeO.ite ?_ ?_)
      | (with_reducible refine LeO.bind ?_ (fun _ => ?_))
      | exact ih0 _ _ _ _
      | exact ih1 _ _ _
      | exact ih2 _ _ _
      | exact abacuslaw04_awake.mono _
      | exact ieee_AtRank.mono _ _
      | exact ieee_Down.mono _ _
      | exact ieee_Up.mono _ _
      | exact LeO.none _
      | refine LeO.ite ?_ ?_
      | refine LeO.bind ?_ (fun _ => ?_)
theorem abacuslaw04_IeeeRanks.mono : ∀ a0 k, LeO (abacuslaw04_IeeeRanks.f k a0) (abacuslaw04_IeeeRanks.f (k + 1) a0) := by
  intro a0 k
  obtain ⟨ih0, ih1, ih2⟩ := abacuslaw04_IeeeRanks.mono_l k
  unfold abacuslaw04_IeeeRanks.f
  repeat' first
      | (with_reducible exact ih0 _ _ _ _)
      | (with_reducible exact ih1 _ _ _)
      | (with_reducible exact ih2 _ _ _)
      | (with_reducible exact abacuslaw04_awake.mono _)
      | (with_reducible exact ieee_AtRank.mono _ _)
      | (with_reducible exact ieee_Down.mono _ _)
      | (with_reducible exact ieee_Up.mono _ _)
      | (with_reducible exact LeO.refl _)
      | (with_reducible exact LeO.none _)
      | (with_reducible refine LeO.ite ?_ ?_)
      | (with_reducible refine LeO.bind ?_ (fun _ => ?_))
      | exact ih0 _ _ _ _
      | exact ih1 _ _ _
      | exact ih2 _ _ _
      | exact abacuslaw04_awake.mono _
      | exact ieee_AtRank.mono _ _
      | exact ieee_Down.mono _ _
      | exact ieee_Up.mono _ _
      | exact LeO.none _
      | refine LeO.ite ?_ ?_
      | refine LeO.bind ?_ (fun _ => ?_)
set_option maxHeartbeats 8000000 in
set_option maxRecDepth 100000 in
theorem abacuslaw04_IeeeRanks.calls (k : Nat) (a0 : Int) (r : Bool) (w : World) (hT : Kd.C (Kd.int .u8) w (some ⟨0, 0, none⟩) 64 tabL) (h : abacuslaw04_IeeeRanks.f k a0 = some r) :
    Calls Tryd.prog 5 #[.int .i64 a0] w fun e w' => e = .returned (.bool r) ∧ Below w.heap.size w w' := by
  have HT := Aside0.mk hT
  clear hT
  have HB := Aside0.mk (Below.refl w.heap.size w)
  have H : ((abacuslaw04_awake.f k).bind fun t366 => (if t366 = true then ((ieee_AtRank.f k a0).bind fun bt367 => (if a0 > 9218868437227405312 then (abacuslaw04_IeeeRanks.j0 k a0 bt367.1 bt367.2 true) else (abacuslaw04_IeeeRanks.j0 k a0 bt367.1 bt367.2 (decide (a0 < (-9218868437227405312)))))) else (some false))) = some r := h
  clear h
  replace H := Option.bind_eq_some_iff.mp H
  obtain ⟨t366, A20, H⟩ := H
  replace H : (if t366 = true then ((ieee_AtRank.f k a0).bind fun bt367 => (if a0 > 9218868437227405312 then (abacuslaw04_IeeeRanks.j0 k a0 bt367.1 bt367.2 true) else (abacuslaw04_IeeeRanks.j0 k a0 bt367.1 bt367.2 (decide (a0 < (-9218868437227405312)))))) else (some false)) = some r := H
  have A2 := Aside0.mk A20
  clear A20
  by_cases c3 : t366 = true
  · subst c3
    have H1 : ((ieee_AtRank.f k a0).bind fun bt367 => (if a0 > 9218868437227405312 then (abacuslaw04_IeeeRanks.j0 k a0 bt367.1 bt367.2 true) else (abacuslaw04_IeeeRanks.j0 k a0 bt367.1 bt367.2 (decide (a0 < (-9218868437227405312)))))) = some r := by rw [if_pos rfl] at H; exact H
    clear H
    have H := H1
    clear H1
    replace H := Option.bind_eq_some_iff.mp H
    obtain ⟨⟨t367, t368⟩, A40, H⟩ := H
    replace H : (if a0 > 9218868437227405312 then (abacuslaw04_IeeeRanks.j0 k a0 t367 t368 true) else (abacuslaw04_IeeeRanks.j0 k a0 t367 t368 (decide (a0 < (-9218868437227405312))))) = some r := H
    have A4 := Aside0.mk A40
    clear A40
    have HC5 := Aside0.mk H
    clear H
    go_enter Tryd.func5, Tryd.ntmps5
    go_upto_region 4 with (first | ((with_reducible refine gate_callee (f := 12) rfl ?_); refine goesL_ (some 14) rfl rfl Tryd.func12 (by kernel_rfl) rfl #[] rfl (by (try simp only [List.map_toArray, List.map_cons, List.map_nil]); first | done | rfl | (simp only [List.length_drop, List.length_take]; rfl) | (simp only [gt_iff_lt, Int.natCast_pos]; done) | (simp only [gt_iff_lt, Int.natCast_pos]; rfl)) ?_; (with_reducible refine (abacuslaw04_awake.calls k  true _ ?side1 A2.out).mono ?_); (case side1 => repeat (first | exact HT.out | (with_reducible refine Kd.C_alloc ?_ _) | (with_reducible refine Kd.C_drewN ?_ _) | (with_reducible refine Kd.C_drew ?_))); rintro e w6 ⟨rfl, hb⟩; refine ⟨_, rfl, ?_⟩; have n0_ := Aside0.mk (below_step (by repeat (first | (with_reducible first | exact HB.out | apply below_alloc | apply pw_below_drewN | apply below_drew1) | exact HB.out)) hb); clear HB; have HB := n0_; clear n0_; (try clear hb); (try clear hb2); (try clear hk); (try clear hi)) | ((with_reducible refine gate_callee (f := 22) rfl ?_); refine goesL_ (some 18) rfl rfl Tryd.func22 (by kernel_rfl) rfl #[.int .i64 a0] rfl (by (try simp only [List.map_toArray, List.map_cons, List.map_nil]); first | done | rfl | (simp only [List.length_drop, List.length_take]; rfl) | (simp only [gt_iff_lt, Int.natCast_pos]; done) | (simp only [gt_iff_lt, Int.natCast_pos]; rfl)) ?_; (with_reducible refine (ieee_AtRank.calls k a0 t367 t368 _ A4.out).mono ?_); rintro e w' ⟨rfl, ⟨nd, rfl⟩⟩; refine ⟨_, rfl, ?_⟩))
    (try simp only [Act.put, List.setIfInBounds_toArray, List.set_cons_zero, List.set_cons_succ])
    go_cut [26] (fun v26 wc => ∃ (kq : Nat) (x26_4 : Bool), v26 = .bool x26_4 ∧ Aside0 (abacuslaw04_IeeeRanks.j0 kq a0 t367 t368 x26_4 = some r) ∧ Aside0 (kq ≤ k) ∧ Aside0 (Below w.heap.size w wc))
    case first =>
      have H := HC5.out
      clear HC5
      by_cases c7 : a0 > 9218868437227405312
      · rw [if_pos c7] at H
        have c7b0 : decide (9218868437227405312 < a0) = true := decide_eq_true c7
        clear c7
        (first | rw [c7b0] | (simp only [i64_w, i32_w]; rw [c7b0]) | rw [c7b1] | skip)
        have H' := Aside0.mk H
        clear H
        go_wp2
        go_meet
        case rel => exact ⟨_, (true), (by first | rfl | (simp; done) | (simp [*]; done)), H', ⟨by first | omega | exact Nat.le_refl _⟩, ⟨by repeat (first | (with_reducible first | exact HB.out | apply below_alloc | apply pw_below_drewN | apply below_drew1) | exact HB.out)⟩⟩
      · rw [if_neg c7] at H
        have c7b0 : decide (9218868437227405312 < a0) = false := decide_eq_false c7
        clear c7
        (first | rw [c7b0] | (simp only [i64_w, i32_w]; rw [c7b0]) | rw [c7b1] | skip)
        have H' := Aside0.mk H
        clear H
        go_wp2
        go_meet
        case rel => exact ⟨_, (decide (a0 < (-9218868437227405312))), (by first | rfl | (simp; done) | (simp [*]; done)), H', ⟨by first | omega | exact Nat.le_refl _⟩, ⟨by repeat (first | (with_reducible first | exact HB.out | apply below_alloc | apply pw_below_drewN | apply below_drew1) | exact HB.out)⟩⟩
    case rest =>
      clear HC5
      try clear c1
      try clear c2
      try clear p2
      try clear c3
      try clear c5
      try clear c7
      try clear c7b0
      try clear c7b1
      obtain ⟨kq, x26_4, rfl, HA, HJ4, HB⟩ := hcut
      cases kq with
      | zero => exact absurd HA.out (by simp [abacuslaw04_IeeeRanks.j0])
      | succ kj4 =>
        have H := HA.out
        clear HA
        simp only [abacuslaw04_IeeeRanks.j0] at H
        by_cases c8 : x26_4 = true
        · subst c8
          have H1 : (if t368 = true then (some false) else (some (t367 == 0))) = some r := by rw [if_pos rfl] at H; exact H
          clear H
          have H := H1
          clear H1
          by_cases c9 : t368 = true
          · subst c9
            have H1 : (some false) = some r := by rw [if_pos rfl] at H; exact H
            clear H
            have H := H1
            clear H1
            obtain rfl := Option.some.inj H
            go_wp2
            go_ret
            exact ⟨by first | rfl | (simp [errW_none, errW_some] <;> rfl) | (simp [*, errW_none, errW_some] <;> rfl), by repeat (first | (with_reducible first | exact HB.out | apply below_alloc | apply pw_below_drewN | apply below_drew1) | exact HB.out)⟩
          · replace c9 := Bool.eq_false_iff.mpr c9
            subst c9
            have H1 : (some (t367 == 0)) = some r := by rw [if_neg (show ¬ (false = true) by decide)] at H; exact H
            clear H
            have H := H1
            clear H1
            obtain rfl := Option.some.inj H
            go_wp2
            go_ret
            exact ⟨by first | rfl | (simp [errW_none, errW_some] <;> rfl) | (simp [*, errW_none, errW_some] <;> rfl), by repeat (first | (with_reducible first | exact HB.out | apply below_alloc | apply pw_below_drewN | apply below_drew1) | exact HB.out)⟩
        · replace c8 := Bool.eq_false_iff.mpr c8
          subst c8
          have H1 : ((ieee_Rank.f t367).bind fun bt369 => (if t368 = true then (if bt369.2 = true then (abacuslaw04_IeeeRanks.j1 kj4 a0 t367 (bt369.1 != a0)) else (abacuslaw04_IeeeRanks.j1 kj4 a0 t367 true)) else (abacuslaw04_IeeeRanks.j1 kj4 a0 t367 true))) = some r := by rw [if_neg (show ¬ (false = true) by decide)] at H; exact H
          clear H
          have H := H1
          clear H1
          replace H := Option.bind_eq_some_iff.mp H
          obtain ⟨⟨t369, t370⟩, A100, H⟩ := H
          replace H : (if t368 = true then (if t370 = true then (abacuslaw04_IeeeRanks.j1 kj4 a0 t367 (t369 != a0)) else (abacuslaw04_IeeeRanks.j1 kj4 a0 t367 true)) else (abacuslaw04_IeeeRanks.j1 kj4 a0 t367 true)) = some r := H
          have A10 := Aside0.mk A100
          clear A100
          have HC11 := Aside0.mk H
          clear H
          go_upto_region 7 with (first | ((with_reducible refine gate_callee (f := 23) rfl ?_); refine goesL_ (some 35) rfl rfl Tryd.func23 (by kernel_rfl) rfl #[.int .u64 t367] rfl (by (try simp only [List.map_toArray, List.map_cons, List.map_nil]); first | done | rfl | (simp only [List.length_drop, List.length_take]; rfl) | (simp only [gt_iff_lt, Int.natCast_pos]; done) | (simp only [gt_iff_lt, Int.natCast_pos]; rfl)) ?_; (with_reducible refine (ieee_Rank.calls t367 t369 t370 _ A10.out).mono ?_); rintro e w' ⟨rfl, ⟨nd, rfl⟩⟩; refine ⟨_, rfl, ?_⟩))
          (try simp only [Act.put, List.setIfInBounds_toArray, List.set_cons_zero, List.set_cons_succ])
          go_cut [48] (fun v48 wc => ∃ (kq : Nat) (x48_10 : Bool), v48 = .bool x48_10 ∧ Aside0 (abacuslaw04_IeeeRanks.j1 kq a0 t367 x48_10 = some r) ∧ Aside0 (kq ≤ kj4) ∧ Aside0 (Below w.heap.size w wc))
          case first =>
            have H := HC11.out
            clear HC11
            by_cases c12 : t368 = true
            · subst c12
              have H1 : (if t370 = true then (abacuslaw04_IeeeRanks.j1 kj4 a0 t367 (t369 != a0)) else (abacuslaw04_IeeeRanks.j1 kj4 a0 t367 true)) = some r := by rw [if_pos rfl] at H; exact H
              clear H
              have H := H1
              clear H1
              by_cases c13 : t370 = true
              · subst c13
                have H1 : (abacuslaw04_IeeeRanks.j1 kj4 a0 t367 (t369 != a0)) = some r := by rw [if_pos rfl] at H; exact H
                clear H
                have H := H1
                clear H1
                have H' := Aside0.mk H
                clear H
                go_wp2
                go_meet
                case rel => exact ⟨_, ((t369 != a0)), (by first | rfl | (simp; done) | (simp [*]; done)), H', ⟨by have := HJ4.out; first | omega | exact Nat.le_refl _⟩, ⟨by repeat (first | (with_reducible first | exact HB.out | apply below_alloc | apply pw_below_drewN | apply below_drew1) | exact HB.out)⟩⟩
              · replace c13 := Bool.eq_false_iff.mpr c13
                subst c13
                have H1 : (abacuslaw04_IeeeRanks.j1 kj4 a0 t367 true) = some r := by rw [if_neg (show ¬ (false = true) by decide)] at H; exact H
                clear H
                have H := H1
                clear H1
                have H' := Aside0.mk H
                clear H
                go_wp2
                go_meet
                case rel => exact ⟨_, (true), (by first | rfl | (simp; done) | (simp [*]; done)), H', ⟨by have := HJ4.out; first | omega | exact Nat.le_refl _⟩, ⟨by repeat (first | (with_reducible first | exact HB.out | apply below_alloc | apply pw_below_drewN | apply below_drew1) | exact HB.out)⟩⟩
            · replace c12 := Bool.eq_false_iff.mpr c12
              subst c12
              have H1 : (abacuslaw04_IeeeRanks.j1 kj4 a0 t367 true) = some r := by rw [if_neg (show ¬ (false = true) by decide)] at H; exact H
              clear H
              have H := H1
              clear H1
              have H' := Aside0.mk H
              clear H
              go_wp2
              go_meet
              case rel => exact ⟨_, (true), (by first | rfl | (simp; done) | (simp [*]; done)), H', ⟨by have := HJ4.out; first | omega | exact Nat.le_refl _⟩, ⟨by repeat (first | (with_reducible first | exact HB.out | apply below_alloc | apply pw_below_drewN | apply below_drew1) | exact HB.out)⟩⟩
          case rest =>
            clear HC11
            try clear c1
            try clear c2
            try clear p2
            try clear c3
            try clear c5
            try clear c7
            try clear c7b0
            try clear c7b1
            try clear c8
            try clear c9
            try clear c12
            try clear c13
            try clear p2
            obtain ⟨kq, x48_10, rfl, HA, HJ10, HB⟩ := hcut
            cases kq with
            | zero => exact absurd HA.out (by simp [abacuslaw04_IeeeRanks.j1])
            | succ kj10 =>
              have H := HA.out
              clear HA
              simp only [abacuslaw04_IeeeRanks.j1] at H
              by_cases c14 : x48_10 = true
              · subst c14
                have H1 : (some false) = some r := by rw [if_pos rfl] at H; exact H
                clear H
                have H := H1
                clear H1
                obtain rfl := Option.some.inj H
                go_wp2
                go_ret
                exact ⟨by first | rfl | (simp [errW_none, errW_some] <;> rfl) | (simp [*, errW_none, errW_some] <;> rfl), by repeat (first | (with_reducible first | exact HB.out | apply below_alloc | apply pw_below_drewN | apply below_drew1) | exact HB.out)⟩
              · replace c14 := Bool.eq_false_iff.mpr c14
                subst c14
                have H1 : ((ieee_AtRank.f kj10 (wrap64 (-a0))).bind fun bt371 => (if a0 = 0 then (abacuslaw04_IeeeRanks.j2 kj10 a0 t367 (t367 != 0)) else ((ieee_Neg.f t367).bind fun t373 => (if bt371.1 = t373 then (abacuslaw04_IeeeRanks.j2 kj10 a0 t367 false) else (abacuslaw04_IeeeRanks.j2 kj10 a0 t367 true))))) = some r := by rw [if_neg (show ¬ (false = true) by decide)] at H; exact H
                clear H
                have H := H1
                clear H1
                replace H := Option.bind_eq_some_iff.mp H
                obtain ⟨⟨t371, t372⟩, A150, H⟩ := H
                replace H : (if a0 = 0 then (abacuslaw04_IeeeRanks.j2 kj10 a0 t367 (t367 != 0)) else ((ieee_Neg.f t367).bind fun t373 => (if t371 = t373 then (abacuslaw04_IeeeRanks.j2 kj10 a0 t367 false) else (abacuslaw04_IeeeRanks.j2 kj10 a0 t367 true)))) = some r := H
                have A15 := Aside0.mk A150
                clear A150
                have HC16 := Aside0.mk H
                clear H
                go_upto_region 10 with (first | ((with_reducible refine gate_callee (f := 22) rfl ?_); refine goesL_ (some 52) rfl rfl Tryd.func22 (by kernel_rfl) rfl #[.int .i64 (wrap64 (-a0))] rfl (by (try simp only [List.map_toArray, List.map_cons, List.map_nil]); first | done | rfl | (simp only [List.length_drop, List.length_take]; rfl) | (simp only [gt_iff_lt, Int.natCast_pos]; done) | (simp only [gt_iff_lt, Int.natCast_pos]; rfl)) ?_; (with_reducible refine (ieee_AtRank.calls kj10 (wrap64 (-a0)) t371 t372 _ A15.out).mono ?_); rintro e w' ⟨rfl, ⟨nd, rfl⟩⟩; refine ⟨_, rfl, ?_⟩))
                (try simp only [Act.put, List.setIfInBounds_toArray, List.set_cons_zero, List.set_cons_succ])
                go_cut [70] (fun v70 wc => ∃ (kq : Nat) (x70_15 : Bool), v70 = .bool x70_15 ∧ Aside0 (abacuslaw04_IeeeRanks.j2 kq a0 t367 x70_15 = some r) ∧ Aside0 (kq ≤ kj10) ∧ Aside0 (Below w.heap.size w wc))
                case first =>
                  have H := HC16.out
                  clear HC16
                  by_cases c17 : a0 = 0
                  · rw [if_pos c17] at H
                    have c17b0 : (a0 == 0) = true := beq_iff_eq.mpr c17
                    have c17b1 : (a0 != 0) = false := bne_eq_false_iff_eq.mpr c17
                    clear c17
                    (first | rw [c17b0] | (simp only [i64_w, i32_w]; rw [c17b0]) | rw [c17b1] | skip)
                    have H' := Aside0.mk H
                    clear H
                    go_wp2
                    go_meet
                    case rel => exact ⟨_, ((t367 != 0)), (by first | rfl | (simp; done) | (simp [*]; done)), H', ⟨by have := HJ4.out; have := HJ10.out; first | omega | exact Nat.le_refl _⟩, ⟨by repeat (first | (with_reducible first | exact HB.out | apply below_alloc | apply pw_below_drewN | apply below_drew1) | exact HB.out)⟩⟩
                  · rw [if_neg c17] at H
                    have c17b0 : (a0 == 0) = false := beq_eq_false_iff_ne.mpr c17
                    have c17b1 : (a0 != 0) = true := bne_iff_ne.mpr c17
                    (first | rw [c17b0] | (simp only [i64_w, i32_w]; rw [c17b0]) | rw [c17b1] | skip)
                    replace H := Option.bind_eq_some_iff.mp H
                    obtain ⟨t373, A180, H⟩ := H
                    replace H : (if t371 = t373 then (abacuslaw04_IeeeRanks.j2 kj10 a0 t367 false) else (abacuslaw04_IeeeRanks.j2 kj10 a0 t367 true)) = some r := H
                    have A18 := Aside0.mk A180
                    clear A180
                    by_cases c19 : t371 = t373
                    · rw [if_pos c19] at H
                      have c19b0 : (t371 == t373) = true := beq_iff_eq.mpr c19
                      have c19b1 : (t371 != t373) = false := bne_eq_false_iff_eq.mpr c19
                      clear c19
                      have H' := Aside0.mk H
                      clear H
                      go_wp2_with (first | (go_at_call 21; (with_reducible refine (ieee_Neg.calls t367 t373 _ A18.out).mono ?_); rintro e w' ⟨rfl, ⟨nd, rfl⟩⟩))
                      go_meet
                      case rel => exact ⟨_, (false), (by first | rfl | (simp; done) | (simp [*]; done)), H', ⟨by have := HJ4.out; have := HJ10.out; first | omega | exact Nat.le_refl _⟩, ⟨by repeat (first | (with_reducible first | exact HB.out | apply below_alloc | apply pw_below_drewN | apply below_drew1) | exact HB.out)⟩⟩
                    · rw [if_neg c19] at H
                      have c19b0 : (t371 == t373) = false := beq_eq_false_iff_ne.mpr c19
                      have c19b1 : (t371 != t373) = true := bne_iff_ne.mpr c19
                      have H' := Aside0.mk H
                      clear H
                      go_wp2_with (first | (go_at_call 21; (with_reducible refine (ieee_Neg.calls t367 t373 _ A18.out).mono ?_); rintro e w' ⟨rfl, ⟨nd, rfl⟩⟩))
                      go_meet
                      case rel => exact ⟨_, (true), (by first | rfl | (simp; done) | (simp [*]; done)), H', ⟨by have := HJ4.out; have := HJ10.out; first | omega | exact Nat.le_refl _⟩, ⟨by repeat (first | (with_reducible first | exact HB.out | apply below_alloc | apply pw_below_drewN | apply below_drew1) | exact HB.out)⟩⟩
                case rest =>
                  clear HC16
                  try clear c1
                  try clear c2
                  try clear p2
                  try clear c3
                  try clear c5
                  try clear p6
                  try clear c7
                  try clear c7b0
                  try clear c7b1
                  try clear c8
                  try clear c9
                  try clear c12
                  try clear c13
                  try clear c14
                  try clear c17
                  try clear c17b0
                  try clear c17b1
                  try clear c19
                  try clear c19b0
                  try clear c19b1
                  try clear p2
                  obtain ⟨kq, x70_15, rfl, HA, HJ15, HB⟩ := hcut
                  cases kq with
                  | zero => exact absurd HA.out (by simp [abacuslaw04_IeeeRanks.j2])
                  | succ kj15 =>
                    have H := HA.out
                    clear HA
                    simp only [abacuslaw04_IeeeRanks.j2] at H
                    by_cases c20 : x70_15 = true
                    · subst c20
                      have H1 : (some false) = some r := by rw [if_pos rfl] at H; exact H
                      clear H
                      have H := H1
                      clear H1
                      obtain rfl := Option.some.inj H
                      go_wp2
                      go_ret
                      exact ⟨by first | rfl | (simp [errW_none, errW_some] <;> rfl) | (simp [*, errW_none, errW_some] <;> rfl), by repeat (first | (with_reducible first | exact HB.out | apply below_alloc | apply pw_below_drewN | apply below_drew1) | exact HB.out)⟩
                    · replace c20 := Bool.eq_false_iff.mpr c20
                      subst c20
                      have H1 : ((ieee_Up.f kj15 t367).bind fun t374 => (if a0 = 9218868437227405312 then (if t374 = t367 then ((ieee_Neg.f t367).bind fun t375 => ((ieee_Down.f kj15 t375).bind fun t376 => ((ieee_Neg.f t367).bind fun t377 => (some (t376 == t377))))) else (some false)) else ((ieee_Compare.f t374 t367).bind fun bt378 => ((ieee_Rank.f t374).bind fun bt380 => (if bt378.1 = 1 then (if bt380.1 = (wrap64 (a0 + 1)) then ((ieee_Down.f kj15 t374).bind fun t382 => (if t382 = t367 then (if a0 = (-1) then (some (t374 == 9223372036854775808)) else (some true)) else (some false))) else (some false)) else (some false)))))) = some r := by rw [if_neg (show ¬ (false = true) by decide)] at H; exact H
                      clear H
                      have H := H1
                      clear H1
                      replace H := Option.bind_eq_some_iff.mp H
                      obtain ⟨t374, A210, H⟩ := H
                      replace H : (if a0 = 9218868437227405312 then (if t374 = t367 then ((ieee_Neg.f t367).bind fun t375 => ((ieee_Down.f kj15 t375).bind fun t376 => ((ieee_Neg.f t367).bind fun t377 => (some (t376 == t377))))) else (some false)) else ((ieee_Compare.f t374 t367).bind fun bt378 => ((ieee_Rank.f t374).bind fun bt380 => (if bt378.1 = 1 then (if bt380.1 = (wrap64 (a0 + 1)) then ((ieee_Down.f kj15 t374).bind fun t382 => (if t382 = t367 then (if a0 = (-1) then (some (t374 == 9223372036854775808)) else (some true)) else (some false))) else (some false)) else (some false))))) = some r := H
                      have A21 := Aside0.mk A210
                      clear A210
                      by_cases c22 : a0 = 9218868437227405312
                      · rw [if_pos c22] at H
                        have c22b0 : (a0 == 9218868437227405312) = true := beq_iff_eq.mpr c22
                        have c22b1 : (a0 != 9218868437227405312) = false := bne_eq_false_iff_eq.mpr c22
                        clear c22
                        by_cases c23 : t374 = t367
                        · rw [if_pos c23] at H
                          have c23b0 : (t374 == t367) = true := beq_iff_eq.mpr c23
                          have c23b1 : (t374 != t367) = false := bne_eq_false_iff_eq.mpr c23
                          clear c23
                          replace H := Option.bind_eq_some_iff.mp H
                          obtain ⟨t375, A240, H⟩ := H
                          replace H : ((ieee_Down.f kj15 t375).bind fun t376 => ((ieee_Neg.f t367).bind fun t377 => (some (t376 == t377)))) = some r := H
                          have A24 := Aside0.mk A240
                          clear A240
                          replace H := Option.bind_eq_some_iff.mp H
                          obtain ⟨t376, A250, H⟩ := H
                          replace H : ((ieee_Neg.f t367).bind fun t377 => (some (t376 == t377))) = some r := H
                          have A25 := Aside0.mk A250
                          clear A250
                          replace H := Option.bind_eq_some_iff.mp H
                          obtain ⟨t377, A260, H⟩ := H
                          replace H : (some (t376 == t377)) = some r := H
                          have A26 := Aside0.mk A260
                          clear A260
                          obtain rfl := Option.some.inj H
                          go_wp2_with (first | ((with_reducible refine gate_callee (f := 24) rfl ?_); refine goesL_ (some 72) rfl rfl Tryd.func24 (by kernel_rfl) rfl #[.int .u64 t367] rfl (by (try simp only [List.map_toArray, List.map_cons, List.map_nil]); first | done | rfl | (simp only [List.length_drop, List.length_take]; rfl) | (simp only [gt_iff_lt, Int.natCast_pos]; done) | (simp only [gt_iff_lt, Int.natCast_pos]; rfl)) ?_; (with_reducible refine (ieee_Up.calls kj15 t367 t374 _ A21.out).mono ?_); rintro e w' ⟨rfl, ⟨nd, rfl⟩⟩; refine ⟨_, rfl, ?_⟩) | (go_at_call 21; (with_reducible refine (ieee_Neg.calls t367 t375 _ A24.out).mono ?_); rintro e w' ⟨rfl, ⟨nd, rfl⟩⟩) | (go_at_call 25; (with_reducible refine (ieee_Down.calls kj15 t375 t376 _ A25.out).mono ?_); rintro e w' ⟨rfl, ⟨nd, rfl⟩⟩) | (go_at_call 21; (with_reducible refine (ieee_Neg.calls t367 t377 _ A26.out).mono ?_); rintro e w' ⟨rfl, ⟨nd, rfl⟩⟩))
                          go_ret
                          exact ⟨by first | rfl | (have e_ := Option.some.inj (A24.out.symm.trans A26.out); cases e_; rfl) | (simp [errW_none, errW_some] <;> rfl) | (simp [*, errW_none, errW_some] <;> rfl), by repeat (first | (with_reducible first | exact HB.out | apply below_alloc | apply pw_below_drewN | apply below_drew1) | exact HB.out)⟩
                        · rw [if_neg c23] at H
                          have c23b0 : (t374 == t367) = false := beq_eq_false_iff_ne.mpr c23
                          have c23b1 : (t374 != t367) = true := bne_iff_ne.mpr c23
                          obtain rfl := Option.some.inj H
                          go_wp2_with (first | ((with_reducible refine gate_callee (f := 24) rfl ?_); refine goesL_ (some 72) rfl rfl Tryd.func24 (by kernel_rfl) rfl #[.int .u64 t367] rfl (by (try simp only [List.map_toArray, List.map_cons, List.map_nil]); first | done | rfl | (simp only [List.length_drop, List.length_take]; rfl) | (simp only [gt_iff_lt, Int.natCast_pos]; done) | (simp only [gt_iff_lt, Int.natCast_pos]; rfl)) ?_; (with_reducible refine (ieee_Up.calls kj15 t367 t374 _ A21.out).mono ?_); rintro e w' ⟨rfl, ⟨nd, rfl⟩⟩; refine ⟨_, rfl, ?_⟩))
                          go_ret
                          exact ⟨by first | rfl | (simp [errW_none, errW_some] <;> rfl) | (simp [*, errW_none, errW_some] <;> rfl), by repeat (first | (with_reducible first | exact HB.out | apply below_alloc | apply pw_below_drewN | apply below_drew1) | exact HB.out)⟩
                      · rw [if_neg c22] at H
                        have c22b0 : (a0 == 9218868437227405312) = false := beq_eq_false_iff_ne.mpr c22
                        have c22b1 : (a0 != 9218868437227405312) = true := bne_iff_ne.mpr c22
                        replace H := Option.bind_eq_some_iff.mp H
                        obtain ⟨⟨t378, t379⟩, A270, H⟩ := H
                        replace H : ((ieee_Rank.f t374).bind fun bt380 => (if t378 = 1 then (if bt380.1 = (wrap64 (a0 + 1)) then ((ieee_Down.f kj15 t374).bind fun t382 => (if t382 = t367 then (if a0 = (-1) then (some (t374 == 9223372036854775808)) else (some true)) else (some false))) else (some false)) else (some false))) = some r := H
                        have A27 := Aside0.mk A270
                        clear A270
                        replace H := Option.bind_eq_some_iff.mp H
                        obtain ⟨⟨t380, t381⟩, A280, H⟩ := H
                        replace H : (if t378 = 1 then (if t380 = (wrap64 (a0 + 1)) then ((ieee_Down.f kj15 t374).bind fun t382 => (if t382 = t367 then (if a0 = (-1) then (some (t374 == 9223372036854775808)) else (some true)) else (some false))) else (some false)) else (some false)) = some r := H
                        have A28 := Aside0.mk A280
                        clear A280
                        by_cases c29 : t378 = 1
                        · rw [if_pos c29] at H
                          have c29b0 : (t378 == 1) = true := beq_iff_eq.mpr c29
                          have c29b1 : (t378 != 1) = false := bne_eq_false_iff_eq.mpr c29
                          clear c29
                          by_cases c30 : t380 = (wrap64 (a0 + 1))
                          · rw [if_pos c30] at H
                            have c30b0 : (t380 == (wrap64 (a0 + 1))) = true := beq_iff_eq.mpr c30
                            have c30b1 : (t380 != (wrap64 (a0 + 1))) = false := bne_eq_false_iff_eq.mpr c30
                            clear c30
                            replace H := Option.bind_eq_some_iff.mp H
                            obtain ⟨t382, A310, H⟩ := H
                            replace H : (if t382 = t367 then (if a0 = (-1) then (some (t374 == 9223372036854775808)) else (some true)) else (some false)) = some r := H
                            have A31 := Aside0.mk A310
                            clear A310
                            by_cases c32 : t382 = t367
                            · rw [if_pos c32] at H
                              have c32b0 : (t382 == t367) = true := beq_iff_eq.mpr c32
                              have c32b1 : (t382 != t367) = false := bne_eq_false_iff_eq.mpr c32
                              clear c32
                              by_cases c33 : a0 = (-1)
                              · rw [if_pos c33] at H
                                have c33b0 : (a0 == (-1)) = true := beq_iff_eq.mpr c33
                                have c33b1 : (a0 != (-1)) = false := bne_eq_false_iff_eq.mpr c33
                                clear c33
                                obtain rfl := Option.some.inj H
                                go_wp2_with (first | ((with_reducible refine gate_callee (f := 24) rfl ?_); refine goesL_ (some 72) rfl rfl Tryd.func24 (by kernel_rfl) rfl #[.int .u64 t367] rfl (by (try simp only [List.map_toArray, List.map_cons, List.map_nil]); first | done | rfl | (simp only [List.length_drop, List.length_take]; rfl) | (simp only [gt_iff_lt, Int.natCast_pos]; done) | (simp only [gt_iff_lt, Int.natCast_pos]; rfl)) ?_; (with_reducible refine (ieee_Up.calls kj15 t367 t374 _ A21.out).mono ?_); rintro e w' ⟨rfl, ⟨nd, rfl⟩⟩; refine ⟨_, rfl, ?_⟩) | ((with_reducible refine gate_callee (f := 26) rfl ?_); refine goesL_ (some 89) rfl rfl Tryd.func26 (by kernel_rfl) rfl #[.int .u64 t374, .int .u64 t367] rfl (by (try simp only [List.map_toArray, List.map_cons, List.map_nil]); first | done | rfl | (simp only [List.length_drop, List.length_take]; rfl) | (simp only [gt_iff_lt, Int.natCast_pos]; done) | (simp only [gt_iff_lt, Int.natCast_pos]; rfl)) ?_; (with_reducible refine (ieee_Compare.calls t374 t367 t378 t379 _ A27.out).mono ?_); rintro e w' ⟨rfl, ⟨nd, rfl⟩⟩; refine ⟨_, rfl, ?_⟩) | ((with_reducible refine gate_callee (f := 23) rfl ?_); refine goesL_ (some 94) rfl rfl Tryd.func23 (by kernel_rfl) rfl #[.int .u64 t374] rfl (by (try simp only [List.map_toArray, List.map_cons, List.map_nil]); first | done | rfl | (simp only [List.length_drop, List.length_take]; rfl) | (simp only [gt_iff_lt, Int.natCast_pos]; done) | (simp only [gt_iff_lt, Int.natCast_pos]; rfl)) ?_; (with_reducible refine (ieee_Rank.calls t374 t380 t381 _ A28.out).mono ?_); rintro e w' ⟨rfl, ⟨nd, rfl⟩⟩; refine ⟨_, rfl, ?_⟩) | (go_at_call 25; (with_reducible refine (ieee_Down.calls kj15 t374 t382 _ A31.out).mono ?_); rintro e w' ⟨rfl, ⟨nd, rfl⟩⟩))
                                go_ret
                                exact ⟨by first | rfl | (simp [errW_none, errW_some] <;> rfl) | (simp [*, errW_none, errW_some] <;> rfl), by repeat (first | (with_reducible first | exact HB.out | apply below_alloc | apply pw_below_drewN | apply below_drew1) | exact HB.out)⟩
                              · rw [if_neg c33] at H
                                have c33b0 : (a0 == (-1)) = false := beq_eq_false_iff_ne.mpr c33
                                have c33b1 : (a0 != (-1)) = true := bne_iff_ne.mpr c33
                                obtain rfl := Option.some.inj H
                                go_wp2_with (first | ((with_reducible refine gate_callee (f := 24) rfl ?_); refine goesL_ (some 72) rfl rfl Tryd.func24 (by kernel_rfl) rfl #[.int .u64 t367] rfl (by (try simp only [List.map_toArray, List.map_cons, List.map_nil]); first | done | rfl | (simp only [List.length_drop, List.length_take]; rfl) | (simp only [gt_iff_lt, Int.natCast_pos]; done) | (simp only [gt_iff_lt, Int.natCast_pos]; rfl)) ?_; (with_reducible refine (ieee_Up.calls kj15 t367 t374 _ A21.out).mono ?_); rintro e w' ⟨rfl, ⟨nd, rfl⟩⟩; refine ⟨_, rfl, ?_⟩) | ((with_reducible refine gate_callee (f := 26) rfl ?_); refine goesL_ (some 89) rfl rfl Tryd.func26 (by kernel_rfl) rfl #[.int .u64 t374, .int .u64 t367] rfl (by (try simp only [List.map_toArray, List.map_cons, List.map_nil]); first | done | rfl | (simp only [List.length_drop, List.length_take]; rfl) | (simp only [gt_iff_lt, Int.natCast_pos]; done) | (simp only [gt_iff_lt, Int.natCast_pos]; rfl)) ?_; (with_reducible refine (ieee_Compare.calls t374 t367 t378 t379 _ A27.out).mono ?_); rintro e w' ⟨rfl, ⟨nd, rfl⟩⟩; refine ⟨_, rfl, ?_⟩) | ((with_reducible refine gate_callee (f := 23) rfl ?_); refine goesL_ (some 94) rfl rfl Tryd.func23 (by kernel_rfl) rfl #[.int .u64 t374] rfl (by (try simp only [List.map_toArray, List.map_cons, List.map_nil]); first | done | rfl | (simp only [List.length_drop, List.length_take]; rfl) | (simp only [gt_iff_lt, Int.natCast_pos]; done) | (simp only [gt_iff_lt, Int.natCast_pos]; rfl)) ?_; (with_reducible refine (ieee_Rank.calls t374 t380 t381 _ A28.out).mono ?_); rintro e w' ⟨rfl, ⟨nd, rfl⟩⟩; refine ⟨_, rfl, ?_⟩) | (go_at_call 25; (with_reducible refine (ieee_Down.calls kj15 t374 t382 _ A31.out).mono ?_); rintro e w' ⟨rfl, ⟨nd, rfl⟩⟩))
                                go_ret
                                exact ⟨by first | rfl | (simp [errW_none, errW_some] <;> rfl) | (simp [*, errW_none, errW_some] <;> rfl), by repeat (first | (with_reducible first | exact HB.out | apply below_alloc | apply pw_below_drewN | apply below_drew1) | exact HB.out)⟩
                            · rw [if_neg c32] at H
                              have c32b0 : (t382 == t367) = false := beq_eq_false_iff_ne.mpr c32
                              have c32b1 : (t382 != t367) = true := bne_iff_ne.mpr c32
                              obtain rfl := Option.some.inj H
                              go_wp2_with (first | ((with_reducible refine gate_callee (f := 24) rfl ?_); refine goesL_ (some 72) rfl rfl Tryd.func24 (by kernel_rfl) rfl #[.int .u64 t367] rfl (by (try simp only [List.map_toArray, List.map_cons, List.map_nil]); first | done | rfl | (simp only [List.length_drop, List.length_take]; rfl) | (simp only [gt_iff_lt, Int.natCast_pos]; done) | (simp only [gt_iff_lt, Int.natCast_pos]; rfl)) ?_; (with_reducible refine (ieee_Up.calls kj15 t367 t374 _ A21.out).mono ?_); rintro e w' ⟨rfl, ⟨nd, rfl⟩⟩; refine ⟨_, rfl, ?_⟩) | ((with_reducible refine gate_callee (f := 26) rfl ?_); refine goesL_ (some 89) rfl rfl Tryd.func26 (by kernel_rfl) rfl #[.int .u64 t374, .int .u64 t367] rfl (by (try simp only [List.map_toArray, List.map_cons, List.map_nil]); first | done | rfl | (simp only [List.length_drop, List.length_take]; rfl) | (simp only [gt_iff_lt, Int.natCast_pos]; done) | (simp only [gt_iff_lt, Int.natCast_pos]; rfl)) ?_; (with_reducible refine (ieee_Compare.calls t374 t367 t378 t379 _ A27.out).mono ?_); rintro e w' ⟨rfl, ⟨nd, rfl⟩⟩; refine ⟨_, rfl, ?_⟩) | ((with_reducible refine gate_callee (f := 23) rfl ?_); refine goesL_ (some 94) rfl rfl Tryd.func23 (by kernel_rfl) rfl #[.int .u64 t374] rfl (by (try simp only [List.map_toArray, List.map_cons, List.map_nil]); first | done | rfl | (simp only [List.length_drop, List.length_take]; rfl) | (simp only [gt_iff_lt, Int.natCast_pos]; done) | (simp only [gt_iff_lt, Int.natCast_pos]; rfl)) ?_; (with_reducible refine (ieee_Rank.calls t374 t380 t381 _ A28.out).mono ?_); rintro e w' ⟨rfl, ⟨nd, rfl⟩⟩; refine ⟨_, rfl, ?_⟩) | (go_at_call 25; (with_reducible refine (ieee_Down.calls kj15 t374 t382 _ A31.out).mono ?_); rintro e w' ⟨rfl, ⟨nd, rfl⟩⟩))
                              go_ret
                              exact ⟨by first | rfl | (simp [errW_none, errW_some] <;> rfl) | (simp [*, errW_none, errW_some] <;> rfl), by repeat (first | (with_reducible first | exact HB.out | apply below_alloc | apply pw_below_drewN | apply below_drew1) | exact HB.out)⟩
                          · rw [if_neg c30] at H
                            have c30b0 : (t380 == (wrap64 (a0 + 1))) = false := beq_eq_false_iff_ne.mpr c30
                            have c30b1 : (t380 != (wrap64 (a0 + 1))) = true := bne_iff_ne.mpr c30
                            obtain rfl := Option.some.inj H
                            go_wp2_with (first | ((with_reducible refine gate_callee (f := 24) rfl ?_); refine goesL_ (some 72) rfl rfl Tryd.func24 (by kernel_rfl) rfl #[.int .u64 t367] rfl (by (try simp only [List.map_toArray, List.map_cons, List.map_nil]); first | done | rfl | (simp only [List.length_drop, List.length_take]; rfl) | (simp only [gt_iff_lt, Int.natCast_pos]; done) | (simp only [gt_iff_lt, Int.natCast_pos]; rfl)) ?_; (with_reducible refine (ieee_Up.calls kj15 t367 t374 _ A21.out).mono ?_); rintro e w' ⟨rfl, ⟨nd, rfl⟩⟩; refine ⟨_, rfl, ?_⟩) | ((with_reducible refine gate_callee (f := 26) rfl ?_); refine goesL_ (some 89) rfl rfl Tryd.func26 (by kernel_rfl) rfl #[.int .u64 t374, .int .u64 t367] rfl (by (try simp only [List.map_toArray, List.map_cons, List.map_nil]); first | done | rfl | (simp only [List.length_drop, List.length_take]; rfl) | (simp only [gt_iff_lt, Int.natCast_pos]; done) | (simp only [gt_iff_lt, Int.natCast_pos]; rfl)) ?_; (with_reducible refine (ieee_Compare.calls t374 t367 t378 t379 _ A27.out).mono ?_); rintro e w' ⟨rfl, ⟨nd, rfl⟩⟩; refine ⟨_, rfl, ?_⟩) | ((with_reducible refine gate_callee (f := 23) rfl ?_); refine goesL_ (some 94) rfl rfl Tryd.func23 (by kernel_rfl) rfl #[.int .u64 t374] rfl (by (try simp only [List.map_toArray, List.map_cons, List.map_nil]); first | done | rfl | (simp only [List.length_drop, List.length_take]; rfl) | (simp only [gt_iff_lt, Int.natCast_pos]; done) | (simp only [gt_iff_lt, Int.natCast_pos]; rfl)) ?_; (with_reducible refine (ieee_Rank.calls t374 t380 t381 _ A28.out).mono ?_); rintro e w' ⟨rfl, ⟨nd, rfl⟩⟩; refine ⟨_, rfl, ?_⟩))
                            go_ret
                            exact ⟨by first | rfl | (simp [errW_none, errW_some] <;> rfl) | (simp [*, errW_none, errW_some] <;> rfl), by repeat (first | (with_reducible first | exact HB.out | apply below_alloc | apply pw_below_drewN | apply below_drew1) | exact HB.out)⟩
                        · rw [if_neg c29] at H
                          have c29b0 : (t378 == 1) = false := beq_eq_false_iff_ne.mpr c29
                          have c29b1 : (t378 != 1) = true := bne_iff_ne.mpr c29
                          obtain rfl := Option.some.inj H
                          go_wp2_with (first | ((with_reducible refine gate_callee (f := 24) rfl ?_); refine goesL_ (some 72) rfl rfl Tryd.func24 (by kernel_rfl) rfl #[.int .u64 t367] rfl (by (try simp only [List.map_toArray, List.map_cons, List.map_nil]); first | done | rfl | (simp only [List.length_drop, List.length_take]; rfl) | (simp only [gt_iff_lt, Int.natCast_pos]; done) | (simp only [gt_iff_lt, Int.natCast_pos]; rfl)) ?_; (with_reducible refine (ieee_Up.calls kj15 t367 t374 _ A21.out).mono ?_); rintro e w' ⟨rfl, ⟨nd, rfl⟩⟩; refine ⟨_, rfl, ?_⟩) | ((with_reducible refine gate_callee (f := 26) rfl ?_); refine goesL_ (some 89) rfl rfl Tryd.func26 (by kernel_rfl) rfl #[.int .u64 t374, .int .u64 t367] rfl (by (try simp only [List.map_toArray, List.map_cons, List.map_nil]); first | done | rfl | (simp only [List.length_drop, List.length_take]; rfl) | (simp only [gt_iff_lt, Int.natCast_pos]; done) | (simp only [gt_iff_lt, Int.natCast_pos]; rfl)) ?_; (with_reducible refine (ieee_Compare.calls t374 t367 t378 t379 _ A27.out).mono ?_); rintro e w' ⟨rfl, ⟨nd, rfl⟩⟩; refine ⟨_, rfl, ?_⟩) | ((with_reducible refine gate_callee (f := 23) rfl ?_); refine goesL_ (some 94) rfl rfl Tryd.func23 (by kernel_rfl) rfl #[.int .u64 t374] rfl (by (try simp only [List.map_toArray, List.map_cons, List.map_nil]); first | done | rfl | (simp only [List.length_drop, List.length_take]; rfl) | (simp only [gt_iff_lt, Int.natCast_pos]; done) | (simp only [gt_iff_lt, Int.natCast_pos]; rfl)) ?_; (with_reducible refine (ieee_Rank.calls t374 t380 t381 _ A28.out).mono ?_); rintro e w' ⟨rfl, ⟨nd, rfl⟩⟩; refine ⟨_, rfl, ?_⟩))
                          go_ret
                          exact ⟨by first | rfl | (simp [errW_none, errW_some] <;> rfl) | (simp [*, errW_none, errW_some] <;> rfl), by repeat (first | (with_reducible first | exact HB.out | apply below_alloc | apply pw_below_drewN | apply below_drew1) | exact HB.out)⟩
  · replace c3 := Bool.eq_false_iff.mpr c3
    subst c3
    have H1 : (some false) = some r := by rw [if_neg (show ¬ (false = true) by decide)] at H; exact H
    clear H
    have H := H1
    clear H1
    obtain rfl := Option.some.inj H
    go_enter Tryd.func5, Tryd.ntmps5
    go_wp2_with (first | ((with_reducible refine gate_callee (f := 12) rfl ?_); refine goesL_ (some 14) rfl rfl Tryd.func12 (by kernel_rfl) rfl #[] rfl (by (try simp only [List.map_toArray, List.map_cons, List.map_nil]); first | done | rfl | (simp only [List.length_drop, List.length_take]; rfl) | (simp only [gt_iff_lt, Int.natCast_pos]; done) | (simp only [gt_iff_lt, Int.natCast_pos]; rfl)) ?_; (with_reducible refine (abacuslaw04_awake.calls k  false _ ?side1 A2.out).mono ?_); (case side1 => repeat (first | exact HT.out | (with_reducible refine Kd.C_alloc ?_ _) | (with_reducible refine Kd.C_drewN ?_ _) | (with_reducible refine Kd.C_drew ?_))); rintro e w34 ⟨rfl, hb⟩; refine ⟨_, rfl, ?_⟩; have n0_ := Aside0.mk (below_step (by repeat (first | (with_reducible first | exact HB.out | apply below_alloc | apply pw_below_drewN | apply below_drew1) | exact HB.out)) hb); clear HB; have HB := n0_; clear n0_; (try clear hb); (try clear hb2); (try clear hk); (try clear hi)))
    go_ret
    exact ⟨by first | rfl | (simp [errW_none, errW_some] <;> rfl) | (simp [*, errW_none, errW_some] <;> rfl), by repeat (first | (with_reducible first | exact HB.out | apply below_alloc | apply pw_below_drewN | apply below_drew1) | exact HB.out)⟩

/-- THE ONE PURE STATEMENT of abacuslaw04_IeeeRanks: yours. -/
def abacuslaw04_IeeeRanks.Pure : Prop := ∀ (a0 : Int), (Lit.int .i64 a0).wf = true → ∃ k, abacuslaw04_IeeeRanks.f k a0 = some true
theorem abacuslaw04_IeeeRanks.walk (P : abacuslaw04_IeeeRanks.Pure) (a0 : Int) (w : World) (hT : Kd.C (Kd.int .u8) w (some ⟨0, 0, none⟩) 64 tabL) (w0 : (Lit.int .i64 a0).wf = true) :
    Calls Tryd.prog 5 #[.int .i64 a0] w fun e w' => e = .returned (.bool true) ∧ Below w.heap.size w w' := by
  obtain ⟨k, h⟩ := P a0 w0
  refine (abacuslaw04_IeeeRanks.calls k a0 true w hT h).mono ?_
  rintro e w' ⟨rfl, hd⟩
  exact ⟨rfl, hd⟩

/-! ### ieee_key: function 52 -/
def ieee_key.f (a0 : Int) : Option (Int) := if (Go.bits .and .u64 a0 9223372036854775808) = 0 then (some (wrap64 (a0))) else ((ieee_Abs.f a0).bind fun t383 => (some (wrap64 ((wrap64 (-(wrap64 (t383)))) - 1))))
set_option maxHeartbeats 8000000 in
set_option maxRecDepth 100000 in
theorem ieee_key.calls (a0 : Int) (r : Int) (w : World) (h : ieee_key.f a0 = some r) :
    Calls Tryd.prog 52 #[.int .u64 a0] w fun e w' => e = .returned (.int .i64 r) ∧ Drawn0 w w' := by
  have H : (if (Go.bits .and .u64 a0 9223372036854775808) = 0 then (some (wrap64 (a0))) else ((ieee_Abs.f a0).bind fun t383 => (some (wrap64 ((wrap64 (-(wrap64 (t383)))) - 1))))) = some r := h
  clear h
  by_cases c2 : (Go.bits .and .u64 a0 9223372036854775808) = 0
  · rw [if_pos c2] at H
    have c2b0 : ((Go.bits .and .u64 a0 9223372036854775808) == 0) = true := beq_iff_eq.mpr c2
    have c2b1 : ((Go.bits .and .u64 a0 9223372036854775808) != 0) = false := bne_eq_false_iff_eq.mpr c2
    clear c2
    obtain rfl := Option.some.inj H
    go_enter Tryd.func52, Tryd.ntmps52
    go_wp2
    go_ret
    exact ⟨by first | rfl | (simp; done) | (simp [*]; done), by repeat (first | exact Drawn0.refl _ | apply Drawn0.step)⟩
  · rw [if_neg c2] at H
    have c2b0 : ((Go.bits .and .u64 a0 9223372036854775808) == 0) = false := beq_eq_false_iff_ne.mpr c2
    have c2b1 : ((Go.bits .and .u64 a0 9223372036854775808) != 0) = true := bne_iff_ne.mpr c2
    replace H := Option.bind_eq_some_iff.mp H
    obtain ⟨t383, A30, H⟩ := H
    replace H : (some (wrap64 ((wrap64 (-(wrap64 (t383)))) - 1))) = some r := H
    have A3 := Aside0.mk A30
    clear A30
    obtain rfl := Option.some.inj H
    go_enter Tryd.func52, Tryd.ntmps52
    go_wp2_with (first | ((with_reducible refine gate_callee (f := 20) rfl ?_); refine goesL_ (some 7) rfl rfl Tryd.func20 (by kernel_rfl) rfl #[.int .u64 a0] rfl (by (try simp only [List.map_toArray, List.map_cons, List.map_nil]); first | done | rfl | (simp only [List.length_drop, List.length_take]; rfl) | (simp only [gt_iff_lt, Int.natCast_pos]; done) | (simp only [gt_iff_lt, Int.natCast_pos]; rfl)) ?_; (with_reducible refine (ieee_Abs.calls a0 t383 _ A3.out).mono ?_); rintro e w' ⟨rfl, ⟨nd, rfl⟩⟩; refine ⟨_, rfl, ?_⟩))
    go_ret
    exact ⟨by first | rfl | (simp; done) | (simp [*]; done), by repeat (first | exact Drawn0.refl _ | apply Drawn0.step)⟩

/-! ### ieee_Total: function 27 -/
def ieee_Total.f (a0 : Int) (a1 : Int) : Option (Int) := (ieee_key.f a0).bind fun t384 => ((ieee_key.f a1).bind fun t385 => ((ieee_order.f t384 t385).bind fun t386 => (some t386)))
set_option maxHeartbeats 8000000 in
set_option maxRecDepth 100000 in
theorem ieee_Total.calls (a0 : Int) (a1 : Int) (r : Int) (w : World) (h : ieee_Total.f a0 a1 = some r) :
    Calls Tryd.prog 27 #[.int .u64 a0, .int .u64 a1] w fun e w' => e = .returned (.int .i64 r) ∧ Drawn0 w w' := by
  have H : ((ieee_key.f a0).bind fun t384 => ((ieee_key.f a1).bind fun t385 => ((ieee_order.f t384 t385).bind fun t386 => (some t386)))) = some r := h
  clear h
  replace H := Option.bind_eq_some_iff.mp H
  obtain ⟨t384, A30, H⟩ := H
  replace H : ((ieee_key.f a1).bind fun t385 => ((ieee_order.f t384 t385).bind fun t386 => (some t386))) = some r := H
  have A3 := Aside0.mk A30
  clear A30
  replace H := Option.bind_eq_some_iff.mp H
  obtain ⟨t385, A40, H⟩ := H
  replace H : ((ieee_order.f t384 t385).bind fun t386 => (some t386)) = some r := H
  have A4 := Aside0.mk A40
  clear A40
  replace H := Option.bind_eq_some_iff.mp H
  obtain ⟨t386, A50, H⟩ := H
  replace H : (some t386) = some r := H
  have A5 := Aside0.mk A50
  clear A50
  obtain rfl := Option.some.inj H
  go_enter Tryd.func27, Tryd.ntmps27
  go_wp2_with (first | ((with_reducible refine gate_callee (f := 52) rfl ?_); refine goesL_ (some 6) rfl rfl Tryd.func52 (by kernel_rfl) rfl #[.int .u64 a0] rfl (by (try simp only [List.map_toArray, List.map_cons, List.map_nil]); first | done | rfl | (simp only [List.length_drop, List.length_take]; rfl) | (simp only [gt_iff_lt, Int.natCast_pos]; done) | (simp only [gt_iff_lt, Int.natCast_pos]; rfl)) ?_; (with_reducible refine (ieee_key.calls a0 t384 _ A3.out).mono ?_); rintro e w' ⟨rfl, ⟨nd, rfl⟩⟩; refine ⟨_, rfl, ?_⟩) | ((with_reducible refine gate_callee (f := 52) rfl ?_); refine goesL_ (some 8) rfl rfl Tryd.func52 (by kernel_rfl) rfl #[.int .u64 a1] rfl (by (try simp only [List.map_toArray, List.map_cons, List.map_nil]); first | done | rfl | (simp only [List.length_drop, List.length_take]; rfl) | (simp only [gt_iff_lt, Int.natCast_pos]; done) | (simp only [gt_iff_lt, Int.natCast_pos]; rfl)) ?_; (with_reducible refine (ieee_key.calls a1 t385 _ A4.out).mono ?_); rintro e w' ⟨rfl, ⟨nd, rfl⟩⟩; refine ⟨_, rfl, ?_⟩) | ((with_reducible refine gate_callee (f := 51) rfl ?_); refine goesL_ (some 9) rfl rfl Tryd.func51 (by kernel_rfl) rfl #[.int .i64 t384, .int .i64 t385] rfl (by (try simp only [List.map_toArray, List.map_cons, List.map_nil]); first | done | rfl | (simp only [List.length_drop, List.length_take]; rfl) | (simp only [gt_iff_lt, Int.natCast_pos]; done) | (simp only [gt_iff_lt, Int.natCast_pos]; rfl)) ?_; (with_reducible refine (ieee_order.calls t384 t385 t386 _ A5.out).mono ?_); rintro e w' ⟨rfl, ⟨nd, rfl⟩⟩; refine ⟨_, rfl, ?_⟩))
  go_ret
  exact ⟨by first | rfl | (simp; done) | (simp [*]; done), by repeat (first | exact Drawn0.refl _ | apply Drawn0.step)⟩

end Go.Proofs.YtiigfmmflicdpaaDoor.PA
