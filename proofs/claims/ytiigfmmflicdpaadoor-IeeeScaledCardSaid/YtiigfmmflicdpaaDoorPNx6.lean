-- printed by a program
import Derived.Test.YtiigfmmflicdpaaDoorPNx0
import Derived.Test.YtiigfmmflicdpaaDoorPNx1
import Derived.Test.YtiigfmmflicdpaaDoorPNx3
import Derived.Test.YtiigfmmflicdpaaDoorPNx5
namespace Go.Proofs.YtiigfmmflicdpaaDoor.PN
open Go.Proofs.YtiigfmmflicdpaaDoorX
open Go.RowKit Go.Proofs.YtiigfmmflicdpaaDoorW.PrintWords Go.Proofs.YtiigfmmflicdpaaDoorW.PrintLast Go.Proofs.YtiigfmmflicdpaaDoorW.PrintMore
attribute [local go_sem] max2_int min2_int max_two min_two max_three min_three max_four min_four   -- for this text's walks alone
set_option linter.unusedVariables false
set_option linter.unusedSimpArgs false

/-! ### quot_raised: function 100 -/
def quot_raised.l0 : Nat → Int → Int → List Int → List Int → Int → Int → Option (List Int)
  | 0, _, _, _, _, _, _ => none
  | k + 1, x1, x2, x7, x12, x13, x14 => if x14 < x13 then (if 0 ≤ x14 then (if x14 < (x12.length : Int) then (if x14 < (x7.length : Int) then (if 0 ≤ (IntKind.u64.wrap (x1)) then ((some (x7.set (x14 : Int).toNat (Go.bits .or .u64 (rd x7 x14) (shl .u64 (rd x12 x14) (IntKind.u64.wrap (x1)))) : List Int)).bind fun y260 => (if (wrap64 (x14 + 1)) < x2 then (if x1 > 0 then (if 0 ≤ (IntKind.u64.wrap (wrap64 (64 - x1))) then (if 0 ≤ (wrap64 (x14 + 1)) then (if (wrap64 (x14 + 1)) < (x7.length : Int) then (quot_raised.l0 k x1 x2 (y260.set ((wrap64 (x14 + 1)) : Int).toNat (shr .u64 (rd x12 x14) (IntKind.u64.wrap (wrap64 (64 - x1))))) x12 x13 (wrap64 (x14 + 1))) else (none)) else (none)) else (none)) else (quot_raised.l0 k x1 x2 y260 x12 x13 (wrap64 (x14 + 1)))) else (quot_raised.l0 k x1 x2 y260 x12 x13 (wrap64 (x14 + 1))))) else (none)) else (none)) else (none)) else (none)) else (some x7)
def quot_raised.f (k : Nat) (l0 : List Int) (a1 : Int) (a2 : Int) : Option (List Int) := if 0 ≤ a2 then (if (a2 : Int).toNat ≤ 35184372088832 then (quot_raised.l0 k a1 a2 (List.replicate (a2 : Int).toNat 0) l0 (l0.length : Int) 0) else (none)) else (none)
theorem quot_raised.mono_l : ∀ k, (∀ y0 y1 y2 y3 y4 y5, LeO (quot_raised.l0 k y0 y1 y2 y3 y4 y5) (quot_raised.l0 (k + 1) y0 y1 y2 y3 y4 y5))
  | 0 => fun _ _ _ _ _ _ r h => by simp [quot_raised.l0] at h
  | k + 1 => by
    have ih0 := quot_raised.mono_l k
    · intro y0 y1 y2 y3 y4 y5
      unfold quot_raised.l0
      repeat' first
      | (with_reducible exact ih0 _ _ _ _ _ _)
      | (with_reducible exact LeO.refl _)
      | (with_reducible exact LeO.none _)
      | (with_reducible refine LeO.ite ?_ ?_)
      | (with_reducible refine LeO.bind ?_ (fun _ => ?_))
      | exact ih0 _ _ _ _ _ _
      | exact LeO.none _
      | refine LeO.ite ?_ ?_
      | refine LeO.bind ?_ (fun _ => ?_)
theorem quot_raised.mono : ∀ a0 a1 a2 k, LeO (quot_raised.f k a0 a1 a2) (quot_raised.f (k + 1) a0 a1 a2) := by
  intro a0 a1 a2 k
  have ih0 := quot_raised.mono_l k
  unfold quot_raised.f
  repeat' first
      | (with_reducible exact ih0 _ _ _ _ _ _)
      | (with_reducible exact LeO.refl _)
      | (with_reducible exact LeO.none _)
      | (with_reducible refine LeO.ite ?_ ?_)
      | (with_reducible refine LeO.bind ?_ (fun _ => ?_))
      | exact ih0 _ _ _ _ _ _
      | exact LeO.none _
      | refine LeO.ite ?_ ?_
      | refine LeO.bind ?_ (fun _ => ?_)
set_option maxHeartbeats 8000000 in
set_option maxRecDepth 100000 in
theorem quot_raised.calls (k : Nat) (A0 : Option Addr) (c0 : Nat) (l0 : List Int) (a1 : Int) (a2 : Int) (r : List Int) (w : World) (hr0 : Kd.C (Kd.int .u64) w A0 l0.length l0) (hc0 : l0.length ≤ c0) (h : quot_raised.f k l0 a1 a2 = some r) :
    Calls Tryd.prog 100 #[.slice A0 l0.length c0, .int .i64 a1, .int .i64 a2] w fun e w' => ∃ v0_ : Value, e = .returned (v0_) ∧ Kd.R (Kd.int .u64) 28 w' w.heap.size (fun _ => True) v0_ r ∧ Below w.heap.size w w' := by
  have HR0 := Aside0.mk hr0
  have HC0 := Aside0.mk hc0
  clear hr0 hc0
  have HB := Aside0.mk (Below.refl w.heap.size w)
  have H : (if 0 ≤ a2 then (if (a2 : Int).toNat ≤ 35184372088832 then (quot_raised.l0 k a1 a2 (List.replicate (a2 : Int).toNat 0) l0 (l0.length : Int) 0) else (none)) else (none)) = some r := h
  clear h
  by_cases c4 : 0 ≤ a2
  · rw [if_pos c4] at H
    have c4b0 := eq_true c4
    have c4b1 : decide (0 ≤ a2) = true := decide_eq_true c4
    clear c4
    by_cases c5 : (a2 : Int).toNat ≤ 35184372088832
    · rw [if_pos c5] at H
      have c5b0 := eq_true c5
      have c5b1 : decide ((a2 : Int).toNat ≤ 35184372088832) = true := decide_eq_true c5
      clear c5
      obtain ⟨y255, hy255⟩ : ∃ y_ : List Int, y_ = (List.replicate (a2 : Int).toNat 0) := ⟨_, rfl⟩
      replace H : (quot_raised.l0 k a1 a2 y255 l0 (l0.length : Int) 0) = some r := by first | (rw [hy255]; with_reducible exact H) | (have H2_ := (Option.bind_some _ _).symm.trans H; rw [hy255]; with_reducible exact H2_) | (have H2_ := (Option.bind_some _ _).symm.trans H; with_reducible exact H2_) | with_reducible exact H | (rw [hy255]; exact H) | exact H
      have Ny255 := Aside0.mk hy255
      clear hy255
      have H' := Aside0.mk H
      clear H
      go_enter Tryd.func100, Tryd.ntmps100
      go_wp2_with (first | ((with_reducible refine gate_dst (N := 11) rfl ?_); refine Kd.R_make (Kd.int .u64) _ 28 rfl (N := 11) rfl 22 _ _ rfl a2 rfl rfl Tryd.underlying22 (.int .u64 0) 8 info28 rfl (by decide) (by omega) 0 (ok := fun _ => True) (okp := fun _ => True) rfl (fun _ hk => hk) trivial (of_decide_eq_true (by first | (with_reducible assumption) | assumption)) (Nat.le_trans (Nat.mul_le_mul_right _ (of_decide_eq_true (by first | (with_reducible assumption) | assumption) : a2.toNat ≤ 35184372088832)) (by omega)) (Below.refl _ _) (Nat.le_refl _) ?_; intro v256 w6 ho7 hb hg_ hnew_; clear hg_ hnew_; (first | rw [← Ny255.out] at ho7 | (simp only [Int.reduceToNat] at ho7; rw [← Ny255.out] at ho7)); have n0_ := Aside0.mk (Kd.R_lower ho7 (below_size (by repeat (first | (with_reducible first | exact HB.out | apply below_alloc | apply pw_below_drewN | apply below_drew1) | exact HB.out)))); have n1_ := Aside0.mk (below_step (by repeat (first | (with_reducible first | exact HB.out | apply below_alloc | apply pw_below_drewN | apply below_drew1) | exact HB.out)) hb); clear HB; have HO257 := n0_; have HB := n1_; clear n0_ n1_; clear hb ho7))
      go_loopg [14] k (fun kq v14 w' => ∃ (x7_1 : List Int) (x14_1 : Int), v14 = .int .i64 x14_1 ∧ Aside0 (quot_raised.l0 kq a1 a2 x7_1 l0 (l0.length : Int) x14_1 = some r) ∧ Aside0 (kq ≤ k) ∧ Aside0 (Kd.R (Kd.int .u64) 28 w' w.heap.size (fun _ => True) v256 x7_1) ∧ Aside0 (Below w.heap.size w w'))
      case atStart => exact ⟨(y255), (0), (by first | rfl | (simp; done) | (simp [*]; done)), H', ⟨Nat.le_refl _⟩, ⟨by (with_reducible repeat (first | apply Kd.R_alloc | apply Kd.R_drewN | apply Kd.R_drew)); exact HO257.out⟩, ⟨by repeat (first | (with_reducible first | exact HB.out | apply below_alloc | apply pw_below_drewN | apply below_drew1) | exact HB.out)⟩⟩
      case round =>
        clear H'
        try clear c1
        try clear p2
        try clear c4
        try clear c4b0
        try clear c4b1
        try clear c5
        try clear c5b0
        try clear c5b1
        obtain ⟨x7_1, x14_1, rfl, HA, HK1, HO_7, HB⟩ := hrel
        cases gk with
        | zero => exact absurd HA.out (by simp [quot_raised.l0])
        | succ k1 =>
          have H := HA.out
          clear HA
          simp only [quot_raised.l0] at H
          by_cases c8 : x14_1 < (l0.length : Int)
          · rw [if_pos c8] at H
            have c8b0 : decide (x14_1 < (l0.length : Int)) = true := decide_eq_true c8
            clear c8
            by_cases c9 : 0 ≤ x14_1
            · rw [if_pos c9] at H
              have c9b0 : decide (0 ≤ x14_1) = true := decide_eq_true c9
              clear c9
              by_cases c10 : x14_1 < (l0.length : Int)
              · rw [if_pos c10] at H
                have c10b0 : decide (x14_1 < (l0.length : Int)) = true := decide_eq_true c10
                clear c10
                by_cases c11 : x14_1 < (x7_1.length : Int)
                · rw [if_pos c11] at H
                  have c11b0 : decide (x14_1 < (x7_1.length : Int)) = true := decide_eq_true c11
                  clear c11
                  obtain ⟨ji12, hji12⟩ : ∃ j_ : Int, (IntKind.u64.wrap (a1)) = j_ := ⟨_, rfl⟩
                  replace H : (if 0 ≤ (ji12) then ((some (x7_1.set (x14_1 : Int).toNat (Go.bits .or .u64 (rd x7_1 x14_1) (shl .u64 (rd l0 x14_1) (ji12))) : List Int)).bind fun y260 => (if (wrap64 (x14_1 + 1)) < a2 then (if a1 > 0 then (if 0 ≤ (IntKind.u64.wrap (wrap64 (64 - a1))) then (if 0 ≤ (wrap64 (x14_1 + 1)) then (if (wrap64 (x14_1 + 1)) < (x7_1.length : Int) then (quot_raised.l0 k1 a1 a2 (y260.set ((wrap64 (x14_1 + 1)) : Int).toNat (shr .u64 (rd l0 x14_1) (IntKind.u64.wrap (wrap64 (64 - a1))))) l0 (l0.length : Int) (wrap64 (x14_1 + 1))) else (none)) else (none)) else (none)) else (quot_raised.l0 k1 a1 a2 y260 l0 (l0.length : Int) (wrap64 (x14_1 + 1)))) else (quot_raised.l0 k1 a1 a2 y260 l0 (l0.length : Int) (wrap64 (x14_1 + 1))))) else (none)) = some r := by first | (rw [hji12] at H; exact H) | (simp only [hji12] at H ⊢; exact H)
                  by_cases c13 : 0 ≤ (ji12)
                  · rw [if_pos c13] at H
                    have c13b0 := eq_true c13
                    have c13b1 : decide (0 ≤ (ji12)) = true := decide_eq_true c13
                    clear c13
                    obtain ⟨ji14, hji14⟩ : ∃ j_ : Int, (shl .u64 (rd l0 x14_1) (ji12)) = j_ := ⟨_, rfl⟩
                    replace H : ((some (x7_1.set (x14_1 : Int).toNat (Go.bits .or .u64 (rd x7_1 x14_1) (ji14)) : List Int)).bind fun y260 => (if (wrap64 (x14_1 + 1)) < a2 then (if a1 > 0 then (if 0 ≤ (IntKind.u64.wrap (wrap64 (64 - a1))) then (if 0 ≤ (wrap64 (x14_1 + 1)) then (if (wrap64 (x14_1 + 1)) < (x7_1.length : Int) then (quot_raised.l0 k1 a1 a2 (y260.set ((wrap64 (x14_1 + 1)) : Int).toNat (shr .u64 (rd l0 x14_1) (IntKind.u64.wrap (wrap64 (64 - a1))))) l0 (l0.length : Int) (wrap64 (x14_1 + 1))) else (none)) else (none)) else (none)) else (quot_raised.l0 k1 a1 a2 y260 l0 (l0.length : Int) (wrap64 (x14_1 + 1)))) else (quot_raised.l0 k1 a1 a2 y260 l0 (l0.length : Int) (wrap64 (x14_1 + 1))))) = some r := by first | (rw [hji14] at H; exact H) | (simp only [hji14] at H ⊢; exact H)
                    have hji14_ : (IntKind.u64.wrap ((rd l0 x14_1) * 2 ^ min (ji12).toNat 64)) = ji14 := hji14
                    have hji14z : (ji12) ≤ 64 → (IntKind.u64.wrap ((rd l0 x14_1) * 2 ^ (ji12).toNat)) = ji14 := shl_small hji14
                    obtain ⟨y260, hy260⟩ : ∃ y_ : List Int, y_ = (x7_1.set (x14_1 : Int).toNat (Go.bits .or .u64 (rd x7_1 x14_1) (ji14))) := ⟨_, rfl⟩
                    replace H : (if (wrap64 (x14_1 + 1)) < a2 then (if a1 > 0 then (if 0 ≤ (IntKind.u64.wrap (wrap64 (64 - a1))) then (if 0 ≤ (wrap64 (x14_1 + 1)) then (if (wrap64 (x14_1 + 1)) < (x7_1.length : Int) then (quot_raised.l0 k1 a1 a2 (y260.set ((wrap64 (x14_1 + 1)) : Int).toNat (shr .u64 (rd l0 x14_1) (IntKind.u64.wrap (wrap64 (64 - a1))))) l0 (l0.length : Int) (wrap64 (x14_1 + 1))) else (none)) else (none)) else (none)) else (quot_raised.l0 k1 a1 a2 y260 l0 (l0.length : Int) (wrap64 (x14_1 + 1)))) else (quot_raised.l0 k1 a1 a2 y260 l0 (l0.length : Int) (wrap64 (x14_1 + 1)))) = some r := by first | (rw [hy260]; with_reducible exact H) | (have H2_ := (Option.bind_some _ _).symm.trans H; rw [hy260]; with_reducible exact H2_) | (have H2_ := (Option.bind_some _ _).symm.trans H; with_reducible exact H2_) | with_reducible exact H | (rw [hy260]; exact H) | exact H
                    have Ny260 := Aside0.mk hy260
                    clear hy260
                    by_cases c16 : (wrap64 (x14_1 + 1)) < a2
                    · rw [if_pos c16] at H
                      have c16b0 : decide ((wrap64 (x14_1 + 1)) < a2) = true := decide_eq_true c16
                      clear c16
                      by_cases c17 : a1 > 0
                      · rw [if_pos c17] at H
                        have c17b0 : decide (0 < a1) = true := decide_eq_true c17
                        clear c17
                        obtain ⟨ji18, hji18⟩ : ∃ j_ : Int, (IntKind.u64.wrap (wrap64 (64 - a1))) = j_ := ⟨_, rfl⟩
                        replace H : (if 0 ≤ (ji18) then (if 0 ≤ (wrap64 (x14_1 + 1)) then (if (wrap64 (x14_1 + 1)) < (x7_1.length : Int) then (quot_raised.l0 k1 a1 a2 (y260.set ((wrap64 (x14_1 + 1)) : Int).toNat (shr .u64 (rd l0 x14_1) (ji18))) l0 (l0.length : Int) (wrap64 (x14_1 + 1))) else (none)) else (none)) else (none)) = some r := by first | (rw [hji18] at H; exact H) | (simp only [hji18] at H ⊢; exact H)
                        by_cases c19 : 0 ≤ (ji18)
                        · rw [if_pos c19] at H
                          have c19b0 := eq_true c19
                          have c19b1 : decide (0 ≤ (ji18)) = true := decide_eq_true c19
                          clear c19
                          obtain ⟨ji20, hji20⟩ : ∃ j_ : Int, (shr .u64 (rd l0 x14_1) (ji18)) = j_ := ⟨_, rfl⟩
                          replace H : (if 0 ≤ (wrap64 (x14_1 + 1)) then (if (wrap64 (x14_1 + 1)) < (x7_1.length : Int) then (quot_raised.l0 k1 a1 a2 (y260.set ((wrap64 (x14_1 + 1)) : Int).toNat (ji20)) l0 (l0.length : Int) (wrap64 (x14_1 + 1))) else (none)) else (none)) = some r := by first | (rw [hji20] at H; exact H) | (simp only [hji20] at H ⊢; exact H)
                          have hji20_ : ((rd l0 x14_1) / 2 ^ min (ji18).toNat 64) = ji20 := hji20
                          have hji20z : (ji18) ≤ 64 → ((rd l0 x14_1) / 2 ^ (ji18).toNat) = ji20 := shr_small hji20
                          obtain ⟨ji21, hji21⟩ : ∃ j_ : Int, (wrap64 (x14_1 + 1)) = j_ := ⟨_, rfl⟩
                          replace H : (if 0 ≤ (ji21) then (if (ji21) < (x7_1.length : Int) then (quot_raised.l0 k1 a1 a2 (y260.set ((ji21) : Int).toNat (ji20)) l0 (l0.length : Int) ji21) else (none)) else (none)) = some r := by first | (rw [hji21] at H; exact H) | (simp only [hji21] at H ⊢; exact H)
                          (try rw [hji21] at c16b0)
                          have hji21w : (IntKind.i64.wrap (x14_1 + 1)) = ji21 := (i64_w _).trans hji21
                          by_cases c22 : 0 ≤ (ji21)
                          · rw [if_pos c22] at H
                            have c22b0 : decide (0 ≤ (ji21)) = true := decide_eq_true c22
                            clear c22
                            by_cases c23 : (ji21) < (x7_1.length : Int)
                            · rw [if_pos c23] at H
                              have c23b0 : decide ((ji21) < (x7_1.length : Int)) = true := decide_eq_true c23
                              clear c23
                              obtain ⟨y261, hy261⟩ : ∃ y_ : List Int, y_ = (y260.set ((ji21) : Int).toNat (ji20)) := ⟨_, rfl⟩
                              replace H : (quot_raised.l0 k1 a1 a2 y261 l0 (l0.length : Int) ji21) = some r := by first | (rw [hy261]; with_reducible exact H) | (have H2_ := (Option.bind_some _ _).symm.trans H; rw [hy261]; with_reducible exact H2_) | (have H2_ := (Option.bind_some _ _).symm.trans H; with_reducible exact H2_) | with_reducible exact H | (rw [hy261]; exact H) | exact H
                              have Ny261 := Aside0.mk hy261
                              clear hy261
                              have H' := Aside0.mk H
                              clear H
                              have p258 : 0 ≤ (x14_1 : Int) := of_decide_eq_true (by first | (with_reducible assumption) | assumption)
                              have q258 : x14_1 < (l0.length : Int) := of_decide_eq_true (by first | (with_reducible assumption) | assumption)
                              obtain ⟨ad258, e258, hx258_0⟩ := Kd.at_int HR0.out x14_1 p258 q258
                              cases e258
                              replace hx258_0 := (HB.out.cell (World.block_lt_of_cell? w _ hx258_0)).trans hx258_0
                              replace p258 := eq_true p258
                              replace q258 := eq_true q258
                              obtain ⟨Ao25, co25, eo25⟩ := Kd.R_slice HO_7.out
                              subst eo25
                              have p259 : 0 ≤ (x14_1 : Int) := of_decide_eq_true (by first | (with_reducible assumption) | assumption)
                              have q259 : x14_1 < (x7_1.length : Int) := of_decide_eq_true (by first | (with_reducible assumption) | assumption)
                              obtain ⟨ad259, e259, hx259_0⟩ := Kd.at_int (Kd.R_reads' HO_7.out).2.2 x14_1 p259 q259
                              cases e259
                              replace p259 := eq_true p259
                              replace q259 := eq_true q259
                              have p15 : 0 ≤ (x14_1 : Int) := of_decide_eq_true (by first | (with_reducible assumption) | assumption)
                              have q15 : (x14_1 : Int) < ((x7_1.length : Int) : Int) := of_decide_eq_true (by first | (with_reducible assumption) | assumption)
                              obtain ⟨go15, co15, eo15, gb15, gl15, cl15, HG15⟩ := Kd.R_form HO_7.out (by omega)
                              (first | cases eo15 | (injection eo15 with ea_ en_ ec_; (first | subst ea_ | (injection ea_ with ea_; subst ea_)); subst ec_; clear en_))
                              have GB15 := Aside0.mk gb15
                              have GG15 := Aside0.mk HG15
                              clear gb15 gl15 HG15
                              (first | simp only [add_plain] at hx259_0 | skip)
                              obtain ⟨hx15_0, hf15_0⟩ := Kd.R_celln 0 HO_7.out (x14_1 : Int) p15 q15
                              replace p15 := eq_true p15
                              replace q15 := eq_true q15
                              have HP26 := Kd.R_putg HO_7.out (x14_1 : Int) (Go.bits .or .u64 (rd x7_1 x14_1) (ji14))
                              go_wp2_with (first | ((with_reducible refine gate_store (t := 28) (p := 28) rfl ?_); refine store_event (t := 28) (p := 28) (v := ?vo_w27) (w1 := (wr.setCell ⟨go15, (x14_1 : Int).toNat, none⟩ (.int .u64 (Go.bits .or .u64 (rd x7_1 x14_1) (ji14))))) ?hg ?ho ?hn ?hr ?_; (case ho => rfl); (case hg => rfl); (case hn => rfl); (case hr => first | (go_simp; done) | (go_simp; rfl)); intro w27 hw; have hg : wr.grownBy w27 (some go15) := (by rw [hw]; exact HP26.2); have hp_ : Kd.R (Kd.int .u64) 28 w27 w.heap.size (fun _ => True) (.slice (some ⟨go15, 0, none⟩) x7_1.length co25) y260 := (by rw [hw, Ny260.out]; exact HP26.1); clear HP26; have n0_ := Aside0.mk (hp_); have n1_ := Aside0.mk ((by rw [hw]; exact below_set (HB.out) GB15.out : Below w.heap.size w w27)); clear HO_7; clear HB; have HO_7 := n0_; have HB := n1_; clear n0_ n1_; clear hg hw hp_; have p24 : 0 ≤ ((ji21) : Int) := of_decide_eq_true (by first | (with_reducible assumption) | assumption); have q24 : ((ji21) : Int) < ((x7_1.length : Int) : Int) := of_decide_eq_true (by first | (with_reducible assumption) | assumption); obtain ⟨hx24_0, hf24_0⟩ := Kd.R_celln 0 HO_7.out ((ji21) : Int) p24 q24; replace p24 := eq_true p24; replace q24 := eq_true q24; obtain ⟨hy28_, hz28_⟩ := Kd.R_celln 0 HO_7.out ((ji21) : Int) (of_decide_eq_true (by first | (with_reducible assumption) | assumption)) (of_decide_eq_true (by first | (with_reducible assumption) | assumption)); have HP28 := Kd.R_putg HO_7.out ((ji21) : Int) ji20) | ((with_reducible refine gate_store (t := 28) (p := 45) rfl ?_); refine store_event (t := 28) (p := 45) (v := ?vo_w29) (w1 := (w27.setCell ⟨go15, ((ji21) : Int).toNat, none⟩ (.int .u64 ji20))) ?hg ?ho ?hn ?hr ?_; (case ho => rfl); (case hg => rfl); (case hn => rfl); (case hr => first | (go_simp; done) | (go_simp; rfl)); intro w29 hw; have hg : w27.grownBy w29 (some go15) := (by rw [hw]; exact HP28.2); have hp_ : Kd.R (Kd.int .u64) 28 w29 w.heap.size (fun _ => True) (.slice (some ⟨go15, 0, none⟩) x7_1.length co25) y261 := (by rw [hw, Ny261.out]; exact HP28.1); clear HP28; have n0_ := Aside0.mk (hp_); have n1_ := Aside0.mk ((by rw [hw]; exact below_set (HB.out) GB15.out : Below w.heap.size w w29)); clear HO_7; clear HB; have HO_7 := n0_; have HB := n1_; clear n0_ n1_; clear hg hw hp_))
                              (try simp only [← hji12, ← hji18])
                              (try simp only [← hji12, ← hji18] at H')
                              go_roundg k1
                              case measure => have := HK1.out; omega
                              case rel => exact ⟨(y261), (ji21), (by first | rfl | (simp; done) | (simp only [← hji21] <;> (first | rfl | simp)) | (simp [*]; done)), H', ⟨by have := HK1.out; omega⟩, ⟨by (with_reducible repeat (first | apply Kd.R_alloc | apply Kd.R_drewN | apply Kd.R_drew)); exact HO_7.out⟩, ⟨by repeat (first | (with_reducible first | exact HB.out | apply below_alloc | apply pw_below_drewN | apply below_drew1) | exact HB.out)⟩⟩
                            · rw [if_neg c23] at H
                              exact absurd H (by simp)
                          · rw [if_neg c22] at H
                            exact absurd H (by simp)
                        · rw [if_neg c19] at H
                          exact absurd H (by simp)
                      · rw [if_neg c17] at H
                        have c17b0 : decide (0 < a1) = false := decide_eq_false c17
                        clear c17
                        have H' := Aside0.mk H
                        clear H
                        have p258 : 0 ≤ (x14_1 : Int) := of_decide_eq_true (by first | (with_reducible assumption) | assumption)
                        have q258 : x14_1 < (l0.length : Int) := of_decide_eq_true (by first | (with_reducible assumption) | assumption)
                        obtain ⟨ad258, e258, hx258_0⟩ := Kd.at_int HR0.out x14_1 p258 q258
                        cases e258
                        replace hx258_0 := (HB.out.cell (World.block_lt_of_cell? w _ hx258_0)).trans hx258_0
                        replace p258 := eq_true p258
                        replace q258 := eq_true q258
                        obtain ⟨Ao30, co30, eo30⟩ := Kd.R_slice HO_7.out
                        subst eo30
                        have p259 : 0 ≤ (x14_1 : Int) := of_decide_eq_true (by first | (with_reducible assumption) | assumption)
                        have q259 : x14_1 < (x7_1.length : Int) := of_decide_eq_true (by first | (with_reducible assumption) | assumption)
                        obtain ⟨ad259, e259, hx259_0⟩ := Kd.at_int (Kd.R_reads' HO_7.out).2.2 x14_1 p259 q259
                        cases e259
                        replace p259 := eq_true p259
                        replace q259 := eq_true q259
                        have p15 : 0 ≤ (x14_1 : Int) := of_decide_eq_true (by first | (with_reducible assumption) | assumption)
                        have q15 : (x14_1 : Int) < ((x7_1.length : Int) : Int) := of_decide_eq_true (by first | (with_reducible assumption) | assumption)
                        obtain ⟨go15, co15, eo15, gb15, gl15, cl15, HG15⟩ := Kd.R_form HO_7.out (by omega)
                        (first | cases eo15 | (injection eo15 with ea_ en_ ec_; (first | subst ea_ | (injection ea_ with ea_; subst ea_)); subst ec_; clear en_))
                        have GB15 := Aside0.mk gb15
                        have GG15 := Aside0.mk HG15
                        clear gb15 gl15 HG15
                        (first | simp only [add_plain] at hx259_0 | skip)
                        obtain ⟨hx15_0, hf15_0⟩ := Kd.R_celln 0 HO_7.out (x14_1 : Int) p15 q15
                        replace p15 := eq_true p15
                        replace q15 := eq_true q15
                        have HP31 := Kd.R_putg HO_7.out (x14_1 : Int) (Go.bits .or .u64 (rd x7_1 x14_1) (ji14))
                        go_wp2_with (first | ((with_reducible refine gate_store (t := 28) (p := 28) rfl ?_); refine store_event (t := 28) (p := 28) (v := ?vo_w32) (w1 := (wr.setCell ⟨go15, (x14_1 : Int).toNat, none⟩ (.int .u64 (Go.bits .or .u64 (rd x7_1 x14_1) (ji14))))) ?hg ?ho ?hn ?hr ?_; (case ho => rfl); (case hg => rfl); (case hn => rfl); (case hr => first | (go_simp; done) | (go_simp; rfl)); intro w32 hw; have hg : wr.grownBy w32 (some go15) := (by rw [hw]; exact HP31.2); have hp_ : Kd.R (Kd.int .u64) 28 w32 w.heap.size (fun _ => True) (.slice (some ⟨go15, 0, none⟩) x7_1.length co30) y260 := (by rw [hw, Ny260.out]; exact HP31.1); clear HP31; have n0_ := Aside0.mk (hp_); have n1_ := Aside0.mk ((by rw [hw]; exact below_set (HB.out) GB15.out : Below w.heap.size w w32)); clear HO_7; clear HB; have HO_7 := n0_; have HB := n1_; clear n0_ n1_; clear hg hw hp_))
                        (try simp only [← hji12])
                        (try simp only [← hji12] at H')
                        go_roundg k1
                        case measure => have := HK1.out; omega
                        case rel => exact ⟨(y260), (wrap64 (x14_1 + 1)), (by first | rfl | (simp; done) | (simp [*]; done)), H', ⟨by have := HK1.out; omega⟩, ⟨by (with_reducible repeat (first | apply Kd.R_alloc | apply Kd.R_drewN | apply Kd.R_drew)); exact HO_7.out⟩, ⟨by repeat (first | (with_reducible first | exact HB.out | apply below_alloc | apply pw_below_drewN | apply below_drew1) | exact HB.out)⟩⟩
                    · rw [if_neg c16] at H
                      have c16b0 : decide ((wrap64 (x14_1 + 1)) < a2) = false := decide_eq_false c16
                      clear c16
                      have H' := Aside0.mk H
                      clear H
                      have p258 : 0 ≤ (x14_1 : Int) := of_decide_eq_true (by first | (with_reducible assumption) | assumption)
                      have q258 : x14_1 < (l0.length : Int) := of_decide_eq_true (by first | (with_reducible assumption) | assumption)
                      obtain ⟨ad258, e258, hx258_0⟩ := Kd.at_int HR0.out x14_1 p258 q258
                      cases e258
                      replace hx258_0 := (HB.out.cell (World.block_lt_of_cell? w _ hx258_0)).trans hx258_0
                      replace p258 := eq_true p258
                      replace q258 := eq_true q258
                      obtain ⟨Ao33, co33, eo33⟩ := Kd.R_slice HO_7.out
                      subst eo33
                      have p259 : 0 ≤ (x14_1 : Int) := of_decide_eq_true (by first | (with_reducible assumption) | assumption)
                      have q259 : x14_1 < (x7_1.length : Int) := of_decide_eq_true (by first | (with_reducible assumption) | assumption)
                      obtain ⟨ad259, e259, hx259_0⟩ := Kd.at_int (Kd.R_reads' HO_7.out).2.2 x14_1 p259 q259
                      cases e259
                      replace p259 := eq_true p259
                      replace q259 := eq_true q259
                      have p15 : 0 ≤ (x14_1 : Int) := of_decide_eq_true (by first | (with_reducible assumption) | assumption)
                      have q15 : (x14_1 : Int) < ((x7_1.length : Int) : Int) := of_decide_eq_true (by first | (with_reducible assumption) | assumption)
                      obtain ⟨go15, co15, eo15, gb15, gl15, cl15, HG15⟩ := Kd.R_form HO_7.out (by omega)
                      (first | cases eo15 | (injection eo15 with ea_ en_ ec_; (first | subst ea_ | (injection ea_ with ea_; subst ea_)); subst ec_; clear en_))
                      have GB15 := Aside0.mk gb15
                      have GG15 := Aside0.mk HG15
                      clear gb15 gl15 HG15
                      (first | simp only [add_plain] at hx259_0 | skip)
                      obtain ⟨hx15_0, hf15_0⟩ := Kd.R_celln 0 HO_7.out (x14_1 : Int) p15 q15
                      replace p15 := eq_true p15
                      replace q15 := eq_true q15
                      have HP34 := Kd.R_putg HO_7.out (x14_1 : Int) (Go.bits .or .u64 (rd x7_1 x14_1) (ji14))
                      go_wp2_with (first | ((with_reducible refine gate_store (t := 28) (p := 28) rfl ?_); refine store_event (t := 28) (p := 28) (v := ?vo_w35) (w1 := (wr.setCell ⟨go15, (x14_1 : Int).toNat, none⟩ (.int .u64 (Go.bits .or .u64 (rd x7_1 x14_1) (ji14))))) ?hg ?ho ?hn ?hr ?_; (case ho => rfl); (case hg => rfl); (case hn => rfl); (case hr => first | (go_simp; done) | (go_simp; rfl)); intro w35 hw; have hg : wr.grownBy w35 (some go15) := (by rw [hw]; exact HP34.2); have hp_ : Kd.R (Kd.int .u64) 28 w35 w.heap.size (fun _ => True) (.slice (some ⟨go15, 0, none⟩) x7_1.length co33) y260 := (by rw [hw, Ny260.out]; exact HP34.1); clear HP34; have n0_ := Aside0.mk (hp_); have n1_ := Aside0.mk ((by rw [hw]; exact below_set (HB.out) GB15.out : Below w.heap.size w w35)); clear HO_7; clear HB; have HO_7 := n0_; have HB := n1_; clear n0_ n1_; clear hg hw hp_))
                      (try simp only [← hji12])
                      (try simp only [← hji12] at H')
                      go_roundg k1
                      case measure => have := HK1.out; omega
                      case rel => exact ⟨(y260), (wrap64 (x14_1 + 1)), (by first | rfl | (simp; done) | (simp [*]; done)), H', ⟨by have := HK1.out; omega⟩, ⟨by (with_reducible repeat (first | apply Kd.R_alloc | apply Kd.R_drewN | apply Kd.R_drew)); exact HO_7.out⟩, ⟨by repeat (first | (with_reducible first | exact HB.out | apply below_alloc | apply pw_below_drewN | apply below_drew1) | exact HB.out)⟩⟩
                  · rw [if_neg c13] at H
                    exact absurd H (by simp)
                · rw [if_neg c11] at H
                  exact absurd H (by simp)
              · rw [if_neg c10] at H
                exact absurd H (by simp)
            · rw [if_neg c9] at H
              exact absurd H (by simp)
          · rw [if_neg c8] at H
            have c8b0 : decide (x14_1 < (l0.length : Int)) = false := decide_eq_false c8
            clear c8
            obtain rfl := Option.some.inj H
            go_wp2
            go_ret
            exact ⟨_, by first | rfl | (simp [errW_none, errW_some] <;> rfl) | (simp [*, errW_none, errW_some] <;> rfl), by (with_reducible repeat (first | apply Kd.R_alloc | apply Kd.R_drewN | apply Kd.R_drew)); exact HO_7.out, by repeat (first | (with_reducible first | exact HB.out | apply below_alloc | apply pw_below_drewN | apply below_drew1) | exact HB.out)⟩
    · rw [if_neg c5] at H
      exact absurd H (by simp)
  · rw [if_neg c4] at H
    exact absurd H (by simp)

/-! ### quot_guess: function 101 -/
def quot_guess.f (k : Nat) (l0 : List Int) (l1 : List Int) : Option (Int) := if 0 ≤ (l1.length : Int) then (if (l1.length : Int) < (l0.length : Int) then (if 0 ≤ (wrap64 ((l1.length : Int) - 1)) then (if (wrap64 ((l1.length : Int) - 1)) < (l1.length : Int) then (if (rd l0 (l1.length : Int)) ≥ (rd l1 (wrap64 ((l1.length : Int) - 1))) then (some 18446744073709551615) else (if (wrap64 ((l1.length : Int) - 1)) < (l0.length : Int) then ((bits_Div64.f k (rd l0 (l1.length : Int)) (rd l0 (wrap64 ((l1.length : Int) - 1))) (rd l1 (wrap64 ((l1.length : Int) - 1)))).bind fun bt267 => (some bt267.1)) else (none))) else (none)) else (none)) else (none)) else (none)
theorem quot_guess.mono : ∀ a0 a1 k, LeO (quot_guess.f k a0 a1) (quot_guess.f (k + 1) a0 a1) := by
  intro a0 a1 k
  unfold quot_guess.f
  repeat' first
      | (with_reducible exact bits_Div64.mono _ _ _ _)
      | (with_reducible exact LeO.refl _)
      | (with_reducible exact LeO.none _)
      | (with_reducible refine LeO.ite ?_ ?_)
      | (with_reducible refine LeO.bind ?_ (fun _ => ?_))
      | exact bits_Div64.mono _ _ _ _
      | exact LeO.none _
      | refine LeO.ite ?_ ?_
      | refine LeO.bind ?_ (fun _ => ?_)
set_option maxHeartbeats 8000000 in
set_option maxRecDepth 100000 in
theorem quot_guess.calls (k : Nat) (A0 : Option Addr) (c0 : Nat) (l0 : List Int) (A1 : Option Addr) (c1 : Nat) (l1 : List Int) (r : Int) (w : World) (hr0 : Kd.C (Kd.int .u64) w A0 l0.length l0) (hc0 : l0.length ≤ c0) (hr1 : Kd.C (Kd.int .u64) w A1 l1.length l1) (hc1 : l1.length ≤ c1) (h : quot_guess.f k l0 l1 = some r) :
    Calls Tryd.prog 101 #[.slice A0 l0.length c0, .slice A1 l1.length c1] w fun e w' => e = .returned (.int .u64 r) ∧ Drawn0 w w' := by
  have HR0 := Aside0.mk hr0
  have HC0 := Aside0.mk hc0
  clear hr0 hc0
  have HR1 := Aside0.mk hr1
  have HC1 := Aside0.mk hc1
  clear hr1 hc1
  have H : (if 0 ≤ (l1.length : Int) then (if (l1.length : Int) < (l0.length : Int) then (if 0 ≤ (wrap64 ((l1.length : Int) - 1)) then (if (wrap64 ((l1.length : Int) - 1)) < (l1.length : Int) then (if (rd l0 (l1.length : Int)) ≥ (rd l1 (wrap64 ((l1.length : Int) - 1))) then (some 18446744073709551615) else (if (wrap64 ((l1.length : Int) - 1)) < (l0.length : Int) then ((bits_Div64.f k (rd l0 (l1.length : Int)) (rd l0 (wrap64 ((l1.length : Int) - 1))) (rd l1 (wrap64 ((l1.length : Int) - 1)))).bind fun bt267 => (some bt267.1)) else (none))) else (none)) else (none)) else (none)) else (none)) = some r := h
  clear h
  by_cases c3 : 0 ≤ (l1.length : Int)
  · rw [if_pos c3] at H
    have c3b0 : decide (0 ≤ (l1.length : Int)) = true := decide_eq_true c3
    have c3b1 : decide (0 ≤ l1.length) = true := decide_eq_true (by omega)
    clear c3
    by_cases c4 : (l1.length : Int) < (l0.length : Int)
    · rw [if_pos c4] at H
      have c4b0 : decide ((l1.length : Int) < (l0.length : Int)) = true := decide_eq_true c4
      have c4b1 : decide (l1.length < l0.length) = true := decide_eq_true (Int.ofNat_lt.mp c4)
      clear c4
      obtain ⟨ji5, hji5⟩ : ∃ j_ : Int, (wrap64 ((l1.length : Int) - 1)) = j_ := ⟨_, rfl⟩
      replace H : (if 0 ≤ (ji5) then (if (ji5) < (l1.length : Int) then (if (rd l0 (l1.length : Int)) ≥ (rd l1 (ji5)) then (some 18446744073709551615) else (if (ji5) < (l0.length : Int) then ((bits_Div64.f k (rd l0 (l1.length : Int)) (rd l0 (ji5)) (rd l1 (ji5))).bind fun bt267 => (some bt267.1)) else (none))) else (none)) else (none)) = some r := by first | (rw [hji5] at H; exact H) | (simp only [hji5] at H ⊢; exact H)
      have hji5w : (IntKind.i64.wrap ((l1.length : Int) - 1)) = ji5 := (i64_w _).trans hji5
      by_cases c6 : 0 ≤ (ji5)
      · rw [if_pos c6] at H
        have c6b0 : decide (0 ≤ (ji5)) = true := decide_eq_true c6
        clear c6
        by_cases c7 : (ji5) < (l1.length : Int)
        · rw [if_pos c7] at H
          have c7b0 : decide ((ji5) < (l1.length : Int)) = true := decide_eq_true c7
          clear c7
          by_cases c8 : (rd l0 (l1.length : Int)) ≥ (rd l1 (ji5))
          · rw [if_pos c8] at H
            have c8b0 : decide ((rd l1 (ji5)) ≤ (rd l0 (l1.length : Int))) = true := decide_eq_true c8
            clear c8
            obtain rfl := Option.some.inj H
            have p262 : 0 ≤ ((l1.length : Int) : Int) := of_decide_eq_true (by first | (with_reducible assumption) | assumption)
            have q262 : (l1.length : Int) < (l0.length : Int) := of_decide_eq_true (by first | (with_reducible assumption) | assumption)
            obtain ⟨ad262, e262, hx262_0⟩ := Kd.at_int HR0.out (l1.length : Int) p262 q262
            (try simp only [Int.toNat_natCast] at hx262_0)
            cases e262
            (try simp only [Go.IntWalk.toNatUp] at hx262_0)
            replace p262 := eq_true p262
            replace q262 := eq_true q262
            have p263 : 0 ≤ ((ji5) : Int) := of_decide_eq_true (by first | (with_reducible assumption) | assumption)
            have q263 : (ji5) < (l1.length : Int) := of_decide_eq_true (by first | (with_reducible assumption) | assumption)
            obtain ⟨ad263, e263, hx263_0⟩ := Kd.at_int HR1.out (ji5) p263 q263
            cases e263
            replace p263 := eq_true p263
            replace q263 := eq_true q263
            go_enter Tryd.func101, Tryd.ntmps101
            go_wp2
            repeat (go_quiet (fail); try go_wp2)
            go_ret
            exact ⟨by first | rfl | (simp; done) | (simp only [← hji5] <;> (first | rfl | simp)) | (simp [*]; done), by repeat (first | exact Drawn0.refl _ | apply Drawn0.step)⟩
          · rw [if_neg c8] at H
            have c8b0 : decide ((rd l1 (ji5)) ≤ (rd l0 (l1.length : Int))) = false := decide_eq_false c8
            clear c8
            by_cases c9 : (ji5) < (l0.length : Int)
            · rw [if_pos c9] at H
              have c9b0 : decide ((ji5) < (l0.length : Int)) = true := decide_eq_true c9
              clear c9
              replace H := Option.bind_eq_some_iff.mp H
              obtain ⟨⟨t267, t268⟩, A100, H⟩ := H
              replace H : (some t267) = some r := H
              have A10 := Aside0.mk A100
              clear A100
              obtain rfl := Option.some.inj H
              have p262 : 0 ≤ ((l1.length : Int) : Int) := of_decide_eq_true (by first | (with_reducible assumption) | assumption)
              have q262 : (l1.length : Int) < (l0.length : Int) := of_decide_eq_true (by first | (with_reducible assumption) | assumption)
              obtain ⟨ad262, e262, hx262_0⟩ := Kd.at_int HR0.out (l1.length : Int) p262 q262
              (try simp only [Int.toNat_natCast] at hx262_0)
              cases e262
              (try simp only [Go.IntWalk.toNatUp] at hx262_0)
              replace p262 := eq_true p262
              replace q262 := eq_true q262
              have p263 : 0 ≤ ((ji5) : Int) := of_decide_eq_true (by first | (with_reducible assumption) | assumption)
              have q263 : (ji5) < (l1.length : Int) := of_decide_eq_true (by first | (with_reducible assumption) | assumption)
              obtain ⟨ad263, e263, hx263_0⟩ := Kd.at_int HR1.out (ji5) p263 q263
              cases e263
              replace p263 := eq_true p263
              replace q263 := eq_true q263
              have p264 : 0 ≤ ((l1.length : Int) : Int) := of_decide_eq_true (by first | (with_reducible assumption) | assumption)
              have q264 : (l1.length : Int) < (l0.length : Int) := of_decide_eq_true (by first | (with_reducible assumption) | assumption)
              obtain ⟨ad264, e264, hx264_0⟩ := Kd.at_int HR0.out (l1.length : Int) p264 q264
              (try simp only [Int.toNat_natCast] at hx264_0)
              obtain rfl : ad262 = ad264 := (by injection e264)
              (try simp only [Go.IntWalk.toNatUp] at hx264_0)
              replace p264 := eq_true p264
              replace q264 := eq_true q264
              have p265 : 0 ≤ ((ji5) : Int) := of_decide_eq_true (by first | (with_reducible assumption) | assumption)
              have q265 : (ji5) < (l0.length : Int) := of_decide_eq_true (by first | (with_reducible assumption) | assumption)
              obtain ⟨ad265, e265, hx265_0⟩ := Kd.at_int HR0.out (ji5) p265 q265
              obtain rfl : ad262 = ad265 := (by injection e265)
              replace p265 := eq_true p265
              replace q265 := eq_true q265
              have p266 : 0 ≤ ((ji5) : Int) := of_decide_eq_true (by first | (with_reducible assumption) | assumption)
              have q266 : (ji5) < (l1.length : Int) := of_decide_eq_true (by first | (with_reducible assumption) | assumption)
              obtain ⟨ad266, e266, hx266_0⟩ := Kd.at_int HR1.out (ji5) p266 q266
              obtain rfl : ad263 = ad266 := (by injection e266)
              replace p266 := eq_true p266
              replace q266 := eq_true q266
              go_enter Tryd.func101, Tryd.ntmps101
              go_wp2_with (first | (go_at_call 98; (with_reducible refine (bits_Div64.calls k (rd l0 (l1.length : Int)) (rd l0 (ji5)) (rd l1 (ji5)) t267 t268 _ A10.out).mono ?_); rintro e w' ⟨rfl, ⟨nd, rfl⟩⟩; (try first | exact ⟨rfl, _, World.drewN_drewN _ _ _⟩ | exact ⟨rfl, _, Eq.trans (World.drewN_drewN _ _ _) (congrArg (World.drewN _) (Nat.add_assoc _ _ _))⟩)))
              repeat (go_quiet (first | (go_at_call 98; (with_reducible refine (bits_Div64.calls k (rd l0 (l1.length : Int)) (rd l0 (ji5)) (rd l1 (ji5)) t267 t268 _ A10.out).mono ?_); rintro e w' ⟨rfl, ⟨nd, rfl⟩⟩; (try first | exact ⟨rfl, _, World.drewN_drewN _ _ _⟩ | exact ⟨rfl, _, Eq.trans (World.drewN_drewN _ _ _) (congrArg (World.drewN _) (Nat.add_assoc _ _ _))⟩))); try go_wp2_with (first | (go_at_call 98; (with_reducible refine (bits_Div64.calls k (rd l0 (l1.length : Int)) (rd l0 (ji5)) (rd l1 (ji5)) t267 t268 _ A10.out).mono ?_); rintro e w' ⟨rfl, ⟨nd, rfl⟩⟩; (try first | exact ⟨rfl, _, World.drewN_drewN _ _ _⟩ | exact ⟨rfl, _, Eq.trans (World.drewN_drewN _ _ _) (congrArg (World.drewN _) (Nat.add_assoc _ _ _))⟩))))
              go_ret
              exact ⟨by first | rfl | (simp; done) | (simp only [← hji5] <;> (first | rfl | simp)) | (simp [*]; done), by repeat (first | exact Drawn0.refl _ | apply Drawn0.step)⟩
            · rw [if_neg c9] at H
              exact absurd H (by simp)
        · rw [if_neg c7] at H
          exact absurd H (by simp)
      · rw [if_neg c6] at H
        exact absurd H (by simp)
    · rw [if_neg c4] at H
      exact absurd H (by simp)
  · rw [if_neg c3] at H
    exact absurd H (by simp)

/-! ### bits_Sub64: function 84 (its contract by hand) -/
def bits_Sub64.f (a0 a1 a2 : Int) : Option (Int × Int) := if 0 ≤ a0 ∧ 0 ≤ a1 ∧ a1 < 18446744073709551616 ∧ 0 ≤ a2 ∧ a2 ≤ 1 then some ((a0 - a1 - a2) % 18446744073709551616, if a0 < a1 + a2 then 1 else 0) else none
theorem bits_Sub64.calls (a0 a1 a2 r1 r2 : Int) (w : World) (h : bits_Sub64.f a0 a1 a2 = some (r1, r2)) :
    CallsX Tryd.prog 84 #[.int .u64 a0, .int .u64 a1, .int .u64 a2] w fun e w' => e = .returned (.tuple #[.int .u64 r1, .int .u64 r2]) ∧ w = w' := by
  unfold bits_Sub64.f at h
  split at h
  · rename_i hh
    obtain ⟨h0, h1, h1', h2, h3⟩ := hh
    simp only [Option.some.injEq, Prod.mk.injEq] at h
    obtain ⟨rfl, rfl⟩ := h
    exact callsX_sub64 Tryd.func84 (by kernel_rfl) (by kernel_rfl) (by kernel_rfl) (by kernel_rfl) a0 a1 a2 h0 h1 h1' h2 h3 w
  · exact absurd h (by simp)

/-! ### quot_takeOff: function 102 (its contract by hand) -/
open Go.Proofs.YtiigfmmflicdpaaDoor.Lib Go.Proofs.YtiigfmmflicdpaaDoor.LongL in
theorem quot_takeOff.sub {x c b : Int} (hx : 0 ≤ x ∧ x < 18446744073709551616) (hc : 0 ≤ c ∧ c < 18446744073709551616) (hb : 0 ≤ b ∧ b ≤ 1) :
    bits_Sub64.f x c b = some ((x - c - b) % 18446744073709551616, if x < c + b then 1 else 0) := by
  unfold bits_Sub64.f; rw [if_pos (by omega)]
theorem quot_takeOff.add {x c : Int} (hx : 0 ≤ x ∧ x < 18446744073709551616) (hc : 0 ≤ c ∧ c < 18446744073709551616) :
    bits_Add64.f x c 0 = some ((x + c + 0) % 18446744073709551616, (x + c + 0) / 18446744073709551616) := by
  unfold bits_Add64.f; rw [if_pos (by omega)]
theorem quot_takeOff.mul64 {a b : Int} (ha : 0 ≤ a ∧ a < 18446744073709551616) (hb : 0 ≤ b ∧ b < 18446744073709551616) :
    bits_Mul64.f a b = some (a * b / 18446744073709551616, a * b % 18446744073709551616) := by
  unfold bits_Mul64.f
  rw [and32 ha.1 ha.2, and32 hb.1 hb.2]
  obtain ⟨x, hx⟩ : ∃ x, x = a / 4294967296 := ⟨_, rfl⟩
  obtain ⟨y, hy⟩ : ∃ y, y = a % 4294967296 := ⟨_, rfl⟩
  obtain ⟨u, hu⟩ : ∃ u, u = b / 4294967296 := ⟨_, rfl⟩
  obtain ⟨v, hv⟩ : ∃ v, v = b % 4294967296 := ⟨_, rfl⟩
  have ea : a = 4294967296 * x + y := by omega
  have eb : b = 4294967296 * u + v := by omega
  have x0 : 0 ≤ x ∧ x < 4294967296 := by omega
  have y0 : 0 ≤ y ∧ y < 4294967296 := by omega
  have u0 : 0 ≤ u ∧ u < 4294967296 := by omega
  have v0 : 0 ≤ v ∧ v < 4294967296 := by omega
  have pxu := mul_half x0.1 x0.2 u0.1 u0.2
  have pxv := mul_half x0.1 x0.2 v0.1 v0.2
  have pyu := mul_half y0.1 y0.2 u0.1 u0.2
  have pyv := mul_half y0.1 y0.2 v0.1 v0.2
  have hab : a * b = 18446744073709551616 * (x * u) + 4294967296 * (x * v) + 4294967296 * (y * u) + y * v := by
    rw [ea, eb]
    simp only [Int.add_mul, Int.mul_add, Int.mul_assoc, Int.mul_left_comm x 4294967296, Int.mul_left_comm y 4294967296]
    omega
  rw [← hx, ← hy, ← hu, ← hv, hab]
  clear ea eb hab hx hy hu hv
  generalize x * u = p at *
  generalize x * v = q at *
  generalize y * u = r at *
  generalize y * v = s at *
  simp only [IntKind.wrap_u64]
  rw [and32 (by omega) (by omega)]
  simp only [Option.some.injEq, Prod.mk.injEq, and_true]
  rw [show p % 18446744073709551616 = p from by omega, show q % 18446744073709551616 = q from by omega, show r % 18446744073709551616 = r from by omega, show s % 18446744073709551616 = s from by omega]
  obtain ⟨z, hz⟩ : ∃ z, z = q + s / 4294967296 := ⟨_, rfl⟩
  rw [← hz, show z % 18446744073709551616 = z from by omega, show (z % 4294967296 + r) % 18446744073709551616 = z % 4294967296 + r from by omega]
  omega
theorem quot_takeOff.mul {d x : Int} (hd : 0 ≤ d ∧ d < 18446744073709551616) (hx : 0 ≤ x ∧ x < 18446744073709551616) :
    bits_Mul64.f d x = some (d * x / 18446744073709551616, d * x % 18446744073709551616) ∧ 0 ≤ d * x ∧ d * x ≤ 340282366920938463426481119284349108225 := ⟨by exact quot_takeOff.mul64 hd hx, mul_full hd hx⟩
open Go.Proofs.YtiigfmmflicdpaaDoor.Lib Go.Proofs.YtiigfmmflicdpaaDoor.LongL in
def quot_takeOff.Post (w : World) (g j n : Nat) (us vs : List Int) (d : Int) : Ending → World → Prop := fun e w' => ∃ (ys : List Int) (b : Int), e = .returned (.bool (b != 0)) ∧ TkDone us vs j n d ys b ∧ Blk w' g 28 ys ∧ w.grownBy w' (some g)
set_option maxHeartbeats 4000000 in
set_option maxRecDepth 100000 in
open Go.Proofs.YtiigfmmflicdpaaDoor.Lib Go.Proofs.YtiigfmmflicdpaaDoor.LongL in
theorem quot_takeOff.calls (w : World) (ap : Addr) (g j n m cp : Nat) (us vs : List Int) (A1 : Option Addr) (c1 : Nat) (d : Int)
    (hap : ap = ⟨g, j, none⟩) (hm : m = n + 1) (hb : Blk w g 28 us) (hv : Kd.C (Kd.int .u64) w A1 vs.length vs) (hne : ∀ a, A1 = some a → a.block ≠ g) (hn : vs.length = n) (hj : j + n < us.length) (ou : ok us) (ov : ok vs)
    (hd : 0 ≤ d ∧ d < 18446744073709551616) (hmax : vs.length ≤ 140737488351232) :
    Calls Tryd.prog 102 #[.slice (some ap) m cp, .slice A1 vs.length c1, .int .u64 d] w (quot_takeOff.Post w g j n us vs d) := by
  have HM := Aside0.mk hm
  have HAP := Aside0.mk hap
  have HV := Aside0.mk hv
  have HNE := Aside0.mk hne
  have HN := Aside0.mk hn
  have HJ := Aside0.mk hj
  have HOV := Aside0.mk ov
  have HD := Aside0.mk hd
  have HX := Aside0.mk hmax
  have T0 := Aside0.mk (Tk.start (vs := vs) (j := j) (d := d) ou)
  have B0 := Aside0.mk hb
  have G0 := Aside0.mk (World.grownBy.refl w (some g))
  clear hm hap hv hne hn hj ov hd hmax ou hb
  go_enter Tryd.func102, Tryd.ntmps102
  go_wp2
  go_loopg [7, 8, 16] n (fun kq v7 v8 v16 w' => ∃ (i : Nat) (xi c b : Int) (xs : List Int), v7 = .int .u64 c ∧ v8 = .int .u64 b ∧ v16 = .int .i64 xi ∧ Aside0 (xi = (i : Int)) ∧ Aside0 (i + kq = n) ∧ Aside0 (Tk us vs j d i xs c b) ∧ Aside0 (Blk w' g 28 xs) ∧ Aside0 (w.grownBy w' (some g)))
  case atStart => exact ⟨0, 0, 0, 0, us, rfl, rfl, rfl, ⟨rfl⟩, ⟨Nat.zero_add n⟩, T0, B0, G0⟩
  case round =>
    clear T0 B0 G0
    obtain ⟨i, xi, c, b, xs, rfl, rfl, rfl, HI, HK, T, HB, HG⟩ := hrel
    have hi := HI.out
    have hk := HK.out
    have hn := HN.out
    have hmax := HX.out
    have hm := HM.out
    have hj := HJ.out
    cases gk with
    | zero =>
      have d1 : decide (xi < (vs.length : Int)) = false := decide_eq_false (by omega)
      have q0 : (0 ≤ (vs.length : Int)) = True := eq_true (by omega)
      have q1 : ((vs.length : Int) < (m : Int)) = True := eq_true (by omega)
      obtain ⟨hc, hf⟩ := HB.out.at_ (j + n) (by rw [T.out.len]; omega)
      have ea : ap.add vs.length = ⟨g, j + n, none⟩ := by rw [HAP.out, add_at, hn]
      rw [← ea] at hc hf
      obtain rfl : i = n := by omega
      have hs := quot_takeOff.sub (ok_rd T.out.ok ((j + i : Nat) : Int)) T.out.c0 T.out.b0
      have F := T.out.finish hn hj
      obtain ⟨p', hp'⟩ : ∃ p', p' = (rd xs ((j + i : Nat) : Int) - c - b) % 18446744073709551616 := ⟨_, rfl⟩
      obtain ⟨b', hb'⟩ : ∃ b' : Int, b' = if rd xs ((j + i : Nat) : Int) < c + b then 1 else 0 := ⟨_, rfl⟩
      rw [← hp', ← hb'] at hs F
      obtain ⟨X, hX⟩ : ∃ X, X = rd xs ((j + i : Nat) : Int) := ⟨_, rfl⟩
      rw [← hX] at hs hc
      have HS := Aside0.mk hs
      have HF := Aside0.mk F
      have HE := Aside0.mk ea
      clear hs F hp' hb' hX ea hi hk hn hmax hm hj
      go_wp2_with (first
        | ((with_reducible refine gate_callee (f := 84) rfl ?_); refine goesX_ (some 61) rfl rfl Tryd.func84 (by kernel_rfl) rfl #[.int .u64 X, .int .u64 c, .int .u64 b] rfl (by (try simp only [List.map_toArray, List.map_cons, List.map_nil]); first | done | rfl) ?_; (with_reducible refine (bits_Sub64.calls X c b p' b' _ HS.out).mono ?_); rintro e w' ⟨rfl, rfl⟩; refine ⟨_, rfl, ?_⟩)
        | ((with_reducible refine gate_store (t := 28) (p := 64) rfl ?_); refine store_event (t := 28) (p := 64) (v := ?vo) (w1 := wr.setCell (ap.add vs.length) (.int .u64 p')) ?hg ?ho ?hn ?hr ?_; (case ho => rfl); (case hg => rfl); (case hn => rfl); (case hr => first | (go_simp; done) | (go_simp; rfl)); intro w9 hw; have P9 := HB.out.put (j + i) p' (by rw [T.out.len]; have := HJ.out; have := HK.out; omega); rw [← HE.out, ← hw] at P9; have P1 := Aside0.mk P9.1; have P2 := Aside0.mk (grown_trans HG.out P9.2); clear P9 hw))
      go_ret
      exact ⟨_, b', rfl, HF.out, P1.out, P2.out⟩
    | succ k1 =>
      have d1 : decide (xi < (vs.length : Int)) = true := decide_eq_true (by omega)
      have p1 : 0 ≤ xi := by omega
      have q1 : xi < (vs.length : Int) := by omega
      have q2 : (xi < (m : Int)) = True := eq_true (by omega)
      obtain ⟨ad, ea1, hx⟩ := Kd.at_int HV.out xi p1 q1
      have hxn := HNE.out ad ea1
      subst ea1
      have hx' := HG.out.cell hx (by rw [add_block]; simpa using hxn)
      have p1' := eq_true p1
      clear p1 hx hxn
      obtain ⟨hc, hf⟩ := HB.out.at_ (j + i) (by rw [T.out.len]; omega)
      have ea : ap.add xi.toNat = ⟨g, j + i, none⟩ := by rw [HAP.out, add_at, HI.out, Int.toNat_natCast]
      rw [← ea] at hc hf
      have rx := ok_rd HOV.out (i : Int)
      rw [← HI.out] at rx
      obtain ⟨x, hx0⟩ : ∃ x, x = rd vs xi := ⟨_, rfl⟩
      rw [← hx0] at rx hx'
      have hM := quot_takeOff.mul HD.out rx
      obtain ⟨M, hM0⟩ : ∃ M, M = d * x := ⟨_, rfl⟩
      rw [← hM0] at hM
      have hA := quot_takeOff.add (x := M % 18446744073709551616) (by omega) T.out.c0
      have hs := quot_takeOff.sub (ok_rd T.out.ok ((j + i : Nat) : Int)) (c := (M % 18446744073709551616 + c + 0) % 18446744073709551616) (by omega) T.out.b0
      have F := T.out.step (by omega) HD.out HOV.out (m := M) (by rw [← HI.out, ← hx0]; exact hM0.symm) hM.2.1 hM.2.2
      have hcr := tk_carry T.out.c0 hM.2.1 hM.2.2
      have hw1 : IntKind.u64.wrap (M / 18446744073709551616 + (M % 18446744073709551616 + c + 0) / 18446744073709551616) = M / 18446744073709551616 + (M % 18446744073709551616 + c + 0) / 18446744073709551616 := by rw [IntKind.wrap_u64]; omega
      have hM1 := hM.1
      clear hM
      obtain ⟨hi', hhi⟩ : ∃ t, t = M / 18446744073709551616 := ⟨_, rfl⟩
      obtain ⟨lo', hlo⟩ : ∃ t, t = M % 18446744073709551616 := ⟨_, rfl⟩
      rw [← hhi, ← hlo] at hM1
      rw [← hlo] at hA hs
      rw [← hlo, ← hhi] at F hcr hw1
      obtain ⟨l2, hl2⟩ : ∃ t, t = (lo' + c + 0) % 18446744073709551616 := ⟨_, rfl⟩
      obtain ⟨c2, hc2⟩ : ∃ t, t = (lo' + c + 0) / 18446744073709551616 := ⟨_, rfl⟩
      rw [← hl2, ← hc2] at hA
      rw [← hl2] at hs
      rw [← hl2, ← hc2] at F
      rw [← hc2] at hcr hw1
      obtain ⟨p', hp'⟩ : ∃ p', p' = (rd xs ((j + i : Nat) : Int) - l2 - b) % 18446744073709551616 := ⟨_, rfl⟩
      obtain ⟨b', hb'⟩ : ∃ b' : Int, b' = if rd xs ((j + i : Nat) : Int) < l2 + b then 1 else 0 := ⟨_, rfl⟩
      rw [← hp', ← hb'] at hs F
      obtain ⟨X, hX⟩ : ∃ X, X = rd xs ((j + i : Nat) : Int) := ⟨_, rfl⟩
      rw [← hX] at hs hc
      have HMl := Aside0.mk hM1
      have HAd := Aside0.mk hA
      have HS := Aside0.mk hs
      have HF := Aside0.mk F
      have HE := Aside0.mk ea
      have HW := Aside0.mk hw1
      have HCR := Aside0.mk hcr
      have hw2 : wrap64 (xi + 1) = ((i + 1 : Nat) : Int) := by unfold wrap64; omega
      have HW2 := Aside0.mk hw2
      clear hs F hp' hb' hX ea hi hn hmax hm hj hM1 hA hw1 hw2 hcr hl2 hc2 hhi hlo hM0 hx0 rx
      go_wp2_with (first
        | (go_at_call 55; (with_reducible refine (bits_Mul64.calls d x hi' lo' _ HMl.out).mono ?_); rintro e w' ⟨rfl, ⟨nd, rfl⟩⟩)
        | ((with_reducible refine gate_callee (f := 57) rfl ?_); refine goesX_ (some 30) rfl rfl Tryd.func57 (by kernel_rfl) rfl #[.int .u64 lo', .int .u64 c, .int .u64 0] rfl (by (try simp only [List.map_toArray, List.map_cons, List.map_nil]); first | done | rfl) ?_; (with_reducible refine (bits_Add64.calls lo' c 0 l2 c2 _ HAd.out).mono ?_); rintro e w' ⟨rfl, rfl⟩; refine ⟨_, rfl, ?_⟩)
        | ((with_reducible refine gate_callee (f := 84) rfl ?_); refine goesX_ (some 45) rfl rfl Tryd.func84 (by kernel_rfl) rfl #[.int .u64 X, .int .u64 l2, .int .u64 b] rfl (by (try simp only [List.map_toArray, List.map_cons, List.map_nil]); first | done | rfl) ?_; (with_reducible refine (bits_Sub64.calls X l2 b p' b' _ HS.out).mono ?_); rintro e w' ⟨rfl, rfl⟩; refine ⟨_, rfl, ?_⟩))
      go_roundg k1
      case measure => omega
      case rel =>
        have P9 := (HB.out.drewN nd).put (j + i) p' (by rw [T.out.len]; have := HJ.out; have := HK.out; omega)
        rw [← HE.out] at P9
        exact ⟨i + 1, wrap64 (xi + 1), _, b', _, by rw [HW.out], rfl, rfl, ⟨HW2.out⟩, ⟨by have := HK.out; omega⟩, HF, ⟨P9.1⟩, ⟨grown_trans (grown_trans HG.out (grown_drewN _ nd _)) P9.2⟩⟩

/-! ### quot_putBack: function 103 (its contract by hand) -/
theorem quot_putBack.add {x y c : Int} (hx : 0 ≤ x ∧ x < 18446744073709551616) (hy : 0 ≤ y ∧ y < 18446744073709551616) (hc : 0 ≤ c ∧ c ≤ 1) :
    bits_Add64.f x y c = some ((x + y + c) % 18446744073709551616, (x + y + c) / 18446744073709551616) := by
  unfold bits_Add64.f; rw [if_pos (by omega)]
open Go.Proofs.YtiigfmmflicdpaaDoor.Lib Go.Proofs.YtiigfmmflicdpaaDoor.LongL in
def quot_putBack.Post (w : World) (g j n : Nat) (us vs : List Int) : Ending → World → Prop := fun e w' => ∃ (ys : List Int) (b : Int), e = .returned (.bool (b != 0)) ∧ PbDone us vs j n ys b ∧ Blk w' g 28 ys ∧ w.grownBy w' (some g)
set_option maxHeartbeats 4000000 in
set_option maxRecDepth 100000 in
open Go.Proofs.YtiigfmmflicdpaaDoor.Lib Go.Proofs.YtiigfmmflicdpaaDoor.LongL in
theorem quot_putBack.calls (w : World) (ap : Addr) (g j n m cp : Nat) (us vs : List Int) (A1 : Option Addr) (c1 : Nat)
    (hap : ap = ⟨g, j, none⟩) (hm : m = n + 1) (hb : Blk w g 28 us) (hv : Kd.C (Kd.int .u64) w A1 vs.length vs) (hne : ∀ a, A1 = some a → a.block ≠ g) (hn : vs.length = n) (hj : j + n < us.length) (ou : ok us) (ov : ok vs)
    (hmax : vs.length ≤ 140737488351232) :
    Calls Tryd.prog 103 #[.slice (some ap) m cp, .slice A1 vs.length c1] w (quot_putBack.Post w g j n us vs) := by
  have HM := Aside0.mk hm
  have HAP := Aside0.mk hap
  have HV := Aside0.mk hv
  have HNE := Aside0.mk hne
  have HN := Aside0.mk hn
  have HJ := Aside0.mk hj
  have HOV := Aside0.mk ov
  have HX := Aside0.mk hmax
  have T0 := Aside0.mk (Pb.start (vs := vs) (j := j) ou)
  have B0 := Aside0.mk hb
  have G0 := Aside0.mk (World.grownBy.refl w (some g))
  clear hm hap hv hne hn hj ov hmax ou hb
  go_enter Tryd.func103, Tryd.ntmps103
  go_wp2
  go_loopg [5, 10] n (fun kq v7 v16 w' => ∃ (i : Nat) (xi c : Int) (xs : List Int), v7 = .int .u64 c ∧ v16 = .int .i64 xi ∧ Aside0 (xi = (i : Int)) ∧ Aside0 (i + kq = n) ∧ Aside0 (Pb us vs j i xs c) ∧ Aside0 (Blk w' g 28 xs) ∧ Aside0 (w.grownBy w' (some g)))
  case atStart => exact ⟨0, 0, 0, us, rfl, rfl, ⟨rfl⟩, ⟨Nat.zero_add n⟩, T0, B0, G0⟩
  case round =>
    clear T0 B0 G0
    obtain ⟨i, xi, c, xs, rfl, rfl, HI, HK, T, HB, HG⟩ := hrel
    have hi := HI.out
    have hk := HK.out
    have hn := HN.out
    have hmax := HX.out
    have hm := HM.out
    have hj := HJ.out
    cases gk with
    | zero =>
      have d1 : decide (xi < (vs.length : Int)) = false := decide_eq_false (by omega)
      have q0 : (0 ≤ (vs.length : Int)) = True := eq_true (by omega)
      have q1 : ((vs.length : Int) < (m : Int)) = True := eq_true (by omega)
      obtain ⟨hc, hf⟩ := HB.out.at_ (j + n) (by rw [T.out.len]; omega)
      have ea : ap.add vs.length = ⟨g, j + n, none⟩ := by rw [HAP.out, add_at, hn]
      rw [← ea] at hc hf
      obtain rfl : i = n := by omega
      have hs := quot_putBack.add (ok_rd T.out.ok ((j + i : Nat) : Int)) (y := 0) (by omega) T.out.c0
      have F := T.out.finish hn hj
      obtain ⟨p', hp'⟩ : ∃ p', p' = (rd xs ((j + i : Nat) : Int) + 0 + c) % 18446744073709551616 := ⟨_, rfl⟩
      obtain ⟨b', hb'⟩ : ∃ b' : Int, b' = (rd xs ((j + i : Nat) : Int) + 0 + c) / 18446744073709551616 := ⟨_, rfl⟩
      rw [← hp', ← hb'] at hs F
      obtain ⟨X, hX⟩ : ∃ X, X = rd xs ((j + i : Nat) : Int) := ⟨_, rfl⟩
      rw [← hX] at hs hc
      have HS := Aside0.mk hs
      have HF := Aside0.mk F
      have HE := Aside0.mk ea
      clear hs F hp' hb' hX ea hi hk hn hmax hm hj
      go_wp2_with (first
        | ((with_reducible refine gate_callee (f := 57) rfl ?_); refine goesX_ (some 39) rfl rfl Tryd.func57 (by kernel_rfl) rfl #[.int .u64 X, .int .u64 0, .int .u64 c] rfl (by (try simp only [List.map_toArray, List.map_cons, List.map_nil]); first | done | rfl) ?_; (with_reducible refine (bits_Add64.calls X 0 c p' b' _ HS.out).mono ?_); rintro e w' ⟨rfl, rfl⟩; refine ⟨_, rfl, ?_⟩))
      have P9 := HB.out.put (j + i) p' (by rw [T.out.len]; have := HJ.out; have := HK.out; omega)
      rw [← HE.out] at P9
      go_ret
      exact ⟨_, b', rfl, HF.out, P9.1, grown_trans HG.out P9.2⟩
    | succ k1 =>
      have d1 : decide (xi < (vs.length : Int)) = true := decide_eq_true (by omega)
      have p1 : 0 ≤ xi := by omega
      have q1 : xi < (vs.length : Int) := by omega
      have q2 : (xi < (m : Int)) = True := eq_true (by omega)
      obtain ⟨ad, ea1, hx⟩ := Kd.at_int HV.out xi p1 q1
      have hxn := HNE.out ad ea1
      subst ea1
      have hx' := HG.out.cell hx (by rw [add_block]; simpa using hxn)
      have p1' := eq_true p1
      clear p1 hx hxn
      obtain ⟨hc, hf⟩ := HB.out.at_ (j + i) (by rw [T.out.len]; omega)
      have ea : ap.add xi.toNat = ⟨g, j + i, none⟩ := by rw [HAP.out, add_at, HI.out, Int.toNat_natCast]
      rw [← ea] at hc hf
      have rx := ok_rd HOV.out (i : Int)
      have hs := quot_putBack.add (ok_rd T.out.ok ((j + i : Nat) : Int)) rx T.out.c0
      have F := T.out.step (by omega) HOV.out
      rw [← HI.out] at rx hs F
      obtain ⟨x, hx0⟩ : ∃ x, x = rd vs xi := ⟨_, rfl⟩
      rw [← hx0] at rx hx' hs F
      obtain ⟨p', hp'⟩ : ∃ p', p' = (rd xs ((j + i : Nat) : Int) + x + c) % 18446744073709551616 := ⟨_, rfl⟩
      obtain ⟨b', hb'⟩ : ∃ b' : Int, b' = (rd xs ((j + i : Nat) : Int) + x + c) / 18446744073709551616 := ⟨_, rfl⟩
      rw [← hp', ← hb'] at hs F
      obtain ⟨X, hX⟩ : ∃ X, X = rd xs ((j + i : Nat) : Int) := ⟨_, rfl⟩
      rw [← hX] at hs hc
      have HS := Aside0.mk hs
      have HF := Aside0.mk F
      have HE := Aside0.mk ea
      have hw2 : wrap64 (xi + 1) = ((i + 1 : Nat) : Int) := by unfold wrap64; omega
      have HW2 := Aside0.mk hw2
      clear hs F hp' hb' hX ea hi hn hmax hm hj hw2 hx0 rx
      go_wp2_with (first
        | ((with_reducible refine gate_callee (f := 57) rfl ?_); refine goesX_ (some 24) rfl rfl Tryd.func57 (by kernel_rfl) rfl #[.int .u64 X, .int .u64 x, .int .u64 c] rfl (by (try simp only [List.map_toArray, List.map_cons, List.map_nil]); first | done | rfl) ?_; (with_reducible refine (bits_Add64.calls X x c p' b' _ HS.out).mono ?_); rintro e w' ⟨rfl, rfl⟩; refine ⟨_, rfl, ?_⟩))
      go_roundg k1
      case measure => omega
      case rel =>
        have P9 := HB.out.put (j + i) p' (by rw [T.out.len]; have := HJ.out; have := HK.out; omega)
        rw [← HE.out] at P9
        exact ⟨i + 1, wrap64 (xi + 1), b', _, rfl, rfl, ⟨HW2.out⟩, ⟨by have := HK.out; omega⟩, HF, ⟨P9.1⟩, ⟨grown_trans HG.out P9.2⟩⟩

end Go.Proofs.YtiigfmmflicdpaaDoor.PN
