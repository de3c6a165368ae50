-- printed by a program
import Derived.Test.YtnicfpilpafddaaPRx0
import Derived.Test.YtnicfpilpafddaaPRx1
import Derived.Test.YtnicfpilpafddaaPRx3
namespace Go.Proofs.Ytnicfpilpafddaa.PR
open Go.Proofs.YtnicfpilpafddaaX
open Go.RowKit Go.Proofs.YtnicfpilpafddaaW.PrintWords Go.Proofs.YtnicfpilpafddaaW.PrintLast Go.Proofs.YtnicfpilpafddaaW.PrintMore
attribute [local go_sem] max2_int min2_int max_two min_two max_three min_three max_four min_four   -- for this text's walks alone
set_option linter.unusedVariables false
set_option linter.unusedSimpArgs false

/-! ### nat_DivSmall: function 22 -/
def nat_DivSmall.l0 : Nat → List Int → Int → List Int → Int → Int → Option (List Int × Int × Int)
  | 0, _, _, _, _, _ => none
  | k + 1, x0, x1, x7, x8, x9 => if x9 ≥ 0 then (if 0 ≤ x9 then (if x9 < (x0.length : Int) then ((bits_Div64.f k x8 (rd x0 x9) x1).bind fun bt206 => (if x9 < (x7.length : Int) then (nat_DivSmall.l0 k x0 x1 (x7.set (x9 : Int).toNat bt206.1) bt206.2 (wrap64 (x9 - 1))) else (none))) else (none)) else (none)) else ((nat_cut.f k x7).bind fun bt209 => (some (bt209.1, x8, bt209.2)))
def nat_DivSmall.f (k : Nat) (l0 : List Int) (a1 : Int) : Option (List Int × Int × Int) := (nat_big.f k l0).bind fun t196 => (if t196 = true then (some (([] : List Int), 0, 2)) else (if a1 = 0 then (some (([] : List Int), 0, 4)) else ((nat_size.f k l0).bind fun t197 => (if 0 ≤ t197 then (if t197 ≤ (l0.length : Int) then ((some (l0.take (t197 : Int).toNat : List Int)).bind fun y198 => (if 0 ≤ (y198.length : Int) then (if ((y198.length : Int) : Int).toNat ≤ 35184372088832 then (nat_DivSmall.l0 k y198 a1 (List.replicate ((y198.length : Int) : Int).toNat 0) 0 (wrap64 ((y198.length : Int) - 1))) else (none)) else (none))) else (none)) else (none)))))
theorem nat_DivSmall.mono_l : ∀ k, (∀ y0 y1 y2 y3 y4, LeO (nat_DivSmall.l0 k y0 y1 y2 y3 y4) (nat_DivSmall.l0 (k + 1) y0 y1 y2 y3 y4))
  | 0 => fun _ _ _ _ _ r h => by simp [nat_DivSmall.l0] at h
  | k + 1 => by
    have ih0 := nat_DivSmall.mono_l k
    · intro y0 y1 y2 y3 y4
      unfold nat_DivSmall.l0
      repeat' first
      | (with_reducible exact ih0 _ _ _ _ _)
      | (with_reducible exact bits_Div64.mono _ _ _ _)
      | (with_reducible exact nat_big.mono _ _)
      | (with_reducible exact nat_cut.mono _ _)
      | (with_reducible exact nat_size.mono _ _)
      | (with_reducible exact LeO.refl _)
      | (with_reducible exact LeO.none _)
      | (with_reducible refine LeO.ite ?_ ?_)
      | (with_reducible refine LeO.bind ?_ (fun _ => ?_))
      | exact ih0 _ _ _ _ _
      | exact bits_Div64.mono _ _ _ _
      | exact nat_big.mono _ _
      | exact nat_cut.mono _ _
      | exact nat_size.mono _ _
      | exact LeO.none _
      | refine LeO.ite ?_ ?_
      | refine LeO.bind ?_ (fun _ => ?_)
theorem nat_DivSmall.mono : ∀ a0 a1 k, LeO (nat_DivSmall.f k a0 a1) (nat_DivSmall.f (k + 1) a0 a1) := by
  intro a0 a1 k
  have ih0 := nat_DivSmall.mono_l k
  unfold nat_DivSmall.f
  repeat' first
      | (with_reducible exact ih0 _ _ _ _ _)
      | (with_reducible exact bits_Div64.mono _ _ _ _)
      | (with_reducible exact nat_big.mono _ _)
      | (with_reducible exact nat_cut.mono _ _)
      | (with_reducible exact nat_size.mono _ _)
      | (with_reducible exact LeO.refl _)
      | (with_reducible exact LeO.none _)
      | (with_reducible refine LeO.ite ?_ ?_)
      | (with_reducible refine LeO.bind ?_ (fun _ => ?_))
      | exact ih0 _ _ _ _ _
      | exact bits_Div64.mono _ _ _ _
      | exact nat_big.mono _ _
      | exact nat_cut.mono _ _
      | exact nat_size.mono _ _
      | exact LeO.none _
      | refine LeO.ite ?_ ?_
      | refine LeO.bind ?_ (fun _ => ?_)
set_option maxHeartbeats 8000000 in
set_option maxRecDepth 100000 in
theorem nat_DivSmall.calls (k : Nat) (A0 : Option Addr) (c0 : Nat) (l0 : List Int) (a1 : Int) (r1 : List Int) (r2 : Int) (r3 : Int) (w : World) (hr0 : Kd.C (Kd.int .u64) w A0 l0.length l0) (hc0 : l0.length ≤ c0) (h : nat_DivSmall.f k l0 a1 = some (r1, r2, r3)) :
    Calls Try.prog 22 #[.slice A0 l0.length c0, .int .u64 a1] w fun e w' => ∃ v0_ : Value, e = .returned (.tuple #[v0_, .int .u64 r2, .int .i64 r3]) ∧ Kd.V (Kd.int .u64) 33 w' w.heap.size (fun k_ => (w.heap.size ≤ k_)) v0_ r1 ∧ Below w.heap.size w w' := by
  have HR0 := Aside0.mk hr0
  have HC0 := Aside0.mk hc0
  clear hr0 hc0
  have HB := Aside0.mk (Below.refl w.heap.size w)
  have H : ((nat_big.f k l0).bind fun t196 => (if t196 = true then (some (([] : List Int), 0, 2)) else (if a1 = 0 then (some (([] : List Int), 0, 4)) else ((nat_size.f k l0).bind fun t197 => (if 0 ≤ t197 then (if t197 ≤ (l0.length : Int) then ((some (l0.take (t197 : Int).toNat : List Int)).bind fun y198 => (if 0 ≤ (y198.length : Int) then (if ((y198.length : Int) : Int).toNat ≤ 35184372088832 then (nat_DivSmall.l0 k y198 a1 (List.replicate ((y198.length : Int) : Int).toNat 0) 0 (wrap64 ((y198.length : Int) - 1))) else (none)) else (none))) else (none)) else (none)))))) = some (r1, r2, r3) := h
  clear h
  replace H := Option.bind_eq_some_iff.mp H
  obtain ⟨t196, A30, H⟩ := H
  replace H : (if t196 = true then (some (([] : List Int), 0, 2)) else (if a1 = 0 then (some (([] : List Int), 0, 4)) else ((nat_size.f k l0).bind fun t197 => (if 0 ≤ t197 then (if t197 ≤ (l0.length : Int) then ((some (l0.take (t197 : Int).toNat : List Int)).bind fun y198 => (if 0 ≤ (y198.length : Int) then (if ((y198.length : Int) : Int).toNat ≤ 35184372088832 then (nat_DivSmall.l0 k y198 a1 (List.replicate ((y198.length : Int) : Int).toNat 0) 0 (wrap64 ((y198.length : Int) - 1))) else (none)) else (none))) else (none)) else (none))))) = some (r1, r2, r3) := H
  have A3 := Aside0.mk A30
  clear A30
  by_cases c4 : t196 = true
  · subst c4
    have H1 : (some (([] : List Int), 0, 2)) = some (r1, r2, r3) := by rw [if_pos rfl] at H; exact H
    clear H
    have H := H1
    clear H1
    simp only [Option.some.injEq, Prod.mk.injEq] at H
    obtain ⟨rfl, rfl, rfl⟩ := H
    go_enter Try.func22, Try.ntmps22
    go_wp2_with (first | ((with_reducible refine gate_callee (f := 24) rfl ?_); refine goesL_ (some 13) rfl rfl Try.func24 (by kernel_rfl) rfl #[.slice A0 l0.length c0] rfl (by (try simp only [List.map_toArray, List.map_cons, List.map_nil]); first | done | rfl | (simp only [List.length_drop, List.length_take]; rfl) | (simp only [gt_iff_lt, Int.natCast_pos]; done) | (simp only [gt_iff_lt, Int.natCast_pos]; rfl)) ?_; (with_reducible refine (nat_big.calls k _ _ l0 true _ ?side1 ?side2 A3.out).mono ?_); (case side1 => repeat (first | exact HR0.out | (with_reducible refine Kd.C_alloc ?_ _) | (with_reducible refine Kd.C_drewN ?_ _) | (with_reducible refine Kd.C_drew ?_))); (case side2 => exact HC0.out); rintro e w' ⟨rfl, ⟨nd, rfl⟩⟩; refine ⟨_, rfl, ?_⟩))
    go_ret3
    exact ⟨.slice none 0 0, by first | rfl | (simp [errW_none, errW_some] <;> rfl) | (simp [*, errW_none, errW_some] <;> rfl), Kd.V_nil _ _ _ _ _, by repeat (first | (with_reducible first | exact HB.out | apply below_alloc | apply pw_below_drewN | apply below_drew1) | exact HB.out)⟩
  · replace c4 := Bool.eq_false_iff.mpr c4
    subst c4
    have H1 : (if a1 = 0 then (some (([] : List Int), 0, 4)) else ((nat_size.f k l0).bind fun t197 => (if 0 ≤ t197 then (if t197 ≤ (l0.length : Int) then ((some (l0.take (t197 : Int).toNat : List Int)).bind fun y198 => (if 0 ≤ (y198.length : Int) then (if ((y198.length : Int) : Int).toNat ≤ 35184372088832 then (nat_DivSmall.l0 k y198 a1 (List.replicate ((y198.length : Int) : Int).toNat 0) 0 (wrap64 ((y198.length : Int) - 1))) else (none)) else (none))) else (none)) else (none)))) = some (r1, r2, r3) := by rw [if_neg (show ¬ (false = true) by decide)] at H; exact H
    clear H
    have H := H1
    clear H1
    by_cases c5 : a1 = 0
    · rw [if_pos c5] at H
      have c5b0 : (a1 == 0) = true := beq_iff_eq.mpr c5
      have c5b1 : (a1 != 0) = false := bne_eq_false_iff_eq.mpr c5
      clear c5
      simp only [Option.some.injEq, Prod.mk.injEq] at H
      obtain ⟨rfl, rfl, rfl⟩ := H
      go_enter Try.func22, Try.ntmps22
      go_wp2_with (first | ((with_reducible refine gate_callee (f := 24) rfl ?_); refine goesL_ (some 13) rfl rfl Try.func24 (by kernel_rfl) rfl #[.slice A0 l0.length c0] rfl (by (try simp only [List.map_toArray, List.map_cons, List.map_nil]); first | done | rfl | (simp only [List.length_drop, List.length_take]; rfl) | (simp only [gt_iff_lt, Int.natCast_pos]; done) | (simp only [gt_iff_lt, Int.natCast_pos]; rfl)) ?_; (with_reducible refine (nat_big.calls k _ _ l0 false _ ?side1 ?side2 A3.out).mono ?_); (case side1 => repeat (first | exact HR0.out | (with_reducible refine Kd.C_alloc ?_ _) | (with_reducible refine Kd.C_drewN ?_ _) | (with_reducible refine Kd.C_drew ?_))); (case side2 => exact HC0.out); rintro e w' ⟨rfl, ⟨nd, rfl⟩⟩; refine ⟨_, rfl, ?_⟩))
      go_ret3
      exact ⟨.slice none 0 0, by first | rfl | (simp [errW_none, errW_some] <;> rfl) | (simp [*, errW_none, errW_some] <;> rfl), Kd.V_nil _ _ _ _ _, by repeat (first | (with_reducible first | exact HB.out | apply below_alloc | apply pw_below_drewN | apply below_drew1) | exact HB.out)⟩
    · rw [if_neg c5] at H
      have c5b0 : (a1 == 0) = false := beq_eq_false_iff_ne.mpr c5
      have c5b1 : (a1 != 0) = true := bne_iff_ne.mpr c5
      replace H := Option.bind_eq_some_iff.mp H
      obtain ⟨t197, A60, H⟩ := H
      replace H : (if 0 ≤ t197 then (if t197 ≤ (l0.length : Int) then ((some (l0.take (t197 : Int).toNat : List Int)).bind fun y198 => (if 0 ≤ (y198.length : Int) then (if ((y198.length : Int) : Int).toNat ≤ 35184372088832 then (nat_DivSmall.l0 k y198 a1 (List.replicate ((y198.length : Int) : Int).toNat 0) 0 (wrap64 ((y198.length : Int) - 1))) else (none)) else (none))) else (none)) else (none)) = some (r1, r2, r3) := H
      have A6 := Aside0.mk A60
      clear A60
      by_cases c7 : 0 ≤ t197
      · rw [if_pos c7] at H
        have c7b0 := eq_true c7
        have c7b1 : decide (0 ≤ t197) = true := decide_eq_true c7
        clear c7
        by_cases c8 : t197 ≤ (l0.length : Int)
        · rw [if_pos c8] at H
          have c8b0 := eq_true c8
          have c8b1 : decide (t197 ≤ (l0.length : Int)) = true := decide_eq_true c8
          clear c8
          obtain ⟨y198, hy198⟩ : ∃ y_ : List Int, y_ = (l0.take (t197 : Int).toNat) := ⟨_, rfl⟩
          replace H : (if 0 ≤ (y198.length : Int) then (if ((y198.length : Int) : Int).toNat ≤ 35184372088832 then (nat_DivSmall.l0 k y198 a1 (List.replicate ((y198.length : Int) : Int).toNat 0) 0 (wrap64 ((y198.length : Int) - 1))) else (none)) else (none)) = some (r1, r2, r3) := by first | (rw [hy198]; with_reducible exact H) | (have H2_ := (Option.bind_some _ _).symm.trans H; rw [hy198]; with_reducible exact H2_) | (have H2_ := (Option.bind_some _ _).symm.trans H; with_reducible exact H2_) | with_reducible exact H | (rw [hy198]; exact H) | exact H
          have Ny198 := Aside0.mk hy198
          clear hy198
          by_cases c9 : 0 ≤ (y198.length : Int)
          · rw [if_pos c9] at H
            have c9b0 := eq_true c9
            have c9b1 : decide (0 ≤ (y198.length : Int)) = true := decide_eq_true c9
            clear c9
            by_cases c10 : ((y198.length : Int) : Int).toNat ≤ 35184372088832
            · rw [if_pos c10] at H
              have c10b0 := eq_true c10
              have c10b1 : decide (((y198.length : Int) : Int).toNat ≤ 35184372088832) = true := decide_eq_true c10
              clear c10
              obtain ⟨y202, hy202⟩ : ∃ y_ : List Int, y_ = (List.replicate ((y198.length : Int) : Int).toNat 0) := ⟨_, rfl⟩
              replace H : (nat_DivSmall.l0 k y198 a1 y202 0 (wrap64 ((y198.length : Int) - 1))) = some (r1, r2, r3) := by first | (rw [hy202]; with_reducible exact H) | (have H2_ := (Option.bind_some _ _).symm.trans H; rw [hy202]; with_reducible exact H2_) | (have H2_ := (Option.bind_some _ _).symm.trans H; with_reducible exact H2_) | with_reducible exact H | (rw [hy202]; exact H) | exact H
              have Ny202 := Aside0.mk hy202
              clear hy202
              have H' := Aside0.mk H
              clear H
              go_enter Try.func22, Try.ntmps22
              go_wp2_with (first | ((with_reducible refine gate_callee (f := 24) rfl ?_); refine goesL_ (some 13) rfl rfl Try.func24 (by kernel_rfl) rfl #[.slice A0 l0.length c0] rfl (by (try simp only [List.map_toArray, List.map_cons, List.map_nil]); first | done | rfl | (simp only [List.length_drop, List.length_take]; rfl) | (simp only [gt_iff_lt, Int.natCast_pos]; done) | (simp only [gt_iff_lt, Int.natCast_pos]; rfl)) ?_; (with_reducible refine (nat_big.calls k _ _ l0 false _ ?side1 ?side2 A3.out).mono ?_); (case side1 => repeat (first | exact HR0.out | (with_reducible refine Kd.C_alloc ?_ _) | (with_reducible refine Kd.C_drewN ?_ _) | (with_reducible refine Kd.C_drew ?_))); (case side2 => exact HC0.out); rintro e w' ⟨rfl, ⟨nd, rfl⟩⟩; refine ⟨_, rfl, ?_⟩) | ((with_reducible refine gate_callee (f := 25) rfl ?_); refine goesL_ (some 18) rfl rfl Try.func25 (by kernel_rfl) rfl #[.slice A0 l0.length c0] rfl (by (try simp only [List.map_toArray, List.map_cons, List.map_nil]); first | done | rfl | (simp only [List.length_drop, List.length_take]; rfl) | (simp only [gt_iff_lt, Int.natCast_pos]; done) | (simp only [gt_iff_lt, Int.natCast_pos]; rfl)) ?_; (with_reducible refine (nat_size.calls k _ _ l0 t197 _ ?side1 ?side2 A6.out).mono ?_); (case side1 => repeat (first | exact HR0.out | (with_reducible refine Kd.C_alloc ?_ _) | (with_reducible refine Kd.C_drewN ?_ _) | (with_reducible refine Kd.C_drew ?_))); (case side2 => exact HC0.out); rintro e w' ⟨rfl, ⟨nd, rfl⟩⟩; refine ⟨_, rfl, ?_⟩; have q11 : (t197 : Int) ≤ ((l0.length : Int) : Int) := of_decide_eq_true (by first | (with_reducible assumption) | assumption); obtain ⟨i011, hi011, _, hsz11, _⟩ := info_parts info33; have hroom11 : l0.length ≤ c0 := HC0.out; have hC11 : Kd.C (Kd.int .u64) _ A0 l0.length l0 := HR0.out; have hcut11 := cut_to (P := Try.prog) 22 33 .i64 Try.underlying22 hi011 A0 l0.length c0 t197 (of_decide_eq_true (by first | (with_reducible assumption) | assumption)) q11 hroom11; have hr11 := Kd.C_take (m := (t197 : Int).toNat) hC11 (by omega); have hy11 : y198.length = (t197 : Int).toNat := (by rw [Ny198.out, List.length_take]; omega); rw [← Ny198.out] at hr11; rw [← hy11] at hcut11; have HR201 := Aside0.mk hr11; have HC201 := Aside0.mk (show y198.length ≤ c0 from by omega); clear hr11 hC11 hroom11 hi011 hsz11; have KY11 := Aside0.mk hy11; clear hy11; replace q11 := eq_true q11) | ((with_reducible refine gate_dst (N := 22) rfl ?_); refine Kd.R_make (Kd.int .u64) _ 33 rfl (N := 22) rfl 22 _ _ rfl (y198.length : Int) rfl rfl Try.underlying22 (.int .u64 0) 8 info33 rfl (by decide) (by omega) 0 (ok := fun _ => True) (okp := fun _ => True) rfl (fun _ hk => hk) trivial (of_decide_eq_true (by first | (with_reducible assumption) | assumption)) (Nat.le_trans (Nat.mul_le_mul_right _ (of_decide_eq_true (by first | (with_reducible assumption) | assumption) : (y198.length : Int).toNat ≤ 35184372088832)) (by omega)) (Below.refl _ _) (Nat.le_refl _) ?_; intro v203 w12 ho13 hb hg_ hnew_; clear hg_ hnew_; (first | rw [← Ny202.out] at ho13 | (simp only [Int.reduceToNat] at ho13; rw [← Ny202.out] at ho13)); have n0_ := Aside0.mk (Kd.R_lower (Kd.R_newM (M := fun k_ => (w.heap.size ≤ k_)) ho13 (below_size (by repeat (first | (with_reducible first | exact HB.out | apply below_alloc | apply pw_below_drewN | apply below_drew1) | exact HB.out))) (fun k_ h_ => h_)) (below_size (by repeat (first | (with_reducible first | exact HB.out | apply below_alloc | apply pw_below_drewN | apply below_drew1) | exact HB.out)))); have n1_ := Aside0.mk (below_step (by repeat (first | (with_reducible first | exact HB.out | apply below_alloc | apply pw_below_drewN | apply below_drew1) | exact HB.out)) hb); clear HB; have HO204 := n0_; have HB := n1_; clear n0_ n1_; clear hb ho13))
              go_loopg [8, 9] k (fun kq v8 v9 w' => ∃ (x7_1 : List Int) (x8_1 : Int) (x9_1 : Int), v8 = .int .u64 x8_1 ∧ v9 = .int .i64 x9_1 ∧ Aside0 (nat_DivSmall.l0 kq y198 a1 x7_1 x8_1 x9_1 = some (r1, r2, r3)) ∧ Aside0 (kq ≤ k) ∧ Aside0 (Kd.R (Kd.int .u64) 33 w' w.heap.size (fun k_ => (w.heap.size ≤ k_)) v203 x7_1) ∧ Aside0 (Below w.heap.size w w'))
              case atStart => exact ⟨(y202), (0), (wrap64 ((y198.length : Int) - 1)), (by first | rfl | (simp; done) | (simp [*]; done)), (by first | rfl | (simp; done) | (simp [*]; done)), H', ⟨Nat.le_refl _⟩, ⟨by (with_reducible repeat (first | apply Kd.R_alloc | apply Kd.R_drewN | apply Kd.R_drew)); exact Kd.R_mono HO204.out (fun _ hk => hk.1)⟩, ⟨by repeat (first | (with_reducible first | exact HB.out | apply below_alloc | apply pw_below_drewN | apply below_drew1) | exact HB.out)⟩⟩
              case round =>
                clear H'
                try clear c1
                try clear q1
                try clear c2
                try clear p2
                try clear c4
                try clear c5
                try clear c5b0
                try clear c5b1
                try clear p6
                try clear c7
                try clear c7b0
                try clear c7b1
                try clear c8
                try clear c8b0
                try clear c8b1
                try clear c9
                try clear c9b0
                try clear c9b1
                try clear c10
                try clear c10b0
                try clear c10b1
                try clear q11
                try clear q11
                obtain ⟨x7_1, x8_1, x9_1, rfl, rfl, HA, HK1, HO_7, HB⟩ := hrel
                cases gk with
                | zero => exact absurd HA.out (by simp [nat_DivSmall.l0])
                | succ k1 =>
                  have H := HA.out
                  clear HA
                  simp only [nat_DivSmall.l0] at H
                  by_cases c14 : x9_1 ≥ 0
                  · rw [if_pos c14] at H
                    have c14b0 : decide (0 ≤ x9_1) = true := decide_eq_true c14
                    clear c14
                    by_cases c15 : 0 ≤ x9_1
                    · rw [if_pos c15] at H
                      have c15b0 : decide (0 ≤ x9_1) = true := decide_eq_true c15
                      clear c15
                      by_cases c16 : x9_1 < (y198.length : Int)
                      · rw [if_pos c16] at H
                        have c16b0 : decide (x9_1 < (y198.length : Int)) = true := decide_eq_true c16
                        clear c16
                        replace H := Option.bind_eq_some_iff.mp H
                        obtain ⟨⟨t206, t207⟩, A170, H⟩ := H
                        replace H : (if x9_1 < (x7_1.length : Int) then (nat_DivSmall.l0 k1 y198 a1 (x7_1.set (x9_1 : Int).toNat t206) t207 (wrap64 (x9_1 - 1))) else (none)) = some (r1, r2, r3) := H
                        have A17 := Aside0.mk A170
                        clear A170
                        by_cases c18 : x9_1 < (x7_1.length : Int)
                        · rw [if_pos c18] at H
                          have c18b0 : decide (x9_1 < (x7_1.length : Int)) = true := decide_eq_true c18
                          clear c18
                          obtain ⟨y208, hy208⟩ : ∃ y_ : List Int, y_ = (x7_1.set (x9_1 : Int).toNat t206) := ⟨_, rfl⟩
                          replace H : (nat_DivSmall.l0 k1 y198 a1 y208 t207 (wrap64 (x9_1 - 1))) = some (r1, r2, r3) := by first | (rw [hy208]; with_reducible exact H) | (have H2_ := (Option.bind_some _ _).symm.trans H; rw [hy208]; with_reducible exact H2_) | (have H2_ := (Option.bind_some _ _).symm.trans H; with_reducible exact H2_) | with_reducible exact H | (rw [hy208]; exact H) | exact H
                          have Ny208 := Aside0.mk hy208
                          clear hy208
                          have H' := Aside0.mk H
                          clear H
                          have p205 : 0 ≤ (x9_1 : Int) := of_decide_eq_true (by first | (with_reducible assumption) | assumption)
                          have q205 : x9_1 < (y198.length : Int) := of_decide_eq_true (by first | (with_reducible assumption) | assumption)
                          obtain ⟨ad205, e205, hx205_0⟩ := Kd.at_int HR201.out x9_1 p205 q205
                          cases e205
                          replace hx205_0 := (HB.out.cell (World.block_lt_of_cell? w _ hx205_0)).trans hx205_0
                          replace p205 := eq_true p205
                          replace q205 := eq_true q205
                          go_wp2_with (first | ((with_reducible refine gate_callee (f := 33) rfl ?_); refine goesL_ (some 39) rfl rfl Try.func33 (by kernel_rfl) rfl #[.int .u64 x8_1, .int .u64 (rd y198 x9_1), .int .u64 a1] rfl (by (try simp only [List.map_toArray, List.map_cons, List.map_nil]); first | done | rfl | (simp only [List.length_drop, List.length_take]; rfl) | (simp only [gt_iff_lt, Int.natCast_pos]; done) | (simp only [gt_iff_lt, Int.natCast_pos]; rfl)) ?_; (with_reducible refine (bits_Div64.calls k1 x8_1 (rd y198 x9_1) a1 t206 t207 _ A17.out).mono ?_); rintro e w' ⟨rfl, ⟨nd, rfl⟩⟩; refine ⟨_, rfl, ?_⟩; (try (rw [drewN_self wr]; generalize hq_ : World.drewN wr _ = wr; have n0_ : Aside0 (Kd.R (Kd.int .u64) 33 wr w.heap.size (fun k_ => (w.heap.size ≤ k_)) v203 x7_1) := ⟨by rw [← hq_]; exact (by (with_reducible repeat (first | apply Kd.R_alloc | apply Kd.R_drewN | apply Kd.R_drew)); exact HO_7.out)⟩; have n1_ : Aside0 (Below w.heap.size w wr) := ⟨by rw [← hq_]; exact (by repeat (first | (with_reducible first | exact HB.out | apply below_alloc | apply pw_below_drewN | apply below_drew1) | exact HB.out))⟩; clear HO_7 HB hq_; have HO_7 := n0_; have HB := n1_; clear n0_ n1_)); have p19 : 0 ≤ (x9_1 : Int) := of_decide_eq_true (by first | (with_reducible assumption) | assumption); have q19 : (x9_1 : Int) < ((x7_1.length : Int) : Int) := of_decide_eq_true (by first | (with_reducible assumption) | assumption); obtain ⟨go19, co19, eo19, gb19, gl19, cl19, HG19⟩ := Kd.R_form HO_7.out (by omega); (first | cases eo19 | (injection eo19 with ea_ en_ ec_; (first | subst ea_ | (injection ea_ with ea_; subst ea_)); subst ec_; clear en_)); have GB19 := Aside0.mk gb19; have GG19 := Aside0.mk HG19; clear gb19 gl19 HG19; obtain ⟨hx19_0, hf19_0⟩ := Kd.R_celln 0 HO_7.out (x9_1 : Int) p19 q19; replace p19 := eq_true p19; replace q19 := eq_true q19; obtain ⟨hy20_, hz20_⟩ := Kd.R_celln 0 HO_7.out (x9_1 : Int) (of_decide_eq_true (by first | (with_reducible assumption) | assumption)) (of_decide_eq_true (by first | (with_reducible assumption) | assumption)); have HP20 := Kd.R_putg HO_7.out (x9_1 : Int) t206) | ((with_reducible refine gate_store (t := 33) (p := 42) rfl ?_); refine store_event (t := 33) (p := 42) (v := ?vo_w21) (w1 := (wr.setCell ⟨go19, (x9_1 : Int).toNat, none⟩ (.int .u64 t206))) ?hg ?ho ?hn ?hr ?_; (case ho => rfl); (case hg => rfl); (case hn => rfl); (case hr => first | (go_simp; done) | (go_simp; rfl)); intro w21 hw; have hg : wr.grownBy w21 (some go19) := (by rw [hw]; exact HP20.2); have hp_ : Kd.R (Kd.int .u64) 33 w21 w.heap.size (fun k_ => (w.heap.size ≤ k_)) (.slice (some ⟨go19, 0, none⟩) x7_1.length co19) y208 := (by rw [hw, Ny208.out]; exact HP20.1); clear HP20; have n0_ := Aside0.mk (hp_); have n1_ := Aside0.mk ((by rw [hw]; exact below_set (HB.out) GB19.out : Below w.heap.size w w21)); clear HO_7; clear HB; have HO_7 := n0_; have HB := n1_; clear n0_ n1_; clear hg hw hp_))
                          go_roundg k1
                          case measure => have := HK1.out; omega
                          case rel => exact ⟨(y208), (t207), (wrap64 (x9_1 - 1)), (by first | rfl | (simp; done) | (simp [*]; done)), (by first | rfl | (simp; done) | (simp [*]; done)), H', ⟨by have := HK1.out; omega⟩, ⟨by (with_reducible repeat (first | apply Kd.R_alloc | apply Kd.R_drewN | apply Kd.R_drew)); exact HO_7.out⟩, ⟨by repeat (first | (with_reducible first | exact HB.out | apply below_alloc | apply pw_below_drewN | apply below_drew1) | exact HB.out)⟩⟩
                        · rw [if_neg c18] at H
                          exact absurd H (by simp)
                      · rw [if_neg c16] at H
                        exact absurd H (by simp)
                    · rw [if_neg c15] at H
                      exact absurd H (by simp)
                  · rw [if_neg c14] at H
                    have c14b0 : decide (0 ≤ x9_1) = false := decide_eq_false c14
                    clear c14
                    replace H := Option.bind_eq_some_iff.mp H
                    obtain ⟨⟨t209, t212⟩, A220, H⟩ := H
                    replace H : (some (t209, x8_1, t212)) = some (r1, r2, r3) := H
                    have A22 := Aside0.mk A220
                    clear A220
                    simp only [Option.some.injEq, Prod.mk.injEq] at H
                    obtain ⟨rfl, rfl, rfl⟩ := H
                    obtain ⟨Ao23, co23, eo23⟩ := Kd.R_slice HO_7.out
                    subst eo23
                    go_wp2_with (first | ((with_reducible refine gate_callee (f := 27) rfl ?_); refine goesL_ (some 45) rfl rfl Try.func27 (by kernel_rfl) rfl #[.slice Ao23 x7_1.length co23] rfl (by (try simp only [List.map_toArray, List.map_cons, List.map_nil]); first | done | rfl | (simp only [List.length_drop, List.length_take]; rfl) | (simp only [gt_iff_lt, Int.natCast_pos]; done) | (simp only [gt_iff_lt, Int.natCast_pos]; rfl)) ?_; (with_reducible refine (nat_cut.calls k1 (fun k_ => some k_ = (.slice Ao23 x7_1.length co23 : Value).ownBlock) _ _ x7_1 t209 t212 _ ?side1 A22.out).mono ?_); (case side1 => exact Kd.R_V (Kd.R_tight rfl (HO_7.out))); rintro e w24 ⟨v210, rfl, ho0, hb⟩; refine ⟨_, rfl, ?_⟩; have n0_ := Aside0.mk (Kd.R_below (by (with_reducible repeat (first | apply Kd.R_alloc | apply Kd.R_drewN | apply Kd.R_drew)); exact HO_7.out) hb); have n1_ := Aside0.mk (Kd.V_lower (Kd.V_mono (ok' := fun k_ => (w.heap.size ≤ k_)) ho0 (fun k_ hk_ => Or.elim hk_ (fun hs_ => ((HO_7.out).1 k_ hs_.symm)) (fun hn_ => (Nat.le_trans (below_size (by repeat (first | (with_reducible first | exact HB.out | apply below_alloc | apply pw_below_drewN | apply below_drew1) | exact HB.out))) hn_)))) (below_size (by repeat (first | (with_reducible first | exact HB.out | apply below_alloc | apply pw_below_drewN | apply below_drew1) | exact HB.out)))); have n2_ := Aside0.mk (below_step (by repeat (first | (with_reducible first | exact HB.out | apply below_alloc | apply pw_below_drewN | apply below_drew1) | exact HB.out)) hb); clear HO_7; clear HB; have HO_7 := n0_; have HO211 := n1_; have HB := n2_; clear n0_ n1_ n2_; (try clear hb); (try clear hb2); (try clear hk); (try clear hi); (try clear ho0)))
                    go_ret3
                    exact ⟨_, by first | rfl | (simp [errW_none, errW_some] <;> rfl) | (simp [*, errW_none, errW_some] <;> rfl), by (with_reducible repeat (first | apply Kd.V_alloc | apply Kd.V_drewN | apply Kd.V_drew)); exact HO211.out, by repeat (first | (with_reducible first | exact HB.out | apply below_alloc | apply pw_below_drewN | apply below_drew1) | exact HB.out)⟩
            · rw [if_neg c10] at H
              exact absurd H (by simp)
          · rw [if_neg c9] at H
            exact absurd H (by simp)
        · rw [if_neg c8] at H
          exact absurd H (by simp)
      · rw [if_neg c7] at H
        exact absurd H (by simp)

/-! ### nat_MulAdd: function 23 -/
def nat_MulAdd.l0 : Nat → List Int → Int → List Int → Int → List Int → Int → Int → Option (List Int × Int)
  | 0, _, _, _, _, _, _, _ => none
  | k + 1, x0, x1, x8, x9, x26, x27, x28 => if x28 < x27 then (if 0 ≤ x28 then (if x28 < (x26.length : Int) then ((bits_Mul64.f (rd x26 x28) x1).bind fun bt223 => ((bits_Add64.f bt223.2 x9 0).bind fun bt225 => (if x28 < (x8.length : Int) then (nat_MulAdd.l0 k x0 x1 (x8.set (x28 : Int).toNat bt225.1) (IntKind.u64.wrap (bt223.1 + bt225.2)) x26 x27 (wrap64 (x28 + 1))) else (none)))) else (none)) else (none)) else (if 0 ≤ (x0.length : Int) then (if (x0.length : Int) < (x8.length : Int) then ((nat_cut.f k (x8.set ((x0.length : Int) : Int).toNat x9)).bind fun bt229 => (some (bt229.1, bt229.2))) else (none)) else (none))
def nat_MulAdd.f (k : Nat) (l0 : List Int) (a1 : Int) (a2 : Int) : Option (List Int × Int) := (nat_big.f k l0).bind fun t213 => (if t213 = true then (some (([] : List Int), 2)) else ((nat_size.f k l0).bind fun t214 => (if 0 ≤ t214 then (if t214 ≤ (l0.length : Int) then ((some (l0.take (t214 : Int).toNat : List Int)).bind fun y215 => (if 0 ≤ (wrap64 ((y215.length : Int) + 1)) then (if (wrap64 ((y215.length : Int) + 1) : Int).toNat ≤ 35184372088832 then (nat_MulAdd.l0 k y215 a1 (List.replicate (wrap64 ((y215.length : Int) + 1) : Int).toNat 0) a2 y215 (y215.length : Int) 0) else (none)) else (none))) else (none)) else (none))))
theorem nat_MulAdd.mono_l : ∀ k, (∀ y0 y1 y2 y3 y4 y5 y6, LeO (nat_MulAdd.l0 k y0 y1 y2 y3 y4 y5 y6) (nat_MulAdd.l0 (k + 1) y0 y1 y2 y3 y4 y5 y6))
  | 0 => fun _ _ _ _ _ _ _ r h => by simp [nat_MulAdd.l0] at h
  | k + 1 => by
    have ih0 := nat_MulAdd.mono_l k
    · intro y0 y1 y2 y3 y4 y5 y6
      unfold nat_MulAdd.l0
      repeat' first
      | (with_reducible exact ih0 _ _ _ _ _ _ _)
      | (with_reducible exact nat_big.mono _ _)
      | (with_reducible exact nat_cut.mono _ _)
      | (with_reducible exact nat_size.mono _ _)
      | (with_reducible exact LeO.refl _)
      | (with_reducible exact LeO.none _)
      | (with_reducible refine LeO.ite ?_ ?_)
      | (with_reducible refine LeO.bind ?_ (fun _ => ?_))
      | exact ih0 _ _ _ _ _ _ _
      | exact nat_big.mono _ _
      | exact nat_cut.mono _ _
      | exact nat_size.mono _ _
      | exact LeO.none _
      | refine LeO.ite ?_ ?_
      | refine LeO.bind ?_ (fun _ => ?_)
theorem nat_MulAdd.mono : ∀ a0 a1 a2 k, LeO (nat_MulAdd.f k a0 a1 a2) (nat_MulAdd.f (k + 1) a0 a1 a2) := by
  intro a0 a1 a2 k
  have ih0 := nat_MulAdd.mono_l k
  unfold nat_MulAdd.f
  repeat' first
      | (with_reducible exact ih0 _ _ _ _ _ _ _)
      | (with_reducible exact nat_big.mono _ _)
      | (with_reducible exact nat_cut.mono _ _)
      | (with_reducible exact nat_size.mono _ _)
      | (with_reducible exact LeO.refl _)
      | (with_reducible exact LeO.none _)
      | (with_reducible refine LeO.ite ?_ ?_)
      | (with_reducible refine LeO.bind ?_ (fun _ => ?_))
      | exact ih0 _ _ _ _ _ _ _
      | exact nat_big.mono _ _
      | exact nat_cut.mono _ _
      | exact nat_size.mono _ _
      | exact LeO.none _
      | refine LeO.ite ?_ ?_
      | refine LeO.bind ?_ (fun _ => ?_)
set_option maxHeartbeats 8000000 in
set_option maxRecDepth 100000 in
theorem nat_MulAdd.calls (k : Nat) (A0 : Option Addr) (c0 : Nat) (l0 : List Int) (a1 : Int) (a2 : Int) (r1 : List Int) (r2 : Int) (w : World) (hr0 : Kd.C (Kd.int .u64) w A0 l0.length l0) (hc0 : l0.length ≤ c0) (h : nat_MulAdd.f k l0 a1 a2 = some (r1, r2)) :
    Calls Try.prog 23 #[.slice A0 l0.length c0, .int .u64 a1, .int .u64 a2] w fun e w' => ∃ v0_ : Value, e = .returned (.tuple #[v0_, .int .i64 r2]) ∧ Kd.V (Kd.int .u64) 33 w' w.heap.size (fun k_ => (w.heap.size ≤ k_)) v0_ r1 ∧ Below w.heap.size w w' := by
  have HR0 := Aside0.mk hr0
  have HC0 := Aside0.mk hc0
  clear hr0 hc0
  have HB := Aside0.mk (Below.refl w.heap.size w)
  have H : ((nat_big.f k l0).bind fun t213 => (if t213 = true then (some (([] : List Int), 2)) else ((nat_size.f k l0).bind fun t214 => (if 0 ≤ t214 then (if t214 ≤ (l0.length : Int) then ((some (l0.take (t214 : Int).toNat : List Int)).bind fun y215 => (if 0 ≤ (wrap64 ((y215.length : Int) + 1)) then (if (wrap64 ((y215.length : Int) + 1) : Int).toNat ≤ 35184372088832 then (nat_MulAdd.l0 k y215 a1 (List.replicate (wrap64 ((y215.length : Int) + 1) : Int).toNat 0) a2 y215 (y215.length : Int) 0) else (none)) else (none))) else (none)) else (none))))) = some (r1, r2) := h
  clear h
  replace H := Option.bind_eq_some_iff.mp H
  obtain ⟨t213, A40, H⟩ := H
  replace H : (if t213 = true then (some (([] : List Int), 2)) else ((nat_size.f k l0).bind fun t214 => (if 0 ≤ t214 then (if t214 ≤ (l0.length : Int) then ((some (l0.take (t214 : Int).toNat : List Int)).bind fun y215 => (if 0 ≤ (wrap64 ((y215.length : Int) + 1)) then (if (wrap64 ((y215.length : Int) + 1) : Int).toNat ≤ 35184372088832 then (nat_MulAdd.l0 k y215 a1 (List.replicate (wrap64 ((y215.length : Int) + 1) : Int).toNat 0) a2 y215 (y215.length : Int) 0) else (none)) else (none))) else (none)) else (none)))) = some (r1, r2) := H
  have A4 := Aside0.mk A40
  clear A40
  by_cases c5 : t213 = true
  · subst c5
    have H1 : (some (([] : List Int), 2)) = some (r1, r2) := by rw [if_pos rfl] at H; exact H
    clear H
    have H := H1
    clear H1
    simp only [Option.some.injEq, Prod.mk.injEq] at H
    obtain ⟨rfl, rfl⟩ := H
    go_enter Try.func23, Try.ntmps23
    go_wp2_with (first | ((with_reducible refine gate_callee (f := 24) rfl ?_); refine goesL_ (some 16) rfl rfl Try.func24 (by kernel_rfl) rfl #[.slice A0 l0.length c0] rfl (by (try simp only [List.map_toArray, List.map_cons, List.map_nil]); first | done | rfl | (simp only [List.length_drop, List.length_take]; rfl) | (simp only [gt_iff_lt, Int.natCast_pos]; done) | (simp only [gt_iff_lt, Int.natCast_pos]; rfl)) ?_; (with_reducible refine (nat_big.calls k _ _ l0 true _ ?side1 ?side2 A4.out).mono ?_); (case side1 => repeat (first | exact HR0.out | (with_reducible refine Kd.C_alloc ?_ _) | (with_reducible refine Kd.C_drewN ?_ _) | (with_reducible refine Kd.C_drew ?_))); (case side2 => exact HC0.out); rintro e w' ⟨rfl, ⟨nd, rfl⟩⟩; refine ⟨_, rfl, ?_⟩))
    go_ret2
    exact ⟨.slice none 0 0, by first | rfl | (simp [errW_none, errW_some] <;> rfl) | (simp [*, errW_none, errW_some] <;> rfl), Kd.V_nil _ _ _ _ _, by repeat (first | (with_reducible first | exact HB.out | apply below_alloc | apply pw_below_drewN | apply below_drew1) | exact HB.out)⟩
  · replace c5 := Bool.eq_false_iff.mpr c5
    subst c5
    have H1 : ((nat_size.f k l0).bind fun t214 => (if 0 ≤ t214 then (if t214 ≤ (l0.length : Int) then ((some (l0.take (t214 : Int).toNat : List Int)).bind fun y215 => (if 0 ≤ (wrap64 ((y215.length : Int) + 1)) then (if (wrap64 ((y215.length : Int) + 1) : Int).toNat ≤ 35184372088832 then (nat_MulAdd.l0 k y215 a1 (List.replicate (wrap64 ((y215.length : Int) + 1) : Int).toNat 0) a2 y215 (y215.length : Int) 0) else (none)) else (none))) else (none)) else (none))) = some (r1, r2) := by rw [if_neg (show ¬ (false = true) by decide)] at H; exact H
    clear H
    have H := H1
    clear H1
    replace H := Option.bind_eq_some_iff.mp H
    obtain ⟨t214, A60, H⟩ := H
    replace H : (if 0 ≤ t214 then (if t214 ≤ (l0.length : Int) then ((some (l0.take (t214 : Int).toNat : List Int)).bind fun y215 => (if 0 ≤ (wrap64 ((y215.length : Int) + 1)) then (if (wrap64 ((y215.length : Int) + 1) : Int).toNat ≤ 35184372088832 then (nat_MulAdd.l0 k y215 a1 (List.replicate (wrap64 ((y215.length : Int) + 1) : Int).toNat 0) a2 y215 (y215.length : Int) 0) else (none)) else (none))) else (none)) else (none)) = some (r1, r2) := H
    have A6 := Aside0.mk A60
    clear A60
    by_cases c7 : 0 ≤ t214
    · rw [if_pos c7] at H
      have c7b0 := eq_true c7
      have c7b1 : decide (0 ≤ t214) = true := decide_eq_true c7
      clear c7
      by_cases c8 : t214 ≤ (l0.length : Int)
      · rw [if_pos c8] at H
        have c8b0 := eq_true c8
        have c8b1 : decide (t214 ≤ (l0.length : Int)) = true := decide_eq_true c8
        clear c8
        obtain ⟨y215, hy215⟩ : ∃ y_ : List Int, y_ = (l0.take (t214 : Int).toNat) := ⟨_, rfl⟩
        replace H : (if 0 ≤ (wrap64 ((y215.length : Int) + 1)) then (if (wrap64 ((y215.length : Int) + 1) : Int).toNat ≤ 35184372088832 then (nat_MulAdd.l0 k y215 a1 (List.replicate (wrap64 ((y215.length : Int) + 1) : Int).toNat 0) a2 y215 (y215.length : Int) 0) else (none)) else (none)) = some (r1, r2) := by first | (rw [hy215]; with_reducible exact H) | (have H2_ := (Option.bind_some _ _).symm.trans H; rw [hy215]; with_reducible exact H2_) | (have H2_ := (Option.bind_some _ _).symm.trans H; with_reducible exact H2_) | with_reducible exact H | (rw [hy215]; exact H) | exact H
        have Ny215 := Aside0.mk hy215
        clear hy215
        obtain ⟨ji9, hji9⟩ : ∃ j_ : Int, (wrap64 ((y215.length : Int) + 1)) = j_ := ⟨_, rfl⟩
        replace H : (if 0 ≤ (ji9) then (if (ji9 : Int).toNat ≤ 35184372088832 then (nat_MulAdd.l0 k y215 a1 (List.replicate (ji9 : Int).toNat 0) a2 y215 (y215.length : Int) 0) else (none)) else (none)) = some (r1, r2) := by first | (rw [hji9] at H; exact H) | (simp only [hji9] at H ⊢; exact H)
        (try rw [hji9] at A4)
        (try rw [hji9] at A6)
        have hji9w : (IntKind.i64.wrap ((y215.length : Int) + 1)) = ji9 := (i64_w _).trans hji9
        by_cases c10 : 0 ≤ (ji9)
        · rw [if_pos c10] at H
          have c10b0 := eq_true c10
          have c10b1 : decide (0 ≤ (ji9)) = true := decide_eq_true c10
          clear c10
          by_cases c11 : (ji9 : Int).toNat ≤ 35184372088832
          · rw [if_pos c11] at H
            have c11b0 := eq_true c11
            have c11b1 : decide ((ji9 : Int).toNat ≤ 35184372088832) = true := decide_eq_true c11
            clear c11
            obtain ⟨y219, hy219⟩ : ∃ y_ : List Int, y_ = (List.replicate (ji9 : Int).toNat 0) := ⟨_, rfl⟩
            replace H : (nat_MulAdd.l0 k y215 a1 y219 a2 y215 (y215.length : Int) 0) = some (r1, r2) := by first | (rw [hy219]; with_reducible exact H) | (have H2_ := (Option.bind_some _ _).symm.trans H; rw [hy219]; with_reducible exact H2_) | (have H2_ := (Option.bind_some _ _).symm.trans H; with_reducible exact H2_) | with_reducible exact H | (rw [hy219]; exact H) | exact H
            have Ny219 := Aside0.mk hy219
            clear hy219
            have H' := Aside0.mk H
            clear H
            go_enter Try.func23, Try.ntmps23
            go_wp2_with (first | ((with_reducible refine gate_callee (f := 24) rfl ?_); refine goesL_ (some 16) rfl rfl Try.func24 (by kernel_rfl) rfl #[.slice A0 l0.length c0] rfl (by (try simp only [List.map_toArray, List.map_cons, List.map_nil]); first | done | rfl | (simp only [List.length_drop, List.length_take]; rfl) | (simp only [gt_iff_lt, Int.natCast_pos]; done) | (simp only [gt_iff_lt, Int.natCast_pos]; rfl)) ?_; (with_reducible refine (nat_big.calls k _ _ l0 false _ ?side1 ?side2 A4.out).mono ?_); (case side1 => repeat (first | exact HR0.out | (with_reducible refine Kd.C_alloc ?_ _) | (with_reducible refine Kd.C_drewN ?_ _) | (with_reducible refine Kd.C_drew ?_))); (case side2 => exact HC0.out); rintro e w' ⟨rfl, ⟨nd, rfl⟩⟩; refine ⟨_, rfl, ?_⟩) | ((with_reducible refine gate_callee (f := 25) rfl ?_); refine goesL_ (some 19) rfl rfl Try.func25 (by kernel_rfl) rfl #[.slice A0 l0.length c0] rfl (by (try simp only [List.map_toArray, List.map_cons, List.map_nil]); first | done | rfl | (simp only [List.length_drop, List.length_take]; rfl) | (simp only [gt_iff_lt, Int.natCast_pos]; done) | (simp only [gt_iff_lt, Int.natCast_pos]; rfl)) ?_; (with_reducible refine (nat_size.calls k _ _ l0 t214 _ ?side1 ?side2 A6.out).mono ?_); (case side1 => repeat (first | exact HR0.out | (with_reducible refine Kd.C_alloc ?_ _) | (with_reducible refine Kd.C_drewN ?_ _) | (with_reducible refine Kd.C_drew ?_))); (case side2 => exact HC0.out); rintro e w' ⟨rfl, ⟨nd, rfl⟩⟩; refine ⟨_, rfl, ?_⟩; have q12 : (t214 : Int) ≤ ((l0.length : Int) : Int) := of_decide_eq_true (by first | (with_reducible assumption) | assumption); obtain ⟨i012, hi012, _, hsz12, _⟩ := info_parts info33; have hroom12 : l0.length ≤ c0 := HC0.out; have hC12 : Kd.C (Kd.int .u64) _ A0 l0.length l0 := HR0.out; have hcut12 := cut_to (P := Try.prog) 22 33 .i64 Try.underlying22 hi012 A0 l0.length c0 t214 (of_decide_eq_true (by first | (with_reducible assumption) | assumption)) q12 hroom12; have hr12 := Kd.C_take (m := (t214 : Int).toNat) hC12 (by omega); have hy12 : y215.length = (t214 : Int).toNat := (by rw [Ny215.out, List.length_take]; omega); rw [← Ny215.out] at hr12; rw [← hy12] at hcut12; have HR218 := Aside0.mk hr12; have HC218 := Aside0.mk (show y215.length ≤ c0 from by omega); clear hr12 hC12 hroom12 hi012 hsz12; have KY12 := Aside0.mk hy12; clear hy12; replace q12 := eq_true q12) | ((with_reducible refine gate_dst (N := 24) rfl ?_); refine Kd.R_make (Kd.int .u64) _ 33 rfl (N := 24) rfl 22 _ _ rfl ji9 rfl rfl Try.underlying22 (.int .u64 0) 8 info33 rfl (by decide) (by omega) 0 (ok := fun _ => True) (okp := fun _ => True) rfl (fun _ hk => hk) trivial (of_decide_eq_true (by first | (with_reducible assumption) | assumption)) (Nat.le_trans (Nat.mul_le_mul_right _ (of_decide_eq_true (by first | (with_reducible assumption) | assumption) : ji9.toNat ≤ 35184372088832)) (by omega)) (Below.refl _ _) (Nat.le_refl _) ?_; intro v220 w13 ho14 hb hg_ hnew_; clear hg_ hnew_; (first | rw [← Ny219.out] at ho14 | (simp only [Int.reduceToNat] at ho14; rw [← Ny219.out] at ho14)); have n0_ := Aside0.mk (Kd.R_lower (Kd.R_newM (M := fun k_ => (w.heap.size ≤ k_)) ho14 (below_size (by repeat (first | (with_reducible first | exact HB.out | apply below_alloc | apply pw_below_drewN | apply below_drew1) | exact HB.out))) (fun k_ h_ => h_)) (below_size (by repeat (first | (with_reducible first | exact HB.out | apply below_alloc | apply pw_below_drewN | apply below_drew1) | exact HB.out)))); have n1_ := Aside0.mk (below_step (by repeat (first | (with_reducible first | exact HB.out | apply below_alloc | apply pw_below_drewN | apply below_drew1) | exact HB.out)) hb); clear HB; have HO221 := n0_; have HB := n1_; clear n0_ n1_; clear hb ho14))
            go_loopg [9, 28] k (fun kq v9 v28 w' => ∃ (x8_1 : List Int) (x9_1 : Int) (x28_1 : Int), v9 = .int .u64 x9_1 ∧ v28 = .int .i64 x28_1 ∧ Aside0 (nat_MulAdd.l0 kq y215 a1 x8_1 x9_1 y215 (y215.length : Int) x28_1 = some (r1, r2)) ∧ Aside0 (kq ≤ k) ∧ Aside0 (Kd.R (Kd.int .u64) 33 w' w.heap.size (fun k_ => (w.heap.size ≤ k_)) v220 x8_1) ∧ Aside0 (Below w.heap.size w w'))
            case atStart => exact ⟨(y219), (a2), (0), (by first | rfl | (simp; done) | (simp [*]; done)), (by first | rfl | (simp; done) | (simp [*]; done)), H', ⟨Nat.le_refl _⟩, ⟨by (with_reducible repeat (first | apply Kd.R_alloc | apply Kd.R_drewN | apply Kd.R_drew)); exact Kd.R_mono HO221.out (fun _ hk => hk.1)⟩, ⟨by repeat (first | (with_reducible first | exact HB.out | apply below_alloc | apply pw_below_drewN | apply below_drew1) | exact HB.out)⟩⟩
            case round =>
              clear H'
              try clear c1
              try clear q1
              try clear c2
              try clear p2
              try clear c5
              try clear p6
              try clear c7
              try clear c7b0
              try clear c7b1
              try clear c8
              try clear c8b0
              try clear c8b1
              try clear c10
              try clear c10b0
              try clear c10b1
              try clear c11
              try clear c11b0
              try clear c11b1
              try clear q12
              try clear q12
              obtain ⟨x8_1, x9_1, x28_1, rfl, rfl, HA, HK1, HO_8, HB⟩ := hrel
              cases gk with
              | zero => exact absurd HA.out (by simp [nat_MulAdd.l0])
              | succ k1 =>
                have H := HA.out
                clear HA
                simp only [nat_MulAdd.l0] at H
                by_cases c15 : x28_1 < (y215.length : Int)
                · rw [if_pos c15] at H
                  have c15b0 : decide (x28_1 < (y215.length : Int)) = true := decide_eq_true c15
                  clear c15
                  by_cases c16 : 0 ≤ x28_1
                  · rw [if_pos c16] at H
                    have c16b0 : decide (0 ≤ x28_1) = true := decide_eq_true c16
                    clear c16
                    by_cases c17 : x28_1 < (y215.length : Int)
                    · rw [if_pos c17] at H
                      have c17b0 : decide (x28_1 < (y215.length : Int)) = true := decide_eq_true c17
                      clear c17
                      replace H := Option.bind_eq_some_iff.mp H
                      obtain ⟨⟨t223, t224⟩, A180, H⟩ := H
                      replace H : ((bits_Add64.f t224 x9_1 0).bind fun bt225 => (if x28_1 < (x8_1.length : Int) then (nat_MulAdd.l0 k1 y215 a1 (x8_1.set (x28_1 : Int).toNat bt225.1) (IntKind.u64.wrap (t223 + bt225.2)) y215 (y215.length : Int) (wrap64 (x28_1 + 1))) else (none))) = some (r1, r2) := H
                      have A18 := Aside0.mk A180
                      clear A180
                      replace H := Option.bind_eq_some_iff.mp H
                      obtain ⟨⟨t225, t226⟩, A190, H⟩ := H
                      replace H : (if x28_1 < (x8_1.length : Int) then (nat_MulAdd.l0 k1 y215 a1 (x8_1.set (x28_1 : Int).toNat t225) (IntKind.u64.wrap (t223 + t226)) y215 (y215.length : Int) (wrap64 (x28_1 + 1))) else (none)) = some (r1, r2) := H
                      have A19 := Aside0.mk A190
                      clear A190
                      by_cases c20 : x28_1 < (x8_1.length : Int)
                      · rw [if_pos c20] at H
                        have c20b0 : decide (x28_1 < (x8_1.length : Int)) = true := decide_eq_true c20
                        clear c20
                        obtain ⟨y227, hy227⟩ : ∃ y_ : List Int, y_ = (x8_1.set (x28_1 : Int).toNat t225) := ⟨_, rfl⟩
                        replace H : (nat_MulAdd.l0 k1 y215 a1 y227 (IntKind.u64.wrap (t223 + t226)) y215 (y215.length : Int) (wrap64 (x28_1 + 1))) = some (r1, r2) := by first | (rw [hy227]; with_reducible exact H) | (have H2_ := (Option.bind_some _ _).symm.trans H; rw [hy227]; with_reducible exact H2_) | (have H2_ := (Option.bind_some _ _).symm.trans H; with_reducible exact H2_) | with_reducible exact H | (rw [hy227]; exact H) | exact H
                        have Ny227 := Aside0.mk hy227
                        clear hy227
                        have H' := Aside0.mk H
                        clear H
                        have p222 : 0 ≤ (x28_1 : Int) := of_decide_eq_true (by first | (with_reducible assumption) | assumption)
                        have q222 : x28_1 < (y215.length : Int) := of_decide_eq_true (by first | (with_reducible assumption) | assumption)
                        obtain ⟨ad222, e222, hx222_0⟩ := Kd.at_int HR218.out x28_1 p222 q222
                        cases e222
                        replace hx222_0 := (HB.out.cell (World.block_lt_of_cell? w _ hx222_0)).trans hx222_0
                        replace p222 := eq_true p222
                        replace q222 := eq_true q222
                        go_wp2_with (first | ((with_reducible refine gate_callee (f := 28) rfl ?_); refine goesL_ (some 36) rfl rfl Try.func28 (by kernel_rfl) rfl #[.int .u64 (rd y215 x28_1), .int .u64 a1] rfl (by (try simp only [List.map_toArray, List.map_cons, List.map_nil]); first | done | rfl | (simp only [List.length_drop, List.length_take]; rfl) | (simp only [gt_iff_lt, Int.natCast_pos]; done) | (simp only [gt_iff_lt, Int.natCast_pos]; rfl)) ?_; (with_reducible refine (bits_Mul64.calls (rd y215 x28_1) a1 t223 t224 _ A18.out).mono ?_); rintro e w' ⟨rfl, ⟨nd, rfl⟩⟩; refine ⟨_, rfl, ?_⟩; (try (rw [drewN_self wr]; generalize hq_ : World.drewN wr _ = wr; have n0_ : Aside0 (Kd.R (Kd.int .u64) 33 wr w.heap.size (fun k_ => (w.heap.size ≤ k_)) v220 x8_1) := ⟨by rw [← hq_]; exact (by (with_reducible repeat (first | apply Kd.R_alloc | apply Kd.R_drewN | apply Kd.R_drew)); exact HO_8.out)⟩; have n1_ : Aside0 (Below w.heap.size w wr) := ⟨by rw [← hq_]; exact (by repeat (first | (with_reducible first | exact HB.out | apply below_alloc | apply pw_below_drewN | apply below_drew1) | exact HB.out))⟩; clear HO_8 HB hq_; have HO_8 := n0_; have HB := n1_; clear n0_ n1_))) | ((with_reducible refine gate_callee (f := 26) rfl ?_); refine goesX_ (some 44) rfl rfl Try.func26 (by kernel_rfl) rfl #[.int .u64 t224, .int .u64 x9_1, .int .u64 0] rfl (by (try simp only [List.map_toArray, List.map_cons, List.map_nil]); first | done | rfl | (simp only [List.length_drop, List.length_take]; rfl) | (simp only [gt_iff_lt, Int.natCast_pos]; done) | (simp only [gt_iff_lt, Int.natCast_pos]; rfl)) ?_; (with_reducible refine (bits_Add64.calls t224 x9_1 0 t225 t226 _ A19.out).mono ?_); rintro e w' ⟨rfl, rfl⟩; refine ⟨_, rfl, ?_⟩; have p21 : 0 ≤ (x28_1 : Int) := of_decide_eq_true (by first | (with_reducible assumption) | assumption); have q21 : (x28_1 : Int) < ((x8_1.length : Int) : Int) := of_decide_eq_true (by first | (with_reducible assumption) | assumption); obtain ⟨go21, co21, eo21, gb21, gl21, cl21, HG21⟩ := Kd.R_form HO_8.out (by omega); (first | cases eo21 | (injection eo21 with ea_ en_ ec_; (first | subst ea_ | (injection ea_ with ea_; subst ea_)); subst ec_; clear en_)); have GB21 := Aside0.mk gb21; have GG21 := Aside0.mk HG21; clear gb21 gl21 HG21; obtain ⟨hx21_0, hf21_0⟩ := Kd.R_celln 0 HO_8.out (x28_1 : Int) p21 q21; replace p21 := eq_true p21; replace q21 := eq_true q21; obtain ⟨hy22_, hz22_⟩ := Kd.R_celln 0 HO_8.out (x28_1 : Int) (of_decide_eq_true (by first | (with_reducible assumption) | assumption)) (of_decide_eq_true (by first | (with_reducible assumption) | assumption)); have HP22 := Kd.R_putg HO_8.out (x28_1 : Int) t225) | ((with_reducible refine gate_store (t := 33) (p := 47) rfl ?_); refine store_event (t := 33) (p := 47) (v := ?vo_w23) (w1 := (wr.setCell ⟨go21, (x28_1 : Int).toNat, none⟩ (.int .u64 t225))) ?hg ?ho ?hn ?hr ?_; (case ho => rfl); (case hg => rfl); (case hn => rfl); (case hr => first | (go_simp; done) | (go_simp; rfl)); intro w23 hw; have hg : wr.grownBy w23 (some go21) := (by rw [hw]; exact HP22.2); have hp_ : Kd.R (Kd.int .u64) 33 w23 w.heap.size (fun k_ => (w.heap.size ≤ k_)) (.slice (some ⟨go21, 0, none⟩) x8_1.length co21) y227 := (by rw [hw, Ny227.out]; exact HP22.1); clear HP22; have n0_ := Aside0.mk (hp_); have n1_ := Aside0.mk ((by rw [hw]; exact below_set (HB.out) GB21.out : Below w.heap.size w w23)); clear HO_8; clear HB; have HO_8 := n0_; have HB := n1_; clear n0_ n1_; clear hg hw hp_))
                        go_roundg k1
                        case measure => have := HK1.out; omega
                        case rel => exact ⟨(y227), (IntKind.u64.wrap (t223 + t226)), (wrap64 (x28_1 + 1)), (by first | rfl | (simp; done) | (simp [*]; done)), (by first | rfl | (simp; done) | (simp [*]; done)), H', ⟨by have := HK1.out; omega⟩, ⟨by (with_reducible repeat (first | apply Kd.R_alloc | apply Kd.R_drewN | apply Kd.R_drew)); exact HO_8.out⟩, ⟨by repeat (first | (with_reducible first | exact HB.out | apply below_alloc | apply pw_below_drewN | apply below_drew1) | exact HB.out)⟩⟩
                      · rw [if_neg c20] at H
                        exact absurd H (by simp)
                    · rw [if_neg c17] at H
                      exact absurd H (by simp)
                  · rw [if_neg c16] at H
                    exact absurd H (by simp)
                · rw [if_neg c15] at H
                  have c15b0 : decide (x28_1 < (y215.length : Int)) = false := decide_eq_false c15
                  clear c15
                  by_cases c24 : 0 ≤ (y215.length : Int)
                  · rw [if_pos c24] at H
                    have c24b0 : decide (0 ≤ (y215.length : Int)) = true := decide_eq_true c24
                    have c24b1 : decide (0 ≤ y215.length) = true := decide_eq_true (by omega)
                    clear c24
                    by_cases c25 : (y215.length : Int) < (x8_1.length : Int)
                    · rw [if_pos c25] at H
                      have c25b0 : decide ((y215.length : Int) < (x8_1.length : Int)) = true := decide_eq_true c25
                      have c25b1 : decide (y215.length < x8_1.length) = true := decide_eq_true (Int.ofNat_lt.mp c25)
                      clear c25
                      obtain ⟨y228, hy228⟩ : ∃ y_ : List Int, y_ = (x8_1.set ((y215.length : Int) : Int).toNat x9_1) := ⟨_, rfl⟩
                      replace H : ((nat_cut.f k1 y228).bind fun bt229 => (some (bt229.1, bt229.2))) = some (r1, r2) := by first | (rw [hy228]; with_reducible exact H) | (have H2_ := (Option.bind_some _ _).symm.trans H; rw [hy228]; with_reducible exact H2_) | (have H2_ := (Option.bind_some _ _).symm.trans H; with_reducible exact H2_) | with_reducible exact H | (rw [hy228]; exact H) | exact H
                      have Ny228 := Aside0.mk hy228
                      clear hy228
                      replace H := Option.bind_eq_some_iff.mp H
                      obtain ⟨⟨t229, t232⟩, A270, H⟩ := H
                      replace H : (some (t229, t232)) = some (r1, r2) := H
                      have A27 := Aside0.mk A270
                      clear A270
                      simp only [Option.some.injEq, Prod.mk.injEq] at H
                      obtain ⟨rfl, rfl⟩ := H
                      have p26 : 0 ≤ ((y215.length : Int) : Int) := of_decide_eq_true (by first | (with_reducible assumption) | assumption)
                      have q26 : ((y215.length : Int) : Int) < ((x8_1.length : Int) : Int) := of_decide_eq_true (by first | (with_reducible assumption) | assumption)
                      obtain ⟨go26, co26, eo26, gb26, gl26, cl26, HG26⟩ := Kd.R_form HO_8.out (by omega)
                      (first | cases eo26 | (injection eo26 with ea_ en_ ec_; (first | subst ea_ | (injection ea_ with ea_; subst ea_)); subst ec_; clear en_))
                      have GB26 := Aside0.mk gb26
                      have GG26 := Aside0.mk HG26
                      clear gb26 gl26 HG26
                      obtain ⟨hx26_0, hf26_0⟩ := Kd.R_celln 0 HO_8.out ((y215.length : Int) : Int) p26 q26
                      (try simp only [Int.toNat_natCast] at hx26_0 hf26_0)
                      replace p26 := eq_true p26
                      replace q26 := eq_true q26
                      have HP28 := Kd.R_putg HO_8.out ((y215.length : Int) : Int) x9_1
                      go_wp2_with (first | ((with_reducible refine gate_store (t := 33) (p := 56) rfl ?_); refine store_event (t := 33) (p := 56) (v := ?vo_w29) (w1 := (wr.setCell ⟨go26, ((y215.length : Int) : Int).toNat, none⟩ (.int .u64 x9_1))) ?hg ?ho ?hn ?hr ?_; (case ho => rfl); (case hg => rfl); (case hn => rfl); (case hr => first | (go_simp; done) | (go_simp; rfl)); intro w29 hw; have hg : wr.grownBy w29 (some go26) := (by rw [hw]; exact HP28.2); have hp_ : Kd.R (Kd.int .u64) 33 w29 w.heap.size (fun k_ => (w.heap.size ≤ k_)) (.slice (some ⟨go26, 0, none⟩) x8_1.length co26) y228 := (by rw [hw, Ny228.out]; exact HP28.1); clear HP28; have n0_ := Aside0.mk (hp_); have n1_ := Aside0.mk ((by rw [hw]; exact below_set (HB.out) GB26.out : Below w.heap.size w w29)); clear HO_8; clear HB; have HO_8 := n0_; have HB := n1_; clear n0_ n1_; clear hg hw hp_) | ((with_reducible refine gate_callee (f := 27) rfl ?_); refine goesL_ (some 58) rfl rfl Try.func27 (by kernel_rfl) rfl #[.slice (some ⟨go26, 0, none⟩) y228.length co26] rfl (by (try simp only [List.map_toArray, List.map_cons, List.map_nil]); first | done | (rw [show y228.length = x8_1.length from (Kd.R_reads' HO_8.out).1.symm] <;> rfl) | rfl | (simp only [List.length_drop, List.length_take]; rfl) | (simp only [gt_iff_lt, Int.natCast_pos]; done) | (simp only [gt_iff_lt, Int.natCast_pos]; rfl)) ?_; (with_reducible refine (nat_cut.calls k1 (fun k_ => some k_ = (.slice (some ⟨go26, 0, none⟩) x8_1.length co26 : Value).ownBlock) _ _ y228 t229 t232 _ ?side1 A27.out).mono ?_); (case side1 => rw [show y228.length = x8_1.length from (Kd.R_reads' HO_8.out).1.symm]; exact Kd.R_V (Kd.R_tight rfl (HO_8.out))); rintro e w30 ⟨v230, rfl, ho0, hb⟩; refine ⟨_, rfl, ?_⟩; have n0_ := Aside0.mk (Kd.R_below (by (with_reducible repeat (first | apply Kd.R_alloc | apply Kd.R_drewN | apply Kd.R_drew)); exact HO_8.out) hb); have n1_ := Aside0.mk (Kd.V_lower (Kd.V_mono (ok' := fun k_ => (w.heap.size ≤ k_)) ho0 (fun k_ hk_ => Or.elim hk_ (fun hs_ => ((HO_8.out).1 k_ hs_.symm)) (fun hn_ => (Nat.le_trans (below_size (by repeat (first | (with_reducible first | exact HB.out | apply below_alloc | apply pw_below_drewN | apply below_drew1) | exact HB.out))) hn_)))) (below_size (by repeat (first | (with_reducible first | exact HB.out | apply below_alloc | apply pw_below_drewN | apply below_drew1) | exact HB.out)))); have n2_ := Aside0.mk (below_step (by repeat (first | (with_reducible first | exact HB.out | apply below_alloc | apply pw_below_drewN | apply below_drew1) | exact HB.out)) hb); clear HO_8; clear HB; have HO_8 := n0_; have HO231 := n1_; have HB := n2_; clear n0_ n1_ n2_; (try clear hb); (try clear hb2); (try clear hk); (try clear hi); (try clear ho0)))
                      go_ret2
                      exact ⟨_, by first | rfl | (simp [errW_none, errW_some] <;> rfl) | (simp only [← hji9]; first | rfl | (simp [errW_none, errW_some] <;> rfl)) | (simp [*, errW_none, errW_some] <;> rfl), by (with_reducible repeat (first | apply Kd.V_alloc | apply Kd.V_drewN | apply Kd.V_drew)); exact HO231.out, by repeat (first | (with_reducible first | exact HB.out | apply below_alloc | apply pw_below_drewN | apply below_drew1) | exact HB.out)⟩
                    · rw [if_neg c25] at H
                      exact absurd H (by simp)
                  · rw [if_neg c24] at H
                    exact absurd H (by simp)
          · rw [if_neg c11] at H
            exact absurd H (by simp)
        · rw [if_neg c10] at H
          exact absurd H (by simp)
      · rw [if_neg c8] at H
        exact absurd H (by simp)
    · rw [if_neg c7] at H
      exact absurd H (by simp)

end Go.Proofs.Ytnicfpilpafddaa.PR
