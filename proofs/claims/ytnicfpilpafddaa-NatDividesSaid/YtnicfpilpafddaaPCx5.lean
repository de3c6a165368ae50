-- printed by a program
import Derived.Test.YtnicfpilpafddaaPCx0
import Derived.Test.YtnicfpilpafddaaPCx1
import Derived.Test.YtnicfpilpafddaaPCx2
import Derived.Test.YtnicfpilpafddaaPCx3
import Derived.Test.YtnicfpilpafddaaPCx4
namespace Go.Proofs.Ytnicfpilpafddaa.PC
open Go.Proofs.YtnicfpilpafddaaX
open Go.RowKit Go.Proofs.YtnicfpilpafddaaW.PrintWords Go.Proofs.YtnicfpilpafddaaW.PrintLast Go.Proofs.YtnicfpilpafddaaW.PrintMore
attribute [local go_sem] max2_int min2_int max_two min_two max_three min_three max_four min_four   -- for this text's walks alone
set_option linter.unusedVariables false
set_option linter.unusedSimpArgs false

/-! ### nat_MulAdd: function 23 -/
def nat_MulAdd.l0 : Nat → List Int → Int → List Int → Int → List Int → Int → Int → Option (List Int × Int)
  | 0, _, _, _, _, _, _, _ => none
  | k + 1, x0, x1, x8, x9, x26, x27, x28 => if x28 < x27 then (if 0 ≤ x28 then (if x28 < (x26.length : Int) then ((bits_Mul64.f (rd x26 x28) x1).bind fun bt229 => ((bits_Add64.f bt229.2 x9 0).bind fun bt231 => (if x28 < (x8.length : Int) then (nat_MulAdd.l0 k x0 x1 (x8.set (x28 : Int).toNat bt231.1) (IntKind.u64.wrap (bt229.1 + bt231.2)) x26 x27 (wrap64 (x28 + 1))) else (none)))) else (none)) else (none)) else (if 0 ≤ (x0.length : Int) then (if (x0.length : Int) < (x8.length : Int) then ((nat_cut.f k (x8.set ((x0.length : Int) : Int).toNat x9)).bind fun bt235 => (some (bt235.1, bt235.2))) else (none)) else (none))
def nat_MulAdd.f (k : Nat) (l0 : List Int) (a1 : Int) (a2 : Int) : Option (List Int × Int) := (nat_big.f k l0).bind fun t219 => (if t219 = true then (some (([] : List Int), 2)) else ((nat_size.f k l0).bind fun t220 => (if 0 ≤ t220 then (if t220 ≤ (l0.length : Int) then ((some (l0.take (t220 : Int).toNat : List Int)).bind fun y221 => (if 0 ≤ (wrap64 ((y221.length : Int) + 1)) then (if (wrap64 ((y221.length : Int) + 1) : Int).toNat ≤ 35184372088832 then (nat_MulAdd.l0 k y221 a1 (List.replicate (wrap64 ((y221.length : Int) + 1) : Int).toNat 0) a2 y221 (y221.length : Int) 0) else (none)) else (none))) else (none)) else (none))))
theorem nat_MulAdd.mono_l : ∀ k, (∀ y0 y1 y2 y3 y4 y5 y6, LeO (nat_MulAdd.l0 k y0 y1 y2 y3 y4 y5 y6) (nat_MulAdd.l0 (k + 1) y0 y1 y2 y3 y4 y5 y6))
  | 0 => fun _ _ _ _ _ _ _ r h => by simp [nat_MulAdd.l0] at h
  | k + 1 => by
    have ih0 := nat_MulAdd.mono_l k
    · intro y0 y1 y2 y3 y4 y5 y6
      unfold nat_MulAdd.l0
      repeat' first
      | (with_reducible exact ih0 _ _ _ _ _ _ _)
      | (with_reducible exact nat_big.mono _ _)
      | (with_reducible exact nat_cut.mono _ _)
      | (with_reducible exact nat_size.mono _ _)
      | (with_reducible exact LeO.refl _)
      | (with_reducible exact LeO.none _)
      | (with_reducible refine LeO.ite ?_ ?_)
      | (with_reducible refine LeO.bind ?_ (fun _ => ?_))
      | exact ih0 _ _ _ _ _ _ _
      | exact nat_big.mono _ _
      | exact nat_cut.mono _ _
      | exact nat_size.mono _ _
      | exact LeO.none _
      | refine LeO.ite ?_ ?_
      | refine LeO.bind ?_ (fun _ => ?_)
theorem nat_MulAdd.mono : ∀ a0 a1 a2 k, LeO (nat_MulAdd.f k a0 a1 a2) (nat_MulAdd.f (k + 1) a0 a1 a2) := by
  intro a0 a1 a2 k
  have ih0 := nat_MulAdd.mono_l k
  unfold nat_MulAdd.f
  repeat' first
      | (with_reducible exact ih0 _ _ _ _ _ _ _)
      | (with_reducible exact nat_big.mono _ _)
      | (with_reducible exact nat_cut.mono _ _)
      | (with_reducible exact nat_size.mono _ _)
      | (with_reducible exact LeO.refl _)
      | (with_reducible exact LeO.none _)
      | (with_reducible refine LeO.ite ?_ ?_)
      | (with_reducible refine LeO.bind ?_ (fun _ => ?_))
      | exact ih0 _ _ _ _ _ _ _
      | exact nat_big.mono _ _
      | exact nat_cut.mono _ _
      | exact nat_size.mono _ _
      | exact LeO.none _
      | refine LeO.ite ?_ ?_
      | refine LeO.bind ?_ (fun _ => ?_)
set_option maxHeartbeats 8000000 in
set_option maxRecDepth 100000 in
theorem nat_MulAdd.calls (k : Nat) (A0 : Option Addr) (c0 : Nat) (l0 : List Int) (a1 : Int) (a2 : Int) (r1 : List Int) (r2 : Int) (w : World) (hr0 : Kd.C (Kd.int .u64) w A0 l0.length l0) (hc0 : l0.length ≤ c0) (h : nat_MulAdd.f k l0 a1 a2 = some (r1, r2)) :
    Calls Try.prog 23 #[.slice A0 l0.length c0, .int .u64 a1, .int .u64 a2] w fun e w' => ∃ v0_ : Value, e = .returned (.tuple #[v0_, .int .i64 r2]) ∧ Kd.V (Kd.int .u64) 33 w' w.heap.size (fun k_ => (w.heap.size ≤ k_)) v0_ r1 ∧ Below w.heap.size w w' := by
  have HR0 := Aside0.mk hr0
  have HC0 := Aside0.mk hc0
  clear hr0 hc0
  have HB := Aside0.mk (Below.refl w.heap.size w)
  have H : ((nat_big.f k l0).bind fun t219 => (if t219 = true then (some (([] : List Int), 2)) else ((nat_size.f k l0).bind fun t220 => (if 0 ≤ t220 then (if t220 ≤ (l0.length : Int) then ((some (l0.take (t220 : Int).toNat : List Int)).bind fun y221 => (if 0 ≤ (wrap64 ((y221.length : Int) + 1)) then (if (wrap64 ((y221.length : Int) + 1) : Int).toNat ≤ 35184372088832 then (nat_MulAdd.l0 k y221 a1 (List.replicate (wrap64 ((y221.length : Int) + 1) : Int).toNat 0) a2 y221 (y221.length : Int) 0) else (none)) else (none))) else (none)) else (none))))) = some (r1, r2) := h
  clear h
  replace H := Option.bind_eq_some_iff.mp H
  obtain ⟨t219, A40, H⟩ := H
  replace H : (if t219 = true then (some (([] : List Int), 2)) else ((nat_size.f k l0).bind fun t220 => (if 0 ≤ t220 then (if t220 ≤ (l0.length : Int) then ((some (l0.take (t220 : Int).toNat : List Int)).bind fun y221 => (if 0 ≤ (wrap64 ((y221.length : Int) + 1)) then (if (wrap64 ((y221.length : Int) + 1) : Int).toNat ≤ 35184372088832 then (nat_MulAdd.l0 k y221 a1 (List.replicate (wrap64 ((y221.length : Int) + 1) : Int).toNat 0) a2 y221 (y221.length : Int) 0) else (none)) else (none))) else (none)) else (none)))) = some (r1, r2) := H
  have A4 := Aside0.mk A40
  clear A40
  by_cases c5 : t219 = true
  · subst c5
    have H1 : (some (([] : List Int), 2)) = some (r1, r2) := by rw [if_pos rfl] at H; exact H
    clear H
    have H := H1
    clear H1
    simp only [Option.some.injEq, Prod.mk.injEq] at H
    obtain ⟨rfl, rfl⟩ := H
    go_enter Try.func23, Try.ntmps23
    go_wp2_with (first | ((with_reducible refine gate_callee (f := 24) rfl ?_); refine goesL_ (some 16) rfl rfl Try.func24 (by kernel_rfl) rfl #[.slice A0 l0.length c0] rfl (by (try simp only [List.map_toArray, List.map_cons, List.map_nil]); first | done | rfl | (simp only [List.length_drop, List.length_take]; rfl)) ?_; (with_reducible refine (nat_big.calls k _ _ l0 true _ ?side1 ?side2 A4.out).mono ?_); (case side1 => repeat (first | exact HR0.out | (with_reducible refine Kd.C_alloc ?_ _) | (with_reducible refine Kd.C_drewN ?_ _) | (with_reducible refine Kd.C_drew ?_))); (case side2 => exact HC0.out); rintro e w' ⟨rfl, ⟨nd, rfl⟩⟩; refine ⟨_, rfl, ?_⟩))
    go_ret2
    exact ⟨.slice none 0 0, by first | rfl | (simp [errW_none, errW_some] <;> rfl) | (simp [*, errW_none, errW_some] <;> rfl), Kd.V_nil _ _ _ _ _, by repeat (first | (with_reducible first | exact HB.out | apply below_alloc | apply pw_below_drewN | apply below_drew1) | exact HB.out)⟩
  · replace c5 := Bool.eq_false_iff.mpr c5
    subst c5
    have H1 : ((nat_size.f k l0).bind fun t220 => (if 0 ≤ t220 then (if t220 ≤ (l0.length : Int) then ((some (l0.take (t220 : Int).toNat : List Int)).bind fun y221 => (if 0 ≤ (wrap64 ((y221.length : Int) + 1)) then (if (wrap64 ((y221.length : Int) + 1) : Int).toNat ≤ 35184372088832 then (nat_MulAdd.l0 k y221 a1 (List.replicate (wrap64 ((y221.length : Int) + 1) : Int).toNat 0) a2 y221 (y221.length : Int) 0) else (none)) else (none))) else (none)) else (none))) = some (r1, r2) := by rw [if_neg (show ¬ (false = true) by decide)] at H; exact H
    clear H
    have H := H1
    clear H1
    replace H := Option.bind_eq_some_iff.mp H
    obtain ⟨t220, A60, H⟩ := H
    replace H : (if 0 ≤ t220 then (if t220 ≤ (l0.length : Int) then ((some (l0.take (t220 : Int).toNat : List Int)).bind fun y221 => (if 0 ≤ (wrap64 ((y221.length : Int) + 1)) then (if (wrap64 ((y221.length : Int) + 1) : Int).toNat ≤ 35184372088832 then (nat_MulAdd.l0 k y221 a1 (List.replicate (wrap64 ((y221.length : Int) + 1) : Int).toNat 0) a2 y221 (y221.length : Int) 0) else (none)) else (none))) else (none)) else (none)) = some (r1, r2) := H
    have A6 := Aside0.mk A60
    clear A60
    by_cases c7 : 0 ≤ t220
    · rw [if_pos c7] at H
      have c7b0 := eq_true c7
      have c7b1 : decide (0 ≤ t220) = true := decide_eq_true c7
      clear c7
      by_cases c8 : t220 ≤ (l0.length : Int)
      · rw [if_pos c8] at H
        have c8b0 := eq_true c8
        have c8b1 : decide (t220 ≤ (l0.length : Int)) = true := decide_eq_true c8
        clear c8
        obtain ⟨y221, hy221⟩ : ∃ y_ : List Int, y_ = (l0.take (t220 : Int).toNat) := ⟨_, rfl⟩
        replace H : (if 0 ≤ (wrap64 ((y221.length : Int) + 1)) then (if (wrap64 ((y221.length : Int) + 1) : Int).toNat ≤ 35184372088832 then (nat_MulAdd.l0 k y221 a1 (List.replicate (wrap64 ((y221.length : Int) + 1) : Int).toNat 0) a2 y221 (y221.length : Int) 0) else (none)) else (none)) = some (r1, r2) := by first | (rw [hy221]; with_reducible exact H) | (have H2_ := (Option.bind_some _ _).symm.trans H; rw [hy221]; with_reducible exact H2_) | (have H2_ := (Option.bind_some _ _).symm.trans H; with_reducible exact H2_) | with_reducible exact H | (rw [hy221]; exact H) | exact H
        have Ny221 := Aside0.mk hy221
        clear hy221
        obtain ⟨ji9, hji9⟩ : ∃ j_ : Int, (wrap64 ((y221.length : Int) + 1)) = j_ := ⟨_, rfl⟩
        replace H : (if 0 ≤ (ji9) then (if (ji9 : Int).toNat ≤ 35184372088832 then (nat_MulAdd.l0 k y221 a1 (List.replicate (ji9 : Int).toNat 0) a2 y221 (y221.length : Int) 0) else (none)) else (none)) = some (r1, r2) := by first | (rw [hji9] at H; exact H) | (simp only [hji9] at H ⊢; exact H)
        (try rw [hji9] at A4)
        (try rw [hji9] at A6)
        have hji9w : (IntKind.i64.wrap ((y221.length : Int) + 1)) = ji9 := (i64_w _).trans hji9
        by_cases c10 : 0 ≤ (ji9)
        · rw [if_pos c10] at H
          have c10b0 := eq_true c10
          have c10b1 : decide (0 ≤ (ji9)) = true := decide_eq_true c10
          clear c10
          by_cases c11 : (ji9 : Int).toNat ≤ 35184372088832
          · rw [if_pos c11] at H
            have c11b0 := eq_true c11
            have c11b1 : decide ((ji9 : Int).toNat ≤ 35184372088832) = true := decide_eq_true c11
            clear c11
            obtain ⟨y225, hy225⟩ : ∃ y_ : List Int, y_ = (List.replicate (ji9 : Int).toNat 0) := ⟨_, rfl⟩
            replace H : (nat_MulAdd.l0 k y221 a1 y225 a2 y221 (y221.length : Int) 0) = some (r1, r2) := by first | (rw [hy225]; with_reducible exact H) | (have H2_ := (Option.bind_some _ _).symm.trans H; rw [hy225]; with_reducible exact H2_) | (have H2_ := (Option.bind_some _ _).symm.trans H; with_reducible exact H2_) | with_reducible exact H | (rw [hy225]; exact H) | exact H
            have Ny225 := Aside0.mk hy225
            clear hy225
            have H' := Aside0.mk H
            clear H
            go_enter Try.func23, Try.ntmps23
            go_wp2_with (first | ((with_reducible refine gate_callee (f := 24) rfl ?_); refine goesL_ (some 16) rfl rfl Try.func24 (by kernel_rfl) rfl #[.slice A0 l0.length c0] rfl (by (try simp only [List.map_toArray, List.map_cons, List.map_nil]); first | done | rfl | (simp only [List.length_drop, List.length_take]; rfl)) ?_; (with_reducible refine (nat_big.calls k _ _ l0 false _ ?side1 ?side2 A4.out).mono ?_); (case side1 => repeat (first | exact HR0.out | (with_reducible refine Kd.C_alloc ?_ _) | (with_reducible refine Kd.C_drewN ?_ _) | (with_reducible refine Kd.C_drew ?_))); (case side2 => exact HC0.out); rintro e w' ⟨rfl, ⟨nd, rfl⟩⟩; refine ⟨_, rfl, ?_⟩) | ((with_reducible refine gate_callee (f := 25) rfl ?_); refine goesL_ (some 19) rfl rfl Try.func25 (by kernel_rfl) rfl #[.slice A0 l0.length c0] rfl (by (try simp only [List.map_toArray, List.map_cons, List.map_nil]); first | done | rfl | (simp only [List.length_drop, List.length_take]; rfl)) ?_; (with_reducible refine (nat_size.calls k _ _ l0 t220 _ ?side1 ?side2 A6.out).mono ?_); (case side1 => repeat (first | exact HR0.out | (with_reducible refine Kd.C_alloc ?_ _) | (with_reducible refine Kd.C_drewN ?_ _) | (with_reducible refine Kd.C_drew ?_))); (case side2 => exact HC0.out); rintro e w' ⟨rfl, ⟨nd, rfl⟩⟩; refine ⟨_, rfl, ?_⟩; have q12 : (t220 : Int) ≤ ((l0.length : Int) : Int) := of_decide_eq_true (by first | (with_reducible assumption) | assumption); obtain ⟨i012, hi012, _, hsz12, _⟩ := info_parts info33; have hroom12 : l0.length ≤ c0 := HC0.out; have hC12 : Kd.C (Kd.int .u64) _ A0 l0.length l0 := HR0.out; have hcut12 := cut_to (P := Try.prog) 22 33 .i64 Try.underlying22 hi012 A0 l0.length c0 t220 (of_decide_eq_true (by first | (with_reducible assumption) | assumption)) q12 hroom12; have hr12 := Kd.C_take (m := (t220 : Int).toNat) hC12 (by omega); have hy12 : y221.length = (t220 : Int).toNat := (by rw [Ny221.out, List.length_take]; omega); rw [← Ny221.out] at hr12; rw [← hy12] at hcut12; have HR224 := Aside0.mk hr12; have HC224 := Aside0.mk (show y221.length ≤ c0 from by omega); clear hr12 hC12 hroom12 hi012 hsz12; have KY12 := Aside0.mk hy12; clear hy12; replace q12 := eq_true q12) | ((with_reducible refine gate_dst (N := 24) rfl ?_); refine Kd.R_make (Kd.int .u64) _ 33 rfl (N := 24) rfl 22 _ _ rfl ji9 rfl rfl Try.underlying22 (.int .u64 0) 8 info33 rfl (by decide) (by omega) 0 (ok := fun _ => True) (okp := fun _ => True) rfl (fun _ hk => hk) trivial (of_decide_eq_true (by first | (with_reducible assumption) | assumption)) (Nat.le_trans (Nat.mul_le_mul_right _ (of_decide_eq_true (by first | (with_reducible assumption) | assumption) : ji9.toNat ≤ 35184372088832)) (by omega)) (Below.refl _ _) (Nat.le_refl _) ?_; intro v226 w13 ho14 hb hg_ hnew_; clear hg_ hnew_; (first | rw [← Ny225.out] at ho14 | (simp only [Int.reduceToNat] at ho14; rw [← Ny225.out] at ho14)); have n0_ := Aside0.mk (Kd.R_lower (Kd.R_newM (M := fun k_ => (w.heap.size ≤ k_)) ho14 (below_size (by repeat (first | (with_reducible first | exact HB.out | apply below_alloc | apply pw_below_drewN | apply below_drew1) | exact HB.out))) (fun k_ h_ => h_)) (below_size (by repeat (first | (with_reducible first | exact HB.out | apply below_alloc | apply pw_below_drewN | apply below_drew1) | exact HB.out)))); have n1_ := Aside0.mk (below_step (by repeat (first | (with_reducible first | exact HB.out | apply below_alloc | apply pw_below_drewN | apply below_drew1) | exact HB.out)) hb); clear HB; have HO227 := n0_; have HB := n1_; clear n0_ n1_; clear hb ho14))
            go_loopg [9, 28] k (fun kq v9 v28 w' => ∃ (x8_1 : List Int) (x9_1 : Int) (x28_1 : Int), v9 = .int .u64 x9_1 ∧ v28 = .int .i64 x28_1 ∧ Aside0 (nat_MulAdd.l0 kq y221 a1 x8_1 x9_1 y221 (y221.length : Int) x28_1 = some (r1, r2)) ∧ Aside0 (kq ≤ k) ∧ Aside0 (Kd.R (Kd.int .u64) 33 w' w.heap.size (fun k_ => (w.heap.size ≤ k_)) v226 x8_1) ∧ Aside0 (Below w.heap.size w w'))
            case atStart => exact ⟨(y225), (a2), (0), (by first | rfl | (simp; done) | (simp [*]; done)), (by first | rfl | (simp; done) | (simp [*]; done)), H', ⟨Nat.le_refl _⟩, ⟨by (with_reducible repeat (first | apply Kd.R_alloc | apply Kd.R_drewN | apply Kd.R_drew)); exact Kd.R_mono HO227.out (fun _ hk => hk.1)⟩, ⟨by repeat (first | (with_reducible first | exact HB.out | apply below_alloc | apply pw_below_drewN | apply below_drew1) | exact HB.out)⟩⟩
            case round =>
              clear H'
              try clear c1
              try clear q1
              try clear c2
              try clear p2
              try clear c5
              try clear p6
              try clear c7
              try clear c7b0
              try clear c7b1
              try clear c8
              try clear c8b0
              try clear c8b1
              try clear c10
              try clear c10b0
              try clear c10b1
              try clear c11
              try clear c11b0
              try clear c11b1
              try clear q12
              try clear q12
              obtain ⟨x8_1, x9_1, x28_1, rfl, rfl, HA, HK1, HO_8, HB⟩ := hrel
              cases gk with
              | zero => exact absurd HA.out (by simp [nat_MulAdd.l0])
              | succ k1 =>
                have H := HA.out
                clear HA
                simp only [nat_MulAdd.l0] at H
                by_cases c15 : x28_1 < (y221.length : Int)
                · rw [if_pos c15] at H
                  have c15b0 : decide (x28_1 < (y221.length : Int)) = true := decide_eq_true c15
                  clear c15
                  by_cases c16 : 0 ≤ x28_1
                  · rw [if_pos c16] at H
                    have c16b0 : decide (0 ≤ x28_1) = true := decide_eq_true c16
                    clear c16
                    by_cases c17 : x28_1 < (y221.length : Int)
                    · rw [if_pos c17] at H
                      have c17b0 : decide (x28_1 < (y221.length : Int)) = true := decide_eq_true c17
                      clear c17
                      replace H := Option.bind_eq_some_iff.mp H
                      obtain ⟨⟨t229, t230⟩, A180, H⟩ := H
                      replace H : ((bits_Add64.f t230 x9_1 0).bind fun bt231 => (if x28_1 < (x8_1.length : Int) then (nat_MulAdd.l0 k1 y221 a1 (x8_1.set (x28_1 : Int).toNat bt231.1) (IntKind.u64.wrap (t229 + bt231.2)) y221 (y221.length : Int) (wrap64 (x28_1 + 1))) else (none))) = some (r1, r2) := H
                      have A18 := Aside0.mk A180
                      clear A180
                      replace H := Option.bind_eq_some_iff.mp H
                      obtain ⟨⟨t231, t232⟩, A190, H⟩ := H
                      replace H : (if x28_1 < (x8_1.length : Int) then (nat_MulAdd.l0 k1 y221 a1 (x8_1.set (x28_1 : Int).toNat t231) (IntKind.u64.wrap (t229 + t232)) y221 (y221.length : Int) (wrap64 (x28_1 + 1))) else (none)) = some (r1, r2) := H
                      have A19 := Aside0.mk A190
                      clear A190
                      by_cases c20 : x28_1 < (x8_1.length : Int)
                      · rw [if_pos c20] at H
                        have c20b0 : decide (x28_1 < (x8_1.length : Int)) = true := decide_eq_true c20
                        clear c20
                        obtain ⟨y233, hy233⟩ : ∃ y_ : List Int, y_ = (x8_1.set (x28_1 : Int).toNat t231) := ⟨_, rfl⟩
                        replace H : (nat_MulAdd.l0 k1 y221 a1 y233 (IntKind.u64.wrap (t229 + t232)) y221 (y221.length : Int) (wrap64 (x28_1 + 1))) = some (r1, r2) := by first | (rw [hy233]; with_reducible exact H) | (have H2_ := (Option.bind_some _ _).symm.trans H; rw [hy233]; with_reducible exact H2_) | (have H2_ := (Option.bind_some _ _).symm.trans H; with_reducible exact H2_) | with_reducible exact H | (rw [hy233]; exact H) | exact H
                        have Ny233 := Aside0.mk hy233
                        clear hy233
                        have H' := Aside0.mk H
                        clear H
                        have p228 : 0 ≤ (x28_1 : Int) := of_decide_eq_true (by first | (with_reducible assumption) | assumption)
                        have q228 : x28_1 < (y221.length : Int) := of_decide_eq_true (by first | (with_reducible assumption) | assumption)
                        obtain ⟨ad228, e228, hx228_0⟩ := Kd.at_int HR224.out x28_1 p228 q228
                        cases e228
                        replace hx228_0 := (HB.out.cell (World.block_lt_of_cell? w _ hx228_0)).trans hx228_0
                        replace p228 := eq_true p228
                        replace q228 := eq_true q228
                        go_wp2_with (first | ((with_reducible refine gate_callee (f := 28) rfl ?_); refine goesL_ (some 36) rfl rfl Try.func28 (by kernel_rfl) rfl #[.int .u64 (rd y221 x28_1), .int .u64 a1] rfl (by (try simp only [List.map_toArray, List.map_cons, List.map_nil]); first | done | rfl | (simp only [List.length_drop, List.length_take]; rfl)) ?_; (with_reducible refine (bits_Mul64.calls (rd y221 x28_1) a1 t229 t230 _ A18.out).mono ?_); rintro e w' ⟨rfl, ⟨nd, rfl⟩⟩; refine ⟨_, rfl, ?_⟩; (try (rw [drewN_self wr]; generalize hq_ : World.drewN wr _ = wr; have n0_ : Aside0 (Kd.R (Kd.int .u64) 33 wr w.heap.size (fun k_ => (w.heap.size ≤ k_)) v226 x8_1) := ⟨by rw [← hq_]; exact (by (with_reducible repeat (first | apply Kd.R_alloc | apply Kd.R_drewN | apply Kd.R_drew)); exact HO_8.out)⟩; have n1_ : Aside0 (Below w.heap.size w wr) := ⟨by rw [← hq_]; exact (by repeat (first | (with_reducible first | exact HB.out | apply below_alloc | apply pw_below_drewN | apply below_drew1) | exact HB.out))⟩; clear HO_8 HB hq_; have HO_8 := n0_; have HB := n1_; clear n0_ n1_))) | ((with_reducible refine gate_callee (f := 26) rfl ?_); refine goesX_ (some 44) rfl rfl Try.func26 (by kernel_rfl) rfl #[.int .u64 t230, .int .u64 x9_1, .int .u64 0] rfl (by (try simp only [List.map_toArray, List.map_cons, List.map_nil]); first | done | rfl | (simp only [List.length_drop, List.length_take]; rfl)) ?_; (with_reducible refine (bits_Add64.calls t230 x9_1 0 t231 t232 _ A19.out).mono ?_); rintro e w' ⟨rfl, rfl⟩; refine ⟨_, rfl, ?_⟩; have p21 : 0 ≤ (x28_1 : Int) := of_decide_eq_true (by first | (with_reducible assumption) | assumption); have q21 : (x28_1 : Int) < ((x8_1.length : Int) : Int) := of_decide_eq_true (by first | (with_reducible assumption) | assumption); obtain ⟨go21, co21, eo21, gb21, gl21, cl21, HG21⟩ := Kd.R_form HO_8.out (by omega); (first | cases eo21 | (injection eo21 with ea_ en_ ec_; (first | subst ea_ | (injection ea_ with ea_; subst ea_)); subst ec_; clear en_)); have GB21 := Aside0.mk gb21; have GG21 := Aside0.mk HG21; clear gb21 gl21 HG21; obtain ⟨hx21_0, hf21_0⟩ := Kd.R_celln 0 HO_8.out (x28_1 : Int) p21 q21; replace p21 := eq_true p21; replace q21 := eq_true q21; obtain ⟨hy22_, hz22_⟩ := Kd.R_celln 0 HO_8.out (x28_1 : Int) (of_decide_eq_true (by first | (with_reducible assumption) | assumption)) (of_decide_eq_true (by first | (with_reducible assumption) | assumption)); have HP22 := Kd.R_putg HO_8.out (x28_1 : Int) t231) | ((with_reducible refine gate_store (t := 33) (p := 47) rfl ?_); refine store_event (t := 33) (p := 47) (v := ?vo_w23) (w1 := (wr.setCell ⟨go21, (x28_1 : Int).toNat, none⟩ (.int .u64 t231))) ?hg ?ho ?hn ?hr ?_; (case ho => rfl); (case hg => rfl); (case hn => rfl); (case hr => first | (go_simp; done) | (go_simp; rfl)); intro w23 hw; have hg : wr.grownBy w23 (some go21) := (by rw [hw]; exact HP22.2); have hp_ : Kd.R (Kd.int .u64) 33 w23 w.heap.size (fun k_ => (w.heap.size ≤ k_)) (.slice (some ⟨go21, 0, none⟩) x8_1.length co21) y233 := (by rw [hw, Ny233.out]; exact HP22.1); clear HP22; have n0_ := Aside0.mk (hp_); have n1_ := Aside0.mk ((by rw [hw]; exact below_set (HB.out) GB21.out : Below w.heap.size w w23)); clear HO_8; clear HB; have HO_8 := n0_; have HB := n1_; clear n0_ n1_; clear hg hw hp_))
                        go_roundg k1
                        case measure => have := HK1.out; omega
                        case rel => exact ⟨(y233), (IntKind.u64.wrap (t229 + t232)), (wrap64 (x28_1 + 1)), (by first | rfl | (simp; done) | (simp [*]; done)), (by first | rfl | (simp; done) | (simp [*]; done)), H', ⟨by have := HK1.out; omega⟩, ⟨by (with_reducible repeat (first | apply Kd.R_alloc | apply Kd.R_drewN | apply Kd.R_drew)); exact HO_8.out⟩, ⟨by repeat (first | (with_reducible first | exact HB.out | apply below_alloc | apply pw_below_drewN | apply below_drew1) | exact HB.out)⟩⟩
                      · rw [if_neg c20] at H
                        exact absurd H (by simp)
                    · rw [if_neg c17] at H
                      exact absurd H (by simp)
                  · rw [if_neg c16] at H
                    exact absurd H (by simp)
                · rw [if_neg c15] at H
                  have c15b0 : decide (x28_1 < (y221.length : Int)) = false := decide_eq_false c15
                  clear c15
                  by_cases c24 : 0 ≤ (y221.length : Int)
                  · rw [if_pos c24] at H
                    have c24b0 : decide (0 ≤ (y221.length : Int)) = true := decide_eq_true c24
                    have c24b1 : decide (0 ≤ y221.length) = true := decide_eq_true (by omega)
                    clear c24
                    by_cases c25 : (y221.length : Int) < (x8_1.length : Int)
                    · rw [if_pos c25] at H
                      have c25b0 : decide ((y221.length : Int) < (x8_1.length : Int)) = true := decide_eq_true c25
                      have c25b1 : decide (y221.length < x8_1.length) = true := decide_eq_true (Int.ofNat_lt.mp c25)
                      clear c25
                      obtain ⟨y234, hy234⟩ : ∃ y_ : List Int, y_ = (x8_1.set ((y221.length : Int) : Int).toNat x9_1) := ⟨_, rfl⟩
                      replace H : ((nat_cut.f k1 y234).bind fun bt235 => (some (bt235.1, bt235.2))) = some (r1, r2) := by first | (rw [hy234]; with_reducible exact H) | (have H2_ := (Option.bind_some _ _).symm.trans H; rw [hy234]; with_reducible exact H2_) | (have H2_ := (Option.bind_some _ _).symm.trans H; with_reducible exact H2_) | with_reducible exact H | (rw [hy234]; exact H) | exact H
                      have Ny234 := Aside0.mk hy234
                      clear hy234
                      replace H := Option.bind_eq_some_iff.mp H
                      obtain ⟨⟨t235, t238⟩, A270, H⟩ := H
                      replace H : (some (t235, t238)) = some (r1, r2) := H
                      have A27 := Aside0.mk A270
                      clear A270
                      simp only [Option.some.injEq, Prod.mk.injEq] at H
                      obtain ⟨rfl, rfl⟩ := H
                      have p26 : 0 ≤ ((y221.length : Int) : Int) := of_decide_eq_true (by first | (with_reducible assumption) | assumption)
                      have q26 : ((y221.length : Int) : Int) < ((x8_1.length : Int) : Int) := of_decide_eq_true (by first | (with_reducible assumption) | assumption)
                      obtain ⟨go26, co26, eo26, gb26, gl26, cl26, HG26⟩ := Kd.R_form HO_8.out (by omega)
                      (first | cases eo26 | (injection eo26 with ea_ en_ ec_; (first | subst ea_ | (injection ea_ with ea_; subst ea_)); subst ec_; clear en_))
                      have GB26 := Aside0.mk gb26
                      have GG26 := Aside0.mk HG26
                      clear gb26 gl26 HG26
                      obtain ⟨hx26_0, hf26_0⟩ := Kd.R_celln 0 HO_8.out ((y221.length : Int) : Int) p26 q26
                      (try simp only [Int.toNat_natCast] at hx26_0 hf26_0)
                      replace p26 := eq_true p26
                      replace q26 := eq_true q26
                      have HP28 := Kd.R_putg HO_8.out ((y221.length : Int) : Int) x9_1
                      go_wp2_with (first | ((with_reducible refine gate_store (t := 33) (p := 56) rfl ?_); refine store_event (t := 33) (p := 56) (v := ?vo_w29) (w1 := (wr.setCell ⟨go26, ((y221.length : Int) : Int).toNat, none⟩ (.int .u64 x9_1))) ?hg ?ho ?hn ?hr ?_; (case ho => rfl); (case hg => rfl); (case hn => rfl); (case hr => first | (go_simp; done) | (go_simp; rfl)); intro w29 hw; have hg : wr.grownBy w29 (some go26) := (by rw [hw]; exact HP28.2); have hp_ : Kd.R (Kd.int .u64) 33 w29 w.heap.size (fun k_ => (w.heap.size ≤ k_)) (.slice (some ⟨go26, 0, none⟩) x8_1.length co26) y234 := (by rw [hw, Ny234.out]; exact HP28.1); clear HP28; have n0_ := Aside0.mk (hp_); have n1_ := Aside0.mk ((by rw [hw]; exact below_set (HB.out) GB26.out : Below w.heap.size w w29)); clear HO_8; clear HB; have HO_8 := n0_; have HB := n1_; clear n0_ n1_; clear hg hw hp_) | ((with_reducible refine gate_callee (f := 27) rfl ?_); refine goesL_ (some 58) rfl rfl Try.func27 (by kernel_rfl) rfl #[.slice (some ⟨go26, 0, none⟩) y234.length co26] rfl (by (try simp only [List.map_toArray, List.map_cons, List.map_nil]); first | done | (rw [show y234.length = x8_1.length from (Kd.R_reads' HO_8.out).1.symm] <;> rfl) | rfl | (simp only [List.length_drop, List.length_take]; rfl)) ?_; (with_reducible refine (nat_cut.calls k1 (fun k_ => some k_ = (.slice (some ⟨go26, 0, none⟩) x8_1.length co26 : Value).ownBlock) _ _ y234 t235 t238 _ ?side1 A27.out).mono ?_); (case side1 => rw [show y234.length = x8_1.length from (Kd.R_reads' HO_8.out).1.symm]; exact Kd.R_V (Kd.R_tight rfl (HO_8.out))); rintro e w30 ⟨v236, rfl, ho0, hb⟩; refine ⟨_, rfl, ?_⟩; have n0_ := Aside0.mk (Kd.R_below (by (with_reducible repeat (first | apply Kd.R_alloc | apply Kd.R_drewN | apply Kd.R_drew)); exact HO_8.out) hb); have n1_ := Aside0.mk (Kd.V_lower (Kd.V_mono (ok' := fun k_ => (w.heap.size ≤ k_)) ho0 (fun k_ hk_ => Or.elim hk_ (fun hs_ => ((HO_8.out).1 k_ hs_.symm)) (fun hn_ => (Nat.le_trans (below_size (by repeat (first | (with_reducible first | exact HB.out | apply below_alloc | apply pw_below_drewN | apply below_drew1) | exact HB.out))) hn_)))) (below_size (by repeat (first | (with_reducible first | exact HB.out | apply below_alloc | apply pw_below_drewN | apply below_drew1) | exact HB.out)))); have n2_ := Aside0.mk (below_step (by repeat (first | (with_reducible first | exact HB.out | apply below_alloc | apply pw_below_drewN | apply below_drew1) | exact HB.out)) hb); clear HO_8; clear HB; have HO_8 := n0_; have HO237 := n1_; have HB := n2_; clear n0_ n1_ n2_; (try clear hb); (try clear hb2); (try clear hk); (try clear hi); (try clear ho0)))
                      go_ret2
                      exact ⟨_, by first | rfl | (simp [errW_none, errW_some] <;> rfl) | (simp only [← hji9]; first | rfl | (simp [errW_none, errW_some] <;> rfl)) | (simp [*, errW_none, errW_some] <;> rfl), by (with_reducible repeat (first | apply Kd.V_alloc | apply Kd.V_drewN | apply Kd.V_drew)); exact HO237.out, by repeat (first | (with_reducible first | exact HB.out | apply below_alloc | apply pw_below_drewN | apply below_drew1) | exact HB.out)⟩
                    · rw [if_neg c25] at H
                      exact absurd H (by simp)
                  · rw [if_neg c24] at H
                    exact absurd H (by simp)
          · rw [if_neg c11] at H
            exact absurd H (by simp)
        · rw [if_neg c10] at H
          exact absurd H (by simp)
      · rw [if_neg c8] at H
        exact absurd H (by simp)
    · rw [if_neg c7] at H
      exact absurd H (by simp)

/-! ### abacuslaw01_NatDivides: function 8 -/
def abacuslaw01_NatDivides.j0 : Nat → List Int → Int → List Int → Int → Bool → Option (Bool)
  | 0, _, _, _, _, _ => none
  | k + 1, x0, x1, x8, x9, x52 => if x52 = true then (some false) else ((nat_MulAdd.f k x8 x1 x9).bind fun bt251 => (if bt251.2 = 0 then ((nat_Cmp.f k bt251.1 x0).bind fun t255 => (if t255 = 0 then ((abacuslaw01_size.f k x0).bind fun t256 => (some ((bt251.1.length : Int) == t256))) else (some false))) else (some false)))
def abacuslaw01_NatDivides.f (k : Nat) (l0 : List Int) (a1 : Int) : Option (Bool) := (abacuslaw01_awake.f k).bind fun t239 => (if t239 = true then ((abacuslaw01_size.f k l0).bind fun t240 => (if t240 > 4096 then ((nat_DivSmall.f k l0 a1).bind fun bt241 => (some (bt241.2.2 == 2))) else ((nat_DivSmall.f k l0 a1).bind fun bt246 => (if a1 = 0 then (if bt246.2.2 = 4 then (if (bt246.1.length : Int) = 0 then (some (bt246.2.1 == 0)) else (some false)) else (some false)) else (if bt246.2.2 = 0 then (abacuslaw01_NatDivides.j0 k l0 a1 bt246.1 bt246.2.1 (decide (bt246.2.1 ≥ a1))) else (abacuslaw01_NatDivides.j0 k l0 a1 bt246.1 bt246.2.1 true)))))) else (some false))
theorem abacuslaw01_NatDivides.mono_l : ∀ k, (∀ y0 y1 y2 y3 y4, LeO (abacuslaw01_NatDivides.j0 k y0 y1 y2 y3 y4) (abacuslaw01_NatDivides.j0 (k + 1) y0 y1 y2 y3 y4))
  | 0 => fun _ _ _ _ _ r h => by simp [abacuslaw01_NatDivides.j0] at h
  | k + 1 => by
    have ih0 := abacuslaw01_NatDivides.mono_l k
    · intro y0 y1 y2 y3 y4
      unfold abacuslaw01_NatDivides.j0
      repeat' first
      | (with_reducible exact ih0 _ _ _ _ _)
      | (with_reducible exact abacuslaw01_awake.mono _)
      | (with_reducible exact abacuslaw01_size.mono _ _)
      | (with_reducible exact nat_Cmp.mono _ _ _)
      | (with_reducible exact nat_DivSmall.mono _ _ _)
      | (with_reducible exact nat_MulAdd.mono _ _ _ _)
      | (with_reducible exact LeO.refl _)
      | (with_reducible exact LeO.none _)
      | (with_reducible refine LeO.ite ?_ ?_)
      | (with_reducible refine LeO.bind ?_ (fun _ => ?_))
      | exact ih0 _ _ _ _ _
      | exact abacuslaw01_awake.mono _
      | exact abacuslaw01_size.mono _ _
      | exact nat_Cmp.mono _ _ _
      | exact nat_DivSmall.mono _ _ _
      | exact nat_MulAdd.mono _ _ _ _
      | exact LeO.none _
      | refine LeO.ite ?_ ?_
      | refine LeO.bind ?_ (fun _ => ?_)
theorem abacuslaw01_NatDivides.mono : ∀ a0 a1 k, LeO (abacuslaw01_NatDivides.f k a0 a1) (abacuslaw01_NatDivides.f (k + 1) a0 a1) := by
  intro a0 a1 k
  have ih0 := abacuslaw01_NatDivides.mono_l k
  unfold abacuslaw01_NatDivides.f
  repeat' first
      | (with_reducible exact ih0 _ _ _ _ _)
      | (with_reducible exact abacuslaw01_awake.mono _)
      | (with_reducible exact abacuslaw01_size.mono _ _)
      | (with_reducible exact nat_Cmp.mono _ _ _)
      | (with_reducible exact nat_DivSmall.mono _ _ _)
      | (with_reducible exact nat_MulAdd.mono _ _ _ _)
      | (with_reducible exact LeO.refl _)
      | (with_reducible exact LeO.none _)
      | (with_reducible refine LeO.ite ?_ ?_)
      | (with_reducible refine LeO.bind ?_ (fun _ => ?_))
      | exact ih0 _ _ _ _ _
      | exact abacuslaw01_awake.mono _
      | exact abacuslaw01_size.mono _ _
      | exact nat_Cmp.mono _ _ _
      | exact nat_DivSmall.mono _ _ _
      | exact nat_MulAdd.mono _ _ _ _
      | exact LeO.none _
      | refine LeO.ite ?_ ?_
      | refine LeO.bind ?_ (fun _ => ?_)
set_option maxHeartbeats 8000000 in
set_option maxRecDepth 100000 in
theorem abacuslaw01_NatDivides.calls (k : Nat) (A0 : Option Addr) (c0 : Nat) (l0 : List Int) (a1 : Int) (r : Bool) (w : World) (hr0 : Kd.C (Kd.int .u64) w A0 l0.length l0) (hc0 : l0.length ≤ c0) (h : abacuslaw01_NatDivides.f k l0 a1 = some r) :
    Calls Try.prog 8 #[.slice A0 l0.length c0, .int .u64 a1] w fun e w' => e = .returned (.bool r) ∧ Below w.heap.size w w' := by
  have HR0 := Aside0.mk hr0
  have HC0 := Aside0.mk hc0
  clear hr0 hc0
  have HB := Aside0.mk (Below.refl w.heap.size w)
  have H : ((abacuslaw01_awake.f k).bind fun t239 => (if t239 = true then ((abacuslaw01_size.f k l0).bind fun t240 => (if t240 > 4096 then ((nat_DivSmall.f k l0 a1).bind fun bt241 => (some (bt241.2.2 == 2))) else ((nat_DivSmall.f k l0 a1).bind fun bt246 => (if a1 = 0 then (if bt246.2.2 = 4 then (if (bt246.1.length : Int) = 0 then (some (bt246.2.1 == 0)) else (some false)) else (some false)) else (if bt246.2.2 = 0 then (abacuslaw01_NatDivides.j0 k l0 a1 bt246.1 bt246.2.1 (decide (bt246.2.1 ≥ a1))) else (abacuslaw01_NatDivides.j0 k l0 a1 bt246.1 bt246.2.1 true)))))) else (some false))) = some r := h
  clear h
  replace H := Option.bind_eq_some_iff.mp H
  obtain ⟨t239, A30, H⟩ := H
  replace H : (if t239 = true then ((abacuslaw01_size.f k l0).bind fun t240 => (if t240 > 4096 then ((nat_DivSmall.f k l0 a1).bind fun bt241 => (some (bt241.2.2 == 2))) else ((nat_DivSmall.f k l0 a1).bind fun bt246 => (if a1 = 0 then (if bt246.2.2 = 4 then (if (bt246.1.length : Int) = 0 then (some (bt246.2.1 == 0)) else (some false)) else (some false)) else (if bt246.2.2 = 0 then (abacuslaw01_NatDivides.j0 k l0 a1 bt246.1 bt246.2.1 (decide (bt246.2.1 ≥ a1))) else (abacuslaw01_NatDivides.j0 k l0 a1 bt246.1 bt246.2.1 true)))))) else (some false)) = some r := H
  have A3 := Aside0.mk A30
  clear A30
  by_cases c4 : t239 = true
  · subst c4
    have H1 : ((abacuslaw01_size.f k l0).bind fun t240 => (if t240 > 4096 then ((nat_DivSmall.f k l0 a1).bind fun bt241 => (some (bt241.2.2 == 2))) else ((nat_DivSmall.f k l0 a1).bind fun bt246 => (if a1 = 0 then (if bt246.2.2 = 4 then (if (bt246.1.length : Int) = 0 then (some (bt246.2.1 == 0)) else (some false)) else (some false)) else (if bt246.2.2 = 0 then (abacuslaw01_NatDivides.j0 k l0 a1 bt246.1 bt246.2.1 (decide (bt246.2.1 ≥ a1))) else (abacuslaw01_NatDivides.j0 k l0 a1 bt246.1 bt246.2.1 true)))))) = some r := by rw [if_pos rfl] at H; exact H
    clear H
    have H := H1
    clear H1
    replace H := Option.bind_eq_some_iff.mp H
    obtain ⟨t240, A50, H⟩ := H
    replace H : (if t240 > 4096 then ((nat_DivSmall.f k l0 a1).bind fun bt241 => (some (bt241.2.2 == 2))) else ((nat_DivSmall.f k l0 a1).bind fun bt246 => (if a1 = 0 then (if bt246.2.2 = 4 then (if (bt246.1.length : Int) = 0 then (some (bt246.2.1 == 0)) else (some false)) else (some false)) else (if bt246.2.2 = 0 then (abacuslaw01_NatDivides.j0 k l0 a1 bt246.1 bt246.2.1 (decide (bt246.2.1 ≥ a1))) else (abacuslaw01_NatDivides.j0 k l0 a1 bt246.1 bt246.2.1 true))))) = some r := H
    have A5 := Aside0.mk A50
    clear A50
    by_cases c6 : t240 > 4096
    · rw [if_pos c6] at H
      have c6b0 : decide (4096 < t240) = true := decide_eq_true c6
      clear c6
      replace H := Option.bind_eq_some_iff.mp H
      obtain ⟨⟨t241, t244, t245⟩, A70, H⟩ := H
      replace H : (some (t245 == 2)) = some r := H
      have A7 := Aside0.mk A70
      clear A70
      obtain rfl := Option.some.inj H
      go_enter Try.func8, Try.ntmps8
      go_wp2_with (first | ((with_reducible refine gate_callee (f := 9) rfl ?_); refine goesL_ (some 12) rfl rfl Try.func9 (by kernel_rfl) rfl #[] rfl (by (try simp only [List.map_toArray, List.map_cons, List.map_nil]); first | done | rfl | (simp only [List.length_drop, List.length_take]; rfl)) ?_; (with_reducible refine (abacuslaw01_awake.calls k  true _ A3.out).mono ?_); rintro e w8 ⟨rfl, hb⟩; refine ⟨_, rfl, ?_⟩; have n0_ := Aside0.mk (below_step (by repeat (first | (with_reducible first | exact HB.out | apply below_alloc | apply pw_below_drewN | apply below_drew1) | exact HB.out)) hb); clear HB; have HB := n0_; clear n0_; (try clear hb); (try clear hb2); (try clear hk); (try clear hi)) | ((with_reducible refine gate_callee (f := 10) rfl ?_); refine goesL_ (some 15) rfl rfl Try.func10 (by kernel_rfl) rfl #[.slice A0 l0.length c0] rfl (by (try simp only [List.map_toArray, List.map_cons, List.map_nil]); first | done | rfl | (simp only [List.length_drop, List.length_take]; rfl)) ?_; (with_reducible refine (abacuslaw01_size.calls k _ _ l0 t240 _ ?side1 ?side2 A5.out).mono ?_); (case side1 => repeat (first | exact (Kd.C_below HR0.out HB.out) | (with_reducible refine Kd.C_alloc ?_ _) | (with_reducible refine Kd.C_drewN ?_ _) | (with_reducible refine Kd.C_drew ?_))); (case side2 => exact HC0.out); rintro e w' ⟨rfl, ⟨nd, rfl⟩⟩; refine ⟨_, rfl, ?_⟩) | ((with_reducible refine gate_callee (f := 22) rfl ?_); refine goesL_ (some 20) rfl rfl Try.func22 (by kernel_rfl) rfl #[.slice A0 l0.length c0, .int .u64 a1] rfl (by (try simp only [List.map_toArray, List.map_cons, List.map_nil]); first | done | rfl | (simp only [List.length_drop, List.length_take]; rfl)) ?_; (with_reducible refine (nat_DivSmall.calls k _ _ l0 a1 t241 t244 t245 _ ?side1 ?side2 A7.out).mono ?_); (case side1 => repeat (first | exact (Kd.C_below HR0.out (by repeat (first | (with_reducible first | exact HB.out | apply below_alloc | apply pw_below_drewN | apply below_drew1) | exact HB.out))) | (with_reducible refine Kd.C_alloc ?_ _) | (with_reducible refine Kd.C_drewN ?_ _) | (with_reducible refine Kd.C_drew ?_))); (case side2 => exact HC0.out); rintro e w9 ⟨v242, rfl, ho0, hb⟩; refine ⟨_, rfl, ?_⟩; have n0_ := Aside0.mk (Kd.V_lower (Kd.V_mono (ok' := fun k_ => True) ho0 (fun k_ hk_ => trivial)) (below_size (by repeat (first | (with_reducible first | exact HB.out | apply below_alloc | apply pw_below_drewN | apply below_drew1) | exact HB.out)))); have n1_ := Aside0.mk (below_step (by repeat (first | (with_reducible first | exact HB.out | apply below_alloc | apply pw_below_drewN | apply below_drew1) | exact HB.out)) hb); clear HB; have HO243 := n0_; have HB := n1_; clear n0_ n1_; (try clear hb); (try clear hb2); (try clear hk); (try clear hi); (try clear ho0)))
      go_ret
      exact ⟨by first | rfl | (simp [errW_none, errW_some] <;> rfl) | (simp [*, errW_none, errW_some] <;> rfl), by repeat (first | (with_reducible first | exact HB.out | apply below_alloc | apply pw_below_drewN | apply below_drew1) | exact HB.out)⟩
    · rw [if_neg c6] at H
      have c6b0 : decide (4096 < t240) = false := decide_eq_false c6
      clear c6
      replace H := Option.bind_eq_some_iff.mp H
      obtain ⟨⟨t246, t249, t250⟩, A100, H⟩ := H
      replace H : (if a1 = 0 then (if t250 = 4 then (if (t246.length : Int) = 0 then (some (t249 == 0)) else (some false)) else (some false)) else (if t250 = 0 then (abacuslaw01_NatDivides.j0 k l0 a1 t246 t249 (decide (t249 ≥ a1))) else (abacuslaw01_NatDivides.j0 k l0 a1 t246 t249 true))) = some r := H
      have A10 := Aside0.mk A100
      clear A100
      by_cases c11 : a1 = 0
      · rw [if_pos c11] at H
        have c11b0 : (a1 == 0) = true := beq_iff_eq.mpr c11
        have c11b1 : (a1 != 0) = false := bne_eq_false_iff_eq.mpr c11
        clear c11
        by_cases c12 : t250 = 4
        · rw [if_pos c12] at H
          have c12b0 : (t250 == 4) = true := beq_iff_eq.mpr c12
          have c12b1 : (t250 != 4) = false := bne_eq_false_iff_eq.mpr c12
          clear c12
          by_cases c13 : (t246.length : Int) = 0
          · rw [if_pos c13] at H
            have c13b0 : ((t246.length : Int) == 0) = true := beq_iff_eq.mpr c13
            have c13b1 : ((t246.length : Int) != 0) = false := bne_eq_false_iff_eq.mpr c13
            clear c13
            obtain rfl := Option.some.inj H
            go_enter Try.func8, Try.ntmps8
            go_wp2_with (first | ((with_reducible refine gate_callee (f := 9) rfl ?_); refine goesL_ (some 12) rfl rfl Try.func9 (by kernel_rfl) rfl #[] rfl (by (try simp only [List.map_toArray, List.map_cons, List.map_nil]); first | done | rfl | (simp only [List.length_drop, List.length_take]; rfl)) ?_; (with_reducible refine (abacuslaw01_awake.calls k  true _ A3.out).mono ?_); rintro e w14 ⟨rfl, hb⟩; refine ⟨_, rfl, ?_⟩; have n0_ := Aside0.mk (below_step (by repeat (first | (with_reducible first | exact HB.out | apply below_alloc | apply pw_below_drewN | apply below_drew1) | exact HB.out)) hb); clear HB; have HB := n0_; clear n0_; (try clear hb); (try clear hb2); (try clear hk); (try clear hi)) | ((with_reducible refine gate_callee (f := 10) rfl ?_); refine goesL_ (some 15) rfl rfl Try.func10 (by kernel_rfl) rfl #[.slice A0 l0.length c0] rfl (by (try simp only [List.map_toArray, List.map_cons, List.map_nil]); first | done | rfl | (simp only [List.length_drop, List.length_take]; rfl)) ?_; (with_reducible refine (abacuslaw01_size.calls k _ _ l0 t240 _ ?side1 ?side2 A5.out).mono ?_); (case side1 => repeat (first | exact (Kd.C_below HR0.out HB.out) | (with_reducible refine Kd.C_alloc ?_ _) | (with_reducible refine Kd.C_drewN ?_ _) | (with_reducible refine Kd.C_drew ?_))); (case side2 => exact HC0.out); rintro e w' ⟨rfl, ⟨nd, rfl⟩⟩; refine ⟨_, rfl, ?_⟩) | ((with_reducible refine gate_callee (f := 22) rfl ?_); refine goesL_ (some 29) rfl rfl Try.func22 (by kernel_rfl) rfl #[.slice A0 l0.length c0, .int .u64 a1] rfl (by (try simp only [List.map_toArray, List.map_cons, List.map_nil]); first | done | rfl | (simp only [List.length_drop, List.length_take]; rfl)) ?_; (with_reducible refine (nat_DivSmall.calls k _ _ l0 a1 t246 t249 t250 _ ?side1 ?side2 A10.out).mono ?_); (case side1 => repeat (first | exact (Kd.C_below HR0.out (by repeat (first | (with_reducible first | exact HB.out | apply below_alloc | apply pw_below_drewN | apply below_drew1) | exact HB.out))) | (with_reducible refine Kd.C_alloc ?_ _) | (with_reducible refine Kd.C_drewN ?_ _) | (with_reducible refine Kd.C_drew ?_))); (case side2 => exact HC0.out); rintro e w15 ⟨v247, rfl, ho0, hb⟩; refine ⟨_, rfl, ?_⟩; have n0_ := Aside0.mk (Kd.V_lower (Kd.V_mono (ok' := fun k_ => True) ho0 (fun k_ hk_ => trivial)) (below_size (by repeat (first | (with_reducible first | exact HB.out | apply below_alloc | apply pw_below_drewN | apply below_drew1) | exact HB.out)))); have n1_ := Aside0.mk (below_step (by repeat (first | (with_reducible first | exact HB.out | apply below_alloc | apply pw_below_drewN | apply below_drew1) | exact HB.out)) hb); clear HB; have HO248 := n0_; have HB := n1_; clear n0_ n1_; (try clear hb); (try clear hb2); (try clear hk); (try clear hi); (try clear ho0); obtain ⟨Ao16, co16, eo16⟩ := Kd.V_slice HO248.out; subst eo16))
            go_ret
            exact ⟨by first | rfl | (simp [errW_none, errW_some] <;> rfl) | (simp [*, errW_none, errW_some] <;> rfl), by repeat (first | (with_reducible first | exact HB.out | apply below_alloc | apply pw_below_drewN | apply below_drew1) | exact HB.out)⟩
          · rw [if_neg c13] at H
            have c13b0 : ((t246.length : Int) == 0) = false := beq_eq_false_iff_ne.mpr c13
            have c13b1 : ((t246.length : Int) != 0) = true := bne_iff_ne.mpr c13
            have c13b2 : ¬ (t246 = []) := fun h_ => c13 (by rw [h_]; rfl)
            obtain rfl := Option.some.inj H
            go_enter Try.func8, Try.ntmps8
            go_wp2_with (first | ((with_reducible refine gate_callee (f := 9) rfl ?_); refine goesL_ (some 12) rfl rfl Try.func9 (by kernel_rfl) rfl #[] rfl (by (try simp only [List.map_toArray, List.map_cons, List.map_nil]); first | done | rfl | (simp only [List.length_drop, List.length_take]; rfl)) ?_; (with_reducible refine (abacuslaw01_awake.calls k  true _ A3.out).mono ?_); rintro e w17 ⟨rfl, hb⟩; refine ⟨_, rfl, ?_⟩; have n0_ := Aside0.mk (below_step (by repeat (first | (with_reducible first | exact HB.out | apply below_alloc | apply pw_below_drewN | apply below_drew1) | exact HB.out)) hb); clear HB; have HB := n0_; clear n0_; (try clear hb); (try clear hb2); (try clear hk); (try clear hi)) | ((with_reducible refine gate_callee (f := 10) rfl ?_); refine goesL_ (some 15) rfl rfl Try.func10 (by kernel_rfl) rfl #[.slice A0 l0.length c0] rfl (by (try simp only [List.map_toArray, List.map_cons, List.map_nil]); first | done | rfl | (simp only [List.length_drop, List.length_take]; rfl)) ?_; (with_reducible refine (abacuslaw01_size.calls k _ _ l0 t240 _ ?side1 ?side2 A5.out).mono ?_); (case side1 => repeat (first | exact (Kd.C_below HR0.out HB.out) | (with_reducible refine Kd.C_alloc ?_ _) | (with_reducible refine Kd.C_drewN ?_ _) | (with_reducible refine Kd.C_drew ?_))); (case side2 => exact HC0.out); rintro e w' ⟨rfl, ⟨nd, rfl⟩⟩; refine ⟨_, rfl, ?_⟩) | ((with_reducible refine gate_callee (f := 22) rfl ?_); refine goesL_ (some 29) rfl rfl Try.func22 (by kernel_rfl) rfl #[.slice A0 l0.length c0, .int .u64 a1] rfl (by (try simp only [List.map_toArray, List.map_cons, List.map_nil]); first | done | rfl | (simp only [List.length_drop, List.length_take]; rfl)) ?_; (with_reducible refine (nat_DivSmall.calls k _ _ l0 a1 t246 t249 t250 _ ?side1 ?side2 A10.out).mono ?_); (case side1 => repeat (first | exact (Kd.C_below HR0.out (by repeat (first | (with_reducible first | exact HB.out | apply below_alloc | apply pw_below_drewN | apply below_drew1) | exact HB.out))) | (with_reducible refine Kd.C_alloc ?_ _) | (with_reducible refine Kd.C_drewN ?_ _) | (with_reducible refine Kd.C_drew ?_))); (case side2 => exact HC0.out); rintro e w18 ⟨v247, rfl, ho0, hb⟩; refine ⟨_, rfl, ?_⟩; have n0_ := Aside0.mk (Kd.V_lower (Kd.V_mono (ok' := fun k_ => True) ho0 (fun k_ hk_ => trivial)) (below_size (by repeat (first | (with_reducible first | exact HB.out | apply below_alloc | apply pw_below_drewN | apply below_drew1) | exact HB.out)))); have n1_ := Aside0.mk (below_step (by repeat (first | (with_reducible first | exact HB.out | apply below_alloc | apply pw_below_drewN | apply below_drew1) | exact HB.out)) hb); clear HB; have HO248 := n0_; have HB := n1_; clear n0_ n1_; (try clear hb); (try clear hb2); (try clear hk); (try clear hi); (try clear ho0); obtain ⟨Ao19, co19, eo19⟩ := Kd.V_slice HO248.out; subst eo19))
            go_ret
            exact ⟨by first | rfl | (simp [errW_none, errW_some] <;> rfl) | (simp [*, errW_none, errW_some] <;> rfl), by repeat (first | (with_reducible first | exact HB.out | apply below_alloc | apply pw_below_drewN | apply below_drew1) | exact HB.out)⟩
        · rw [if_neg c12] at H
          have c12b0 : (t250 == 4) = false := beq_eq_false_iff_ne.mpr c12
          have c12b1 : (t250 != 4) = true := bne_iff_ne.mpr c12
          obtain rfl := Option.some.inj H
          go_enter Try.func8, Try.ntmps8
          go_wp2_with (first | ((with_reducible refine gate_callee (f := 9) rfl ?_); refine goesL_ (some 12) rfl rfl Try.func9 (by kernel_rfl) rfl #[] rfl (by (try simp only [List.map_toArray, List.map_cons, List.map_nil]); first | done | rfl | (simp only [List.length_drop, List.length_take]; rfl)) ?_; (with_reducible refine (abacuslaw01_awake.calls k  true _ A3.out).mono ?_); rintro e w20 ⟨rfl, hb⟩; refine ⟨_, rfl, ?_⟩; have n0_ := Aside0.mk (below_step (by repeat (first | (with_reducible first | exact HB.out | apply below_alloc | apply pw_below_drewN | apply below_drew1) | exact HB.out)) hb); clear HB; have HB := n0_; clear n0_; (try clear hb); (try clear hb2); (try clear hk); (try clear hi)) | ((with_reducible refine gate_callee (f := 10) rfl ?_); refine goesL_ (some 15) rfl rfl Try.func10 (by kernel_rfl) rfl #[.slice A0 l0.length c0] rfl (by (try simp only [List.map_toArray, List.map_cons, List.map_nil]); first | done | rfl | (simp only [List.length_drop, List.length_take]; rfl)) ?_; (with_reducible refine (abacuslaw01_size.calls k _ _ l0 t240 _ ?side1 ?side2 A5.out).mono ?_); (case side1 => repeat (first | exact (Kd.C_below HR0.out HB.out) | (with_reducible refine Kd.C_alloc ?_ _) | (with_reducible refine Kd.C_drewN ?_ _) | (with_reducible refine Kd.C_drew ?_))); (case side2 => exact HC0.out); rintro e w' ⟨rfl, ⟨nd, rfl⟩⟩; refine ⟨_, rfl, ?_⟩) | ((with_reducible refine gate_callee (f := 22) rfl ?_); refine goesL_ (some 29) rfl rfl Try.func22 (by kernel_rfl) rfl #[.slice A0 l0.length c0, .int .u64 a1] rfl (by (try simp only [List.map_toArray, List.map_cons, List.map_nil]); first | done | rfl | (simp only [List.length_drop, List.length_take]; rfl)) ?_; (with_reducible refine (nat_DivSmall.calls k _ _ l0 a1 t246 t249 t250 _ ?side1 ?side2 A10.out).mono ?_); (case side1 => repeat (first | exact (Kd.C_below HR0.out (by repeat (first | (with_reducible first | exact HB.out | apply below_alloc | apply pw_below_drewN | apply below_drew1) | exact HB.out))) | (with_reducible refine Kd.C_alloc ?_ _) | (with_reducible refine Kd.C_drewN ?_ _) | (with_reducible refine Kd.C_drew ?_))); (case side2 => exact HC0.out); rintro e w21 ⟨v247, rfl, ho0, hb⟩; refine ⟨_, rfl, ?_⟩; have n0_ := Aside0.mk (Kd.V_lower (Kd.V_mono (ok' := fun k_ => True) ho0 (fun k_ hk_ => trivial)) (below_size (by repeat (first | (with_reducible first | exact HB.out | apply below_alloc | apply pw_below_drewN | apply below_drew1) | exact HB.out)))); have n1_ := Aside0.mk (below_step (by repeat (first | (with_reducible first | exact HB.out | apply below_alloc | apply pw_below_drewN | apply below_drew1) | exact HB.out)) hb); clear HB; have HO248 := n0_; have HB := n1_; clear n0_ n1_; (try clear hb); (try clear hb2); (try clear hk); (try clear hi); (try clear ho0)))
          go_ret
          exact ⟨by first | rfl | (simp [errW_none, errW_some] <;> rfl) | (simp [*, errW_none, errW_some] <;> rfl), by repeat (first | (with_reducible first | exact HB.out | apply below_alloc | apply pw_below_drewN | apply below_drew1) | exact HB.out)⟩
      · rw [if_neg c11] at H
        have c11b0 : (a1 == 0) = false := beq_eq_false_iff_ne.mpr c11
        have c11b1 : (a1 != 0) = true := bne_iff_ne.mpr c11
        have HC22 := Aside0.mk H
        clear H
        go_enter Try.func8, Try.ntmps8
        go_upto_region 9 with (first | ((with_reducible refine gate_callee (f := 9) rfl ?_); refine goesL_ (some 12) rfl rfl Try.func9 (by kernel_rfl) rfl #[] rfl (by (try simp only [List.map_toArray, List.map_cons, List.map_nil]); first | done | rfl | (simp only [List.length_drop, List.length_take]; rfl)) ?_; (with_reducible refine (abacuslaw01_awake.calls k  true _ A3.out).mono ?_); rintro e w23 ⟨rfl, hb⟩; refine ⟨_, rfl, ?_⟩; have n0_ := Aside0.mk (below_step (by repeat (first | (with_reducible first | exact HB.out | apply below_alloc | apply pw_below_drewN | apply below_drew1) | exact HB.out)) hb); clear HB; have HB := n0_; clear n0_; (try clear hb); (try clear hb2); (try clear hk); (try clear hi)) | ((with_reducible refine gate_callee (f := 10) rfl ?_); refine goesL_ (some 15) rfl rfl Try.func10 (by kernel_rfl) rfl #[.slice A0 l0.length c0] rfl (by (try simp only [List.map_toArray, List.map_cons, List.map_nil]); first | done | rfl | (simp only [List.length_drop, List.length_take]; rfl)) ?_; (with_reducible refine (abacuslaw01_size.calls k _ _ l0 t240 _ ?side1 ?side2 A5.out).mono ?_); (case side1 => repeat (first | exact (Kd.C_below HR0.out HB.out) | (with_reducible refine Kd.C_alloc ?_ _) | (with_reducible refine Kd.C_drewN ?_ _) | (with_reducible refine Kd.C_drew ?_))); (case side2 => exact HC0.out); rintro e w' ⟨rfl, ⟨nd, rfl⟩⟩; refine ⟨_, rfl, ?_⟩) | ((with_reducible refine gate_callee (f := 22) rfl ?_); refine goesL_ (some 29) rfl rfl Try.func22 (by kernel_rfl) rfl #[.slice A0 l0.length c0, .int .u64 a1] rfl (by (try simp only [List.map_toArray, List.map_cons, List.map_nil]); first | done | rfl | (simp only [List.length_drop, List.length_take]; rfl)) ?_; (with_reducible refine (nat_DivSmall.calls k _ _ l0 a1 t246 t249 t250 _ ?side1 ?side2 A10.out).mono ?_); (case side1 => repeat (first | exact (Kd.C_below HR0.out (by repeat (first | (with_reducible first | exact HB.out | apply below_alloc | apply pw_below_drewN | apply below_drew1) | exact HB.out))) | (with_reducible refine Kd.C_alloc ?_ _) | (with_reducible refine Kd.C_drewN ?_ _) | (with_reducible refine Kd.C_drew ?_))); (case side2 => exact HC0.out); rintro e w24 ⟨v247, rfl, ho0, hb⟩; refine ⟨_, rfl, ?_⟩; have n0_ := Aside0.mk (Kd.V_lower (Kd.V_mono (ok' := fun k_ => True) ho0 (fun k_ hk_ => trivial)) (below_size (by repeat (first | (with_reducible first | exact HB.out | apply below_alloc | apply pw_below_drewN | apply below_drew1) | exact HB.out)))); have n1_ := Aside0.mk (below_step (by repeat (first | (with_reducible first | exact HB.out | apply below_alloc | apply pw_below_drewN | apply below_drew1) | exact HB.out)) hb); clear HB; have HO248 := n0_; have HB := n1_; clear n0_ n1_; (try clear hb); (try clear hb2); (try clear hk); (try clear hi); (try clear ho0)))
        (try simp only [Act.put, List.setIfInBounds_toArray, List.set_cons_zero, List.set_cons_succ])
        go_cut [52] (fun v52 wc => ∃ (kq : Nat) (x52_21 : Bool), v52 = .bool x52_21 ∧ Aside0 (abacuslaw01_NatDivides.j0 kq l0 a1 t246 t249 x52_21 = some r) ∧ Aside0 (kq ≤ k) ∧ Aside0 (Kd.V (Kd.int .u64) 33 wc w.heap.size (fun _ => True) v247 t246) ∧ Aside0 (Below w.heap.size w wc))
        case first =>
          have H := HC22.out
          clear HC22
          by_cases c25 : t250 = 0
          · rw [if_pos c25] at H
            have c25b0 : (t250 == 0) = true := beq_iff_eq.mpr c25
            have c25b1 : (t250 != 0) = false := bne_eq_false_iff_eq.mpr c25
            clear c25
            (first | rw [c25b0] | (simp only [i64_w, i32_w]; rw [c25b0]) | rw [c25b1] | skip)
            have H' := Aside0.mk H
            clear H
            go_wp2
            go_meet
            case rel => exact ⟨_, (decide (t249 ≥ a1)), (by first | rfl | (simp; done) | (simp [*]; done)), H', ⟨by first | omega | exact Nat.le_refl _⟩, ⟨by (with_reducible repeat (first | apply Kd.V_alloc | apply Kd.V_drewN | apply Kd.V_drew)); exact HO248.out⟩, ⟨by repeat (first | (with_reducible first | exact HB.out | apply below_alloc | apply pw_below_drewN | apply below_drew1) | exact HB.out)⟩⟩
          · rw [if_neg c25] at H
            have c25b0 : (t250 == 0) = false := beq_eq_false_iff_ne.mpr c25
            have c25b1 : (t250 != 0) = true := bne_iff_ne.mpr c25
            (first | rw [c25b0] | (simp only [i64_w, i32_w]; rw [c25b0]) | rw [c25b1] | skip)
            have H' := Aside0.mk H
            clear H
            go_wp2
            go_meet
            case rel => exact ⟨_, (true), (by first | rfl | (simp; done) | (simp [*]; done)), H', ⟨by first | omega | exact Nat.le_refl _⟩, ⟨by (with_reducible repeat (first | apply Kd.V_alloc | apply Kd.V_drewN | apply Kd.V_drew)); exact HO248.out⟩, ⟨by repeat (first | (with_reducible first | exact HB.out | apply below_alloc | apply pw_below_drewN | apply below_drew1) | exact HB.out)⟩⟩
        case rest =>
          clear HC22
          try clear c1
          try clear c2
          try clear p2
          try clear c4
          try clear c6
          try clear c6b0
          try clear c8
          try clear c9
          try clear c10
          try clear c11
          try clear c11b0
          try clear c11b1
          try clear c12
          try clear c12b0
          try clear c12b1
          try clear c13
          try clear c13b0
          try clear c13b1
          try clear c13b2
          try clear c22
          try clear c25
          try clear c25b0
          try clear c25b1
          obtain ⟨kq, x52_21, rfl, HA, HJ21, HO_8, HB⟩ := hcut
          cases kq with
          | zero => exact absurd HA.out (by simp [abacuslaw01_NatDivides.j0])
          | succ kj21 =>
            have H := HA.out
            clear HA
            simp only [abacuslaw01_NatDivides.j0] at H
            by_cases c26 : x52_21 = true
            · subst c26
              have H1 : (some false) = some r := by rw [if_pos rfl] at H; exact H
              clear H
              have H := H1
              clear H1
              obtain rfl := Option.some.inj H
              go_wp2
              go_ret
              exact ⟨by first | rfl | (simp [errW_none, errW_some] <;> rfl) | (simp [*, errW_none, errW_some] <;> rfl), by repeat (first | (with_reducible first | exact HB.out | apply below_alloc | apply pw_below_drewN | apply below_drew1) | exact HB.out)⟩
            · replace c26 := Bool.eq_false_iff.mpr c26
              subst c26
              have H1 : ((nat_MulAdd.f kj21 t246 a1 t249).bind fun bt251 => (if bt251.2 = 0 then ((nat_Cmp.f kj21 bt251.1 l0).bind fun t255 => (if t255 = 0 then ((abacuslaw01_size.f kj21 l0).bind fun t256 => (some ((bt251.1.length : Int) == t256))) else (some false))) else (some false))) = some r := by rw [if_neg (show ¬ (false = true) by decide)] at H; exact H
              clear H
              have H := H1
              clear H1
              replace H := Option.bind_eq_some_iff.mp H
              obtain ⟨⟨t251, t254⟩, A270, H⟩ := H
              replace H : (if t254 = 0 then ((nat_Cmp.f kj21 t251 l0).bind fun t255 => (if t255 = 0 then ((abacuslaw01_size.f kj21 l0).bind fun t256 => (some ((t251.length : Int) == t256))) else (some false))) else (some false)) = some r := H
              have A27 := Aside0.mk A270
              clear A270
              by_cases c28 : t254 = 0
              · rw [if_pos c28] at H
                have c28b0 : (t254 == 0) = true := beq_iff_eq.mpr c28
                have c28b1 : (t254 != 0) = false := bne_eq_false_iff_eq.mpr c28
                clear c28
                replace H := Option.bind_eq_some_iff.mp H
                obtain ⟨t255, A290, H⟩ := H
                replace H : (if t255 = 0 then ((abacuslaw01_size.f kj21 l0).bind fun t256 => (some ((t251.length : Int) == t256))) else (some false)) = some r := H
                have A29 := Aside0.mk A290
                clear A290
                by_cases c30 : t255 = 0
                · rw [if_pos c30] at H
                  have c30b0 : (t255 == 0) = true := beq_iff_eq.mpr c30
                  have c30b1 : (t255 != 0) = false := bne_eq_false_iff_eq.mpr c30
                  clear c30
                  replace H := Option.bind_eq_some_iff.mp H
                  obtain ⟨t256, A310, H⟩ := H
                  replace H : (some ((t251.length : Int) == t256)) = some r := H
                  have A31 := Aside0.mk A310
                  clear A310
                  obtain rfl := Option.some.inj H
                  obtain ⟨Ao32, co32, eo32⟩ := Kd.V_slice HO_8.out
                  subst eo32
                  go_wp2_with (first | ((with_reducible refine gate_callee (f := 23) rfl ?_); refine goesL_ (some 57) rfl rfl Try.func23 (by kernel_rfl) rfl #[.slice Ao32 t246.length co32, .int .u64 a1, .int .u64 t249] rfl (by (try simp only [List.map_toArray, List.map_cons, List.map_nil]); first | done | rfl | (simp only [List.length_drop, List.length_take]; rfl)) ?_; (with_reducible refine (nat_MulAdd.calls kj21 _ _ t246 a1 t249 t251 t254 _ ?side1 ?side2 A27.out).mono ?_); (case side1 => repeat (first | exact (Kd.V_reads' HO_8.out).2.2 | (with_reducible refine Kd.C_alloc ?_ _) | (with_reducible refine Kd.C_drewN ?_ _) | (with_reducible refine Kd.C_drew ?_))); (case side2 => exact (Kd.V_reads' HO_8.out).2.1); rintro e w33 ⟨v252, rfl, ho0, hb⟩; refine ⟨_, rfl, ?_⟩; have n0_ := Aside0.mk (Kd.V_below (by (with_reducible repeat (first | apply Kd.V_alloc | apply Kd.V_drewN | apply Kd.V_drew)); exact HO_8.out) hb); have n1_ := Aside0.mk (Kd.V_lower (Kd.V_mono (ok' := fun k_ => True) ho0 (fun k_ hk_ => trivial)) (below_size (by repeat (first | (with_reducible first | exact HB.out | apply below_alloc | apply pw_below_drewN | apply below_drew1) | exact HB.out)))); have n2_ := Aside0.mk (below_step (by repeat (first | (with_reducible first | exact HB.out | apply below_alloc | apply pw_below_drewN | apply below_drew1) | exact HB.out)) hb); clear HO_8; clear HB; have HO_8 := n0_; have HO253 := n1_; have HB := n2_; clear n0_ n1_ n2_; (try clear hb); (try clear hb2); (try clear hk); (try clear hi); (try clear ho0); obtain ⟨Ao34, co34, eo34⟩ := Kd.V_slice HO253.out; subst eo34) | (go_at_call 18; (with_reducible refine (nat_Cmp.calls kj21 _ _ t251 _ _ l0 t255 _ ?side1 ?side2 ?side3 ?side4 A29.out).mono ?_); (case side1 => repeat (first | exact (Kd.V_reads' HO253.out).2.2 | (with_reducible refine Kd.C_alloc ?_ _) | (with_reducible refine Kd.C_drewN ?_ _) | (with_reducible refine Kd.C_drew ?_))); (case side2 => exact (Kd.V_reads' HO253.out).2.1); (case side3 => repeat (first | exact (Kd.C_below HR0.out HB.out) | (with_reducible refine Kd.C_alloc ?_ _) | (with_reducible refine Kd.C_drewN ?_ _) | (with_reducible refine Kd.C_drew ?_))); (case side4 => exact HC0.out); rintro e w' ⟨rfl, ⟨nd, rfl⟩⟩) | (go_at_call 10; (with_reducible refine (abacuslaw01_size.calls kj21 _ _ l0 t256 _ ?side1 ?side2 A31.out).mono ?_); (case side1 => repeat (first | exact (Kd.C_below HR0.out (by repeat (first | (with_reducible first | exact HB.out | apply below_alloc | apply pw_below_drewN | apply below_drew1) | exact HB.out))) | (with_reducible refine Kd.C_alloc ?_ _) | (with_reducible refine Kd.C_drewN ?_ _) | (with_reducible refine Kd.C_drew ?_))); (case side2 => exact HC0.out); rintro e w' ⟨rfl, ⟨nd, rfl⟩⟩))
                  go_ret
                  exact ⟨by first | rfl | (simp [errW_none, errW_some] <;> rfl) | (simp [*, errW_none, errW_some] <;> rfl), by repeat (first | (with_reducible first | exact HB.out | apply below_alloc | apply pw_below_drewN | apply below_drew1) | exact HB.out)⟩
                · rw [if_neg c30] at H
                  have c30b0 : (t255 == 0) = false := beq_eq_false_iff_ne.mpr c30
                  have c30b1 : (t255 != 0) = true := bne_iff_ne.mpr c30
                  obtain rfl := Option.some.inj H
                  obtain ⟨Ao35, co35, eo35⟩ := Kd.V_slice HO_8.out
                  subst eo35
                  go_wp2_with (first | ((with_reducible refine gate_callee (f := 23) rfl ?_); refine goesL_ (some 57) rfl rfl Try.func23 (by kernel_rfl) rfl #[.slice Ao35 t246.length co35, .int .u64 a1, .int .u64 t249] rfl (by (try simp only [List.map_toArray, List.map_cons, List.map_nil]); first | done | rfl | (simp only [List.length_drop, List.length_take]; rfl)) ?_; (with_reducible refine (nat_MulAdd.calls kj21 _ _ t246 a1 t249 t251 t254 _ ?side1 ?side2 A27.out).mono ?_); (case side1 => repeat (first | exact (Kd.V_reads' HO_8.out).2.2 | (with_reducible refine Kd.C_alloc ?_ _) | (with_reducible refine Kd.C_drewN ?_ _) | (with_reducible refine Kd.C_drew ?_))); (case side2 => exact (Kd.V_reads' HO_8.out).2.1); rintro e w36 ⟨v252, rfl, ho0, hb⟩; refine ⟨_, rfl, ?_⟩; have n0_ := Aside0.mk (Kd.V_below (by (with_reducible repeat (first | apply Kd.V_alloc | apply Kd.V_drewN | apply Kd.V_drew)); exact HO_8.out) hb); have n1_ := Aside0.mk (Kd.V_lower (Kd.V_mono (ok' := fun k_ => True) ho0 (fun k_ hk_ => trivial)) (below_size (by repeat (first | (with_reducible first | exact HB.out | apply below_alloc | apply pw_below_drewN | apply below_drew1) | exact HB.out)))); have n2_ := Aside0.mk (below_step (by repeat (first | (with_reducible first | exact HB.out | apply below_alloc | apply pw_below_drewN | apply below_drew1) | exact HB.out)) hb); clear HO_8; clear HB; have HO_8 := n0_; have HO253 := n1_; have HB := n2_; clear n0_ n1_ n2_; (try clear hb); (try clear hb2); (try clear hk); (try clear hi); (try clear ho0); obtain ⟨Ao37, co37, eo37⟩ := Kd.V_slice HO253.out; subst eo37) | (go_at_call 18; (with_reducible refine (nat_Cmp.calls kj21 _ _ t251 _ _ l0 t255 _ ?side1 ?side2 ?side3 ?side4 A29.out).mono ?_); (case side1 => repeat (first | exact (Kd.V_reads' HO253.out).2.2 | (with_reducible refine Kd.C_alloc ?_ _) | (with_reducible refine Kd.C_drewN ?_ _) | (with_reducible refine Kd.C_drew ?_))); (case side2 => exact (Kd.V_reads' HO253.out).2.1); (case side3 => repeat (first | exact (Kd.C_below HR0.out HB.out) | (with_reducible refine Kd.C_alloc ?_ _) | (with_reducible refine Kd.C_drewN ?_ _) | (with_reducible refine Kd.C_drew ?_))); (case side4 => exact HC0.out); rintro e w' ⟨rfl, ⟨nd, rfl⟩⟩))
                  go_ret
                  exact ⟨by first | rfl | (simp [errW_none, errW_some] <;> rfl) | (simp [*, errW_none, errW_some] <;> rfl), by repeat (first | (with_reducible first | exact HB.out | apply below_alloc | apply pw_below_drewN | apply below_drew1) | exact HB.out)⟩
              · rw [if_neg c28] at H
                have c28b0 : (t254 == 0) = false := beq_eq_false_iff_ne.mpr c28
                have c28b1 : (t254 != 0) = true := bne_iff_ne.mpr c28
                obtain rfl := Option.some.inj H
                obtain ⟨Ao38, co38, eo38⟩ := Kd.V_slice HO_8.out
                subst eo38
                go_wp2_with (first | ((with_reducible refine gate_callee (f := 23) rfl ?_); refine goesL_ (some 57) rfl rfl Try.func23 (by kernel_rfl) rfl #[.slice Ao38 t246.length co38, .int .u64 a1, .int .u64 t249] rfl (by (try simp only [List.map_toArray, List.map_cons, List.map_nil]); first | done | rfl | (simp only [List.length_drop, List.length_take]; rfl)) ?_; (with_reducible refine (nat_MulAdd.calls kj21 _ _ t246 a1 t249 t251 t254 _ ?side1 ?side2 A27.out).mono ?_); (case side1 => repeat (first | exact (Kd.V_reads' HO_8.out).2.2 | (with_reducible refine Kd.C_alloc ?_ _) | (with_reducible refine Kd.C_drewN ?_ _) | (with_reducible refine Kd.C_drew ?_))); (case side2 => exact (Kd.V_reads' HO_8.out).2.1); rintro e w39 ⟨v252, rfl, ho0, hb⟩; refine ⟨_, rfl, ?_⟩; have n0_ := Aside0.mk (Kd.V_below (by (with_reducible repeat (first | apply Kd.V_alloc | apply Kd.V_drewN | apply Kd.V_drew)); exact HO_8.out) hb); have n1_ := Aside0.mk (Kd.V_lower (Kd.V_mono (ok' := fun k_ => True) ho0 (fun k_ hk_ => trivial)) (below_size (by repeat (first | (with_reducible first | exact HB.out | apply below_alloc | apply pw_below_drewN | apply below_drew1) | exact HB.out)))); have n2_ := Aside0.mk (below_step (by repeat (first | (with_reducible first | exact HB.out | apply below_alloc | apply pw_below_drewN | apply below_drew1) | exact HB.out)) hb); clear HO_8; clear HB; have HO_8 := n0_; have HO253 := n1_; have HB := n2_; clear n0_ n1_ n2_; (try clear hb); (try clear hb2); (try clear hk); (try clear hi); (try clear ho0)))
                go_ret
                exact ⟨by first | rfl | (simp [errW_none, errW_some] <;> rfl) | (simp [*, errW_none, errW_some] <;> rfl), by repeat (first | (with_reducible first | exact HB.out | apply below_alloc | apply pw_below_drewN | apply below_drew1) | exact HB.out)⟩
  · replace c4 := Bool.eq_false_iff.mpr c4
    subst c4
    have H1 : (some false) = some r := by rw [if_neg (show ¬ (false = true) by decide)] at H; exact H
    clear H
    have H := H1
    clear H1
    obtain rfl := Option.some.inj H
    go_enter Try.func8, Try.ntmps8
    go_wp2_with (first | ((with_reducible refine gate_callee (f := 9) rfl ?_); refine goesL_ (some 12) rfl rfl Try.func9 (by kernel_rfl) rfl #[] rfl (by (try simp only [List.map_toArray, List.map_cons, List.map_nil]); first | done | rfl | (simp only [List.length_drop, List.length_take]; rfl)) ?_; (with_reducible refine (abacuslaw01_awake.calls k  false _ A3.out).mono ?_); rintro e w40 ⟨rfl, hb⟩; refine ⟨_, rfl, ?_⟩; have n0_ := Aside0.mk (below_step (by repeat (first | (with_reducible first | exact HB.out | apply below_alloc | apply pw_below_drewN | apply below_drew1) | exact HB.out)) hb); clear HB; have HB := n0_; clear n0_; (try clear hb); (try clear hb2); (try clear hk); (try clear hi)))
    go_ret
    exact ⟨by first | rfl | (simp [errW_none, errW_some] <;> rfl) | (simp [*, errW_none, errW_some] <;> rfl), by repeat (first | (with_reducible first | exact HB.out | apply below_alloc | apply pw_below_drewN | apply below_drew1) | exact HB.out)⟩

/-- THE ONE PURE STATEMENT of abacuslaw01_NatDivides: yours. -/
def abacuslaw01_NatDivides.Pure : Prop := ∀ (l0 : List Int) (a1 : Int), l0.length ≤ maxLen → l0.length * 8 ≤ 140737488351232 → (∀ x ∈ l0, (Lit.int .u64 x).wf = true) → (Lit.int .u64 a1).wf = true → ∃ k, abacuslaw01_NatDivides.f k l0 a1 = some true
theorem abacuslaw01_NatDivides.walk (P : abacuslaw01_NatDivides.Pure) (a0 : Option Addr) (len0 cap0 : Nat) (z0 : List Int) (a1 : Int) (w : World) (w0 : (a0 = none ∧ len0 = 0 ∧ cap0 = 0 ∧ z0 = []) ∨ ∃ x, a0 = some x ∧ len0 ≤ cap0 ∧ cap0 ≤ maxLen ∧ z0.length = cap0 ∧ (∀ i, i < z0.length → w.cell? (x.add i) = some (.int .u64 (z0.getD i 0))) ∧ ∀ n ∈ z0, (Lit.int .u64 n).wf = true) (y0 : len0 * 8 ≤ 140737488351232) (w1 : (Lit.int .u64 a1).wf = true) :
    Calls Try.prog 8 #[.slice a0 len0 cap0, .int .u64 a1] w fun e w' => e = .returned (.bool true) ∧ Below w.heap.size w w' := by
  obtain ⟨l0, rfl, hr0, hm0, hw0, hc0⟩ := ReadsInt.ofRowC w0
  obtain ⟨k, h⟩ := P l0 a1 hm0 y0 hw0 w1
  refine (abacuslaw01_NatDivides.calls k _ _ l0 a1 true w (Kd.C_of_reads (d := (0 : Int)) (h1 := fun _ => rfl) hr0) hc0 h).mono ?_
  rintro e w' ⟨rfl, hd⟩
  exact ⟨rfl, hd⟩

end Go.Proofs.Ytnicfpilpafddaa.PC
