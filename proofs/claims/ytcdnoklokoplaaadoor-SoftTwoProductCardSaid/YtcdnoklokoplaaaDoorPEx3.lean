-- printed by a program
import Derived.Test.YtcdnoklokoplaaaDoorPEx0
import Derived.Test.YtcdnoklokoplaaaDoorPEx1
import Derived.Test.YtcdnoklokoplaaaDoorPEx2
namespace Go.Proofs.YtcdnoklokoplaaaDoor.PE
open Go.Proofs.YtcdnoklokoplaaaDoorX
open Go.RowKit Go.Proofs.YtcdnoklokoplaaaDoorW.PrintWords Go.Proofs.YtcdnoklokoplaaaDoorW.PrintLast Go.Proofs.YtcdnoklokoplaaaDoorW.PrintMore
attribute [local go_sem] max2_int min2_int max_two min_two max_three min_three max_four min_four   -- for this text's walks alone
set_option linter.unusedVariables false
set_option linter.unusedSimpArgs false

/-! ### nat_Shl: function 51 -/
def nat_Shl.l0 : Nat → Int → Int → List Int → List Int → Int → Int → Option (List Int × Int)
 | 0, _, _, _, _, _, _ => none
 | k + 1, x6, x7, x8, x37, x38, x39 => if x39 < x38 then (if 0 ≤ x39 then (if x39 < (x37.length : Int) then (if 0 ≤ x7 then ((bits_Mul64.f (rd x37 x39) (shl .u64 1 x7)).bind fun bt185 => (if 0 ≤ (wrap64 (x6 + x39)) then (if (wrap64 (x6 + x39)) < (x8.length : Int) then (if 0 ≤ (wrap64 ((wrap64 (x6 + x39)) + 1)) then (if (wrap64 ((wrap64 (x6 + x39)) + 1)) < (x8.length : Int) then (nat_Shl.l0 k x6 x7 ((x8.set ((wrap64 (x6 + x39)) : Int).toNat (Go.bits .or .u64 (rd x8 (wrap64 (x6 + x39))) bt185.2)).set ((wrap64 ((wrap64 (x6 + x39)) + 1)) : Int).toNat bt185.1) x37 x38 (wrap64 (x39 + 1))) else (none)) else (none)) else (none)) else (none))) else (none)) else (none)) else (none)) else ((nat_cut.f k x8).bind fun bt190 => (some (bt190.1, bt190.2)))
def nat_Shl.f (k : Nat) (l0 : List Int) (a1 : Int) : Option (List Int × Int) := (nat_big.f k l0).bind fun t175 => (if t175 = true then (some (([] : List Int), 2)) else (if a1 < 0 then (some (([] : List Int), 1)) else ((nat_size.f k l0).bind fun t176 => (if 0 ≤ t176 then (if t176 ≤ (l0.length : Int) then ((some (l0.take (t176 : Int).toNat : List Int)).bind fun y177 => (if (y177.length : Int) = 0 then (some (([] : List Int), 0)) else (if a1 > 262144 then (some (([] : List Int), 2)) else (if 0 ≤ (wrap64 ((wrap64 ((wrap64 (Int.tdiv a1 64)) + (y177.length : Int))) + 1)) then (if (wrap64 ((wrap64 ((wrap64 (Int.tdiv a1 64)) + (y177.length : Int))) + 1) : Int).toNat ≤ 35184372088832 then (nat_Shl.l0 k (wrap64 (Int.tdiv a1 64)) (IntKind.u64.wrap (Int.tmod a1 64)) (List.replicate (wrap64 ((wrap64 ((wrap64 (Int.tdiv a1 64)) + (y177.length : Int))) + 1) : Int).toNat 0) y177 (y177.length : Int) 0) else (none)) else (none))))) else (none)) else (none)))))
theorem nat_Shl.mono_l : ∀ k, (∀ y0 y1 y2 y3 y4 y5, LeO (nat_Shl.l0 k y0 y1 y2 y3 y4 y5) (nat_Shl.l0 (k + 1) y0 y1 y2 y3 y4 y5))
 | 0 => fun _ _ _ _ _ _ r h => by simp [nat_Shl.l0] at h
 | k + 1 => by
  have ih0 := nat_Shl.mono_l k
  ·intro y0 y1 y2 y3 y4 y5
   unfold nat_Shl.l0
   repeat' first
   | (with_reducible exact ih0 _ _ _ _ _ _)
   | (with_reducible exact nat_big.mono _ _)
   | (with_reducible exact nat_cut.mono _ _)
   | (with_reducible exact nat_size.mono _ _)
   | (with_reducible exact LeO.refl _)
   | (with_reducible exact LeO.none _)
   | (with_reducible refine LeO.ite ?_ ?_)
   | (with_reducible refine LeO.bind ?_ (fun _ => ?_))
   | exact ih0 _ _ _ _ _ _
   | exact nat_big.mono _ _
   | exact nat_cut.mono _ _
   | exact nat_size.mono _ _
   | exact LeO.none _
   | refine LeO.ite ?_ ?_
   | refine LeO.bind ?_ (fun _ => ?_)
theorem nat_Shl.mono : ∀ a0 a1 k, LeO (nat_Shl.f k a0 a1) (nat_Shl.f (k + 1) a0 a1) := by
 intro a0 a1 k
 have ih0 := nat_Shl.mono_l k
 unfold nat_Shl.f
 repeat' first
   | (with_reducible exact ih0 _ _ _ _ _ _)
   | (with_reducible exact nat_big.mono _ _)
   | (with_reducible exact nat_cut.mono _ _)
   | (with_reducible exact nat_size.mono _ _)
   | (with_reducible exact LeO.refl _)
   | (with_reducible exact LeO.none _)
   | (with_reducible refine LeO.ite ?_ ?_)
   | (with_reducible refine LeO.bind ?_ (fun _ => ?_))
   | exact ih0 _ _ _ _ _ _
   | exact nat_big.mono _ _
   | exact nat_cut.mono _ _
   | exact nat_size.mono _ _
   | exact LeO.none _
   | refine LeO.ite ?_ ?_
   | refine LeO.bind ?_ (fun _ => ?_)
set_option maxHeartbeats 8000000 in
set_option maxRecDepth 100000 in
theorem nat_Shl.calls (k : Nat) (A0 : Option Addr) (c0 : Nat) (l0 : List Int) (a1 : Int) (r1 : List Int) (r2 : Int) (w : World) (hr0 : Kd.C (Kd.int .u64) w A0 l0.length l0) (hc0 : l0.length ≤ c0) (h : nat_Shl.f k l0 a1 = some (r1, r2)) :
  Calls Tryd.prog 51 #[.slice A0 l0.length c0, .int .i64 a1] w fun e w' => ∃ v0_ : Value, e = .returned (.tuple #[v0_, .int .i64 r2]) ∧ Kd.V (Kd.int .u64) 22 w' w.heap.size (fun k_ => (w.heap.size ≤ k_)) v0_ r1 ∧ Below w.heap.size w w' := by
 have HR0 := Aside0.mk hr0
 have HC0 := Aside0.mk hc0
 clear hr0 hc0
 have HB := Aside0.mk (Below.refl w.heap.size w)
 have H : ((nat_big.f k l0).bind fun t175 => (if t175 = true then (some (([] : List Int), 2)) else (if a1 < 0 then (some (([] : List Int), 1)) else ((nat_size.f k l0).bind fun t176 => (if 0 ≤ t176 then (if t176 ≤ (l0.length : Int) then ((some (l0.take (t176 : Int).toNat : List Int)).bind fun y177 => (if (y177.length : Int) = 0 then (some (([] : List Int), 0)) else (if a1 > 262144 then (some (([] : List Int), 2)) else (if 0 ≤ (wrap64 ((wrap64 ((wrap64 (Int.tdiv a1 64)) + (y177.length : Int))) + 1)) then (if (wrap64 ((wrap64 ((wrap64 (Int.tdiv a1 64)) + (y177.length : Int))) + 1) : Int).toNat ≤ 35184372088832 then (nat_Shl.l0 k (wrap64 (Int.tdiv a1 64)) (IntKind.u64.wrap (Int.tmod a1 64)) (List.replicate (wrap64 ((wrap64 ((wrap64 (Int.tdiv a1 64)) + (y177.length : Int))) + 1) : Int).toNat 0) y177 (y177.length : Int) 0) else (none)) else (none))))) else (none)) else (none)))))) = some (r1, r2) := h
 clear h
 obtain ⟨t175, A30, H⟩ := Option.bind_eq_some_iff.mp H
 have A3 := Aside0.mk A30
 clear A30
 by_cases c4 : t175 = true
 ·subst c4
  have H1 : (some (([] : List Int), 2)) = some (r1, r2) := by rw [if_pos rfl] at H; exact H
  clear H
  have H := H1
  clear H1
  simp only [Option.some.injEq, Prod.mk.injEq] at H
  obtain ⟨rfl, rfl⟩ := H
  go_enter Tryd.func51, Tryd.ntmps51
  go_wp2_with (first | ((with_reducible refine gate_callee (f := 81) rfl ?_); refine goesL_ (some 14) rfl rfl Tryd.func81 (by kernel_rfl) rfl #[.slice A0 l0.length c0] rfl (by (try simp only [List.map_toArray, List.map_cons, List.map_nil]); first | done | rfl) ?_; (with_reducible refine (nat_big.calls k _ _ l0 true _ ?side1 ?side2 A3.out).mono ?_); (case side1 => exact cS HR0.out); (case side2 => exact HC0.out); rintro e w' ⟨rfl, ⟨nd, rfl⟩⟩; refine ⟨_, rfl, ?_⟩))
  go_ret2
  exact ⟨.slice none 0 0, by first | rfl | (simp [errW_none, errW_some] <;> rfl) | (simp [*, errW_none, errW_some] <;> rfl), Kd.V_nil _ _ _ _ _, bS HB.out⟩
 ·replace c4 := Bool.eq_false_iff.mpr c4
  subst c4
  have H1 : (if a1 < 0 then (some (([] : List Int), 1)) else ((nat_size.f k l0).bind fun t176 => (if 0 ≤ t176 then (if t176 ≤ (l0.length : Int) then ((some (l0.take (t176 : Int).toNat : List Int)).bind fun y177 => (if (y177.length : Int) = 0 then (some (([] : List Int), 0)) else (if a1 > 262144 then (some (([] : List Int), 2)) else (if 0 ≤ (wrap64 ((wrap64 ((wrap64 (Int.tdiv a1 64)) + (y177.length : Int))) + 1)) then (if (wrap64 ((wrap64 ((wrap64 (Int.tdiv a1 64)) + (y177.length : Int))) + 1) : Int).toNat ≤ 35184372088832 then (nat_Shl.l0 k (wrap64 (Int.tdiv a1 64)) (IntKind.u64.wrap (Int.tmod a1 64)) (List.replicate (wrap64 ((wrap64 ((wrap64 (Int.tdiv a1 64)) + (y177.length : Int))) + 1) : Int).toNat 0) y177 (y177.length : Int) 0) else (none)) else (none))))) else (none)) else (none)))) = some (r1, r2) := by rw [if_neg (show ¬ (false = true) by decide)] at H; exact H
  clear H
  have H := H1
  clear H1
  by_cases c5 : a1 < 0
  ·rw [if_pos c5] at H
   have c5b0 : decide (a1 < 0) = true := decide_eq_true c5
   clear c5
   simp only [Option.some.injEq, Prod.mk.injEq] at H
   obtain ⟨rfl, rfl⟩ := H
   go_enter Tryd.func51, Tryd.ntmps51
   go_wp2_with (first | ((with_reducible refine gate_callee (f := 81) rfl ?_); refine goesL_ (some 14) rfl rfl Tryd.func81 (by kernel_rfl) rfl #[.slice A0 l0.length c0] rfl (by (try simp only [List.map_toArray, List.map_cons, List.map_nil]); first | done | rfl) ?_; (with_reducible refine (nat_big.calls k _ _ l0 false _ ?side1 ?side2 A3.out).mono ?_); (case side1 => exact cS HR0.out); (case side2 => exact HC0.out); rintro e w' ⟨rfl, ⟨nd, rfl⟩⟩; refine ⟨_, rfl, ?_⟩))
   go_ret2
   exact ⟨.slice none 0 0, by first | rfl | (simp [errW_none, errW_some] <;> rfl) | (simp [*, errW_none, errW_some] <;> rfl), Kd.V_nil _ _ _ _ _, bS HB.out⟩
  ·rw [if_neg c5] at H
   have c5b0 : decide (a1 < 0) = false := decide_eq_false c5
   clear c5
   obtain ⟨t176, A60, H⟩ := Option.bind_eq_some_iff.mp H
   have A6 := Aside0.mk A60
   clear A60
   by_cases c7 : 0 ≤ t176
   ·rw [if_pos c7] at H
    have c7b0 := eq_true c7
    have c7b1 : decide (0 ≤ t176) = true := decide_eq_true c7
    clear c7
    by_cases c8 : t176 ≤ (l0.length : Int)
    ·rw [if_pos c8] at H
     have c8b0 := eq_true c8
     have c8b1 : decide (t176 ≤ (l0.length : Int)) = true := decide_eq_true c8
     clear c8
     obtain ⟨y177, hy177⟩ : ∃ y_ : List Int, y_ = (l0.take (t176 : Int).toNat) := ⟨_, rfl⟩
     replace H : (if (y177.length : Int) = 0 then (some (([] : List Int), 0)) else (if a1 > 262144 then (some (([] : List Int), 2)) else (if 0 ≤ (wrap64 ((wrap64 ((wrap64 (Int.tdiv a1 64)) + (y177.length : Int))) + 1)) then (if (wrap64 ((wrap64 ((wrap64 (Int.tdiv a1 64)) + (y177.length : Int))) + 1) : Int).toNat ≤ 35184372088832 then (nat_Shl.l0 k (wrap64 (Int.tdiv a1 64)) (IntKind.u64.wrap (Int.tmod a1 64)) (List.replicate (wrap64 ((wrap64 ((wrap64 (Int.tdiv a1 64)) + (y177.length : Int))) + 1) : Int).toNat 0) y177 (y177.length : Int) 0) else (none)) else (none)))) = some (r1, r2) := by first | (rw [hy177]; with_reducible exact H) | (have H2_ := (Option.bind_some _ _).symm.trans H; rw [hy177]; with_reducible exact H2_) | (have H2_ := (Option.bind_some _ _).symm.trans H; with_reducible exact H2_) | with_reducible exact H | (rw [hy177]; exact H) | exact H
     have Ny177 := Aside0.mk hy177
     clear hy177
     by_cases c9 : (y177.length : Int) = 0
     ·rw [if_pos c9] at H
      have c9b0 : ((y177.length : Int) == 0) = true := beq_iff_eq.mpr c9
      have c9b1 : ((y177.length : Int) != 0) = false := bne_eq_false_iff_eq.mpr c9
      clear c9
      simp only [Option.some.injEq, Prod.mk.injEq] at H
      obtain ⟨rfl, rfl⟩ := H
      go_enter Tryd.func51, Tryd.ntmps51
      go_wp2_with (first | ((with_reducible refine gate_callee (f := 81) rfl ?_); refine goesL_ (some 14) rfl rfl Tryd.func81 (by kernel_rfl) rfl #[.slice A0 l0.length c0] rfl (by (try simp only [List.map_toArray, List.map_cons, List.map_nil]); first | done | rfl) ?_; (with_reducible refine (nat_big.calls k _ _ l0 false _ ?side1 ?side2 A3.out).mono ?_); (case side1 => exact cS HR0.out); (case side2 => exact HC0.out); rintro e w' ⟨rfl, ⟨nd, rfl⟩⟩; refine ⟨_, rfl, ?_⟩) | ((with_reducible refine gate_callee (f := 52) rfl ?_); refine goesL_ (some 19) rfl rfl Tryd.func52 (by kernel_rfl) rfl #[.slice A0 l0.length c0] rfl (by (try simp only [List.map_toArray, List.map_cons, List.map_nil]); first | done | rfl) ?_; (with_reducible refine (nat_size.calls k _ _ l0 t176 _ ?side1 ?side2 A6.out).mono ?_); (case side1 => exact cS HR0.out); (case side2 => exact HC0.out); rintro e w' ⟨rfl, ⟨nd, rfl⟩⟩; refine ⟨_, rfl, ?_⟩; have q10 : (t176 : Int) ≤ ((l0.length : Int) : Int) := of_decide_eq_true (by first | (with_reducible assumption) | assumption); obtain ⟨i010, hi010, _, hsz10, _⟩ := info_parts info22; have hroom10 : l0.length ≤ c0 := HC0.out; have hC10 : Kd.C (Kd.int .u64) _ A0 l0.length l0 := HR0.out; have hcut10 := cut_to (P := Tryd.prog) 25 22 .i64 Tryd.underlying25 hi010 A0 l0.length c0 t176 (of_decide_eq_true (by first | (with_reducible assumption) | assumption)) q10 hroom10; have hr10 := Kd.C_take (m := (t176 : Int).toNat) hC10 (by omega); have hy10 : y177.length = (t176 : Int).toNat := (by rw [Ny177.out, List.length_take]; omega); rw [← Ny177.out] at hr10; rw [← hy10] at hcut10; have HR180 := Aside0.mk hr10; have HC180 := Aside0.mk (show y177.length ≤ c0 from by omega); clear hr10 hC10 hroom10 hi010 hsz10; have KY10 := Aside0.mk hy10; clear hy10; replace q10 := eq_true q10))
      go_ret2
      exact ⟨.slice none 0 0, by first | rfl | (simp [errW_none, errW_some] <;> rfl) | (simp [*, errW_none, errW_some] <;> rfl), Kd.V_nil _ _ _ _ _, bS HB.out⟩
     ·rw [if_neg c9] at H
      have c9b0 : ((y177.length : Int) == 0) = false := beq_eq_false_iff_ne.mpr c9
      have c9b1 : ((y177.length : Int) != 0) = true := bne_iff_ne.mpr c9
      have c9b2 : ¬ (y177 = []) := fun h_ => c9 (by rw [h_]; rfl)
      by_cases c11 : a1 > 262144
      ·rw [if_pos c11] at H
       have c11b0 : decide (262144 < a1) = true := decide_eq_true c11
       clear c11
       simp only [Option.some.injEq, Prod.mk.injEq] at H
       obtain ⟨rfl, rfl⟩ := H
       go_enter Tryd.func51, Tryd.ntmps51
       go_wp2_with (first | ((with_reducible refine gate_callee (f := 81) rfl ?_); refine goesL_ (some 14) rfl rfl Tryd.func81 (by kernel_rfl) rfl #[.slice A0 l0.length c0] rfl (by (try simp only [List.map_toArray, List.map_cons, List.map_nil]); first | done | rfl) ?_; (with_reducible refine (nat_big.calls k _ _ l0 false _ ?side1 ?side2 A3.out).mono ?_); (case side1 => exact cS HR0.out); (case side2 => exact HC0.out); rintro e w' ⟨rfl, ⟨nd, rfl⟩⟩; refine ⟨_, rfl, ?_⟩) | ((with_reducible refine gate_callee (f := 52) rfl ?_); refine goesL_ (some 19) rfl rfl Tryd.func52 (by kernel_rfl) rfl #[.slice A0 l0.length c0] rfl (by (try simp only [List.map_toArray, List.map_cons, List.map_nil]); first | done | rfl) ?_; (with_reducible refine (nat_size.calls k _ _ l0 t176 _ ?side1 ?side2 A6.out).mono ?_); (case side1 => exact cS HR0.out); (case side2 => exact HC0.out); rintro e w' ⟨rfl, ⟨nd, rfl⟩⟩; refine ⟨_, rfl, ?_⟩; have q12 : (t176 : Int) ≤ ((l0.length : Int) : Int) := of_decide_eq_true (by first | (with_reducible assumption) | assumption); obtain ⟨i012, hi012, _, hsz12, _⟩ := info_parts info22; have hroom12 : l0.length ≤ c0 := HC0.out; have hC12 : Kd.C (Kd.int .u64) _ A0 l0.length l0 := HR0.out; have hcut12 := cut_to (P := Tryd.prog) 25 22 .i64 Tryd.underlying25 hi012 A0 l0.length c0 t176 (of_decide_eq_true (by first | (with_reducible assumption) | assumption)) q12 hroom12; have hr12 := Kd.C_take (m := (t176 : Int).toNat) hC12 (by omega); have hy12 : y177.length = (t176 : Int).toNat := (by rw [Ny177.out, List.length_take]; omega); rw [← Ny177.out] at hr12; rw [← hy12] at hcut12; have HR180 := Aside0.mk hr12; have HC180 := Aside0.mk (show y177.length ≤ c0 from by omega); clear hr12 hC12 hroom12 hi012 hsz12; have KY12 := Aside0.mk hy12; clear hy12; replace q12 := eq_true q12))
       go_ret2
       exact ⟨.slice none 0 0, by first | rfl | (simp [errW_none, errW_some] <;> rfl) | (simp [*, errW_none, errW_some] <;> rfl), Kd.V_nil _ _ _ _ _, bS HB.out⟩
      ·rw [if_neg c11] at H
       have c11b0 : decide (262144 < a1) = false := decide_eq_false c11
       clear c11
       obtain ⟨ji13, hji13⟩ : ∃ j_ : Int, (wrap64 ((wrap64 ((wrap64 (Int.tdiv a1 64)) + (y177.length : Int))) + 1)) = j_ := ⟨_, rfl⟩
       replace H : (if 0 ≤ (ji13) then (if (ji13 : Int).toNat ≤ 35184372088832 then (nat_Shl.l0 k (wrap64 (Int.tdiv a1 64)) (IntKind.u64.wrap (Int.tmod a1 64)) (List.replicate (ji13 : Int).toNat 0) y177 (y177.length : Int) 0) else (none)) else (none)) = some (r1, r2) := by first | (rw [hji13] at H; exact H) | (simp only [hji13] at H ⊢; exact H)
       (try rw [hji13] at A3)
       (try rw [hji13] at A6)
       have hji13w : (IntKind.i64.wrap ((wrap64 ((wrap64 (Int.tdiv a1 64)) + (y177.length : Int))) + 1)) = ji13 := (i64_w _).trans hji13
       by_cases c14 : 0 ≤ (ji13)
       ·rw [if_pos c14] at H
        have c14b0 := eq_true c14
        have c14b1 : decide (0 ≤ (ji13)) = true := decide_eq_true c14
        clear c14
        by_cases c15 : (ji13 : Int).toNat ≤ 35184372088832
        ·rw [if_pos c15] at H
         have c15b0 := eq_true c15
         have c15b1 : decide ((ji13 : Int).toNat ≤ 35184372088832) = true := decide_eq_true c15
         clear c15
         obtain ⟨y181, hy181⟩ : ∃ y_ : List Int, y_ = (List.replicate (ji13 : Int).toNat 0) := ⟨_, rfl⟩
         replace H : (nat_Shl.l0 k (wrap64 (Int.tdiv a1 64)) (IntKind.u64.wrap (Int.tmod a1 64)) y181 y177 (y177.length : Int) 0) = some (r1, r2) := by first | (rw [hy181]; with_reducible exact H) | (have H2_ := (Option.bind_some _ _).symm.trans H; rw [hy181]; with_reducible exact H2_) | (have H2_ := (Option.bind_some _ _).symm.trans H; with_reducible exact H2_) | with_reducible exact H | (rw [hy181]; exact H) | exact H
         have Ny181 := Aside0.mk hy181
         clear hy181
         have H' := Aside0.mk H
         clear H
         go_enter Tryd.func51, Tryd.ntmps51
         go_wp2_with (first | ((with_reducible refine gate_callee (f := 81) rfl ?_); refine goesL_ (some 14) rfl rfl Tryd.func81 (by kernel_rfl) rfl #[.slice A0 l0.length c0] rfl (by (try simp only [List.map_toArray, List.map_cons, List.map_nil]); first | done | rfl) ?_; (with_reducible refine (nat_big.calls k _ _ l0 false _ ?side1 ?side2 A3.out).mono ?_); (case side1 => exact cS HR0.out); (case side2 => exact HC0.out); rintro e w' ⟨rfl, ⟨nd, rfl⟩⟩; refine ⟨_, rfl, ?_⟩) | ((with_reducible refine gate_callee (f := 52) rfl ?_); refine goesL_ (some 19) rfl rfl Tryd.func52 (by kernel_rfl) rfl #[.slice A0 l0.length c0] rfl (by (try simp only [List.map_toArray, List.map_cons, List.map_nil]); first | done | rfl) ?_; (with_reducible refine (nat_size.calls k _ _ l0 t176 _ ?side1 ?side2 A6.out).mono ?_); (case side1 => exact cS HR0.out); (case side2 => exact HC0.out); rintro e w' ⟨rfl, ⟨nd, rfl⟩⟩; refine ⟨_, rfl, ?_⟩; have q16 : (t176 : Int) ≤ ((l0.length : Int) : Int) := of_decide_eq_true (by first | (with_reducible assumption) | assumption); obtain ⟨i016, hi016, _, hsz16, _⟩ := info_parts info22; have hroom16 : l0.length ≤ c0 := HC0.out; have hC16 : Kd.C (Kd.int .u64) _ A0 l0.length l0 := HR0.out; have hcut16 := cut_to (P := Tryd.prog) 25 22 .i64 Tryd.underlying25 hi016 A0 l0.length c0 t176 (of_decide_eq_true (by first | (with_reducible assumption) | assumption)) q16 hroom16; have hr16 := Kd.C_take (m := (t176 : Int).toNat) hC16 (by omega); have hy16 : y177.length = (t176 : Int).toNat := (by rw [Ny177.out, List.length_take]; omega); rw [← Ny177.out] at hr16; rw [← hy16] at hcut16; have HR180 := Aside0.mk hr16; have HC180 := Aside0.mk (show y177.length ≤ c0 from by omega); clear hr16 hC16 hroom16 hi016 hsz16; have KY16 := Aside0.mk hy16; clear hy16; replace q16 := eq_true q16) | ((with_reducible refine gate_dst (N := 36) rfl ?_); refine Kd.R_make (Kd.int .u64) _ 22 rfl (N := 36) rfl 25 _ _ rfl ji13 rfl rfl Tryd.underlying25 (.int .u64 0) 8 info22 rfl (by decide) (by omega) 0 (ok := fun _ => True) (okp := fun _ => True) rfl (fun _ hk => hk) trivial (of_decide_eq_true (by first | (with_reducible assumption) | assumption)) (Nat.le_trans (Nat.mul_le_mul_right _ (of_decide_eq_true (by first | (with_reducible assumption) | assumption) : ji13.toNat ≤ 35184372088832)) (by omega)) (Below.refl _ _) (Nat.le_refl _) ?_; intro v182 w17 ho18 hb hg_ hnew_; clear hg_ hnew_; (first | rw [← Ny181.out] at ho18 | (simp only [Int.reduceToNat] at ho18; rw [← Ny181.out] at ho18)); have HO183 := Aside0.mk (Kd.R_lower (Kd.R_newM (M := fun k_ => (w.heap.size ≤ k_)) ho18 (below_size (bS HB.out)) (fun k_ h_ => h_)) (below_size (bS HB.out))); replace HB := hB HB hb; clear hb ho18))
         go_loopg [39] k (fun kq v39 w' => ∃ (x8_1 : List Int) (x39_1 : Int), v39 = .int .i64 x39_1 ∧ Aside0 (nat_Shl.l0 kq (wrap64 (Int.tdiv a1 64)) (IntKind.u64.wrap (Int.tmod a1 64)) x8_1 y177 (y177.length : Int) x39_1 = some (r1, r2)) ∧ Aside0 (kq ≤ k) ∧ Aside0 (Kd.R (Kd.int .u64) 22 w' w.heap.size (fun k_ => (w.heap.size ≤ k_)) v182 x8_1) ∧ Aside0 (Below w.heap.size w w'))
         case atStart => exact ⟨(y181), (0), (by first | rfl | (simp; done) | (simp [*]; done)), H', ⟨Nat.le_refl _⟩, ⟨rS <| Kd.R_mono HO183.out (fun _ hk => hk.1)⟩, ⟨bS HB.out⟩⟩
         case round =>
          clear H'
          try clear c1
          try clear q1
          try clear p2
          try clear c4
          try clear c5
          try clear c5b0
          try clear p6
          try clear c7
          try clear c7b0
          try clear c7b1
          try clear c8
          try clear c8b0
          try clear c8b1
          try clear c9
          try clear c9b0
          try clear c9b1
          try clear c9b2
          try clear q10
          try clear c11
          try clear c11b0
          try clear q12
          try clear c14
          try clear c14b0
          try clear c14b1
          try clear c15
          try clear c15b0
          try clear c15b1
          try clear q16
          try clear q10
          try clear q12
          try clear q16
          obtain ⟨x8_1, x39_1, rfl, HA, HK1, HO_8, HB⟩ := hrel
          cases gk with
          | zero => exact absurd HA.out (by simp [nat_Shl.l0])
          | succ k1 =>
           have H := HA.out
           clear HA
           simp only [nat_Shl.l0] at H
           by_cases c19 : x39_1 < (y177.length : Int)
           ·rw [if_pos c19] at H
            have c19b0 : decide (x39_1 < (y177.length : Int)) = true := decide_eq_true c19
            clear c19
            by_cases c20 : 0 ≤ x39_1
            ·rw [if_pos c20] at H
             have c20b0 : decide (0 ≤ x39_1) = true := decide_eq_true c20
             clear c20
             by_cases c21 : x39_1 < (y177.length : Int)
             ·rw [if_pos c21] at H
              have c21b0 : decide (x39_1 < (y177.length : Int)) = true := decide_eq_true c21
              clear c21
              obtain ⟨ji22, hji22⟩ : ∃ j_ : Int, (IntKind.u64.wrap (Int.tmod a1 64)) = j_ := ⟨_, rfl⟩
              replace H : (if 0 ≤ (ji22) then ((bits_Mul64.f (rd y177 x39_1) (shl .u64 1 (ji22))).bind fun bt185 => (if 0 ≤ (wrap64 ((wrap64 (Int.tdiv a1 64)) + x39_1)) then (if (wrap64 ((wrap64 (Int.tdiv a1 64)) + x39_1)) < (x8_1.length : Int) then (if 0 ≤ (wrap64 ((wrap64 ((wrap64 (Int.tdiv a1 64)) + x39_1)) + 1)) then (if (wrap64 ((wrap64 ((wrap64 (Int.tdiv a1 64)) + x39_1)) + 1)) < (x8_1.length : Int) then (nat_Shl.l0 k1 (wrap64 (Int.tdiv a1 64)) (ji22) ((x8_1.set ((wrap64 ((wrap64 (Int.tdiv a1 64)) + x39_1)) : Int).toNat (Go.bits .or .u64 (rd x8_1 (wrap64 ((wrap64 (Int.tdiv a1 64)) + x39_1))) bt185.2)).set ((wrap64 ((wrap64 ((wrap64 (Int.tdiv a1 64)) + x39_1)) + 1)) : Int).toNat bt185.1) y177 (y177.length : Int) (wrap64 (x39_1 + 1))) else (none)) else (none)) else (none)) else (none))) else (none)) = some (r1, r2) := by first | (rw [hji22] at H; exact H) | (simp only [hji22] at H ⊢; exact H)
              by_cases c23 : 0 ≤ (ji22)
              ·rw [if_pos c23] at H
               have c23b0 := eq_true c23
               have c23b1 : decide (0 ≤ (ji22)) = true := decide_eq_true c23
               clear c23
               obtain ⟨ji24, hji24⟩ : ∃ j_ : Int, (shl .u64 1 (ji22)) = j_ := ⟨_, rfl⟩
               replace H : ((bits_Mul64.f (rd y177 x39_1) (ji24)).bind fun bt185 => (if 0 ≤ (wrap64 ((wrap64 (Int.tdiv a1 64)) + x39_1)) then (if (wrap64 ((wrap64 (Int.tdiv a1 64)) + x39_1)) < (x8_1.length : Int) then (if 0 ≤ (wrap64 ((wrap64 ((wrap64 (Int.tdiv a1 64)) + x39_1)) + 1)) then (if (wrap64 ((wrap64 ((wrap64 (Int.tdiv a1 64)) + x39_1)) + 1)) < (x8_1.length : Int) then (nat_Shl.l0 k1 (wrap64 (Int.tdiv a1 64)) (ji22) ((x8_1.set ((wrap64 ((wrap64 (Int.tdiv a1 64)) + x39_1)) : Int).toNat (Go.bits .or .u64 (rd x8_1 (wrap64 ((wrap64 (Int.tdiv a1 64)) + x39_1))) bt185.2)).set ((wrap64 ((wrap64 ((wrap64 (Int.tdiv a1 64)) + x39_1)) + 1)) : Int).toNat bt185.1) y177 (y177.length : Int) (wrap64 (x39_1 + 1))) else (none)) else (none)) else (none)) else (none))) = some (r1, r2) := by first | (rw [hji24] at H; exact H) | (simp only [hji24] at H ⊢; exact H)
               have hji24_ : (IntKind.u64.wrap (1 * 2 ^ min (ji22).toNat 64)) = ji24 := hji24
               have hji24z : (ji22) ≤ 64 → (IntKind.u64.wrap (1 * 2 ^ (ji22).toNat)) = ji24 := shl_small hji24
               have hji24u : (IntKind.u64.wrap (2 ^ min (ji22).toNat 64)) = ji24 := by have h_ := hji24_; rw [Int.one_mul] at h_; exact h_
               have hji24v : (ji22) ≤ 64 → (IntKind.u64.wrap (2 ^ (ji22).toNat)) = ji24 := fun hle_ => by have h_ := hji24z hle_; rw [Int.one_mul] at h_; exact h_
               replace H := Option.bind_eq_some_iff.mp H
               obtain ⟨⟨t185, t186⟩, A250, H⟩ := H
               replace H : (if 0 ≤ (wrap64 ((wrap64 (Int.tdiv a1 64)) + x39_1)) then (if (wrap64 ((wrap64 (Int.tdiv a1 64)) + x39_1)) < (x8_1.length : Int) then (if 0 ≤ (wrap64 ((wrap64 ((wrap64 (Int.tdiv a1 64)) + x39_1)) + 1)) then (if (wrap64 ((wrap64 ((wrap64 (Int.tdiv a1 64)) + x39_1)) + 1)) < (x8_1.length : Int) then (nat_Shl.l0 k1 (wrap64 (Int.tdiv a1 64)) (ji22) ((x8_1.set ((wrap64 ((wrap64 (Int.tdiv a1 64)) + x39_1)) : Int).toNat (Go.bits .or .u64 (rd x8_1 (wrap64 ((wrap64 (Int.tdiv a1 64)) + x39_1))) t186)).set ((wrap64 ((wrap64 ((wrap64 (Int.tdiv a1 64)) + x39_1)) + 1)) : Int).toNat t185) y177 (y177.length : Int) (wrap64 (x39_1 + 1))) else (none)) else (none)) else (none)) else (none)) = some (r1, r2) := H
               have A25 := Aside0.mk A250
               clear A250
               obtain ⟨ji26, hji26⟩ : ∃ j_ : Int, (wrap64 ((wrap64 (Int.tdiv a1 64)) + x39_1)) = j_ := ⟨_, rfl⟩
               replace H : (if 0 ≤ (ji26) then (if (ji26) < (x8_1.length : Int) then (if 0 ≤ (wrap64 ((ji26) + 1)) then (if (wrap64 ((ji26) + 1)) < (x8_1.length : Int) then (nat_Shl.l0 k1 (wrap64 (Int.tdiv a1 64)) (ji22) ((x8_1.set ((ji26) : Int).toNat (Go.bits .or .u64 (rd x8_1 (ji26)) t186)).set ((wrap64 ((ji26) + 1)) : Int).toNat t185) y177 (y177.length : Int) (wrap64 (x39_1 + 1))) else (none)) else (none)) else (none)) else (none)) = some (r1, r2) := by first | (rw [hji26] at H; exact H) | (simp only [hji26] at H ⊢; exact H)
               (try rw [hji26] at A25)
               have hji26w : (IntKind.i64.wrap ((wrap64 (Int.tdiv a1 64)) + x39_1)) = ji26 := (i64_w _).trans hji26
               by_cases c27 : 0 ≤ (ji26)
               ·rw [if_pos c27] at H
                have c27b0 : decide (0 ≤ (ji26)) = true := decide_eq_true c27
                clear c27
                by_cases c28 : (ji26) < (x8_1.length : Int)
                ·rw [if_pos c28] at H
                 have c28b0 : decide ((ji26) < (x8_1.length : Int)) = true := decide_eq_true c28
                 clear c28
                 obtain ⟨y188, hy188⟩ : ∃ y_ : List Int, y_ = (x8_1.set ((ji26) : Int).toNat (Go.bits .or .u64 (rd x8_1 (ji26)) t186)) := ⟨_, rfl⟩
                 replace H : (if 0 ≤ (wrap64 ((ji26) + 1)) then (if (wrap64 ((ji26) + 1)) < (x8_1.length : Int) then (nat_Shl.l0 k1 (wrap64 (Int.tdiv a1 64)) (ji22) (y188.set ((wrap64 ((ji26) + 1)) : Int).toNat t185) y177 (y177.length : Int) (wrap64 (x39_1 + 1))) else (none)) else (none)) = some (r1, r2) := by first | (rw [hy188]; with_reducible exact H) | (have H2_ := (Option.bind_some _ _).symm.trans H; rw [hy188]; with_reducible exact H2_) | (have H2_ := (Option.bind_some _ _).symm.trans H; with_reducible exact H2_) | with_reducible exact H | (rw [hy188]; exact H) | exact H
                 have Ny188 := Aside0.mk hy188
                 clear hy188
                 obtain ⟨ji30, hji30⟩ : ∃ j_ : Int, (wrap64 ((ji26) + 1)) = j_ := ⟨_, rfl⟩
                 replace H : (if 0 ≤ (ji30) then (if (ji30) < (x8_1.length : Int) then (nat_Shl.l0 k1 (wrap64 (Int.tdiv a1 64)) (ji22) (y188.set ((ji30) : Int).toNat t185) y177 (y177.length : Int) (wrap64 (x39_1 + 1))) else (none)) else (none)) = some (r1, r2) := by first | (rw [hji30] at H; exact H) | (simp only [hji30] at H ⊢; exact H)
                 (try rw [hji30] at A25)
                 have hji30w : (IntKind.i64.wrap ((ji26) + 1)) = ji30 := (i64_w _).trans hji30
                 by_cases c31 : 0 ≤ (ji30)
                 ·rw [if_pos c31] at H
                  have c31b0 : decide (0 ≤ (ji30)) = true := decide_eq_true c31
                  clear c31
                  by_cases c32 : (ji30) < (x8_1.length : Int)
                  ·rw [if_pos c32] at H
                   have c32b0 : decide ((ji30) < (x8_1.length : Int)) = true := decide_eq_true c32
                   clear c32
                   obtain ⟨y189, hy189⟩ : ∃ y_ : List Int, y_ = (y188.set ((ji30) : Int).toNat t185) := ⟨_, rfl⟩
                   replace H : (nat_Shl.l0 k1 (wrap64 (Int.tdiv a1 64)) (ji22) y189 y177 (y177.length : Int) (wrap64 (x39_1 + 1))) = some (r1, r2) := by first | (rw [hy189]; with_reducible exact H) | (have H2_ := (Option.bind_some _ _).symm.trans H; rw [hy189]; with_reducible exact H2_) | (have H2_ := (Option.bind_some _ _).symm.trans H; with_reducible exact H2_) | with_reducible exact H | (rw [hy189]; exact H) | exact H
                   have Ny189 := Aside0.mk hy189
                   clear hy189
                   have H' := Aside0.mk H
                   clear H
                   have p184 : 0 ≤ (x39_1 : Int) := of_decide_eq_true (by first | (with_reducible assumption) | assumption)
                   have q184 : x39_1 < (y177.length : Int) := of_decide_eq_true (by first | (with_reducible assumption) | assumption)
                   obtain ⟨ad184, e184, hx184_0⟩ := Kd.at_int HR180.out x39_1 p184 q184
                   cases e184
                   replace hx184_0 := (HB.out.cell (World.block_lt_of_cell? w _ hx184_0)).trans hx184_0
                   replace p184 := eq_true p184
                   replace q184 := eq_true q184
                   go_wp2_with (first | ((with_reducible refine gate_callee (f := 82) rfl ?_); refine goesL_ (some 48) rfl rfl Tryd.func82 (by kernel_rfl) rfl #[.int .u64 (rd y177 x39_1), .int .u64 ji24] rfl (by (try simp only [List.map_toArray, List.map_cons, List.map_nil]); first | done | (simp only [hji24]; rfl) | rfl) ?_; (with_reducible refine (bits_Mul64.calls (rd y177 x39_1) ji24 t185 t186 _ A25.out).mono ?_); rintro e w' ⟨rfl, ⟨nd, rfl⟩⟩; refine ⟨_, rfl, ?_⟩; (try (rw [drewN_self wr]; generalize hq_ : World.drewN wr _ = wr; have n0_ : Aside0 (Kd.R (Kd.int .u64) 22 wr w.heap.size (fun k_ => (w.heap.size ≤ k_)) v182 x8_1) := ⟨by rw [← hq_]; exact (rS <| HO_8.out)⟩; have n1_ : Aside0 (Below w.heap.size w wr) := ⟨by rw [← hq_]; exact (bS HB.out)⟩; clear HO_8 HB hq_; have HO_8 := n0_; have HB := n1_; clear n0_ n1_)); obtain ⟨Ao34, co34, eo34⟩ := Kd.R_slice HO_8.out; subst eo34; have p187 : 0 ≤ ((ji26) : Int) := of_decide_eq_true (by first | (with_reducible assumption) | assumption); have q187 : (ji26) < (x8_1.length : Int) := of_decide_eq_true (by first | (with_reducible assumption) | assumption); obtain ⟨ad187, e187, hx187_0⟩ := Kd.at_int (Kd.R_reads' HO_8.out).2.2 (ji26) p187 q187; cases e187; replace p187 := eq_true p187; replace q187 := eq_true q187; have p29 : 0 ≤ ((ji26) : Int) := of_decide_eq_true (by first | (with_reducible assumption) | assumption); have q29 : ((ji26) : Int) < ((x8_1.length : Int) : Int) := of_decide_eq_true (by first | (with_reducible assumption) | assumption); obtain ⟨go29, co29, eo29, gb29, gl29, cl29, HG29⟩ := Kd.R_form HO_8.out (by omega); (first | cases eo29 | (injection eo29 with ea_ en_ ec_; (first | subst ea_ | (injection ea_ with ea_; subst ea_)); subst ec_; clear en_)); have GB29 := Aside0.mk gb29; have GG29 := Aside0.mk HG29; clear gb29 gl29 HG29; (first | simp only [add_plain] at hx187_0 | skip); obtain ⟨hx29_0, hf29_0⟩ := Kd.R_celln 0 HO_8.out ((ji26) : Int) p29 q29; replace p29 := eq_true p29; replace q29 := eq_true q29; obtain ⟨hy35_, hz35_⟩ := Kd.R_celln 0 HO_8.out ((ji26) : Int) (of_decide_eq_true (by first | (with_reducible assumption) | assumption)) (of_decide_eq_true (by first | (with_reducible assumption) | assumption)); have HP35 := Kd.R_putg HO_8.out ((ji26) : Int) (Go.bits .or .u64 (rd x8_1 (ji26)) t186)) | ((with_reducible refine gate_store (t := 22) (p := 59) rfl ?_); refine store_event (t := 22) (p := 59) (v := ?vo_w36) (w1 := (wr.setCell ⟨go29, ((ji26) : Int).toNat, none⟩ (.int .u64 (Go.bits .or .u64 (rd x8_1 (ji26)) t186)))) ?hg ?ho ?hn ?hr ?_; (case ho => rfl); (case hg => rfl); (case hn => rfl); (case hr => first | (go_simp; done) | (go_simp; rfl)); intro w36 hw; have hg : wr.grownBy w36 (some go29) := (by rw [hw]; exact HP35.2); have hp_ : Kd.R (Kd.int .u64) 22 w36 w.heap.size (fun k_ => (w.heap.size ≤ k_)) (.slice (some ⟨go29, 0, none⟩) x8_1.length co34) y188 := (by rw [hw, Ny188.out]; exact HP35.1); clear HP35; replace HO_8 := Aside0.mk (hp_); replace HB := Aside0.mk ((by rw [hw]; exact below_set (HB.out) GB29.out : Below w.heap.size w w36)); clear hg hw hp_; have p33 : 0 ≤ ((ji30) : Int) := of_decide_eq_true (by first | (with_reducible assumption) | assumption); have q33 : ((ji30) : Int) < ((x8_1.length : Int) : Int) := of_decide_eq_true (by first | (with_reducible assumption) | assumption); obtain ⟨hx33_0, hf33_0⟩ := Kd.R_celln 0 HO_8.out ((ji30) : Int) p33 q33; replace p33 := eq_true p33; replace q33 := eq_true q33; obtain ⟨hy37_, hz37_⟩ := Kd.R_celln 0 HO_8.out ((ji30) : Int) (of_decide_eq_true (by first | (with_reducible assumption) | assumption)) (of_decide_eq_true (by first | (with_reducible assumption) | assumption)); have HP37 := Kd.R_putg HO_8.out ((ji30) : Int) t185) | ((with_reducible refine gate_store (t := 22) (p := 66) rfl ?_); refine store_event (t := 22) (p := 66) (v := ?vo_w38) (w1 := (w36.setCell ⟨go29, ((ji30) : Int).toNat, none⟩ (.int .u64 t185))) ?hg ?ho ?hn ?hr ?_; (case ho => rfl); (case hg => rfl); (case hn => rfl); (case hr => first | (go_simp; done) | (go_simp; rfl)); intro w38 hw; have hg : w36.grownBy w38 (some go29) := (by rw [hw]; exact HP37.2); have hp_ : Kd.R (Kd.int .u64) 22 w38 w.heap.size (fun k_ => (w.heap.size ≤ k_)) (.slice (some ⟨go29, 0, none⟩) x8_1.length co34) y189 := (by rw [hw, Ny189.out]; exact HP37.1); clear HP37; replace HO_8 := Aside0.mk (hp_); replace HB := Aside0.mk ((by rw [hw]; exact below_set (HB.out) GB29.out : Below w.heap.size w w38)); clear hg hw hp_))
                   (try simp only [← hji22, ← hji24])
                   (try simp only [← hji22, ← hji24] at H')
                   go_roundg k1
                   case measure => have := HK1.out; omega
                   case rel => exact ⟨(y189), (wrap64 (x39_1 + 1)), (by first | rfl | (simp; done) | (simp [*]; done)), H', ⟨by have := HK1.out; omega⟩, ⟨rS <| HO_8.out⟩, ⟨bS HB.out⟩⟩
                  ·rw [if_neg c32] at H
                   exact absurd H (by simp)
                 ·rw [if_neg c31] at H
                  exact absurd H (by simp)
                ·rw [if_neg c28] at H
                 exact absurd H (by simp)
               ·rw [if_neg c27] at H
                exact absurd H (by simp)
              ·rw [if_neg c23] at H
               exact absurd H (by simp)
             ·rw [if_neg c21] at H
              exact absurd H (by simp)
            ·rw [if_neg c20] at H
             exact absurd H (by simp)
           ·rw [if_neg c19] at H
            have c19b0 : decide (x39_1 < (y177.length : Int)) = false := decide_eq_false c19
            clear c19
            obtain ⟨⟨t190, t193⟩, A390, H⟩ := Option.bind_eq_some_iff.mp H
            dsimp only at H
            have A39 := Aside0.mk A390
            clear A390
            simp only [Option.some.injEq, Prod.mk.injEq] at H
            obtain ⟨rfl, rfl⟩ := H
            obtain ⟨Ao40, co40, eo40⟩ := Kd.R_slice HO_8.out
            subst eo40
            go_wp2_with (first | ((with_reducible refine gate_callee (f := 84) rfl ?_); refine goesL_ (some 69) rfl rfl Tryd.func84 (by kernel_rfl) rfl #[.slice Ao40 x8_1.length co40] rfl (by (try simp only [List.map_toArray, List.map_cons, List.map_nil]); first | done | rfl) ?_; (with_reducible refine (nat_cut.calls k1 (fun k_ => some k_ = (.slice Ao40 x8_1.length co40 : Value).ownBlock) _ _ x8_1 t190 t193 _ ?side1 A39.out).mono ?_); (case side1 => exact Kd.R_V (Kd.R_tight rfl (HO_8.out))); rintro e w41 ⟨v191, rfl, ho0, hb⟩; refine ⟨_, rfl, ?_⟩; have HO192 := Aside0.mk (Kd.V_lower (Kd.V_mono (ok' := fun k_ => (w.heap.size ≤ k_)) ho0 (fun k_ hk_ => Or.elim hk_ (fun hs_ => ((HO_8.out).1 k_ hs_.symm)) (fun hn_ => (Nat.le_trans (below_size (bS HB.out)) hn_)))) (below_size (bS HB.out))); replace HO_8 := Aside0.mk (Kd.R_below (rS <| HO_8.out) hb); replace HB := hB HB hb; (try clear hb); (try clear hb2); (try clear hk); (try clear hi); (try clear ho0)))
            go_ret2
            exact ⟨_, by first | rfl | (simp [errW_none, errW_some] <;> rfl) | (simp only [← hji13]; first | rfl | (simp [errW_none, errW_some] <;> rfl)) | (simp [*, errW_none, errW_some] <;> rfl), vS <| HO192.out, bS HB.out⟩
        ·rw [if_neg c15] at H
         exact absurd H (by simp)
       ·rw [if_neg c14] at H
        exact absurd H (by simp)
    ·rw [if_neg c8] at H
     exact absurd H (by simp)
   ·rw [if_neg c7] at H
    exact absurd H (by simp)

/-! ### abacuslaw05_units: function 17 -/
def abacuslaw05_units.f (k : Nat) (a0 : Int) : Option (Bool × List Int) := (ieee_Decode.f a0).bind fun bt195 => ((nat_FromUint.f bt195.2.2.1).bind fun t200 => (if bt195.2.1 = 3 then ((nat_FromUint.f 1).bind fun t203 => ((nat_Shl.f k t203 (1024 + 1074)).bind fun bt206 => (some (bt195.1, bt206.1)))) else ((nat_Shl.f k t200 (wrap64 (bt195.2.2.2 + 1074))).bind fun bt210 => (some (bt195.1, bt210.1)))))
theorem abacuslaw05_units.mono : ∀ a0 k, LeO (abacuslaw05_units.f k a0) (abacuslaw05_units.f (k + 1) a0) := by
 intro a0 k
 unfold abacuslaw05_units.f
 repeat' first
   | (with_reducible exact nat_Shl.mono _ _ _)
   | (with_reducible exact LeO.refl _)
   | (with_reducible exact LeO.none _)
   | (with_reducible refine LeO.ite ?_ ?_)
   | (with_reducible refine LeO.bind ?_ (fun _ => ?_))
   | exact nat_Shl.mono _ _ _
   | exact LeO.none _
   | refine LeO.ite ?_ ?_
   | refine LeO.bind ?_ (fun _ => ?_)
set_option maxHeartbeats 8000000 in
set_option maxRecDepth 100000 in
theorem abacuslaw05_units.calls (k : Nat) (a0 : Int) (r1 : Bool) (r2 : List Int) (w : World) (h : abacuslaw05_units.f k a0 = some (r1, r2)) :
  Calls Tryd.prog 17 #[.int .u64 a0] w fun e w' => ∃ v1_ : Value, e = .returned (.agg #[.bool r1, v1_]) ∧ Kd.V (Kd.int .u64) 22 w' w.heap.size (fun k_ => (w.heap.size ≤ k_)) v1_ r2 ∧ Below w.heap.size w w' := by
 have hu27 := Tryd.underlying27
 have hu39 := Tryd.underlying39
 have HB := Aside0.mk (Below.refl w.heap.size w)
 have H : ((ieee_Decode.f a0).bind fun bt195 => ((nat_FromUint.f bt195.2.2.1).bind fun t200 => (if bt195.2.1 = 3 then ((nat_FromUint.f 1).bind fun t203 => ((nat_Shl.f k t203 (1024 + 1074)).bind fun bt206 => (some (bt195.1, bt206.1)))) else ((nat_Shl.f k t200 (wrap64 (bt195.2.2.2 + 1074))).bind fun bt210 => (some (bt195.1, bt210.1)))))) = some (r1, r2) := h
 clear h
 replace H := Option.bind_eq_some_iff.mp H
 obtain ⟨⟨t195, t196, t197, t198⟩, A20, H⟩ := H
 replace H : ((nat_FromUint.f t197).bind fun t200 => (if t196 = 3 then ((nat_FromUint.f 1).bind fun t203 => ((nat_Shl.f k t203 (1024 + 1074)).bind fun bt206 => (some (t195, bt206.1)))) else ((nat_Shl.f k t200 (wrap64 (t198 + 1074))).bind fun bt210 => (some (t195, bt210.1))))) = some (r1, r2) := H
 have A2 := Aside0.mk A20
 clear A20
 replace H := Option.bind_eq_some_iff.mp H
 obtain ⟨t200, A30, H⟩ := H
 replace H : (if t196 = 3 then ((nat_FromUint.f 1).bind fun t203 => ((nat_Shl.f k t203 (1024 + 1074)).bind fun bt206 => (some (t195, bt206.1)))) else ((nat_Shl.f k t200 (wrap64 (t198 + 1074))).bind fun bt210 => (some (t195, bt210.1)))) = some (r1, r2) := H
 have A3 := Aside0.mk A30
 clear A30
 by_cases c4 : t196 = 3
 ·rw [if_pos c4] at H
  have c4b0 : (t196 == 3) = true := beq_iff_eq.mpr c4
  have c4b1 : (t196 != 3) = false := bne_eq_false_iff_eq.mpr c4
  clear c4
  replace H := Option.bind_eq_some_iff.mp H
  obtain ⟨t203, A50, H⟩ := H
  replace H : ((nat_Shl.f k t203 (1024 + 1074)).bind fun bt206 => (some (t195, bt206.1))) = some (r1, r2) := H
  have A5 := Aside0.mk A50
  clear A50
  obtain ⟨⟨t206, t209⟩, A60, H⟩ := Option.bind_eq_some_iff.mp H
  dsimp only at H
  have A6 := Aside0.mk A60
  clear A60
  simp only [Option.some.injEq, Prod.mk.injEq] at H
  obtain ⟨rfl, rfl⟩ := H
  go_enter Tryd.func17, Tryd.ntmps17
  go_wp2_with (first | ((with_reducible refine gate_dst (N := 2) rfl ?_); refine box_event ?hg (N := 2) ?hd (cs := #[.bool false, .slice none 0 0]) (t := 27) ?hr ?_; (case hd => rfl); (case hg => rfl); (case hr => first | (go_simp; done) | (go_simp; rfl)); intro gb194 hg w7 hbox hb; have BK194 := Aside0.mk (hbox); have GW194 := Aside0.mk ((by rw [hg]; exact (below_size (bS HB.out)) : w.heap.size ≤ gb194)); have GE194 := Aside0.mk ((by rw [hg]; exact (below_size (bS HB.out)) : w.heap.size ≤ gb194)); replace HB := hB HB hb; clear hb hbox hg) | ((with_reducible refine gate_callee (f := 29) rfl ?_); refine goesL_ (some 9) rfl rfl Tryd.func29 (by kernel_rfl) rfl #[.int .u64 a0] rfl (by (try simp only [List.map_toArray, List.map_cons, List.map_nil]); first | done | rfl) ?_; (with_reducible refine (ieee_Decode.calls a0 t195 t196 t197 t198 _ A2.out).mono ?_); rintro e w8 ⟨rfl, hb⟩; refine ⟨_, rfl, ?_⟩; replace BK194 := bkB BK194 hb; replace HB := Aside0.mk (below_step (bG1 HB.out GE194.out) hb); (try clear hb); (try clear hb2); (try clear hk); (try clear hi)) | ((with_reducible refine gate_dst (N := 3) rfl ?_); refine box_event ?hg (N := 3) ?hd (cs := #[.bool false, .int .i64 0, .int .u64 0, .int .i64 0]) (t := 39) ?hr ?_; (case hd => rfl); (case hg => rfl); (case hr => first | (go_simp; done) | (go_simp; rfl)); intro gb199 hg w9 hbox hb; have BK199 := Aside0.mk (hbox); have GW199 := Aside0.mk ((by rw [hg]; exact (below_size (bG1 HB.out GE194.out)) : w.heap.size ≤ gb199)); have GE199 := Aside0.mk ((by rw [hg]; exact (below_size (bG1 HB.out GE194.out)) : w.heap.size ≤ gb199)); replace HB := Aside0.mk (below_step (bG1 HB.out GE194.out) hb); have NB194_199 := Aside0.mk ((by rw [hg]; exact Nat.ne_of_lt (blk_lt (g := gb194) (o := .cells #[.bool false, .slice none 0 0] 27 (0, 0)) (by exact bkS BK194.out)) : gb194 ≠ gb199)); have NB199_194 := Aside0.mk ((by rw [hg]; exact Nat.ne_of_gt (blk_lt (g := gb194) (o := .cells #[.bool false, .slice none 0 0] 27 (0, 0)) (by exact bkS BK194.out)) : gb199 ≠ gb194)); replace BK194 := bkB BK194 hb; clear hb hbox hg; have hnb10 := NB199_194.out; have hnc10 := NB194_199.out; have hcz11_0 : w9.cell? ⟨gb199, 0, none⟩ = some (.bool false) := (blk_cell BK199.out 0).trans rfl; have hcz11_1 : w9.cell? ⟨gb199, 1, none⟩ = some (.int .i64 0) := (blk_cell BK199.out 1).trans rfl; have hcz11_2 : w9.cell? ⟨gb199, 2, none⟩ = some (.int .u64 0) := (blk_cell BK199.out 2).trans rfl; have hcz11_3 : w9.cell? ⟨gb199, 3, none⟩ = some (.int .i64 0) := (blk_cell BK199.out 3).trans rfl; have hfz11_0 := blk_frozen BK199.out 0; have hfz11_1 := blk_frozen BK199.out 1; have hfz11_2 := blk_frozen BK199.out 2; have hfz11_3 := blk_frozen BK199.out 3) | ((with_reducible refine gate_callee (f := 50) rfl ?_); refine goesL_ (some 12) rfl rfl Tryd.func50 (by kernel_rfl) rfl #[.int .u64 t197] rfl (by (try simp only [List.map_toArray, List.map_cons, List.map_nil]); first | done | rfl) ?_; (with_reducible refine (nat_FromUint.calls t197 t200 _ A3.out).mono ?_); rintro e w12 ⟨v201, rfl, ho0, hb⟩; refine ⟨_, rfl, ?_⟩; have HO202 := Aside0.mk (Kd.R_lower (Kd.R_newM (M := fun k_ => (w.heap.size ≤ k_)) ho0 (below_size (bG2 HB.out GE194.out GE199.out)) (fun k_ h_ => h_)) (below_size (bG2 HB.out GE194.out GE199.out))); replace BK194 := Aside0.mk (blk_below (g := gb194) (o := .cells #[.bool false, .slice none 0 0] 27 (0, 0)) (by refine blkF ?_ NB194_199.out _; refine blkF ?_ NB194_199.out _; refine blkF ?_ NB194_199.out _; refine blkF ?_ NB194_199.out _; exact bkS BK194.out) hb); replace BK199 := Aside0.mk (blk_below (g := gb199) (o := .cells #[.bool t195, .int .i64 t196, .int .u64 t197, .int .i64 t198] 39 (0, 0)) (by refine blkP (cs := #[.bool t195, .int .i64 t196, .int .u64 t197, .int .i64 0]) ?_ 3 _ rfl; refine blkP (cs := #[.bool t195, .int .i64 t196, .int .u64 0, .int .i64 0]) ?_ 2 _ rfl; refine blkP (cs := #[.bool t195, .int .i64 0, .int .u64 0, .int .i64 0]) ?_ 1 _ rfl; refine blkP (cs := #[.bool false, .int .i64 0, .int .u64 0, .int .i64 0]) ?_ 0 _ rfl; exact bkS BK199.out) hb); replace HB := Aside0.mk (below_step (bG2 HB.out GE194.out GE199.out) hb); (try clear hb); (try clear hb2); (try clear hk); (try clear hi); (try clear ho0); have hcz13_0 : w12.cell? ⟨gb199, 0, none⟩ = some (.bool t195) := (blk_cell BK199.out 0).trans rfl; have hcz13_1 : w12.cell? ⟨gb199, 1, none⟩ = some (.int .i64 t196) := (blk_cell BK199.out 1).trans rfl; have hcz13_2 : w12.cell? ⟨gb199, 2, none⟩ = some (.int .u64 t197) := (blk_cell BK199.out 2).trans rfl; have hcz13_3 : w12.cell? ⟨gb199, 3, none⟩ = some (.int .i64 t198) := (blk_cell BK199.out 3).trans rfl; have hfz13_0 := blk_frozen BK199.out 0; have hfz13_1 := blk_frozen BK199.out 1; have hfz13_2 := blk_frozen BK199.out 2; have hfz13_3 := blk_frozen BK199.out 3) | ((with_reducible refine gate_callee (f := 50) rfl ?_); refine goesL_ (some 18) rfl rfl Tryd.func50 (by kernel_rfl) rfl #[.int .u64 1] rfl (by (try simp only [List.map_toArray, List.map_cons, List.map_nil]); first | done | rfl) ?_; (with_reducible refine (nat_FromUint.calls 1 t203 _ A5.out).mono ?_); rintro e w14 ⟨v204, rfl, ho0, hb⟩; refine ⟨_, rfl, ?_⟩; have HO205 := Aside0.mk (Kd.R_lower (Kd.R_new' (Kd.R_newM (M := fun k_ => (w.heap.size ≤ k_)) ho0 (below_size (bG2 HB.out GE194.out GE199.out)) (fun k_ h_ => h_)) (Kd.R_lt (rS <| HO202.out))) (below_size (bG2 HB.out GE194.out GE199.out))); replace HO202 := Aside0.mk (Kd.R_elder' (rS <| HO202.out) (Kd.R_base ho0) hb); replace BK194 := bkB BK194 hb; replace BK199 := bkB BK199 hb; replace HB := Aside0.mk (below_step (bG2 HB.out GE194.out GE199.out) hb); (try clear hb); (try clear hb2); (try clear hk); (try clear hi); (try clear ho0); obtain ⟨Ao15, co15, eo15⟩ := Kd.R_slice HO205.out; subst eo15) | ((with_reducible refine gate_callee (f := 51) rfl ?_); refine goesL_ (some 23) rfl rfl Tryd.func51 (by kernel_rfl) rfl #[.slice Ao15 t203.length co15, .int .i64 (1024 + 1074)] rfl (by (try simp only [List.map_toArray, List.map_cons, List.map_nil]); first | done | rfl) ?_; (with_reducible refine (nat_Shl.calls k _ _ t203 (1024 + 1074) t206 t209 _ ?side1 ?side2 A6.out).mono ?_); (case side1 => exact cS (Kd.R_reads' HO205.out).2.2); (case side2 => exact (Kd.R_reads' HO205.out).2.1); rintro e w16 ⟨v207, rfl, ho0, hb⟩; refine ⟨_, rfl, ?_⟩; have HO208 := Aside0.mk (Kd.V_lower (Kd.V_mono (ok' := fun k_ => (w.heap.size ≤ k_) ∧ some k_ ≠ (v201 : Value).ownBlock ∧ some k_ ≠ (.slice Ao15 t203.length co15 : Value).ownBlock ∧ k_ ≠ gb194 ∧ k_ ≠ gb199) ho0 (fun k_ hk_ => ⟨(Nat.le_trans (below_size (bG2 HB.out GE194.out GE199.out)) hk_), (Kd.fresh' (Kd.R_lt (rS <| HO202.out)) k_ hk_), (Kd.fresh' (Kd.R_lt (rS <| HO205.out)) k_ hk_), (Kd.freshB (g := gb194) (o := .cells #[.bool false, .slice none 0 0] 27 (0, 0)) (by exact bkS BK194.out) k_ hk_), (Kd.freshB (g := gb199) (o := .cells #[.bool t195, .int .i64 t196, .int .u64 t197, .int .i64 t198] 39 (0, 0)) (by exact bkS BK199.out) k_ hk_)⟩)) (below_size (bG2 HB.out GE194.out GE199.out))); replace HO202 := Aside0.mk (Kd.R_below (rS <| HO202.out) hb); replace HO205 := Aside0.mk (Kd.R_below (rS <| HO205.out) hb); replace BK194 := bkB BK194 hb; replace BK199 := bkB BK199 hb; replace HB := Aside0.mk (below_step (bG2 HB.out GE194.out GE199.out) hb); (try clear hb); (try clear hb2); (try clear hk); (try clear hi); (try clear ho0); have hcz17_0 : w16.cell? ⟨gb199, 0, none⟩ = some (.bool t195) := (blk_cell BK199.out 0).trans rfl; have hcz17_1 : w16.cell? ⟨gb199, 1, none⟩ = some (.int .i64 t196) := (blk_cell BK199.out 1).trans rfl; have hcz17_2 : w16.cell? ⟨gb199, 2, none⟩ = some (.int .u64 t197) := (blk_cell BK199.out 2).trans rfl; have hcz17_3 : w16.cell? ⟨gb199, 3, none⟩ = some (.int .i64 t198) := (blk_cell BK199.out 3).trans rfl; have hfz17_0 := blk_frozen BK199.out 0; have hfz17_1 := blk_frozen BK199.out 1; have hfz17_2 := blk_frozen BK199.out 2; have hfz17_3 := blk_frozen BK199.out 3; obtain ⟨Ao18, co18, eo18⟩ := Kd.V_slice HO208.out; subst eo18; have hcz19_0 : w16.cell? ⟨gb194, 0, none⟩ = some (.bool false) := (blk_cell BK194.out 0).trans rfl; have hcz19_1 : w16.cell? ⟨gb194, 1, none⟩ = some (.slice none 0 0) := (blk_cell BK194.out 1).trans rfl; have hfz19_0 := blk_frozen BK194.out 0; have hfz19_1 := blk_frozen BK194.out 1))
  refine bodyPost_ret (results_cell_row rfl _ _ gb194 27 #[.bool t195, .slice Ao18 t206.length co18] (0, 0) _ rfl (by refine blkP (cs := #[.bool t195, .slice none 0 0]) ?_ 1 _ rfl; refine blkP (cs := #[.bool false, .slice none 0 0]) ?_ 0 _ rfl; exact bkS BK194.out) Tryd.underlying27 rfl (by kernel_rfl)) rfl ?_
  exact ⟨_, by first | rfl | (simp [errW_none, errW_some] <;> rfl) | (simp [*, errW_none, errW_some] <;> rfl), vS <| Kd.V_mono (Kd.V_far (p := ⟨gb194, 1, none⟩) (Kd.V_far (p := ⟨gb194, 0, none⟩) (Kd.V_mono HO208.out (fun k_ hk => (⟨hk, hk.2.2.2.1⟩ : _ ∧ k_ ≠ gb194))) (fun _ hk => hk.2) (.bool t195)) (fun _ hk => hk.2) (.slice Ao18 t206.length co18)) (fun _ hk => hk.1.1), bG2 HB.out GE194.out GE199.out⟩
 ·rw [if_neg c4] at H
  have c4b0 : (t196 == 3) = false := beq_eq_false_iff_ne.mpr c4
  have c4b1 : (t196 != 3) = true := bne_iff_ne.mpr c4
  obtain ⟨⟨t210, t213⟩, A200, H⟩ := Option.bind_eq_some_iff.mp H
  dsimp only at H
  have A20 := Aside0.mk A200
  clear A200
  simp only [Option.some.injEq, Prod.mk.injEq] at H
  obtain ⟨rfl, rfl⟩ := H
  go_enter Tryd.func17, Tryd.ntmps17
  go_wp2_with (first | ((with_reducible refine gate_dst (N := 2) rfl ?_); refine box_event ?hg (N := 2) ?hd (cs := #[.bool false, .slice none 0 0]) (t := 27) ?hr ?_; (case hd => rfl); (case hg => rfl); (case hr => first | (go_simp; done) | (go_simp; rfl)); intro gb194 hg w21 hbox hb; have BK194 := Aside0.mk (hbox); have GW194 := Aside0.mk ((by rw [hg]; exact (below_size (bS HB.out)) : w.heap.size ≤ gb194)); have GE194 := Aside0.mk ((by rw [hg]; exact (below_size (bS HB.out)) : w.heap.size ≤ gb194)); replace HB := hB HB hb; clear hb hbox hg) | ((with_reducible refine gate_callee (f := 29) rfl ?_); refine goesL_ (some 9) rfl rfl Tryd.func29 (by kernel_rfl) rfl #[.int .u64 a0] rfl (by (try simp only [List.map_toArray, List.map_cons, List.map_nil]); first | done | rfl) ?_; (with_reducible refine (ieee_Decode.calls a0 t195 t196 t197 t198 _ A2.out).mono ?_); rintro e w22 ⟨rfl, hb⟩; refine ⟨_, rfl, ?_⟩; replace BK194 := bkB BK194 hb; replace HB := Aside0.mk (below_step (bG1 HB.out GE194.out) hb); (try clear hb); (try clear hb2); (try clear hk); (try clear hi)) | ((with_reducible refine gate_dst (N := 3) rfl ?_); refine box_event ?hg (N := 3) ?hd (cs := #[.bool false, .int .i64 0, .int .u64 0, .int .i64 0]) (t := 39) ?hr ?_; (case hd => rfl); (case hg => rfl); (case hr => first | (go_simp; done) | (go_simp; rfl)); intro gb199 hg w23 hbox hb; have BK199 := Aside0.mk (hbox); have GW199 := Aside0.mk ((by rw [hg]; exact (below_size (bG1 HB.out GE194.out)) : w.heap.size ≤ gb199)); have GE199 := Aside0.mk ((by rw [hg]; exact (below_size (bG1 HB.out GE194.out)) : w.heap.size ≤ gb199)); replace HB := Aside0.mk (below_step (bG1 HB.out GE194.out) hb); have NB194_199 := Aside0.mk ((by rw [hg]; exact Nat.ne_of_lt (blk_lt (g := gb194) (o := .cells #[.bool false, .slice none 0 0] 27 (0, 0)) (by exact bkS BK194.out)) : gb194 ≠ gb199)); have NB199_194 := Aside0.mk ((by rw [hg]; exact Nat.ne_of_gt (blk_lt (g := gb194) (o := .cells #[.bool false, .slice none 0 0] 27 (0, 0)) (by exact bkS BK194.out)) : gb199 ≠ gb194)); replace BK194 := bkB BK194 hb; clear hb hbox hg; have hnb24 := NB199_194.out; have hnc24 := NB194_199.out; have hcz25_0 : w23.cell? ⟨gb199, 0, none⟩ = some (.bool false) := (blk_cell BK199.out 0).trans rfl; have hcz25_1 : w23.cell? ⟨gb199, 1, none⟩ = some (.int .i64 0) := (blk_cell BK199.out 1).trans rfl; have hcz25_2 : w23.cell? ⟨gb199, 2, none⟩ = some (.int .u64 0) := (blk_cell BK199.out 2).trans rfl; have hcz25_3 : w23.cell? ⟨gb199, 3, none⟩ = some (.int .i64 0) := (blk_cell BK199.out 3).trans rfl; have hfz25_0 := blk_frozen BK199.out 0; have hfz25_1 := blk_frozen BK199.out 1; have hfz25_2 := blk_frozen BK199.out 2; have hfz25_3 := blk_frozen BK199.out 3) | ((with_reducible refine gate_callee (f := 50) rfl ?_); refine goesL_ (some 12) rfl rfl Tryd.func50 (by kernel_rfl) rfl #[.int .u64 t197] rfl (by (try simp only [List.map_toArray, List.map_cons, List.map_nil]); first | done | rfl) ?_; (with_reducible refine (nat_FromUint.calls t197 t200 _ A3.out).mono ?_); rintro e w26 ⟨v201, rfl, ho0, hb⟩; refine ⟨_, rfl, ?_⟩; have HO202 := Aside0.mk (Kd.R_lower (Kd.R_newM (M := fun k_ => (w.heap.size ≤ k_)) ho0 (below_size (bG2 HB.out GE194.out GE199.out)) (fun k_ h_ => h_)) (below_size (bG2 HB.out GE194.out GE199.out))); replace BK194 := Aside0.mk (blk_below (g := gb194) (o := .cells #[.bool false, .slice none 0 0] 27 (0, 0)) (by refine blkF ?_ NB194_199.out _; refine blkF ?_ NB194_199.out _; refine blkF ?_ NB194_199.out _; refine blkF ?_ NB194_199.out _; exact bkS BK194.out) hb); replace BK199 := Aside0.mk (blk_below (g := gb199) (o := .cells #[.bool t195, .int .i64 t196, .int .u64 t197, .int .i64 t198] 39 (0, 0)) (by refine blkP (cs := #[.bool t195, .int .i64 t196, .int .u64 t197, .int .i64 0]) ?_ 3 _ rfl; refine blkP (cs := #[.bool t195, .int .i64 t196, .int .u64 0, .int .i64 0]) ?_ 2 _ rfl; refine blkP (cs := #[.bool t195, .int .i64 0, .int .u64 0, .int .i64 0]) ?_ 1 _ rfl; refine blkP (cs := #[.bool false, .int .i64 0, .int .u64 0, .int .i64 0]) ?_ 0 _ rfl; exact bkS BK199.out) hb); replace HB := Aside0.mk (below_step (bG2 HB.out GE194.out GE199.out) hb); (try clear hb); (try clear hb2); (try clear hk); (try clear hi); (try clear ho0); have hcz27_0 : w26.cell? ⟨gb199, 0, none⟩ = some (.bool t195) := (blk_cell BK199.out 0).trans rfl; have hcz27_1 : w26.cell? ⟨gb199, 1, none⟩ = some (.int .i64 t196) := (blk_cell BK199.out 1).trans rfl; have hcz27_2 : w26.cell? ⟨gb199, 2, none⟩ = some (.int .u64 t197) := (blk_cell BK199.out 2).trans rfl; have hcz27_3 : w26.cell? ⟨gb199, 3, none⟩ = some (.int .i64 t198) := (blk_cell BK199.out 3).trans rfl; have hfz27_0 := blk_frozen BK199.out 0; have hfz27_1 := blk_frozen BK199.out 1; have hfz27_2 := blk_frozen BK199.out 2; have hfz27_3 := blk_frozen BK199.out 3; obtain ⟨Ao28, co28, eo28⟩ := Kd.R_slice HO202.out; subst eo28) | ((with_reducible refine gate_callee (f := 51) rfl ?_); refine goesL_ (some 23) rfl rfl Tryd.func51 (by kernel_rfl) rfl #[.slice Ao28 t200.length co28, .int .i64 (wrap64 (t198 + 1074))] rfl (by (try simp only [List.map_toArray, List.map_cons, List.map_nil]); first | done | rfl) ?_; (with_reducible refine (nat_Shl.calls k _ _ t200 (wrap64 (t198 + 1074)) t210 t213 _ ?side1 ?side2 A20.out).mono ?_); (case side1 => exact cS (Kd.R_reads' HO202.out).2.2); (case side2 => exact (Kd.R_reads' HO202.out).2.1); rintro e w29 ⟨v211, rfl, ho0, hb⟩; refine ⟨_, rfl, ?_⟩; have HO212 := Aside0.mk (Kd.V_lower (Kd.V_mono (ok' := fun k_ => (w.heap.size ≤ k_) ∧ some k_ ≠ (.slice Ao28 t200.length co28 : Value).ownBlock ∧ k_ ≠ gb194 ∧ k_ ≠ gb199) ho0 (fun k_ hk_ => ⟨(Nat.le_trans (below_size (bG2 HB.out GE194.out GE199.out)) hk_), (Kd.fresh' (Kd.R_lt (rS <| HO202.out)) k_ hk_), (Kd.freshB (g := gb194) (o := .cells #[.bool false, .slice none 0 0] 27 (0, 0)) (by exact bkS BK194.out) k_ hk_), (Kd.freshB (g := gb199) (o := .cells #[.bool t195, .int .i64 t196, .int .u64 t197, .int .i64 t198] 39 (0, 0)) (by exact bkS BK199.out) k_ hk_)⟩)) (below_size (bG2 HB.out GE194.out GE199.out))); replace HO202 := Aside0.mk (Kd.R_below (rS <| HO202.out) hb); replace BK194 := bkB BK194 hb; replace BK199 := bkB BK199 hb; replace HB := Aside0.mk (below_step (bG2 HB.out GE194.out GE199.out) hb); (try clear hb); (try clear hb2); (try clear hk); (try clear hi); (try clear ho0); have hcz30_0 : w29.cell? ⟨gb199, 0, none⟩ = some (.bool t195) := (blk_cell BK199.out 0).trans rfl; have hcz30_1 : w29.cell? ⟨gb199, 1, none⟩ = some (.int .i64 t196) := (blk_cell BK199.out 1).trans rfl; have hcz30_2 : w29.cell? ⟨gb199, 2, none⟩ = some (.int .u64 t197) := (blk_cell BK199.out 2).trans rfl; have hcz30_3 : w29.cell? ⟨gb199, 3, none⟩ = some (.int .i64 t198) := (blk_cell BK199.out 3).trans rfl; have hfz30_0 := blk_frozen BK199.out 0; have hfz30_1 := blk_frozen BK199.out 1; have hfz30_2 := blk_frozen BK199.out 2; have hfz30_3 := blk_frozen BK199.out 3; obtain ⟨Ao31, co31, eo31⟩ := Kd.V_slice HO212.out; subst eo31; have hcz32_0 : w29.cell? ⟨gb194, 0, none⟩ = some (.bool false) := (blk_cell BK194.out 0).trans rfl; have hcz32_1 : w29.cell? ⟨gb194, 1, none⟩ = some (.slice none 0 0) := (blk_cell BK194.out 1).trans rfl; have hfz32_0 := blk_frozen BK194.out 0; have hfz32_1 := blk_frozen BK194.out 1))
  refine bodyPost_ret (results_cell_row rfl _ _ gb194 27 #[.bool t195, .slice Ao31 t210.length co31] (0, 0) _ rfl (by refine blkP (cs := #[.bool t195, .slice none 0 0]) ?_ 1 _ rfl; refine blkP (cs := #[.bool false, .slice none 0 0]) ?_ 0 _ rfl; exact bkS BK194.out) Tryd.underlying27 rfl (by kernel_rfl)) rfl ?_
  exact ⟨_, by first | rfl | (simp [errW_none, errW_some] <;> rfl) | (simp [*, errW_none, errW_some] <;> rfl), vS <| Kd.V_mono (Kd.V_far (p := ⟨gb194, 1, none⟩) (Kd.V_far (p := ⟨gb194, 0, none⟩) (Kd.V_mono HO212.out (fun k_ hk => (⟨hk, hk.2.2.1⟩ : _ ∧ k_ ≠ gb194))) (fun _ hk => hk.2) (.bool t195)) (fun _ hk => hk.2) (.slice Ao31 t210.length co31)) (fun _ hk => hk.1.1), bG2 HB.out GE194.out GE199.out⟩

/-! ### abacuslaw05_lifted: function 19 -/
def abacuslaw05_lifted.f (k : Nat) (a0_0 : Bool) (l0_1 : List Int) (a1 : Int) : Option (Bool × List Int) := (nat_Shl.f k l0_1 a1).bind fun bt216 => (some (a0_0, bt216.1))
theorem abacuslaw05_lifted.mono : ∀ a0 a1 a2 k, LeO (abacuslaw05_lifted.f k a0 a1 a2) (abacuslaw05_lifted.f (k + 1) a0 a1 a2) := by
 intro a0 a1 a2 k
 unfold abacuslaw05_lifted.f
 repeat' first
   | (with_reducible exact nat_Shl.mono _ _ _)
   | (with_reducible exact LeO.refl _)
   | (with_reducible exact LeO.none _)
   | (with_reducible refine LeO.ite ?_ ?_)
   | (with_reducible refine LeO.bind ?_ (fun _ => ?_))
   | exact nat_Shl.mono _ _ _
   | exact LeO.none _
   | refine LeO.ite ?_ ?_
   | refine LeO.bind ?_ (fun _ => ?_)
set_option maxHeartbeats 8000000 in
set_option maxRecDepth 100000 in
theorem abacuslaw05_lifted.calls (k : Nat) (a0_0 : Bool) (A0_1 : Option Addr) (c0_1 : Nat) (l0_1 : List Int) (a1 : Int) (r1 : Bool) (r2 : List Int) (w : World) (hr0_1 : Kd.C (Kd.int .u64) w A0_1 l0_1.length l0_1) (hc0_1 : l0_1.length ≤ c0_1) (h : abacuslaw05_lifted.f k a0_0 l0_1 a1 = some (r1, r2)) :
  Calls Tryd.prog 19 #[.agg #[.bool a0_0, .slice A0_1 l0_1.length c0_1], .int .i64 a1] w fun e w' => ∃ v1_ : Value, e = .returned (.agg #[.bool r1, v1_]) ∧ Kd.V (Kd.int .u64) 22 w' w.heap.size (fun k_ => (w.heap.size ≤ k_)) v1_ r2 ∧ Below w.heap.size w w' := by
 have hu27 := Tryd.underlying27
 have HR0_1 := Aside0.mk hr0_1
 have HC0_1 := Aside0.mk hc0_1
 clear hr0_1 hc0_1
 have HB := Aside0.mk (Below.refl w.heap.size w)
 have H : ((nat_Shl.f k l0_1 a1).bind fun bt216 => (some (a0_0, bt216.1))) = some (r1, r2) := h
 clear h
 obtain ⟨⟨t216, t219⟩, A30, H⟩ := Option.bind_eq_some_iff.mp H
 dsimp only at H
 have A3 := Aside0.mk A30
 clear A30
 simp only [Option.some.injEq, Prod.mk.injEq] at H
 obtain ⟨rfl, rfl⟩ := H
 go_enter Tryd.func19, Tryd.ntmps19
 go_wp2_with (first | ((with_reducible refine gate_dst (N := 2) rfl ?_); refine box_event ?hg (N := 2) ?hd (cs := #[.bool a0_0, .slice A0_1 l0_1.length c0_1]) (t := 27) ?hr ?_; (case hd => rfl); (case hg => rfl); (case hr => first | (go_simp; done) | (go_simp; rfl)); intro gb214 hg w4 hbox hb; have BK214 := Aside0.mk (hbox); have GW214 := Aside0.mk ((by rw [hg]; exact (below_size (bS HB.out)) : w.heap.size ≤ gb214)); have GE214 := Aside0.mk ((by rw [hg]; exact (below_size (bS HB.out)) : w.heap.size ≤ gb214)); replace HB := hB HB hb; clear hb hbox hg) | ((with_reducible refine gate_dst (N := 4) rfl ?_); refine box_event ?hg (N := 4) ?hd (cs := #[.bool false, .slice none 0 0]) (t := 27) ?hr ?_; (case hd => rfl); (case hg => rfl); (case hr => first | (go_simp; done) | (go_simp; rfl)); intro gb215 hg w5 hbox hb; have BK215 := Aside0.mk (hbox); have GW215 := Aside0.mk ((by rw [hg]; exact (below_size (bG1 HB.out GE214.out)) : w.heap.size ≤ gb215)); have GE215 := Aside0.mk ((by rw [hg]; exact (below_size (bG1 HB.out GE214.out)) : w.heap.size ≤ gb215)); replace HB := Aside0.mk (below_step (bG1 HB.out GE214.out) hb); have NB214_215 := Aside0.mk ((by rw [hg]; exact Nat.ne_of_lt (blk_lt (g := gb214) (o := .cells #[.bool a0_0, .slice A0_1 l0_1.length c0_1] 27 (0, 0)) (by exact bkS BK214.out)) : gb214 ≠ gb215)); have NB215_214 := Aside0.mk ((by rw [hg]; exact Nat.ne_of_gt (blk_lt (g := gb214) (o := .cells #[.bool a0_0, .slice A0_1 l0_1.length c0_1] 27 (0, 0)) (by exact bkS BK214.out)) : gb215 ≠ gb214)); replace BK214 := bkB BK214 hb; clear hb hbox hg; have hnb6 := NB214_215.out; have hnc6 := NB215_214.out; have hcz7_0 : w5.cell? ⟨gb214, 0, none⟩ = some (.bool a0_0) := (blk_cell BK214.out 0).trans rfl; have hcz7_1 : w5.cell? ⟨gb214, 1, none⟩ = some (.slice A0_1 l0_1.length c0_1) := (blk_cell BK214.out 1).trans rfl; have hfz7_0 := blk_frozen BK214.out 0; have hfz7_1 := blk_frozen BK214.out 1) | ((with_reducible refine gate_callee (f := 51) rfl ?_); refine goesL_ (some 11) rfl rfl Tryd.func51 (by kernel_rfl) rfl #[.slice A0_1 l0_1.length c0_1, .int .i64 a1] rfl (by (try simp only [List.map_toArray, List.map_cons, List.map_nil]); first | done | rfl) ?_; (with_reducible refine (nat_Shl.calls k _ _ l0_1 a1 t216 t219 _ ?side1 ?side2 A3.out).mono ?_); (case side1 => exact cS (Kd.C_below HR0_1.out HB.out)); (case side2 => exact HC0_1.out); rintro e w8 ⟨v217, rfl, ho0, hb⟩; refine ⟨_, rfl, ?_⟩; have HO218 := Aside0.mk (Kd.V_lower (Kd.V_mono (ok' := fun k_ => (w.heap.size ≤ k_) ∧ k_ ≠ gb214 ∧ k_ ≠ gb215) ho0 (fun k_ hk_ => ⟨(Nat.le_trans (below_size (bG2 HB.out GE214.out GE215.out)) hk_), (Kd.freshB (g := gb214) (o := .cells #[.bool a0_0, .slice A0_1 l0_1.length c0_1] 27 (0, 0)) (by exact bkS BK214.out) k_ hk_), (Kd.freshB (g := gb215) (o := .cells #[.bool false, .slice none 0 0] 27 (0, 0)) (by exact bkS BK215.out) k_ hk_)⟩)) (below_size (bG2 HB.out GE214.out GE215.out))); replace BK214 := bkB BK214 hb; replace BK215 := bkB BK215 hb; replace HB := Aside0.mk (below_step (bG2 HB.out GE214.out GE215.out) hb); (try clear hb); (try clear hb2); (try clear hk); (try clear hi); (try clear ho0); have hcz9_0 : w8.cell? ⟨gb214, 0, none⟩ = some (.bool a0_0) := (blk_cell BK214.out 0).trans rfl; have hcz9_1 : w8.cell? ⟨gb214, 1, none⟩ = some (.slice A0_1 l0_1.length c0_1) := (blk_cell BK214.out 1).trans rfl; have hfz9_0 := blk_frozen BK214.out 0; have hfz9_1 := blk_frozen BK214.out 1; obtain ⟨Ao10, co10, eo10⟩ := Kd.V_slice HO218.out; subst eo10; have hcz11_0 : w8.cell? ⟨gb215, 0, none⟩ = some (.bool false) := (blk_cell BK215.out 0).trans rfl; have hcz11_1 : w8.cell? ⟨gb215, 1, none⟩ = some (.slice none 0 0) := (blk_cell BK215.out 1).trans rfl; have hfz11_0 := blk_frozen BK215.out 0; have hfz11_1 := blk_frozen BK215.out 1))
 refine bodyPost_ret (results_cell_row rfl _ _ gb215 27 #[.bool a0_0, .slice Ao10 t216.length co10] (0, 0) _ rfl (by refine blkP (cs := #[.bool a0_0, .slice none 0 0]) ?_ 1 _ rfl; refine blkP (cs := #[.bool false, .slice none 0 0]) ?_ 0 _ rfl; exact bkS BK215.out) Tryd.underlying27 rfl (by kernel_rfl)) rfl ?_
 exact ⟨_, by first | rfl | (simp [errW_none, errW_some] <;> rfl) | (simp [*, errW_none, errW_some] <;> rfl), vS <| Kd.V_mono (Kd.V_far (p := ⟨gb215, 1, none⟩) (Kd.V_far (p := ⟨gb215, 0, none⟩) (Kd.V_mono HO218.out (fun k_ hk => (⟨hk, hk.2.2⟩ : _ ∧ k_ ≠ gb215))) (fun _ hk => hk.2) (.bool a0_0)) (fun _ hk => hk.2) (.slice Ao10 t216.length co10)) (fun _ hk => hk.1.1), bG2 HB.out GE214.out GE215.out⟩

end Go.Proofs.YtcdnoklokoplaaaDoor.PE
