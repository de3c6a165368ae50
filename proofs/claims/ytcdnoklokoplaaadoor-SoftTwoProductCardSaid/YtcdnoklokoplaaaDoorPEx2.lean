-- printed by a program
import Derived.Test.YtcdnoklokoplaaaDoorPEx0
import Derived.Test.YtcdnoklokoplaaaDoorPEx1
namespace Go.Proofs.YtcdnoklokoplaaaDoor.PE
open Go.Proofs.YtcdnoklokoplaaaDoorX
open Go.RowKit Go.Proofs.YtcdnoklokoplaaaDoorW.PrintWords Go.Proofs.YtcdnoklokoplaaaDoorW.PrintLast Go.Proofs.YtcdnoklokoplaaaDoorW.PrintMore
attribute [local go_sem] max2_int min2_int max_two min_two max_three min_three max_four min_four   -- for this text's walks alone
set_option linter.unusedVariables false
set_option linter.unusedSimpArgs false

/-! ### nat_cut: function 84 -/
def nat_cut.f (k : Nat) (l0 : List Int) : Option (List Int × Int) := (nat_size.f k l0).bind fun t116 => (if t116 > 4096 then (some (([] : List Int), 2)) else (if 0 ≤ t116 then (if t116 ≤ (l0.length : Int) then (some ((l0.take (t116 : Int).toNat), 0)) else (none)) else (none)))
theorem nat_cut.mono : ∀ a0 k, LeO (nat_cut.f k a0) (nat_cut.f (k + 1) a0) := by
 intro a0 k
 unfold nat_cut.f
 repeat' first
   | (with_reducible exact nat_size.mono _ _)
   | (with_reducible exact LeO.refl _)
   | (with_reducible exact LeO.none _)
   | (with_reducible refine LeO.ite ?_ ?_)
   | (with_reducible refine LeO.bind ?_ (fun _ => ?_))
   | exact nat_size.mono _ _
   | exact LeO.none _
   | refine LeO.ite ?_ ?_
   | refine LeO.bind ?_ (fun _ => ?_)
set_option maxHeartbeats 8000000 in
set_option maxRecDepth 100000 in
theorem nat_cut.calls (k : Nat) (P0_ : Nat → Prop) (A0 : Option Addr) (c0 : Nat) (l0 : List Int) (r1 : List Int) (r2 : Int) (w : World) (hs0 : Kd.V (Kd.int .u64) 22 w w.heap.size (fun k_ => P0_ k_) (.slice A0 l0.length c0) l0) (h : nat_cut.f k l0 = some (r1, r2)) :
  Calls Tryd.prog 84 #[.slice A0 l0.length c0] w fun e w' => ∃ v0_ : Value, e = .returned (.tuple #[v0_, .int .i64 r2]) ∧ Kd.V (Kd.int .u64) 22 w' w.heap.size (fun k_ => (P0_ k_ ∨ w.heap.size ≤ k_)) v0_ r1 ∧ Below w.heap.size w w' := by
 have HO0 := Aside0.mk (show Kd.V (Kd.int .u64) 22 w w.heap.size (fun k_ => (P0_ k_ ∨ w.heap.size ≤ k_)) (.slice A0 l0.length c0) l0 from Kd.V_mono hs0 (fun k_ hk => .inl hk))
 have HB := Aside0.mk (Below.refl w.heap.size w)
 have H : ((nat_size.f k l0).bind fun t116 => (if t116 > 4096 then (some (([] : List Int), 2)) else (if 0 ≤ t116 then (if t116 ≤ (l0.length : Int) then (some ((l0.take (t116 : Int).toNat), 0)) else (none)) else (none)))) = some (r1, r2) := h
 clear h
 obtain ⟨t116, A20, H⟩ := Option.bind_eq_some_iff.mp H
 have A2 := Aside0.mk A20
 clear A20
 by_cases c3 : t116 > 4096
 ·rw [if_pos c3] at H
  have c3b0 : decide (4096 < t116) = true := decide_eq_true c3
  clear c3
  simp only [Option.some.injEq, Prod.mk.injEq] at H
  obtain ⟨rfl, rfl⟩ := H
  go_enter Tryd.func84, Tryd.ntmps84
  go_wp2_with (first | ((with_reducible refine gate_callee (f := 52) rfl ?_); refine goesL_ (some 6) rfl rfl Tryd.func52 (by kernel_rfl) rfl #[.slice A0 l0.length c0] rfl (by (try simp only [List.map_toArray, List.map_cons, List.map_nil]); first | done | rfl) ?_; (with_reducible refine (nat_size.calls k _ _ l0 t116 _ ?side1 ?side2 A2.out).mono ?_); (case side1 => exact cS (Kd.V_reads' HO0.out).2.2); (case side2 => exact (Kd.V_reads' HO0.out).2.1); rintro e w' ⟨rfl, ⟨nd, rfl⟩⟩; refine ⟨_, rfl, ?_⟩))
  go_ret2
  exact ⟨.slice none 0 0, by first | rfl | (simp [errW_none, errW_some] <;> rfl) | (simp [*, errW_none, errW_some] <;> rfl), Kd.V_nil _ _ _ _ _, bS HB.out⟩
 ·rw [if_neg c3] at H
  have c3b0 : decide (4096 < t116) = false := decide_eq_false c3
  clear c3
  by_cases c4 : 0 ≤ t116
  ·rw [if_pos c4] at H
   have c4b0 := eq_true c4
   have c4b1 : decide (0 ≤ t116) = true := decide_eq_true c4
   clear c4
   by_cases c5 : t116 ≤ (l0.length : Int)
   ·rw [if_pos c5] at H
    have c5b0 := eq_true c5
    have c5b1 : decide (t116 ≤ (l0.length : Int)) = true := decide_eq_true c5
    clear c5
    obtain ⟨y117, hy117⟩ : ∃ y_ : List Int, y_ = (l0.take (t116 : Int).toNat) := ⟨_, rfl⟩
    replace H : (some (y117, 0)) = some (r1, r2) := by first | (rw [hy117]; with_reducible exact H) | (have H2_ := (Option.bind_some _ _).symm.trans H; rw [hy117]; with_reducible exact H2_) | (have H2_ := (Option.bind_some _ _).symm.trans H; with_reducible exact H2_) | with_reducible exact H | (rw [hy117]; exact H) | exact H
    have Ny117 := Aside0.mk hy117
    clear hy117
    simp only [Option.some.injEq, Prod.mk.injEq] at H
    obtain ⟨rfl, rfl⟩ := H
    go_enter Tryd.func84, Tryd.ntmps84
    go_wp2_with (first | ((with_reducible refine gate_callee (f := 52) rfl ?_); refine goesL_ (some 6) rfl rfl Tryd.func52 (by kernel_rfl) rfl #[.slice A0 l0.length c0] rfl (by (try simp only [List.map_toArray, List.map_cons, List.map_nil]); first | done | rfl) ?_; (with_reducible refine (nat_size.calls k _ _ l0 t116 _ ?side1 ?side2 A2.out).mono ?_); (case side1 => exact cS (Kd.V_reads' HO0.out).2.2); (case side2 => exact (Kd.V_reads' HO0.out).2.1); rintro e w' ⟨rfl, ⟨nd, rfl⟩⟩; refine ⟨_, rfl, ?_⟩; have q6 : (t116 : Int) ≤ ((l0.length : Int) : Int) := of_decide_eq_true (by first | (with_reducible assumption) | assumption); obtain ⟨i06, hi06, _, hsz6, _⟩ := info_parts info22; have hroom6 : l0.length ≤ c0 := (Kd.V_reads' HO0.out).2.1; have hC6 : Kd.F (Kd.int .u64) _ _ A0 l0.length l0 := (Kd.V_at (base := w.heap.size) HO0.out).2.2; have hcut6 := cut_to3 (P := Tryd.prog) 25 22 .i64 Tryd.underlying25 hi06 A0 l0.length c0 t116 (of_decide_eq_true (by first | (with_reducible assumption) | assumption)) q6 hroom6; have hr6 := Kd.F_take (m := (t116 : Int).toNat) hC6 (by omega); have hy6 : y117.length = (t116 : Int).toNat := (by rw [Ny117.out, List.length_take]; omega); rw [← Ny117.out] at hr6; rw [← hy6] at hcut6; have HO121 := Aside0.mk (show Kd.V (Kd.int .u64) 22 _ w.heap.size _ (.slice A0 y117.length y117.length) y117 from Kd.V_mk (by omega) hr6); have HC121 := Aside0.mk (show y117.length ≤ y117.length from by omega); clear hr6 hC6 hroom6 hi06 hsz6; have KY6 := Aside0.mk hy6; clear hy6; replace q6 := eq_true q6))
    go_ret2
    exact ⟨_, by first | rfl | (simp [errW_none, errW_some] <;> rfl) | (simp [*, errW_none, errW_some] <;> rfl), vS <| HO121.out, bS HB.out⟩
   ·rw [if_neg c5] at H
    exact absurd H (by simp)
  ·rw [if_neg c4] at H
   exact absurd H (by simp)

/-! ### nat_Mul: function 49 -/
mutual
def nat_Mul.j0 : Nat → List Int → List Int → Bool → Option (List Int × Int)
 | 0, _, _, _ => none
 | k + 1, x0, x1, x20 => if x20 = true then (some (([] : List Int), 2)) else ((nat_size.f k x0).bind fun t124 => (if 0 ≤ t124 then (if t124 ≤ (x0.length : Int) then ((some (x0.take (t124 : Int).toNat : List Int)).bind fun y125 => ((nat_size.f k x1).bind fun t129 => (if 0 ≤ t129 then (if t129 ≤ (x1.length : Int) then ((some (x1.take (t129 : Int).toNat : List Int)).bind fun y130 => (if (y125.length : Int) = 0 then (nat_Mul.j1 k y125 y130 true) else (nat_Mul.j1 k y125 y130 ((y130.length : Int) == 0)))) else (none)) else (none)))) else (none)) else (none)))
def nat_Mul.j1 : Nat → List Int → List Int → Bool → Option (List Int × Int)
 | 0, _, _, _ => none
 | k + 1, x0, x1, x36 => if x36 = true then (some (([] : List Int), 0)) else (if (wrap64 ((wrap64 ((x0.length : Int) + (x1.length : Int))) - 1)) > 4096 then (some (([] : List Int), 2)) else (if 0 ≤ (wrap64 ((x0.length : Int) + (x1.length : Int))) then (if (wrap64 ((x0.length : Int) + (x1.length : Int)) : Int).toNat ≤ 35184372088832 then (nat_Mul.l0 k x1 (List.replicate (wrap64 ((x0.length : Int) + (x1.length : Int)) : Int).toNat 0) x0 (x0.length : Int) 0) else (none)) else (none)))
def nat_Mul.l0 : Nat → List Int → List Int → List Int → Int → Int → Option (List Int × Int)
 | 0, _, _, _, _, _ => none
 | k + 1, x1, x6, x50, x51, x52 => if x52 < x51 then (if 0 ≤ x52 then (if x52 < (x50.length : Int) then (nat_Mul.l1 k x1 x6 x52 (rd x50 x52) 0 x50 x51 x52 x1 (x1.length : Int) 0) else (none)) else (none)) else ((nat_cut.f k x6).bind fun bt137 => (some (bt137.1, bt137.2)))
def nat_Mul.l1 : Nat → List Int → List Int → Int → Int → Int → List Int → Int → Int → List Int → Int → Int → Option (List Int × Int)
 | 0, _, _, _, _, _, _, _, _, _, _, _ => none
 | k + 1, x1, x6, x7, x8, x9, x50, x51, x52, x57, x58, x59 => if x59 < x58 then (if 0 ≤ x59 then (if x59 < (x57.length : Int) then ((bits_Mul64.f x8 (rd x57 x59)).bind fun bt143 => (if 0 ≤ (wrap64 (x7 + x59)) then (if (wrap64 (x7 + x59)) < (x6.length : Int) then ((bits_Add64.f bt143.2 (rd x6 (wrap64 (x7 + x59))) 0).bind fun bt146 => ((bits_Add64.f bt146.1 x9 0).bind fun bt148 => (nat_Mul.l1 k x1 (x6.set ((wrap64 (x7 + x59)) : Int).toNat bt148.1) x7 x8 (IntKind.u64.wrap ((IntKind.u64.wrap (bt143.1 + bt146.2)) + bt148.2)) x50 x51 x52 x57 x58 (wrap64 (x59 + 1))))) else (none)) else (none))) else (none)) else (none)) else (if 0 ≤ (wrap64 (x7 + (x1.length : Int))) then (if (wrap64 (x7 + (x1.length : Int))) < (x6.length : Int) then (nat_Mul.l0 k x1 (x6.set ((wrap64 (x7 + (x1.length : Int))) : Int).toNat x9) x50 x51 (wrap64 (x52 + 1))) else (none)) else (none))
end
def nat_Mul.f (k : Nat) (l0 : List Int) (l1 : List Int) : Option (List Int × Int) := (nat_big.f k l0).bind fun t122 => (if t122 = true then (nat_Mul.j0 k l0 l1 true) else ((nat_big.f k l1).bind fun t123 => (nat_Mul.j0 k l0 l1 t123)))
theorem nat_Mul.mono_l : ∀ k, (∀ y0 y1 y2, LeO (nat_Mul.j0 k y0 y1 y2) (nat_Mul.j0 (k + 1) y0 y1 y2)) ∧ (∀ y0 y1 y2, LeO (nat_Mul.j1 k y0 y1 y2) (nat_Mul.j1 (k + 1) y0 y1 y2)) ∧ (∀ y0 y1 y2 y3 y4, LeO (nat_Mul.l0 k y0 y1 y2 y3 y4) (nat_Mul.l0 (k + 1) y0 y1 y2 y3 y4)) ∧ (∀ y0 y1 y2 y3 y4 y5 y6 y7 y8 y9 y10, LeO (nat_Mul.l1 k y0 y1 y2 y3 y4 y5 y6 y7 y8 y9 y10) (nat_Mul.l1 (k + 1) y0 y1 y2 y3 y4 y5 y6 y7 y8 y9 y10))
 | 0 => ⟨fun _ _ _ r h => by simp [nat_Mul.j0] at h, fun _ _ _ r h => by simp [nat_Mul.j1] at h, fun _ _ _ _ _ r h => by simp [nat_Mul.l0] at h, fun _ _ _ _ _ _ _ _ _ _ _ r h => by simp [nat_Mul.l1] at h⟩
 | k + 1 => by
  obtain ⟨ih0, ih1, ih2, ih3⟩ := nat_Mul.mono_l k
  refine ⟨?_, ?_, ?_, ?_⟩
  ·intro y0 y1 y2
   unfold nat_Mul.j0
   repeat' first
   | (with_reducible exact ih0 _ _ _)
   | (with_reducible exact ih1 _ _ _)
   | (with_reducible exact ih2 _ _ _ _ _)
   | (with_reducible exact ih3 _ _ _ _ _ _ _ _ _ _ _)
   | (with_reducible exact nat_big.mono _ _)
   | (with_reducible exact nat_cut.mono _ _)
   | (with_reducible exact nat_size.mono _ _)
   | (with_reducible exact LeO.refl _)
   | (with_reducible exact LeO.none _)
   | (with_reducible refine LeO.ite ?_ ?_)
   | (with_reducible refine LeO.bind ?_ (fun _ => ?_))
   | exact ih0 _ _ _
   | exact ih1 _ _ _
   | exact ih2 _ _ _ _ _
   | exact ih3 _ _ _ _ _ _ _ _ _ _ _
   | exact nat_big.mono _ _
   | exact nat_cut.mono _ _
   | exact nat_size.mono _ _
   | exact LeO.none _
   | refine LeO.ite ?_ ?_
   | refine LeO.bind ?_ (fun _ => ?_)
  ·intro y0 y1 y2
   unfold nat_Mul.j1
   repeat' first
   | (with_reducible exact ih0 _ _ _)
   | (with_reducible exact ih1 _ _ _)
   | (with_reducible exact ih2 _ _ _ _ _)
   | (with_reducible exact ih3 _ _ _ _ _ _ _ _ _ _ _)
   | (with_reducible exact nat_big.mono _ _)
   | (with_reducible exact nat_cut.mono _ _)
   | (with_reducible exact nat_size.mono _ _)
   | (with_reducible exact LeO.refl _)
   | (with_reducible exact LeO.none _)
   | (with_reducible refine LeO.ite ?_ ?_)
   | (with_reducible refine LeO.bind ?_ (fun _ => ?_))
   | exact ih0 _ _ _
   | exact ih1 _ _ _
   | exact ih2 _ _ _ _ _
   | exact ih3 _ _ _ _ _ _ _ _ _ _ _
   | exact nat_big.mono _ _
   | exact nat_cut.mono _ _
   | exact nat_size.mono _ _
   | exact LeO.none _
   | refine LeO.ite ?_ ?_
   | refine LeO.bind ?_ (fun _ => ?_)
  ·intro y0 y1 y2 y3 y4
   unfold nat_Mul.l0
   repeat' first
   | (with_reducible exact ih0 _ _ _)
   | (with_reducible exact ih1 _ _ _)
   | (with_reducible exact ih2 _ _ _ _ _)
   | (with_reducible exact ih3 _ _ _ _ _ _ _ _ _ _ _)
   | (with_reducible exact nat_big.mono _ _)
   | (with_reducible exact nat_cut.mono _ _)
   | (with_reducible exact nat_size.mono _ _)
   | (with_reducible exact LeO.refl _)
   | (with_reducible exact LeO.none _)
   | (with_reducible refine LeO.ite ?_ ?_)
   | (with_reducible refine LeO.bind ?_ (fun _ => ?_))
   | exact ih0 _ _ _
   | exact ih1 _ _ _
   | exact ih2 _ _ _ _ _
   | exact ih3 _ _ _ _ _ _ _ _ _ _ _
   | exact nat_big.mono _ _
   | exact nat_cut.mono _ _
   | exact nat_size.mono _ _
   | exact LeO.none _
   | refine LeO.ite ?_ ?_
   | refine LeO.bind ?_ (fun _ => ?_)
  ·intro y0 y1 y2 y3 y4 y5 y6 y7 y8 y9 y10
   unfold nat_Mul.l1
   repeat' first
   | (with_reducible exact ih0 _ _ _)
   | (with_reducible exact ih1 _ _ _)
   | (with_reducible exact ih2 _ _ _ _ _)
   | (with_reducible exact ih3 _ _ _ _ _ _ _ _ _ _ _)
   | (with_reducible exact nat_big.mono _ _)
   | (with_reducible exact nat_cut.mono _ _)
   | (with_reducible exact nat_size.mono _ _)
   | (with_reducible exact LeO.refl _)
   | (with_reducible exact LeO.none _)
   | (with_reducible refine LeO.ite ?_ ?_)
   | (with_reducible refine LeO.bind ?_ (fun _ => ?_))
   | exact ih0 _ _ _
   | exact ih1 _ _ _
   | exact ih2 _ _ _ _ _
   | exact ih3 _ _ _ _ _ _ _ _ _ _ _
   | exact nat_big.mono _ _
   | exact nat_cut.mono _ _
   | exact nat_size.mono _ _
   | exact LeO.none _
   | refine LeO.ite ?_ ?_
   | refine LeO.bind ?_ (fun _ => ?_)
theorem nat_Mul.mono : ∀ a0 a1 k, LeO (nat_Mul.f k a0 a1) (nat_Mul.f (k + 1) a0 a1) := by
 intro a0 a1 k
 obtain ⟨ih0, ih1, ih2, ih3⟩ := nat_Mul.mono_l k
 unfold nat_Mul.f
 repeat' first
   | (with_reducible exact ih0 _ _ _)
   | (with_reducible exact ih1 _ _ _)
   | (with_reducible exact ih2 _ _ _ _ _)
   | (with_reducible exact ih3 _ _ _ _ _ _ _ _ _ _ _)
   | (with_reducible exact nat_big.mono _ _)
   | (with_reducible exact nat_cut.mono _ _)
   | (with_reducible exact nat_size.mono _ _)
   | (with_reducible exact LeO.refl _)
   | (with_reducible exact LeO.none _)
   | (with_reducible refine LeO.ite ?_ ?_)
   | (with_reducible refine LeO.bind ?_ (fun _ => ?_))
   | exact ih0 _ _ _
   | exact ih1 _ _ _
   | exact ih2 _ _ _ _ _
   | exact ih3 _ _ _ _ _ _ _ _ _ _ _
   | exact nat_big.mono _ _
   | exact nat_cut.mono _ _
   | exact nat_size.mono _ _
   | exact LeO.none _
   | refine LeO.ite ?_ ?_
   | refine LeO.bind ?_ (fun _ => ?_)
set_option maxHeartbeats 8000000 in
set_option maxRecDepth 100000 in
theorem nat_Mul.calls (k : Nat) (A0 : Option Addr) (c0 : Nat) (l0 : List Int) (A1 : Option Addr) (c1 : Nat) (l1 : List Int) (r1 : List Int) (r2 : Int) (w : World) (hr0 : Kd.C (Kd.int .u64) w A0 l0.length l0) (hc0 : l0.length ≤ c0) (hr1 : Kd.C (Kd.int .u64) w A1 l1.length l1) (hc1 : l1.length ≤ c1) (h : nat_Mul.f k l0 l1 = some (r1, r2)) :
  Calls Tryd.prog 49 #[.slice A0 l0.length c0, .slice A1 l1.length c1] w fun e w' => ∃ v0_ : Value, e = .returned (.tuple #[v0_, .int .i64 r2]) ∧ Kd.V (Kd.int .u64) 22 w' w.heap.size (fun k_ => (w.heap.size ≤ k_)) v0_ r1 ∧ Below w.heap.size w w' := by
 have HR0 := Aside0.mk hr0
 have HC0 := Aside0.mk hc0
 clear hr0 hc0
 have HR1 := Aside0.mk hr1
 have HC1 := Aside0.mk hc1
 clear hr1 hc1
 have HB := Aside0.mk (Below.refl w.heap.size w)
 have H : ((nat_big.f k l0).bind fun t122 => (if t122 = true then (nat_Mul.j0 k l0 l1 true) else ((nat_big.f k l1).bind fun t123 => (nat_Mul.j0 k l0 l1 t123)))) = some (r1, r2) := h
 clear h
 have HC3 := Aside0.mk H
 clear H
 go_enter Tryd.func49, Tryd.ntmps49
 go_upto_region 1 with (fail)
 repeat (go_quiet (fail); go_upto_region 1 with (fail))
 go_cut [20] (fun v20 wc => ∃ (kq : Nat) (x20_2 : Bool), v20 = .bool x20_2 ∧ Aside0 (nat_Mul.j0 kq l0 l1 x20_2 = some (r1, r2)) ∧ Aside0 (kq ≤ k) ∧ Aside0 (Below w.heap.size w wc))
 case first =>
  have H := HC3.out
  clear HC3
  obtain ⟨t122, A40, H⟩ := Option.bind_eq_some_iff.mp H
  have A4 := Aside0.mk A40
  clear A40
  by_cases c5 : t122 = true
  ·subst c5
   have H1 : (nat_Mul.j0 k l0 l1 true) = some (r1, r2) := by rw [if_pos rfl] at H; exact H
   clear H
   have H := H1
   clear H1
   have H' := Aside0.mk H
   clear H
   go_wp2_with (first | (go_at_call 81; (with_reducible refine (nat_big.calls k _ _ l0 true _ ?side1 ?side2 A4.out).mono ?_); (case side1 => exact cS (Kd.C_below HR0.out HB.out)); (case side2 => exact HC0.out); rintro e w' ⟨rfl, ⟨nd, rfl⟩⟩; (try first | exact ⟨rfl, _, dn2⟩ | exact ⟨rfl, _, dn3⟩)))
   repeat (go_quiet (first | (go_at_call 81; (with_reducible refine (nat_big.calls k _ _ l0 true _ ?side1 ?side2 A4.out).mono ?_); (case side1 => exact cS (Kd.C_below HR0.out HB.out)); (case side2 => exact HC0.out); rintro e w' ⟨rfl, ⟨nd, rfl⟩⟩; (try first | exact ⟨rfl, _, dn2⟩ | exact ⟨rfl, _, dn3⟩))); try go_wp2_with (first | (go_at_call 81; (with_reducible refine (nat_big.calls k _ _ l0 true _ ?side1 ?side2 A4.out).mono ?_); (case side1 => exact cS (Kd.C_below HR0.out HB.out)); (case side2 => exact HC0.out); rintro e w' ⟨rfl, ⟨nd, rfl⟩⟩; (try first | exact ⟨rfl, _, dn2⟩ | exact ⟨rfl, _, dn3⟩))))
   go_meet
   case rel => exact ⟨_, (true), (by first | rfl | (simp; done) | (simp [*]; done)), H', ⟨by first | omega | exact Nat.le_refl _⟩, ⟨bS HB.out⟩⟩
  ·replace c5 := Bool.eq_false_iff.mpr c5
   subst c5
   have H1 : ((nat_big.f k l1).bind fun t123 => (nat_Mul.j0 k l0 l1 t123)) = some (r1, r2) := by rw [if_neg (show ¬ (false = true) by decide)] at H; exact H
   clear H
   have H := H1
   clear H1
   obtain ⟨t123, A60, H⟩ := Option.bind_eq_some_iff.mp H
   have A6 := Aside0.mk A60
   clear A60
   have H' := Aside0.mk H
   clear H
   go_wp2_with (first | (go_at_call 81; (with_reducible refine (nat_big.calls k _ _ l0 false _ ?side1 ?side2 A4.out).mono ?_); (case side1 => exact cS (Kd.C_below HR0.out HB.out)); (case side2 => exact HC0.out); rintro e w' ⟨rfl, ⟨nd, rfl⟩⟩; (try first | exact ⟨rfl, _, dn2⟩ | exact ⟨rfl, _, dn3⟩)) | (go_at_call 81; (with_reducible refine (nat_big.calls k _ _ l1 t123 _ ?side1 ?side2 A6.out).mono ?_); (case side1 => exact (Kd.C_below HR1.out (bS HB.out))); (case side2 => exact HC1.out); rintro e w' ⟨rfl, ⟨nd, rfl⟩⟩; (try first | exact ⟨rfl, _, dn2⟩ | exact ⟨rfl, _, dn3⟩)))
   repeat (go_quiet (first | (go_at_call 81; (with_reducible refine (nat_big.calls k _ _ l0 false _ ?side1 ?side2 A4.out).mono ?_); (case side1 => exact cS (Kd.C_below HR0.out HB.out)); (case side2 => exact HC0.out); rintro e w' ⟨rfl, ⟨nd, rfl⟩⟩; (try first | exact ⟨rfl, _, dn2⟩ | exact ⟨rfl, _, dn3⟩)) | (go_at_call 81; (with_reducible refine (nat_big.calls k _ _ l1 t123 _ ?side1 ?side2 A6.out).mono ?_); (case side1 => exact (Kd.C_below HR1.out (bS HB.out))); (case side2 => exact HC1.out); rintro e w' ⟨rfl, ⟨nd, rfl⟩⟩; (try first | exact ⟨rfl, _, dn2⟩ | exact ⟨rfl, _, dn3⟩))); try go_wp2_with (first | (go_at_call 81; (with_reducible refine (nat_big.calls k _ _ l0 false _ ?side1 ?side2 A4.out).mono ?_); (case side1 => exact cS (Kd.C_below HR0.out HB.out)); (case side2 => exact HC0.out); rintro e w' ⟨rfl, ⟨nd, rfl⟩⟩; (try first | exact ⟨rfl, _, dn2⟩ | exact ⟨rfl, _, dn3⟩)) | (go_at_call 81; (with_reducible refine (nat_big.calls k _ _ l1 t123 _ ?side1 ?side2 A6.out).mono ?_); (case side1 => exact (Kd.C_below HR1.out (bS HB.out))); (case side2 => exact HC1.out); rintro e w' ⟨rfl, ⟨nd, rfl⟩⟩; (try first | exact ⟨rfl, _, dn2⟩ | exact ⟨rfl, _, dn3⟩))))
   go_meet
   case rel => exact ⟨_, (t123), (by first | rfl | (have e_ := Option.some.inj (A4.out.symm.trans A6.out); cases e_; rfl) | (simp; done) | (simp [*]; done)), H', ⟨by first | omega | exact Nat.le_refl _⟩, ⟨bS HB.out⟩⟩
 case rest =>
  clear HC3
  try clear c1
  try clear p2
  try clear c4
  try clear c5
  obtain ⟨kq, x20_2, rfl, HA, HJ2, HB⟩ := hcut
  cases kq with
  | zero => exact absurd HA.out (by simp [nat_Mul.j0])
  | succ kj2 =>
   have H := HA.out
   clear HA
   simp only [nat_Mul.j0] at H
   by_cases c7 : x20_2 = true
   ·subst c7
    have H1 : (some (([] : List Int), 2)) = some (r1, r2) := by rw [if_pos rfl] at H; exact H
    clear H
    have H := H1
    clear H1
    simp only [Option.some.injEq, Prod.mk.injEq] at H
    obtain ⟨rfl, rfl⟩ := H
    go_wp2
    repeat (go_quiet (fail); try go_wp2)
    go_ret2
    exact ⟨.slice none 0 0, by first | rfl | (simp [errW_none, errW_some] <;> rfl) | (simp [*, errW_none, errW_some] <;> rfl), Kd.V_nil _ _ _ _ _, bS HB.out⟩
   ·replace c7 := Bool.eq_false_iff.mpr c7
    subst c7
    have H1 : ((nat_size.f kj2 l0).bind fun t124 => (if 0 ≤ t124 then (if t124 ≤ (l0.length : Int) then ((some (l0.take (t124 : Int).toNat : List Int)).bind fun y125 => ((nat_size.f kj2 l1).bind fun t129 => (if 0 ≤ t129 then (if t129 ≤ (l1.length : Int) then ((some (l1.take (t129 : Int).toNat : List Int)).bind fun y130 => (if (y125.length : Int) = 0 then (nat_Mul.j1 kj2 y125 y130 true) else (nat_Mul.j1 kj2 y125 y130 ((y130.length : Int) == 0)))) else (none)) else (none)))) else (none)) else (none))) = some (r1, r2) := by rw [if_neg (show ¬ (false = true) by decide)] at H; exact H
    clear H
    have H := H1
    clear H1
    obtain ⟨t124, A80, H⟩ := Option.bind_eq_some_iff.mp H
    have A8 := Aside0.mk A80
    clear A80
    by_cases c9 : 0 ≤ t124
    ·rw [if_pos c9] at H
     have c9b0 := eq_true c9
     have c9b1 : decide (0 ≤ t124) = true := decide_eq_true c9
     clear c9
     by_cases c10 : t124 ≤ (l0.length : Int)
     ·rw [if_pos c10] at H
      have c10b0 := eq_true c10
      have c10b1 : decide (t124 ≤ (l0.length : Int)) = true := decide_eq_true c10
      clear c10
      obtain ⟨y125, hy125⟩ : ∃ y_ : List Int, y_ = (l0.take (t124 : Int).toNat) := ⟨_, rfl⟩
      replace H : ((nat_size.f kj2 l1).bind fun t129 => (if 0 ≤ t129 then (if t129 ≤ (l1.length : Int) then ((some (l1.take (t129 : Int).toNat : List Int)).bind fun y130 => (if (y125.length : Int) = 0 then (nat_Mul.j1 kj2 y125 y130 true) else (nat_Mul.j1 kj2 y125 y130 ((y130.length : Int) == 0)))) else (none)) else (none))) = some (r1, r2) := by first | (rw [hy125]; with_reducible exact H) | (have H2_ := (Option.bind_some _ _).symm.trans H; rw [hy125]; with_reducible exact H2_) | (have H2_ := (Option.bind_some _ _).symm.trans H; with_reducible exact H2_) | with_reducible exact H | (rw [hy125]; exact H) | exact H
      have Ny125 := Aside0.mk hy125
      clear hy125
      obtain ⟨t129, A110, H⟩ := Option.bind_eq_some_iff.mp H
      have A11 := Aside0.mk A110
      clear A110
      by_cases c12 : 0 ≤ t129
      ·rw [if_pos c12] at H
       have c12b0 := eq_true c12
       have c12b1 : decide (0 ≤ t129) = true := decide_eq_true c12
       clear c12
       by_cases c13 : t129 ≤ (l1.length : Int)
       ·rw [if_pos c13] at H
        have c13b0 := eq_true c13
        have c13b1 : decide (t129 ≤ (l1.length : Int)) = true := decide_eq_true c13
        clear c13
        obtain ⟨y130, hy130⟩ : ∃ y_ : List Int, y_ = (l1.take (t129 : Int).toNat) := ⟨_, rfl⟩
        replace H : (if (y125.length : Int) = 0 then (nat_Mul.j1 kj2 y125 y130 true) else (nat_Mul.j1 kj2 y125 y130 ((y130.length : Int) == 0))) = some (r1, r2) := by first | (rw [hy130]; with_reducible exact H) | (have H2_ := (Option.bind_some _ _).symm.trans H; rw [hy130]; with_reducible exact H2_) | (have H2_ := (Option.bind_some _ _).symm.trans H; with_reducible exact H2_) | with_reducible exact H | (rw [hy130]; exact H) | exact H
        have Ny130 := Aside0.mk hy130
        clear hy130
        have HC14 := Aside0.mk H
        clear H
        go_upto_region 4 with (first | (go_at_call 52; (with_reducible refine (nat_size.calls kj2 _ _ l0 t124 _ ?side1 ?side2 A8.out).mono ?_); (case side1 => exact cS (Kd.C_below HR0.out HB.out)); (case side2 => exact HC0.out); rintro e w' ⟨rfl, ⟨nd, rfl⟩⟩; (try first | exact ⟨rfl, _, dn2⟩ | exact ⟨rfl, _, dn3⟩); have q15 : (t124 : Int) ≤ ((l0.length : Int) : Int) := of_decide_eq_true (by first | (with_reducible assumption) | assumption); obtain ⟨i015, hi015, _, hsz15, _⟩ := info_parts info22; have hroom15 : l0.length ≤ c0 := HC0.out; have hC15 : Kd.C (Kd.int .u64) _ A0 l0.length l0 := HR0.out; have hcut15 := cut_to (P := Tryd.prog) 25 22 .i64 Tryd.underlying25 hi015 A0 l0.length c0 t124 (of_decide_eq_true (by first | (with_reducible assumption) | assumption)) q15 hroom15; have hr15 := Kd.C_take (m := (t124 : Int).toNat) hC15 (by omega); have hy15 : y125.length = (t124 : Int).toNat := (by rw [Ny125.out, List.length_take]; omega); rw [← Ny125.out] at hr15; rw [← hy15] at hcut15; have HR128 := Aside0.mk hr15; have HC128 := Aside0.mk (show y125.length ≤ c0 from by omega); clear hr15 hC15 hroom15 hi015 hsz15; have KY15 := Aside0.mk hy15; clear hy15; replace q15 := eq_true q15) | (go_at_call 52; (with_reducible refine (nat_size.calls kj2 _ _ l1 t129 _ ?side1 ?side2 A11.out).mono ?_); (case side1 => exact (Kd.C_below HR1.out (bS HB.out))); (case side2 => exact HC1.out); rintro e w' ⟨rfl, ⟨nd, rfl⟩⟩; (try first | exact ⟨rfl, _, dn2⟩ | exact ⟨rfl, _, dn3⟩); have q16 : (t129 : Int) ≤ ((l1.length : Int) : Int) := of_decide_eq_true (by first | (with_reducible assumption) | assumption); obtain ⟨i016, hi016, _, hsz16, _⟩ := info_parts info22; have hroom16 : l1.length ≤ c1 := HC1.out; have hC16 : Kd.C (Kd.int .u64) _ A1 l1.length l1 := HR1.out; have hcut16 := cut_to (P := Tryd.prog) 25 22 .i64 Tryd.underlying25 hi016 A1 l1.length c1 t129 (of_decide_eq_true (by first | (with_reducible assumption) | assumption)) q16 hroom16; have hr16 := Kd.C_take (m := (t129 : Int).toNat) hC16 (by omega); have hy16 : y130.length = (t129 : Int).toNat := (by rw [Ny130.out, List.length_take]; omega); rw [← Ny130.out] at hr16; rw [← hy16] at hcut16; have HR133 := Aside0.mk hr16; have HC133 := Aside0.mk (show y130.length ≤ c1 from by omega); clear hr16 hC16 hroom16 hi016 hsz16; have KY16 := Aside0.mk hy16; clear hy16; replace q16 := eq_true q16))
        repeat (go_quiet (first | (go_at_call 52; (with_reducible refine (nat_size.calls kj2 _ _ l0 t124 _ ?side1 ?side2 A8.out).mono ?_); (case side1 => exact cS (Kd.C_below HR0.out HB.out)); (case side2 => exact HC0.out); rintro e w' ⟨rfl, ⟨nd, rfl⟩⟩; (try first | exact ⟨rfl, _, dn2⟩ | exact ⟨rfl, _, dn3⟩); have q15 : (t124 : Int) ≤ ((l0.length : Int) : Int) := of_decide_eq_true (by first | (with_reducible assumption) | assumption); obtain ⟨i015, hi015, _, hsz15, _⟩ := info_parts info22; have hroom15 : l0.length ≤ c0 := HC0.out; have hC15 : Kd.C (Kd.int .u64) _ A0 l0.length l0 := HR0.out; have hcut15 := cut_to (P := Tryd.prog) 25 22 .i64 Tryd.underlying25 hi015 A0 l0.length c0 t124 (of_decide_eq_true (by first | (with_reducible assumption) | assumption)) q15 hroom15; have hr15 := Kd.C_take (m := (t124 : Int).toNat) hC15 (by omega); have hy15 : y125.length = (t124 : Int).toNat := (by rw [Ny125.out, List.length_take]; omega); rw [← Ny125.out] at hr15; rw [← hy15] at hcut15; have HR128 := Aside0.mk hr15; have HC128 := Aside0.mk (show y125.length ≤ c0 from by omega); clear hr15 hC15 hroom15 hi015 hsz15; have KY15 := Aside0.mk hy15; clear hy15; replace q15 := eq_true q15) | (go_at_call 52; (with_reducible refine (nat_size.calls kj2 _ _ l1 t129 _ ?side1 ?side2 A11.out).mono ?_); (case side1 => exact (Kd.C_below HR1.out (bS HB.out))); (case side2 => exact HC1.out); rintro e w' ⟨rfl, ⟨nd, rfl⟩⟩; (try first | exact ⟨rfl, _, dn2⟩ | exact ⟨rfl, _, dn3⟩); have q16 : (t129 : Int) ≤ ((l1.length : Int) : Int) := of_decide_eq_true (by first | (with_reducible assumption) | assumption); obtain ⟨i016, hi016, _, hsz16, _⟩ := info_parts info22; have hroom16 : l1.length ≤ c1 := HC1.out; have hC16 : Kd.C (Kd.int .u64) _ A1 l1.length l1 := HR1.out; have hcut16 := cut_to (P := Tryd.prog) 25 22 .i64 Tryd.underlying25 hi016 A1 l1.length c1 t129 (of_decide_eq_true (by first | (with_reducible assumption) | assumption)) q16 hroom16; have hr16 := Kd.C_take (m := (t129 : Int).toNat) hC16 (by omega); have hy16 : y130.length = (t129 : Int).toNat := (by rw [Ny130.out, List.length_take]; omega); rw [← Ny130.out] at hr16; rw [← hy16] at hcut16; have HR133 := Aside0.mk hr16; have HC133 := Aside0.mk (show y130.length ≤ c1 from by omega); clear hr16 hC16 hroom16 hi016 hsz16; have KY16 := Aside0.mk hy16; clear hy16; replace q16 := eq_true q16)); go_upto_region 4 with (first | (go_at_call 52; (with_reducible refine (nat_size.calls kj2 _ _ l0 t124 _ ?side1 ?side2 A8.out).mono ?_); (case side1 => exact cS (Kd.C_below HR0.out HB.out)); (case side2 => exact HC0.out); rintro e w' ⟨rfl, ⟨nd, rfl⟩⟩; (try first | exact ⟨rfl, _, dn2⟩ | exact ⟨rfl, _, dn3⟩); have q15 : (t124 : Int) ≤ ((l0.length : Int) : Int) := of_decide_eq_true (by first | (with_reducible assumption) | assumption); obtain ⟨i015, hi015, _, hsz15, _⟩ := info_parts info22; have hroom15 : l0.length ≤ c0 := HC0.out; have hC15 : Kd.C (Kd.int .u64) _ A0 l0.length l0 := HR0.out; have hcut15 := cut_to (P := Tryd.prog) 25 22 .i64 Tryd.underlying25 hi015 A0 l0.length c0 t124 (of_decide_eq_true (by first | (with_reducible assumption) | assumption)) q15 hroom15; have hr15 := Kd.C_take (m := (t124 : Int).toNat) hC15 (by omega); have hy15 : y125.length = (t124 : Int).toNat := (by rw [Ny125.out, List.length_take]; omega); rw [← Ny125.out] at hr15; rw [← hy15] at hcut15; have HR128 := Aside0.mk hr15; have HC128 := Aside0.mk (show y125.length ≤ c0 from by omega); clear hr15 hC15 hroom15 hi015 hsz15; have KY15 := Aside0.mk hy15; clear hy15; replace q15 := eq_true q15) | (go_at_call 52; (with_reducible refine (nat_size.calls kj2 _ _ l1 t129 _ ?side1 ?side2 A11.out).mono ?_); (case side1 => exact (Kd.C_below HR1.out (bS HB.out))); (case side2 => exact HC1.out); rintro e w' ⟨rfl, ⟨nd, rfl⟩⟩; (try first | exact ⟨rfl, _, dn2⟩ | exact ⟨rfl, _, dn3⟩); have q16 : (t129 : Int) ≤ ((l1.length : Int) : Int) := of_decide_eq_true (by first | (with_reducible assumption) | assumption); obtain ⟨i016, hi016, _, hsz16, _⟩ := info_parts info22; have hroom16 : l1.length ≤ c1 := HC1.out; have hC16 : Kd.C (Kd.int .u64) _ A1 l1.length l1 := HR1.out; have hcut16 := cut_to (P := Tryd.prog) 25 22 .i64 Tryd.underlying25 hi016 A1 l1.length c1 t129 (of_decide_eq_true (by first | (with_reducible assumption) | assumption)) q16 hroom16; have hr16 := Kd.C_take (m := (t129 : Int).toNat) hC16 (by omega); have hy16 : y130.length = (t129 : Int).toNat := (by rw [Ny130.out, List.length_take]; omega); rw [← Ny130.out] at hr16; rw [← hy16] at hcut16; have HR133 := Aside0.mk hr16; have HC133 := Aside0.mk (show y130.length ≤ c1 from by omega); clear hr16 hC16 hroom16 hi016 hsz16; have KY16 := Aside0.mk hy16; clear hy16; replace q16 := eq_true q16)))
        (try simp only [Act.put, List.setIfInBounds_toArray, List.set_cons_zero, List.set_cons_succ])
        go_cut [36] (fun v36 wc => ∃ (kq : Nat) (x36_13 : Bool), v36 = .bool x36_13 ∧ Aside0 (nat_Mul.j1 kq y125 y130 x36_13 = some (r1, r2)) ∧ Aside0 (kq ≤ kj2) ∧ Aside0 (Below w.heap.size w wc))
        case first =>
         have H := HC14.out
         clear HC14
         by_cases c17 : (y125.length : Int) = 0
         ·rw [if_pos c17] at H
          have c17b0 : ((y125.length : Int) == 0) = true := beq_iff_eq.mpr c17
          have c17b1 : ((y125.length : Int) != 0) = false := bne_eq_false_iff_eq.mpr c17
          clear c17
          (first | rw [c17b0] | (simp only [i64_w, i32_w]; rw [c17b0]) | rw [c17b1] | skip)
          have H' := Aside0.mk H
          clear H
          go_wp2
          repeat (go_quiet (fail); try go_wp2)
          go_meet
          case rel => exact ⟨_, (true), (by first | rfl | (have e_ := Option.some.inj (A8.out.symm.trans A11.out); cases e_; rfl) | (simp; done) | (simp [*]; done)), H', ⟨by have := HJ2.out; first | omega | exact Nat.le_refl _⟩, ⟨bS HB.out⟩⟩
         ·rw [if_neg c17] at H
          have c17b0 : ((y125.length : Int) == 0) = false := beq_eq_false_iff_ne.mpr c17
          have c17b1 : ((y125.length : Int) != 0) = true := bne_iff_ne.mpr c17
          have c17b2 : ¬ (y125 = []) := fun h_ => c17 (by rw [h_]; rfl)
          (first | rw [c17b0] | (simp only [i64_w, i32_w]; rw [c17b0]) | rw [c17b1] | skip)
          have H' := Aside0.mk H
          clear H
          go_wp2
          repeat (go_quiet (fail); try go_wp2)
          go_meet
          case rel => exact ⟨_, (((y130.length : Int) == 0)), (by first | rfl | (have e_ := Option.some.inj (A8.out.symm.trans A11.out); cases e_; rfl) | (simp; done) | (simp [*]; done)), H', ⟨by have := HJ2.out; first | omega | exact Nat.le_refl _⟩, ⟨bS HB.out⟩⟩
        case rest =>
         clear HC14
         try clear c1
         try clear q1
         try clear p2
         try clear c4
         try clear c5
         try clear c7
         try clear c9
         try clear c9b0
         try clear c9b1
         try clear c10
         try clear c10b0
         try clear c10b1
         try clear c12
         try clear c12b0
         try clear c12b1
         try clear c13
         try clear c13b0
         try clear c13b1
         try clear q15
         try clear q16
         try clear c17
         try clear c17b0
         try clear c17b1
         try clear c17b2
         try clear p2
         try clear q15
         try clear q16
         obtain ⟨kq, x36_13, rfl, HA, HJ13, HB⟩ := hcut
         cases kq with
         | zero => exact absurd HA.out (by simp [nat_Mul.j1])
         | succ kj13 =>
          have H := HA.out
          clear HA
          simp only [nat_Mul.j1] at H
          by_cases c18 : x36_13 = true
          ·subst c18
           have H1 : (some (([] : List Int), 0)) = some (r1, r2) := by rw [if_pos rfl] at H; exact H
           clear H
           have H := H1
           clear H1
           simp only [Option.some.injEq, Prod.mk.injEq] at H
           obtain ⟨rfl, rfl⟩ := H
           go_wp2
           repeat (go_quiet (fail); try go_wp2)
           go_ret2
           exact ⟨.slice none 0 0, by first | rfl | (simp [errW_none, errW_some] <;> rfl) | (simp [*, errW_none, errW_some] <;> rfl), Kd.V_nil _ _ _ _ _, bS HB.out⟩
          ·replace c18 := Bool.eq_false_iff.mpr c18
           subst c18
           have H1 : (if (wrap64 ((wrap64 ((y125.length : Int) + (y130.length : Int))) - 1)) > 4096 then (some (([] : List Int), 2)) else (if 0 ≤ (wrap64 ((y125.length : Int) + (y130.length : Int))) then (if (wrap64 ((y125.length : Int) + (y130.length : Int)) : Int).toNat ≤ 35184372088832 then (nat_Mul.l0 kj13 y130 (List.replicate (wrap64 ((y125.length : Int) + (y130.length : Int)) : Int).toNat 0) y125 (y125.length : Int) 0) else (none)) else (none))) = some (r1, r2) := by rw [if_neg (show ¬ (false = true) by decide)] at H; exact H
           clear H
           have H := H1
           clear H1
           by_cases c19 : (wrap64 ((wrap64 ((y125.length : Int) + (y130.length : Int))) - 1)) > 4096
           ·rw [if_pos c19] at H
            have c19b0 : decide (4096 < (wrap64 ((wrap64 ((y125.length : Int) + (y130.length : Int))) - 1))) = true := decide_eq_true c19
            clear c19
            simp only [Option.some.injEq, Prod.mk.injEq] at H
            obtain ⟨rfl, rfl⟩ := H
            go_wp2
            repeat (go_quiet (fail); try go_wp2)
            go_ret2
            exact ⟨.slice none 0 0, by first | rfl | (simp [errW_none, errW_some] <;> rfl) | (simp [*, errW_none, errW_some] <;> rfl), Kd.V_nil _ _ _ _ _, bS HB.out⟩
           ·rw [if_neg c19] at H
            have c19b0 : decide (4096 < (wrap64 ((wrap64 ((y125.length : Int) + (y130.length : Int))) - 1))) = false := decide_eq_false c19
            clear c19
            obtain ⟨ji20, hji20⟩ : ∃ j_ : Int, (wrap64 ((y125.length : Int) + (y130.length : Int))) = j_ := ⟨_, rfl⟩
            replace H : (if 0 ≤ (ji20) then (if (ji20 : Int).toNat ≤ 35184372088832 then (nat_Mul.l0 kj13 y130 (List.replicate (ji20 : Int).toNat 0) y125 (y125.length : Int) 0) else (none)) else (none)) = some (r1, r2) := by first | (rw [hji20] at H; exact H) | (simp only [hji20] at H ⊢; exact H)
            (try rw [hji20] at c19b0)
            have hji20w : (IntKind.i64.wrap ((y125.length : Int) + (y130.length : Int))) = ji20 := (i64_w _).trans hji20
            by_cases c21 : 0 ≤ (ji20)
            ·rw [if_pos c21] at H
             have c21b0 := eq_true c21
             have c21b1 : decide (0 ≤ (ji20)) = true := decide_eq_true c21
             clear c21
             by_cases c22 : (ji20 : Int).toNat ≤ 35184372088832
             ·rw [if_pos c22] at H
              have c22b0 := eq_true c22
              have c22b1 : decide ((ji20 : Int).toNat ≤ 35184372088832) = true := decide_eq_true c22
              clear c22
              obtain ⟨y134, hy134⟩ : ∃ y_ : List Int, y_ = (List.replicate (ji20 : Int).toNat 0) := ⟨_, rfl⟩
              replace H : (nat_Mul.l0 kj13 y130 y134 y125 (y125.length : Int) 0) = some (r1, r2) := by first | (rw [hy134]; with_reducible exact H) | (have H2_ := (Option.bind_some _ _).symm.trans H; rw [hy134]; with_reducible exact H2_) | (have H2_ := (Option.bind_some _ _).symm.trans H; with_reducible exact H2_) | with_reducible exact H | (rw [hy134]; exact H) | exact H
              have Ny134 := Aside0.mk hy134
              clear hy134
              have H' := Aside0.mk H
              clear H
              go_wp2_with (first | ((with_reducible refine gate_dst (N := 49) rfl ?_); (try (refine gate_guard (by rfl) ?_; dsimp only)); refine Kd.R_make (Kd.int .u64) _ 22 rfl (N := 49) rfl 25 _ _ rfl ji20 rfl rfl Tryd.underlying25 (.int .u64 0) 8 info22 rfl (by decide) (by omega) 0 (ok := fun _ => True) (okp := fun _ => True) rfl (fun _ hk => hk) trivial (of_decide_eq_true (by first | (with_reducible assumption) | assumption)) (Nat.le_trans (Nat.mul_le_mul_right _ (of_decide_eq_true (by first | (with_reducible assumption) | assumption) : ji20.toNat ≤ 35184372088832)) (by omega)) (Below.refl _ _) (Nat.le_refl _) ?_; intro v135 w23 ho24 hb hg_ hnew_; clear hg_ hnew_; (first | rw [← Ny134.out] at ho24 | (simp only [Int.reduceToNat] at ho24; rw [← Ny134.out] at ho24)); have HO136 := Aside0.mk (Kd.R_lower (Kd.R_newM (M := fun k_ => (w.heap.size ≤ k_)) ho24 (below_size (bS HB.out)) (fun k_ h_ => h_)) (below_size (bS HB.out))); replace HB := hB HB hb; clear hb ho24))
              repeat (go_quiet (first | ((with_reducible refine gate_dst (N := 49) rfl ?_); (try (refine gate_guard (by rfl) ?_; dsimp only)); refine Kd.R_make (Kd.int .u64) _ 22 rfl (N := 49) rfl 25 _ _ rfl ji20 rfl rfl Tryd.underlying25 (.int .u64 0) 8 info22 rfl (by decide) (by omega) 0 (ok := fun _ => True) (okp := fun _ => True) rfl (fun _ hk => hk) trivial (of_decide_eq_true (by first | (with_reducible assumption) | assumption)) (Nat.le_trans (Nat.mul_le_mul_right _ (of_decide_eq_true (by first | (with_reducible assumption) | assumption) : ji20.toNat ≤ 35184372088832)) (by omega)) (Below.refl _ _) (Nat.le_refl _) ?_; intro v135 w23 ho24 hb hg_ hnew_; clear hg_ hnew_; (first | rw [← Ny134.out] at ho24 | (simp only [Int.reduceToNat] at ho24; rw [← Ny134.out] at ho24)); have HO136 := Aside0.mk (Kd.R_lower (Kd.R_newM (M := fun k_ => (w.heap.size ≤ k_)) ho24 (below_size (bS HB.out)) (fun k_ h_ => h_)) (below_size (bS HB.out))); replace HB := hB HB hb; clear hb ho24)); try go_wp2_with (first | ((with_reducible refine gate_dst (N := 49) rfl ?_); (try (refine gate_guard (by rfl) ?_; dsimp only)); refine Kd.R_make (Kd.int .u64) _ 22 rfl (N := 49) rfl 25 _ _ rfl ji20 rfl rfl Tryd.underlying25 (.int .u64 0) 8 info22 rfl (by decide) (by omega) 0 (ok := fun _ => True) (okp := fun _ => True) rfl (fun _ hk => hk) trivial (of_decide_eq_true (by first | (with_reducible assumption) | assumption)) (Nat.le_trans (Nat.mul_le_mul_right _ (of_decide_eq_true (by first | (with_reducible assumption) | assumption) : ji20.toNat ≤ 35184372088832)) (by omega)) (Below.refl _ _) (Nat.le_refl _) ?_; intro v135 w23 ho24 hb hg_ hnew_; clear hg_ hnew_; (first | rw [← Ny134.out] at ho24 | (simp only [Int.reduceToNat] at ho24; rw [← Ny134.out] at ho24)); have HO136 := Aside0.mk (Kd.R_lower (Kd.R_newM (M := fun k_ => (w.heap.size ≤ k_)) ho24 (below_size (bS HB.out)) (fun k_ h_ => h_)) (below_size (bS HB.out))); replace HB := hB HB hb; clear hb ho24)))
              go_loopg [52] kj13 (fun kq v52 w' => ∃ (x6_3 : List Int) (x52_3 : Int), v52 = .int .i64 x52_3 ∧ Aside0 (nat_Mul.l0 kq y130 x6_3 y125 (y125.length : Int) x52_3 = some (r1, r2)) ∧ Aside0 (kq ≤ kj13) ∧ Aside0 (Kd.R (Kd.int .u64) 22 w' w.heap.size (fun k_ => (w.heap.size ≤ k_)) v135 x6_3) ∧ Aside0 (Below w.heap.size w w'))
              case atStart => exact ⟨(y134), (0), (by first | rfl | (simp; done) | (simp [*]; done)), H', ⟨Nat.le_refl _⟩, ⟨rS <| Kd.R_mono HO136.out (fun _ hk => hk.1)⟩, ⟨bS HB.out⟩⟩
              case round =>
               clear H'
               try clear c1
               try clear q1
               try clear c2
               try clear p2
               try clear c4
               try clear c5
               try clear p6
               try clear c7
               try clear c9
               try clear c9b0
               try clear c9b1
               try clear c10
               try clear c10b0
               try clear c10b1
               try clear c12
               try clear c12b0
               try clear c12b1
               try clear c13
               try clear c13b0
               try clear c13b1
               try clear q15
               try clear q16
               try clear c17
               try clear c17b0
               try clear c17b1
               try clear c17b2
               try clear c18
               try clear c19
               try clear c19b0
               try clear c21
               try clear c21b0
               try clear c21b1
               try clear c22
               try clear c22b0
               try clear c22b1
               try clear p2
               try clear q1
               try clear q15
               try clear q16
               obtain ⟨x6_3, x52_3, rfl, HA, HK3, HO_6, HB⟩ := hrel
               cases gk with
               | zero => exact absurd HA.out (by simp [nat_Mul.l0])
               | succ k3 =>
                have H := HA.out
                clear HA
                simp only [nat_Mul.l0] at H
                by_cases c25 : x52_3 < (y125.length : Int)
                ·rw [if_pos c25] at H
                 have c25b0 : decide (x52_3 < (y125.length : Int)) = true := decide_eq_true c25
                 clear c25
                 by_cases c26 : 0 ≤ x52_3
                 ·rw [if_pos c26] at H
                  have c26b0 : decide (0 ≤ x52_3) = true := decide_eq_true c26
                  clear c26
                  by_cases c27 : x52_3 < (y125.length : Int)
                  ·rw [if_pos c27] at H
                   have c27b0 : decide (x52_3 < (y125.length : Int)) = true := decide_eq_true c27
                   clear c27
                   have H' := Aside0.mk H
                   clear H
                   have p141 : 0 ≤ (x52_3 : Int) := of_decide_eq_true (by first | (with_reducible assumption) | assumption)
                   have q141 : x52_3 < (y125.length : Int) := of_decide_eq_true (by first | (with_reducible assumption) | assumption)
                   obtain ⟨ad141, e141, hx141_0⟩ := Kd.at_int HR128.out x52_3 p141 q141
                   cases e141
                   replace hx141_0 := (HB.out.cell (World.block_lt_of_cell? w _ hx141_0)).trans hx141_0
                   replace p141 := eq_true p141
                   replace q141 := eq_true q141
                   go_wp2
                   repeat (go_quiet (fail); try go_wp2)
                   go_loopg [9, 59] k3 (fun kq v9 v59 w' => ∃ (x6_4 : List Int) (x9_4 : Int) (x59_4 : Int), v9 = .int .u64 x9_4 ∧ v59 = .int .i64 x59_4 ∧ Aside0 (nat_Mul.l1 kq y130 x6_4 x52_3 (rd y125 x52_3) x9_4 y125 (y125.length : Int) x52_3 y130 (y130.length : Int) x59_4 = some (r1, r2)) ∧ Aside0 (kq ≤ k3) ∧ Aside0 (Kd.R (Kd.int .u64) 22 w' w.heap.size (fun k_ => (w.heap.size ≤ k_)) v135 x6_4) ∧ Aside0 (Below w.heap.size w w'))
                   case atStart => exact ⟨(x6_3), (0), (0), (by first | rfl | (simp; done) | (simp [*]; done)), (by first | rfl | (simp; done) | (simp [*]; done)), H', ⟨Nat.le_refl _⟩, ⟨rS <| HO_6.out⟩, ⟨bS HB.out⟩⟩
                   case round =>
                    clear H'
                    try clear c1
                    try clear p1
                    try clear q1
                    try clear hx1
                    try clear c2
                    try clear p2
                    try clear c4
                    try clear c5
                    try clear p6
                    try clear c7
                    try clear c9
                    try clear c9b0
                    try clear c9b1
                    try clear c10
                    try clear c10b0
                    try clear c10b1
                    try clear c12
                    try clear c12b0
                    try clear c12b1
                    try clear c13
                    try clear c13b0
                    try clear c13b1
                    try clear p14
                    try clear q14
                    try clear hx14
                    try clear q15
                    try clear q16
                    try clear c17
                    try clear c17b0
                    try clear c17b1
                    try clear c17b2
                    try clear c18
                    try clear c19
                    try clear c19b0
                    try clear c21
                    try clear c21b0
                    try clear c21b1
                    try clear c22
                    try clear c22b0
                    try clear c22b1
                    try clear c25
                    try clear c25b0
                    try clear c26
                    try clear c26b0
                    try clear c27
                    try clear c27b0
                    try clear hx141_0
                    try clear p141
                    try clear p2
                    try clear p6
                    try clear q1
                    try clear q141
                    try clear q15
                    try clear q16
                    obtain ⟨x6_4, x9_4, x59_4, rfl, rfl, HA, HK4, HO_6, HB⟩ := hrel
                    cases gk with
                    | zero => exact absurd HA.out (by simp [nat_Mul.l1])
                    | succ k4 =>
                     have H := HA.out
                     clear HA
                     simp only [nat_Mul.l1] at H
                     by_cases c28 : x59_4 < (y130.length : Int)
                     ·rw [if_pos c28] at H
                      have c28b0 : decide (x59_4 < (y130.length : Int)) = true := decide_eq_true c28
                      clear c28
                      by_cases c29 : 0 ≤ x59_4
                      ·rw [if_pos c29] at H
                       have c29b0 : decide (0 ≤ x59_4) = true := decide_eq_true c29
                       clear c29
                       by_cases c30 : x59_4 < (y130.length : Int)
                       ·rw [if_pos c30] at H
                        have c30b0 : decide (x59_4 < (y130.length : Int)) = true := decide_eq_true c30
                        clear c30
                        replace H := Option.bind_eq_some_iff.mp H
                        obtain ⟨⟨t143, t144⟩, A310, H⟩ := H
                        replace H : (if 0 ≤ (wrap64 (x52_3 + x59_4)) then (if (wrap64 (x52_3 + x59_4)) < (x6_4.length : Int) then ((bits_Add64.f t144 (rd x6_4 (wrap64 (x52_3 + x59_4))) 0).bind fun bt146 => ((bits_Add64.f bt146.1 x9_4 0).bind fun bt148 => (nat_Mul.l1 k4 y130 (x6_4.set ((wrap64 (x52_3 + x59_4)) : Int).toNat bt148.1) x52_3 (rd y125 x52_3) (IntKind.u64.wrap ((IntKind.u64.wrap (t143 + bt146.2)) + bt148.2)) y125 (y125.length : Int) x52_3 y130 (y130.length : Int) (wrap64 (x59_4 + 1))))) else (none)) else (none)) = some (r1, r2) := H
                        have A31 := Aside0.mk A310
                        clear A310
                        obtain ⟨ji32, hji32⟩ : ∃ j_ : Int, (wrap64 (x52_3 + x59_4)) = j_ := ⟨_, rfl⟩
                        replace H : (if 0 ≤ (ji32) then (if (ji32) < (x6_4.length : Int) then ((bits_Add64.f t144 (rd x6_4 (ji32)) 0).bind fun bt146 => ((bits_Add64.f bt146.1 x9_4 0).bind fun bt148 => (nat_Mul.l1 k4 y130 (x6_4.set ((ji32) : Int).toNat bt148.1) x52_3 (rd y125 x52_3) (IntKind.u64.wrap ((IntKind.u64.wrap (t143 + bt146.2)) + bt148.2)) y125 (y125.length : Int) x52_3 y130 (y130.length : Int) (wrap64 (x59_4 + 1))))) else (none)) else (none)) = some (r1, r2) := by first | (rw [hji32] at H; exact H) | (simp only [hji32] at H ⊢; exact H)
                        (try rw [hji32] at A31)
                        have hji32w : (IntKind.i64.wrap (x52_3 + x59_4)) = ji32 := (i64_w _).trans hji32
                        by_cases c33 : 0 ≤ (ji32)
                        ·rw [if_pos c33] at H
                         have c33b0 : decide (0 ≤ (ji32)) = true := decide_eq_true c33
                         clear c33
                         by_cases c34 : (ji32) < (x6_4.length : Int)
                         ·rw [if_pos c34] at H
                          have c34b0 : decide ((ji32) < (x6_4.length : Int)) = true := decide_eq_true c34
                          clear c34
                          replace H := Option.bind_eq_some_iff.mp H
                          obtain ⟨⟨t146, t147⟩, A350, H⟩ := H
                          replace H : ((bits_Add64.f t146 x9_4 0).bind fun bt148 => (nat_Mul.l1 k4 y130 (x6_4.set ((ji32) : Int).toNat bt148.1) x52_3 (rd y125 x52_3) (IntKind.u64.wrap ((IntKind.u64.wrap (t143 + t147)) + bt148.2)) y125 (y125.length : Int) x52_3 y130 (y130.length : Int) (wrap64 (x59_4 + 1)))) = some (r1, r2) := H
                          have A35 := Aside0.mk A350
                          clear A350
                          replace H := Option.bind_eq_some_iff.mp H
                          obtain ⟨⟨t148, t149⟩, A360, H⟩ := H
                          replace H : (nat_Mul.l1 k4 y130 (x6_4.set ((ji32) : Int).toNat t148) x52_3 (rd y125 x52_3) (IntKind.u64.wrap ((IntKind.u64.wrap (t143 + t147)) + t149)) y125 (y125.length : Int) x52_3 y130 (y130.length : Int) (wrap64 (x59_4 + 1))) = some (r1, r2) := H
                          have A36 := Aside0.mk A360
                          clear A360
                          obtain ⟨y150, hy150⟩ : ∃ y_ : List Int, y_ = (x6_4.set ((ji32) : Int).toNat t148) := ⟨_, rfl⟩
                          replace H : (nat_Mul.l1 k4 y130 y150 x52_3 (rd y125 x52_3) (IntKind.u64.wrap ((IntKind.u64.wrap (t143 + t147)) + t149)) y125 (y125.length : Int) x52_3 y130 (y130.length : Int) (wrap64 (x59_4 + 1))) = some (r1, r2) := by first | (rw [hy150]; with_reducible exact H) | (have H2_ := (Option.bind_some _ _).symm.trans H; rw [hy150]; with_reducible exact H2_) | (have H2_ := (Option.bind_some _ _).symm.trans H; with_reducible exact H2_) | with_reducible exact H | (rw [hy150]; exact H) | exact H
                          have Ny150 := Aside0.mk hy150
                          clear hy150
                          have H' := Aside0.mk H
                          clear H
                          have p142 : 0 ≤ (x59_4 : Int) := of_decide_eq_true (by first | (with_reducible assumption) | assumption)
                          have q142 : x59_4 < (y130.length : Int) := of_decide_eq_true (by first | (with_reducible assumption) | assumption)
                          obtain ⟨ad142, e142, hx142_0⟩ := Kd.at_int HR133.out x59_4 p142 q142
                          cases e142
                          replace hx142_0 := (HB.out.cell (World.block_lt_of_cell? w _ hx142_0)).trans hx142_0
                          replace p142 := eq_true p142
                          replace q142 := eq_true q142
                          go_wp2_with (first | (go_at_call 82; (with_reducible refine (bits_Mul64.calls (rd y125 x52_3) (rd y130 x59_4) t143 t144 _ A31.out).mono ?_); rintro e w' ⟨rfl, ⟨nd, rfl⟩⟩; (try first | exact ⟨rfl, _, dn2⟩ | exact ⟨rfl, _, dn3⟩); obtain ⟨Ao38, co38, eo38⟩ := Kd.R_slice HO_6.out; subst eo38; have p145 : 0 ≤ ((ji32) : Int) := of_decide_eq_true (by first | (with_reducible assumption) | assumption); have q145 : (ji32) < (x6_4.length : Int) := of_decide_eq_true (by first | (with_reducible assumption) | assumption); obtain ⟨ad145, e145, hx145_0⟩ := Kd.at_int (Kd.R_reads' HO_6.out).2.2 (ji32) p145 q145; cases e145; replace p145 := eq_true p145; replace q145 := eq_true q145) | ((with_reducible refine gate_callee (f := 83) rfl ?_); refine goesX_ (some 78) rfl rfl Tryd.func83 (by kernel_rfl) rfl #[.int .u64 t144, .int .u64 (rd x6_4 (ji32)), .int .u64 0] rfl (by (try simp only [List.map_toArray, List.map_cons, List.map_nil]); first | done | (simp only [hji32]; rfl) | rfl) ?_; (with_reducible refine (bits_Add64.calls t144 (rd x6_4 (ji32)) 0 t146 t147 _ A35.out).mono ?_); rintro e w' ⟨rfl, rfl⟩; refine ⟨_, rfl, ?_⟩) | ((with_reducible refine gate_callee (f := 83) rfl ?_); refine goesX_ (some 87) rfl rfl Tryd.func83 (by kernel_rfl) rfl #[.int .u64 t146, .int .u64 x9_4, .int .u64 0] rfl (by (try simp only [List.map_toArray, List.map_cons, List.map_nil]); first | done | rfl) ?_; (with_reducible refine (bits_Add64.calls t146 x9_4 0 t148 t149 _ A36.out).mono ?_); rintro e w' ⟨rfl, rfl⟩; refine ⟨_, rfl, ?_⟩; have p37 : 0 ≤ ((ji32) : Int) := of_decide_eq_true (by first | (with_reducible assumption) | assumption); have q37 : ((ji32) : Int) < ((x6_4.length : Int) : Int) := of_decide_eq_true (by first | (with_reducible assumption) | assumption); obtain ⟨go37, co37, eo37, gb37, gl37, cl37, HG37⟩ := Kd.R_form HO_6.out (by omega); (first | cases eo37 | (injection eo37 with ea_ en_ ec_; (first | subst ea_ | (injection ea_ with ea_; subst ea_)); subst ec_; clear en_)); have GB37 := Aside0.mk gb37; have GG37 := Aside0.mk HG37; clear gb37 gl37 HG37; (first | simp only [add_plain] at hx145_0 | skip); obtain ⟨hx37_0, hf37_0⟩ := Kd.R_celln 0 HO_6.out ((ji32) : Int) p37 q37; replace p37 := eq_true p37; replace q37 := eq_true q37; obtain ⟨hy39_, hz39_⟩ := Kd.R_celln 0 HO_6.out ((ji32) : Int) (of_decide_eq_true (by first | (with_reducible assumption) | assumption)) (of_decide_eq_true (by first | (with_reducible assumption) | assumption)); have HP39 := Kd.R_putg HO_6.out ((ji32) : Int) t148) | ((with_reducible refine gate_store (t := 22) (p := 98) rfl ?_); (try (rw [drewN_self wr]; generalize hq_ : World.drewN wr _ = wr; have n0_ := Aside0.mk (Kd.R_at hq_ HO_6.out); have n1_ := Aside0.mk (below_at hq_ HB.out); clear hq_ HO_6 HB; have HO_6 := n0_; have HB := n1_; clear n0_ n1_; (try (obtain ⟨hy39_, hz39_⟩ := Kd.R_celln 0 HO_6.out ((ji32) : Int) (of_decide_eq_true (by first | (with_reducible assumption) | assumption)) (of_decide_eq_true (by first | (with_reducible assumption) | assumption)))); (try (have HP39 := Kd.R_putg HO_6.out ((ji32) : Int) t148)))); refine store_event (t := 22) (p := 98) (v := ?vo_w40) (w1 := (wr.setCell ⟨go37, ((ji32) : Int).toNat, none⟩ (.int .u64 t148))) ?hg ?ho ?hn ?hr ?_; (case ho => rfl); (case hg => rfl); (case hn => rfl); (case hr => first | (go_simp; done) | (go_simp; rfl)); intro w40 hw; have hg : wr.grownBy w40 (some go37) := (by rw [hw]; exact HP39.2); have hp_ : Kd.R (Kd.int .u64) 22 w40 w.heap.size (fun k_ => (w.heap.size ≤ k_)) (.slice (some ⟨go37, 0, none⟩) x6_4.length co38) y150 := (by rw [hw, Ny150.out]; exact HP39.1); clear HP39; replace HO_6 := Aside0.mk (hp_); replace HB := Aside0.mk ((by rw [hw]; exact below_set (HB.out) GB37.out : Below w.heap.size w w40)); clear hg hw hp_))
                          repeat (go_quiet (first | (go_at_call 82; (with_reducible refine (bits_Mul64.calls (rd y125 x52_3) (rd y130 x59_4) t143 t144 _ A31.out).mono ?_); rintro e w' ⟨rfl, ⟨nd, rfl⟩⟩; (try first | exact ⟨rfl, _, dn2⟩ | exact ⟨rfl, _, dn3⟩); obtain ⟨Ao38, co38, eo38⟩ := Kd.R_slice HO_6.out; subst eo38; have p145 : 0 ≤ ((ji32) : Int) := of_decide_eq_true (by first | (with_reducible assumption) | assumption); have q145 : (ji32) < (x6_4.length : Int) := of_decide_eq_true (by first | (with_reducible assumption) | assumption); obtain ⟨ad145, e145, hx145_0⟩ := Kd.at_int (Kd.R_reads' HO_6.out).2.2 (ji32) p145 q145; cases e145; replace p145 := eq_true p145; replace q145 := eq_true q145) | ((with_reducible refine gate_callee (f := 83) rfl ?_); refine goesX_ (some 78) rfl rfl Tryd.func83 (by kernel_rfl) rfl #[.int .u64 t144, .int .u64 (rd x6_4 (ji32)), .int .u64 0] rfl (by (try simp only [List.map_toArray, List.map_cons, List.map_nil]); first | done | (simp only [hji32]; rfl) | rfl) ?_; (with_reducible refine (bits_Add64.calls t144 (rd x6_4 (ji32)) 0 t146 t147 _ A35.out).mono ?_); rintro e w' ⟨rfl, rfl⟩; refine ⟨_, rfl, ?_⟩) | ((with_reducible refine gate_callee (f := 83) rfl ?_); refine goesX_ (some 87) rfl rfl Tryd.func83 (by kernel_rfl) rfl #[.int .u64 t146, .int .u64 x9_4, .int .u64 0] rfl (by (try simp only [List.map_toArray, List.map_cons, List.map_nil]); first | done | rfl) ?_; (with_reducible refine (bits_Add64.calls t146 x9_4 0 t148 t149 _ A36.out).mono ?_); rintro e w' ⟨rfl, rfl⟩; refine ⟨_, rfl, ?_⟩; have p37 : 0 ≤ ((ji32) : Int) := of_decide_eq_true (by first | (with_reducible assumption) | assumption); have q37 : ((ji32) : Int) < ((x6_4.length : Int) : Int) := of_decide_eq_true (by first | (with_reducible assumption) | assumption); obtain ⟨go37, co37, eo37, gb37, gl37, cl37, HG37⟩ := Kd.R_form HO_6.out (by omega); (first | cases eo37 | (injection eo37 with ea_ en_ ec_; (first | subst ea_ | (injection ea_ with ea_; subst ea_)); subst ec_; clear en_)); have GB37 := Aside0.mk gb37; have GG37 := Aside0.mk HG37; clear gb37 gl37 HG37; (first | simp only [add_plain] at hx145_0 | skip); obtain ⟨hx37_0, hf37_0⟩ := Kd.R_celln 0 HO_6.out ((ji32) : Int) p37 q37; replace p37 := eq_true p37; replace q37 := eq_true q37; obtain ⟨hy39_, hz39_⟩ := Kd.R_celln 0 HO_6.out ((ji32) : Int) (of_decide_eq_true (by first | (with_reducible assumption) | assumption)) (of_decide_eq_true (by first | (with_reducible assumption) | assumption)); have HP39 := Kd.R_putg HO_6.out ((ji32) : Int) t148) | ((with_reducible refine gate_store (t := 22) (p := 98) rfl ?_); (try (rw [drewN_self wr]; generalize hq_ : World.drewN wr _ = wr; have n0_ := Aside0.mk (Kd.R_at hq_ HO_6.out); have n1_ := Aside0.mk (below_at hq_ HB.out); clear hq_ HO_6 HB; have HO_6 := n0_; have HB := n1_; clear n0_ n1_; (try (obtain ⟨hy39_, hz39_⟩ := Kd.R_celln 0 HO_6.out ((ji32) : Int) (of_decide_eq_true (by first | (with_reducible assumption) | assumption)) (of_decide_eq_true (by first | (with_reducible assumption) | assumption)))); (try (have HP39 := Kd.R_putg HO_6.out ((ji32) : Int) t148)))); refine store_event (t := 22) (p := 98) (v := ?vo_w40) (w1 := (wr.setCell ⟨go37, ((ji32) : Int).toNat, none⟩ (.int .u64 t148))) ?hg ?ho ?hn ?hr ?_; (case ho => rfl); (case hg => rfl); (case hn => rfl); (case hr => first | (go_simp; done) | (go_simp; rfl)); intro w40 hw; have hg : wr.grownBy w40 (some go37) := (by rw [hw]; exact HP39.2); have hp_ : Kd.R (Kd.int .u64) 22 w40 w.heap.size (fun k_ => (w.heap.size ≤ k_)) (.slice (some ⟨go37, 0, none⟩) x6_4.length co38) y150 := (by rw [hw, Ny150.out]; exact HP39.1); clear HP39; replace HO_6 := Aside0.mk (hp_); replace HB := Aside0.mk ((by rw [hw]; exact below_set (HB.out) GB37.out : Below w.heap.size w w40)); clear hg hw hp_)); try go_wp2_with (first | (go_at_call 82; (with_reducible refine (bits_Mul64.calls (rd y125 x52_3) (rd y130 x59_4) t143 t144 _ A31.out).mono ?_); rintro e w' ⟨rfl, ⟨nd, rfl⟩⟩; (try first | exact ⟨rfl, _, dn2⟩ | exact ⟨rfl, _, dn3⟩); obtain ⟨Ao38, co38, eo38⟩ := Kd.R_slice HO_6.out; subst eo38; have p145 : 0 ≤ ((ji32) : Int) := of_decide_eq_true (by first | (with_reducible assumption) | assumption); have q145 : (ji32) < (x6_4.length : Int) := of_decide_eq_true (by first | (with_reducible assumption) | assumption); obtain ⟨ad145, e145, hx145_0⟩ := Kd.at_int (Kd.R_reads' HO_6.out).2.2 (ji32) p145 q145; cases e145; replace p145 := eq_true p145; replace q145 := eq_true q145) | ((with_reducible refine gate_callee (f := 83) rfl ?_); refine goesX_ (some 78) rfl rfl Tryd.func83 (by kernel_rfl) rfl #[.int .u64 t144, .int .u64 (rd x6_4 (ji32)), .int .u64 0] rfl (by (try simp only [List.map_toArray, List.map_cons, List.map_nil]); first | done | (simp only [hji32]; rfl) | rfl) ?_; (with_reducible refine (bits_Add64.calls t144 (rd x6_4 (ji32)) 0 t146 t147 _ A35.out).mono ?_); rintro e w' ⟨rfl, rfl⟩; refine ⟨_, rfl, ?_⟩) | ((with_reducible refine gate_callee (f := 83) rfl ?_); refine goesX_ (some 87) rfl rfl Tryd.func83 (by kernel_rfl) rfl #[.int .u64 t146, .int .u64 x9_4, .int .u64 0] rfl (by (try simp only [List.map_toArray, List.map_cons, List.map_nil]); first | done | rfl) ?_; (with_reducible refine (bits_Add64.calls t146 x9_4 0 t148 t149 _ A36.out).mono ?_); rintro e w' ⟨rfl, rfl⟩; refine ⟨_, rfl, ?_⟩; have p37 : 0 ≤ ((ji32) : Int) := of_decide_eq_true (by first | (with_reducible assumption) | assumption); have q37 : ((ji32) : Int) < ((x6_4.length : Int) : Int) := of_decide_eq_true (by first | (with_reducible assumption) | assumption); obtain ⟨go37, co37, eo37, gb37, gl37, cl37, HG37⟩ := Kd.R_form HO_6.out (by omega); (first | cases eo37 | (injection eo37 with ea_ en_ ec_; (first | subst ea_ | (injection ea_ with ea_; subst ea_)); subst ec_; clear en_)); have GB37 := Aside0.mk gb37; have GG37 := Aside0.mk HG37; clear gb37 gl37 HG37; (first | simp only [add_plain] at hx145_0 | skip); obtain ⟨hx37_0, hf37_0⟩ := Kd.R_celln 0 HO_6.out ((ji32) : Int) p37 q37; replace p37 := eq_true p37; replace q37 := eq_true q37; obtain ⟨hy39_, hz39_⟩ := Kd.R_celln 0 HO_6.out ((ji32) : Int) (of_decide_eq_true (by first | (with_reducible assumption) | assumption)) (of_decide_eq_true (by first | (with_reducible assumption) | assumption)); have HP39 := Kd.R_putg HO_6.out ((ji32) : Int) t148) | ((with_reducible refine gate_store (t := 22) (p := 98) rfl ?_); (try (rw [drewN_self wr]; generalize hq_ : World.drewN wr _ = wr; have n0_ := Aside0.mk (Kd.R_at hq_ HO_6.out); have n1_ := Aside0.mk (below_at hq_ HB.out); clear hq_ HO_6 HB; have HO_6 := n0_; have HB := n1_; clear n0_ n1_; (try (obtain ⟨hy39_, hz39_⟩ := Kd.R_celln 0 HO_6.out ((ji32) : Int) (of_decide_eq_true (by first | (with_reducible assumption) | assumption)) (of_decide_eq_true (by first | (with_reducible assumption) | assumption)))); (try (have HP39 := Kd.R_putg HO_6.out ((ji32) : Int) t148)))); refine store_event (t := 22) (p := 98) (v := ?vo_w40) (w1 := (wr.setCell ⟨go37, ((ji32) : Int).toNat, none⟩ (.int .u64 t148))) ?hg ?ho ?hn ?hr ?_; (case ho => rfl); (case hg => rfl); (case hn => rfl); (case hr => first | (go_simp; done) | (go_simp; rfl)); intro w40 hw; have hg : wr.grownBy w40 (some go37) := (by rw [hw]; exact HP39.2); have hp_ : Kd.R (Kd.int .u64) 22 w40 w.heap.size (fun k_ => (w.heap.size ≤ k_)) (.slice (some ⟨go37, 0, none⟩) x6_4.length co38) y150 := (by rw [hw, Ny150.out]; exact HP39.1); clear HP39; replace HO_6 := Aside0.mk (hp_); replace HB := Aside0.mk ((by rw [hw]; exact below_set (HB.out) GB37.out : Below w.heap.size w w40)); clear hg hw hp_)))
                          go_roundg k4
                          case measure => have := HJ2.out; have := HJ13.out; have := HK3.out; have := HK4.out; omega
                          case rel => exact ⟨(y150), (IntKind.u64.wrap ((IntKind.u64.wrap (t143 + t147)) + t149)), (wrap64 (x59_4 + 1)), (by first | rfl | (have e_ := Option.some.inj (A8.out.symm.trans A11.out); cases e_; rfl) | (simp; done) | (simp [*]; done)), (by first | rfl | (have e_ := Option.some.inj (A8.out.symm.trans A11.out); cases e_; rfl) | (simp; done) | (simp [*]; done)), H', ⟨by have := HJ2.out; have := HJ13.out; have := HK3.out; have := HK4.out; omega⟩, ⟨rS <| HO_6.out⟩, ⟨bS HB.out⟩⟩
                         ·rw [if_neg c34] at H
                          exact absurd H (by simp)
                        ·rw [if_neg c33] at H
                         exact absurd H (by simp)
                       ·rw [if_neg c30] at H
                        exact absurd H (by simp)
                      ·rw [if_neg c29] at H
                       exact absurd H (by simp)
                     ·rw [if_neg c28] at H
                      have c28b0 : decide (x59_4 < (y130.length : Int)) = false := decide_eq_false c28
                      clear c28
                      obtain ⟨ji41, hji41⟩ : ∃ j_ : Int, (wrap64 (x52_3 + (y130.length : Int))) = j_ := ⟨_, rfl⟩
                      replace H : (if 0 ≤ (ji41) then (if (ji41) < (x6_4.length : Int) then (nat_Mul.l0 k4 y130 (x6_4.set ((ji41) : Int).toNat x9_4) y125 (y125.length : Int) (wrap64 (x52_3 + 1))) else (none)) else (none)) = some (r1, r2) := by first | (rw [hji41] at H; exact H) | (simp only [hji41] at H ⊢; exact H)
                      have hji41w : (IntKind.i64.wrap (x52_3 + (y130.length : Int))) = ji41 := (i64_w _).trans hji41
                      by_cases c42 : 0 ≤ (ji41)
                      ·rw [if_pos c42] at H
                       have c42b0 : decide (0 ≤ (ji41)) = true := decide_eq_true c42
                       clear c42
                       by_cases c43 : (ji41) < (x6_4.length : Int)
                       ·rw [if_pos c43] at H
                        have c43b0 : decide ((ji41) < (x6_4.length : Int)) = true := decide_eq_true c43
                        clear c43
                        obtain ⟨y151, hy151⟩ : ∃ y_ : List Int, y_ = (x6_4.set ((ji41) : Int).toNat x9_4) := ⟨_, rfl⟩
                        replace H : (nat_Mul.l0 k4 y130 y151 y125 (y125.length : Int) (wrap64 (x52_3 + 1))) = some (r1, r2) := by first | (rw [hy151]; with_reducible exact H) | (have H2_ := (Option.bind_some _ _).symm.trans H; rw [hy151]; with_reducible exact H2_) | (have H2_ := (Option.bind_some _ _).symm.trans H; with_reducible exact H2_) | with_reducible exact H | (rw [hy151]; exact H) | exact H
                        have Ny151 := Aside0.mk hy151
                        clear hy151
                        have H' := Aside0.mk H
                        clear H
                        have p44 : 0 ≤ ((ji41) : Int) := of_decide_eq_true (by first | (with_reducible assumption) | assumption)
                        have q44 : ((ji41) : Int) < ((x6_4.length : Int) : Int) := of_decide_eq_true (by first | (with_reducible assumption) | assumption)
                        obtain ⟨go44, co44, eo44, gb44, gl44, cl44, HG44⟩ := Kd.R_form HO_6.out (by omega)
                        (first | cases eo44 | (injection eo44 with ea_ en_ ec_; (first | subst ea_ | (injection ea_ with ea_; subst ea_)); subst ec_; clear en_))
                        have GB44 := Aside0.mk gb44
                        have GG44 := Aside0.mk HG44
                        clear gb44 gl44 HG44
                        obtain ⟨hx44_0, hf44_0⟩ := Kd.R_celln 0 HO_6.out ((ji41) : Int) p44 q44
                        replace p44 := eq_true p44
                        replace q44 := eq_true q44
                        have HP45 := Kd.R_putg HO_6.out ((ji41) : Int) x9_4
                        go_wp2_with (first | ((with_reducible refine gate_store (t := 22) (p := 107) rfl ?_); (try (rw [drewN_self wr]; generalize hq_ : World.drewN wr _ = wr; have n0_ := Aside0.mk (Kd.R_at hq_ HO_6.out); have n1_ := Aside0.mk (below_at hq_ HB.out); clear hq_ HO_6 HB; have HO_6 := n0_; have HB := n1_; clear n0_ n1_; (try (have HP45 := Kd.R_putg HO_6.out ((ji41) : Int) x9_4)))); refine store_event (t := 22) (p := 107) (v := ?vo_w46) (w1 := (wr.setCell ⟨go44, ((ji41) : Int).toNat, none⟩ (.int .u64 x9_4))) ?hg ?ho ?hn ?hr ?_; (case ho => rfl); (case hg => rfl); (case hn => rfl); (case hr => first | (go_simp; done) | (go_simp; rfl)); intro w46 hw; have hg : wr.grownBy w46 (some go44) := (by rw [hw]; exact HP45.2); have hp_ : Kd.R (Kd.int .u64) 22 w46 w.heap.size (fun k_ => (w.heap.size ≤ k_)) (.slice (some ⟨go44, 0, none⟩) x6_4.length co44) y151 := (by rw [hw, Ny151.out]; exact HP45.1); clear HP45; replace HO_6 := Aside0.mk (hp_); replace HB := Aside0.mk ((by rw [hw]; exact below_set (HB.out) GB44.out : Below w.heap.size w w46)); clear hg hw hp_))
                        repeat (go_quiet (first | ((with_reducible refine gate_store (t := 22) (p := 107) rfl ?_); (try (rw [drewN_self wr]; generalize hq_ : World.drewN wr _ = wr; have n0_ := Aside0.mk (Kd.R_at hq_ HO_6.out); have n1_ := Aside0.mk (below_at hq_ HB.out); clear hq_ HO_6 HB; have HO_6 := n0_; have HB := n1_; clear n0_ n1_; (try (have HP45 := Kd.R_putg HO_6.out ((ji41) : Int) x9_4)))); refine store_event (t := 22) (p := 107) (v := ?vo_w46) (w1 := (wr.setCell ⟨go44, ((ji41) : Int).toNat, none⟩ (.int .u64 x9_4))) ?hg ?ho ?hn ?hr ?_; (case ho => rfl); (case hg => rfl); (case hn => rfl); (case hr => first | (go_simp; done) | (go_simp; rfl)); intro w46 hw; have hg : wr.grownBy w46 (some go44) := (by rw [hw]; exact HP45.2); have hp_ : Kd.R (Kd.int .u64) 22 w46 w.heap.size (fun k_ => (w.heap.size ≤ k_)) (.slice (some ⟨go44, 0, none⟩) x6_4.length co44) y151 := (by rw [hw, Ny151.out]; exact HP45.1); clear HP45; replace HO_6 := Aside0.mk (hp_); replace HB := Aside0.mk ((by rw [hw]; exact below_set (HB.out) GB44.out : Below w.heap.size w w46)); clear hg hw hp_)); try go_wp2_with (first | ((with_reducible refine gate_store (t := 22) (p := 107) rfl ?_); (try (rw [drewN_self wr]; generalize hq_ : World.drewN wr _ = wr; have n0_ := Aside0.mk (Kd.R_at hq_ HO_6.out); have n1_ := Aside0.mk (below_at hq_ HB.out); clear hq_ HO_6 HB; have HO_6 := n0_; have HB := n1_; clear n0_ n1_; (try (have HP45 := Kd.R_putg HO_6.out ((ji41) : Int) x9_4)))); refine store_event (t := 22) (p := 107) (v := ?vo_w46) (w1 := (wr.setCell ⟨go44, ((ji41) : Int).toNat, none⟩ (.int .u64 x9_4))) ?hg ?ho ?hn ?hr ?_; (case ho => rfl); (case hg => rfl); (case hn => rfl); (case hr => first | (go_simp; done) | (go_simp; rfl)); intro w46 hw; have hg : wr.grownBy w46 (some go44) := (by rw [hw]; exact HP45.2); have hp_ : Kd.R (Kd.int .u64) 22 w46 w.heap.size (fun k_ => (w.heap.size ≤ k_)) (.slice (some ⟨go44, 0, none⟩) x6_4.length co44) y151 := (by rw [hw, Ny151.out]; exact HP45.1); clear HP45; replace HO_6 := Aside0.mk (hp_); replace HB := Aside0.mk ((by rw [hw]; exact below_set (HB.out) GB44.out : Below w.heap.size w w46)); clear hg hw hp_)))
                        go_roundg k4
                        case measure => have := HJ2.out; have := HJ13.out; have := HK3.out; have := HK4.out; omega
                        case rel => exact ⟨(y151), (wrap64 (x52_3 + 1)), (by first | rfl | (have e_ := Option.some.inj (A8.out.symm.trans A11.out); cases e_; rfl) | (simp; done) | (simp [*]; done)), H', ⟨by have := HJ2.out; have := HJ13.out; have := HK3.out; have := HK4.out; omega⟩, ⟨rS <| HO_6.out⟩, ⟨bS HB.out⟩⟩
                       ·rw [if_neg c43] at H
                        exact absurd H (by simp)
                      ·rw [if_neg c42] at H
                       exact absurd H (by simp)
                  ·rw [if_neg c27] at H
                   exact absurd H (by simp)
                 ·rw [if_neg c26] at H
                  exact absurd H (by simp)
                ·rw [if_neg c25] at H
                 have c25b0 : decide (x52_3 < (y125.length : Int)) = false := decide_eq_false c25
                 clear c25
                 obtain ⟨⟨t137, t140⟩, A470, H⟩ := Option.bind_eq_some_iff.mp H
                 dsimp only at H
                 have A47 := Aside0.mk A470
                 clear A470
                 simp only [Option.some.injEq, Prod.mk.injEq] at H
                 obtain ⟨rfl, rfl⟩ := H
                 obtain ⟨Ao48, co48, eo48⟩ := Kd.R_slice HO_6.out
                 subst eo48
                 go_wp2_with (first | (go_at_call 84; (with_reducible refine (nat_cut.calls k3 (fun k_ => some k_ = (.slice Ao48 x6_3.length co48 : Value).ownBlock) _ _ x6_3 t137 t140 _ ?side1 A47.out).mono ?_); (case side1 => exact Kd.R_V (Kd.R_tight rfl (HO_6.out))); rintro e w49 ⟨v138, rfl, ho0, hb⟩; have HO139 := Aside0.mk (Kd.V_lower (Kd.V_mono (ok' := fun k_ => (w.heap.size ≤ k_)) ho0 (fun k_ hk_ => Or.elim hk_ (fun hs_ => ((HO_6.out).1 k_ hs_.symm)) (fun hn_ => (Nat.le_trans (below_size (bS HB.out)) hn_)))) (below_size (bS HB.out))); replace HO_6 := Aside0.mk (Kd.R_below (rS <| HO_6.out) hb); replace HB := hB HB hb; (try clear hb); (try clear hb2); (try clear hk); (try clear hi); (try clear ho0)))
                 repeat (go_quiet (first | (go_at_call 84; (with_reducible refine (nat_cut.calls k3 (fun k_ => some k_ = (.slice Ao48 x6_3.length co48 : Value).ownBlock) _ _ x6_3 t137 t140 _ ?side1 A47.out).mono ?_); (case side1 => exact Kd.R_V (Kd.R_tight rfl (HO_6.out))); rintro e w49 ⟨v138, rfl, ho0, hb⟩; have HO139 := Aside0.mk (Kd.V_lower (Kd.V_mono (ok' := fun k_ => (w.heap.size ≤ k_)) ho0 (fun k_ hk_ => Or.elim hk_ (fun hs_ => ((HO_6.out).1 k_ hs_.symm)) (fun hn_ => (Nat.le_trans (below_size (bS HB.out)) hn_)))) (below_size (bS HB.out))); replace HO_6 := Aside0.mk (Kd.R_below (rS <| HO_6.out) hb); replace HB := hB HB hb; (try clear hb); (try clear hb2); (try clear hk); (try clear hi); (try clear ho0))); try go_wp2_with (first | (go_at_call 84; (with_reducible refine (nat_cut.calls k3 (fun k_ => some k_ = (.slice Ao48 x6_3.length co48 : Value).ownBlock) _ _ x6_3 t137 t140 _ ?side1 A47.out).mono ?_); (case side1 => exact Kd.R_V (Kd.R_tight rfl (HO_6.out))); rintro e w49 ⟨v138, rfl, ho0, hb⟩; have HO139 := Aside0.mk (Kd.V_lower (Kd.V_mono (ok' := fun k_ => (w.heap.size ≤ k_)) ho0 (fun k_ hk_ => Or.elim hk_ (fun hs_ => ((HO_6.out).1 k_ hs_.symm)) (fun hn_ => (Nat.le_trans (below_size (bS HB.out)) hn_)))) (below_size (bS HB.out))); replace HO_6 := Aside0.mk (Kd.R_below (rS <| HO_6.out) hb); replace HB := hB HB hb; (try clear hb); (try clear hb2); (try clear hk); (try clear hi); (try clear ho0))))
                 go_ret2
                 exact ⟨_, by first | rfl | (simp [errW_none, errW_some] <;> rfl) | (simp only [← hji20]; first | rfl | (simp [errW_none, errW_some] <;> rfl)) | (simp [*, errW_none, errW_some] <;> rfl), vS <| HO139.out, bS HB.out⟩
             ·rw [if_neg c22] at H
              exact absurd H (by simp)
            ·rw [if_neg c21] at H
             exact absurd H (by simp)
       ·rw [if_neg c13] at H
        exact absurd H (by simp)
      ·rw [if_neg c12] at H
       exact absurd H (by simp)
     ·rw [if_neg c10] at H
      exact absurd H (by simp)
    ·rw [if_neg c9] at H
     exact absurd H (by simp)

/-! ### abacuslaw05_works: function 14 -/
def abacuslaw05_works.f (k : Nat)  : Option (Bool) := (nat_Mul.f k (([3] : List Int)) (([5] : List Int))).bind fun bt158 => ((ieee_Decode.f 4613937818241073152).bind fun bt162 => (if bt158.2 = 0 then ((nat_Cmp.f k bt158.1 (([15] : List Int))).bind fun t170 => (if t170 = 0 then ((ieee_Up.f k 0).bind fun t171 => (if t171 = 1 then (if bt162.2.2.1 = 6755399441055744 then (some (bt162.2.2.2 == (-51))) else (some false)) else (some false))) else (some false))) else (some false)))
theorem abacuslaw05_works.mono : ∀ k, LeO (abacuslaw05_works.f k ) (abacuslaw05_works.f (k + 1) ) := by
 intro  k
 unfold abacuslaw05_works.f
 repeat' first
   | (with_reducible exact ieee_Up.mono _ _)
   | (with_reducible exact nat_Cmp.mono _ _ _)
   | (with_reducible exact nat_Mul.mono _ _ _)
   | (with_reducible exact LeO.refl _)
   | (with_reducible exact LeO.none _)
   | (with_reducible refine LeO.ite ?_ ?_)
   | (with_reducible refine LeO.bind ?_ (fun _ => ?_))
   | exact ieee_Up.mono _ _
   | exact nat_Cmp.mono _ _ _
   | exact nat_Mul.mono _ _ _
   | exact LeO.none _
   | refine LeO.ite ?_ ?_
   | refine LeO.bind ?_ (fun _ => ?_)
set_option maxHeartbeats 8000000 in
set_option maxRecDepth 100000 in
theorem abacuslaw05_works.calls (k : Nat)  (r : Bool) (w : World) (h : abacuslaw05_works.f k  = some r) :
  Calls Tryd.prog 14 #[] w fun e w' => e = .returned (.bool r) ∧ Below w.heap.size w w' := by
 have hu39 := Tryd.underlying39
 have HB := Aside0.mk (Below.refl w.heap.size w)
 have H : ((nat_Mul.f k (([3] : List Int)) (([5] : List Int))).bind fun bt158 => ((ieee_Decode.f 4613937818241073152).bind fun bt162 => (if bt158.2 = 0 then ((nat_Cmp.f k bt158.1 (([15] : List Int))).bind fun t170 => (if t170 = 0 then ((ieee_Up.f k 0).bind fun t171 => (if t171 = 1 then (if bt162.2.2.1 = 6755399441055744 then (some (bt162.2.2.2 == (-51))) else (some false)) else (some false))) else (some false))) else (some false)))) = some r := h
 clear h
 obtain ⟨y152, hy152⟩ : ∃ y_ : List Int, y_ = (([3] : List Int)) := ⟨_, rfl⟩
 replace H : ((nat_Mul.f k y152 (([5] : List Int))).bind fun bt158 => ((ieee_Decode.f 4613937818241073152).bind fun bt162 => (if bt158.2 = 0 then ((nat_Cmp.f k bt158.1 (([15] : List Int))).bind fun t170 => (if t170 = 0 then ((ieee_Up.f k 0).bind fun t171 => (if t171 = 1 then (if bt162.2.2.1 = 6755399441055744 then (some (bt162.2.2.2 == (-51))) else (some false)) else (some false))) else (some false))) else (some false)))) = some r := by first | (rw [hy152]; with_reducible exact H) | (have H2_ := (Option.bind_some _ _).symm.trans H; rw [hy152]; with_reducible exact H2_) | (have H2_ := (Option.bind_some _ _).symm.trans H; with_reducible exact H2_) | with_reducible exact H | (rw [hy152]; exact H) | exact H
 have Ny152 := Aside0.mk hy152
 clear hy152
 obtain ⟨y155, hy155⟩ : ∃ y_ : List Int, y_ = (([5] : List Int)) := ⟨_, rfl⟩
 replace H : ((nat_Mul.f k y152 y155).bind fun bt158 => ((ieee_Decode.f 4613937818241073152).bind fun bt162 => (if bt158.2 = 0 then ((nat_Cmp.f k bt158.1 (([15] : List Int))).bind fun t170 => (if t170 = 0 then ((ieee_Up.f k 0).bind fun t171 => (if t171 = 1 then (if bt162.2.2.1 = 6755399441055744 then (some (bt162.2.2.2 == (-51))) else (some false)) else (some false))) else (some false))) else (some false)))) = some r := by first | (rw [hy155]; with_reducible exact H) | (have H2_ := (Option.bind_some _ _).symm.trans H; rw [hy155]; with_reducible exact H2_) | (have H2_ := (Option.bind_some _ _).symm.trans H; with_reducible exact H2_) | with_reducible exact H | (rw [hy155]; exact H) | exact H
 have Ny155 := Aside0.mk hy155
 clear hy155
 obtain ⟨⟨t158, t161⟩, A10, H⟩ := Option.bind_eq_some_iff.mp H
 dsimp only at H
 have A1 := Aside0.mk A10
 clear A10
 obtain ⟨⟨t162, t163, t164, t165⟩, A20, H⟩ := Option.bind_eq_some_iff.mp H
 dsimp only at H
 have A2 := Aside0.mk A20
 clear A20
 by_cases c3 : t161 = 0
 ·rw [if_pos c3] at H
  have c3b0 : (t161 == 0) = true := beq_iff_eq.mpr c3
  have c3b1 : (t161 != 0) = false := bne_eq_false_iff_eq.mpr c3
  clear c3
  obtain ⟨y167, hy167⟩ : ∃ y_ : List Int, y_ = (([15] : List Int)) := ⟨_, rfl⟩
  replace H : ((nat_Cmp.f k t158 y167).bind fun t170 => (if t170 = 0 then ((ieee_Up.f k 0).bind fun t171 => (if t171 = 1 then (if t164 = 6755399441055744 then (some (t165 == (-51))) else (some false)) else (some false))) else (some false))) = some r := by first | (rw [hy167]; with_reducible exact H) | (have H2_ := (Option.bind_some _ _).symm.trans H; rw [hy167]; with_reducible exact H2_) | (have H2_ := (Option.bind_some _ _).symm.trans H; with_reducible exact H2_) | with_reducible exact H | (rw [hy167]; exact H) | exact H
  have Ny167 := Aside0.mk hy167
  clear hy167
  obtain ⟨t170, A40, H⟩ := Option.bind_eq_some_iff.mp H
  have A4 := Aside0.mk A40
  clear A40
  by_cases c5 : t170 = 0
  ·rw [if_pos c5] at H
   have c5b0 : (t170 == 0) = true := beq_iff_eq.mpr c5
   have c5b1 : (t170 != 0) = false := bne_eq_false_iff_eq.mpr c5
   clear c5
   obtain ⟨t171, A60, H⟩ := Option.bind_eq_some_iff.mp H
   have A6 := Aside0.mk A60
   clear A60
   by_cases c7 : t171 = 1
   ·rw [if_pos c7] at H
    have c7b0 : (t171 == 1) = true := beq_iff_eq.mpr c7
    have c7b1 : (t171 != 1) = false := bne_eq_false_iff_eq.mpr c7
    clear c7
    by_cases c8 : t164 = 6755399441055744
    ·rw [if_pos c8] at H
     have c8b0 : (t164 == 6755399441055744) = true := beq_iff_eq.mpr c8
     have c8b1 : (t164 != 6755399441055744) = false := bne_eq_false_iff_eq.mpr c8
     clear c8
     obtain rfl := Option.some.inj H
     go_enter Tryd.func14, Tryd.ntmps14
     go_wp2_with (first | ((with_reducible refine gate_dst (N := 5) rfl ?_); (try (refine gate_guard (by rfl) ?_; dsimp only)); refine Kd.R_lit (Kd.int .u64) _ 22 ?hg (N := 5) ?hd (xs := ([3] : List Int)) (inner := [.int .u64 3]) (ok := fun _ => True) (okp := fun _ => True) ?hr ?hp (fun _ hk => hk) trivial (Below.refl _ _) (Nat.le_refl _) (by simp) ?_; (case hd => rfl); (case hg => rfl); (case hr => first | (go_simp; done) | (go_simp; rfl)); (case hp => exact (Reps.one (show Kd.M (Kd.int .u64) _ _ _ 3 [.int .u64 3] from rfl) (Reps.none _ _))); intro v153 w9 ho10 hb hg_ hnew_; clear hg_ hnew_; (first | rw [← Ny152.out] at ho10 | (simp only [Int.reduceToNat] at ho10; rw [← Ny152.out] at ho10)); have HO154 := Aside0.mk (Kd.R_lower ho10 (below_size (bS HB.out))); replace HB := hB HB hb; clear hb ho10) | ((with_reducible refine gate_dst (N := 6) rfl ?_); (try (refine gate_guard (by rfl) ?_; dsimp only)); refine Kd.R_lit (Kd.int .u64) _ 22 ?hg (N := 6) ?hd (xs := ([5] : List Int)) (inner := [.int .u64 5]) (ok := fun _ => True) (okp := fun _ => True) ?hr ?hp (fun _ hk => hk) trivial (Below.refl _ _) (Nat.le_refl _) (by simp) ?_; (case hd => rfl); (case hg => rfl); (case hr => first | (go_simp; done) | (go_simp; rfl)); (case hp => exact (Reps.one (show Kd.M (Kd.int .u64) _ _ _ 5 [.int .u64 5] from rfl) (Reps.none _ _))); intro v156 w11 ho12 hb hg_ hnew_; clear hg_ hnew_; (first | rw [← Ny155.out] at ho12 | (simp only [Int.reduceToNat] at ho12; rw [← Ny155.out] at ho12)); have HO157 := Aside0.mk (Kd.R_lower (Kd.R_new' ho12 (Kd.R_lt (rS <| HO154.out))) (below_size (bS HB.out))); replace HO154 := Aside0.mk (Kd.R_elder' (rS <| HO154.out) (Kd.R_base ho12) hb); replace HB := hB HB hb; clear hb ho12; obtain ⟨Ao13, co13, eo13⟩ := Kd.R_slice HO154.out; subst eo13; obtain ⟨Ao14, co14, eo14⟩ := Kd.R_slice HO157.out; subst eo14) | ((with_reducible refine gate_callee (f := 49) rfl ?_); refine goesL_ (some 7) rfl rfl Tryd.func49 (by kernel_rfl) rfl #[.slice Ao13 y152.length co13, .slice Ao14 y155.length co14] rfl (by (try simp only [List.map_toArray, List.map_cons, List.map_nil]); first | done | rfl) ?_; (with_reducible refine (nat_Mul.calls k _ _ y152 _ _ y155 t158 t161 _ ?side1 ?side2 ?side3 ?side4 A1.out).mono ?_); (case side1 => exact cS (Kd.R_reads' HO154.out).2.2); (case side2 => exact (Kd.R_reads' HO154.out).2.1); (case side3 => exact cS (Kd.R_reads' HO157.out).2.2); (case side4 => exact (Kd.R_reads' HO157.out).2.1); rintro e w15 ⟨v159, rfl, ho0, hb⟩; refine ⟨_, rfl, ?_⟩; have HO160 := Aside0.mk (Kd.V_lower (Kd.V_mono (ok' := fun k_ => some k_ ≠ (.slice Ao13 y152.length co13 : Value).ownBlock ∧ some k_ ≠ (.slice Ao14 y155.length co14 : Value).ownBlock) ho0 (fun k_ hk_ => ⟨(Kd.fresh' (Kd.R_lt (rS <| HO154.out)) k_ hk_), (Kd.fresh' (Kd.R_lt (rS <| HO157.out)) k_ hk_)⟩)) (below_size (bS HB.out))); replace HO154 := Aside0.mk (Kd.R_below (rS <| HO154.out) hb); replace HO157 := Aside0.mk (Kd.R_below (rS <| HO157.out) hb); replace HB := hB HB hb; (try clear hb); (try clear hb2); (try clear hk); (try clear hi); (try clear ho0)) | ((with_reducible refine gate_callee (f := 29) rfl ?_); refine goesL_ (some 10) rfl rfl Tryd.func29 (by kernel_rfl) rfl #[.int .u64 4613937818241073152] rfl (by (try simp only [List.map_toArray, List.map_cons, List.map_nil]); first | done | rfl) ?_; (with_reducible refine (ieee_Decode.calls 4613937818241073152 t162 t163 t164 t165 _ A2.out).mono ?_); rintro e w16 ⟨rfl, hb⟩; refine ⟨_, rfl, ?_⟩; replace HO154 := Aside0.mk (Kd.R_below (rS <| HO154.out) hb); replace HO157 := Aside0.mk (Kd.R_below (rS <| HO157.out) hb); replace HO160 := vB HO160 hb; replace HB := hB HB hb; (try clear hb); (try clear hb2); (try clear hk); (try clear hi)) | ((with_reducible refine gate_dst (N := 3) rfl ?_); (try (refine gate_guard (by rfl) ?_; dsimp only)); refine box_event ?hg (N := 3) ?hd (cs := #[.bool false, .int .i64 0, .int .u64 0, .int .i64 0]) (t := 39) ?hr ?_; (case hd => rfl); (case hg => rfl); (case hr => first | (go_simp; done) | (go_simp; rfl)); intro gb166 hg w17 hbox hb; replace HO154 := Aside0.mk (Kd.R_below (rS <| HO154.out) hb); replace HO157 := Aside0.mk (Kd.R_below (rS <| HO157.out) hb); replace HO160 := Aside0.mk (Kd.V_below (Kd.V_elderB (vS <| HO160.out) gb166 (Nat.le_of_eq hg.symm)) hb); have BK166 := Aside0.mk (hbox); have GW166 := Aside0.mk ((by rw [hg]; exact (below_size (bS HB.out)) : w.heap.size ≤ gb166)); have GE166 := Aside0.mk ((by rw [hg]; exact (below_size (bS HB.out)) : w.heap.size ≤ gb166)); replace HB := hB HB hb; clear hb hbox hg; have hcz18_0 : w17.cell? ⟨gb166, 0, none⟩ = some (.bool false) := (blk_cell BK166.out 0).trans rfl; have hcz18_1 : w17.cell? ⟨gb166, 1, none⟩ = some (.int .i64 0) := (blk_cell BK166.out 1).trans rfl; have hcz18_2 : w17.cell? ⟨gb166, 2, none⟩ = some (.int .u64 0) := (blk_cell BK166.out 2).trans rfl; have hcz18_3 : w17.cell? ⟨gb166, 3, none⟩ = some (.int .i64 0) := (blk_cell BK166.out 3).trans rfl; have hfz18_0 := blk_frozen BK166.out 0; have hfz18_1 := blk_frozen BK166.out 1; have hfz18_2 := blk_frozen BK166.out 2; have hfz18_3 := blk_frozen BK166.out 3) | ((with_reducible refine gate_dst (N := 15) rfl ?_); (try (refine gate_guard (by rfl) ?_; dsimp only)); refine Kd.R_lit (Kd.int .u64) _ 22 ?hg (N := 15) ?hd (xs := ([15] : List Int)) (inner := [.int .u64 15]) (ok := fun _ => True) (okp := fun _ => True) ?hr ?hp (fun _ hk => hk) trivial (Below.refl _ _) (Nat.le_refl _) (by simp) ?_; (case hd => rfl); (case hg => rfl); (case hr => first | (go_simp; done) | (go_simp; rfl)); (case hp => exact (Reps.one (show Kd.M (Kd.int .u64) _ _ _ 15 [.int .u64 15] from rfl) (Reps.none _ _))); intro v168 w19 ho20 hb hg_ hnew_; clear hg_ hnew_; (first | rw [← Ny167.out] at ho20 | (simp only [Int.reduceToNat] at ho20; rw [← Ny167.out] at ho20)); replace HO160 := Aside0.mk (Kd.V_elder' (vS <| (Kd.V_mono (Kd.V_far (p := ⟨gb166, 3, none⟩) (Kd.V_far (p := ⟨gb166, 2, none⟩) (Kd.V_far (p := ⟨gb166, 1, none⟩) (Kd.V_far (p := ⟨gb166, 0, none⟩) (Kd.V_mono HO160.out (fun k_ hk => (⟨hk, hk.2⟩ : _ ∧ k_ ≠ gb166))) (fun _ hk => hk.2) (.bool t162)) (fun _ hk => hk.2) (.int .i64 t163)) (fun _ hk => hk.2) (.int .u64 t164)) (fun _ hk => hk.2) (.int .i64 t165)) (fun _ h_ => h_.1))) (Kd.R_base ho20) hb); have HO169 := Aside0.mk (Kd.R_lower (Kd.R_new' (Kd.R_new' ho20 (Kd.R_lt (rS <| (Kd.R_mono (Kd.R_far (p := ⟨gb166, 3, none⟩) (Kd.R_far (p := ⟨gb166, 2, none⟩) (Kd.R_far (p := ⟨gb166, 1, none⟩) (Kd.R_far (p := ⟨gb166, 0, none⟩) (Kd.R_types HO154.out BK166.out (by decide)) (fun _ hk => hk.2) (.bool t162)) (fun _ hk => hk.2) (.int .i64 t163)) (fun _ hk => hk.2) (.int .u64 t164)) (fun _ hk => hk.2) (.int .i64 t165)) (fun _ h_ => h_.1))))) (Kd.R_lt (rS <| (Kd.R_mono (Kd.R_far (p := ⟨gb166, 3, none⟩) (Kd.R_far (p := ⟨gb166, 2, none⟩) (Kd.R_far (p := ⟨gb166, 1, none⟩) (Kd.R_far (p := ⟨gb166, 0, none⟩) (Kd.R_types HO157.out BK166.out (by decide)) (fun _ hk => hk.2) (.bool t162)) (fun _ hk => hk.2) (.int .i64 t163)) (fun _ hk => hk.2) (.int .u64 t164)) (fun _ hk => hk.2) (.int .i64 t165)) (fun _ h_ => h_.1))))) (below_size (bG1 HB.out GE166.out))); replace HO154 := Aside0.mk (Kd.R_elder' (rS <| (Kd.R_mono (Kd.R_far (p := ⟨gb166, 3, none⟩) (Kd.R_far (p := ⟨gb166, 2, none⟩) (Kd.R_far (p := ⟨gb166, 1, none⟩) (Kd.R_far (p := ⟨gb166, 0, none⟩) (Kd.R_types HO154.out BK166.out (by decide)) (fun _ hk => hk.2) (.bool t162)) (fun _ hk => hk.2) (.int .i64 t163)) (fun _ hk => hk.2) (.int .u64 t164)) (fun _ hk => hk.2) (.int .i64 t165)) (fun _ h_ => h_.1))) (Kd.R_base ho20) hb); replace HO157 := Aside0.mk (Kd.R_elder' (rS <| (Kd.R_mono (Kd.R_far (p := ⟨gb166, 3, none⟩) (Kd.R_far (p := ⟨gb166, 2, none⟩) (Kd.R_far (p := ⟨gb166, 1, none⟩) (Kd.R_far (p := ⟨gb166, 0, none⟩) (Kd.R_types HO157.out BK166.out (by decide)) (fun _ hk => hk.2) (.bool t162)) (fun _ hk => hk.2) (.int .i64 t163)) (fun _ hk => hk.2) (.int .u64 t164)) (fun _ hk => hk.2) (.int .i64 t165)) (fun _ h_ => h_.1))) (Kd.R_base ho20) hb); replace BK166 := Aside0.mk (blk_below (g := gb166) (o := .cells #[.bool t162, .int .i64 t163, .int .u64 t164, .int .i64 t165] 39 (0, 0)) (by refine blkP (cs := #[.bool t162, .int .i64 t163, .int .u64 t164, .int .i64 0]) ?_ 3 _ rfl; refine blkP (cs := #[.bool t162, .int .i64 t163, .int .u64 0, .int .i64 0]) ?_ 2 _ rfl; refine blkP (cs := #[.bool t162, .int .i64 0, .int .u64 0, .int .i64 0]) ?_ 1 _ rfl; refine blkP (cs := #[.bool false, .int .i64 0, .int .u64 0, .int .i64 0]) ?_ 0 _ rfl; exact bkS BK166.out) hb); replace HB := Aside0.mk (below_step (bG1 HB.out GE166.out) hb); clear hb ho20; obtain ⟨Ao21, co21, eo21⟩ := Kd.V_slice HO160.out; subst eo21; obtain ⟨Ao22, co22, eo22⟩ := Kd.R_slice HO169.out; subst eo22) | (go_at_call 18; (with_reducible refine (nat_Cmp.calls k _ _ t158 _ _ y167 t170 _ ?side1 ?side2 ?side3 ?side4 A4.out).mono ?_); (case side1 => exact cS (Kd.V_reads' HO160.out).2.2); (case side2 => exact (Kd.V_reads' HO160.out).2.1); (case side3 => exact cS (Kd.R_reads' HO169.out).2.2); (case side4 => exact (Kd.R_reads' HO169.out).2.1); rintro e w' ⟨rfl, ⟨nd, rfl⟩⟩) | (go_at_call 34; (with_reducible refine (ieee_Up.calls k 0 t171 _ A6.out).mono ?_); rintro e w' ⟨rfl, ⟨nd, rfl⟩⟩; have hcz23_0 : w19.cell? ⟨gb166, 0, none⟩ = some (.bool t162) := (blk_cell BK166.out 0).trans rfl; have hcz23_1 : w19.cell? ⟨gb166, 1, none⟩ = some (.int .i64 t163) := (blk_cell BK166.out 1).trans rfl; have hcz23_2 : w19.cell? ⟨gb166, 2, none⟩ = some (.int .u64 t164) := (blk_cell BK166.out 2).trans rfl; have hcz23_3 : w19.cell? ⟨gb166, 3, none⟩ = some (.int .i64 t165) := (blk_cell BK166.out 3).trans rfl; have hfz23_0 := blk_frozen BK166.out 0; have hfz23_1 := blk_frozen BK166.out 1; have hfz23_2 := blk_frozen BK166.out 2; have hfz23_3 := blk_frozen BK166.out 3))
     go_ret
     exact ⟨by first | rfl | (simp [errW_none, errW_some] <;> rfl) | (simp [*, errW_none, errW_some] <;> rfl), bG1 HB.out GE166.out⟩
    ·rw [if_neg c8] at H
     have c8b0 : (t164 == 6755399441055744) = false := beq_eq_false_iff_ne.mpr c8
     have c8b1 : (t164 != 6755399441055744) = true := bne_iff_ne.mpr c8
     obtain rfl := Option.some.inj H
     go_enter Tryd.func14, Tryd.ntmps14
     go_wp2_with (first | ((with_reducible refine gate_dst (N := 5) rfl ?_); (try (refine gate_guard (by rfl) ?_; dsimp only)); refine Kd.R_lit (Kd.int .u64) _ 22 ?hg (N := 5) ?hd (xs := ([3] : List Int)) (inner := [.int .u64 3]) (ok := fun _ => True) (okp := fun _ => True) ?hr ?hp (fun _ hk => hk) trivial (Below.refl _ _) (Nat.le_refl _) (by simp) ?_; (case hd => rfl); (case hg => rfl); (case hr => first | (go_simp; done) | (go_simp; rfl)); (case hp => exact (Reps.one (show Kd.M (Kd.int .u64) _ _ _ 3 [.int .u64 3] from rfl) (Reps.none _ _))); intro v153 w24 ho25 hb hg_ hnew_; clear hg_ hnew_; (first | rw [← Ny152.out] at ho25 | (simp only [Int.reduceToNat] at ho25; rw [← Ny152.out] at ho25)); have HO154 := Aside0.mk (Kd.R_lower ho25 (below_size (bS HB.out))); replace HB := hB HB hb; clear hb ho25) | ((with_reducible refine gate_dst (N := 6) rfl ?_); (try (refine gate_guard (by rfl) ?_; dsimp only)); refine Kd.R_lit (Kd.int .u64) _ 22 ?hg (N := 6) ?hd (xs := ([5] : List Int)) (inner := [.int .u64 5]) (ok := fun _ => True) (okp := fun _ => True) ?hr ?hp (fun _ hk => hk) trivial (Below.refl _ _) (Nat.le_refl _) (by simp) ?_; (case hd => rfl); (case hg => rfl); (case hr => first | (go_simp; done) | (go_simp; rfl)); (case hp => exact (Reps.one (show Kd.M (Kd.int .u64) _ _ _ 5 [.int .u64 5] from rfl) (Reps.none _ _))); intro v156 w26 ho27 hb hg_ hnew_; clear hg_ hnew_; (first | rw [← Ny155.out] at ho27 | (simp only [Int.reduceToNat] at ho27; rw [← Ny155.out] at ho27)); have HO157 := Aside0.mk (Kd.R_lower (Kd.R_new' ho27 (Kd.R_lt (rS <| HO154.out))) (below_size (bS HB.out))); replace HO154 := Aside0.mk (Kd.R_elder' (rS <| HO154.out) (Kd.R_base ho27) hb); replace HB := hB HB hb; clear hb ho27; obtain ⟨Ao28, co28, eo28⟩ := Kd.R_slice HO154.out; subst eo28; obtain ⟨Ao29, co29, eo29⟩ := Kd.R_slice HO157.out; subst eo29) | ((with_reducible refine gate_callee (f := 49) rfl ?_); refine goesL_ (some 7) rfl rfl Tryd.func49 (by kernel_rfl) rfl #[.slice Ao28 y152.length co28, .slice Ao29 y155.length co29] rfl (by (try simp only [List.map_toArray, List.map_cons, List.map_nil]); first | done | rfl) ?_; (with_reducible refine (nat_Mul.calls k _ _ y152 _ _ y155 t158 t161 _ ?side1 ?side2 ?side3 ?side4 A1.out).mono ?_); (case side1 => exact cS (Kd.R_reads' HO154.out).2.2); (case side2 => exact (Kd.R_reads' HO154.out).2.1); (case side3 => exact cS (Kd.R_reads' HO157.out).2.2); (case side4 => exact (Kd.R_reads' HO157.out).2.1); rintro e w30 ⟨v159, rfl, ho0, hb⟩; refine ⟨_, rfl, ?_⟩; have HO160 := Aside0.mk (Kd.V_lower (Kd.V_mono (ok' := fun k_ => some k_ ≠ (.slice Ao28 y152.length co28 : Value).ownBlock ∧ some k_ ≠ (.slice Ao29 y155.length co29 : Value).ownBlock) ho0 (fun k_ hk_ => ⟨(Kd.fresh' (Kd.R_lt (rS <| HO154.out)) k_ hk_), (Kd.fresh' (Kd.R_lt (rS <| HO157.out)) k_ hk_)⟩)) (below_size (bS HB.out))); replace HO154 := Aside0.mk (Kd.R_below (rS <| HO154.out) hb); replace HO157 := Aside0.mk (Kd.R_below (rS <| HO157.out) hb); replace HB := hB HB hb; (try clear hb); (try clear hb2); (try clear hk); (try clear hi); (try clear ho0)) | ((with_reducible refine gate_callee (f := 29) rfl ?_); refine goesL_ (some 10) rfl rfl Tryd.func29 (by kernel_rfl) rfl #[.int .u64 4613937818241073152] rfl (by (try simp only [List.map_toArray, List.map_cons, List.map_nil]); first | done | rfl) ?_; (with_reducible refine (ieee_Decode.calls 4613937818241073152 t162 t163 t164 t165 _ A2.out).mono ?_); rintro e w31 ⟨rfl, hb⟩; refine ⟨_, rfl, ?_⟩; replace HO154 := Aside0.mk (Kd.R_below (rS <| HO154.out) hb); replace HO157 := Aside0.mk (Kd.R_below (rS <| HO157.out) hb); replace HO160 := vB HO160 hb; replace HB := hB HB hb; (try clear hb); (try clear hb2); (try clear hk); (try clear hi)) | ((with_reducible refine gate_dst (N := 3) rfl ?_); (try (refine gate_guard (by rfl) ?_; dsimp only)); refine box_event ?hg (N := 3) ?hd (cs := #[.bool false, .int .i64 0, .int .u64 0, .int .i64 0]) (t := 39) ?hr ?_; (case hd => rfl); (case hg => rfl); (case hr => first | (go_simp; done) | (go_simp; rfl)); intro gb166 hg w32 hbox hb; replace HO154 := Aside0.mk (Kd.R_below (rS <| HO154.out) hb); replace HO157 := Aside0.mk (Kd.R_below (rS <| HO157.out) hb); replace HO160 := Aside0.mk (Kd.V_below (Kd.V_elderB (vS <| HO160.out) gb166 (Nat.le_of_eq hg.symm)) hb); have BK166 := Aside0.mk (hbox); have GW166 := Aside0.mk ((by rw [hg]; exact (below_size (bS HB.out)) : w.heap.size ≤ gb166)); have GE166 := Aside0.mk ((by rw [hg]; exact (below_size (bS HB.out)) : w.heap.size ≤ gb166)); replace HB := hB HB hb; clear hb hbox hg; have hcz33_0 : w32.cell? ⟨gb166, 0, none⟩ = some (.bool false) := (blk_cell BK166.out 0).trans rfl; have hcz33_1 : w32.cell? ⟨gb166, 1, none⟩ = some (.int .i64 0) := (blk_cell BK166.out 1).trans rfl; have hcz33_2 : w32.cell? ⟨gb166, 2, none⟩ = some (.int .u64 0) := (blk_cell BK166.out 2).trans rfl; have hcz33_3 : w32.cell? ⟨gb166, 3, none⟩ = some (.int .i64 0) := (blk_cell BK166.out 3).trans rfl; have hfz33_0 := blk_frozen BK166.out 0; have hfz33_1 := blk_frozen BK166.out 1; have hfz33_2 := blk_frozen BK166.out 2; have hfz33_3 := blk_frozen BK166.out 3) | ((with_reducible refine gate_dst (N := 15) rfl ?_); (try (refine gate_guard (by rfl) ?_; dsimp only)); refine Kd.R_lit (Kd.int .u64) _ 22 ?hg (N := 15) ?hd (xs := ([15] : List Int)) (inner := [.int .u64 15]) (ok := fun _ => True) (okp := fun _ => True) ?hr ?hp (fun _ hk => hk) trivial (Below.refl _ _) (Nat.le_refl _) (by simp) ?_; (case hd => rfl); (case hg => rfl); (case hr => first | (go_simp; done) | (go_simp; rfl)); (case hp => exact (Reps.one (show Kd.M (Kd.int .u64) _ _ _ 15 [.int .u64 15] from rfl) (Reps.none _ _))); intro v168 w34 ho35 hb hg_ hnew_; clear hg_ hnew_; (first | rw [← Ny167.out] at ho35 | (simp only [Int.reduceToNat] at ho35; rw [← Ny167.out] at ho35)); replace HO160 := Aside0.mk (Kd.V_elder' (vS <| (Kd.V_mono (Kd.V_far (p := ⟨gb166, 3, none⟩) (Kd.V_far (p := ⟨gb166, 2, none⟩) (Kd.V_far (p := ⟨gb166, 1, none⟩) (Kd.V_far (p := ⟨gb166, 0, none⟩) (Kd.V_mono HO160.out (fun k_ hk => (⟨hk, hk.2⟩ : _ ∧ k_ ≠ gb166))) (fun _ hk => hk.2) (.bool t162)) (fun _ hk => hk.2) (.int .i64 t163)) (fun _ hk => hk.2) (.int .u64 t164)) (fun _ hk => hk.2) (.int .i64 t165)) (fun _ h_ => h_.1))) (Kd.R_base ho35) hb); have HO169 := Aside0.mk (Kd.R_lower (Kd.R_new' (Kd.R_new' ho35 (Kd.R_lt (rS <| (Kd.R_mono (Kd.R_far (p := ⟨gb166, 3, none⟩) (Kd.R_far (p := ⟨gb166, 2, none⟩) (Kd.R_far (p := ⟨gb166, 1, none⟩) (Kd.R_far (p := ⟨gb166, 0, none⟩) (Kd.R_types HO154.out BK166.out (by decide)) (fun _ hk => hk.2) (.bool t162)) (fun _ hk => hk.2) (.int .i64 t163)) (fun _ hk => hk.2) (.int .u64 t164)) (fun _ hk => hk.2) (.int .i64 t165)) (fun _ h_ => h_.1))))) (Kd.R_lt (rS <| (Kd.R_mono (Kd.R_far (p := ⟨gb166, 3, none⟩) (Kd.R_far (p := ⟨gb166, 2, none⟩) (Kd.R_far (p := ⟨gb166, 1, none⟩) (Kd.R_far (p := ⟨gb166, 0, none⟩) (Kd.R_types HO157.out BK166.out (by decide)) (fun _ hk => hk.2) (.bool t162)) (fun _ hk => hk.2) (.int .i64 t163)) (fun _ hk => hk.2) (.int .u64 t164)) (fun _ hk => hk.2) (.int .i64 t165)) (fun _ h_ => h_.1))))) (below_size (bG1 HB.out GE166.out))); replace HO154 := Aside0.mk (Kd.R_elder' (rS <| (Kd.R_mono (Kd.R_far (p := ⟨gb166, 3, none⟩) (Kd.R_far (p := ⟨gb166, 2, none⟩) (Kd.R_far (p := ⟨gb166, 1, none⟩) (Kd.R_far (p := ⟨gb166, 0, none⟩) (Kd.R_types HO154.out BK166.out (by decide)) (fun _ hk => hk.2) (.bool t162)) (fun _ hk => hk.2) (.int .i64 t163)) (fun _ hk => hk.2) (.int .u64 t164)) (fun _ hk => hk.2) (.int .i64 t165)) (fun _ h_ => h_.1))) (Kd.R_base ho35) hb); replace HO157 := Aside0.mk (Kd.R_elder' (rS <| (Kd.R_mono (Kd.R_far (p := ⟨gb166, 3, none⟩) (Kd.R_far (p := ⟨gb166, 2, none⟩) (Kd.R_far (p := ⟨gb166, 1, none⟩) (Kd.R_far (p := ⟨gb166, 0, none⟩) (Kd.R_types HO157.out BK166.out (by decide)) (fun _ hk => hk.2) (.bool t162)) (fun _ hk => hk.2) (.int .i64 t163)) (fun _ hk => hk.2) (.int .u64 t164)) (fun _ hk => hk.2) (.int .i64 t165)) (fun _ h_ => h_.1))) (Kd.R_base ho35) hb); replace BK166 := Aside0.mk (blk_below (g := gb166) (o := .cells #[.bool t162, .int .i64 t163, .int .u64 t164, .int .i64 t165] 39 (0, 0)) (by refine blkP (cs := #[.bool t162, .int .i64 t163, .int .u64 t164, .int .i64 0]) ?_ 3 _ rfl; refine blkP (cs := #[.bool t162, .int .i64 t163, .int .u64 0, .int .i64 0]) ?_ 2 _ rfl; refine blkP (cs := #[.bool t162, .int .i64 0, .int .u64 0, .int .i64 0]) ?_ 1 _ rfl; refine blkP (cs := #[.bool false, .int .i64 0, .int .u64 0, .int .i64 0]) ?_ 0 _ rfl; exact bkS BK166.out) hb); replace HB := Aside0.mk (below_step (bG1 HB.out GE166.out) hb); clear hb ho35; obtain ⟨Ao36, co36, eo36⟩ := Kd.V_slice HO160.out; subst eo36; obtain ⟨Ao37, co37, eo37⟩ := Kd.R_slice HO169.out; subst eo37) | (go_at_call 18; (with_reducible refine (nat_Cmp.calls k _ _ t158 _ _ y167 t170 _ ?side1 ?side2 ?side3 ?side4 A4.out).mono ?_); (case side1 => exact cS (Kd.V_reads' HO160.out).2.2); (case side2 => exact (Kd.V_reads' HO160.out).2.1); (case side3 => exact cS (Kd.R_reads' HO169.out).2.2); (case side4 => exact (Kd.R_reads' HO169.out).2.1); rintro e w' ⟨rfl, ⟨nd, rfl⟩⟩) | (go_at_call 34; (with_reducible refine (ieee_Up.calls k 0 t171 _ A6.out).mono ?_); rintro e w' ⟨rfl, ⟨nd, rfl⟩⟩; have hcz38_0 : w34.cell? ⟨gb166, 0, none⟩ = some (.bool t162) := (blk_cell BK166.out 0).trans rfl; have hcz38_1 : w34.cell? ⟨gb166, 1, none⟩ = some (.int .i64 t163) := (blk_cell BK166.out 1).trans rfl; have hcz38_2 : w34.cell? ⟨gb166, 2, none⟩ = some (.int .u64 t164) := (blk_cell BK166.out 2).trans rfl; have hcz38_3 : w34.cell? ⟨gb166, 3, none⟩ = some (.int .i64 t165) := (blk_cell BK166.out 3).trans rfl; have hfz38_0 := blk_frozen BK166.out 0; have hfz38_1 := blk_frozen BK166.out 1; have hfz38_2 := blk_frozen BK166.out 2; have hfz38_3 := blk_frozen BK166.out 3))
     go_ret
     exact ⟨by first | rfl | (simp [errW_none, errW_some] <;> rfl) | (simp [*, errW_none, errW_some] <;> rfl), bG1 HB.out GE166.out⟩
   ·rw [if_neg c7] at H
    have c7b0 : (t171 == 1) = false := beq_eq_false_iff_ne.mpr c7
    have c7b1 : (t171 != 1) = true := bne_iff_ne.mpr c7
    obtain rfl := Option.some.inj H
    go_enter Tryd.func14, Tryd.ntmps14
    go_wp2_with (first | ((with_reducible refine gate_dst (N := 5) rfl ?_); (try (refine gate_guard (by rfl) ?_; dsimp only)); refine Kd.R_lit (Kd.int .u64) _ 22 ?hg (N := 5) ?hd (xs := ([3] : List Int)) (inner := [.int .u64 3]) (ok := fun _ => True) (okp := fun _ => True) ?hr ?hp (fun _ hk => hk) trivial (Below.refl _ _) (Nat.le_refl _) (by simp) ?_; (case hd => rfl); (case hg => rfl); (case hr => first | (go_simp; done) | (go_simp; rfl)); (case hp => exact (Reps.one (show Kd.M (Kd.int .u64) _ _ _ 3 [.int .u64 3] from rfl) (Reps.none _ _))); intro v153 w39 ho40 hb hg_ hnew_; clear hg_ hnew_; (first | rw [← Ny152.out] at ho40 | (simp only [Int.reduceToNat] at ho40; rw [← Ny152.out] at ho40)); have HO154 := Aside0.mk (Kd.R_lower ho40 (below_size (bS HB.out))); replace HB := hB HB hb; clear hb ho40) | ((with_reducible refine gate_dst (N := 6) rfl ?_); (try (refine gate_guard (by rfl) ?_; dsimp only)); refine Kd.R_lit (Kd.int .u64) _ 22 ?hg (N := 6) ?hd (xs := ([5] : List Int)) (inner := [.int .u64 5]) (ok := fun _ => True) (okp := fun _ => True) ?hr ?hp (fun _ hk => hk) trivial (Below.refl _ _) (Nat.le_refl _) (by simp) ?_; (case hd => rfl); (case hg => rfl); (case hr => first | (go_simp; done) | (go_simp; rfl)); (case hp => exact (Reps.one (show Kd.M (Kd.int .u64) _ _ _ 5 [.int .u64 5] from rfl) (Reps.none _ _))); intro v156 w41 ho42 hb hg_ hnew_; clear hg_ hnew_; (first | rw [← Ny155.out] at ho42 | (simp only [Int.reduceToNat] at ho42; rw [← Ny155.out] at ho42)); have HO157 := Aside0.mk (Kd.R_lower (Kd.R_new' ho42 (Kd.R_lt (rS <| HO154.out))) (below_size (bS HB.out))); replace HO154 := Aside0.mk (Kd.R_elder' (rS <| HO154.out) (Kd.R_base ho42) hb); replace HB := hB HB hb; clear hb ho42; obtain ⟨Ao43, co43, eo43⟩ := Kd.R_slice HO154.out; subst eo43; obtain ⟨Ao44, co44, eo44⟩ := Kd.R_slice HO157.out; subst eo44) | ((with_reducible refine gate_callee (f := 49) rfl ?_); refine goesL_ (some 7) rfl rfl Tryd.func49 (by kernel_rfl) rfl #[.slice Ao43 y152.length co43, .slice Ao44 y155.length co44] rfl (by (try simp only [List.map_toArray, List.map_cons, List.map_nil]); first | done | rfl) ?_; (with_reducible refine (nat_Mul.calls k _ _ y152 _ _ y155 t158 t161 _ ?side1 ?side2 ?side3 ?side4 A1.out).mono ?_); (case side1 => exact cS (Kd.R_reads' HO154.out).2.2); (case side2 => exact (Kd.R_reads' HO154.out).2.1); (case side3 => exact cS (Kd.R_reads' HO157.out).2.2); (case side4 => exact (Kd.R_reads' HO157.out).2.1); rintro e w45 ⟨v159, rfl, ho0, hb⟩; refine ⟨_, rfl, ?_⟩; have HO160 := Aside0.mk (Kd.V_lower (Kd.V_mono (ok' := fun k_ => some k_ ≠ (.slice Ao43 y152.length co43 : Value).ownBlock ∧ some k_ ≠ (.slice Ao44 y155.length co44 : Value).ownBlock) ho0 (fun k_ hk_ => ⟨(Kd.fresh' (Kd.R_lt (rS <| HO154.out)) k_ hk_), (Kd.fresh' (Kd.R_lt (rS <| HO157.out)) k_ hk_)⟩)) (below_size (bS HB.out))); replace HO154 := Aside0.mk (Kd.R_below (rS <| HO154.out) hb); replace HO157 := Aside0.mk (Kd.R_below (rS <| HO157.out) hb); replace HB := hB HB hb; (try clear hb); (try clear hb2); (try clear hk); (try clear hi); (try clear ho0)) | ((with_reducible refine gate_callee (f := 29) rfl ?_); refine goesL_ (some 10) rfl rfl Tryd.func29 (by kernel_rfl) rfl #[.int .u64 4613937818241073152] rfl (by (try simp only [List.map_toArray, List.map_cons, List.map_nil]); first | done | rfl) ?_; (with_reducible refine (ieee_Decode.calls 4613937818241073152 t162 t163 t164 t165 _ A2.out).mono ?_); rintro e w46 ⟨rfl, hb⟩; refine ⟨_, rfl, ?_⟩; replace HO154 := Aside0.mk (Kd.R_below (rS <| HO154.out) hb); replace HO157 := Aside0.mk (Kd.R_below (rS <| HO157.out) hb); replace HO160 := vB HO160 hb; replace HB := hB HB hb; (try clear hb); (try clear hb2); (try clear hk); (try clear hi)) | ((with_reducible refine gate_dst (N := 3) rfl ?_); (try (refine gate_guard (by rfl) ?_; dsimp only)); refine box_event ?hg (N := 3) ?hd (cs := #[.bool false, .int .i64 0, .int .u64 0, .int .i64 0]) (t := 39) ?hr ?_; (case hd => rfl); (case hg => rfl); (case hr => first | (go_simp; done) | (go_simp; rfl)); intro gb166 hg w47 hbox hb; replace HO154 := Aside0.mk (Kd.R_below (rS <| HO154.out) hb); replace HO157 := Aside0.mk (Kd.R_below (rS <| HO157.out) hb); replace HO160 := Aside0.mk (Kd.V_below (Kd.V_elderB (vS <| HO160.out) gb166 (Nat.le_of_eq hg.symm)) hb); have BK166 := Aside0.mk (hbox); have GW166 := Aside0.mk ((by rw [hg]; exact (below_size (bS HB.out)) : w.heap.size ≤ gb166)); have GE166 := Aside0.mk ((by rw [hg]; exact (below_size (bS HB.out)) : w.heap.size ≤ gb166)); replace HB := hB HB hb; clear hb hbox hg; have hcz48_0 : w47.cell? ⟨gb166, 0, none⟩ = some (.bool false) := (blk_cell BK166.out 0).trans rfl; have hcz48_1 : w47.cell? ⟨gb166, 1, none⟩ = some (.int .i64 0) := (blk_cell BK166.out 1).trans rfl; have hcz48_2 : w47.cell? ⟨gb166, 2, none⟩ = some (.int .u64 0) := (blk_cell BK166.out 2).trans rfl; have hcz48_3 : w47.cell? ⟨gb166, 3, none⟩ = some (.int .i64 0) := (blk_cell BK166.out 3).trans rfl; have hfz48_0 := blk_frozen BK166.out 0; have hfz48_1 := blk_frozen BK166.out 1; have hfz48_2 := blk_frozen BK166.out 2; have hfz48_3 := blk_frozen BK166.out 3) | ((with_reducible refine gate_dst (N := 15) rfl ?_); (try (refine gate_guard (by rfl) ?_; dsimp only)); refine Kd.R_lit (Kd.int .u64) _ 22 ?hg (N := 15) ?hd (xs := ([15] : List Int)) (inner := [.int .u64 15]) (ok := fun _ => True) (okp := fun _ => True) ?hr ?hp (fun _ hk => hk) trivial (Below.refl _ _) (Nat.le_refl _) (by simp) ?_; (case hd => rfl); (case hg => rfl); (case hr => first | (go_simp; done) | (go_simp; rfl)); (case hp => exact (Reps.one (show Kd.M (Kd.int .u64) _ _ _ 15 [.int .u64 15] from rfl) (Reps.none _ _))); intro v168 w49 ho50 hb hg_ hnew_; clear hg_ hnew_; (first | rw [← Ny167.out] at ho50 | (simp only [Int.reduceToNat] at ho50; rw [← Ny167.out] at ho50)); replace HO160 := Aside0.mk (Kd.V_elder' (vS <| (Kd.V_mono (Kd.V_far (p := ⟨gb166, 3, none⟩) (Kd.V_far (p := ⟨gb166, 2, none⟩) (Kd.V_far (p := ⟨gb166, 1, none⟩) (Kd.V_far (p := ⟨gb166, 0, none⟩) (Kd.V_mono HO160.out (fun k_ hk => (⟨hk, hk.2⟩ : _ ∧ k_ ≠ gb166))) (fun _ hk => hk.2) (.bool t162)) (fun _ hk => hk.2) (.int .i64 t163)) (fun _ hk => hk.2) (.int .u64 t164)) (fun _ hk => hk.2) (.int .i64 t165)) (fun _ h_ => h_.1))) (Kd.R_base ho50) hb); have HO169 := Aside0.mk (Kd.R_lower (Kd.R_new' (Kd.R_new' ho50 (Kd.R_lt (rS <| (Kd.R_mono (Kd.R_far (p := ⟨gb166, 3, none⟩) (Kd.R_far (p := ⟨gb166, 2, none⟩) (Kd.R_far (p := ⟨gb166, 1, none⟩) (Kd.R_far (p := ⟨gb166, 0, none⟩) (Kd.R_types HO154.out BK166.out (by decide)) (fun _ hk => hk.2) (.bool t162)) (fun _ hk => hk.2) (.int .i64 t163)) (fun _ hk => hk.2) (.int .u64 t164)) (fun _ hk => hk.2) (.int .i64 t165)) (fun _ h_ => h_.1))))) (Kd.R_lt (rS <| (Kd.R_mono (Kd.R_far (p := ⟨gb166, 3, none⟩) (Kd.R_far (p := ⟨gb166, 2, none⟩) (Kd.R_far (p := ⟨gb166, 1, none⟩) (Kd.R_far (p := ⟨gb166, 0, none⟩) (Kd.R_types HO157.out BK166.out (by decide)) (fun _ hk => hk.2) (.bool t162)) (fun _ hk => hk.2) (.int .i64 t163)) (fun _ hk => hk.2) (.int .u64 t164)) (fun _ hk => hk.2) (.int .i64 t165)) (fun _ h_ => h_.1))))) (below_size (bG1 HB.out GE166.out))); replace HO154 := Aside0.mk (Kd.R_elder' (rS <| (Kd.R_mono (Kd.R_far (p := ⟨gb166, 3, none⟩) (Kd.R_far (p := ⟨gb166, 2, none⟩) (Kd.R_far (p := ⟨gb166, 1, none⟩) (Kd.R_far (p := ⟨gb166, 0, none⟩) (Kd.R_types HO154.out BK166.out (by decide)) (fun _ hk => hk.2) (.bool t162)) (fun _ hk => hk.2) (.int .i64 t163)) (fun _ hk => hk.2) (.int .u64 t164)) (fun _ hk => hk.2) (.int .i64 t165)) (fun _ h_ => h_.1))) (Kd.R_base ho50) hb); replace HO157 := Aside0.mk (Kd.R_elder' (rS <| (Kd.R_mono (Kd.R_far (p := ⟨gb166, 3, none⟩) (Kd.R_far (p := ⟨gb166, 2, none⟩) (Kd.R_far (p := ⟨gb166, 1, none⟩) (Kd.R_far (p := ⟨gb166, 0, none⟩) (Kd.R_types HO157.out BK166.out (by decide)) (fun _ hk => hk.2) (.bool t162)) (fun _ hk => hk.2) (.int .i64 t163)) (fun _ hk => hk.2) (.int .u64 t164)) (fun _ hk => hk.2) (.int .i64 t165)) (fun _ h_ => h_.1))) (Kd.R_base ho50) hb); replace BK166 := Aside0.mk (blk_below (g := gb166) (o := .cells #[.bool t162, .int .i64 t163, .int .u64 t164, .int .i64 t165] 39 (0, 0)) (by refine blkP (cs := #[.bool t162, .int .i64 t163, .int .u64 t164, .int .i64 0]) ?_ 3 _ rfl; refine blkP (cs := #[.bool t162, .int .i64 t163, .int .u64 0, .int .i64 0]) ?_ 2 _ rfl; refine blkP (cs := #[.bool t162, .int .i64 0, .int .u64 0, .int .i64 0]) ?_ 1 _ rfl; refine blkP (cs := #[.bool false, .int .i64 0, .int .u64 0, .int .i64 0]) ?_ 0 _ rfl; exact bkS BK166.out) hb); replace HB := Aside0.mk (below_step (bG1 HB.out GE166.out) hb); clear hb ho50; obtain ⟨Ao51, co51, eo51⟩ := Kd.V_slice HO160.out; subst eo51; obtain ⟨Ao52, co52, eo52⟩ := Kd.R_slice HO169.out; subst eo52) | (go_at_call 18; (with_reducible refine (nat_Cmp.calls k _ _ t158 _ _ y167 t170 _ ?side1 ?side2 ?side3 ?side4 A4.out).mono ?_); (case side1 => exact cS (Kd.V_reads' HO160.out).2.2); (case side2 => exact (Kd.V_reads' HO160.out).2.1); (case side3 => exact cS (Kd.R_reads' HO169.out).2.2); (case side4 => exact (Kd.R_reads' HO169.out).2.1); rintro e w' ⟨rfl, ⟨nd, rfl⟩⟩) | (go_at_call 34; (with_reducible refine (ieee_Up.calls k 0 t171 _ A6.out).mono ?_); rintro e w' ⟨rfl, ⟨nd, rfl⟩⟩))
    go_ret
    exact ⟨by first | rfl | (simp [errW_none, errW_some] <;> rfl) | (simp [*, errW_none, errW_some] <;> rfl), bG1 HB.out GE166.out⟩
  ·rw [if_neg c5] at H
   have c5b0 : (t170 == 0) = false := beq_eq_false_iff_ne.mpr c5
   have c5b1 : (t170 != 0) = true := bne_iff_ne.mpr c5
   obtain rfl := Option.some.inj H
   go_enter Tryd.func14, Tryd.ntmps14
   go_wp2_with (first | ((with_reducible refine gate_dst (N := 5) rfl ?_); (try (refine gate_guard (by rfl) ?_; dsimp only)); refine Kd.R_lit (Kd.int .u64) _ 22 ?hg (N := 5) ?hd (xs := ([3] : List Int)) (inner := [.int .u64 3]) (ok := fun _ => True) (okp := fun _ => True) ?hr ?hp (fun _ hk => hk) trivial (Below.refl _ _) (Nat.le_refl _) (by simp) ?_; (case hd => rfl); (case hg => rfl); (case hr => first | (go_simp; done) | (go_simp; rfl)); (case hp => exact (Reps.one (show Kd.M (Kd.int .u64) _ _ _ 3 [.int .u64 3] from rfl) (Reps.none _ _))); intro v153 w53 ho54 hb hg_ hnew_; clear hg_ hnew_; (first | rw [← Ny152.out] at ho54 | (simp only [Int.reduceToNat] at ho54; rw [← Ny152.out] at ho54)); have HO154 := Aside0.mk (Kd.R_lower ho54 (below_size (bS HB.out))); replace HB := hB HB hb; clear hb ho54) | ((with_reducible refine gate_dst (N := 6) rfl ?_); (try (refine gate_guard (by rfl) ?_; dsimp only)); refine Kd.R_lit (Kd.int .u64) _ 22 ?hg (N := 6) ?hd (xs := ([5] : List Int)) (inner := [.int .u64 5]) (ok := fun _ => True) (okp := fun _ => True) ?hr ?hp (fun _ hk => hk) trivial (Below.refl _ _) (Nat.le_refl _) (by simp) ?_; (case hd => rfl); (case hg => rfl); (case hr => first | (go_simp; done) | (go_simp; rfl)); (case hp => exact (Reps.one (show Kd.M (Kd.int .u64) _ _ _ 5 [.int .u64 5] from rfl) (Reps.none _ _))); intro v156 w55 ho56 hb hg_ hnew_; clear hg_ hnew_; (first | rw [← Ny155.out] at ho56 | (simp only [Int.reduceToNat] at ho56; rw [← Ny155.out] at ho56)); have HO157 := Aside0.mk (Kd.R_lower (Kd.R_new' ho56 (Kd.R_lt (rS <| HO154.out))) (below_size (bS HB.out))); replace HO154 := Aside0.mk (Kd.R_elder' (rS <| HO154.out) (Kd.R_base ho56) hb); replace HB := hB HB hb; clear hb ho56; obtain ⟨Ao57, co57, eo57⟩ := Kd.R_slice HO154.out; subst eo57; obtain ⟨Ao58, co58, eo58⟩ := Kd.R_slice HO157.out; subst eo58) | ((with_reducible refine gate_callee (f := 49) rfl ?_); refine goesL_ (some 7) rfl rfl Tryd.func49 (by kernel_rfl) rfl #[.slice Ao57 y152.length co57, .slice Ao58 y155.length co58] rfl (by (try simp only [List.map_toArray, List.map_cons, List.map_nil]); first | done | rfl) ?_; (with_reducible refine (nat_Mul.calls k _ _ y152 _ _ y155 t158 t161 _ ?side1 ?side2 ?side3 ?side4 A1.out).mono ?_); (case side1 => exact cS (Kd.R_reads' HO154.out).2.2); (case side2 => exact (Kd.R_reads' HO154.out).2.1); (case side3 => exact cS (Kd.R_reads' HO157.out).2.2); (case side4 => exact (Kd.R_reads' HO157.out).2.1); rintro e w59 ⟨v159, rfl, ho0, hb⟩; refine ⟨_, rfl, ?_⟩; have HO160 := Aside0.mk (Kd.V_lower (Kd.V_mono (ok' := fun k_ => some k_ ≠ (.slice Ao57 y152.length co57 : Value).ownBlock ∧ some k_ ≠ (.slice Ao58 y155.length co58 : Value).ownBlock) ho0 (fun k_ hk_ => ⟨(Kd.fresh' (Kd.R_lt (rS <| HO154.out)) k_ hk_), (Kd.fresh' (Kd.R_lt (rS <| HO157.out)) k_ hk_)⟩)) (below_size (bS HB.out))); replace HO154 := Aside0.mk (Kd.R_below (rS <| HO154.out) hb); replace HO157 := Aside0.mk (Kd.R_below (rS <| HO157.out) hb); replace HB := hB HB hb; (try clear hb); (try clear hb2); (try clear hk); (try clear hi); (try clear ho0)) | ((with_reducible refine gate_callee (f := 29) rfl ?_); refine goesL_ (some 10) rfl rfl Tryd.func29 (by kernel_rfl) rfl #[.int .u64 4613937818241073152] rfl (by (try simp only [List.map_toArray, List.map_cons, List.map_nil]); first | done | rfl) ?_; (with_reducible refine (ieee_Decode.calls 4613937818241073152 t162 t163 t164 t165 _ A2.out).mono ?_); rintro e w60 ⟨rfl, hb⟩; refine ⟨_, rfl, ?_⟩; replace HO154 := Aside0.mk (Kd.R_below (rS <| HO154.out) hb); replace HO157 := Aside0.mk (Kd.R_below (rS <| HO157.out) hb); replace HO160 := vB HO160 hb; replace HB := hB HB hb; (try clear hb); (try clear hb2); (try clear hk); (try clear hi)) | ((with_reducible refine gate_dst (N := 3) rfl ?_); (try (refine gate_guard (by rfl) ?_; dsimp only)); refine box_event ?hg (N := 3) ?hd (cs := #[.bool false, .int .i64 0, .int .u64 0, .int .i64 0]) (t := 39) ?hr ?_; (case hd => rfl); (case hg => rfl); (case hr => first | (go_simp; done) | (go_simp; rfl)); intro gb166 hg w61 hbox hb; replace HO154 := Aside0.mk (Kd.R_below (rS <| HO154.out) hb); replace HO157 := Aside0.mk (Kd.R_below (rS <| HO157.out) hb); replace HO160 := Aside0.mk (Kd.V_below (Kd.V_elderB (vS <| HO160.out) gb166 (Nat.le_of_eq hg.symm)) hb); have BK166 := Aside0.mk (hbox); have GW166 := Aside0.mk ((by rw [hg]; exact (below_size (bS HB.out)) : w.heap.size ≤ gb166)); have GE166 := Aside0.mk ((by rw [hg]; exact (below_size (bS HB.out)) : w.heap.size ≤ gb166)); replace HB := hB HB hb; clear hb hbox hg; have hcz62_0 : w61.cell? ⟨gb166, 0, none⟩ = some (.bool false) := (blk_cell BK166.out 0).trans rfl; have hcz62_1 : w61.cell? ⟨gb166, 1, none⟩ = some (.int .i64 0) := (blk_cell BK166.out 1).trans rfl; have hcz62_2 : w61.cell? ⟨gb166, 2, none⟩ = some (.int .u64 0) := (blk_cell BK166.out 2).trans rfl; have hcz62_3 : w61.cell? ⟨gb166, 3, none⟩ = some (.int .i64 0) := (blk_cell BK166.out 3).trans rfl; have hfz62_0 := blk_frozen BK166.out 0; have hfz62_1 := blk_frozen BK166.out 1; have hfz62_2 := blk_frozen BK166.out 2; have hfz62_3 := blk_frozen BK166.out 3) | ((with_reducible refine gate_dst (N := 15) rfl ?_); (try (refine gate_guard (by rfl) ?_; dsimp only)); refine Kd.R_lit (Kd.int .u64) _ 22 ?hg (N := 15) ?hd (xs := ([15] : List Int)) (inner := [.int .u64 15]) (ok := fun _ => True) (okp := fun _ => True) ?hr ?hp (fun _ hk => hk) trivial (Below.refl _ _) (Nat.le_refl _) (by simp) ?_; (case hd => rfl); (case hg => rfl); (case hr => first | (go_simp; done) | (go_simp; rfl)); (case hp => exact (Reps.one (show Kd.M (Kd.int .u64) _ _ _ 15 [.int .u64 15] from rfl) (Reps.none _ _))); intro v168 w63 ho64 hb hg_ hnew_; clear hg_ hnew_; (first | rw [← Ny167.out] at ho64 | (simp only [Int.reduceToNat] at ho64; rw [← Ny167.out] at ho64)); replace HO160 := Aside0.mk (Kd.V_elder' (vS <| (Kd.V_mono (Kd.V_far (p := ⟨gb166, 3, none⟩) (Kd.V_far (p := ⟨gb166, 2, none⟩) (Kd.V_far (p := ⟨gb166, 1, none⟩) (Kd.V_far (p := ⟨gb166, 0, none⟩) (Kd.V_mono HO160.out (fun k_ hk => (⟨hk, hk.2⟩ : _ ∧ k_ ≠ gb166))) (fun _ hk => hk.2) (.bool t162)) (fun _ hk => hk.2) (.int .i64 t163)) (fun _ hk => hk.2) (.int .u64 t164)) (fun _ hk => hk.2) (.int .i64 t165)) (fun _ h_ => h_.1))) (Kd.R_base ho64) hb); have HO169 := Aside0.mk (Kd.R_lower (Kd.R_new' (Kd.R_new' ho64 (Kd.R_lt (rS <| (Kd.R_mono (Kd.R_far (p := ⟨gb166, 3, none⟩) (Kd.R_far (p := ⟨gb166, 2, none⟩) (Kd.R_far (p := ⟨gb166, 1, none⟩) (Kd.R_far (p := ⟨gb166, 0, none⟩) (Kd.R_types HO154.out BK166.out (by decide)) (fun _ hk => hk.2) (.bool t162)) (fun _ hk => hk.2) (.int .i64 t163)) (fun _ hk => hk.2) (.int .u64 t164)) (fun _ hk => hk.2) (.int .i64 t165)) (fun _ h_ => h_.1))))) (Kd.R_lt (rS <| (Kd.R_mono (Kd.R_far (p := ⟨gb166, 3, none⟩) (Kd.R_far (p := ⟨gb166, 2, none⟩) (Kd.R_far (p := ⟨gb166, 1, none⟩) (Kd.R_far (p := ⟨gb166, 0, none⟩) (Kd.R_types HO157.out BK166.out (by decide)) (fun _ hk => hk.2) (.bool t162)) (fun _ hk => hk.2) (.int .i64 t163)) (fun _ hk => hk.2) (.int .u64 t164)) (fun _ hk => hk.2) (.int .i64 t165)) (fun _ h_ => h_.1))))) (below_size (bG1 HB.out GE166.out))); replace HO154 := Aside0.mk (Kd.R_elder' (rS <| (Kd.R_mono (Kd.R_far (p := ⟨gb166, 3, none⟩) (Kd.R_far (p := ⟨gb166, 2, none⟩) (Kd.R_far (p := ⟨gb166, 1, none⟩) (Kd.R_far (p := ⟨gb166, 0, none⟩) (Kd.R_types HO154.out BK166.out (by decide)) (fun _ hk => hk.2) (.bool t162)) (fun _ hk => hk.2) (.int .i64 t163)) (fun _ hk => hk.2) (.int .u64 t164)) (fun _ hk => hk.2) (.int .i64 t165)) (fun _ h_ => h_.1))) (Kd.R_base ho64) hb); replace HO157 := Aside0.mk (Kd.R_elder' (rS <| (Kd.R_mono (Kd.R_far (p := ⟨gb166, 3, none⟩) (Kd.R_far (p := ⟨gb166, 2, none⟩) (Kd.R_far (p := ⟨gb166, 1, none⟩) (Kd.R_far (p := ⟨gb166, 0, none⟩) (Kd.R_types HO157.out BK166.out (by decide)) (fun _ hk => hk.2) (.bool t162)) (fun _ hk => hk.2) (.int .i64 t163)) (fun _ hk => hk.2) (.int .u64 t164)) (fun _ hk => hk.2) (.int .i64 t165)) (fun _ h_ => h_.1))) (Kd.R_base ho64) hb); replace BK166 := Aside0.mk (blk_below (g := gb166) (o := .cells #[.bool t162, .int .i64 t163, .int .u64 t164, .int .i64 t165] 39 (0, 0)) (by refine blkP (cs := #[.bool t162, .int .i64 t163, .int .u64 t164, .int .i64 0]) ?_ 3 _ rfl; refine blkP (cs := #[.bool t162, .int .i64 t163, .int .u64 0, .int .i64 0]) ?_ 2 _ rfl; refine blkP (cs := #[.bool t162, .int .i64 0, .int .u64 0, .int .i64 0]) ?_ 1 _ rfl; refine blkP (cs := #[.bool false, .int .i64 0, .int .u64 0, .int .i64 0]) ?_ 0 _ rfl; exact bkS BK166.out) hb); replace HB := Aside0.mk (below_step (bG1 HB.out GE166.out) hb); clear hb ho64; obtain ⟨Ao65, co65, eo65⟩ := Kd.V_slice HO160.out; subst eo65; obtain ⟨Ao66, co66, eo66⟩ := Kd.R_slice HO169.out; subst eo66) | (go_at_call 18; (with_reducible refine (nat_Cmp.calls k _ _ t158 _ _ y167 t170 _ ?side1 ?side2 ?side3 ?side4 A4.out).mono ?_); (case side1 => exact cS (Kd.V_reads' HO160.out).2.2); (case side2 => exact (Kd.V_reads' HO160.out).2.1); (case side3 => exact cS (Kd.R_reads' HO169.out).2.2); (case side4 => exact (Kd.R_reads' HO169.out).2.1); rintro e w' ⟨rfl, ⟨nd, rfl⟩⟩))
   go_ret
   exact ⟨by first | rfl | (simp [errW_none, errW_some] <;> rfl) | (simp [*, errW_none, errW_some] <;> rfl), bG1 HB.out GE166.out⟩
 ·rw [if_neg c3] at H
  have c3b0 : (t161 == 0) = false := beq_eq_false_iff_ne.mpr c3
  have c3b1 : (t161 != 0) = true := bne_iff_ne.mpr c3
  obtain rfl := Option.some.inj H
  go_enter Tryd.func14, Tryd.ntmps14
  go_wp2_with (first | ((with_reducible refine gate_dst (N := 5) rfl ?_); (try (refine gate_guard (by rfl) ?_; dsimp only)); refine Kd.R_lit (Kd.int .u64) _ 22 ?hg (N := 5) ?hd (xs := ([3] : List Int)) (inner := [.int .u64 3]) (ok := fun _ => True) (okp := fun _ => True) ?hr ?hp (fun _ hk => hk) trivial (Below.refl _ _) (Nat.le_refl _) (by simp) ?_; (case hd => rfl); (case hg => rfl); (case hr => first | (go_simp; done) | (go_simp; rfl)); (case hp => exact (Reps.one (show Kd.M (Kd.int .u64) _ _ _ 3 [.int .u64 3] from rfl) (Reps.none _ _))); intro v153 w67 ho68 hb hg_ hnew_; clear hg_ hnew_; (first | rw [← Ny152.out] at ho68 | (simp only [Int.reduceToNat] at ho68; rw [← Ny152.out] at ho68)); have HO154 := Aside0.mk (Kd.R_lower ho68 (below_size (bS HB.out))); replace HB := hB HB hb; clear hb ho68) | ((with_reducible refine gate_dst (N := 6) rfl ?_); (try (refine gate_guard (by rfl) ?_; dsimp only)); refine Kd.R_lit (Kd.int .u64) _ 22 ?hg (N := 6) ?hd (xs := ([5] : List Int)) (inner := [.int .u64 5]) (ok := fun _ => True) (okp := fun _ => True) ?hr ?hp (fun _ hk => hk) trivial (Below.refl _ _) (Nat.le_refl _) (by simp) ?_; (case hd => rfl); (case hg => rfl); (case hr => first | (go_simp; done) | (go_simp; rfl)); (case hp => exact (Reps.one (show Kd.M (Kd.int .u64) _ _ _ 5 [.int .u64 5] from rfl) (Reps.none _ _))); intro v156 w69 ho70 hb hg_ hnew_; clear hg_ hnew_; (first | rw [← Ny155.out] at ho70 | (simp only [Int.reduceToNat] at ho70; rw [← Ny155.out] at ho70)); have HO157 := Aside0.mk (Kd.R_lower (Kd.R_new' ho70 (Kd.R_lt (rS <| HO154.out))) (below_size (bS HB.out))); replace HO154 := Aside0.mk (Kd.R_elder' (rS <| HO154.out) (Kd.R_base ho70) hb); replace HB := hB HB hb; clear hb ho70; obtain ⟨Ao71, co71, eo71⟩ := Kd.R_slice HO154.out; subst eo71; obtain ⟨Ao72, co72, eo72⟩ := Kd.R_slice HO157.out; subst eo72) | ((with_reducible refine gate_callee (f := 49) rfl ?_); refine goesL_ (some 7) rfl rfl Tryd.func49 (by kernel_rfl) rfl #[.slice Ao71 y152.length co71, .slice Ao72 y155.length co72] rfl (by (try simp only [List.map_toArray, List.map_cons, List.map_nil]); first | done | rfl) ?_; (with_reducible refine (nat_Mul.calls k _ _ y152 _ _ y155 t158 t161 _ ?side1 ?side2 ?side3 ?side4 A1.out).mono ?_); (case side1 => exact cS (Kd.R_reads' HO154.out).2.2); (case side2 => exact (Kd.R_reads' HO154.out).2.1); (case side3 => exact cS (Kd.R_reads' HO157.out).2.2); (case side4 => exact (Kd.R_reads' HO157.out).2.1); rintro e w73 ⟨v159, rfl, ho0, hb⟩; refine ⟨_, rfl, ?_⟩; have HO160 := Aside0.mk (Kd.V_lower (Kd.V_mono (ok' := fun k_ => some k_ ≠ (.slice Ao71 y152.length co71 : Value).ownBlock ∧ some k_ ≠ (.slice Ao72 y155.length co72 : Value).ownBlock) ho0 (fun k_ hk_ => ⟨(Kd.fresh' (Kd.R_lt (rS <| HO154.out)) k_ hk_), (Kd.fresh' (Kd.R_lt (rS <| HO157.out)) k_ hk_)⟩)) (below_size (bS HB.out))); replace HO154 := Aside0.mk (Kd.R_below (rS <| HO154.out) hb); replace HO157 := Aside0.mk (Kd.R_below (rS <| HO157.out) hb); replace HB := hB HB hb; (try clear hb); (try clear hb2); (try clear hk); (try clear hi); (try clear ho0)) | ((with_reducible refine gate_callee (f := 29) rfl ?_); refine goesL_ (some 10) rfl rfl Tryd.func29 (by kernel_rfl) rfl #[.int .u64 4613937818241073152] rfl (by (try simp only [List.map_toArray, List.map_cons, List.map_nil]); first | done | rfl) ?_; (with_reducible refine (ieee_Decode.calls 4613937818241073152 t162 t163 t164 t165 _ A2.out).mono ?_); rintro e w74 ⟨rfl, hb⟩; refine ⟨_, rfl, ?_⟩; replace HO154 := Aside0.mk (Kd.R_below (rS <| HO154.out) hb); replace HO157 := Aside0.mk (Kd.R_below (rS <| HO157.out) hb); replace HO160 := vB HO160 hb; replace HB := hB HB hb; (try clear hb); (try clear hb2); (try clear hk); (try clear hi)) | ((with_reducible refine gate_dst (N := 3) rfl ?_); (try (refine gate_guard (by rfl) ?_; dsimp only)); refine box_event ?hg (N := 3) ?hd (cs := #[.bool false, .int .i64 0, .int .u64 0, .int .i64 0]) (t := 39) ?hr ?_; (case hd => rfl); (case hg => rfl); (case hr => first | (go_simp; done) | (go_simp; rfl)); intro gb166 hg w75 hbox hb; replace HO154 := Aside0.mk (Kd.R_below (rS <| HO154.out) hb); replace HO157 := Aside0.mk (Kd.R_below (rS <| HO157.out) hb); replace HO160 := Aside0.mk (Kd.V_below (Kd.V_elderB (vS <| HO160.out) gb166 (Nat.le_of_eq hg.symm)) hb); have BK166 := Aside0.mk (hbox); have GW166 := Aside0.mk ((by rw [hg]; exact (below_size (bS HB.out)) : w.heap.size ≤ gb166)); have GE166 := Aside0.mk ((by rw [hg]; exact (below_size (bS HB.out)) : w.heap.size ≤ gb166)); replace HB := hB HB hb; clear hb hbox hg; have hcz76_0 : w75.cell? ⟨gb166, 0, none⟩ = some (.bool false) := (blk_cell BK166.out 0).trans rfl; have hcz76_1 : w75.cell? ⟨gb166, 1, none⟩ = some (.int .i64 0) := (blk_cell BK166.out 1).trans rfl; have hcz76_2 : w75.cell? ⟨gb166, 2, none⟩ = some (.int .u64 0) := (blk_cell BK166.out 2).trans rfl; have hcz76_3 : w75.cell? ⟨gb166, 3, none⟩ = some (.int .i64 0) := (blk_cell BK166.out 3).trans rfl; have hfz76_0 := blk_frozen BK166.out 0; have hfz76_1 := blk_frozen BK166.out 1; have hfz76_2 := blk_frozen BK166.out 2; have hfz76_3 := blk_frozen BK166.out 3))
  go_ret
  exact ⟨by first | rfl | (simp [errW_none, errW_some] <;> rfl) | (simp [*, errW_none, errW_some] <;> rfl), bG1 HB.out GE166.out⟩

/-! ### abacuslaw05_finite: function 16 -/
def abacuslaw05_finite.f (a0 : Int) : Option (Bool) := some (decide ((Go.bits .andNot .u64 a0 9223372036854775808) < 9218868437227405312))
set_option maxHeartbeats 8000000 in
set_option maxRecDepth 100000 in
theorem abacuslaw05_finite.calls (a0 : Int) (r : Bool) (w : World) (h : abacuslaw05_finite.f a0 = some r) :
  Calls Tryd.prog 16 #[.int .u64 a0] w fun e w' => e = .returned (.bool r) ∧ Drawn0 w w' := by
 have H : (some (decide ((Go.bits .andNot .u64 a0 9223372036854775808) < 9218868437227405312))) = some r := h
 clear h
 obtain rfl := Option.some.inj H
 go_enter Tryd.func16, Tryd.ntmps16
 go_wp2
 go_ret
 exact ⟨by first | rfl | (simp; done) | (simp [*]; done), by repeat (first | exact Drawn0.refl _ | apply Drawn0.step)⟩

/-! ### nat_FromUint: function 50 -/
def nat_FromUint.f (a0 : Int) : Option (List Int) := if a0 = 0 then (some ([] : List Int)) else (some (([a0] : List Int)))
set_option maxHeartbeats 8000000 in
set_option maxRecDepth 100000 in
theorem nat_FromUint.calls (a0 : Int) (r : List Int) (w : World) (h : nat_FromUint.f a0 = some r) :
  Calls Tryd.prog 50 #[.int .u64 a0] w fun e w' => ∃ v0_ : Value, e = .returned (v0_) ∧ Kd.R (Kd.int .u64) 22 w' w.heap.size (fun _ => True) v0_ r ∧ Below w.heap.size w w' := by
 have HB := Aside0.mk (Below.refl w.heap.size w)
 have H : (if a0 = 0 then (some ([] : List Int)) else (some (([a0] : List Int)))) = some r := h
 clear h
 by_cases c2 : a0 = 0
 ·rw [if_pos c2] at H
  have c2b0 : (a0 == 0) = true := beq_iff_eq.mpr c2
  have c2b1 : (a0 != 0) = false := bne_eq_false_iff_eq.mpr c2
  clear c2
  obtain rfl := Option.some.inj H
  go_enter Tryd.func50, Tryd.ntmps50
  go_wp2
  go_ret
  exact ⟨.slice none 0 0, by first | rfl | (simp [errW_none, errW_some] <;> rfl) | (simp [*, errW_none, errW_some] <;> rfl), by first | exact Kd.R_nil _ _ _ _ _ | exact Kd.N_nil _ _ _ _ _ | exact Kd.V_nil _ _ _ _ _ | exact Kd.Q_nil _ _ _ _ _ | exact Kd.S_nil _ _ _ _ _, bS HB.out⟩
 ·rw [if_neg c2] at H
  have c2b0 : (a0 == 0) = false := beq_eq_false_iff_ne.mpr c2
  have c2b1 : (a0 != 0) = true := bne_iff_ne.mpr c2
  obtain ⟨y172, hy172⟩ : ∃ y_ : List Int, y_ = (([a0] : List Int)) := ⟨_, rfl⟩
  replace H : (some y172) = some r := by first | (rw [hy172]; with_reducible exact H) | (have H2_ := (Option.bind_some _ _).symm.trans H; rw [hy172]; with_reducible exact H2_) | (have H2_ := (Option.bind_some _ _).symm.trans H; with_reducible exact H2_) | with_reducible exact H | (rw [hy172]; exact H) | exact H
  have Ny172 := Aside0.mk hy172
  clear hy172
  obtain rfl := Option.some.inj H
  go_enter Tryd.func50, Tryd.ntmps50
  go_wp2_with (first | ((with_reducible refine gate_dst (N := 6) rfl ?_); refine Kd.R_lit (Kd.int .u64) _ 22 ?hg (N := 6) ?hd (xs := ([a0] : List Int)) (inner := [.int .u64 a0]) (ok := fun _ => True) (okp := fun _ => True) ?hr ?hp (fun _ hk => hk) trivial (Below.refl _ _) (Nat.le_refl _) (by simp) ?_; (case hd => rfl); (case hg => rfl); (case hr => first | (go_simp; done) | (go_simp; rfl)); (case hp => exact (Reps.one (show Kd.M (Kd.int .u64) _ _ _ a0 [.int .u64 a0] from rfl) (Reps.none _ _))); intro v173 w3 ho4 hb hg_ hnew_; clear hg_ hnew_; (first | rw [← Ny172.out] at ho4 | (simp only [Int.reduceToNat] at ho4; rw [← Ny172.out] at ho4)); have HO174 := Aside0.mk (Kd.R_lower ho4 (below_size (bS HB.out))); replace HB := hB HB hb; clear hb ho4))
  go_ret
  exact ⟨_, by first | rfl | (simp [errW_none, errW_some] <;> rfl) | (simp [*, errW_none, errW_some] <;> rfl), rS <| HO174.out, bS HB.out⟩

end Go.Proofs.YtcdnoklokoplaaaDoor.PE
