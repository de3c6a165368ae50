-- printed by a program
import Derived.Test.YtcdnoklokoplaaaDoorPEx0
import Derived.Test.YtcdnoklokoplaaaDoorPEx1
import Derived.Test.YtcdnoklokoplaaaDoorPEx2
import Derived.Test.YtcdnoklokoplaaaDoorPEx5
namespace Go.Proofs.YtcdnoklokoplaaaDoor.PE
open Go.Proofs.YtcdnoklokoplaaaDoorX
open Go.RowKit Go.Proofs.YtcdnoklokoplaaaDoorW.PrintWords Go.Proofs.YtcdnoklokoplaaaDoorW.PrintLast Go.Proofs.YtcdnoklokoplaaaDoorW.PrintMore
attribute [local go_sem] max2_int min2_int max_two min_two max_three min_three max_four min_four   -- for this text's walks alone
set_option linter.unusedVariables false
set_option linter.unusedSimpArgs false

/-! ### nat_Shr: function 122 -/
mutual
def nat_Shr.j0 : Nat → List Int → Int → Bool → Option (List Int × Bool × Int)
 | 0, _, _, _ => none
 | k + 1, x0, x1, x7 => (nat_size.f k x0).bind fun t314 => (if 0 ≤ t314 then (if t314 ≤ (x0.length : Int) then ((some (x0.take (t314 : Int).toNat : List Int)).bind fun y315 => (if x1 ≥ (wrap64 (64 * (y315.length : Int))) then (some (([] : List Int), x7, 0)) else (if 0 ≤ (wrap64 ((y315.length : Int) - (wrap64 (Int.tdiv x1 64)))) then (if (wrap64 ((y315.length : Int) - (wrap64 (Int.tdiv x1 64))) : Int).toNat ≤ 35184372088832 then ((some (List.replicate (wrap64 ((y315.length : Int) - (wrap64 (Int.tdiv x1 64))) : Int).toNat 0 : List Int)).bind fun y319 => (nat_Shr.l0 k y315 x7 (wrap64 (Int.tdiv x1 64)) (IntKind.u64.wrap (Int.tmod x1 64)) y319 (y319.length : Int) 0)) else (none)) else (none)))) else (none)) else (none))
def nat_Shr.l0 : Nat → List Int → Bool → Int → Int → List Int → Int → Int → Option (List Int × Bool × Int)
 | 0, _, _, _, _, _, _, _ => none
 | k + 1, x0, x7, x8, x9, x10, x49, x50 => if x50 < x49 then (if 0 ≤ (wrap64 (x8 + x50)) then (if (wrap64 (x8 + x50)) < (x0.length : Int) then (if 0 ≤ x9 then (if (wrap64 ((wrap64 (x8 + x50)) + 1)) < (x0.length : Int) then (if x9 > 0 then (if 0 ≤ (wrap64 ((wrap64 (x8 + x50)) + 1)) then (if 0 ≤ (IntKind.u64.wrap (64 - x9)) then (if 0 ≤ x50 then (if x50 < (x10.length : Int) then (nat_Shr.l0 k x0 x7 x8 x9 (x10.set (x50 : Int).toNat (Go.bits .or .u64 (shr .u64 (rd x0 (wrap64 (x8 + x50))) x9) (shl .u64 (rd x0 (wrap64 ((wrap64 (x8 + x50)) + 1))) (IntKind.u64.wrap (64 - x9))))) x49 (wrap64 (x50 + 1))) else (none)) else (none)) else (none)) else (none)) else (if 0 ≤ x50 then (if x50 < (x10.length : Int) then (nat_Shr.l0 k x0 x7 x8 x9 (x10.set (x50 : Int).toNat (shr .u64 (rd x0 (wrap64 (x8 + x50))) x9)) x49 (wrap64 (x50 + 1))) else (none)) else (none))) else (if 0 ≤ x50 then (if x50 < (x10.length : Int) then (nat_Shr.l0 k x0 x7 x8 x9 (x10.set (x50 : Int).toNat (shr .u64 (rd x0 (wrap64 (x8 + x50))) x9)) x49 (wrap64 (x50 + 1))) else (none)) else (none))) else (none)) else (none)) else (none)) else ((nat_cut.f k x10).bind fun bt327 => (some (bt327.1, x7, bt327.2)))
end
def nat_Shr.f (k : Nat) (l0 : List Int) (a1 : Int) : Option (List Int × Bool × Int) := (nat_big.f k l0).bind fun t311 => (if t311 = true then (some (([] : List Int), false, 2)) else (if a1 < 0 then (some (([] : List Int), false, 1)) else ((nat_size.f k l0).bind fun t312 => (if t312 > 0 then ((nat_Trail.f k l0).bind fun t313 => (nat_Shr.j0 k l0 a1 (decide (t313 < a1)))) else (nat_Shr.j0 k l0 a1 false)))))
theorem nat_Shr.mono_l : ∀ k, (∀ y0 y1 y2, LeO (nat_Shr.j0 k y0 y1 y2) (nat_Shr.j0 (k + 1) y0 y1 y2)) ∧ (∀ y0 y1 y2 y3 y4 y5 y6, LeO (nat_Shr.l0 k y0 y1 y2 y3 y4 y5 y6) (nat_Shr.l0 (k + 1) y0 y1 y2 y3 y4 y5 y6))
 | 0 => ⟨fun _ _ _ r h => by simp [nat_Shr.j0] at h, fun _ _ _ _ _ _ _ r h => by simp [nat_Shr.l0] at h⟩
 | k + 1 => by
  obtain ⟨ih0, ih1⟩ := nat_Shr.mono_l k
  refine ⟨?_, ?_⟩
  ·intro y0 y1 y2
   unfold nat_Shr.j0
   repeat' first
   | (with_reducible exact ih0 _ _ _)
   | (with_reducible exact ih1 _ _ _ _ _ _ _)
   | (with_reducible exact nat_Trail.mono _ _)
   | (with_reducible exact nat_big.mono _ _)
   | (with_reducible exact nat_cut.mono _ _)
   | (with_reducible exact nat_size.mono _ _)
   | (with_reducible exact LeO.refl _)
   | (with_reducible exact LeO.none _)
   | (with_reducible refine LeO.ite ?_ ?_)
   | (with_reducible refine LeO.bind ?_ (fun _ => ?_))
   | exact ih0 _ _ _
   | exact ih1 _ _ _ _ _ _ _
   | exact nat_Trail.mono _ _
   | exact nat_big.mono _ _
   | exact nat_cut.mono _ _
   | exact nat_size.mono _ _
   | exact LeO.none _
   | refine LeO.ite ?_ ?_
   | refine LeO.bind ?_ (fun _ => ?_)
  ·intro y0 y1 y2 y3 y4 y5 y6
   unfold nat_Shr.l0
   repeat' first
   | (with_reducible exact ih0 _ _ _)
   | (with_reducible exact ih1 _ _ _ _ _ _ _)
   | (with_reducible exact nat_Trail.mono _ _)
   | (with_reducible exact nat_big.mono _ _)
   | (with_reducible exact nat_cut.mono _ _)
   | (with_reducible exact nat_size.mono _ _)
   | (with_reducible exact LeO.refl _)
   | (with_reducible exact LeO.none _)
   | (with_reducible refine LeO.ite ?_ ?_)
   | (with_reducible refine LeO.bind ?_ (fun _ => ?_))
   | exact ih0 _ _ _
   | exact ih1 _ _ _ _ _ _ _
   | exact nat_Trail.mono _ _
   | exact nat_big.mono _ _
   | exact nat_cut.mono _ _
   | exact nat_size.mono _ _
   | exact LeO.none _
   | refine LeO.ite ?_ ?_
   | refine LeO.bind ?_ (fun _ => ?_)
theorem nat_Shr.mono : ∀ a0 a1 k, LeO (nat_Shr.f k a0 a1) (nat_Shr.f (k + 1) a0 a1) := by
 intro a0 a1 k
 obtain ⟨ih0, ih1⟩ := nat_Shr.mono_l k
 unfold nat_Shr.f
 repeat' first
   | (with_reducible exact ih0 _ _ _)
   | (with_reducible exact ih1 _ _ _ _ _ _ _)
   | (with_reducible exact nat_Trail.mono _ _)
   | (with_reducible exact nat_big.mono _ _)
   | (with_reducible exact nat_cut.mono _ _)
   | (with_reducible exact nat_size.mono _ _)
   | (with_reducible exact LeO.refl _)
   | (with_reducible exact LeO.none _)
   | (with_reducible refine LeO.ite ?_ ?_)
   | (with_reducible refine LeO.bind ?_ (fun _ => ?_))
   | exact ih0 _ _ _
   | exact ih1 _ _ _ _ _ _ _
   | exact nat_Trail.mono _ _
   | exact nat_big.mono _ _
   | exact nat_cut.mono _ _
   | exact nat_size.mono _ _
   | exact LeO.none _
   | refine LeO.ite ?_ ?_
   | refine LeO.bind ?_ (fun _ => ?_)
set_option maxHeartbeats 8000000 in
set_option maxRecDepth 100000 in
theorem nat_Shr.calls (k : Nat) (A0 : Option Addr) (c0 : Nat) (l0 : List Int) (a1 : Int) (r1 : List Int) (r2 : Bool) (r3 : Int) (w : World) (hT : Kd.C (Kd.int .u8) w (some ⟨0, 0, none⟩) 64 tabL) (hr0 : Kd.C (Kd.int .u64) w A0 l0.length l0) (hc0 : l0.length ≤ c0) (h : nat_Shr.f k l0 a1 = some (r1, r2, r3)) :
  Calls Tryd.prog 122 #[.slice A0 l0.length c0, .int .i64 a1] w fun e w' => ∃ v0_ : Value, e = .returned (.tuple #[v0_, .bool r2, .int .i64 r3]) ∧ Kd.V (Kd.int .u64) 22 w' w.heap.size (fun k_ => (w.heap.size ≤ k_)) v0_ r1 ∧ Below w.heap.size w w' := by
 have HT := Aside0.mk hT
 clear hT
 have HR0 := Aside0.mk hr0
 have HC0 := Aside0.mk hc0
 clear hr0 hc0
 have HB := Aside0.mk (Below.refl w.heap.size w)
 have H : ((nat_big.f k l0).bind fun t311 => (if t311 = true then (some (([] : List Int), false, 2)) else (if a1 < 0 then (some (([] : List Int), false, 1)) else ((nat_size.f k l0).bind fun t312 => (if t312 > 0 then ((nat_Trail.f k l0).bind fun t313 => (nat_Shr.j0 k l0 a1 (decide (t313 < a1)))) else (nat_Shr.j0 k l0 a1 false)))))) = some (r1, r2, r3) := h
 clear h
 obtain ⟨t311, A30, H⟩ := Option.bind_eq_some_iff.mp H
 have A3 := Aside0.mk A30
 clear A30
 by_cases c4 : t311 = true
 ·subst c4
  have H1 : (some (([] : List Int), false, 2)) = some (r1, r2, r3) := by rw [if_pos rfl] at H; exact H
  clear H
  have H := H1
  clear H1
  simp only [Option.some.injEq, Prod.mk.injEq] at H
  obtain ⟨rfl, rfl, rfl⟩ := H
  go_enter Tryd.func122, Tryd.ntmps122
  go_wp2_with (first | ((with_reducible refine gate_callee (f := 81) rfl ?_); refine goesL_ (some 16) rfl rfl Tryd.func81 (by kernel_rfl) rfl #[.slice A0 l0.length c0] rfl (by (try simp only [List.map_toArray, List.map_cons, List.map_nil]); first | done | rfl) ?_; (with_reducible refine (nat_big.calls k _ _ l0 true _ ?side1 ?side2 A3.out).mono ?_); (case side1 => exact cS HR0.out); (case side2 => exact HC0.out); rintro e w' ⟨rfl, ⟨nd, rfl⟩⟩; refine ⟨_, rfl, ?_⟩))
  go_ret3
  exact ⟨.slice none 0 0, by first | rfl | (simp [errW_none, errW_some] <;> rfl) | (simp [*, errW_none, errW_some] <;> rfl), Kd.V_nil _ _ _ _ _, bS HB.out⟩
 ·replace c4 := Bool.eq_false_iff.mpr c4
  subst c4
  have H1 : (if a1 < 0 then (some (([] : List Int), false, 1)) else ((nat_size.f k l0).bind fun t312 => (if t312 > 0 then ((nat_Trail.f k l0).bind fun t313 => (nat_Shr.j0 k l0 a1 (decide (t313 < a1)))) else (nat_Shr.j0 k l0 a1 false)))) = some (r1, r2, r3) := by rw [if_neg (show ¬ (false = true) by decide)] at H; exact H
  clear H
  have H := H1
  clear H1
  by_cases c5 : a1 < 0
  ·rw [if_pos c5] at H
   have c5b0 : decide (a1 < 0) = true := decide_eq_true c5
   clear c5
   simp only [Option.some.injEq, Prod.mk.injEq] at H
   obtain ⟨rfl, rfl, rfl⟩ := H
   go_enter Tryd.func122, Tryd.ntmps122
   go_wp2_with (first | ((with_reducible refine gate_callee (f := 81) rfl ?_); refine goesL_ (some 16) rfl rfl Tryd.func81 (by kernel_rfl) rfl #[.slice A0 l0.length c0] rfl (by (try simp only [List.map_toArray, List.map_cons, List.map_nil]); first | done | rfl) ?_; (with_reducible refine (nat_big.calls k _ _ l0 false _ ?side1 ?side2 A3.out).mono ?_); (case side1 => exact cS HR0.out); (case side2 => exact HC0.out); rintro e w' ⟨rfl, ⟨nd, rfl⟩⟩; refine ⟨_, rfl, ?_⟩))
   go_ret3
   exact ⟨.slice none 0 0, by first | rfl | (simp [errW_none, errW_some] <;> rfl) | (simp [*, errW_none, errW_some] <;> rfl), Kd.V_nil _ _ _ _ _, bS HB.out⟩
  ·rw [if_neg c5] at H
   have c5b0 : decide (a1 < 0) = false := decide_eq_false c5
   clear c5
   have HC6 := Aside0.mk H
   clear H
   go_enter Tryd.func122, Tryd.ntmps122
   go_upto_region 5 with (first | ((with_reducible refine gate_callee (f := 81) rfl ?_); refine goesL_ (some 16) rfl rfl Tryd.func81 (by kernel_rfl) rfl #[.slice A0 l0.length c0] rfl (by (try simp only [List.map_toArray, List.map_cons, List.map_nil]); first | done | rfl) ?_; (with_reducible refine (nat_big.calls k _ _ l0 false _ ?side1 ?side2 A3.out).mono ?_); (case side1 => exact cS HR0.out); (case side2 => exact HC0.out); rintro e w' ⟨rfl, ⟨nd, rfl⟩⟩; refine ⟨_, rfl, ?_⟩))
   (try simp only [Act.put, List.setIfInBounds_toArray, List.set_cons_zero, List.set_cons_succ])
   go_cut [7] (fun v7 wc => ∃ (kq : Nat) (x7_5 : Bool), v7 = .bool x7_5 ∧ Aside0 (nat_Shr.j0 kq l0 a1 x7_5 = some (r1, r2, r3)) ∧ Aside0 (kq ≤ k) ∧ Aside0 (Below w.heap.size w wc))
   case first =>
    have H := HC6.out
    clear HC6
    obtain ⟨t312, A70, H⟩ := Option.bind_eq_some_iff.mp H
    have A7 := Aside0.mk A70
    clear A70
    by_cases c8 : t312 > 0
    ·rw [if_pos c8] at H
     have c8b0 : decide (0 < t312) = true := decide_eq_true c8
     clear c8
     (first | rw [c8b0] | (simp only [i64_w, i32_w]; rw [c8b0]) | rw [c8b1] | skip)
     obtain ⟨t313, A90, H⟩ := Option.bind_eq_some_iff.mp H
     have A9 := Aside0.mk A90
     clear A90
     have H' := Aside0.mk H
     clear H
     go_wp2_with (first | ((with_reducible refine gate_callee (f := 52) rfl ?_); refine goesL_ (some 20) rfl rfl Tryd.func52 (by kernel_rfl) rfl #[.slice A0 l0.length c0] rfl (by (try simp only [List.map_toArray, List.map_cons, List.map_nil]); first | done | rfl) ?_; (with_reducible refine (nat_size.calls k _ _ l0 t312 _ ?side1 ?side2 A7.out).mono ?_); (case side1 => exact cS (Kd.C_below HR0.out HB.out)); (case side2 => exact HC0.out); rintro e w' ⟨rfl, ⟨nd, rfl⟩⟩; refine ⟨_, rfl, ?_⟩) | (go_at_call 96; (with_reducible refine (nat_Trail.calls k _ _ l0 t313 _ ?side3 ?side1 ?side2 A9.out).mono ?_); (case side1 => exact (Kd.C_below HR0.out (bS HB.out))); (case side2 => exact HC0.out); (case side3 => exact (Kd.C_below HT.out (bS HB.out))); rintro e w' ⟨rfl, ⟨nd, rfl⟩⟩))
     go_meet
     case rel => exact ⟨_, (decide (t313 < a1)), (by first | rfl | (simp; done) | (simp [*]; done)), H', ⟨by first | omega | exact Nat.le_refl _⟩, ⟨bS HB.out⟩⟩
    ·rw [if_neg c8] at H
     have c8b0 : decide (0 < t312) = false := decide_eq_false c8
     clear c8
     (first | rw [c8b0] | (simp only [i64_w, i32_w]; rw [c8b0]) | rw [c8b1] | skip)
     have H' := Aside0.mk H
     clear H
     go_wp2_with (first | ((with_reducible refine gate_callee (f := 52) rfl ?_); refine goesL_ (some 20) rfl rfl Tryd.func52 (by kernel_rfl) rfl #[.slice A0 l0.length c0] rfl (by (try simp only [List.map_toArray, List.map_cons, List.map_nil]); first | done | rfl) ?_; (with_reducible refine (nat_size.calls k _ _ l0 t312 _ ?side1 ?side2 A7.out).mono ?_); (case side1 => exact cS (Kd.C_below HR0.out HB.out)); (case side2 => exact HC0.out); rintro e w' ⟨rfl, ⟨nd, rfl⟩⟩; refine ⟨_, rfl, ?_⟩))
     go_meet
     case rel => exact ⟨_, (false), (by first | rfl | (simp; done) | (simp [*]; done)), H', ⟨by first | omega | exact Nat.le_refl _⟩, ⟨bS HB.out⟩⟩
   case rest =>
    clear HC6
    try clear c1
    try clear p2
    try clear c4
    try clear c5
    try clear c5b0
    try clear c8
    try clear c8b0
    try clear c8b1
    obtain ⟨kq, x7_5, rfl, HA, HJ5, HB⟩ := hcut
    cases kq with
    | zero => exact absurd HA.out (by simp [nat_Shr.j0])
    | succ kj5 =>
     have H := HA.out
     clear HA
     simp only [nat_Shr.j0] at H
     obtain ⟨t314, A100, H⟩ := Option.bind_eq_some_iff.mp H
     have A10 := Aside0.mk A100
     clear A100
     by_cases c11 : 0 ≤ t314
     ·rw [if_pos c11] at H
      have c11b0 := eq_true c11
      have c11b1 : decide (0 ≤ t314) = true := decide_eq_true c11
      clear c11
      by_cases c12 : t314 ≤ (l0.length : Int)
      ·rw [if_pos c12] at H
       have c12b0 := eq_true c12
       have c12b1 : decide (t314 ≤ (l0.length : Int)) = true := decide_eq_true c12
       clear c12
       obtain ⟨y315, hy315⟩ : ∃ y_ : List Int, y_ = (l0.take (t314 : Int).toNat) := ⟨_, rfl⟩
       replace H : (if a1 ≥ (wrap64 (64 * (y315.length : Int))) then (some (([] : List Int), x7_5, 0)) else (if 0 ≤ (wrap64 ((y315.length : Int) - (wrap64 (Int.tdiv a1 64)))) then (if (wrap64 ((y315.length : Int) - (wrap64 (Int.tdiv a1 64))) : Int).toNat ≤ 35184372088832 then ((some (List.replicate (wrap64 ((y315.length : Int) - (wrap64 (Int.tdiv a1 64))) : Int).toNat 0 : List Int)).bind fun y319 => (nat_Shr.l0 kj5 y315 x7_5 (wrap64 (Int.tdiv a1 64)) (IntKind.u64.wrap (Int.tmod a1 64)) y319 (y319.length : Int) 0)) else (none)) else (none))) = some (r1, r2, r3) := by first | (rw [hy315]; with_reducible exact H) | (have H2_ := (Option.bind_some _ _).symm.trans H; rw [hy315]; with_reducible exact H2_) | (have H2_ := (Option.bind_some _ _).symm.trans H; with_reducible exact H2_) | with_reducible exact H | (rw [hy315]; exact H) | exact H
       have Ny315 := Aside0.mk hy315
       clear hy315
       by_cases c13 : a1 ≥ (wrap64 (64 * (y315.length : Int)))
       ·rw [if_pos c13] at H
        have c13b0 : decide ((wrap64 (64 * (y315.length : Int))) ≤ a1) = true := decide_eq_true c13
        clear c13
        simp only [Option.some.injEq, Prod.mk.injEq] at H
        obtain ⟨rfl, rfl, rfl⟩ := H
        go_wp2_with (first | ((with_reducible refine gate_callee (f := 52) rfl ?_); refine goesL_ (some 30) rfl rfl Tryd.func52 (by kernel_rfl) rfl #[.slice A0 l0.length c0] rfl (by (try simp only [List.map_toArray, List.map_cons, List.map_nil]); first | done | rfl) ?_; (with_reducible refine (nat_size.calls kj5 _ _ l0 t314 _ ?side1 ?side2 A10.out).mono ?_); (case side1 => exact cS (Kd.C_below HR0.out HB.out)); (case side2 => exact HC0.out); rintro e w' ⟨rfl, ⟨nd, rfl⟩⟩; refine ⟨_, rfl, ?_⟩; have q14 : (t314 : Int) ≤ ((l0.length : Int) : Int) := of_decide_eq_true (by first | (with_reducible assumption) | assumption); obtain ⟨i014, hi014, _, hsz14, _⟩ := info_parts info22; have hroom14 : l0.length ≤ c0 := HC0.out; have hC14 : Kd.C (Kd.int .u64) _ A0 l0.length l0 := HR0.out; have hcut14 := cut_to (P := Tryd.prog) 25 22 .i64 Tryd.underlying25 hi014 A0 l0.length c0 t314 (of_decide_eq_true (by first | (with_reducible assumption) | assumption)) q14 hroom14; have hr14 := Kd.C_take (m := (t314 : Int).toNat) hC14 (by omega); have hy14 : y315.length = (t314 : Int).toNat := (by rw [Ny315.out, List.length_take]; omega); rw [← Ny315.out] at hr14; rw [← hy14] at hcut14; have HR318 := Aside0.mk hr14; have HC318 := Aside0.mk (show y315.length ≤ c0 from by omega); clear hr14 hC14 hroom14 hi014 hsz14; have KY14 := Aside0.mk hy14; clear hy14; replace q14 := eq_true q14))
        go_ret3
        exact ⟨.slice none 0 0, by first | rfl | (simp [errW_none, errW_some] <;> rfl) | (simp [*, errW_none, errW_some] <;> rfl), Kd.V_nil _ _ _ _ _, bS HB.out⟩
       ·rw [if_neg c13] at H
        have c13b0 : decide ((wrap64 (64 * (y315.length : Int))) ≤ a1) = false := decide_eq_false c13
        clear c13
        obtain ⟨ji15, hji15⟩ : ∃ j_ : Int, (wrap64 ((y315.length : Int) - (wrap64 (Int.tdiv a1 64)))) = j_ := ⟨_, rfl⟩
        replace H : (if 0 ≤ (ji15) then (if (ji15 : Int).toNat ≤ 35184372088832 then ((some (List.replicate (ji15 : Int).toNat 0 : List Int)).bind fun y319 => (nat_Shr.l0 kj5 y315 x7_5 (wrap64 (Int.tdiv a1 64)) (IntKind.u64.wrap (Int.tmod a1 64)) y319 (y319.length : Int) 0)) else (none)) else (none)) = some (r1, r2, r3) := by first | (rw [hji15] at H; exact H) | (simp only [hji15] at H ⊢; exact H)
        (try rw [hji15] at A10)
        have hji15w : (IntKind.i64.wrap ((y315.length : Int) - (wrap64 (Int.tdiv a1 64)))) = ji15 := (i64_w _).trans hji15
        by_cases c16 : 0 ≤ (ji15)
        ·rw [if_pos c16] at H
         have c16b0 := eq_true c16
         have c16b1 : decide (0 ≤ (ji15)) = true := decide_eq_true c16
         clear c16
         by_cases c17 : (ji15 : Int).toNat ≤ 35184372088832
         ·rw [if_pos c17] at H
          have c17b0 := eq_true c17
          have c17b1 : decide ((ji15 : Int).toNat ≤ 35184372088832) = true := decide_eq_true c17
          clear c17
          obtain ⟨y319, hy319⟩ : ∃ y_ : List Int, y_ = (List.replicate (ji15 : Int).toNat 0) := ⟨_, rfl⟩
          replace H : (nat_Shr.l0 kj5 y315 x7_5 (wrap64 (Int.tdiv a1 64)) (IntKind.u64.wrap (Int.tmod a1 64)) y319 (y319.length : Int) 0) = some (r1, r2, r3) := by first | (rw [hy319]; with_reducible exact H) | (have H2_ := (Option.bind_some _ _).symm.trans H; rw [hy319]; with_reducible exact H2_) | (have H2_ := (Option.bind_some _ _).symm.trans H; with_reducible exact H2_) | with_reducible exact H | (rw [hy319]; exact H) | exact H
          have Ny319 := Aside0.mk hy319
          clear hy319
          have H' := Aside0.mk H
          clear H
          go_wp2_with (first | ((with_reducible refine gate_callee (f := 52) rfl ?_); refine goesL_ (some 30) rfl rfl Tryd.func52 (by kernel_rfl) rfl #[.slice A0 l0.length c0] rfl (by (try simp only [List.map_toArray, List.map_cons, List.map_nil]); first | done | rfl) ?_; (with_reducible refine (nat_size.calls kj5 _ _ l0 t314 _ ?side1 ?side2 A10.out).mono ?_); (case side1 => exact cS (Kd.C_below HR0.out HB.out)); (case side2 => exact HC0.out); rintro e w' ⟨rfl, ⟨nd, rfl⟩⟩; refine ⟨_, rfl, ?_⟩; have q18 : (t314 : Int) ≤ ((l0.length : Int) : Int) := of_decide_eq_true (by first | (with_reducible assumption) | assumption); obtain ⟨i018, hi018, _, hsz18, _⟩ := info_parts info22; have hroom18 : l0.length ≤ c0 := HC0.out; have hC18 : Kd.C (Kd.int .u64) _ A0 l0.length l0 := HR0.out; have hcut18 := cut_to (P := Tryd.prog) 25 22 .i64 Tryd.underlying25 hi018 A0 l0.length c0 t314 (of_decide_eq_true (by first | (with_reducible assumption) | assumption)) q18 hroom18; have hr18 := Kd.C_take (m := (t314 : Int).toNat) hC18 (by omega); have hy18 : y315.length = (t314 : Int).toNat := (by rw [Ny315.out, List.length_take]; omega); rw [← Ny315.out] at hr18; rw [← hy18] at hcut18; have HR318 := Aside0.mk hr18; have HC318 := Aside0.mk (show y315.length ≤ c0 from by omega); clear hr18 hC18 hroom18 hi018 hsz18; have KY18 := Aside0.mk hy18; clear hy18; replace q18 := eq_true q18) | ((with_reducible refine gate_dst (N := 47) rfl ?_); refine Kd.R_make (Kd.int .u64) _ 22 rfl (N := 47) rfl 25 _ _ rfl ji15 rfl rfl Tryd.underlying25 (.int .u64 0) 8 info22 rfl (by decide) (by omega) 0 (ok := fun _ => True) (okp := fun _ => True) rfl (fun _ hk => hk) trivial (of_decide_eq_true (by first | (with_reducible assumption) | assumption)) (Nat.le_trans (Nat.mul_le_mul_right _ (of_decide_eq_true (by first | (with_reducible assumption) | assumption) : ji15.toNat ≤ 35184372088832)) (by omega)) (Below.refl _ _) (Nat.le_refl _) ?_; intro v320 w19 ho20 hb hg_ hnew_; clear hg_ hnew_; (first | rw [← Ny319.out] at ho20 | (simp only [Int.reduceToNat] at ho20; rw [← Ny319.out] at ho20)); have HO321 := Aside0.mk (Kd.R_lower (Kd.R_newM (M := fun k_ => (w.heap.size ≤ k_)) ho20 (below_size (bS HB.out)) (fun k_ h_ => h_)) (below_size (bS HB.out))); replace HB := hB HB hb; clear hb ho20; obtain ⟨Ao21, co21, eo21⟩ := Kd.R_slice HO321.out; subst eo21))
          go_loopg [50] kj5 (fun kq v50 w' => ∃ (x10_2 : List Int) (x50_2 : Int), v50 = .int .i64 x50_2 ∧ Aside0 (nat_Shr.l0 kq y315 x7_5 (wrap64 (Int.tdiv a1 64)) (IntKind.u64.wrap (Int.tmod a1 64)) x10_2 (y319.length : Int) x50_2 = some (r1, r2, r3)) ∧ Aside0 (kq ≤ kj5) ∧ Aside0 (Kd.R (Kd.int .u64) 22 w' w.heap.size (fun k_ => (w.heap.size ≤ k_)) (.slice Ao21 y319.length co21) x10_2) ∧ Aside0 (Below w.heap.size w w'))
          case atStart => exact ⟨(y319), (0), (by first | rfl | (simp; done) | (simp [*]; done)), H', ⟨Nat.le_refl _⟩, ⟨rS <| Kd.R_mono HO321.out (fun _ hk => hk.1)⟩, ⟨bS HB.out⟩⟩
          case round =>
           clear H'
           try clear c1
           try clear q1
           try clear p2
           try clear c4
           try clear c5
           try clear c5b0
           try clear p6
           try clear c8
           try clear c8b0
           try clear c8b1
           try clear c11
           try clear c11b0
           try clear c11b1
           try clear c12
           try clear c12b0
           try clear c12b1
           try clear c13
           try clear c13b0
           try clear q14
           try clear c16
           try clear c16b0
           try clear c16b1
           try clear c17
           try clear c17b0
           try clear c17b1
           try clear q18
           try clear p2
           try clear q14
           try clear q18
           obtain ⟨x10_2, x50_2, rfl, HA, HK2, HO_10, HB⟩ := hrel
           have hl10_2 := (Kd.R_reads' HO_10.out).1
           rw [hl10_2] at HO_10
           (try simp only [hl10_2])
           cases gk with
           | zero => exact absurd HA.out (by simp [nat_Shr.l0])
           | succ k2 =>
            have H := HA.out
            clear HA
            simp only [nat_Shr.l0] at H
            by_cases c22 : x50_2 < (y319.length : Int)
            ·rw [if_pos c22] at H
             have c22b0 : decide (x50_2 < (y319.length : Int)) = true := decide_eq_true c22
             (try (have c22h0 := c22b0; simp only [hl10_2] at c22h0))
             clear c22
             obtain ⟨ji23, hji23⟩ : ∃ j_ : Int, (wrap64 ((wrap64 (Int.tdiv a1 64)) + x50_2)) = j_ := ⟨_, rfl⟩
             replace H : (if 0 ≤ (ji23) then (if (ji23) < (y315.length : Int) then (if 0 ≤ (IntKind.u64.wrap (Int.tmod a1 64)) then (if (wrap64 ((ji23) + 1)) < (y315.length : Int) then (if (IntKind.u64.wrap (Int.tmod a1 64)) > 0 then (if 0 ≤ (wrap64 ((ji23) + 1)) then (if 0 ≤ (IntKind.u64.wrap (64 - (IntKind.u64.wrap (Int.tmod a1 64)))) then (if 0 ≤ x50_2 then (if x50_2 < (x10_2.length : Int) then (nat_Shr.l0 k2 y315 x7_5 (wrap64 (Int.tdiv a1 64)) (IntKind.u64.wrap (Int.tmod a1 64)) (x10_2.set (x50_2 : Int).toNat (Go.bits .or .u64 (shr .u64 (rd y315 (ji23)) (IntKind.u64.wrap (Int.tmod a1 64))) (shl .u64 (rd y315 (wrap64 ((ji23) + 1))) (IntKind.u64.wrap (64 - (IntKind.u64.wrap (Int.tmod a1 64))))))) (y319.length : Int) (wrap64 (x50_2 + 1))) else (none)) else (none)) else (none)) else (none)) else (if 0 ≤ x50_2 then (if x50_2 < (x10_2.length : Int) then (nat_Shr.l0 k2 y315 x7_5 (wrap64 (Int.tdiv a1 64)) (IntKind.u64.wrap (Int.tmod a1 64)) (x10_2.set (x50_2 : Int).toNat (shr .u64 (rd y315 (ji23)) (IntKind.u64.wrap (Int.tmod a1 64)))) (y319.length : Int) (wrap64 (x50_2 + 1))) else (none)) else (none))) else (if 0 ≤ x50_2 then (if x50_2 < (x10_2.length : Int) then (nat_Shr.l0 k2 y315 x7_5 (wrap64 (Int.tdiv a1 64)) (IntKind.u64.wrap (Int.tmod a1 64)) (x10_2.set (x50_2 : Int).toNat (shr .u64 (rd y315 (ji23)) (IntKind.u64.wrap (Int.tmod a1 64)))) (y319.length : Int) (wrap64 (x50_2 + 1))) else (none)) else (none))) else (none)) else (none)) else (none)) = some (r1, r2, r3) := by first | (rw [hji23] at H; exact H) | (simp only [hji23] at H ⊢; exact H)
             have hji23w : (IntKind.i64.wrap ((wrap64 (Int.tdiv a1 64)) + x50_2)) = ji23 := (i64_w _).trans hji23
             by_cases c24 : 0 ≤ (ji23)
             ·rw [if_pos c24] at H
              have c24b0 : decide (0 ≤ (ji23)) = true := decide_eq_true c24
              clear c24
              by_cases c25 : (ji23) < (y315.length : Int)
              ·rw [if_pos c25] at H
               have c25b0 : decide ((ji23) < (y315.length : Int)) = true := decide_eq_true c25
               (try (have c25h0 := c25b0; simp only [hl10_2] at c25h0))
               clear c25
               obtain ⟨ji26, hji26⟩ : ∃ j_ : Int, (IntKind.u64.wrap (Int.tmod a1 64)) = j_ := ⟨_, rfl⟩
               replace H : (if 0 ≤ (ji26) then (if (wrap64 ((ji23) + 1)) < (y315.length : Int) then (if (ji26) > 0 then (if 0 ≤ (wrap64 ((ji23) + 1)) then (if 0 ≤ (IntKind.u64.wrap (64 - (ji26))) then (if 0 ≤ x50_2 then (if x50_2 < (x10_2.length : Int) then (nat_Shr.l0 k2 y315 x7_5 (wrap64 (Int.tdiv a1 64)) (ji26) (x10_2.set (x50_2 : Int).toNat (Go.bits .or .u64 (shr .u64 (rd y315 (ji23)) (ji26)) (shl .u64 (rd y315 (wrap64 ((ji23) + 1))) (IntKind.u64.wrap (64 - (ji26)))))) (y319.length : Int) (wrap64 (x50_2 + 1))) else (none)) else (none)) else (none)) else (none)) else (if 0 ≤ x50_2 then (if x50_2 < (x10_2.length : Int) then (nat_Shr.l0 k2 y315 x7_5 (wrap64 (Int.tdiv a1 64)) (ji26) (x10_2.set (x50_2 : Int).toNat (shr .u64 (rd y315 (ji23)) (ji26))) (y319.length : Int) (wrap64 (x50_2 + 1))) else (none)) else (none))) else (if 0 ≤ x50_2 then (if x50_2 < (x10_2.length : Int) then (nat_Shr.l0 k2 y315 x7_5 (wrap64 (Int.tdiv a1 64)) (ji26) (x10_2.set (x50_2 : Int).toNat (shr .u64 (rd y315 (ji23)) (ji26))) (y319.length : Int) (wrap64 (x50_2 + 1))) else (none)) else (none))) else (none)) = some (r1, r2, r3) := by first | (rw [hji26] at H; exact H) | (simp only [hji26] at H ⊢; exact H)
               by_cases c27 : 0 ≤ (ji26)
               ·rw [if_pos c27] at H
                have c27b0 := eq_true c27
                have c27b1 : decide (0 ≤ (ji26)) = true := decide_eq_true c27
                clear c27
                obtain ⟨ji28, hji28⟩ : ∃ j_ : Int, (shr .u64 (rd y315 (ji23)) (ji26)) = j_ := ⟨_, rfl⟩
                replace H : (if (wrap64 ((ji23) + 1)) < (y315.length : Int) then (if (ji26) > 0 then (if 0 ≤ (wrap64 ((ji23) + 1)) then (if 0 ≤ (IntKind.u64.wrap (64 - (ji26))) then (if 0 ≤ x50_2 then (if x50_2 < (x10_2.length : Int) then (nat_Shr.l0 k2 y315 x7_5 (wrap64 (Int.tdiv a1 64)) (ji26) (x10_2.set (x50_2 : Int).toNat (Go.bits .or .u64 (ji28) (shl .u64 (rd y315 (wrap64 ((ji23) + 1))) (IntKind.u64.wrap (64 - (ji26)))))) (y319.length : Int) (wrap64 (x50_2 + 1))) else (none)) else (none)) else (none)) else (none)) else (if 0 ≤ x50_2 then (if x50_2 < (x10_2.length : Int) then (nat_Shr.l0 k2 y315 x7_5 (wrap64 (Int.tdiv a1 64)) (ji26) (x10_2.set (x50_2 : Int).toNat (ji28)) (y319.length : Int) (wrap64 (x50_2 + 1))) else (none)) else (none))) else (if 0 ≤ x50_2 then (if x50_2 < (x10_2.length : Int) then (nat_Shr.l0 k2 y315 x7_5 (wrap64 (Int.tdiv a1 64)) (ji26) (x10_2.set (x50_2 : Int).toNat (ji28)) (y319.length : Int) (wrap64 (x50_2 + 1))) else (none)) else (none))) = some (r1, r2, r3) := by first | (rw [hji28] at H; exact H) | (simp only [hji28] at H ⊢; exact H)
                have hji28_ : ((rd y315 (ji23)) / 2 ^ min (ji26).toNat 64) = ji28 := hji28
                have hji28z : (ji26) ≤ 64 → ((rd y315 (ji23)) / 2 ^ (ji26).toNat) = ji28 := shr_small hji28
                by_cases c29 : (wrap64 ((ji23) + 1)) < (y315.length : Int)
                ·rw [if_pos c29] at H
                 have c29b0 : decide ((wrap64 ((ji23) + 1)) < (y315.length : Int)) = true := decide_eq_true c29
                 (try (have c29h0 := c29b0; simp only [hl10_2] at c29h0))
                 clear c29
                 by_cases c30 : (ji26) > 0
                 ·rw [if_pos c30] at H
                  have c30b0 : decide (0 < (ji26)) = true := decide_eq_true c30
                  clear c30
                  obtain ⟨ji31, hji31⟩ : ∃ j_ : Int, (wrap64 ((ji23) + 1)) = j_ := ⟨_, rfl⟩
                  replace H : (if 0 ≤ (ji31) then (if 0 ≤ (IntKind.u64.wrap (64 - (ji26))) then (if 0 ≤ x50_2 then (if x50_2 < (x10_2.length : Int) then (nat_Shr.l0 k2 y315 x7_5 (wrap64 (Int.tdiv a1 64)) (ji26) (x10_2.set (x50_2 : Int).toNat (Go.bits .or .u64 (ji28) (shl .u64 (rd y315 (ji31)) (IntKind.u64.wrap (64 - (ji26)))))) (y319.length : Int) (wrap64 (x50_2 + 1))) else (none)) else (none)) else (none)) else (none)) = some (r1, r2, r3) := by first | (rw [hji31] at H; exact H) | (simp only [hji31] at H ⊢; exact H)
                  (try rw [hji31] at c29b0)
                  have hji31w : (IntKind.i64.wrap ((ji23) + 1)) = ji31 := (i64_w _).trans hji31
                  by_cases c32 : 0 ≤ (ji31)
                  ·rw [if_pos c32] at H
                   have c32b0 : decide (0 ≤ (ji31)) = true := decide_eq_true c32
                   clear c32
                   obtain ⟨ji33, hji33⟩ : ∃ j_ : Int, (IntKind.u64.wrap (64 - (ji26))) = j_ := ⟨_, rfl⟩
                   replace H : (if 0 ≤ (ji33) then (if 0 ≤ x50_2 then (if x50_2 < (x10_2.length : Int) then (nat_Shr.l0 k2 y315 x7_5 (wrap64 (Int.tdiv a1 64)) (ji26) (x10_2.set (x50_2 : Int).toNat (Go.bits .or .u64 (ji28) (shl .u64 (rd y315 (ji31)) (ji33)))) (y319.length : Int) (wrap64 (x50_2 + 1))) else (none)) else (none)) else (none)) = some (r1, r2, r3) := by first | (rw [hji33] at H; exact H) | (simp only [hji33] at H ⊢; exact H)
                   by_cases c34 : 0 ≤ (ji33)
                   ·rw [if_pos c34] at H
                    have c34b0 := eq_true c34
                    have c34b1 : decide (0 ≤ (ji33)) = true := decide_eq_true c34
                    clear c34
                    obtain ⟨ji35, hji35⟩ : ∃ j_ : Int, (shl .u64 (rd y315 (ji31)) (ji33)) = j_ := ⟨_, rfl⟩
                    replace H : (if 0 ≤ x50_2 then (if x50_2 < (x10_2.length : Int) then (nat_Shr.l0 k2 y315 x7_5 (wrap64 (Int.tdiv a1 64)) (ji26) (x10_2.set (x50_2 : Int).toNat (Go.bits .or .u64 (ji28) (ji35))) (y319.length : Int) (wrap64 (x50_2 + 1))) else (none)) else (none)) = some (r1, r2, r3) := by first | (rw [hji35] at H; exact H) | (simp only [hji35] at H ⊢; exact H)
                    have hji35_ : (IntKind.u64.wrap ((rd y315 (ji31)) * 2 ^ min (ji33).toNat 64)) = ji35 := hji35
                    have hji35z : (ji33) ≤ 64 → (IntKind.u64.wrap ((rd y315 (ji31)) * 2 ^ (ji33).toNat)) = ji35 := shl_small hji35
                    by_cases c36 : 0 ≤ x50_2
                    ·rw [if_pos c36] at H
                     have c36b0 : decide (0 ≤ x50_2) = true := decide_eq_true c36
                     clear c36
                     by_cases c37 : x50_2 < (x10_2.length : Int)
                     ·rw [if_pos c37] at H
                      have c37b0 : decide (x50_2 < (x10_2.length : Int)) = true := decide_eq_true c37
                      (try (have c37h0 := c37b0; simp only [hl10_2] at c37h0))
                      clear c37
                      obtain ⟨y324, hy324⟩ : ∃ y_ : List Int, y_ = (x10_2.set (x50_2 : Int).toNat (Go.bits .or .u64 (ji28) (ji35))) := ⟨_, rfl⟩
                      replace H : (nat_Shr.l0 k2 y315 x7_5 (wrap64 (Int.tdiv a1 64)) (ji26) y324 (y319.length : Int) (wrap64 (x50_2 + 1))) = some (r1, r2, r3) := by first | (rw [hy324]; with_reducible exact H) | (have H2_ := (Option.bind_some _ _).symm.trans H; rw [hy324]; with_reducible exact H2_) | (have H2_ := (Option.bind_some _ _).symm.trans H; with_reducible exact H2_) | with_reducible exact H | (rw [hy324]; exact H) | exact H
                      have Ny324 := Aside0.mk hy324
                      clear hy324
                      have H' := Aside0.mk H
                      clear H
                      have p322 : 0 ≤ ((ji23) : Int) := of_decide_eq_true (by first | (with_reducible assumption) | assumption)
                      have q322 : (ji23) < (y315.length : Int) := of_decide_eq_true (by first | (with_reducible assumption) | assumption)
                      obtain ⟨ad322, e322, hx322_0⟩ := Kd.at_int HR318.out (ji23) p322 q322
                      cases e322
                      replace hx322_0 := (HB.out.cell (World.block_lt_of_cell? w _ hx322_0)).trans hx322_0
                      replace p322 := eq_true p322
                      replace q322 := eq_true q322
                      have p323 : 0 ≤ ((ji31) : Int) := of_decide_eq_true (by first | (with_reducible assumption) | assumption)
                      have q323 : (ji31) < (y315.length : Int) := of_decide_eq_true (by first | (with_reducible assumption) | assumption)
                      obtain ⟨ad323, e323, hx323_0⟩ := Kd.at_int HR318.out (ji31) p323 q323
                      obtain rfl : ad322 = ad323 := (by injection e323)
                      replace hx323_0 := (HB.out.cell (World.block_lt_of_cell? w _ hx323_0)).trans hx323_0
                      replace p323 := eq_true p323
                      replace q323 := eq_true q323
                      have p38 : 0 ≤ (x50_2 : Int) := of_decide_eq_true (by first | (with_reducible assumption) | assumption)
                      have q38 : (x50_2 : Int) < ((x10_2.length : Int) : Int) := of_decide_eq_true (by first | (with_reducible assumption) | assumption)
                      obtain ⟨go38, co38, eo38, gb38, gl38, cl38, HG38⟩ := Kd.R_form HO_10.out (by omega)
                      (first | cases eo38 | (injection eo38 with ea_ en_ ec_; (first | subst ea_ | (injection ea_ with ea_; subst ea_)); subst ec_; clear en_))
                      have GB38 := Aside0.mk gb38
                      have GG38 := Aside0.mk HG38
                      clear gb38 gl38 HG38
                      obtain ⟨hx38_0, hf38_0⟩ := Kd.R_celln 0 HO_10.out (x50_2 : Int) p38 q38
                      replace p38 := eq_true p38
                      replace q38 := eq_true q38
                      have HP39 := Kd.R_putg HO_10.out (x50_2 : Int) (Go.bits .or .u64 (ji28) (ji35))
                      go_wp2_with (first | ((with_reducible refine gate_store (t := 22) (p := 87) rfl ?_); refine store_event (t := 22) (p := 87) (v := ?vo_w40) (w1 := (wr.setCell ⟨go38, (x50_2 : Int).toNat, none⟩ (.int .u64 (Go.bits .or .u64 (ji28) (ji35))))) ?hg ?ho ?hn ?hr ?_; (case ho => rfl); (case hg => rfl); (case hn => rfl); (case hr => first | (go_simp; done) | (go_simp; rfl)); intro w40 hw; have hg : wr.grownBy w40 (some go38) := (by rw [hw]; exact HP39.2); have hp_ : Kd.R (Kd.int .u64) 22 w40 w.heap.size (fun k_ => (w.heap.size ≤ k_)) (.slice (some ⟨go38, 0, none⟩) x10_2.length co21) y324 := (by rw [hw, Ny324.out]; exact HP39.1); clear HP39; replace HO_10 := Aside0.mk (hp_); replace HB := Aside0.mk ((by rw [hw]; exact below_set (HB.out) GB38.out : Below w.heap.size w w40)); clear hg hw hp_))
                      (try simp only [← hl10_2])
                      (try simp only [← hji26, ← hji33])
                      (try simp only [← hji26, ← hji33] at H')
                      go_roundg k2
                      case measure => have := HJ5.out; have := HK2.out; omega
                      case rel => exact ⟨(y324), (wrap64 (x50_2 + 1)), (by first | rfl | (simp; done) | (simp [*]; done)), H', ⟨by have := HJ5.out; have := HK2.out; omega⟩, ⟨by (try simp only [hl10_2]); (with_reducible repeat (first | apply Kd.R_alloc | apply Kd.R_drewN | apply Kd.R_drew)); exact HO_10.out⟩, ⟨bS HB.out⟩⟩
                     ·rw [if_neg c37] at H
                      exact absurd H (by simp)
                    ·rw [if_neg c36] at H
                     exact absurd H (by simp)
                   ·rw [if_neg c34] at H
                    exact absurd H (by simp)
                  ·rw [if_neg c32] at H
                   exact absurd H (by simp)
                 ·rw [if_neg c30] at H
                  have c30b0 : decide (0 < (ji26)) = false := decide_eq_false c30
                  clear c30
                  by_cases c41 : 0 ≤ x50_2
                  ·rw [if_pos c41] at H
                   have c41b0 : decide (0 ≤ x50_2) = true := decide_eq_true c41
                   clear c41
                   by_cases c42 : x50_2 < (x10_2.length : Int)
                   ·rw [if_pos c42] at H
                    have c42b0 : decide (x50_2 < (x10_2.length : Int)) = true := decide_eq_true c42
                    (try (have c42h0 := c42b0; simp only [hl10_2] at c42h0))
                    clear c42
                    obtain ⟨y325, hy325⟩ : ∃ y_ : List Int, y_ = (x10_2.set (x50_2 : Int).toNat (ji28)) := ⟨_, rfl⟩
                    replace H : (nat_Shr.l0 k2 y315 x7_5 (wrap64 (Int.tdiv a1 64)) (ji26) y325 (y319.length : Int) (wrap64 (x50_2 + 1))) = some (r1, r2, r3) := by first | (rw [hy325]; with_reducible exact H) | (have H2_ := (Option.bind_some _ _).symm.trans H; rw [hy325]; with_reducible exact H2_) | (have H2_ := (Option.bind_some _ _).symm.trans H; with_reducible exact H2_) | with_reducible exact H | (rw [hy325]; exact H) | exact H
                    have Ny325 := Aside0.mk hy325
                    clear hy325
                    have H' := Aside0.mk H
                    clear H
                    have p322 : 0 ≤ ((ji23) : Int) := of_decide_eq_true (by first | (with_reducible assumption) | assumption)
                    have q322 : (ji23) < (y315.length : Int) := of_decide_eq_true (by first | (with_reducible assumption) | assumption)
                    obtain ⟨ad322, e322, hx322_0⟩ := Kd.at_int HR318.out (ji23) p322 q322
                    cases e322
                    replace hx322_0 := (HB.out.cell (World.block_lt_of_cell? w _ hx322_0)).trans hx322_0
                    replace p322 := eq_true p322
                    replace q322 := eq_true q322
                    have p43 : 0 ≤ (x50_2 : Int) := of_decide_eq_true (by first | (with_reducible assumption) | assumption)
                    have q43 : (x50_2 : Int) < ((x10_2.length : Int) : Int) := of_decide_eq_true (by first | (with_reducible assumption) | assumption)
                    obtain ⟨go43, co43, eo43, gb43, gl43, cl43, HG43⟩ := Kd.R_form HO_10.out (by omega)
                    (first | cases eo43 | (injection eo43 with ea_ en_ ec_; (first | subst ea_ | (injection ea_ with ea_; subst ea_)); subst ec_; clear en_))
                    have GB43 := Aside0.mk gb43
                    have GG43 := Aside0.mk HG43
                    clear gb43 gl43 HG43
                    obtain ⟨hx43_0, hf43_0⟩ := Kd.R_celln 0 HO_10.out (x50_2 : Int) p43 q43
                    replace p43 := eq_true p43
                    replace q43 := eq_true q43
                    have HP44 := Kd.R_putg HO_10.out (x50_2 : Int) ji28
                    go_wp2_with (first | ((with_reducible refine gate_store (t := 22) (p := 87) rfl ?_); refine store_event (t := 22) (p := 87) (v := ?vo_w45) (w1 := (wr.setCell ⟨go43, (x50_2 : Int).toNat, none⟩ (.int .u64 ji28))) ?hg ?ho ?hn ?hr ?_; (case ho => rfl); (case hg => rfl); (case hn => rfl); (case hr => first | (go_simp; done) | (go_simp; rfl)); intro w45 hw; have hg : wr.grownBy w45 (some go43) := (by rw [hw]; exact HP44.2); have hp_ : Kd.R (Kd.int .u64) 22 w45 w.heap.size (fun k_ => (w.heap.size ≤ k_)) (.slice (some ⟨go43, 0, none⟩) x10_2.length co21) y325 := (by rw [hw, Ny325.out]; exact HP44.1); clear HP44; replace HO_10 := Aside0.mk (hp_); replace HB := Aside0.mk ((by rw [hw]; exact below_set (HB.out) GB43.out : Below w.heap.size w w45)); clear hg hw hp_))
                    (try simp only [← hl10_2])
                    (try simp only [← hji26])
                    (try simp only [← hji26] at H')
                    go_roundg k2
                    case measure => have := HJ5.out; have := HK2.out; omega
                    case rel => exact ⟨(y325), (wrap64 (x50_2 + 1)), (by first | rfl | (simp; done) | (simp [*]; done)), H', ⟨by have := HJ5.out; have := HK2.out; omega⟩, ⟨by (try simp only [hl10_2]); (with_reducible repeat (first | apply Kd.R_alloc | apply Kd.R_drewN | apply Kd.R_drew)); exact HO_10.out⟩, ⟨bS HB.out⟩⟩
                   ·rw [if_neg c42] at H
                    exact absurd H (by simp)
                  ·rw [if_neg c41] at H
                   exact absurd H (by simp)
                ·rw [if_neg c29] at H
                 have c29b0 : decide ((wrap64 ((ji23) + 1)) < (y315.length : Int)) = false := decide_eq_false c29
                 (try (have c29h0 := c29b0; simp only [hl10_2] at c29h0))
                 clear c29
                 by_cases c46 : 0 ≤ x50_2
                 ·rw [if_pos c46] at H
                  have c46b0 : decide (0 ≤ x50_2) = true := decide_eq_true c46
                  clear c46
                  by_cases c47 : x50_2 < (x10_2.length : Int)
                  ·rw [if_pos c47] at H
                   have c47b0 : decide (x50_2 < (x10_2.length : Int)) = true := decide_eq_true c47
                   (try (have c47h0 := c47b0; simp only [hl10_2] at c47h0))
                   clear c47
                   obtain ⟨y326, hy326⟩ : ∃ y_ : List Int, y_ = (x10_2.set (x50_2 : Int).toNat (ji28)) := ⟨_, rfl⟩
                   replace H : (nat_Shr.l0 k2 y315 x7_5 (wrap64 (Int.tdiv a1 64)) (ji26) y326 (y319.length : Int) (wrap64 (x50_2 + 1))) = some (r1, r2, r3) := by first | (rw [hy326]; with_reducible exact H) | (have H2_ := (Option.bind_some _ _).symm.trans H; rw [hy326]; with_reducible exact H2_) | (have H2_ := (Option.bind_some _ _).symm.trans H; with_reducible exact H2_) | with_reducible exact H | (rw [hy326]; exact H) | exact H
                   have Ny326 := Aside0.mk hy326
                   clear hy326
                   have H' := Aside0.mk H
                   clear H
                   have p322 : 0 ≤ ((ji23) : Int) := of_decide_eq_true (by first | (with_reducible assumption) | assumption)
                   have q322 : (ji23) < (y315.length : Int) := of_decide_eq_true (by first | (with_reducible assumption) | assumption)
                   obtain ⟨ad322, e322, hx322_0⟩ := Kd.at_int HR318.out (ji23) p322 q322
                   cases e322
                   replace hx322_0 := (HB.out.cell (World.block_lt_of_cell? w _ hx322_0)).trans hx322_0
                   replace p322 := eq_true p322
                   replace q322 := eq_true q322
                   have p48 : 0 ≤ (x50_2 : Int) := of_decide_eq_true (by first | (with_reducible assumption) | assumption)
                   have q48 : (x50_2 : Int) < ((x10_2.length : Int) : Int) := of_decide_eq_true (by first | (with_reducible assumption) | assumption)
                   obtain ⟨go48, co48, eo48, gb48, gl48, cl48, HG48⟩ := Kd.R_form HO_10.out (by omega)
                   (first | cases eo48 | (injection eo48 with ea_ en_ ec_; (first | subst ea_ | (injection ea_ with ea_; subst ea_)); subst ec_; clear en_))
                   have GB48 := Aside0.mk gb48
                   have GG48 := Aside0.mk HG48
                   clear gb48 gl48 HG48
                   obtain ⟨hx48_0, hf48_0⟩ := Kd.R_celln 0 HO_10.out (x50_2 : Int) p48 q48
                   replace p48 := eq_true p48
                   replace q48 := eq_true q48
                   have HP49 := Kd.R_putg HO_10.out (x50_2 : Int) ji28
                   go_wp2_with (first | ((with_reducible refine gate_store (t := 22) (p := 87) rfl ?_); refine store_event (t := 22) (p := 87) (v := ?vo_w50) (w1 := (wr.setCell ⟨go48, (x50_2 : Int).toNat, none⟩ (.int .u64 ji28))) ?hg ?ho ?hn ?hr ?_; (case ho => rfl); (case hg => rfl); (case hn => rfl); (case hr => first | (go_simp; done) | (go_simp; rfl)); intro w50 hw; have hg : wr.grownBy w50 (some go48) := (by rw [hw]; exact HP49.2); have hp_ : Kd.R (Kd.int .u64) 22 w50 w.heap.size (fun k_ => (w.heap.size ≤ k_)) (.slice (some ⟨go48, 0, none⟩) x10_2.length co21) y326 := (by rw [hw, Ny326.out]; exact HP49.1); clear HP49; replace HO_10 := Aside0.mk (hp_); replace HB := Aside0.mk ((by rw [hw]; exact below_set (HB.out) GB48.out : Below w.heap.size w w50)); clear hg hw hp_))
                   (try simp only [← hl10_2])
                   (try simp only [← hji26])
                   (try simp only [← hji26] at H')
                   go_roundg k2
                   case measure => have := HJ5.out; have := HK2.out; omega
                   case rel => exact ⟨(y326), (wrap64 (x50_2 + 1)), (by first | rfl | (simp; done) | (simp [*]; done)), H', ⟨by have := HJ5.out; have := HK2.out; omega⟩, ⟨by (try simp only [hl10_2]); (with_reducible repeat (first | apply Kd.R_alloc | apply Kd.R_drewN | apply Kd.R_drew)); exact HO_10.out⟩, ⟨bS HB.out⟩⟩
                  ·rw [if_neg c47] at H
                   exact absurd H (by simp)
                 ·rw [if_neg c46] at H
                  exact absurd H (by simp)
               ·rw [if_neg c27] at H
                exact absurd H (by simp)
              ·rw [if_neg c25] at H
               exact absurd H (by simp)
             ·rw [if_neg c24] at H
              exact absurd H (by simp)
            ·rw [if_neg c22] at H
             have c22b0 : decide (x50_2 < (y319.length : Int)) = false := decide_eq_false c22
             (try (have c22h0 := c22b0; simp only [hl10_2] at c22h0))
             clear c22
             obtain ⟨⟨t327, t330⟩, A510, H⟩ := Option.bind_eq_some_iff.mp H
             dsimp only at H
             have A51 := Aside0.mk A510
             clear A510
             simp only [Option.some.injEq, Prod.mk.injEq] at H
             obtain ⟨rfl, rfl, rfl⟩ := H
             go_wp2_with (first | ((with_reducible refine gate_callee (f := 84) rfl ?_); refine goesL_ (some 91) rfl rfl Tryd.func84 (by kernel_rfl) rfl #[.slice Ao21 x10_2.length co21] rfl (by (try simp only [List.map_toArray, List.map_cons, List.map_nil]); first | done | rfl) ?_; (with_reducible refine (nat_cut.calls k2 (fun k_ => some k_ = (.slice Ao21 x10_2.length co21 : Value).ownBlock) _ _ x10_2 t327 t330 _ ?side1 A51.out).mono ?_); (case side1 => exact Kd.R_V (Kd.R_tight rfl (HO_10.out))); rintro e w52 ⟨v328, rfl, ho0, hb⟩; refine ⟨_, rfl, ?_⟩; have HO329 := Aside0.mk (Kd.V_lower (Kd.V_mono (ok' := fun k_ => (w.heap.size ≤ k_)) ho0 (fun k_ hk_ => Or.elim hk_ (fun hs_ => ((HO_10.out).1 k_ hs_.symm)) (fun hn_ => (Nat.le_trans (below_size (bS HB.out)) hn_)))) (below_size (bS HB.out))); replace HO_10 := Aside0.mk (Kd.R_below (rS <| HO_10.out) hb); replace HB := hB HB hb; (try clear hb); (try clear hb2); (try clear hk); (try clear hi); (try clear ho0)))
             go_ret3
             exact ⟨_, by first | rfl | (simp [errW_none, errW_some] <;> rfl) | (simp only [← hji15]; first | rfl | (simp [errW_none, errW_some] <;> rfl)) | (simp [*, errW_none, errW_some] <;> rfl), vS <| HO329.out, bS HB.out⟩
         ·rw [if_neg c17] at H
          exact absurd H (by simp)
        ·rw [if_neg c16] at H
         exact absurd H (by simp)
      ·rw [if_neg c12] at H
       exact absurd H (by simp)
     ·rw [if_neg c11] at H
      exact absurd H (by simp)

/-! ### nat_ToUint: function 134 -/
def nat_ToUint.f (k : Nat) (l0 : List Int) : Option (Int × Bool) := (nat_size.f k l0).bind fun t331 => (if t331 = 0 then (some (0, true)) else (if t331 = 1 then (if 0 < (l0.length : Int) then (some (rd l0 0, true)) else (none)) else (some (0, false))))
theorem nat_ToUint.mono : ∀ a0 k, LeO (nat_ToUint.f k a0) (nat_ToUint.f (k + 1) a0) := by
 intro a0 k
 unfold nat_ToUint.f
 repeat' first
   | (with_reducible exact nat_size.mono _ _)
   | (with_reducible exact LeO.refl _)
   | (with_reducible exact LeO.none _)
   | (with_reducible refine LeO.ite ?_ ?_)
   | (with_reducible refine LeO.bind ?_ (fun _ => ?_))
   | exact nat_size.mono _ _
   | exact LeO.none _
   | refine LeO.ite ?_ ?_
   | refine LeO.bind ?_ (fun _ => ?_)
set_option maxHeartbeats 8000000 in
set_option maxRecDepth 100000 in
theorem nat_ToUint.calls (k : Nat) (A0 : Option Addr) (c0 : Nat) (l0 : List Int) (r1 : Int) (r2 : Bool) (w : World) (hr0 : Kd.C (Kd.int .u64) w A0 l0.length l0) (hc0 : l0.length ≤ c0) (h : nat_ToUint.f k l0 = some (r1, r2)) :
  Calls Tryd.prog 134 #[.slice A0 l0.length c0] w fun e w' => e = .returned (.tuple #[.int .u64 r1, .bool r2]) ∧ Drawn0 w w' := by
 have HR0 := Aside0.mk hr0
 have HC0 := Aside0.mk hc0
 clear hr0 hc0
 have H : ((nat_size.f k l0).bind fun t331 => (if t331 = 0 then (some (0, true)) else (if t331 = 1 then (if 0 < (l0.length : Int) then (some (rd l0 0, true)) else (none)) else (some (0, false))))) = some (r1, r2) := h
 clear h
 obtain ⟨t331, A20, H⟩ := Option.bind_eq_some_iff.mp H
 have A2 := Aside0.mk A20
 clear A20
 by_cases c3 : t331 = 0
 ·rw [if_pos c3] at H
  have c3b0 : (t331 == 0) = true := beq_iff_eq.mpr c3
  have c3b1 : (t331 != 0) = false := bne_eq_false_iff_eq.mpr c3
  clear c3
  simp only [Option.some.injEq, Prod.mk.injEq] at H
  obtain ⟨rfl, rfl⟩ := H
  go_enter Tryd.func134, Tryd.ntmps134
  go_wp2_with (first | ((with_reducible refine gate_callee (f := 52) rfl ?_); refine goesL_ (some 5) rfl rfl Tryd.func52 (by kernel_rfl) rfl #[.slice A0 l0.length c0] rfl (by (try simp only [List.map_toArray, List.map_cons, List.map_nil]); first | done | rfl) ?_; (with_reducible refine (nat_size.calls k _ _ l0 t331 _ ?side1 ?side2 A2.out).mono ?_); (case side1 => exact cS HR0.out); (case side2 => exact HC0.out); rintro e w' ⟨rfl, ⟨nd, rfl⟩⟩; refine ⟨_, rfl, ?_⟩))
  go_ret2
  exact ⟨by first | rfl | (simp; done) | (simp [*]; done), by repeat (first | exact Drawn0.refl _ | apply Drawn0.step)⟩
 ·rw [if_neg c3] at H
  have c3b0 : (t331 == 0) = false := beq_eq_false_iff_ne.mpr c3
  have c3b1 : (t331 != 0) = true := bne_iff_ne.mpr c3
  by_cases c4 : t331 = 1
  ·rw [if_pos c4] at H
   have c4b0 : (t331 == 1) = true := beq_iff_eq.mpr c4
   have c4b1 : (t331 != 1) = false := bne_eq_false_iff_eq.mpr c4
   clear c4
   by_cases c5 : 0 < (l0.length : Int)
   ·rw [if_pos c5] at H
    have c5b0 : decide (0 < (l0.length : Int)) = true := decide_eq_true c5
    have c5b1 : decide (0 < l0.length) = true := decide_eq_true (by omega)
    clear c5
    simp only [Option.some.injEq, Prod.mk.injEq] at H
    obtain ⟨rfl, rfl⟩ := H
    go_enter Tryd.func134, Tryd.ntmps134
    go_wp2_with (first | ((with_reducible refine gate_callee (f := 52) rfl ?_); refine goesL_ (some 5) rfl rfl Tryd.func52 (by kernel_rfl) rfl #[.slice A0 l0.length c0] rfl (by (try simp only [List.map_toArray, List.map_cons, List.map_nil]); first | done | rfl) ?_; (with_reducible refine (nat_size.calls k _ _ l0 t331 _ ?side1 ?side2 A2.out).mono ?_); (case side1 => exact cS HR0.out); (case side2 => exact HC0.out); rintro e w' ⟨rfl, ⟨nd, rfl⟩⟩; refine ⟨_, rfl, ?_⟩; have p332 : 0 ≤ (0 : Int) := (by omega); have q332 : 0 < (l0.length : Int) := of_decide_eq_true (by first | (with_reducible assumption) | assumption); obtain ⟨ad332, e332, hx332_0⟩ := Kd.at_int HR0.out 0 p332 q332; cases e332; have qi332 : (0 < l0.length) = True := eq_true (by omega); (try rw [show ((0 : Int)).toNat = 0 from rfl] at hx332_0); (try rw [Addr.add_zero'] at hx332_0); replace p332 := eq_true p332; replace q332 := eq_true q332))
    go_ret2
    exact ⟨by first | rfl | (simp; done) | (simp [*]; done), by repeat (first | exact Drawn0.refl _ | apply Drawn0.step)⟩
   ·rw [if_neg c5] at H
    exact absurd H (by simp)
  ·rw [if_neg c4] at H
   have c4b0 : (t331 == 1) = false := beq_eq_false_iff_ne.mpr c4
   have c4b1 : (t331 != 1) = true := bne_iff_ne.mpr c4
   simp only [Option.some.injEq, Prod.mk.injEq] at H
   obtain ⟨rfl, rfl⟩ := H
   go_enter Tryd.func134, Tryd.ntmps134
   go_wp2_with (first | ((with_reducible refine gate_callee (f := 52) rfl ?_); refine goesL_ (some 5) rfl rfl Tryd.func52 (by kernel_rfl) rfl #[.slice A0 l0.length c0] rfl (by (try simp only [List.map_toArray, List.map_cons, List.map_nil]); first | done | rfl) ?_; (with_reducible refine (nat_size.calls k _ _ l0 t331 _ ?side1 ?side2 A2.out).mono ?_); (case side1 => exact cS HR0.out); (case side2 => exact HC0.out); rintro e w' ⟨rfl, ⟨nd, rfl⟩⟩; refine ⟨_, rfl, ?_⟩))
   go_ret2
   exact ⟨by first | rfl | (simp; done) | (simp [*]; done), by repeat (first | exact Drawn0.refl _ | apply Drawn0.step)⟩

/-! ### nat_Bit: function 135 -/
def nat_Bit.f (l0 : List Int) (a1 : Int) : Option (Int) := if a1 < 0 then (some 0) else (if (wrap64 (Int.tdiv a1 64)) ≥ (l0.length : Int) then (some 0) else (if 0 ≤ (wrap64 (Int.tdiv a1 64)) then (if (wrap64 (Int.tdiv a1 64)) < (l0.length : Int) then (if 0 ≤ (IntKind.u64.wrap (Int.tmod a1 64)) then (some (wrap64 (Go.bits .and .u64 (shr .u64 (rd l0 (wrap64 (Int.tdiv a1 64))) (IntKind.u64.wrap (Int.tmod a1 64))) 1))) else (none)) else (none)) else (none)))
set_option maxHeartbeats 8000000 in
set_option maxRecDepth 100000 in
theorem nat_Bit.calls (A0 : Option Addr) (c0 : Nat) (l0 : List Int) (a1 : Int) (r : Int) (w : World) (hr0 : Kd.C (Kd.int .u64) w A0 l0.length l0) (hc0 : l0.length ≤ c0) (h : nat_Bit.f l0 a1 = some r) :
  Calls Tryd.prog 135 #[.slice A0 l0.length c0, .int .i64 a1] w fun e w' => e = .returned (.int .i64 r) ∧ Drawn0 w w' := by
 have HR0 := Aside0.mk hr0
 have HC0 := Aside0.mk hc0
 clear hr0 hc0
 have H : (if a1 < 0 then (some 0) else (if (wrap64 (Int.tdiv a1 64)) ≥ (l0.length : Int) then (some 0) else (if 0 ≤ (wrap64 (Int.tdiv a1 64)) then (if (wrap64 (Int.tdiv a1 64)) < (l0.length : Int) then (if 0 ≤ (IntKind.u64.wrap (Int.tmod a1 64)) then (some (wrap64 (Go.bits .and .u64 (shr .u64 (rd l0 (wrap64 (Int.tdiv a1 64))) (IntKind.u64.wrap (Int.tmod a1 64))) 1))) else (none)) else (none)) else (none)))) = some r := h
 clear h
 by_cases c3 : a1 < 0
 ·rw [if_pos c3] at H
  have c3b0 : decide (a1 < 0) = true := decide_eq_true c3
  clear c3
  obtain rfl := Option.some.inj H
  go_enter Tryd.func135, Tryd.ntmps135
  go_wp2
  go_ret
  exact ⟨by first | rfl | (simp; done) | (simp [*]; done), by repeat (first | exact Drawn0.refl _ | apply Drawn0.step)⟩
 ·rw [if_neg c3] at H
  have c3b0 : decide (a1 < 0) = false := decide_eq_false c3
  clear c3
  by_cases c4 : (wrap64 (Int.tdiv a1 64)) ≥ (l0.length : Int)
  ·rw [if_pos c4] at H
   have c4b0 : decide ((l0.length : Int) ≤ (wrap64 (Int.tdiv a1 64))) = true := decide_eq_true c4
   clear c4
   obtain rfl := Option.some.inj H
   go_enter Tryd.func135, Tryd.ntmps135
   go_wp2
   go_ret
   exact ⟨by first | rfl | (simp; done) | (simp [*]; done), by repeat (first | exact Drawn0.refl _ | apply Drawn0.step)⟩
  ·rw [if_neg c4] at H
   have c4b0 : decide ((l0.length : Int) ≤ (wrap64 (Int.tdiv a1 64))) = false := decide_eq_false c4
   clear c4
   obtain ⟨ji5, hji5⟩ : ∃ j_ : Int, (wrap64 (Int.tdiv a1 64)) = j_ := ⟨_, rfl⟩
   replace H : (if 0 ≤ (ji5) then (if (ji5) < (l0.length : Int) then (if 0 ≤ (IntKind.u64.wrap (Int.tmod a1 64)) then (some (wrap64 (Go.bits .and .u64 (shr .u64 (rd l0 (ji5)) (IntKind.u64.wrap (Int.tmod a1 64))) 1))) else (none)) else (none)) else (none)) = some r := by first | (rw [hji5] at H; exact H) | (simp only [hji5] at H ⊢; exact H)
   (try rw [hji5] at c4b0)
   have hji5w : (IntKind.i64.wrap (Int.tdiv a1 64)) = ji5 := (i64_w _).trans hji5
   by_cases c6 : 0 ≤ (ji5)
   ·rw [if_pos c6] at H
    have c6b0 : decide (0 ≤ (ji5)) = true := decide_eq_true c6
    clear c6
    by_cases c7 : (ji5) < (l0.length : Int)
    ·rw [if_pos c7] at H
     have c7b0 : decide ((ji5) < (l0.length : Int)) = true := decide_eq_true c7
     clear c7
     obtain ⟨ji8, hji8⟩ : ∃ j_ : Int, (IntKind.u64.wrap (Int.tmod a1 64)) = j_ := ⟨_, rfl⟩
     replace H : (if 0 ≤ (ji8) then (some (wrap64 (Go.bits .and .u64 (shr .u64 (rd l0 (ji5)) (ji8)) 1))) else (none)) = some r := by first | (rw [hji8] at H; exact H) | (simp only [hji8] at H ⊢; exact H)
     by_cases c9 : 0 ≤ (ji8)
     ·rw [if_pos c9] at H
      have c9b0 := eq_true c9
      have c9b1 : decide (0 ≤ (ji8)) = true := decide_eq_true c9
      clear c9
      obtain ⟨ji10, hji10⟩ : ∃ j_ : Int, (shr .u64 (rd l0 (ji5)) (ji8)) = j_ := ⟨_, rfl⟩
      replace H : (some (wrap64 (Go.bits .and .u64 (ji10) 1))) = some r := by first | (rw [hji10] at H; exact H) | (simp only [hji10] at H ⊢; exact H)
      have hji10_ : ((rd l0 (ji5)) / 2 ^ min (ji8).toNat 64) = ji10 := hji10
      have hji10z : (ji8) ≤ 64 → ((rd l0 (ji5)) / 2 ^ (ji8).toNat) = ji10 := shr_small hji10
      obtain rfl := Option.some.inj H
      have p333 : 0 ≤ ((ji5) : Int) := of_decide_eq_true (by first | (with_reducible assumption) | assumption)
      have q333 : (ji5) < (l0.length : Int) := of_decide_eq_true (by first | (with_reducible assumption) | assumption)
      obtain ⟨ad333, e333, hx333_0⟩ := Kd.at_int HR0.out (ji5) p333 q333
      cases e333
      replace p333 := eq_true p333
      replace q333 := eq_true q333
      go_enter Tryd.func135, Tryd.ntmps135
      go_wp2
      go_ret
      exact ⟨by first | rfl | (simp; done) | (simp only [← hji5, ← hji8, ← hji10] <;> (first | rfl | simp)) | (simp [*]; done), by repeat (first | exact Drawn0.refl _ | apply Drawn0.step)⟩
     ·rw [if_neg c9] at H
      exact absurd H (by simp)
    ·rw [if_neg c7] at H
     exact absurd H (by simp)
   ·rw [if_neg c6] at H
    exact absurd H (by simp)

end Go.Proofs.YtcdnoklokoplaaaDoor.PE
