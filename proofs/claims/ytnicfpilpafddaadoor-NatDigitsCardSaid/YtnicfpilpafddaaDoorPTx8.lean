-- printed by a program
import Derived.Test.YtnicfpilpafddaaDoorPTx0
import Derived.Test.YtnicfpilpafddaaDoorPTx1
namespace Go.Proofs.YtnicfpilpafddaaDoor.PT
open Go.Proofs.YtnicfpilpafddaaDoorX
open Go.RowKit Go.Proofs.YtnicfpilpafddaaDoorW.PrintWords Go.Proofs.YtnicfpilpafddaaDoorW.PrintLast Go.Proofs.YtnicfpilpafddaaDoorW.PrintMore
attribute [local go_sem] max2_int min2_int max_two min_two max_three min_three max_four min_four   -- for this text's walks alone
set_option linter.unusedVariables false
set_option linter.unusedSimpArgs false

/-! ### nat_Trim: function 38 (its contract by hand) -/
def nat_Trim.f (k : Nat) (l0 : List Int) : Option (List Int) := (nat_size.f k l0).bind fun t => if 0 ≤ t ∧ t ≤ (l0.length : Int) ∧ t.toNat ≤ 35184372088832 then some (l0.take t.toNat) else none
theorem nat_Trim.mono : ∀ a0 k, LeO (nat_Trim.f k a0) (nat_Trim.f (k + 1) a0) := by
  intro a0 k
  unfold nat_Trim.f
  exact LeO.bind (nat_size.mono _ _) (fun _ => LeO.refl _)
set_option maxHeartbeats 4000000 in
set_option maxRecDepth 100000 in
theorem nat_Trim.calls (k : Nat) (A0 : Option Addr) (c0 : Nat) (l0 : List Int) (r : List Int) (w : World) (hr0 : Kd.C (Kd.int .u64) w A0 l0.length l0) (hc0 : l0.length ≤ c0) (h : nat_Trim.f k l0 = some r) :
    Calls Tryd.prog 38 #[.slice A0 l0.length c0] w fun e w' => ∃ v0_ : Value, e = .returned (v0_) ∧ Kd.R (Kd.int .u64) 29 w' w.heap.size (fun _ => True) v0_ r ∧ Below w.heap.size w w' := by
  obtain ⟨t, A2, H⟩ := Option.bind_eq_some_iff.mp h
  clear h
  split at H
  · rename_i hh
    obtain ⟨h0, h1, h2⟩ := hh
    obtain ⟨y, hy⟩ : ∃ y, y = l0.take t.toNat := ⟨_, rfl⟩
    rw [← hy] at H
    obtain rfl := Option.some.inj H
    clear H
    have HA := Aside0.mk A2
    have HR0 := Aside0.mk hr0
    have HC0 := Aside0.mk hc0
    obtain ⟨i0, hi0, _, hsz, _⟩ := info_parts info29
    have hcut := cut_to (P := Tryd.prog) 22 29 .i64 Tryd.underlying22 hi0 A0 l0.length c0 t h0 h1 hc0
    have hyl : y.length = t.toNat := by rw [hy, List.length_take]; omega
    rw [← hyl] at hcut
    have hC := Kd.C_take (m := t.toNat) hr0 (by omega)
    rw [← hy] at hC
    have HY := Aside0.mk hC
    have HL := Aside0.mk hyl
    have hz : (Tryd.prog.info? 29).map (·.size) = some 1 := by rw [hi0]; exact congrArg some hsz
    have HZ := Aside0.mk hz
    clear hy hyl hC hr0 hc0 A2 hsz hz
    go_enter Tryd.func38, Tryd.ntmps38
    go_wp2_with (first | ((with_reducible refine gate_callee (f := 30) rfl ?_); refine goesL_ (some 6) rfl rfl Tryd.func30 (by kernel_rfl) rfl #[.slice A0 l0.length c0] rfl (by (try simp only [List.map_toArray, List.map_cons, List.map_nil]); first | done | rfl) ?_; (with_reducible refine (nat_size.calls k _ _ l0 t _ ?side1 ?side2 HA.out).mono ?_); (case side1 => exact HR0.out); (case side2 => exact HC0.out); rintro e w' ⟨rfl, ⟨nd, rfl⟩⟩; refine ⟨_, rfl, ?_⟩) | ((with_reducible refine gate_dst (N := 8) rfl ?_); refine Kd.R_make (Kd.int .u64) w.heap.size 29 rfl (N := 8) rfl 22 _ _ rfl t rfl rfl Tryd.underlying22 (.int .u64 0) 8 info29 rfl (by decide) (by omega) 0 (ok := fun _ => True) (okp := fun _ => True) rfl (fun _ hk => hk) trivial h0 (by omega) (w0 := w) (pw_below_drewN (Below.refl w.heap.size w) nd) (pw_below_drewN (Below.refl w.heap.size w) nd).size ?_; intro v1 w1 ho hb hg_ hn_; clear hg_ hn_; have HO := Aside0.mk ho; have HB := Aside0.mk hb; clear ho hb) | ((with_reducible refine gate_builtin (b := .copy) rfl ?_); refine Kd.R_copy (k := .u64) rfl (.tmp 9) (.tmp 12) 22 22 rfl Tryd.underlying22 HZ.out HO.out (Kd.C_below HY.out HB.out) (by rw [HL.out, List.length_replicate]) rfl rfl HB.out ?_; intro w2 ho2 hb2; have HO2 := Aside0.mk ho2; have HB2 := Aside0.mk hb2; clear ho2 hb2))
    go_ret
    exact ⟨_, rfl, HO2.out, HB2.out⟩
  · exact absurd H (by simp)

/-! ### nat_Low: function 21 -/
def nat_Low.l0 : Nat → Int → List Int → Int → Int → Option (List Int × Int)
  | 0, _, _, _, _ => none
  | k + 1, x1, x6, x21, x22 => if x22 < x21 then (if x22 > (wrap64 (Int.tdiv x1 64)) then (if 0 ≤ x22 then (if x22 < (x6.length : Int) then (nat_Low.l0 k x1 (x6.set (x22 : Int).toNat 0) x21 (wrap64 (x22 + 1))) else (none)) else (none)) else (if x22 = (wrap64 (Int.tdiv x1 64)) then (if 0 ≤ x22 then (if x22 < (x6.length : Int) then (if 0 ≤ (IntKind.u64.wrap (Int.tmod x1 64)) then (nat_Low.l0 k x1 (x6.set (x22 : Int).toNat (Go.bits .and .u64 (rd x6 x22) (IntKind.u64.wrap ((shl .u64 1 (IntKind.u64.wrap (Int.tmod x1 64))) - 1)))) x21 (wrap64 (x22 + 1))) else (none)) else (none)) else (none)) else (nat_Low.l0 k x1 x6 x21 (wrap64 (x22 + 1))))) else ((nat_cut.f k x6).bind fun bt362 => (some (bt362.1, bt362.2)))
def nat_Low.f (k : Nat) (l0 : List Int) (a1 : Int) : Option (List Int × Int) := (nat_big.f k l0).bind fun t358 => (if t358 = true then (some (([] : List Int), 2)) else (if a1 < 0 then (some (([] : List Int), 1)) else ((nat_Trim.f k l0).bind fun t359 => (if a1 ≥ (wrap64 (64 * (t359.length : Int))) then (some (t359, 0)) else (nat_Low.l0 k a1 t359 (t359.length : Int) 0)))))
theorem nat_Low.mono_l : ∀ k, (∀ y0 y1 y2 y3, LeO (nat_Low.l0 k y0 y1 y2 y3) (nat_Low.l0 (k + 1) y0 y1 y2 y3))
  | 0 => fun _ _ _ _ r h => by simp [nat_Low.l0] at h
  | k + 1 => by
    have ih0 := nat_Low.mono_l k
    · intro y0 y1 y2 y3
      unfold nat_Low.l0
      repeat' first
      | (with_reducible exact ih0 _ _ _ _)
      | (with_reducible exact nat_Trim.mono _ _)
      | (with_reducible exact nat_big.mono _ _)
      | (with_reducible exact nat_cut.mono _ _)
      | (with_reducible exact LeO.refl _)
      | (with_reducible exact LeO.none _)
      | (with_reducible refine LeO.ite ?_ ?_)
      | (with_reducible refine LeO.bind ?_ (fun _ => ?_))
      | exact ih0 _ _ _ _
      | exact nat_Trim.mono _ _
      | exact nat_big.mono _ _
      | exact nat_cut.mono _ _
      | exact LeO.none _
      | refine LeO.ite ?_ ?_
      | refine LeO.bind ?_ (fun _ => ?_)
theorem nat_Low.mono : ∀ a0 a1 k, LeO (nat_Low.f k a0 a1) (nat_Low.f (k + 1) a0 a1) := by
  intro a0 a1 k
  have ih0 := nat_Low.mono_l k
  unfold nat_Low.f
  repeat' first
      | (with_reducible exact ih0 _ _ _ _)
      | (with_reducible exact nat_Trim.mono _ _)
      | (with_reducible exact nat_big.mono _ _)
      | (with_reducible exact nat_cut.mono _ _)
      | (with_reducible exact LeO.refl _)
      | (with_reducible exact LeO.none _)
      | (with_reducible refine LeO.ite ?_ ?_)
      | (with_reducible refine LeO.bind ?_ (fun _ => ?_))
      | exact ih0 _ _ _ _
      | exact nat_Trim.mono _ _
      | exact nat_big.mono _ _
      | exact nat_cut.mono _ _
      | exact LeO.none _
      | refine LeO.ite ?_ ?_
      | refine LeO.bind ?_ (fun _ => ?_)
set_option maxHeartbeats 8000000 in
set_option maxRecDepth 100000 in
theorem nat_Low.calls (k : Nat) (A0 : Option Addr) (c0 : Nat) (l0 : List Int) (a1 : Int) (r1 : List Int) (r2 : Int) (w : World) (hr0 : Kd.C (Kd.int .u64) w A0 l0.length l0) (hc0 : l0.length ≤ c0) (h : nat_Low.f k l0 a1 = some (r1, r2)) :
    Calls Tryd.prog 21 #[.slice A0 l0.length c0, .int .i64 a1] w fun e w' => ∃ v0_ : Value, e = .returned (.tuple #[v0_, .int .i64 r2]) ∧ Kd.V (Kd.int .u64) 29 w' w.heap.size (fun k_ => (w.heap.size ≤ k_)) v0_ r1 ∧ Below w.heap.size w w' := by
  have HR0 := Aside0.mk hr0
  have HC0 := Aside0.mk hc0
  clear hr0 hc0
  have HB := Aside0.mk (Below.refl w.heap.size w)
  have H : ((nat_big.f k l0).bind fun t358 => (if t358 = true then (some (([] : List Int), 2)) else (if a1 < 0 then (some (([] : List Int), 1)) else ((nat_Trim.f k l0).bind fun t359 => (if a1 ≥ (wrap64 (64 * (t359.length : Int))) then (some (t359, 0)) else (nat_Low.l0 k a1 t359 (t359.length : Int) 0)))))) = some (r1, r2) := h
  clear h
  replace H := Option.bind_eq_some_iff.mp H
  obtain ⟨t358, A30, H⟩ := H
  replace H : (if t358 = true then (some (([] : List Int), 2)) else (if a1 < 0 then (some (([] : List Int), 1)) else ((nat_Trim.f k l0).bind fun t359 => (if a1 ≥ (wrap64 (64 * (t359.length : Int))) then (some (t359, 0)) else (nat_Low.l0 k a1 t359 (t359.length : Int) 0))))) = some (r1, r2) := H
  have A3 := Aside0.mk A30
  clear A30
  by_cases c4 : t358 = true
  · subst c4
    have H1 : (some (([] : List Int), 2)) = some (r1, r2) := by rw [if_pos rfl] at H; exact H
    clear H
    have H := H1
    clear H1
    simp only [Option.some.injEq, Prod.mk.injEq] at H
    obtain ⟨rfl, rfl⟩ := H
    go_enter Tryd.func21, Tryd.ntmps21
    go_wp2_with (first | ((with_reducible refine gate_callee (f := 32) rfl ?_); refine goesL_ (some 9) rfl rfl Tryd.func32 (by kernel_rfl) rfl #[.slice A0 l0.length c0] rfl (by (try simp only [List.map_toArray, List.map_cons, List.map_nil]); first | done | rfl | (simp only [List.length_drop, List.length_take]; rfl)) ?_; (with_reducible refine (nat_big.calls k _ _ l0 true _ ?side1 ?side2 A3.out).mono ?_); (case side1 => repeat (first | exact HR0.out | (with_reducible refine Kd.C_alloc ?_ _) | (with_reducible refine Kd.C_drewN ?_ _) | (with_reducible refine Kd.C_drew ?_))); (case side2 => exact HC0.out); rintro e w' ⟨rfl, ⟨nd, rfl⟩⟩; refine ⟨_, rfl, ?_⟩))
    go_ret2
    exact ⟨.slice none 0 0, by first | rfl | (simp [errW_none, errW_some] <;> rfl) | (simp [*, errW_none, errW_some] <;> rfl), Kd.V_nil _ _ _ _ _, by repeat (first | (with_reducible first | exact HB.out | apply below_alloc | apply pw_below_drewN | apply below_drew1) | exact HB.out)⟩
  · replace c4 := Bool.eq_false_iff.mpr c4
    subst c4
    have H1 : (if a1 < 0 then (some (([] : List Int), 1)) else ((nat_Trim.f k l0).bind fun t359 => (if a1 ≥ (wrap64 (64 * (t359.length : Int))) then (some (t359, 0)) else (nat_Low.l0 k a1 t359 (t359.length : Int) 0)))) = some (r1, r2) := by rw [if_neg (show ¬ (false = true) by decide)] at H; exact H
    clear H
    have H := H1
    clear H1
    by_cases c5 : a1 < 0
    · rw [if_pos c5] at H
      have c5b0 : decide (a1 < 0) = true := decide_eq_true c5
      clear c5
      simp only [Option.some.injEq, Prod.mk.injEq] at H
      obtain ⟨rfl, rfl⟩ := H
      go_enter Tryd.func21, Tryd.ntmps21
      go_wp2_with (first | ((with_reducible refine gate_callee (f := 32) rfl ?_); refine goesL_ (some 9) rfl rfl Tryd.func32 (by kernel_rfl) rfl #[.slice A0 l0.length c0] rfl (by (try simp only [List.map_toArray, List.map_cons, List.map_nil]); first | done | rfl | (simp only [List.length_drop, List.length_take]; rfl)) ?_; (with_reducible refine (nat_big.calls k _ _ l0 false _ ?side1 ?side2 A3.out).mono ?_); (case side1 => repeat (first | exact HR0.out | (with_reducible refine Kd.C_alloc ?_ _) | (with_reducible refine Kd.C_drewN ?_ _) | (with_reducible refine Kd.C_drew ?_))); (case side2 => exact HC0.out); rintro e w' ⟨rfl, ⟨nd, rfl⟩⟩; refine ⟨_, rfl, ?_⟩))
      go_ret2
      exact ⟨.slice none 0 0, by first | rfl | (simp [errW_none, errW_some] <;> rfl) | (simp [*, errW_none, errW_some] <;> rfl), Kd.V_nil _ _ _ _ _, by repeat (first | (with_reducible first | exact HB.out | apply below_alloc | apply pw_below_drewN | apply below_drew1) | exact HB.out)⟩
    · rw [if_neg c5] at H
      have c5b0 : decide (a1 < 0) = false := decide_eq_false c5
      clear c5
      replace H := Option.bind_eq_some_iff.mp H
      obtain ⟨t359, A60, H⟩ := H
      replace H : (if a1 ≥ (wrap64 (64 * (t359.length : Int))) then (some (t359, 0)) else (nat_Low.l0 k a1 t359 (t359.length : Int) 0)) = some (r1, r2) := H
      have A6 := Aside0.mk A60
      clear A60
      by_cases c7 : a1 ≥ (wrap64 (64 * (t359.length : Int)))
      · rw [if_pos c7] at H
        have c7b0 : decide ((wrap64 (64 * (t359.length : Int))) ≤ a1) = true := decide_eq_true c7
        clear c7
        simp only [Option.some.injEq, Prod.mk.injEq] at H
        obtain ⟨rfl, rfl⟩ := H
        go_enter Tryd.func21, Tryd.ntmps21
        go_wp2_with (first | ((with_reducible refine gate_callee (f := 32) rfl ?_); refine goesL_ (some 9) rfl rfl Tryd.func32 (by kernel_rfl) rfl #[.slice A0 l0.length c0] rfl (by (try simp only [List.map_toArray, List.map_cons, List.map_nil]); first | done | rfl | (simp only [List.length_drop, List.length_take]; rfl)) ?_; (with_reducible refine (nat_big.calls k _ _ l0 false _ ?side1 ?side2 A3.out).mono ?_); (case side1 => repeat (first | exact HR0.out | (with_reducible refine Kd.C_alloc ?_ _) | (with_reducible refine Kd.C_drewN ?_ _) | (with_reducible refine Kd.C_drew ?_))); (case side2 => exact HC0.out); rintro e w' ⟨rfl, ⟨nd, rfl⟩⟩; refine ⟨_, rfl, ?_⟩) | ((with_reducible refine gate_callee (f := 38) rfl ?_); refine goesL_ (some 13) rfl rfl Tryd.func38 (by kernel_rfl) rfl #[.slice A0 l0.length c0] rfl (by (try simp only [List.map_toArray, List.map_cons, List.map_nil]); first | done | rfl | (simp only [List.length_drop, List.length_take]; rfl)) ?_; (with_reducible refine (nat_Trim.calls k _ _ l0 t359 _ ?side1 ?side2 A6.out).mono ?_); (case side1 => repeat (first | exact HR0.out | (with_reducible refine Kd.C_alloc ?_ _) | (with_reducible refine Kd.C_drewN ?_ _) | (with_reducible refine Kd.C_drew ?_))); (case side2 => exact HC0.out); rintro e w8 ⟨v360, rfl, ho0, hb⟩; refine ⟨_, rfl, ?_⟩; have n0_ := Aside0.mk (Kd.R_lower (Kd.R_newM (M := fun k_ => (w.heap.size ≤ k_)) ho0 (below_size (by repeat (first | (with_reducible first | exact HB.out | apply below_alloc | apply pw_below_drewN | apply below_drew1) | exact HB.out))) (fun k_ h_ => h_)) (below_size (by repeat (first | (with_reducible first | exact HB.out | apply below_alloc | apply pw_below_drewN | apply below_drew1) | exact HB.out)))); have n1_ := Aside0.mk (below_step (by repeat (first | (with_reducible first | exact HB.out | apply below_alloc | apply pw_below_drewN | apply below_drew1) | exact HB.out)) hb); clear HB; have HO361 := n0_; have HB := n1_; clear n0_ n1_; (try clear hb); (try clear hb2); (try clear hk); (try clear hi); (try clear ho0); obtain ⟨Ao9, co9, eo9⟩ := Kd.R_slice HO361.out; subst eo9))
        go_ret2
        exact ⟨_, by first | rfl | (simp [errW_none, errW_some] <;> rfl) | (simp [*, errW_none, errW_some] <;> rfl), Kd.R_V (by (with_reducible repeat (first | apply Kd.R_alloc | apply Kd.R_drewN | apply Kd.R_drew)); exact Kd.R_mono HO361.out (fun _ hk => hk.1)), by repeat (first | (with_reducible first | exact HB.out | apply below_alloc | apply pw_below_drewN | apply below_drew1) | exact HB.out)⟩
      · rw [if_neg c7] at H
        have c7b0 : decide ((wrap64 (64 * (t359.length : Int))) ≤ a1) = false := decide_eq_false c7
        clear c7
        have H' := Aside0.mk H
        clear H
        go_enter Tryd.func21, Tryd.ntmps21
        go_wp2_with (first | ((with_reducible refine gate_callee (f := 32) rfl ?_); refine goesL_ (some 9) rfl rfl Tryd.func32 (by kernel_rfl) rfl #[.slice A0 l0.length c0] rfl (by (try simp only [List.map_toArray, List.map_cons, List.map_nil]); first | done | rfl | (simp only [List.length_drop, List.length_take]; rfl)) ?_; (with_reducible refine (nat_big.calls k _ _ l0 false _ ?side1 ?side2 A3.out).mono ?_); (case side1 => repeat (first | exact HR0.out | (with_reducible refine Kd.C_alloc ?_ _) | (with_reducible refine Kd.C_drewN ?_ _) | (with_reducible refine Kd.C_drew ?_))); (case side2 => exact HC0.out); rintro e w' ⟨rfl, ⟨nd, rfl⟩⟩; refine ⟨_, rfl, ?_⟩) | ((with_reducible refine gate_callee (f := 38) rfl ?_); refine goesL_ (some 13) rfl rfl Tryd.func38 (by kernel_rfl) rfl #[.slice A0 l0.length c0] rfl (by (try simp only [List.map_toArray, List.map_cons, List.map_nil]); first | done | rfl | (simp only [List.length_drop, List.length_take]; rfl)) ?_; (with_reducible refine (nat_Trim.calls k _ _ l0 t359 _ ?side1 ?side2 A6.out).mono ?_); (case side1 => repeat (first | exact HR0.out | (with_reducible refine Kd.C_alloc ?_ _) | (with_reducible refine Kd.C_drewN ?_ _) | (with_reducible refine Kd.C_drew ?_))); (case side2 => exact HC0.out); rintro e w10 ⟨v360, rfl, ho0, hb⟩; refine ⟨_, rfl, ?_⟩; have n0_ := Aside0.mk (Kd.R_lower (Kd.R_newM (M := fun k_ => (w.heap.size ≤ k_)) ho0 (below_size (by repeat (first | (with_reducible first | exact HB.out | apply below_alloc | apply pw_below_drewN | apply below_drew1) | exact HB.out))) (fun k_ h_ => h_)) (below_size (by repeat (first | (with_reducible first | exact HB.out | apply below_alloc | apply pw_below_drewN | apply below_drew1) | exact HB.out)))); have n1_ := Aside0.mk (below_step (by repeat (first | (with_reducible first | exact HB.out | apply below_alloc | apply pw_below_drewN | apply below_drew1) | exact HB.out)) hb); clear HB; have HO361 := n0_; have HB := n1_; clear n0_ n1_; (try clear hb); (try clear hb2); (try clear hk); (try clear hi); (try clear ho0); obtain ⟨Ao11, co11, eo11⟩ := Kd.R_slice HO361.out; subst eo11))
        go_loopg [22] k (fun kq v22 w' => ∃ (x6_1 : List Int) (x22_1 : Int), v22 = .int .i64 x22_1 ∧ Aside0 (nat_Low.l0 kq a1 x6_1 (t359.length : Int) x22_1 = some (r1, r2)) ∧ Aside0 (kq ≤ k) ∧ Aside0 (Kd.R (Kd.int .u64) 29 w' w.heap.size (fun k_ => (w.heap.size ≤ k_)) (.slice Ao11 t359.length co11) x6_1) ∧ Aside0 (Below w.heap.size w w'))
        case atStart => exact ⟨(t359), (0), (by first | rfl | (simp; done) | (simp [*]; done)), H', ⟨Nat.le_refl _⟩, ⟨by (with_reducible repeat (first | apply Kd.R_alloc | apply Kd.R_drewN | apply Kd.R_drew)); exact Kd.R_mono HO361.out (fun _ hk => hk.1)⟩, ⟨by repeat (first | (with_reducible first | exact HB.out | apply below_alloc | apply pw_below_drewN | apply below_drew1) | exact HB.out)⟩⟩
        case round =>
          clear H'
          try clear c2
          try clear p2
          try clear c3
          try clear c4
          try clear c5
          try clear c5b0
          try clear p6
          try clear c7
          try clear c7b0
          obtain ⟨x6_1, x22_1, rfl, HA, HK1, HO_6, HB⟩ := hrel
          have hl6_1 := (Kd.R_reads' HO_6.out).1
          rw [hl6_1] at HO_6
          (try simp only [hl6_1])
          cases gk with
          | zero => exact absurd HA.out (by simp [nat_Low.l0])
          | succ k1 =>
            have H := HA.out
            clear HA
            simp only [nat_Low.l0] at H
            by_cases c12 : x22_1 < (t359.length : Int)
            · rw [if_pos c12] at H
              have c12b0 : decide (x22_1 < (t359.length : Int)) = true := decide_eq_true c12
              (try (have c12h0 := c12b0; simp only [hl6_1] at c12h0))
              clear c12
              by_cases c13 : x22_1 > (wrap64 (Int.tdiv a1 64))
              · rw [if_pos c13] at H
                have c13b0 : decide ((wrap64 (Int.tdiv a1 64)) < x22_1) = true := decide_eq_true c13
                clear c13
                by_cases c14 : 0 ≤ x22_1
                · rw [if_pos c14] at H
                  have c14b0 : decide (0 ≤ x22_1) = true := decide_eq_true c14
                  clear c14
                  by_cases c15 : x22_1 < (x6_1.length : Int)
                  · rw [if_pos c15] at H
                    have c15b0 : decide (x22_1 < (x6_1.length : Int)) = true := decide_eq_true c15
                    (try (have c15h0 := c15b0; simp only [hl6_1] at c15h0))
                    clear c15
                    obtain ⟨y366, hy366⟩ : ∃ y_ : List Int, y_ = (x6_1.set (x22_1 : Int).toNat 0) := ⟨_, rfl⟩
                    replace H : (nat_Low.l0 k1 a1 y366 (t359.length : Int) (wrap64 (x22_1 + 1))) = some (r1, r2) := by first | (rw [hy366]; with_reducible exact H) | (have H2_ := (Option.bind_some _ _).symm.trans H; rw [hy366]; with_reducible exact H2_) | (have H2_ := (Option.bind_some _ _).symm.trans H; with_reducible exact H2_) | with_reducible exact H | (rw [hy366]; exact H) | exact H
                    have Ny366 := Aside0.mk hy366
                    clear hy366
                    have H' := Aside0.mk H
                    clear H
                    have p16 : 0 ≤ (x22_1 : Int) := of_decide_eq_true (by first | (with_reducible assumption) | assumption)
                    have q16 : (x22_1 : Int) < ((x6_1.length : Int) : Int) := of_decide_eq_true (by first | (with_reducible assumption) | assumption)
                    obtain ⟨go16, co16, eo16, gb16, gl16, cl16, HG16⟩ := Kd.R_form HO_6.out (by omega)
                    (first | cases eo16 | (injection eo16 with ea_ en_ ec_; (first | subst ea_ | (injection ea_ with ea_; subst ea_)); subst ec_; clear en_))
                    have GB16 := Aside0.mk gb16
                    have GG16 := Aside0.mk HG16
                    clear gb16 gl16 HG16
                    obtain ⟨hx16_0, hf16_0⟩ := Kd.R_celln 0 HO_6.out (x22_1 : Int) p16 q16
                    replace p16 := eq_true p16
                    replace q16 := eq_true q16
                    have HP17 := Kd.R_putg HO_6.out (x22_1 : Int) 0
                    go_wp2_with (first | ((with_reducible refine gate_store (t := 29) (p := 32) rfl ?_); refine store_event (t := 29) (p := 32) (v := ?vo_w18) (w1 := (wr.setCell ⟨go16, (x22_1 : Int).toNat, none⟩ (.int .u64 0))) ?hg ?ho ?hn ?hr ?_; (case ho => rfl); (case hg => rfl); (case hn => rfl); (case hr => first | (go_simp; done) | (go_simp; rfl)); intro w18 hw; have hg : wr.grownBy w18 (some go16) := (by rw [hw]; exact HP17.2); have hp_ : Kd.R (Kd.int .u64) 29 w18 w.heap.size (fun k_ => (w.heap.size ≤ k_)) (.slice (some ⟨go16, 0, none⟩) x6_1.length co11) y366 := (by rw [hw, Ny366.out]; exact HP17.1); clear HP17; have n0_ := Aside0.mk (hp_); have n1_ := Aside0.mk ((by rw [hw]; exact below_set (HB.out) GB16.out : Below w.heap.size w w18)); clear HO_6; clear HB; have HO_6 := n0_; have HB := n1_; clear n0_ n1_; clear hg hw hp_))
                    (try simp only [← hl6_1])
                    go_roundg k1
                    case measure => have := HK1.out; omega
                    case rel => exact ⟨(y366), (wrap64 (x22_1 + 1)), (by first | rfl | (simp; done) | (simp [*]; done)), H', ⟨by have := HK1.out; omega⟩, ⟨by (try simp only [hl6_1]); (with_reducible repeat (first | apply Kd.R_alloc | apply Kd.R_drewN | apply Kd.R_drew)); exact HO_6.out⟩, ⟨by repeat (first | (with_reducible first | exact HB.out | apply below_alloc | apply pw_below_drewN | apply below_drew1) | exact HB.out)⟩⟩
                  · rw [if_neg c15] at H
                    exact absurd H (by simp)
                · rw [if_neg c14] at H
                  exact absurd H (by simp)
              · rw [if_neg c13] at H
                have c13b0 : decide ((wrap64 (Int.tdiv a1 64)) < x22_1) = false := decide_eq_false c13
                clear c13
                by_cases c19 : x22_1 = (wrap64 (Int.tdiv a1 64))
                · rw [if_pos c19] at H
                  have c19b0 : (x22_1 == (wrap64 (Int.tdiv a1 64))) = true := beq_iff_eq.mpr c19
                  have c19b1 : (x22_1 != (wrap64 (Int.tdiv a1 64))) = false := bne_eq_false_iff_eq.mpr c19
                  clear c19
                  by_cases c20 : 0 ≤ x22_1
                  · rw [if_pos c20] at H
                    have c20b0 : decide (0 ≤ x22_1) = true := decide_eq_true c20
                    clear c20
                    by_cases c21 : x22_1 < (x6_1.length : Int)
                    · rw [if_pos c21] at H
                      have c21b0 : decide (x22_1 < (x6_1.length : Int)) = true := decide_eq_true c21
                      (try (have c21h0 := c21b0; simp only [hl6_1] at c21h0))
                      clear c21
                      obtain ⟨ji22, hji22⟩ : ∃ j_ : Int, (IntKind.u64.wrap (Int.tmod a1 64)) = j_ := ⟨_, rfl⟩
                      replace H : (if 0 ≤ (ji22) then (nat_Low.l0 k1 a1 (x6_1.set (x22_1 : Int).toNat (Go.bits .and .u64 (rd x6_1 x22_1) (IntKind.u64.wrap ((shl .u64 1 (ji22)) - 1)))) (t359.length : Int) (wrap64 (x22_1 + 1))) else (none)) = some (r1, r2) := by first | (rw [hji22] at H; exact H) | (simp only [hji22] at H ⊢; exact H)
                      by_cases c23 : 0 ≤ (ji22)
                      · rw [if_pos c23] at H
                        have c23b0 := eq_true c23
                        have c23b1 : decide (0 ≤ (ji22)) = true := decide_eq_true c23
                        clear c23
                        obtain ⟨ji24, hji24⟩ : ∃ j_ : Int, (shl .u64 1 (ji22)) = j_ := ⟨_, rfl⟩
                        replace H : (nat_Low.l0 k1 a1 (x6_1.set (x22_1 : Int).toNat (Go.bits .and .u64 (rd x6_1 x22_1) (IntKind.u64.wrap ((ji24) - 1)))) (t359.length : Int) (wrap64 (x22_1 + 1))) = some (r1, r2) := by first | (rw [hji24] at H; exact H) | (simp only [hji24] at H ⊢; exact H)
                        have hji24_ : (IntKind.u64.wrap (1 * 2 ^ min (ji22).toNat 64)) = ji24 := hji24
                        have hji24z : (ji22) ≤ 64 → (IntKind.u64.wrap (1 * 2 ^ (ji22).toNat)) = ji24 := shl_small hji24
                        have hji24u : (IntKind.u64.wrap (2 ^ min (ji22).toNat 64)) = ji24 := by have h_ := hji24_; rw [Int.one_mul] at h_; exact h_
                        have hji24v : (ji22) ≤ 64 → (IntKind.u64.wrap (2 ^ (ji22).toNat)) = ji24 := fun hle_ => by have h_ := hji24z hle_; rw [Int.one_mul] at h_; exact h_
                        obtain ⟨y368, hy368⟩ : ∃ y_ : List Int, y_ = (x6_1.set (x22_1 : Int).toNat (Go.bits .and .u64 (rd x6_1 x22_1) (IntKind.u64.wrap ((ji24) - 1)))) := ⟨_, rfl⟩
                        replace H : (nat_Low.l0 k1 a1 y368 (t359.length : Int) (wrap64 (x22_1 + 1))) = some (r1, r2) := by first | (rw [hy368]; with_reducible exact H) | (have H2_ := (Option.bind_some _ _).symm.trans H; rw [hy368]; with_reducible exact H2_) | (have H2_ := (Option.bind_some _ _).symm.trans H; with_reducible exact H2_) | with_reducible exact H | (rw [hy368]; exact H) | exact H
                        have Ny368 := Aside0.mk hy368
                        clear hy368
                        have H' := Aside0.mk H
                        clear H
                        have p367 : 0 ≤ (x22_1 : Int) := of_decide_eq_true (by first | (with_reducible assumption) | assumption)
                        have q367 : x22_1 < (x6_1.length : Int) := of_decide_eq_true (by first | (with_reducible assumption) | assumption)
                        obtain ⟨ad367, e367, hx367_0⟩ := Kd.at_int (Kd.R_reads' HO_6.out).2.2 x22_1 p367 q367
                        cases e367
                        replace p367 := eq_true p367
                        replace q367 := eq_true q367
                        have p25 : 0 ≤ (x22_1 : Int) := of_decide_eq_true (by first | (with_reducible assumption) | assumption)
                        have q25 : (x22_1 : Int) < ((x6_1.length : Int) : Int) := of_decide_eq_true (by first | (with_reducible assumption) | assumption)
                        obtain ⟨go25, co25, eo25, gb25, gl25, cl25, HG25⟩ := Kd.R_form HO_6.out (by omega)
                        (first | cases eo25 | (injection eo25 with ea_ en_ ec_; (first | subst ea_ | (injection ea_ with ea_; subst ea_)); subst ec_; clear en_))
                        have GB25 := Aside0.mk gb25
                        have GG25 := Aside0.mk HG25
                        clear gb25 gl25 HG25
                        (first | simp only [add_plain] at hx367_0 | skip)
                        obtain ⟨hx25_0, hf25_0⟩ := Kd.R_celln 0 HO_6.out (x22_1 : Int) p25 q25
                        replace p25 := eq_true p25
                        replace q25 := eq_true q25
                        have HP26 := Kd.R_putg HO_6.out (x22_1 : Int) (Go.bits .and .u64 (rd x6_1 x22_1) (IntKind.u64.wrap ((ji24) - 1)))
                        go_wp2_with (first | ((with_reducible refine gate_store (t := 29) (p := 48) rfl ?_); refine store_event (t := 29) (p := 48) (v := ?vo_w27) (w1 := (wr.setCell ⟨go25, (x22_1 : Int).toNat, none⟩ (.int .u64 (Go.bits .and .u64 (rd x6_1 x22_1) (IntKind.u64.wrap ((ji24) - 1)))))) ?hg ?ho ?hn ?hr ?_; (case ho => rfl); (case hg => rfl); (case hn => rfl); (case hr => first | (go_simp; done) | (go_simp; rfl)); intro w27 hw; have hg : wr.grownBy w27 (some go25) := (by rw [hw]; exact HP26.2); have hp_ : Kd.R (Kd.int .u64) 29 w27 w.heap.size (fun k_ => (w.heap.size ≤ k_)) (.slice (some ⟨go25, 0, none⟩) x6_1.length co11) y368 := (by rw [hw, Ny368.out]; exact HP26.1); clear HP26; have n0_ := Aside0.mk (hp_); have n1_ := Aside0.mk ((by rw [hw]; exact below_set (HB.out) GB25.out : Below w.heap.size w w27)); clear HO_6; clear HB; have HO_6 := n0_; have HB := n1_; clear n0_ n1_; clear hg hw hp_))
                        (try simp only [← hl6_1])
                        (try simp only [← hji22, ← hji24])
                        (try simp only [← hji22, ← hji24] at H')
                        go_roundg k1
                        case measure => have := HK1.out; omega
                        case rel => exact ⟨(y368), (wrap64 (x22_1 + 1)), (by first | rfl | (simp; done) | (simp [*]; done)), H', ⟨by have := HK1.out; omega⟩, ⟨by (try simp only [hl6_1]); (with_reducible repeat (first | apply Kd.R_alloc | apply Kd.R_drewN | apply Kd.R_drew)); exact HO_6.out⟩, ⟨by repeat (first | (with_reducible first | exact HB.out | apply below_alloc | apply pw_below_drewN | apply below_drew1) | exact HB.out)⟩⟩
                      · rw [if_neg c23] at H
                        exact absurd H (by simp)
                    · rw [if_neg c21] at H
                      exact absurd H (by simp)
                  · rw [if_neg c20] at H
                    exact absurd H (by simp)
                · rw [if_neg c19] at H
                  have c19b0 : (x22_1 == (wrap64 (Int.tdiv a1 64))) = false := beq_eq_false_iff_ne.mpr c19
                  have c19b1 : (x22_1 != (wrap64 (Int.tdiv a1 64))) = true := bne_iff_ne.mpr c19
                  have H' := Aside0.mk H
                  clear H
                  go_wp2
                  (try simp only [← hl6_1])
                  go_roundg k1
                  case measure => have := HK1.out; omega
                  case rel => exact ⟨(x6_1), (wrap64 (x22_1 + 1)), (by first | rfl | (simp; done) | (simp [*]; done)), H', ⟨by have := HK1.out; omega⟩, ⟨by (try simp only [hl6_1]); (with_reducible repeat (first | apply Kd.R_alloc | apply Kd.R_drewN | apply Kd.R_drew)); exact HO_6.out⟩, ⟨by repeat (first | (with_reducible first | exact HB.out | apply below_alloc | apply pw_below_drewN | apply below_drew1) | exact HB.out)⟩⟩
            · rw [if_neg c12] at H
              have c12b0 : decide (x22_1 < (t359.length : Int)) = false := decide_eq_false c12
              (try (have c12h0 := c12b0; simp only [hl6_1] at c12h0))
              clear c12
              replace H := Option.bind_eq_some_iff.mp H
              obtain ⟨⟨t362, t365⟩, A280, H⟩ := H
              replace H : (some (t362, t365)) = some (r1, r2) := H
              have A28 := Aside0.mk A280
              clear A280
              simp only [Option.some.injEq, Prod.mk.injEq] at H
              obtain ⟨rfl, rfl⟩ := H
              go_wp2_with (first | ((with_reducible refine gate_callee (f := 35) rfl ?_); refine goesL_ (some 51) rfl rfl Tryd.func35 (by kernel_rfl) rfl #[.slice Ao11 x6_1.length co11] rfl (by (try simp only [List.map_toArray, List.map_cons, List.map_nil]); first | done | rfl | (simp only [List.length_drop, List.length_take]; rfl)) ?_; (with_reducible refine (nat_cut.calls k1 (fun k_ => some k_ = (.slice Ao11 x6_1.length co11 : Value).ownBlock) _ _ x6_1 t362 t365 _ ?side1 A28.out).mono ?_); (case side1 => exact Kd.R_V (Kd.R_tight rfl (HO_6.out))); rintro e w29 ⟨v363, rfl, ho0, hb⟩; refine ⟨_, rfl, ?_⟩; have n0_ := Aside0.mk (Kd.R_below (by (with_reducible repeat (first | apply Kd.R_alloc | apply Kd.R_drewN | apply Kd.R_drew)); exact HO_6.out) hb); have n1_ := Aside0.mk (Kd.V_lower (Kd.V_mono (ok' := fun k_ => (w.heap.size ≤ k_)) ho0 (fun k_ hk_ => Or.elim hk_ (fun hs_ => ((HO_6.out).1 k_ hs_.symm)) (fun hn_ => (Nat.le_trans (below_size (by repeat (first | (with_reducible first | exact HB.out | apply below_alloc | apply pw_below_drewN | apply below_drew1) | exact HB.out))) hn_)))) (below_size (by repeat (first | (with_reducible first | exact HB.out | apply below_alloc | apply pw_below_drewN | apply below_drew1) | exact HB.out)))); have n2_ := Aside0.mk (below_step (by repeat (first | (with_reducible first | exact HB.out | apply below_alloc | apply pw_below_drewN | apply below_drew1) | exact HB.out)) hb); clear HO_6; clear HB; have HO_6 := n0_; have HO364 := n1_; have HB := n2_; clear n0_ n1_ n2_; (try clear hb); (try clear hb2); (try clear hk); (try clear hi); (try clear ho0)))
              go_ret2
              exact ⟨_, by first | rfl | (simp [errW_none, errW_some] <;> rfl) | (simp [*, errW_none, errW_some] <;> rfl), by (with_reducible repeat (first | apply Kd.V_alloc | apply Kd.V_drewN | apply Kd.V_drew)); exact HO364.out, by repeat (first | (with_reducible first | exact HB.out | apply below_alloc | apply pw_below_drewN | apply below_drew1) | exact HB.out)⟩

end Go.Proofs.YtnicfpilpafddaaDoor.PT
