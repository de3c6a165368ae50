-- printed by a program
import Derived.Test.YtcdnoklokoplaaaDoorPEx0
import Derived.Test.YtcdnoklokoplaaaDoorPEx1
import Derived.Test.YtcdnoklokoplaaaDoorPEx2
import Derived.Test.YtcdnoklokoplaaaDoorPEx3
import Derived.Test.YtcdnoklokoplaaaDoorPEx5
import Derived.Test.YtcdnoklokoplaaaDoorPEx11
import Derived.Test.YtcdnoklokoplaaaDoorPEx12
namespace Go.Proofs.YtcdnoklokoplaaaDoor.PE
open Go.Proofs.YtcdnoklokoplaaaDoorX
open Go.RowKit Go.Proofs.YtcdnoklokoplaaaDoorW.PrintWords Go.Proofs.YtcdnoklokoplaaaDoorW.PrintLast Go.Proofs.YtcdnoklokoplaaaDoorW.PrintMore
attribute [local go_sem] max2_int min2_int max_two min_two max_three min_three max_four min_four   -- for this text's walks alone
set_option linter.unusedVariables false
set_option linter.unusedSimpArgs false

/-! ### soft_Fma: function 28 -/
def soft_Fma.f (k : Nat) (a0 : Int) (a1 : Int) (a2 : Int) : Option (Int) := (soft_fma.f k a0 a1 a2).bind fun bt497 => (some bt497.1)
theorem soft_Fma.mono : ∀ a0 a1 a2 k, LeO (soft_Fma.f k a0 a1 a2) (soft_Fma.f (k + 1) a0 a1 a2) := by
 intro a0 a1 a2 k
 unfold soft_Fma.f
 repeat' first
   | (with_reducible exact soft_fma.mono _ _ _ _)
   | (with_reducible exact LeO.refl _)
   | (with_reducible exact LeO.none _)
   | (with_reducible refine LeO.ite ?_ ?_)
   | (with_reducible refine LeO.bind ?_ (fun _ => ?_))
   | exact soft_fma.mono _ _ _ _
   | exact LeO.none _
   | refine LeO.ite ?_ ?_
   | refine LeO.bind ?_ (fun _ => ?_)
set_option maxHeartbeats 8000000 in
set_option maxRecDepth 100000 in
theorem soft_Fma.calls (k : Nat) (a0 : Int) (a1 : Int) (a2 : Int) (r : Int) (w : World) (hT : Kd.C (Kd.int .u8) w (some ⟨0, 0, none⟩) 64 tabL) (h : soft_Fma.f k a0 a1 a2 = some r) :
  Calls Tryd.prog 28 #[.int .u64 a0, .int .u64 a1, .int .u64 a2] w fun e w' => e = .returned (.int .u64 r) ∧ Below w.heap.size w w' := by
 have HT := Aside0.mk hT
 clear hT
 have HB := Aside0.mk (Below.refl w.heap.size w)
 have H : ((soft_fma.f k a0 a1 a2).bind fun bt497 => (some bt497.1)) = some r := h
 clear h
 obtain ⟨⟨t497, t498⟩, A40, H⟩ := Option.bind_eq_some_iff.mp H
 dsimp only at H
 have A4 := Aside0.mk A40
 clear A40
 obtain rfl := Option.some.inj H
 go_enter Tryd.func28, Tryd.ntmps28
 go_wp2_with (first | ((with_reducible refine gate_callee (f := 59) rfl ?_); refine goesL_ (some 13) rfl rfl Tryd.func59 (by kernel_rfl) rfl #[.int .u64 a0, .int .u64 a1, .int .u64 a2] rfl (by (try simp only [List.map_toArray, List.map_cons, List.map_nil]); first | done | rfl) ?_; (with_reducible refine (soft_fma.calls k a0 a1 a2 t497 t498 _ ?side1 A4.out).mono ?_); (case side1 => exact cS HT.out); rintro e w5 ⟨rfl, hb⟩; refine ⟨_, rfl, ?_⟩; replace HB := hB HB hb; (try clear hb); (try clear hb2); (try clear hk); (try clear hi)))
 go_ret
 exact ⟨by first | rfl | (simp [errW_none, errW_some] <;> rfl) | (simp [*, errW_none, errW_some] <;> rfl), bS HB.out⟩

/-! ### abacuslaw05_times: function 31 -/
def abacuslaw05_times.f (k : Nat) (a0_0 : Bool) (l0_1 : List Int) (a1_0 : Bool) (l1_1 : List Int) : Option (Bool × List Int) := (nat_Mul.f k l0_1 l1_1).bind fun bt502 => (some ((a0_0 != a1_0), bt502.1))
theorem abacuslaw05_times.mono : ∀ a0 a1 a2 a3 k, LeO (abacuslaw05_times.f k a0 a1 a2 a3) (abacuslaw05_times.f (k + 1) a0 a1 a2 a3) := by
 intro a0 a1 a2 a3 k
 unfold abacuslaw05_times.f
 repeat' first
   | (with_reducible exact nat_Mul.mono _ _ _)
   | (with_reducible exact LeO.refl _)
   | (with_reducible exact LeO.none _)
   | (with_reducible refine LeO.ite ?_ ?_)
   | (with_reducible refine LeO.bind ?_ (fun _ => ?_))
   | exact nat_Mul.mono _ _ _
   | exact LeO.none _
   | refine LeO.ite ?_ ?_
   | refine LeO.bind ?_ (fun _ => ?_)
set_option maxHeartbeats 8000000 in
set_option maxRecDepth 100000 in
theorem abacuslaw05_times.calls (k : Nat) (a0_0 : Bool) (A0_1 : Option Addr) (c0_1 : Nat) (l0_1 : List Int) (a1_0 : Bool) (A1_1 : Option Addr) (c1_1 : Nat) (l1_1 : List Int) (r1 : Bool) (r2 : List Int) (w : World) (hr0_1 : Kd.C (Kd.int .u64) w A0_1 l0_1.length l0_1) (hc0_1 : l0_1.length ≤ c0_1) (hr1_1 : Kd.C (Kd.int .u64) w A1_1 l1_1.length l1_1) (hc1_1 : l1_1.length ≤ c1_1) (h : abacuslaw05_times.f k a0_0 l0_1 a1_0 l1_1 = some (r1, r2)) :
  Calls Tryd.prog 31 #[.agg #[.bool a0_0, .slice A0_1 l0_1.length c0_1], .agg #[.bool a1_0, .slice A1_1 l1_1.length c1_1]] w fun e w' => ∃ v1_ : Value, e = .returned (.agg #[.bool r1, v1_]) ∧ Kd.V (Kd.int .u64) 22 w' w.heap.size (fun k_ => (w.heap.size ≤ k_)) v1_ r2 ∧ Below w.heap.size w w' := by
 have hu27 := Tryd.underlying27
 have HR0_1 := Aside0.mk hr0_1
 have HC0_1 := Aside0.mk hc0_1
 clear hr0_1 hc0_1
 have HR1_1 := Aside0.mk hr1_1
 have HC1_1 := Aside0.mk hc1_1
 clear hr1_1 hc1_1
 have HB := Aside0.mk (Below.refl w.heap.size w)
 have H : ((nat_Mul.f k l0_1 l1_1).bind fun bt502 => (some ((a0_0 != a1_0), bt502.1))) = some (r1, r2) := h
 clear h
 obtain ⟨⟨t502, t505⟩, A30, H⟩ := Option.bind_eq_some_iff.mp H
 dsimp only at H
 have A3 := Aside0.mk A30
 clear A30
 simp only [Option.some.injEq, Prod.mk.injEq] at H
 obtain ⟨rfl, rfl⟩ := H
 go_enter Tryd.func31, Tryd.ntmps31
 go_wp2_with (first | ((with_reducible refine gate_dst (N := 2) rfl ?_); refine box_event ?hg (N := 2) ?hd (cs := #[.bool a0_0, .slice A0_1 l0_1.length c0_1]) (t := 27) ?hr ?_; (case hd => rfl); (case hg => rfl); (case hr => first | (go_simp; done) | (go_simp; rfl)); intro gb499 hg w4 hbox hb; have BK499 := Aside0.mk (hbox); have GW499 := Aside0.mk ((by rw [hg]; exact (below_size (bS HB.out)) : w.heap.size ≤ gb499)); have GE499 := Aside0.mk ((by rw [hg]; exact (below_size (bS HB.out)) : w.heap.size ≤ gb499)); replace HB := hB HB hb; clear hb hbox hg) | ((with_reducible refine gate_dst (N := 3) rfl ?_); refine box_event ?hg (N := 3) ?hd (cs := #[.bool a1_0, .slice A1_1 l1_1.length c1_1]) (t := 27) ?hr ?_; (case hd => rfl); (case hg => rfl); (case hr => first | (go_simp; done) | (go_simp; rfl)); intro gb500 hg w5 hbox hb; have BK500 := Aside0.mk (hbox); have GW500 := Aside0.mk ((by rw [hg]; exact (below_size (bG1 HB.out GE499.out)) : w.heap.size ≤ gb500)); have GE500 := Aside0.mk ((by rw [hg]; exact (below_size (bG1 HB.out GE499.out)) : w.heap.size ≤ gb500)); replace HB := Aside0.mk (below_step (bG1 HB.out GE499.out) hb); have NB499_500 := Aside0.mk ((by rw [hg]; exact Nat.ne_of_lt (blk_lt (g := gb499) (o := .cells #[.bool a0_0, .slice A0_1 l0_1.length c0_1] 27 (0, 0)) (by exact bkS BK499.out)) : gb499 ≠ gb500)); have NB500_499 := Aside0.mk ((by rw [hg]; exact Nat.ne_of_gt (blk_lt (g := gb499) (o := .cells #[.bool a0_0, .slice A0_1 l0_1.length c0_1] 27 (0, 0)) (by exact bkS BK499.out)) : gb500 ≠ gb499)); replace BK499 := bkB BK499 hb; clear hb hbox hg) | ((with_reducible refine gate_dst (N := 4) rfl ?_); refine box_event ?hg (N := 4) ?hd (cs := #[.bool false, .slice none 0 0]) (t := 27) ?hr ?_; (case hd => rfl); (case hg => rfl); (case hr => first | (go_simp; done) | (go_simp; rfl)); intro gb501 hg w6 hbox hb; have BK501 := Aside0.mk (hbox); have GW501 := Aside0.mk ((by rw [hg]; exact (below_size (bG2 HB.out GE499.out GE500.out)) : w.heap.size ≤ gb501)); have GE501 := Aside0.mk ((by rw [hg]; exact (below_size (bG2 HB.out GE499.out GE500.out)) : w.heap.size ≤ gb501)); replace HB := Aside0.mk (below_step (bG2 HB.out GE499.out GE500.out) hb); have NB499_501 := Aside0.mk ((by rw [hg]; exact Nat.ne_of_lt (blk_lt (g := gb499) (o := .cells #[.bool a0_0, .slice A0_1 l0_1.length c0_1] 27 (0, 0)) (by exact bkS BK499.out)) : gb499 ≠ gb501)); have NB501_499 := Aside0.mk ((by rw [hg]; exact Nat.ne_of_gt (blk_lt (g := gb499) (o := .cells #[.bool a0_0, .slice A0_1 l0_1.length c0_1] 27 (0, 0)) (by exact bkS BK499.out)) : gb501 ≠ gb499)); replace BK499 := bkB BK499 hb; have NB500_501 := Aside0.mk ((by rw [hg]; exact Nat.ne_of_lt (blk_lt (g := gb500) (o := .cells #[.bool a1_0, .slice A1_1 l1_1.length c1_1] 27 (0, 0)) (by exact bkS BK500.out)) : gb500 ≠ gb501)); have NB501_500 := Aside0.mk ((by rw [hg]; exact Nat.ne_of_gt (blk_lt (g := gb500) (o := .cells #[.bool a1_0, .slice A1_1 l1_1.length c1_1] 27 (0, 0)) (by exact bkS BK500.out)) : gb501 ≠ gb500)); replace BK500 := bkB BK500 hb; clear hb hbox hg; have hnb7 := NB499_500.out; have hnc7 := NB500_499.out; have hnb8 := NB499_501.out; have hnc8 := NB501_499.out; have hcz9_0 : w6.cell? ⟨gb499, 0, none⟩ = some (.bool a0_0) := (blk_cell BK499.out 0).trans rfl; have hcz9_1 : w6.cell? ⟨gb499, 1, none⟩ = some (.slice A0_1 l0_1.length c0_1) := (blk_cell BK499.out 1).trans rfl; have hfz9_0 := blk_frozen BK499.out 0; have hfz9_1 := blk_frozen BK499.out 1; have hnb10 := NB500_501.out; have hnc10 := NB501_500.out; have hcz11_0 : w6.cell? ⟨gb500, 0, none⟩ = some (.bool a1_0) := (blk_cell BK500.out 0).trans rfl; have hcz11_1 : w6.cell? ⟨gb500, 1, none⟩ = some (.slice A1_1 l1_1.length c1_1) := (blk_cell BK500.out 1).trans rfl; have hfz11_0 := blk_frozen BK500.out 0; have hfz11_1 := blk_frozen BK500.out 1) | ((with_reducible refine gate_callee (f := 49) rfl ?_); refine goesL_ (some 12) rfl rfl Tryd.func49 (by kernel_rfl) rfl #[.slice A0_1 l0_1.length c0_1, .slice A1_1 l1_1.length c1_1] rfl (by (try simp only [List.map_toArray, List.map_cons, List.map_nil]); first | done | rfl) ?_; (with_reducible refine (nat_Mul.calls k _ _ l0_1 _ _ l1_1 t502 t505 _ ?side1 ?side2 ?side3 ?side4 A3.out).mono ?_); (case side1 => exact cS (Kd.C_below HR0_1.out HB.out)); (case side2 => exact HC0_1.out); (case side3 => exact cS (Kd.C_below HR1_1.out HB.out)); (case side4 => exact HC1_1.out); rintro e w12 ⟨v503, rfl, ho0, hb⟩; refine ⟨_, rfl, ?_⟩; have HO504 := Aside0.mk (Kd.V_lower (Kd.V_mono (ok' := fun k_ => (w.heap.size ≤ k_) ∧ k_ ≠ gb499 ∧ k_ ≠ gb500 ∧ k_ ≠ gb501) ho0 (fun k_ hk_ => ⟨(Nat.le_trans (below_size (bG3 HB.out GE499.out GE500.out GE501.out)) hk_), (Kd.freshB (g := gb499) (o := .cells #[.bool a0_0, .slice A0_1 l0_1.length c0_1] 27 (0, 0)) (by exact bkS BK499.out) k_ hk_), (Kd.freshB (g := gb500) (o := .cells #[.bool a1_0, .slice A1_1 l1_1.length c1_1] 27 (0, 0)) (by exact bkS BK500.out) k_ hk_), (Kd.freshB (g := gb501) (o := .cells #[.bool false, .slice none 0 0] 27 (0, 0)) (by exact bkS BK501.out) k_ hk_)⟩)) (below_size (bG3 HB.out GE499.out GE500.out GE501.out))); replace BK499 := bkB BK499 hb; replace BK500 := bkB BK500 hb; replace BK501 := bkB BK501 hb; replace HB := Aside0.mk (below_step (bG3 HB.out GE499.out GE500.out GE501.out) hb); (try clear hb); (try clear hb2); (try clear hk); (try clear hi); (try clear ho0); have hcz13_0 : w12.cell? ⟨gb499, 0, none⟩ = some (.bool a0_0) := (blk_cell BK499.out 0).trans rfl; have hcz13_1 : w12.cell? ⟨gb499, 1, none⟩ = some (.slice A0_1 l0_1.length c0_1) := (blk_cell BK499.out 1).trans rfl; have hfz13_0 := blk_frozen BK499.out 0; have hfz13_1 := blk_frozen BK499.out 1; have hcz14_0 : w12.cell? ⟨gb500, 0, none⟩ = some (.bool a1_0) := (blk_cell BK500.out 0).trans rfl; have hcz14_1 : w12.cell? ⟨gb500, 1, none⟩ = some (.slice A1_1 l1_1.length c1_1) := (blk_cell BK500.out 1).trans rfl; have hfz14_0 := blk_frozen BK500.out 0; have hfz14_1 := blk_frozen BK500.out 1; obtain ⟨Ao15, co15, eo15⟩ := Kd.V_slice HO504.out; subst eo15; have hcz16_0 : w12.cell? ⟨gb501, 0, none⟩ = some (.bool false) := (blk_cell BK501.out 0).trans rfl; have hcz16_1 : w12.cell? ⟨gb501, 1, none⟩ = some (.slice none 0 0) := (blk_cell BK501.out 1).trans rfl; have hfz16_0 := blk_frozen BK501.out 0; have hfz16_1 := blk_frozen BK501.out 1))
 refine bodyPost_ret (results_cell_row rfl _ _ gb501 27 #[.bool (a0_0 != a1_0), .slice Ao15 t502.length co15] (0, 0) _ rfl (by refine blkP (cs := #[.bool (a0_0 != a1_0), .slice none 0 0]) ?_ 1 _ rfl; refine blkP (cs := #[.bool false, .slice none 0 0]) ?_ 0 _ rfl; exact bkS BK501.out) Tryd.underlying27 rfl (by kernel_rfl)) rfl ?_
 exact ⟨_, by first | rfl | (simp [errW_none, errW_some] <;> rfl) | (simp [*, errW_none, errW_some] <;> rfl), by (with_reducible repeat (first | apply Kd.V_alloc | apply Kd.V_drewN | apply Kd.V_drew)); exact Kd.V_mono (Kd.V_far (p := ⟨gb501, 1, none⟩) (Kd.V_far (p := ⟨gb501, 0, none⟩) (Kd.V_mono HO504.out (fun k_ hk => (⟨hk, hk.2.2.2⟩ : _ ∧ k_ ≠ gb501))) (fun _ hk => hk.2) (.bool (a0_0 != a1_0))) (fun _ hk => hk.2) (.slice Ao15 t502.length co15)) (fun _ hk => hk.1.1), by repeat (first | (with_reducible first | exact HB.out | apply below_alloc | apply pw_below_drewN | apply below_drew1 | refine below_set ?_ GE499.out | refine below_set ?_ GE500.out | refine below_set ?_ GE501.out) | exact HB.out)⟩

/-! ### abacuslaw05_SoftTwoProduct: function 6 -/
mutual
def abacuslaw05_SoftTwoProduct.j0 : Nat → Int → Int → Bool → Option (Bool)
 | 0, _, _, _ => none
 | k + 1, x0, x1, x16 => if x16 = true then (some false) else ((abacuslaw05_finite.f x0).bind fun t509 => (if t509 = true then ((abacuslaw05_finite.f x1).bind fun t510 => (if t510 = true then ((ieee_Decode.f x0).bind fun bt511 => ((ieee_Decode.f x1).bind fun bt515 => (abacuslaw05_SoftTwoProduct.j1 k x0 x1 (decide ((wrap64 (bt511.2.2.2 + bt515.2.2.2)) < (-1074)))))) else (abacuslaw05_SoftTwoProduct.j1 k x0 x1 true))) else (abacuslaw05_SoftTwoProduct.j1 k x0 x1 true)))
def abacuslaw05_SoftTwoProduct.j1 : Nat → Int → Int → Bool → Option (Bool)
 | 0, _, _, _ => none
 | k + 1, x0, x1, x34 => if x34 = true then (some true) else ((soft_Mul.f k x0 x1).bind fun t519 => (if (Go.bits .andNot .u64 t519 9223372036854775808) = 9218868437227405312 then (some true) else ((ieee_Neg.f t519).bind fun t520 => ((soft_Fma.f k x0 x1 t520).bind fun t521 => ((abacuslaw05_finite.f t519).bind fun t522 => (if t522 = true then ((abacuslaw05_finite.f t521).bind fun t523 => (if t523 = true then ((abacuslaw05_units.f k x0).bind fun bt524 => ((abacuslaw05_units.f k x1).bind fun bt528 => ((abacuslaw05_times.f k bt524.1 bt524.2 bt528.1 bt528.2).bind fun bt532 => ((abacuslaw05_units.f k t519).bind fun bt536 => ((abacuslaw05_units.f k t521).bind fun bt540 => ((abacuslaw05_plus.f k bt536.1 bt536.2 bt540.1 bt540.2).bind fun bt544 => ((abacuslaw05_lifted.f k bt544.1 bt544.2 1074).bind fun bt548 => ((abacuslaw05_same.f k bt532.1 bt532.2 bt548.1 bt548.2).bind fun t552 => (some t552))))))))) else (some false))) else (some false)))))))
end
def abacuslaw05_SoftTwoProduct.f (k : Nat) (a0 : Int) (a1 : Int) : Option (Bool) := (abacuslaw05_works.f k).bind fun t506 => (if t506 = true then ((soft_Mul.f k 4613937818241073152 4611686018427387904).bind fun t507 => (if t507 = 4618441417868443648 then ((soft_Fma.f k 4611686018427387904 4613937818241073152 4613937818241073152).bind fun t508 => (abacuslaw05_SoftTwoProduct.j0 k a0 a1 (t508 != 4621256167635550208))) else (abacuslaw05_SoftTwoProduct.j0 k a0 a1 true))) else (abacuslaw05_SoftTwoProduct.j0 k a0 a1 true))
theorem abacuslaw05_SoftTwoProduct.mono_l : ∀ k, (∀ y0 y1 y2, LeO (abacuslaw05_SoftTwoProduct.j0 k y0 y1 y2) (abacuslaw05_SoftTwoProduct.j0 (k + 1) y0 y1 y2)) ∧ (∀ y0 y1 y2, LeO (abacuslaw05_SoftTwoProduct.j1 k y0 y1 y2) (abacuslaw05_SoftTwoProduct.j1 (k + 1) y0 y1 y2))
 | 0 => ⟨fun _ _ _ r h => by simp [abacuslaw05_SoftTwoProduct.j0] at h, fun _ _ _ r h => by simp [abacuslaw05_SoftTwoProduct.j1] at h⟩
 | k + 1 => by
  obtain ⟨ih0, ih1⟩ := abacuslaw05_SoftTwoProduct.mono_l k
  refine ⟨?_, ?_⟩
  ·intro y0 y1 y2
   unfold abacuslaw05_SoftTwoProduct.j0
   repeat' first
   | (with_reducible exact ih0 _ _ _)
   | (with_reducible exact ih1 _ _ _)
   | (with_reducible exact abacuslaw05_lifted.mono _ _ _ _)
   | (with_reducible exact abacuslaw05_plus.mono _ _ _ _ _)
   | (with_reducible exact abacuslaw05_same.mono _ _ _ _ _)
   | (with_reducible exact abacuslaw05_times.mono _ _ _ _ _)
   | (with_reducible exact abacuslaw05_units.mono _ _)
   | (with_reducible exact abacuslaw05_works.mono _)
   | (with_reducible exact soft_Fma.mono _ _ _ _)
   | (with_reducible exact soft_Mul.mono _ _ _)
   | (with_reducible exact LeO.refl _)
   | (with_reducible exact LeO.none _)
   | (with_reducible refine LeO.ite ?_ ?_)
   | (with_reducible refine LeO.bind ?_ (fun _ => ?_))
   | exact ih0 _ _ _
   | exact ih1 _ _ _
   | exact abacuslaw05_lifted.mono _ _ _ _
   | exact abacuslaw05_plus.mono _ _ _ _ _
   | exact abacuslaw05_same.mono _ _ _ _ _
   | exact abacuslaw05_times.mono _ _ _ _ _
   | exact abacuslaw05_units.mono _ _
   | exact abacuslaw05_works.mono _
   | exact soft_Fma.mono _ _ _ _
   | exact soft_Mul.mono _ _ _
   | exact LeO.none _
   | refine LeO.ite ?_ ?_
   | refine LeO.bind ?_ (fun _ => ?_)
  ·intro y0 y1 y2
   unfold abacuslaw05_SoftTwoProduct.j1
   repeat' first
   | (with_reducible exact ih0 _ _ _)
   | (with_reducible exact ih1 _ _ _)
   | (with_reducible exact abacuslaw05_lifted.mono _ _ _ _)
   | (with_reducible exact abacuslaw05_plus.mono _ _ _ _ _)
   | (with_reducible exact abacuslaw05_same.mono _ _ _ _ _)
   | (with_reducible exact abacuslaw05_times.mono _ _ _ _ _)
   | (with_reducible exact abacuslaw05_units.mono _ _)
   | (with_reducible exact abacuslaw05_works.mono _)
   | (with_reducible exact soft_Fma.mono _ _ _ _)
   | (with_reducible exact soft_Mul.mono _ _ _)
   | (with_reducible exact LeO.refl _)
   | (with_reducible exact LeO.none _)
   | (with_reducible refine LeO.ite ?_ ?_)
   | (with_reducible refine LeO.bind ?_ (fun _ => ?_))
   | exact ih0 _ _ _
   | exact ih1 _ _ _
   | exact abacuslaw05_lifted.mono _ _ _ _
   | exact abacuslaw05_plus.mono _ _ _ _ _
   | exact abacuslaw05_same.mono _ _ _ _ _
   | exact abacuslaw05_times.mono _ _ _ _ _
   | exact abacuslaw05_units.mono _ _
   | exact abacuslaw05_works.mono _
   | exact soft_Fma.mono _ _ _ _
   | exact soft_Mul.mono _ _ _
   | exact LeO.none _
   | refine LeO.ite ?_ ?_
   | refine LeO.bind ?_ (fun _ => ?_)
theorem abacuslaw05_SoftTwoProduct.mono : ∀ a0 a1 k, LeO (abacuslaw05_SoftTwoProduct.f k a0 a1) (abacuslaw05_SoftTwoProduct.f (k + 1) a0 a1) := by
 intro a0 a1 k
 obtain ⟨ih0, ih1⟩ := abacuslaw05_SoftTwoProduct.mono_l k
 unfold abacuslaw05_SoftTwoProduct.f
 repeat' first
   | (with_reducible exact ih0 _ _ _)
   | (with_reducible exact ih1 _ _ _)
   | (with_reducible exact abacuslaw05_lifted.mono _ _ _ _)
   | (with_reducible exact abacuslaw05_plus.mono _ _ _ _ _)
   | (with_reducible exact abacuslaw05_same.mono _ _ _ _ _)
   | (with_reducible exact abacuslaw05_times.mono _ _ _ _ _)
   | (with_reducible exact abacuslaw05_units.mono _ _)
   | (with_reducible exact abacuslaw05_works.mono _)
   | (with_reducible exact soft_Fma.mono _ _ _ _)
   | (with_reducible exact soft_Mul.mono _ _ _)
   | (with_reducible exact LeO.refl _)
   | (with_reducible exact LeO.none _)
   | (with_reducible refine LeO.ite ?_ ?_)
   | (with_reducible refine LeO.bind ?_ (fun _ => ?_))
   | exact ih0 _ _ _
   | exact ih1 _ _ _
   | exact abacuslaw05_lifted.mono _ _ _ _
   | exact abacuslaw05_plus.mono _ _ _ _ _
   | exact abacuslaw05_same.mono _ _ _ _ _
   | exact abacuslaw05_times.mono _ _ _ _ _
   | exact abacuslaw05_units.mono _ _
   | exact abacuslaw05_works.mono _
   | exact soft_Fma.mono _ _ _ _
   | exact soft_Mul.mono _ _ _
   | exact LeO.none _
   | refine LeO.ite ?_ ?_
   | refine LeO.bind ?_ (fun _ => ?_)
set_option maxHeartbeats 8000000 in
set_option maxRecDepth 100000 in
theorem abacuslaw05_SoftTwoProduct.calls (k : Nat) (a0 : Int) (a1 : Int) (r : Bool) (w : World) (hT : Kd.C (Kd.int .u8) w (some ⟨0, 0, none⟩) 64 tabL) (h : abacuslaw05_SoftTwoProduct.f k a0 a1 = some r) :
  Calls Tryd.prog 6 #[.int .u64 a0, .int .u64 a1] w fun e w' => e = .returned (.bool r) ∧ Below w.heap.size w w' := by
 have HT := Aside0.mk hT
 clear hT
 have HB := Aside0.mk (Below.refl w.heap.size w)
 have H : ((abacuslaw05_works.f k).bind fun t506 => (if t506 = true then ((soft_Mul.f k 4613937818241073152 4611686018427387904).bind fun t507 => (if t507 = 4618441417868443648 then ((soft_Fma.f k 4611686018427387904 4613937818241073152 4613937818241073152).bind fun t508 => (abacuslaw05_SoftTwoProduct.j0 k a0 a1 (t508 != 4621256167635550208))) else (abacuslaw05_SoftTwoProduct.j0 k a0 a1 true))) else (abacuslaw05_SoftTwoProduct.j0 k a0 a1 true))) = some r := h
 clear h
 have HC3 := Aside0.mk H
 clear H
 have hu39 := Tryd.underlying39
 go_enter Tryd.func6, Tryd.ntmps6
 go_upto_region 1 with (fail)
 go_cut [16] (fun v16 wc => ∃ (kq : Nat) (x16_2 : Bool), v16 = .bool x16_2 ∧ Aside0 (abacuslaw05_SoftTwoProduct.j0 kq a0 a1 x16_2 = some r) ∧ Aside0 (kq ≤ k) ∧ Aside0 (Below w.heap.size w wc))
 case first =>
  have H := HC3.out
  clear HC3
  obtain ⟨t506, A40, H⟩ := Option.bind_eq_some_iff.mp H
  have A4 := Aside0.mk A40
  clear A40
  by_cases c5 : t506 = true
  ·subst c5
   have H1 : ((soft_Mul.f k 4613937818241073152 4611686018427387904).bind fun t507 => (if t507 = 4618441417868443648 then ((soft_Fma.f k 4611686018427387904 4613937818241073152 4613937818241073152).bind fun t508 => (abacuslaw05_SoftTwoProduct.j0 k a0 a1 (t508 != 4621256167635550208))) else (abacuslaw05_SoftTwoProduct.j0 k a0 a1 true))) = some r := by rw [if_pos rfl] at H; exact H
   clear H
   have H := H1
   clear H1
   obtain ⟨t507, A60, H⟩ := Option.bind_eq_some_iff.mp H
   have A6 := Aside0.mk A60
   clear A60
   by_cases c7 : t507 = 4618441417868443648
   ·rw [if_pos c7] at H
    have c7b0 : (t507 == 4618441417868443648) = true := beq_iff_eq.mpr c7
    have c7b1 : (t507 != 4618441417868443648) = false := bne_eq_false_iff_eq.mpr c7
    clear c7
    (first | rw [c7b0] | (simp only [i64_w, i32_w]; rw [c7b0]) | rw [c7b1] | skip)
    obtain ⟨t508, A80, H⟩ := Option.bind_eq_some_iff.mp H
    have A8 := Aside0.mk A80
    clear A80
    have H' := Aside0.mk H
    clear H
    go_wp2_with (first | ((with_reducible refine gate_callee (f := 14) rfl ?_); refine goesL_ (some 7) rfl rfl Tryd.func14 (by kernel_rfl) rfl #[] rfl (by (try simp only [List.map_toArray, List.map_cons, List.map_nil]); first | done | rfl) ?_; (with_reducible refine (abacuslaw05_works.calls k  true _ A4.out).mono ?_); rintro e w9 ⟨rfl, hb⟩; refine ⟨_, rfl, ?_⟩; replace HB := hB HB hb; (try clear hb); (try clear hb2); (try clear hk); (try clear hi)) | (go_at_call 27; (with_reducible refine (soft_Mul.calls k 4613937818241073152 4611686018427387904 t507 _ ?side1 A6.out).mono ?_); (case side1 => exact cS (Kd.C_below HT.out HB.out)); rintro e w10 ⟨rfl, hb⟩; replace HB := hB HB hb; (try clear hb); (try clear hb2); (try clear hk); (try clear hi)) | (go_at_call 28; (with_reducible refine (soft_Fma.calls k 4611686018427387904 4613937818241073152 4613937818241073152 t508 _ ?side1 A8.out).mono ?_); (case side1 => exact cS (Kd.C_below HT.out HB.out)); rintro e w11 ⟨rfl, hb⟩; replace HB := hB HB hb; (try clear hb); (try clear hb2); (try clear hk); (try clear hi)))
    go_meet
    case rel => exact ⟨_, ((t508 != 4621256167635550208)), (by first | rfl | (simp; done) | (simp [*]; done)), H', ⟨by first | omega | exact Nat.le_refl _⟩, ⟨bS HB.out⟩⟩
   ·rw [if_neg c7] at H
    have c7b0 : (t507 == 4618441417868443648) = false := beq_eq_false_iff_ne.mpr c7
    have c7b1 : (t507 != 4618441417868443648) = true := bne_iff_ne.mpr c7
    (first | rw [c7b0] | (simp only [i64_w, i32_w]; rw [c7b0]) | rw [c7b1] | skip)
    have H' := Aside0.mk H
    clear H
    go_wp2_with (first | ((with_reducible refine gate_callee (f := 14) rfl ?_); refine goesL_ (some 7) rfl rfl Tryd.func14 (by kernel_rfl) rfl #[] rfl (by (try simp only [List.map_toArray, List.map_cons, List.map_nil]); first | done | rfl) ?_; (with_reducible refine (abacuslaw05_works.calls k  true _ A4.out).mono ?_); rintro e w12 ⟨rfl, hb⟩; refine ⟨_, rfl, ?_⟩; replace HB := hB HB hb; (try clear hb); (try clear hb2); (try clear hk); (try clear hi)) | (go_at_call 27; (with_reducible refine (soft_Mul.calls k 4613937818241073152 4611686018427387904 t507 _ ?side1 A6.out).mono ?_); (case side1 => exact cS (Kd.C_below HT.out HB.out)); rintro e w13 ⟨rfl, hb⟩; replace HB := hB HB hb; (try clear hb); (try clear hb2); (try clear hk); (try clear hi)))
    go_meet
    case rel => exact ⟨_, (true), (by first | rfl | (simp; done) | (simp [*]; done)), H', ⟨by first | omega | exact Nat.le_refl _⟩, ⟨bS HB.out⟩⟩
  ·replace c5 := Bool.eq_false_iff.mpr c5
   subst c5
   have H1 : (abacuslaw05_SoftTwoProduct.j0 k a0 a1 true) = some r := by rw [if_neg (show ¬ (false = true) by decide)] at H; exact H
   clear H
   have H := H1
   clear H1
   have H' := Aside0.mk H
   clear H
   go_wp2_with (first | ((with_reducible refine gate_callee (f := 14) rfl ?_); refine goesL_ (some 7) rfl rfl Tryd.func14 (by kernel_rfl) rfl #[] rfl (by (try simp only [List.map_toArray, List.map_cons, List.map_nil]); first | done | rfl) ?_; (with_reducible refine (abacuslaw05_works.calls k  false _ A4.out).mono ?_); rintro e w14 ⟨rfl, hb⟩; refine ⟨_, rfl, ?_⟩; replace HB := hB HB hb; (try clear hb); (try clear hb2); (try clear hk); (try clear hi)))
   go_meet
   case rel => exact ⟨_, (true), (by first | rfl | (simp; done) | (simp [*]; done)), H', ⟨by first | omega | exact Nat.le_refl _⟩, ⟨bS HB.out⟩⟩
 case rest =>
  clear HC3
  try clear c1
  try clear p2
  try clear c5
  try clear c6
  try clear c7
  try clear c7b0
  try clear c7b1
  try clear c14
  obtain ⟨kq, x16_2, rfl, HA, HJ2, HB⟩ := hcut
  cases kq with
  | zero => exact absurd HA.out (by simp [abacuslaw05_SoftTwoProduct.j0])
  | succ kj2 =>
   have H := HA.out
   clear HA
   simp only [abacuslaw05_SoftTwoProduct.j0] at H
   by_cases c15 : x16_2 = true
   ·subst c15
    have H1 : (some false) = some r := by rw [if_pos rfl] at H; exact H
    clear H
    have H := H1
    clear H1
    obtain rfl := Option.some.inj H
    go_wp2
    go_ret
    exact ⟨by first | rfl | (simp [errW_none, errW_some] <;> rfl) | (simp [*, errW_none, errW_some] <;> rfl), bS HB.out⟩
   ·replace c15 := Bool.eq_false_iff.mpr c15
    subst c15
    have H1 : ((abacuslaw05_finite.f a0).bind fun t509 => (if t509 = true then ((abacuslaw05_finite.f a1).bind fun t510 => (if t510 = true then ((ieee_Decode.f a0).bind fun bt511 => ((ieee_Decode.f a1).bind fun bt515 => (abacuslaw05_SoftTwoProduct.j1 kj2 a0 a1 (decide ((wrap64 (bt511.2.2.2 + bt515.2.2.2)) < (-1074)))))) else (abacuslaw05_SoftTwoProduct.j1 kj2 a0 a1 true))) else (abacuslaw05_SoftTwoProduct.j1 kj2 a0 a1 true))) = some r := by rw [if_neg (show ¬ (false = true) by decide)] at H; exact H
    clear H
    have H := H1
    clear H1
    have HC16 := Aside0.mk H
    clear H
    go_upto_region 3 with (fail)
    go_cut [34] (fun v34 wc => ∃ (kq : Nat) (x34_15 : Bool), v34 = .bool x34_15 ∧ Aside0 (abacuslaw05_SoftTwoProduct.j1 kq a0 a1 x34_15 = some r) ∧ Aside0 (kq ≤ kj2) ∧ Aside0 (Below w.heap.size w wc))
    case first =>
     have H := HC16.out
     clear HC16
     obtain ⟨t509, A170, H⟩ := Option.bind_eq_some_iff.mp H
     have A17 := Aside0.mk A170
     clear A170
     by_cases c18 : t509 = true
     ·subst c18
      have H1 : ((abacuslaw05_finite.f a1).bind fun t510 => (if t510 = true then ((ieee_Decode.f a0).bind fun bt511 => ((ieee_Decode.f a1).bind fun bt515 => (abacuslaw05_SoftTwoProduct.j1 kj2 a0 a1 (decide ((wrap64 (bt511.2.2.2 + bt515.2.2.2)) < (-1074)))))) else (abacuslaw05_SoftTwoProduct.j1 kj2 a0 a1 true))) = some r := by rw [if_pos rfl] at H; exact H
      clear H
      have H := H1
      clear H1
      obtain ⟨t510, A190, H⟩ := Option.bind_eq_some_iff.mp H
      have A19 := Aside0.mk A190
      clear A190
      by_cases c20 : t510 = true
      ·subst c20
       have H1 : ((ieee_Decode.f a0).bind fun bt511 => ((ieee_Decode.f a1).bind fun bt515 => (abacuslaw05_SoftTwoProduct.j1 kj2 a0 a1 (decide ((wrap64 (bt511.2.2.2 + bt515.2.2.2)) < (-1074)))))) = some r := by rw [if_pos rfl] at H; exact H
       clear H
       have H := H1
       clear H1
       obtain ⟨⟨t511, t512, t513, t514⟩, A210, H⟩ := Option.bind_eq_some_iff.mp H
       dsimp only at H
       have A21 := Aside0.mk A210
       clear A210
       obtain ⟨⟨t515, t516, t517, t518⟩, A220, H⟩ := Option.bind_eq_some_iff.mp H
       dsimp only at H
       have A22 := Aside0.mk A220
       clear A220
       have H' := Aside0.mk H
       clear H
       go_wp2_with (first | ((with_reducible refine gate_callee (f := 16) rfl ?_); refine goesL_ (some 18) rfl rfl Tryd.func16 (by kernel_rfl) rfl #[.int .u64 a0] rfl (by (try simp only [List.map_toArray, List.map_cons, List.map_nil]); first | done | rfl) ?_; (with_reducible refine (abacuslaw05_finite.calls a0 true _ A17.out).mono ?_); rintro e w' ⟨rfl, ⟨nd, rfl⟩⟩; refine ⟨_, rfl, ?_⟩) | (go_at_call 16; (with_reducible refine (abacuslaw05_finite.calls a1 true _ A19.out).mono ?_); rintro e w' ⟨rfl, ⟨nd, rfl⟩⟩) | (go_at_call 29; (with_reducible refine (ieee_Decode.calls a0 t511 t512 t513 t514 _ A21.out).mono ?_); rintro e w23 ⟨rfl, hb⟩; replace HB := hB HB hb; (try clear hb); (try clear hb2); (try clear hk); (try clear hi)) | (go_at_call 29; (with_reducible refine (ieee_Decode.calls a1 t515 t516 t517 t518 _ A22.out).mono ?_); rintro e w24 ⟨rfl, hb⟩; replace HB := hB HB hb; (try clear hb); (try clear hb2); (try clear hk); (try clear hi)))
       (go_simp; simp [Instr.field, asAgg, part, hu39]; go_simp)
       go_wp2_with (first | ((with_reducible refine gate_callee (f := 16) rfl ?_); refine goesL_ (some 18) rfl rfl Tryd.func16 (by kernel_rfl) rfl #[.int .u64 a0] rfl (by (try simp only [List.map_toArray, List.map_cons, List.map_nil]); first | done | rfl) ?_; (with_reducible refine (abacuslaw05_finite.calls a0 true _ A17.out).mono ?_); rintro e w' ⟨rfl, ⟨nd, rfl⟩⟩; refine ⟨_, rfl, ?_⟩) | (go_at_call 16; (with_reducible refine (abacuslaw05_finite.calls a1 true _ A19.out).mono ?_); rintro e w' ⟨rfl, ⟨nd, rfl⟩⟩) | (go_at_call 29; (with_reducible refine (ieee_Decode.calls a0 t511 t512 t513 t514 _ A21.out).mono ?_); rintro e w23 ⟨rfl, hb⟩; replace HB := hB HB hb; (try clear hb); (try clear hb2); (try clear hk); (try clear hi)) | (go_at_call 29; (with_reducible refine (ieee_Decode.calls a1 t515 t516 t517 t518 _ A22.out).mono ?_); rintro e w24 ⟨rfl, hb⟩; replace HB := hB HB hb; (try clear hb); (try clear hb2); (try clear hk); (try clear hi)))
       (go_simp; simp [Instr.field, asAgg, part, hu39]; go_simp)
       go_wp2_with (first | ((with_reducible refine gate_callee (f := 16) rfl ?_); refine goesL_ (some 18) rfl rfl Tryd.func16 (by kernel_rfl) rfl #[.int .u64 a0] rfl (by (try simp only [List.map_toArray, List.map_cons, List.map_nil]); first | done | rfl) ?_; (with_reducible refine (abacuslaw05_finite.calls a0 true _ A17.out).mono ?_); rintro e w' ⟨rfl, ⟨nd, rfl⟩⟩; refine ⟨_, rfl, ?_⟩) | (go_at_call 16; (with_reducible refine (abacuslaw05_finite.calls a1 true _ A19.out).mono ?_); rintro e w' ⟨rfl, ⟨nd, rfl⟩⟩) | (go_at_call 29; (with_reducible refine (ieee_Decode.calls a0 t511 t512 t513 t514 _ A21.out).mono ?_); rintro e w23 ⟨rfl, hb⟩; replace HB := hB HB hb; (try clear hb); (try clear hb2); (try clear hk); (try clear hi)) | (go_at_call 29; (with_reducible refine (ieee_Decode.calls a1 t515 t516 t517 t518 _ A22.out).mono ?_); rintro e w24 ⟨rfl, hb⟩; replace HB := hB HB hb; (try clear hb); (try clear hb2); (try clear hk); (try clear hi)))
       go_meet
       case rel => exact ⟨_, (decide ((wrap64 (t514 + t518)) < (-1074))), (by first | rfl | (have e_ := Option.some.inj (A17.out.symm.trans A19.out); cases e_; rfl) | (simp; done) | (simp [*]; done)), H', ⟨by have := HJ2.out; first | omega | exact Nat.le_refl _⟩, ⟨bS HB.out⟩⟩
      ·replace c20 := Bool.eq_false_iff.mpr c20
       subst c20
       have H1 : (abacuslaw05_SoftTwoProduct.j1 kj2 a0 a1 true) = some r := by rw [if_neg (show ¬ (false = true) by decide)] at H; exact H
       clear H
       have H := H1
       clear H1
       have H' := Aside0.mk H
       clear H
       go_wp2_with (first | ((with_reducible refine gate_callee (f := 16) rfl ?_); refine goesL_ (some 18) rfl rfl Tryd.func16 (by kernel_rfl) rfl #[.int .u64 a0] rfl (by (try simp only [List.map_toArray, List.map_cons, List.map_nil]); first | done | rfl) ?_; (with_reducible refine (abacuslaw05_finite.calls a0 true _ A17.out).mono ?_); rintro e w' ⟨rfl, ⟨nd, rfl⟩⟩; refine ⟨_, rfl, ?_⟩) | (go_at_call 16; (with_reducible refine (abacuslaw05_finite.calls a1 false _ A19.out).mono ?_); rintro e w' ⟨rfl, ⟨nd, rfl⟩⟩))
       go_meet
       case rel => exact ⟨_, (true), (by first | rfl | (have e_ := Option.some.inj (A17.out.symm.trans A19.out); cases e_; rfl) | (simp; done) | (simp [*]; done)), H', ⟨by have := HJ2.out; first | omega | exact Nat.le_refl _⟩, ⟨bS HB.out⟩⟩
     ·replace c18 := Bool.eq_false_iff.mpr c18
      subst c18
      have H1 : (abacuslaw05_SoftTwoProduct.j1 kj2 a0 a1 true) = some r := by rw [if_neg (show ¬ (false = true) by decide)] at H; exact H
      clear H
      have H := H1
      clear H1
      have H' := Aside0.mk H
      clear H
      go_wp2_with (first | ((with_reducible refine gate_callee (f := 16) rfl ?_); refine goesL_ (some 18) rfl rfl Tryd.func16 (by kernel_rfl) rfl #[.int .u64 a0] rfl (by (try simp only [List.map_toArray, List.map_cons, List.map_nil]); first | done | rfl) ?_; (with_reducible refine (abacuslaw05_finite.calls a0 false _ A17.out).mono ?_); rintro e w' ⟨rfl, ⟨nd, rfl⟩⟩; refine ⟨_, rfl, ?_⟩))
      go_meet
      case rel => exact ⟨_, (true), (by first | rfl | (simp; done) | (simp [*]; done)), H', ⟨by have := HJ2.out; first | omega | exact Nat.le_refl _⟩, ⟨bS HB.out⟩⟩
    case rest =>
     clear HC16
     try clear c1
     try clear c2
     try clear p2
     try clear c5
     try clear c6
     try clear p6
     try clear c7
     try clear c7b0
     try clear c7b1
     try clear c14
     try clear c15
     try clear c16
     try clear c18
     try clear c20
     try clear p2
     obtain ⟨kq, x34_15, rfl, HA, HJ15, HB⟩ := hcut
     cases kq with
     | zero => exact absurd HA.out (by simp [abacuslaw05_SoftTwoProduct.j1])
     | succ kj15 =>
      have H := HA.out
      clear HA
      simp only [abacuslaw05_SoftTwoProduct.j1] at H
      by_cases c25 : x34_15 = true
      ·subst c25
       have H1 : (some true) = some r := by rw [if_pos rfl] at H; exact H
       clear H
       have H := H1
       clear H1
       obtain rfl := Option.some.inj H
       go_wp2
       go_ret
       exact ⟨by first | rfl | (simp [errW_none, errW_some] <;> rfl) | (simp [*, errW_none, errW_some] <;> rfl), bS HB.out⟩
      ·replace c25 := Bool.eq_false_iff.mpr c25
       subst c25
       have H1 : ((soft_Mul.f kj15 a0 a1).bind fun t519 => (if (Go.bits .andNot .u64 t519 9223372036854775808) = 9218868437227405312 then (some true) else ((ieee_Neg.f t519).bind fun t520 => ((soft_Fma.f kj15 a0 a1 t520).bind fun t521 => ((abacuslaw05_finite.f t519).bind fun t522 => (if t522 = true then ((abacuslaw05_finite.f t521).bind fun t523 => (if t523 = true then ((abacuslaw05_units.f kj15 a0).bind fun bt524 => ((abacuslaw05_units.f kj15 a1).bind fun bt528 => ((abacuslaw05_times.f kj15 bt524.1 bt524.2 bt528.1 bt528.2).bind fun bt532 => ((abacuslaw05_units.f kj15 t519).bind fun bt536 => ((abacuslaw05_units.f kj15 t521).bind fun bt540 => ((abacuslaw05_plus.f kj15 bt536.1 bt536.2 bt540.1 bt540.2).bind fun bt544 => ((abacuslaw05_lifted.f kj15 bt544.1 bt544.2 1074).bind fun bt548 => ((abacuslaw05_same.f kj15 bt532.1 bt532.2 bt548.1 bt548.2).bind fun t552 => (some t552))))))))) else (some false))) else (some false))))))) = some r := by rw [if_neg (show ¬ (false = true) by decide)] at H; exact H
       clear H
       have H := H1
       clear H1
       obtain ⟨t519, A260, H⟩ := Option.bind_eq_some_iff.mp H
       have A26 := Aside0.mk A260
       clear A260
       by_cases c27 : (Go.bits .andNot .u64 t519 9223372036854775808) = 9218868437227405312
       ·rw [if_pos c27] at H
        have c27b0 : ((Go.bits .andNot .u64 t519 9223372036854775808) == 9218868437227405312) = true := beq_iff_eq.mpr c27
        have c27b1 : ((Go.bits .andNot .u64 t519 9223372036854775808) != 9218868437227405312) = false := bne_eq_false_iff_eq.mpr c27
        clear c27
        obtain rfl := Option.some.inj H
        go_wp2_with (first | ((with_reducible refine gate_callee (f := 27) rfl ?_); refine goesL_ (some 37) rfl rfl Tryd.func27 (by kernel_rfl) rfl #[.int .u64 a0, .int .u64 a1] rfl (by (try simp only [List.map_toArray, List.map_cons, List.map_nil]); first | done | rfl) ?_; (with_reducible refine (soft_Mul.calls kj15 a0 a1 t519 _ ?side1 A26.out).mono ?_); (case side1 => exact cS (Kd.C_below HT.out HB.out)); rintro e w28 ⟨rfl, hb⟩; refine ⟨_, rfl, ?_⟩; replace HB := hB HB hb; (try clear hb); (try clear hb2); (try clear hk); (try clear hi)))
        go_ret
        exact ⟨by first | rfl | (simp [errW_none, errW_some] <;> rfl) | (simp [*, errW_none, errW_some] <;> rfl), bS HB.out⟩
       ·rw [if_neg c27] at H
        have c27b0 : ((Go.bits .andNot .u64 t519 9223372036854775808) == 9218868437227405312) = false := beq_eq_false_iff_ne.mpr c27
        have c27b1 : ((Go.bits .andNot .u64 t519 9223372036854775808) != 9218868437227405312) = true := bne_iff_ne.mpr c27
        obtain ⟨t520, A290, H⟩ := Option.bind_eq_some_iff.mp H
        have A29 := Aside0.mk A290
        clear A290
        obtain ⟨t521, A300, H⟩ := Option.bind_eq_some_iff.mp H
        have A30 := Aside0.mk A300
        clear A300
        obtain ⟨t522, A310, H⟩ := Option.bind_eq_some_iff.mp H
        have A31 := Aside0.mk A310
        clear A310
        by_cases c32 : t522 = true
        ·subst c32
         have H1 : ((abacuslaw05_finite.f t521).bind fun t523 => (if t523 = true then ((abacuslaw05_units.f kj15 a0).bind fun bt524 => ((abacuslaw05_units.f kj15 a1).bind fun bt528 => ((abacuslaw05_times.f kj15 bt524.1 bt524.2 bt528.1 bt528.2).bind fun bt532 => ((abacuslaw05_units.f kj15 t519).bind fun bt536 => ((abacuslaw05_units.f kj15 t521).bind fun bt540 => ((abacuslaw05_plus.f kj15 bt536.1 bt536.2 bt540.1 bt540.2).bind fun bt544 => ((abacuslaw05_lifted.f kj15 bt544.1 bt544.2 1074).bind fun bt548 => ((abacuslaw05_same.f kj15 bt532.1 bt532.2 bt548.1 bt548.2).bind fun t552 => (some t552))))))))) else (some false))) = some r := by rw [if_pos rfl] at H; exact H
         clear H
         have H := H1
         clear H1
         obtain ⟨t523, A330, H⟩ := Option.bind_eq_some_iff.mp H
         have A33 := Aside0.mk A330
         clear A330
         by_cases c34 : t523 = true
         ·subst c34
          have H1 : ((abacuslaw05_units.f kj15 a0).bind fun bt524 => ((abacuslaw05_units.f kj15 a1).bind fun bt528 => ((abacuslaw05_times.f kj15 bt524.1 bt524.2 bt528.1 bt528.2).bind fun bt532 => ((abacuslaw05_units.f kj15 t519).bind fun bt536 => ((abacuslaw05_units.f kj15 t521).bind fun bt540 => ((abacuslaw05_plus.f kj15 bt536.1 bt536.2 bt540.1 bt540.2).bind fun bt544 => ((abacuslaw05_lifted.f kj15 bt544.1 bt544.2 1074).bind fun bt548 => ((abacuslaw05_same.f kj15 bt532.1 bt532.2 bt548.1 bt548.2).bind fun t552 => (some t552))))))))) = some r := by rw [if_pos rfl] at H; exact H
          clear H
          have H := H1
          clear H1
          obtain ⟨⟨t524, t525⟩, A350, H⟩ := Option.bind_eq_some_iff.mp H
          dsimp only at H
          have A35 := Aside0.mk A350
          clear A350
          obtain ⟨⟨t528, t529⟩, A360, H⟩ := Option.bind_eq_some_iff.mp H
          dsimp only at H
          have A36 := Aside0.mk A360
          clear A360
          obtain ⟨⟨t532, t533⟩, A370, H⟩ := Option.bind_eq_some_iff.mp H
          dsimp only at H
          have A37 := Aside0.mk A370
          clear A370
          obtain ⟨⟨t536, t537⟩, A380, H⟩ := Option.bind_eq_some_iff.mp H
          dsimp only at H
          have A38 := Aside0.mk A380
          clear A380
          obtain ⟨⟨t540, t541⟩, A390, H⟩ := Option.bind_eq_some_iff.mp H
          dsimp only at H
          have A39 := Aside0.mk A390
          clear A390
          obtain ⟨⟨t544, t545⟩, A400, H⟩ := Option.bind_eq_some_iff.mp H
          dsimp only at H
          have A40 := Aside0.mk A400
          clear A400
          obtain ⟨⟨t548, t549⟩, A410, H⟩ := Option.bind_eq_some_iff.mp H
          dsimp only at H
          have A41 := Aside0.mk A410
          clear A410
          obtain ⟨t552, A420, H⟩ := Option.bind_eq_some_iff.mp H
          have A42 := Aside0.mk A420
          clear A420
          obtain rfl := Option.some.inj H
          go_wp2_with (first | ((with_reducible refine gate_callee (f := 27) rfl ?_); refine goesL_ (some 37) rfl rfl Tryd.func27 (by kernel_rfl) rfl #[.int .u64 a0, .int .u64 a1] rfl (by (try simp only [List.map_toArray, List.map_cons, List.map_nil]); first | done | rfl) ?_; (with_reducible refine (soft_Mul.calls kj15 a0 a1 t519 _ ?side1 A26.out).mono ?_); (case side1 => exact cS (Kd.C_below HT.out HB.out)); rintro e w43 ⟨rfl, hb⟩; refine ⟨_, rfl, ?_⟩; replace HB := hB HB hb; (try clear hb); (try clear hb2); (try clear hk); (try clear hi)) | ((with_reducible refine gate_callee (f := 30) rfl ?_); refine goesL_ (some 44) rfl rfl Tryd.func30 (by kernel_rfl) rfl #[.int .u64 t519] rfl (by (try simp only [List.map_toArray, List.map_cons, List.map_nil]); first | done | rfl) ?_; (with_reducible refine (ieee_Neg.calls t519 t520 _ A29.out).mono ?_); rintro e w' ⟨rfl, ⟨nd, rfl⟩⟩; refine ⟨_, rfl, ?_⟩) | ((with_reducible refine gate_callee (f := 28) rfl ?_); refine goesL_ (some 45) rfl rfl Tryd.func28 (by kernel_rfl) rfl #[.int .u64 a0, .int .u64 a1, .int .u64 t520] rfl (by (try simp only [List.map_toArray, List.map_cons, List.map_nil]); first | done | rfl) ?_; (with_reducible refine (soft_Fma.calls kj15 a0 a1 t520 t521 _ ?side1 A30.out).mono ?_); (case side1 => exact (Kd.C_below HT.out (bS HB.out))); rintro e w44 ⟨rfl, hb⟩; refine ⟨_, rfl, ?_⟩; replace HB := hB HB hb; (try clear hb); (try clear hb2); (try clear hk); (try clear hi)) | ((with_reducible refine gate_callee (f := 16) rfl ?_); refine goesL_ (some 47) rfl rfl Tryd.func16 (by kernel_rfl) rfl #[.int .u64 t519] rfl (by (try simp only [List.map_toArray, List.map_cons, List.map_nil]); first | done | rfl) ?_; (with_reducible refine (abacuslaw05_finite.calls t519 true _ A31.out).mono ?_); rintro e w' ⟨rfl, ⟨nd, rfl⟩⟩; refine ⟨_, rfl, ?_⟩) | (go_at_call 16; (with_reducible refine (abacuslaw05_finite.calls t521 true _ A33.out).mono ?_); rintro e w' ⟨rfl, ⟨nd, rfl⟩⟩) | (go_at_call 17; (with_reducible refine (abacuslaw05_units.calls kj15 a0 t524 t525 _ A35.out).mono ?_); rintro e w45 ⟨v526, rfl, ho0, hb⟩; have HO527 := Aside0.mk (Kd.V_lower (Kd.V_mono (ok' := fun k_ => True) ho0 (fun k_ hk_ => trivial)) (below_size (bS HB.out))); replace HB := hB HB hb; (try clear hb); (try clear hb2); (try clear hk); (try clear hi); (try clear ho0)) | (go_at_call 17; (with_reducible refine (abacuslaw05_units.calls kj15 a1 t528 t529 _ A36.out).mono ?_); rintro e w46 ⟨v530, rfl, ho0, hb⟩; replace HO527 := vB HO527 hb; have HO531 := Aside0.mk (Kd.V_lower (Kd.V_mono (ok' := fun k_ => True) ho0 (fun k_ hk_ => trivial)) (below_size (bS HB.out))); replace HB := hB HB hb; (try clear hb); (try clear hb2); (try clear hk); (try clear hi); (try clear ho0); obtain ⟨Ao47, co47, eo47⟩ := Kd.V_slice HO527.out; subst eo47; obtain ⟨Ao48, co48, eo48⟩ := Kd.V_slice HO531.out; subst eo48) | (go_at_call 31; (with_reducible refine (abacuslaw05_times.calls kj15 t524 _ _ t525 t528 _ _ t529 t532 t533 _ ?side1 ?side2 ?side3 ?side4 A37.out).mono ?_); (case side1 => exact cS (Kd.V_reads' HO527.out).2.2); (case side2 => exact (Kd.V_reads' HO527.out).2.1); (case side3 => exact cS (Kd.V_reads' HO531.out).2.2); (case side4 => exact (Kd.V_reads' HO531.out).2.1); rintro e w49 ⟨v534, rfl, ho0, hb⟩; replace HO527 := vB HO527 hb; replace HO531 := vB HO531 hb; have HO535 := Aside0.mk (Kd.V_lower (Kd.V_mono (ok' := fun k_ => True) ho0 (fun k_ hk_ => trivial)) (below_size (bS HB.out))); replace HB := hB HB hb; (try clear hb); (try clear hb2); (try clear hk); (try clear hi); (try clear ho0)) | (go_at_call 17; (with_reducible refine (abacuslaw05_units.calls kj15 t519 t536 t537 _ A38.out).mono ?_); rintro e w50 ⟨v538, rfl, ho0, hb⟩; replace HO527 := vB HO527 hb; replace HO531 := vB HO531 hb; replace HO535 := vB HO535 hb; have HO539 := Aside0.mk (Kd.V_lower (Kd.V_mono (ok' := fun k_ => True) ho0 (fun k_ hk_ => trivial)) (below_size (bS HB.out))); replace HB := hB HB hb; (try clear hb); (try clear hb2); (try clear hk); (try clear hi); (try clear ho0)) | (go_at_call 17; (with_reducible refine (abacuslaw05_units.calls kj15 t521 t540 t541 _ A39.out).mono ?_); rintro e w51 ⟨v542, rfl, ho0, hb⟩; replace HO527 := vB HO527 hb; replace HO531 := vB HO531 hb; replace HO535 := vB HO535 hb; replace HO539 := vB HO539 hb; have HO543 := Aside0.mk (Kd.V_lower (Kd.V_mono (ok' := fun k_ => True) ho0 (fun k_ hk_ => trivial)) (below_size (bS HB.out))); replace HB := hB HB hb; (try clear hb); (try clear hb2); (try clear hk); (try clear hi); (try clear ho0); obtain ⟨Ao52, co52, eo52⟩ := Kd.V_slice HO539.out; subst eo52; obtain ⟨Ao53, co53, eo53⟩ := Kd.V_slice HO543.out; subst eo53) | (go_at_call 22; (with_reducible refine (abacuslaw05_plus.calls kj15 t536 (fun k_ => True) _ _ t537 t540 (fun k_ => True) _ _ t541 t544 t545 _ ?side1 ?side2 A40.out).mono ?_); (case side1 => exact HO539.out); (case side2 => exact HO543.out); rintro e w54 ⟨v546, rfl, ho0, hb⟩; replace HO527 := vB HO527 hb; replace HO531 := vB HO531 hb; replace HO535 := vB HO535 hb; replace HO539 := vB HO539 hb; replace HO543 := vB HO543 hb; have HO547 := Aside0.mk (Kd.V_lower (Kd.V_mono (ok' := fun k_ => True) ho0 (fun k_ hk_ => trivial)) (below_size (bS HB.out))); replace HB := hB HB hb; (try clear hb); (try clear hb2); (try clear hk); (try clear hi); (try clear ho0); obtain ⟨Ao55, co55, eo55⟩ := Kd.V_slice HO547.out; subst eo55) | (go_at_call 19; (with_reducible refine (abacuslaw05_lifted.calls kj15 t544 _ _ t545 1074 t548 t549 _ ?side1 ?side2 A41.out).mono ?_); (case side1 => exact cS (Kd.V_reads' HO547.out).2.2); (case side2 => exact (Kd.V_reads' HO547.out).2.1); rintro e w56 ⟨v550, rfl, ho0, hb⟩; replace HO527 := vB HO527 hb; replace HO531 := vB HO531 hb; replace HO535 := vB HO535 hb; replace HO539 := vB HO539 hb; replace HO543 := vB HO543 hb; replace HO547 := vB HO547 hb; have HO551 := Aside0.mk (Kd.V_lower (Kd.V_mono (ok' := fun k_ => True) ho0 (fun k_ hk_ => trivial)) (below_size (bS HB.out))); replace HB := hB HB hb; (try clear hb); (try clear hb2); (try clear hk); (try clear hi); (try clear ho0); obtain ⟨Ao57, co57, eo57⟩ := Kd.V_slice HO535.out; subst eo57; obtain ⟨Ao58, co58, eo58⟩ := Kd.V_slice HO551.out; subst eo58) | (go_at_call 21; (with_reducible refine (abacuslaw05_same.calls kj15 t532 _ _ t533 t548 _ _ t549 t552 _ ?side1 ?side2 ?side3 ?side4 A42.out).mono ?_); (case side1 => exact cS (Kd.V_reads' HO535.out).2.2); (case side2 => exact (Kd.V_reads' HO535.out).2.1); (case side3 => exact cS (Kd.V_reads' HO551.out).2.2); (case side4 => exact (Kd.V_reads' HO551.out).2.1); rintro e w59 ⟨rfl, hb⟩; replace HO527 := vB HO527 hb; replace HO531 := vB HO531 hb; replace HO535 := vB HO535 hb; replace HO539 := vB HO539 hb; replace HO543 := vB HO543 hb; replace HO547 := vB HO547 hb; replace HO551 := vB HO551 hb; replace HB := hB HB hb; (try clear hb); (try clear hb2); (try clear hk); (try clear hi)))
          go_ret
          exact ⟨by first | rfl | (simp [errW_none, errW_some] <;> rfl) | (simp [*, errW_none, errW_some] <;> rfl), bS HB.out⟩
         ·replace c34 := Bool.eq_false_iff.mpr c34
          subst c34
          have H1 : (some false) = some r := by rw [if_neg (show ¬ (false = true) by decide)] at H; exact H
          clear H
          have H := H1
          clear H1
          obtain rfl := Option.some.inj H
          go_wp2_with (first | ((with_reducible refine gate_callee (f := 27) rfl ?_); refine goesL_ (some 37) rfl rfl Tryd.func27 (by kernel_rfl) rfl #[.int .u64 a0, .int .u64 a1] rfl (by (try simp only [List.map_toArray, List.map_cons, List.map_nil]); first | done | rfl) ?_; (with_reducible refine (soft_Mul.calls kj15 a0 a1 t519 _ ?side1 A26.out).mono ?_); (case side1 => exact cS (Kd.C_below HT.out HB.out)); rintro e w60 ⟨rfl, hb⟩; refine ⟨_, rfl, ?_⟩; replace HB := hB HB hb; (try clear hb); (try clear hb2); (try clear hk); (try clear hi)) | ((with_reducible refine gate_callee (f := 30) rfl ?_); refine goesL_ (some 44) rfl rfl Tryd.func30 (by kernel_rfl) rfl #[.int .u64 t519] rfl (by (try simp only [List.map_toArray, List.map_cons, List.map_nil]); first | done | rfl) ?_; (with_reducible refine (ieee_Neg.calls t519 t520 _ A29.out).mono ?_); rintro e w' ⟨rfl, ⟨nd, rfl⟩⟩; refine ⟨_, rfl, ?_⟩) | ((with_reducible refine gate_callee (f := 28) rfl ?_); refine goesL_ (some 45) rfl rfl Tryd.func28 (by kernel_rfl) rfl #[.int .u64 a0, .int .u64 a1, .int .u64 t520] rfl (by (try simp only [List.map_toArray, List.map_cons, List.map_nil]); first | done | rfl) ?_; (with_reducible refine (soft_Fma.calls kj15 a0 a1 t520 t521 _ ?side1 A30.out).mono ?_); (case side1 => exact (Kd.C_below HT.out (bS HB.out))); rintro e w61 ⟨rfl, hb⟩; refine ⟨_, rfl, ?_⟩; replace HB := hB HB hb; (try clear hb); (try clear hb2); (try clear hk); (try clear hi)) | ((with_reducible refine gate_callee (f := 16) rfl ?_); refine goesL_ (some 47) rfl rfl Tryd.func16 (by kernel_rfl) rfl #[.int .u64 t519] rfl (by (try simp only [List.map_toArray, List.map_cons, List.map_nil]); first | done | rfl) ?_; (with_reducible refine (abacuslaw05_finite.calls t519 true _ A31.out).mono ?_); rintro e w' ⟨rfl, ⟨nd, rfl⟩⟩; refine ⟨_, rfl, ?_⟩) | (go_at_call 16; (with_reducible refine (abacuslaw05_finite.calls t521 false _ A33.out).mono ?_); rintro e w' ⟨rfl, ⟨nd, rfl⟩⟩))
          go_ret
          exact ⟨by first | rfl | (simp [errW_none, errW_some] <;> rfl) | (simp [*, errW_none, errW_some] <;> rfl), bS HB.out⟩
        ·replace c32 := Bool.eq_false_iff.mpr c32
         subst c32
         have H1 : (some false) = some r := by rw [if_neg (show ¬ (false = true) by decide)] at H; exact H
         clear H
         have H := H1
         clear H1
         obtain rfl := Option.some.inj H
         go_wp2_with (first | ((with_reducible refine gate_callee (f := 27) rfl ?_); refine goesL_ (some 37) rfl rfl Tryd.func27 (by kernel_rfl) rfl #[.int .u64 a0, .int .u64 a1] rfl (by (try simp only [List.map_toArray, List.map_cons, List.map_nil]); first | done | rfl) ?_; (with_reducible refine (soft_Mul.calls kj15 a0 a1 t519 _ ?side1 A26.out).mono ?_); (case side1 => exact cS (Kd.C_below HT.out HB.out)); rintro e w62 ⟨rfl, hb⟩; refine ⟨_, rfl, ?_⟩; replace HB := hB HB hb; (try clear hb); (try clear hb2); (try clear hk); (try clear hi)) | ((with_reducible refine gate_callee (f := 30) rfl ?_); refine goesL_ (some 44) rfl rfl Tryd.func30 (by kernel_rfl) rfl #[.int .u64 t519] rfl (by (try simp only [List.map_toArray, List.map_cons, List.map_nil]); first | done | rfl) ?_; (with_reducible refine (ieee_Neg.calls t519 t520 _ A29.out).mono ?_); rintro e w' ⟨rfl, ⟨nd, rfl⟩⟩; refine ⟨_, rfl, ?_⟩) | ((with_reducible refine gate_callee (f := 28) rfl ?_); refine goesL_ (some 45) rfl rfl Tryd.func28 (by kernel_rfl) rfl #[.int .u64 a0, .int .u64 a1, .int .u64 t520] rfl (by (try simp only [List.map_toArray, List.map_cons, List.map_nil]); first | done | rfl) ?_; (with_reducible refine (soft_Fma.calls kj15 a0 a1 t520 t521 _ ?side1 A30.out).mono ?_); (case side1 => exact (Kd.C_below HT.out (bS HB.out))); rintro e w63 ⟨rfl, hb⟩; refine ⟨_, rfl, ?_⟩; replace HB := hB HB hb; (try clear hb); (try clear hb2); (try clear hk); (try clear hi)) | ((with_reducible refine gate_callee (f := 16) rfl ?_); refine goesL_ (some 47) rfl rfl Tryd.func16 (by kernel_rfl) rfl #[.int .u64 t519] rfl (by (try simp only [List.map_toArray, List.map_cons, List.map_nil]); first | done | rfl) ?_; (with_reducible refine (abacuslaw05_finite.calls t519 false _ A31.out).mono ?_); rintro e w' ⟨rfl, ⟨nd, rfl⟩⟩; refine ⟨_, rfl, ?_⟩))
         go_ret
         exact ⟨by first | rfl | (simp [errW_none, errW_some] <;> rfl) | (simp [*, errW_none, errW_some] <;> rfl), bS HB.out⟩

/-- THE ONE PURE STATEMENT of abacuslaw05_SoftTwoProduct: yours. -/
def abacuslaw05_SoftTwoProduct.Pure : Prop := ∀ (a0 : Int) (a1 : Int), (Lit.int .u64 a0).wf = true → (Lit.int .u64 a1).wf = true → ∃ k, abacuslaw05_SoftTwoProduct.f k a0 a1 = some true
theorem abacuslaw05_SoftTwoProduct.walk (P : abacuslaw05_SoftTwoProduct.Pure) (a0 : Int) (a1 : Int) (w : World) (hT : Kd.C (Kd.int .u8) w (some ⟨0, 0, none⟩) 64 tabL) (w0 : (Lit.int .u64 a0).wf = true) (w1 : (Lit.int .u64 a1).wf = true) :
  Calls Tryd.prog 6 #[.int .u64 a0, .int .u64 a1] w fun e w' => e = .returned (.bool true) ∧ Below w.heap.size w w' := by
 obtain ⟨k, h⟩ := P a0 a1 w0 w1
 refine (abacuslaw05_SoftTwoProduct.calls k a0 a1 true w hT h).mono ?_
 rintro e w' ⟨rfl, hd⟩
 exact ⟨rfl, hd⟩

end Go.Proofs.YtcdnoklokoplaaaDoor.PE
