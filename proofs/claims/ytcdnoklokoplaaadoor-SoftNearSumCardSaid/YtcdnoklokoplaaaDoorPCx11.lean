-- printed by a program
import Derived.Test.YtcdnoklokoplaaaDoorPCx0
import Derived.Test.YtcdnoklokoplaaaDoorPCx1
import Derived.Test.YtcdnoklokoplaaaDoorPCx3
import Derived.Test.YtcdnoklokoplaaaDoorPCx10
namespace Go.Proofs.YtcdnoklokoplaaaDoor.PC
open Go.Proofs.YtcdnoklokoplaaaDoorX
open Go.RowKit Go.Proofs.YtcdnoklokoplaaaDoorW.PrintWords Go.Proofs.YtcdnoklokoplaaaDoorW.PrintLast Go.Proofs.YtcdnoklokoplaaaDoorW.PrintMore
attribute [local go_sem] max2_int min2_int max_two min_two max_three min_three max_four min_four   -- for this text's walks alone
set_option linter.unusedVariables false
set_option linter.unusedSimpArgs false

/-! ### abacuslaw05_nearest: function 25 -/
def abacuslaw05_nearest.f (k : Nat) (a0_0 : Bool) (l0_1 : List Int) (a1 : Int) (a2_0 : Bool) (l2_1 : List Int) : Option (Bool) := if (Go.bits .andNot .u64 a1 9223372036854775808) > 9218868437227405312 then (some false) else ((abacuslaw05_units.f k a1).bind fun bt463 => ((abacuslaw05_times.f k bt463.1 bt463.2 a2_0 l2_1).bind fun bt467 => ((abacuslaw05_apart.f k a0_0 l0_1 bt467.1 bt467.2).bind fun t471 => ((ieee_Up.f k a1).bind fun t474 => ((abacuslaw05_units.f k t474).bind fun bt475 => ((abacuslaw05_times.f k bt475.1 bt475.2 a2_0 l2_1).bind fun bt479 => ((abacuslaw05_apart.f k a0_0 l0_1 bt479.1 bt479.2).bind fun t483 => ((ieee_Down.f k a1).bind fun t486 => ((abacuslaw05_units.f k t486).bind fun bt487 => ((abacuslaw05_times.f k bt487.1 bt487.2 a2_0 l2_1).bind fun bt491 => ((abacuslaw05_apart.f k a0_0 l0_1 bt491.1 bt491.2).bind fun t495 => ((nat_Cmp.f k t471 t483).bind fun t498 => ((nat_Cmp.f k t471 t495).bind fun t499 => (if t498 > 0 then (some false) else (if t499 > 0 then (some false) else (if t498 < 0 then (if t499 < 0 then (some true) else (some ((Go.bits .and .u64 a1 1) == 0))) else (some ((Go.bits .and .u64 a1 1) == 0))))))))))))))))))
theorem abacuslaw05_nearest.mono : ∀ a0 a1 a2 a3 a4 k, LeO (abacuslaw05_nearest.f k a0 a1 a2 a3 a4) (abacuslaw05_nearest.f (k + 1) a0 a1 a2 a3 a4) := by
 intro a0 a1 a2 a3 a4 k
 unfold abacuslaw05_nearest.f
 repeat' first
   | (with_reducible exact abacuslaw05_apart.mono _ _ _ _ _)
   | (with_reducible exact abacuslaw05_times.mono _ _ _ _ _)
   | (with_reducible exact abacuslaw05_units.mono _ _)
   | (with_reducible exact ieee_Down.mono _ _)
   | (with_reducible exact ieee_Up.mono _ _)
   | (with_reducible exact nat_Cmp.mono _ _ _)
   | (with_reducible exact LeO.refl _)
   | (with_reducible exact LeO.none _)
   | (with_reducible refine LeO.ite ?_ ?_)
   | (with_reducible refine LeO.bind ?_ (fun _ => ?_))
   | exact abacuslaw05_apart.mono _ _ _ _ _
   | exact abacuslaw05_times.mono _ _ _ _ _
   | exact abacuslaw05_units.mono _ _
   | exact ieee_Down.mono _ _
   | exact ieee_Up.mono _ _
   | exact nat_Cmp.mono _ _ _
   | exact LeO.none _
   | refine LeO.ite ?_ ?_
   | refine LeO.bind ?_ (fun _ => ?_)
def abacuslaw05_nearest.T4 : Bool × List (List Nat × List Nat) := (true, [([], []), ([], []), ([1], [1]), ([2, 2], [2]), ([], []), ([3, 4, 3], [3, 4]), ([0, 5, 5], [0, 5]), ([6, 6, 0, 1, 2, 3, 4, 5, 6], [6])])
def abacuslaw05_nearest.B4 : List Nat := [0, 0, 2, 6, 0, 30, 63, 127]
theorem abacuslaw05_nearest.tab4 : rtab .any (opsOf Tryd.f25 4) = abacuslaw05_nearest.T4 := by kernel_rfl
theorem abacuslaw05_nearest.bits4 : waitsOk abacuslaw05_nearest.T4.2 abacuslaw05_nearest.B4 = true := by kernel_rfl
def abacuslaw05_nearest.T5 : Bool × List (List Nat × List Nat) := (true, [([], []), ([], []), ([1], [1]), ([2, 2], [2]), ([], []), ([3, 4, 3], [3, 4]), ([0, 5, 5], [0, 5]), ([6, 6, 0, 1, 2, 3, 4, 5, 6], [6])])
def abacuslaw05_nearest.B5 : List Nat := [0, 0, 2, 6, 0, 30, 63, 127]
theorem abacuslaw05_nearest.tab5 : rtab .any (opsOf Tryd.f25 5) = abacuslaw05_nearest.T5 := by kernel_rfl
theorem abacuslaw05_nearest.bits5 : waitsOk abacuslaw05_nearest.T5.2 abacuslaw05_nearest.B5 = true := by kernel_rfl
set_option maxHeartbeats 8000000 in
set_option maxRecDepth 100000 in
theorem abacuslaw05_nearest.calls (k : Nat) (a0_0 : Bool) (A0_1 : Option Addr) (c0_1 : Nat) (l0_1 : List Int) (a1 : Int) (a2_0 : Bool) (A2_1 : Option Addr) (c2_1 : Nat) (l2_1 : List Int) (r : Bool) (w : World) (hr0_1 : Kd.C (Kd.int .u64) w A0_1 l0_1.length l0_1) (hc0_1 : l0_1.length ≤ c0_1) (hr2_1 : Kd.C (Kd.int .u64) w A2_1 l2_1.length l2_1) (hc2_1 : l2_1.length ≤ c2_1) (h : abacuslaw05_nearest.f k a0_0 l0_1 a1 a2_0 l2_1 = some r) :
  Calls Tryd.prog 25 #[.agg #[.bool a0_0, .slice A0_1 l0_1.length c0_1], .int .u64 a1, .agg #[.bool a2_0, .slice A2_1 l2_1.length c2_1]] w fun e w' => e = .returned (.bool r) ∧ Below w.heap.size w w' := by
 have hu27 := Tryd.underlying27
 have HR0_1 := Aside0.mk hr0_1
 have HC0_1 := Aside0.mk hc0_1
 clear hr0_1 hc0_1
 have HR2_1 := Aside0.mk hr2_1
 have HC2_1 := Aside0.mk hc2_1
 clear hr2_1 hc2_1
 have HB := Aside0.mk (Below.refl w.heap.size w)
 have H : (if (Go.bits .andNot .u64 a1 9223372036854775808) > 9218868437227405312 then (some false) else ((abacuslaw05_units.f k a1).bind fun bt463 => ((abacuslaw05_times.f k bt463.1 bt463.2 a2_0 l2_1).bind fun bt467 => ((abacuslaw05_apart.f k a0_0 l0_1 bt467.1 bt467.2).bind fun t471 => ((ieee_Up.f k a1).bind fun t474 => ((abacuslaw05_units.f k t474).bind fun bt475 => ((abacuslaw05_times.f k bt475.1 bt475.2 a2_0 l2_1).bind fun bt479 => ((abacuslaw05_apart.f k a0_0 l0_1 bt479.1 bt479.2).bind fun t483 => ((ieee_Down.f k a1).bind fun t486 => ((abacuslaw05_units.f k t486).bind fun bt487 => ((abacuslaw05_times.f k bt487.1 bt487.2 a2_0 l2_1).bind fun bt491 => ((abacuslaw05_apart.f k a0_0 l0_1 bt491.1 bt491.2).bind fun t495 => ((nat_Cmp.f k t471 t483).bind fun t498 => ((nat_Cmp.f k t471 t495).bind fun t499 => (if t498 > 0 then (some false) else (if t499 > 0 then (some false) else (if t498 < 0 then (if t499 < 0 then (some true) else (some ((Go.bits .and .u64 a1 1) == 0))) else (some ((Go.bits .and .u64 a1 1) == 0))))))))))))))))))) = some r := h
 clear h
 by_cases c4 : (Go.bits .andNot .u64 a1 9223372036854775808) > 9218868437227405312
 ·rw [if_pos c4] at H
  have c4b0 : decide (9218868437227405312 < (Go.bits .andNot .u64 a1 9223372036854775808)) = true := decide_eq_true c4
  clear c4
  obtain rfl := Option.some.inj H
  go_enter Tryd.func25, Tryd.ntmps25
  go_wp2_with (first | ((with_reducible refine gate_dst (N := 3) rfl ?_); refine box_event ?hg (N := 3) ?hd (cs := #[.bool a0_0, .slice A0_1 l0_1.length c0_1]) (t := 27) ?hr ?_; (case hd => rfl); (case hg => rfl); (case hr => first | (go_simp; done) | (go_simp; rfl)); intro gb461 hg w5 hbox hb; have BK461 := Aside0.mk (hbox); have GW461 := Aside0.mk ((by rw [hg]; exact (below_size (bS HB.out)) : w.heap.size ≤ gb461)); have GE461 := Aside0.mk ((by rw [hg]; exact (below_size (bS HB.out)) : w.heap.size ≤ gb461)); replace HB := hB HB hb; clear hb hbox hg) | ((with_reducible refine gate_dst (N := 5) rfl ?_); refine box_event ?hg (N := 5) ?hd (cs := #[.bool a2_0, .slice A2_1 l2_1.length c2_1]) (t := 27) ?hr ?_; (case hd => rfl); (case hg => rfl); (case hr => first | (go_simp; done) | (go_simp; rfl)); intro gb462 hg w6 hbox hb; have BK462 := Aside0.mk (hbox); have GW462 := Aside0.mk ((by rw [hg]; exact (below_size (bG1 HB.out GE461.out)) : w.heap.size ≤ gb462)); have GE462 := Aside0.mk ((by rw [hg]; exact (below_size (bG1 HB.out GE461.out)) : w.heap.size ≤ gb462)); replace HB := Aside0.mk (below_step (bG1 HB.out GE461.out) hb); have NB461_462 := Aside0.mk ((by rw [hg]; exact Nat.ne_of_lt (blk_lt (g := gb461) (o := .cells #[.bool a0_0, .slice A0_1 l0_1.length c0_1] 27 (0, 0)) (by exact bkS BK461.out)) : gb461 ≠ gb462)); have NB462_461 := Aside0.mk ((by rw [hg]; exact Nat.ne_of_gt (blk_lt (g := gb461) (o := .cells #[.bool a0_0, .slice A0_1 l0_1.length c0_1] 27 (0, 0)) (by exact bkS BK461.out)) : gb462 ≠ gb461)); replace BK461 := bkB BK461 hb; clear hb hbox hg))
  go_ret
  exact ⟨by first | rfl | (simp [errW_none, errW_some] <;> rfl) | (simp [*, errW_none, errW_some] <;> rfl), bG2 HB.out GE461.out GE462.out⟩
 ·rw [if_neg c4] at H
  have c4b0 : decide (9218868437227405312 < (Go.bits .andNot .u64 a1 9223372036854775808)) = false := decide_eq_false c4
  clear c4
  replace H := Option.bind_eq_some_iff.mp H
  obtain ⟨⟨t463, t464⟩, A70, H⟩ := H
  replace H : ((abacuslaw05_times.f k t463 t464 a2_0 l2_1).bind fun bt467 => ((abacuslaw05_apart.f k a0_0 l0_1 bt467.1 bt467.2).bind fun t471 => ((ieee_Up.f k a1).bind fun t474 => ((abacuslaw05_units.f k t474).bind fun bt475 => ((abacuslaw05_times.f k bt475.1 bt475.2 a2_0 l2_1).bind fun bt479 => ((abacuslaw05_apart.f k a0_0 l0_1 bt479.1 bt479.2).bind fun t483 => ((ieee_Down.f k a1).bind fun t486 => ((abacuslaw05_units.f k t486).bind fun bt487 => ((abacuslaw05_times.f k bt487.1 bt487.2 a2_0 l2_1).bind fun bt491 => ((abacuslaw05_apart.f k a0_0 l0_1 bt491.1 bt491.2).bind fun t495 => ((nat_Cmp.f k t471 t483).bind fun t498 => ((nat_Cmp.f k t471 t495).bind fun t499 => (if t498 > 0 then (some false) else (if t499 > 0 then (some false) else (if t498 < 0 then (if t499 < 0 then (some true) else (some ((Go.bits .and .u64 a1 1) == 0))) else (some ((Go.bits .and .u64 a1 1) == 0))))))))))))))))) = some r := H
  have A7 := Aside0.mk A70
  clear A70
  replace H := Option.bind_eq_some_iff.mp H
  obtain ⟨⟨t467, t468⟩, A80, H⟩ := H
  replace H : ((abacuslaw05_apart.f k a0_0 l0_1 t467 t468).bind fun t471 => ((ieee_Up.f k a1).bind fun t474 => ((abacuslaw05_units.f k t474).bind fun bt475 => ((abacuslaw05_times.f k bt475.1 bt475.2 a2_0 l2_1).bind fun bt479 => ((abacuslaw05_apart.f k a0_0 l0_1 bt479.1 bt479.2).bind fun t483 => ((ieee_Down.f k a1).bind fun t486 => ((abacuslaw05_units.f k t486).bind fun bt487 => ((abacuslaw05_times.f k bt487.1 bt487.2 a2_0 l2_1).bind fun bt491 => ((abacuslaw05_apart.f k a0_0 l0_1 bt491.1 bt491.2).bind fun t495 => ((nat_Cmp.f k t471 t483).bind fun t498 => ((nat_Cmp.f k t471 t495).bind fun t499 => (if t498 > 0 then (some false) else (if t499 > 0 then (some false) else (if t498 < 0 then (if t499 < 0 then (some true) else (some ((Go.bits .and .u64 a1 1) == 0))) else (some ((Go.bits .and .u64 a1 1) == 0)))))))))))))))) = some r := H
  have A8 := Aside0.mk A80
  clear A80
  replace H := Option.bind_eq_some_iff.mp H
  obtain ⟨t471, A90, H⟩ := H
  replace H : ((ieee_Up.f k a1).bind fun t474 => ((abacuslaw05_units.f k t474).bind fun bt475 => ((abacuslaw05_times.f k bt475.1 bt475.2 a2_0 l2_1).bind fun bt479 => ((abacuslaw05_apart.f k a0_0 l0_1 bt479.1 bt479.2).bind fun t483 => ((ieee_Down.f k a1).bind fun t486 => ((abacuslaw05_units.f k t486).bind fun bt487 => ((abacuslaw05_times.f k bt487.1 bt487.2 a2_0 l2_1).bind fun bt491 => ((abacuslaw05_apart.f k a0_0 l0_1 bt491.1 bt491.2).bind fun t495 => ((nat_Cmp.f k t471 t483).bind fun t498 => ((nat_Cmp.f k t471 t495).bind fun t499 => (if t498 > 0 then (some false) else (if t499 > 0 then (some false) else (if t498 < 0 then (if t499 < 0 then (some true) else (some ((Go.bits .and .u64 a1 1) == 0))) else (some ((Go.bits .and .u64 a1 1) == 0))))))))))))))) = some r := H
  have A9 := Aside0.mk A90
  clear A90
  replace H := Option.bind_eq_some_iff.mp H
  obtain ⟨t474, A100, H⟩ := H
  replace H : ((abacuslaw05_units.f k t474).bind fun bt475 => ((abacuslaw05_times.f k bt475.1 bt475.2 a2_0 l2_1).bind fun bt479 => ((abacuslaw05_apart.f k a0_0 l0_1 bt479.1 bt479.2).bind fun t483 => ((ieee_Down.f k a1).bind fun t486 => ((abacuslaw05_units.f k t486).bind fun bt487 => ((abacuslaw05_times.f k bt487.1 bt487.2 a2_0 l2_1).bind fun bt491 => ((abacuslaw05_apart.f k a0_0 l0_1 bt491.1 bt491.2).bind fun t495 => ((nat_Cmp.f k t471 t483).bind fun t498 => ((nat_Cmp.f k t471 t495).bind fun t499 => (if t498 > 0 then (some false) else (if t499 > 0 then (some false) else (if t498 < 0 then (if t499 < 0 then (some true) else (some ((Go.bits .and .u64 a1 1) == 0))) else (some ((Go.bits .and .u64 a1 1) == 0)))))))))))))) = some r := H
  have A10 := Aside0.mk A100
  clear A100
  replace H := Option.bind_eq_some_iff.mp H
  obtain ⟨⟨t475, t476⟩, A110, H⟩ := H
  replace H : ((abacuslaw05_times.f k t475 t476 a2_0 l2_1).bind fun bt479 => ((abacuslaw05_apart.f k a0_0 l0_1 bt479.1 bt479.2).bind fun t483 => ((ieee_Down.f k a1).bind fun t486 => ((abacuslaw05_units.f k t486).bind fun bt487 => ((abacuslaw05_times.f k bt487.1 bt487.2 a2_0 l2_1).bind fun bt491 => ((abacuslaw05_apart.f k a0_0 l0_1 bt491.1 bt491.2).bind fun t495 => ((nat_Cmp.f k t471 t483).bind fun t498 => ((nat_Cmp.f k t471 t495).bind fun t499 => (if t498 > 0 then (some false) else (if t499 > 0 then (some false) else (if t498 < 0 then (if t499 < 0 then (some true) else (some ((Go.bits .and .u64 a1 1) == 0))) else (some ((Go.bits .and .u64 a1 1) == 0))))))))))))) = some r := H
  have A11 := Aside0.mk A110
  clear A110
  replace H := Option.bind_eq_some_iff.mp H
  obtain ⟨⟨t479, t480⟩, A120, H⟩ := H
  replace H : ((abacuslaw05_apart.f k a0_0 l0_1 t479 t480).bind fun t483 => ((ieee_Down.f k a1).bind fun t486 => ((abacuslaw05_units.f k t486).bind fun bt487 => ((abacuslaw05_times.f k bt487.1 bt487.2 a2_0 l2_1).bind fun bt491 => ((abacuslaw05_apart.f k a0_0 l0_1 bt491.1 bt491.2).bind fun t495 => ((nat_Cmp.f k t471 t483).bind fun t498 => ((nat_Cmp.f k t471 t495).bind fun t499 => (if t498 > 0 then (some false) else (if t499 > 0 then (some false) else (if t498 < 0 then (if t499 < 0 then (some true) else (some ((Go.bits .and .u64 a1 1) == 0))) else (some ((Go.bits .and .u64 a1 1) == 0)))))))))))) = some r := H
  have A12 := Aside0.mk A120
  clear A120
  replace H := Option.bind_eq_some_iff.mp H
  obtain ⟨t483, A130, H⟩ := H
  replace H : ((ieee_Down.f k a1).bind fun t486 => ((abacuslaw05_units.f k t486).bind fun bt487 => ((abacuslaw05_times.f k bt487.1 bt487.2 a2_0 l2_1).bind fun bt491 => ((abacuslaw05_apart.f k a0_0 l0_1 bt491.1 bt491.2).bind fun t495 => ((nat_Cmp.f k t471 t483).bind fun t498 => ((nat_Cmp.f k t471 t495).bind fun t499 => (if t498 > 0 then (some false) else (if t499 > 0 then (some false) else (if t498 < 0 then (if t499 < 0 then (some true) else (some ((Go.bits .and .u64 a1 1) == 0))) else (some ((Go.bits .and .u64 a1 1) == 0))))))))))) = some r := H
  have A13 := Aside0.mk A130
  clear A130
  replace H := Option.bind_eq_some_iff.mp H
  obtain ⟨t486, A140, H⟩ := H
  replace H : ((abacuslaw05_units.f k t486).bind fun bt487 => ((abacuslaw05_times.f k bt487.1 bt487.2 a2_0 l2_1).bind fun bt491 => ((abacuslaw05_apart.f k a0_0 l0_1 bt491.1 bt491.2).bind fun t495 => ((nat_Cmp.f k t471 t483).bind fun t498 => ((nat_Cmp.f k t471 t495).bind fun t499 => (if t498 > 0 then (some false) else (if t499 > 0 then (some false) else (if t498 < 0 then (if t499 < 0 then (some true) else (some ((Go.bits .and .u64 a1 1) == 0))) else (some ((Go.bits .and .u64 a1 1) == 0)))))))))) = some r := H
  have A14 := Aside0.mk A140
  clear A140
  replace H := Option.bind_eq_some_iff.mp H
  obtain ⟨⟨t487, t488⟩, A150, H⟩ := H
  replace H : ((abacuslaw05_times.f k t487 t488 a2_0 l2_1).bind fun bt491 => ((abacuslaw05_apart.f k a0_0 l0_1 bt491.1 bt491.2).bind fun t495 => ((nat_Cmp.f k t471 t483).bind fun t498 => ((nat_Cmp.f k t471 t495).bind fun t499 => (if t498 > 0 then (some false) else (if t499 > 0 then (some false) else (if t498 < 0 then (if t499 < 0 then (some true) else (some ((Go.bits .and .u64 a1 1) == 0))) else (some ((Go.bits .and .u64 a1 1) == 0))))))))) = some r := H
  have A15 := Aside0.mk A150
  clear A150
  replace H := Option.bind_eq_some_iff.mp H
  obtain ⟨⟨t491, t492⟩, A160, H⟩ := H
  replace H : ((abacuslaw05_apart.f k a0_0 l0_1 t491 t492).bind fun t495 => ((nat_Cmp.f k t471 t483).bind fun t498 => ((nat_Cmp.f k t471 t495).bind fun t499 => (if t498 > 0 then (some false) else (if t499 > 0 then (some false) else (if t498 < 0 then (if t499 < 0 then (some true) else (some ((Go.bits .and .u64 a1 1) == 0))) else (some ((Go.bits .and .u64 a1 1) == 0)))))))) = some r := H
  have A16 := Aside0.mk A160
  clear A160
  replace H := Option.bind_eq_some_iff.mp H
  obtain ⟨t495, A170, H⟩ := H
  replace H : ((nat_Cmp.f k t471 t483).bind fun t498 => ((nat_Cmp.f k t471 t495).bind fun t499 => (if t498 > 0 then (some false) else (if t499 > 0 then (some false) else (if t498 < 0 then (if t499 < 0 then (some true) else (some ((Go.bits .and .u64 a1 1) == 0))) else (some ((Go.bits .and .u64 a1 1) == 0))))))) = some r := H
  have A17 := Aside0.mk A170
  clear A170
  replace H := Option.bind_eq_some_iff.mp H
  obtain ⟨t498, A180, H⟩ := H
  replace H : ((nat_Cmp.f k t471 t495).bind fun t499 => (if t498 > 0 then (some false) else (if t499 > 0 then (some false) else (if t498 < 0 then (if t499 < 0 then (some true) else (some ((Go.bits .and .u64 a1 1) == 0))) else (some ((Go.bits .and .u64 a1 1) == 0)))))) = some r := H
  have A18 := Aside0.mk A180
  clear A180
  replace H := Option.bind_eq_some_iff.mp H
  obtain ⟨t499, A190, H⟩ := H
  replace H : (if t498 > 0 then (some false) else (if t499 > 0 then (some false) else (if t498 < 0 then (if t499 < 0 then (some true) else (some ((Go.bits .and .u64 a1 1) == 0))) else (some ((Go.bits .and .u64 a1 1) == 0))))) = some r := H
  have A19 := Aside0.mk A190
  clear A190
  by_cases c20 : t498 > 0
  ·rw [if_pos c20] at H
   have c20b0 : decide (0 < t498) = true := decide_eq_true c20
   clear c20
   obtain rfl := Option.some.inj H
   go_enter Tryd.func25, Tryd.ntmps25
   try go_wp2_with (first | ((with_reducible refine gate_dst (N := 3) rfl ?_); refine box_event ?hg (N := 3) ?hd (cs := #[.bool a0_0, .slice A0_1 l0_1.length c0_1]) (t := 27) ?hr ?_; (case hd => rfl); (case hg => rfl); (case hr => first | (go_simp; done) | (go_simp; rfl)); intro gb461 hg w21 hbox hb; have BK461 := Aside0.mk (hbox); have GW461 := Aside0.mk ((by rw [hg]; exact (below_size (bS HB.out)) : w.heap.size ≤ gb461)); have GE461 := Aside0.mk ((by rw [hg]; exact (below_size (bS HB.out)) : w.heap.size ≤ gb461)); replace HB := hB HB hb; clear hb hbox hg) | ((with_reducible refine gate_dst (N := 5) rfl ?_); refine box_event ?hg (N := 5) ?hd (cs := #[.bool a2_0, .slice A2_1 l2_1.length c2_1]) (t := 27) ?hr ?_; (case hd => rfl); (case hg => rfl); (case hr => first | (go_simp; done) | (go_simp; rfl)); intro gb462 hg w22 hbox hb; have BK462 := Aside0.mk (hbox); have GW462 := Aside0.mk ((by rw [hg]; exact (below_size (bG1 HB.out GE461.out)) : w.heap.size ≤ gb462)); have GE462 := Aside0.mk ((by rw [hg]; exact (below_size (bG1 HB.out GE461.out)) : w.heap.size ≤ gb462)); replace HB := Aside0.mk (below_step (bG1 HB.out GE461.out) hb); have NB461_462 := Aside0.mk ((by rw [hg]; exact Nat.ne_of_lt (blk_lt (g := gb461) (o := .cells #[.bool a0_0, .slice A0_1 l0_1.length c0_1] 27 (0, 0)) (by exact bkS BK461.out)) : gb461 ≠ gb462)); have NB462_461 := Aside0.mk ((by rw [hg]; exact Nat.ne_of_gt (blk_lt (g := gb461) (o := .cells #[.bool a0_0, .slice A0_1 l0_1.length c0_1] 27 (0, 0)) (by exact bkS BK461.out)) : gb462 ≠ gb461)); replace BK461 := bkB BK461 hb; clear hb hbox hg))
   have n0_ := Aside0.mk (blk_drew BK461.out)
   have n1_ := Aside0.mk (blk_drew BK462.out)
   have n2_ := Aside0.mk (below_drew1 HB.out)
   clear BK461
   clear BK462
   clear HB
   have BK461 := n0_
   have BK462 := n1_
   have HB := n2_
   clear n0_ n1_ n2_
   refine start_ (n := 7) (S := fun w' => w'.cell? ⟨gb461, 0, none⟩ = some (.bool a0_0) ∧ w'.cell? ⟨gb461, 1, none⟩ = some (.slice A0_1 l0_1.length c0_1) ∧ w'.cell? ⟨gb462, 0, none⟩ = some (.bool a2_0) ∧ w'.cell? ⟨gb462, 1, none⟩ = some (.slice A2_1 l2_1.length c2_1)) (ds := []) #[false, false, false, false, false, false, false] (by kernel_rfl) rfl rfl ⟨(blk_cell BK461.out 0).trans rfl, (blk_cell BK461.out 1).trans rfl, (blk_cell BK462.out 0).trans rfl, (blk_cell BK462.out 1).trans rfl⟩ (fun hHeld => ?_)
   generalize w22.drew = w23 at BK461 BK462 HB hHeld ⊢
   refine pure_ (i := 1) (N := some 16) (v := ?_) (a' := ?_) #[false, true, false, false, false, false, false] rfl rfl (by kernel_rfl) (fun _ _ _ h => h) (Or.inl ⟨by rfl, ?_⟩) ?_ ?_
   rotate_left
   ·intro w'
    go_simp
    with_reducible rfl
   rotate_left
   ·simp only [Act.put, List.setIfInBounds_toArray, List.set_cons_zero, List.set_cons_succ, i64_w, i32_w]
    rfl
   refine take_ (i := 0) (N := some 15) (v := ?_) (a' := ?_) #[true, true, false, false, false, false, false] rfl rfl (by kernel_rfl) (fun _ _ _ h => h) (Or.inl ⟨by rfl, ?_⟩) hHeld ?_ ?_
   rotate_left
   ·rintro w' ⟨s0, s1, s2, s3⟩
    go_simp
    with_reducible rfl
   rotate_left
   ·simp only [Act.put, List.setIfInBounds_toArray, List.set_cons_zero, List.set_cons_succ, i64_w, i32_w]
    rfl
   refine take_ (i := 3) (N := some 18) (v := ?_) (a' := ?_) #[true, true, false, true, false, false, false] rfl rfl (by kernel_rfl) (fun _ _ _ h => h) (Or.inl ⟨by rfl, ?_⟩) hHeld ?_ ?_
   rotate_left
   ·rintro w' ⟨s0, s1, s2, s3⟩
    go_simp
    with_reducible rfl
   rotate_left
   ·simp only [Act.put, List.setIfInBounds_toArray, List.set_cons_zero, List.set_cons_succ, i64_w, i32_w]
    rfl
   refine one_ (i := 2) (N := some 17) #[true, true, true, true, false, false, false] rfl rfl (by kernel_rfl) (by decide) (fun K hK => ?_)
   refine goes_ Tryd.func17 (by kernel_rfl) rfl #[.int .u64 a1] (by rfl) rfl rfl (by (try simp only [List.map_toArray, List.map_cons, List.map_nil]); first | done | rfl) ?_
   with_reducible refine (abacuslaw05_units.calls k a1 t463 t464 _ A7.out).mono ?_
   rintro e w24 ⟨v465, rfl, ho0, hb⟩
   refine ⟨_, rfl, ?_⟩
   have n0_ := Aside0.mk (Kd.V_lower (Kd.V_mono (ok' := fun k_ => k_ ≠ gb461 ∧ k_ ≠ gb462) ho0 (fun k_ hk_ => ⟨(Kd.freshB (g := gb461) (o := .cells #[.bool a0_0, .slice A0_1 l0_1.length c0_1] 27 (0, 0)) (by exact bkS BK461.out) k_ hk_), (Kd.freshB (g := gb462) (o := .cells #[.bool a2_0, .slice A2_1 l2_1.length c2_1] 27 (0, 0)) (by exact bkS BK462.out) k_ hk_)⟩)) (below_size (bG2 HB.out GE461.out GE462.out)))
   have n1_ := Aside0.mk (blk_below (g := gb461) (o := .cells #[.bool a0_0, .slice A0_1 l0_1.length c0_1] 27 (0, 0)) (by exact bkS BK461.out) hb)
   have n2_ := Aside0.mk (blk_below (g := gb462) (o := .cells #[.bool a2_0, .slice A2_1 l2_1.length c2_1] 27 (0, 0)) (by exact bkS BK462.out) hb)
   have n3_ := Aside0.mk (below_step (bG2 HB.out GE461.out GE462.out) hb)
   clear BK461
   clear BK462
   clear HB
   have HO466 := n0_
   have BK461 := n1_
   have BK462 := n2_
   have HB := n3_
   clear n0_ n1_ n2_ n3_
   (try clear hb)
   (try clear hb2)
   (try clear hk)
   (try clear hi)
   (try clear ho0)
   obtain ⟨Ao25, co25, eo25⟩ := Kd.V_slice HO466.out
   (first | subst eo25 | (injection eo25 with f1_ f2_ f3_; have f4_ := f1_.symm; have f5_ := f3_.symm; clear f1_ f2_ f3_; subst f4_; subst f5_))
   refine hK.out _ _ ⟨(blk_cell BK461.out 0).trans rfl, (blk_cell BK461.out 1).trans rfl, (blk_cell BK462.out 0).trans rfl, (blk_cell BK462.out 1).trans rfl⟩ (fun hHeld => ?_)
   clear hK K
   refine norm_ (a' := ?_) ?_ ?_
   rotate_left
   ·show Act.put _ (some 17) _ = _
    simp only [Act.put, List.setIfInBounds_toArray, List.set_cons_zero, List.set_cons_succ, i64_w, i32_w]
    rfl
   refine one_ (i := 4) (N := some 19) #[true, true, true, true, true, false, false] rfl rfl (by kernel_rfl) (by decide) (fun K hK => ?_)
   refine goes_ Tryd.func31 (by kernel_rfl) rfl #[.agg #[.bool t463, .slice Ao25 t464.length co25], .agg #[.bool a2_0, .slice A2_1 l2_1.length c2_1]] (by rfl) rfl rfl (by (try simp only [List.map_toArray, List.map_cons, List.map_nil]); first | done | rfl) ?_
   with_reducible refine (abacuslaw05_times.calls k t463 _ _ t464 a2_0 _ _ l2_1 t467 t468 _ ?side1 ?side2 ?side3 ?side4 A8.out).mono ?_
   (case side1 => exact cS (Kd.V_reads' HO466.out).2.2)
   (case side2 => exact (Kd.V_reads' HO466.out).2.1)
   (case side3 => exact cS (Kd.C_below HR2_1.out HB.out))
   (case side4 => exact HC2_1.out)
   rintro e w26 ⟨v469, rfl, ho0, hb⟩
   refine ⟨_, rfl, ?_⟩
   have n0_ := Aside0.mk (Kd.V_below (vS <| HO466.out) hb)
   have n1_ := Aside0.mk (Kd.V_lower (Kd.V_mono (ok' := fun k_ => k_ ≠ gb461 ∧ k_ ≠ gb462) ho0 (fun k_ hk_ => ⟨(Kd.freshB (g := gb461) (o := .cells #[.bool a0_0, .slice A0_1 l0_1.length c0_1] 27 (0, 0)) (by exact bkS BK461.out) k_ hk_), (Kd.freshB (g := gb462) (o := .cells #[.bool a2_0, .slice A2_1 l2_1.length c2_1] 27 (0, 0)) (by exact bkS BK462.out) k_ hk_)⟩)) (below_size (bG2 HB.out GE461.out GE462.out)))
   have n2_ := Aside0.mk (blk_below (g := gb461) (o := .cells #[.bool a0_0, .slice A0_1 l0_1.length c0_1] 27 (0, 0)) (by exact bkS BK461.out) hb)
   have n3_ := Aside0.mk (blk_below (g := gb462) (o := .cells #[.bool a2_0, .slice A2_1 l2_1.length c2_1] 27 (0, 0)) (by exact bkS BK462.out) hb)
   have n4_ := Aside0.mk (below_step (bG2 HB.out GE461.out GE462.out) hb)
   clear HO466
   clear BK461
   clear BK462
   clear HB
   have HO466 := n0_
   have HO470 := n1_
   have BK461 := n2_
   have BK462 := n3_
   have HB := n4_
   clear n0_ n1_ n2_ n3_ n4_
   (try clear hb)
   (try clear hb2)
   (try clear hk)
   (try clear hi)
   (try clear ho0)
   obtain ⟨Ao27, co27, eo27⟩ := Kd.V_slice HO470.out
   (first | subst eo27 | (injection eo27 with f1_ f2_ f3_; have f4_ := f1_.symm; have f5_ := f3_.symm; clear f1_ f2_ f3_; subst f4_; subst f5_))
   refine hK.out _ _ ⟨(blk_cell BK461.out 0).trans rfl, (blk_cell BK461.out 1).trans rfl, (blk_cell BK462.out 0).trans rfl, (blk_cell BK462.out 1).trans rfl⟩ (fun hHeld => ?_)
   clear hK K
   refine norm_ (a' := ?_) ?_ ?_
   rotate_left
   ·show Act.put _ (some 19) _ = _
    simp only [Act.put, List.setIfInBounds_toArray, List.set_cons_zero, List.set_cons_succ, i64_w, i32_w]
    rfl
   refine one_ (i := 5) (N := some 20) #[true, true, true, true, true, true, false] rfl rfl (by kernel_rfl) (by decide) (fun K hK => ?_)
   refine goes_ Tryd.func54 (by kernel_rfl) rfl #[.agg #[.bool a0_0, .slice A0_1 l0_1.length c0_1], .agg #[.bool t467, .slice Ao27 t468.length co27]] (by rfl) rfl rfl (by (try simp only [List.map_toArray, List.map_cons, List.map_nil]); first | done | rfl) ?_
   with_reducible refine (abacuslaw05_apart.calls k a0_0 (fun k_ => k_ < w.heap.size) _ _ l0_1 t467 (fun k_ => (k_ ≠ gb461 ∧ k_ ≠ gb462)) _ _ t468 t471 _ ?side1 ?side2 A9.out).mono ?_
   (case side1 => exact Kd.V_mk HC0_1.out (Kd.F_below (Kd.C_F (Kd.heap_int .u64) HR0_1.out) (bG2 HB.out GE461.out GE462.out)))
   (case side2 => exact HO470.out)
   rintro e w28 ⟨v472, rfl, ho0, hb⟩
   refine ⟨_, rfl, ?_⟩
   have n0_ := Aside0.mk (Kd.V_below (vS <| HO466.out) hb)
   have n1_ := Aside0.mk (Kd.V_below (vS <| HO470.out) hb)
   have n2_ := Aside0.mk (Kd.V_lower (Kd.V_mono (ok' := fun k_ => k_ ≠ gb461 ∧ k_ ≠ gb462) ho0 (fun k_ hk_ => ⟨Or.elim hk_ (fun hs_ => Or.elim hs_ (fun hs_ => fun e_ => Nat.not_le.2 hs_ (by rw [e_]; exact GW461.out)) (fun hs_ => hs_.1)) (fun hn_ => (Kd.freshB (g := gb461) (o := .cells #[.bool a0_0, .slice A0_1 l0_1.length c0_1] 27 (0, 0)) (by exact bkS BK461.out) k_ hn_)), Or.elim hk_ (fun hs_ => Or.elim hs_ (fun hs_ => fun e_ => Nat.not_le.2 hs_ (by rw [e_]; exact GW462.out)) (fun hs_ => hs_.2)) (fun hn_ => (Kd.freshB (g := gb462) (o := .cells #[.bool a2_0, .slice A2_1 l2_1.length c2_1] 27 (0, 0)) (by exact bkS BK462.out) k_ hn_))⟩)) (below_size (bG2 HB.out GE461.out GE462.out)))
   have n3_ := Aside0.mk (blk_below (g := gb461) (o := .cells #[.bool a0_0, .slice A0_1 l0_1.length c0_1] 27 (0, 0)) (by exact bkS BK461.out) hb)
   have n4_ := Aside0.mk (blk_below (g := gb462) (o := .cells #[.bool a2_0, .slice A2_1 l2_1.length c2_1] 27 (0, 0)) (by exact bkS BK462.out) hb)
   have n5_ := Aside0.mk (below_step (bG2 HB.out GE461.out GE462.out) hb)
   clear HO466
   clear HO470
   clear BK461
   clear BK462
   clear HB
   have HO466 := n0_
   have HO470 := n1_
   have HO473 := n2_
   have BK461 := n3_
   have BK462 := n4_
   have HB := n5_
   clear n0_ n1_ n2_ n3_ n4_ n5_
   (try clear hb)
   (try clear hb2)
   (try clear hk)
   (try clear hi)
   (try clear ho0)
   refine hK.out _ _ ⟨(blk_cell BK461.out 0).trans rfl, (blk_cell BK461.out 1).trans rfl, (blk_cell BK462.out 0).trans rfl, (blk_cell BK462.out 1).trans rfl⟩ (fun hHeld => ?_)
   clear hK K
   refine norm_ (a' := ?_) ?_ ?_
   rotate_left
   ·show Act.put _ (some 20) _ = _
    simp only [Act.put, List.setIfInBounds_toArray, List.set_cons_zero, List.set_cons_succ, i64_w, i32_w]
    rfl
   refine pure_ (i := 6) (N := some 7) (v := ?_) (a' := ?_) #[true, true, true, true, true, true, true] rfl rfl (by kernel_rfl) (fun _ _ _ h => h) (Or.inl ⟨by rfl, ?_⟩) ?_ ?_
   rotate_left
   ·intro w'
    go_simp
    with_reducible rfl
   rotate_left
   ·simp only [Act.put, List.setIfInBounds_toArray, List.set_cons_zero, List.set_cons_succ, i64_w, i32_w]
    rfl
   refine done_ (by kernel_rfl) ?_
   try go_wp2
   have n0_ := Aside0.mk (Kd.V_drew HO466.out)
   have n1_ := Aside0.mk (Kd.V_drew HO470.out)
   have n2_ := Aside0.mk (Kd.V_drew HO473.out)
   have n3_ := Aside0.mk (blk_drew BK461.out)
   have n4_ := Aside0.mk (blk_drew BK462.out)
   have n5_ := Aside0.mk (below_drew1 HB.out)
   clear HO466
   clear HO470
   clear HO473
   clear BK461
   clear BK462
   clear HB
   have HO466 := n0_
   have HO470 := n1_
   have HO473 := n2_
   have BK461 := n3_
   have BK462 := n4_
   have HB := n5_
   clear n0_ n1_ n2_ n3_ n4_ n5_
   refine start_ (n := 8) (S := fun w' => w'.cell? ⟨gb461, 0, none⟩ = some (.bool a0_0) ∧ w'.cell? ⟨gb461, 1, none⟩ = some (.slice A0_1 l0_1.length c0_1) ∧ w'.cell? ⟨gb462, 0, none⟩ = some (.bool a2_0) ∧ w'.cell? ⟨gb462, 1, none⟩ = some (.slice A2_1 l2_1.length c2_1)) (ds := []) #[false, false, false, false, false, false, false, false] (by kernel_rfl) rfl rfl ⟨(blk_cell BK461.out 0).trans rfl, (blk_cell BK461.out 1).trans rfl, (blk_cell BK462.out 0).trans rfl, (blk_cell BK462.out 1).trans rfl⟩ (fun hHeld => ?_); refine with_tabW abacuslaw05_nearest.tab4 abacuslaw05_nearest.bits4 (fun HT_ HW_ => ?_)
   generalize w28.drew = w29 at HO466 HO470 HO473 BK461 BK462 HB hHeld ⊢
   refine pure_ (i := 1) (N := some 22) (v := ?_) (a' := ?_) #[false, true, false, false, false, false, false, false] rfl rfl (any_of HT_.out (by kernel_rfl)) (fun _ _ _ h => h) (Or.inl ⟨by rfl, ?_⟩) ?_ ?_
   rotate_left
   ·intro w'
    go_simp
    with_reducible rfl
   rotate_left
   ·simp only [Act.put, List.setIfInBounds_toArray, List.set_cons_zero, List.set_cons_succ, i64_w, i32_w]
    rfl
   refine take_ (i := 0) (N := some 21) (v := ?_) (a' := ?_) #[true, true, false, false, false, false, false, false] rfl rfl (take_ofW HT_.out HW_.out (by kernel_rfl)) (fun _ _ _ h => h) (Or.inl ⟨by rfl, ?_⟩) hHeld ?_ ?_
   rotate_left
   ·rintro w' ⟨s0, s1, s2, s3⟩
    go_simp
    with_reducible rfl
   rotate_left
   ·simp only [Act.put, List.setIfInBounds_toArray, List.set_cons_zero, List.set_cons_succ, i64_w, i32_w]
    rfl
   refine take_ (i := 4) (N := some 25) (v := ?_) (a' := ?_) #[true, true, false, false, true, false, false, false] rfl rfl (take_ofW HT_.out HW_.out (by kernel_rfl)) (fun _ _ _ h => h) (Or.inl ⟨by rfl, ?_⟩) hHeld ?_ ?_
   rotate_left
   ·rintro w' ⟨s0, s1, s2, s3⟩
    go_simp
    with_reducible rfl
   rotate_left
   ·simp only [Act.put, List.setIfInBounds_toArray, List.set_cons_zero, List.set_cons_succ, i64_w, i32_w]
    rfl
   refine one_ (i := 2) (N := some 23) #[true, true, true, false, true, false, false, false] rfl rfl (one_of HT_.out (by kernel_rfl)) (by decide) (fun K hK => ?_)
   refine goes_ Tryd.func34 (by kernel_rfl) rfl #[.int .u64 a1] (by rfl) rfl rfl (by (try simp only [List.map_toArray, List.map_cons, List.map_nil]); first | done | rfl) ?_
   with_reducible refine (ieee_Up.calls k a1 t474 _ A10.out).mono ?_
   rintro e w' ⟨rfl, ⟨nd, rfl⟩⟩
   refine ⟨_, rfl, ?_⟩
   refine hK.out _ _ ⟨(blk_cell BK461.out 0).trans rfl, (blk_cell BK461.out 1).trans rfl, (blk_cell BK462.out 0).trans rfl, (blk_cell BK462.out 1).trans rfl⟩ (fun hHeld => ?_)
   clear hK K
   refine norm_ (a' := ?_) ?_ ?_
   rotate_left
   ·show Act.put _ (some 23) _ = _
    simp only [Act.put, List.setIfInBounds_toArray, List.set_cons_zero, List.set_cons_succ, i64_w, i32_w]
    rfl
   refine one_ (i := 3) (N := some 24) #[true, true, true, true, true, false, false, false] rfl rfl (one_of HT_.out (by kernel_rfl)) (by decide) (fun K hK => ?_)
   refine goes_ Tryd.func17 (by kernel_rfl) rfl #[.int .u64 t474] (by rfl) rfl rfl (by (try simp only [List.map_toArray, List.map_cons, List.map_nil]); first | done | rfl) ?_
   with_reducible refine (abacuslaw05_units.calls k t474 t475 t476 _ A11.out).mono ?_
   rintro e w30 ⟨v477, rfl, ho0, hb⟩
   refine ⟨_, rfl, ?_⟩
   have n0_ := Aside0.mk (Kd.V_below (vS <| HO466.out) hb)
   have n1_ := Aside0.mk (Kd.V_below (vS <| HO470.out) hb)
   have n2_ := Aside0.mk (Kd.V_below (vS <| HO473.out) hb)
   have n3_ := Aside0.mk (Kd.V_lower (Kd.V_mono (ok' := fun k_ => k_ ≠ gb461 ∧ k_ ≠ gb462) ho0 (fun k_ hk_ => ⟨(Kd.freshB (g := gb461) (o := .cells #[.bool a0_0, .slice A0_1 l0_1.length c0_1] 27 (0, 0)) (by exact bkS BK461.out) k_ hk_), (Kd.freshB (g := gb462) (o := .cells #[.bool a2_0, .slice A2_1 l2_1.length c2_1] 27 (0, 0)) (by exact bkS BK462.out) k_ hk_)⟩)) (below_size (bG2 HB.out GE461.out GE462.out)))
   have n4_ := Aside0.mk (blk_below (g := gb461) (o := .cells #[.bool a0_0, .slice A0_1 l0_1.length c0_1] 27 (0, 0)) (by exact bkS BK461.out) hb)
   have n5_ := Aside0.mk (blk_below (g := gb462) (o := .cells #[.bool a2_0, .slice A2_1 l2_1.length c2_1] 27 (0, 0)) (by exact bkS BK462.out) hb)
   have n6_ := Aside0.mk (below_step (bG2 HB.out GE461.out GE462.out) hb)
   clear HO466
   clear HO470
   clear HO473
   clear BK461
   clear BK462
   clear HB
   have HO466 := n0_
   have HO470 := n1_
   have HO473 := n2_
   have HO478 := n3_
   have BK461 := n4_
   have BK462 := n5_
   have HB := n6_
   clear n0_ n1_ n2_ n3_ n4_ n5_ n6_
   (try clear hb)
   (try clear hb2)
   (try clear hk)
   (try clear hi)
   (try clear ho0)
   obtain ⟨Ao31, co31, eo31⟩ := Kd.V_slice HO478.out
   (first | subst eo31 | (injection eo31 with f1_ f2_ f3_; have f4_ := f1_.symm; have f5_ := f3_.symm; clear f1_ f2_ f3_; subst f4_; subst f5_))
   refine hK.out _ _ ⟨(blk_cell BK461.out 0).trans rfl, (blk_cell BK461.out 1).trans rfl, (blk_cell BK462.out 0).trans rfl, (blk_cell BK462.out 1).trans rfl⟩ (fun hHeld => ?_)
   clear hK K
   refine norm_ (a' := ?_) ?_ ?_
   rotate_left
   ·show Act.put _ (some 24) _ = _
    simp only [Act.put, List.setIfInBounds_toArray, List.set_cons_zero, List.set_cons_succ, i64_w, i32_w]
    rfl
   refine one_ (i := 5) (N := some 26) #[true, true, true, true, true, true, false, false] rfl rfl (one_of HT_.out (by kernel_rfl)) (by decide) (fun K hK => ?_)
   refine goes_ Tryd.func31 (by kernel_rfl) rfl #[.agg #[.bool t475, .slice Ao31 t476.length co31], .agg #[.bool a2_0, .slice A2_1 l2_1.length c2_1]] (by rfl) rfl rfl (by (try simp only [List.map_toArray, List.map_cons, List.map_nil]); first | done | rfl) ?_
   with_reducible refine (abacuslaw05_times.calls k t475 _ _ t476 a2_0 _ _ l2_1 t479 t480 _ ?side1 ?side2 ?side3 ?side4 A12.out).mono ?_
   (case side1 => exact cS (Kd.V_reads' HO478.out).2.2)
   (case side2 => exact (Kd.V_reads' HO478.out).2.1)
   (case side3 => exact cS (Kd.C_below HR2_1.out HB.out))
   (case side4 => exact HC2_1.out)
   rintro e w32 ⟨v481, rfl, ho0, hb⟩
   refine ⟨_, rfl, ?_⟩
   have n0_ := Aside0.mk (Kd.V_below (vS <| HO466.out) hb)
   have n1_ := Aside0.mk (Kd.V_below (vS <| HO470.out) hb)
   have n2_ := Aside0.mk (Kd.V_below (vS <| HO473.out) hb)
   have n3_ := Aside0.mk (Kd.V_below (vS <| HO478.out) hb)
   have n4_ := Aside0.mk (Kd.V_lower (Kd.V_mono (ok' := fun k_ => k_ ≠ gb461 ∧ k_ ≠ gb462) ho0 (fun k_ hk_ => ⟨(Kd.freshB (g := gb461) (o := .cells #[.bool a0_0, .slice A0_1 l0_1.length c0_1] 27 (0, 0)) (by exact bkS BK461.out) k_ hk_), (Kd.freshB (g := gb462) (o := .cells #[.bool a2_0, .slice A2_1 l2_1.length c2_1] 27 (0, 0)) (by exact bkS BK462.out) k_ hk_)⟩)) (below_size (bG2 HB.out GE461.out GE462.out)))
   have n5_ := Aside0.mk (blk_below (g := gb461) (o := .cells #[.bool a0_0, .slice A0_1 l0_1.length c0_1] 27 (0, 0)) (by exact bkS BK461.out) hb)
   have n6_ := Aside0.mk (blk_below (g := gb462) (o := .cells #[.bool a2_0, .slice A2_1 l2_1.length c2_1] 27 (0, 0)) (by exact bkS BK462.out) hb)
   have n7_ := Aside0.mk (below_step (bG2 HB.out GE461.out GE462.out) hb)
   clear HO466
   clear HO470
   clear HO473
   clear HO478
   clear BK461
   clear BK462
   clear HB
   have HO466 := n0_
   have HO470 := n1_
   have HO473 := n2_
   have HO478 := n3_
   have HO482 := n4_
   have BK461 := n5_
   have BK462 := n6_
   have HB := n7_
   clear n0_ n1_ n2_ n3_ n4_ n5_ n6_ n7_
   (try clear hb)
   (try clear hb2)
   (try clear hk)
   (try clear hi)
   (try clear ho0)
   obtain ⟨Ao33, co33, eo33⟩ := Kd.V_slice HO482.out
   (first | subst eo33 | (injection eo33 with f1_ f2_ f3_; have f4_ := f1_.symm; have f5_ := f3_.symm; clear f1_ f2_ f3_; subst f4_; subst f5_))
   refine hK.out _ _ ⟨(blk_cell BK461.out 0).trans rfl, (blk_cell BK461.out 1).trans rfl, (blk_cell BK462.out 0).trans rfl, (blk_cell BK462.out 1).trans rfl⟩ (fun hHeld => ?_)
   clear hK K
   refine norm_ (a' := ?_) ?_ ?_
   rotate_left
   ·show Act.put _ (some 26) _ = _
    simp only [Act.put, List.setIfInBounds_toArray, List.set_cons_zero, List.set_cons_succ, i64_w, i32_w]
    rfl
   refine one_ (i := 6) (N := some 27) #[true, true, true, true, true, true, true, false] rfl rfl (one_of HT_.out (by kernel_rfl)) (by decide) (fun K hK => ?_)
   refine goes_ Tryd.func54 (by kernel_rfl) rfl #[.agg #[.bool a0_0, .slice A0_1 l0_1.length c0_1], .agg #[.bool t479, .slice Ao33 t480.length co33]] (by rfl) rfl rfl (by (try simp only [List.map_toArray, List.map_cons, List.map_nil]); first | done | rfl) ?_
   with_reducible refine (abacuslaw05_apart.calls k a0_0 (fun k_ => k_ < w.heap.size) _ _ l0_1 t479 (fun k_ => (k_ ≠ gb461 ∧ k_ ≠ gb462)) _ _ t480 t483 _ ?side1 ?side2 A13.out).mono ?_
   (case side1 => exact Kd.V_mk HC0_1.out (Kd.F_below (Kd.C_F (Kd.heap_int .u64) HR0_1.out) (bG2 HB.out GE461.out GE462.out)))
   (case side2 => exact HO482.out)
   rintro e w34 ⟨v484, rfl, ho0, hb⟩
   refine ⟨_, rfl, ?_⟩
   have n0_ := Aside0.mk (Kd.V_below (vS <| HO466.out) hb)
   have n1_ := Aside0.mk (Kd.V_below (vS <| HO470.out) hb)
   have n2_ := Aside0.mk (Kd.V_below (vS <| HO473.out) hb)
   have n3_ := Aside0.mk (Kd.V_below (vS <| HO478.out) hb)
   have n4_ := Aside0.mk (Kd.V_below (vS <| HO482.out) hb)
   have n5_ := Aside0.mk (Kd.V_lower (Kd.V_mono (ok' := fun k_ => k_ ≠ gb461 ∧ k_ ≠ gb462) ho0 (fun k_ hk_ => ⟨Or.elim hk_ (fun hs_ => Or.elim hs_ (fun hs_ => fun e_ => Nat.not_le.2 hs_ (by rw [e_]; exact GW461.out)) (fun hs_ => hs_.1)) (fun hn_ => (Kd.freshB (g := gb461) (o := .cells #[.bool a0_0, .slice A0_1 l0_1.length c0_1] 27 (0, 0)) (by exact bkS BK461.out) k_ hn_)), Or.elim hk_ (fun hs_ => Or.elim hs_ (fun hs_ => fun e_ => Nat.not_le.2 hs_ (by rw [e_]; exact GW462.out)) (fun hs_ => hs_.2)) (fun hn_ => (Kd.freshB (g := gb462) (o := .cells #[.bool a2_0, .slice A2_1 l2_1.length c2_1] 27 (0, 0)) (by exact bkS BK462.out) k_ hn_))⟩)) (below_size (bG2 HB.out GE461.out GE462.out)))
   have n6_ := Aside0.mk (blk_below (g := gb461) (o := .cells #[.bool a0_0, .slice A0_1 l0_1.length c0_1] 27 (0, 0)) (by exact bkS BK461.out) hb)
   have n7_ := Aside0.mk (blk_below (g := gb462) (o := .cells #[.bool a2_0, .slice A2_1 l2_1.length c2_1] 27 (0, 0)) (by exact bkS BK462.out) hb)
   have n8_ := Aside0.mk (below_step (bG2 HB.out GE461.out GE462.out) hb)
   clear HO466
   clear HO470
   clear HO473
   clear HO478
   clear HO482
   clear BK461
   clear BK462
   clear HB
   have HO466 := n0_
   have HO470 := n1_
   have HO473 := n2_
   have HO478 := n3_
   have HO482 := n4_
   have HO485 := n5_
   have BK461 := n6_
   have BK462 := n7_
   have HB := n8_
   clear n0_ n1_ n2_ n3_ n4_ n5_ n6_ n7_ n8_
   (try clear hb)
   (try clear hb2)
   (try clear hk)
   (try clear hi)
   (try clear ho0)
   refine hK.out _ _ ⟨(blk_cell BK461.out 0).trans rfl, (blk_cell BK461.out 1).trans rfl, (blk_cell BK462.out 0).trans rfl, (blk_cell BK462.out 1).trans rfl⟩ (fun hHeld => ?_)
   clear hK K
   refine norm_ (a' := ?_) ?_ ?_
   rotate_left
   ·show Act.put _ (some 27) _ = _
    simp only [Act.put, List.setIfInBounds_toArray, List.set_cons_zero, List.set_cons_succ, i64_w, i32_w]
    rfl
   refine pure_ (i := 7) (N := some 8) (v := ?_) (a' := ?_) #[true, true, true, true, true, true, true, true] rfl rfl (any_of HT_.out (by kernel_rfl)) (fun _ _ _ h => h) (Or.inl ⟨by rfl, ?_⟩) ?_ ?_
   rotate_left
   ·intro w'
    go_simp
    with_reducible rfl
   rotate_left
   ·simp only [Act.put, List.setIfInBounds_toArray, List.set_cons_zero, List.set_cons_succ, i64_w, i32_w]
    rfl
   refine done_ (done_of HT_.out (by kernel_rfl)) ?_
   try go_wp2
   have n0_ := Aside0.mk (Kd.V_drew HO466.out)
   have n1_ := Aside0.mk (Kd.V_drew HO470.out)
   have n2_ := Aside0.mk (Kd.V_drew HO473.out)
   have n3_ := Aside0.mk (Kd.V_drew HO478.out)
   have n4_ := Aside0.mk (Kd.V_drew HO482.out)
   have n5_ := Aside0.mk (Kd.V_drew HO485.out)
   have n6_ := Aside0.mk (blk_drew BK461.out)
   have n7_ := Aside0.mk (blk_drew BK462.out)
   have n8_ := Aside0.mk (below_drew1 HB.out)
   clear HO466
   clear HO470
   clear HO473
   clear HO478
   clear HO482
   clear HO485
   clear BK461
   clear BK462
   clear HB
   have HO466 := n0_
   have HO470 := n1_
   have HO473 := n2_
   have HO478 := n3_
   have HO482 := n4_
   have HO485 := n5_
   have BK461 := n6_
   have BK462 := n7_
   have HB := n8_
   clear n0_ n1_ n2_ n3_ n4_ n5_ n6_ n7_ n8_
   refine start_ (n := 8) (S := fun w' => w'.cell? ⟨gb461, 0, none⟩ = some (.bool a0_0) ∧ w'.cell? ⟨gb461, 1, none⟩ = some (.slice A0_1 l0_1.length c0_1) ∧ w'.cell? ⟨gb462, 0, none⟩ = some (.bool a2_0) ∧ w'.cell? ⟨gb462, 1, none⟩ = some (.slice A2_1 l2_1.length c2_1)) (ds := []) #[false, false, false, false, false, false, false, false] (by kernel_rfl) rfl rfl ⟨(blk_cell BK461.out 0).trans rfl, (blk_cell BK461.out 1).trans rfl, (blk_cell BK462.out 0).trans rfl, (blk_cell BK462.out 1).trans rfl⟩ (fun hHeld => ?_); refine with_tabW abacuslaw05_nearest.tab5 abacuslaw05_nearest.bits5 (fun HT_ HW_ => ?_)
   generalize w34.drew = w35 at HO466 HO470 HO473 HO478 HO482 HO485 BK461 BK462 HB hHeld ⊢
   refine pure_ (i := 1) (N := some 29) (v := ?_) (a' := ?_) #[false, true, false, false, false, false, false, false] rfl rfl (any_of HT_.out (by kernel_rfl)) (fun _ _ _ h => h) (Or.inl ⟨by rfl, ?_⟩) ?_ ?_
   rotate_left
   ·intro w'
    go_simp
    with_reducible rfl
   rotate_left
   ·simp only [Act.put, List.setIfInBounds_toArray, List.set_cons_zero, List.set_cons_succ, i64_w, i32_w]
    rfl
   refine take_ (i := 0) (N := some 28) (v := ?_) (a' := ?_) #[true, true, false, false, false, false, false, false] rfl rfl (take_ofW HT_.out HW_.out (by kernel_rfl)) (fun _ _ _ h => h) (Or.inl ⟨by rfl, ?_⟩) hHeld ?_ ?_
   rotate_left
   ·rintro w' ⟨s0, s1, s2, s3⟩
    go_simp
    with_reducible rfl
   rotate_left
   ·simp only [Act.put, List.setIfInBounds_toArray, List.set_cons_zero, List.set_cons_succ, i64_w, i32_w]
    rfl
   refine take_ (i := 4) (N := some 32) (v := ?_) (a' := ?_) #[true, true, false, false, true, false, false, false] rfl rfl (take_ofW HT_.out HW_.out (by kernel_rfl)) (fun _ _ _ h => h) (Or.inl ⟨by rfl, ?_⟩) hHeld ?_ ?_
   rotate_left
   ·rintro w' ⟨s0, s1, s2, s3⟩
    go_simp
    with_reducible rfl
   rotate_left
   ·simp only [Act.put, List.setIfInBounds_toArray, List.set_cons_zero, List.set_cons_succ, i64_w, i32_w]
    rfl
   refine one_ (i := 2) (N := some 30) #[true, true, true, false, true, false, false, false] rfl rfl (one_of HT_.out (by kernel_rfl)) (by decide) (fun K hK => ?_)
   refine goes_ Tryd.func35 (by kernel_rfl) rfl #[.int .u64 a1] (by rfl) rfl rfl (by (try simp only [List.map_toArray, List.map_cons, List.map_nil]); first | done | rfl) ?_
   with_reducible refine (ieee_Down.calls k a1 t486 _ A14.out).mono ?_
   rintro e w' ⟨rfl, ⟨nd, rfl⟩⟩
   refine ⟨_, rfl, ?_⟩
   refine hK.out _ _ ⟨(blk_cell BK461.out 0).trans rfl, (blk_cell BK461.out 1).trans rfl, (blk_cell BK462.out 0).trans rfl, (blk_cell BK462.out 1).trans rfl⟩ (fun hHeld => ?_)
   clear hK K
   refine norm_ (a' := ?_) ?_ ?_
   rotate_left
   ·show Act.put _ (some 30) _ = _
    simp only [Act.put, List.setIfInBounds_toArray, List.set_cons_zero, List.set_cons_succ, i64_w, i32_w]
    rfl
   refine one_ (i := 3) (N := some 31) #[true, true, true, true, true, false, false, false] rfl rfl (one_of HT_.out (by kernel_rfl)) (by decide) (fun K hK => ?_)
   refine goes_ Tryd.func17 (by kernel_rfl) rfl #[.int .u64 t486] (by rfl) rfl rfl (by (try simp only [List.map_toArray, List.map_cons, List.map_nil]); first | done | rfl) ?_
   with_reducible refine (abacuslaw05_units.calls k t486 t487 t488 _ A15.out).mono ?_
   rintro e w36 ⟨v489, rfl, ho0, hb⟩
   refine ⟨_, rfl, ?_⟩
   have n0_ := Aside0.mk (Kd.V_below (vS <| HO466.out) hb)
   have n1_ := Aside0.mk (Kd.V_below (vS <| HO470.out) hb)
   have n2_ := Aside0.mk (Kd.V_below (vS <| HO473.out) hb)
   have n3_ := Aside0.mk (Kd.V_below (vS <| HO478.out) hb)
   have n4_ := Aside0.mk (Kd.V_below (vS <| HO482.out) hb)
   have n5_ := Aside0.mk (Kd.V_below (vS <| HO485.out) hb)
   have n6_ := Aside0.mk (Kd.V_lower (Kd.V_mono (ok' := fun k_ => k_ ≠ gb461 ∧ k_ ≠ gb462) ho0 (fun k_ hk_ => ⟨(Kd.freshB (g := gb461) (o := .cells #[.bool a0_0, .slice A0_1 l0_1.length c0_1] 27 (0, 0)) (by exact bkS BK461.out) k_ hk_), (Kd.freshB (g := gb462) (o := .cells #[.bool a2_0, .slice A2_1 l2_1.length c2_1] 27 (0, 0)) (by exact bkS BK462.out) k_ hk_)⟩)) (below_size (bG2 HB.out GE461.out GE462.out)))
   have n7_ := Aside0.mk (blk_below (g := gb461) (o := .cells #[.bool a0_0, .slice A0_1 l0_1.length c0_1] 27 (0, 0)) (by exact bkS BK461.out) hb)
   have n8_ := Aside0.mk (blk_below (g := gb462) (o := .cells #[.bool a2_0, .slice A2_1 l2_1.length c2_1] 27 (0, 0)) (by exact bkS BK462.out) hb)
   have n9_ := Aside0.mk (below_step (bG2 HB.out GE461.out GE462.out) hb)
   clear HO466
   clear HO470
   clear HO473
   clear HO478
   clear HO482
   clear HO485
   clear BK461
   clear BK462
   clear HB
   have HO466 := n0_
   have HO470 := n1_
   have HO473 := n2_
   have HO478 := n3_
   have HO482 := n4_
   have HO485 := n5_
   have HO490 := n6_
   have BK461 := n7_
   have BK462 := n8_
   have HB := n9_
   clear n0_ n1_ n2_ n3_ n4_ n5_ n6_ n7_ n8_ n9_
   (try clear hb)
   (try clear hb2)
   (try clear hk)
   (try clear hi)
   (try clear ho0)
   obtain ⟨Ao37, co37, eo37⟩ := Kd.V_slice HO490.out
   (first | subst eo37 | (injection eo37 with f1_ f2_ f3_; have f4_ := f1_.symm; have f5_ := f3_.symm; clear f1_ f2_ f3_; subst f4_; subst f5_))
   refine hK.out _ _ ⟨(blk_cell BK461.out 0).trans rfl, (blk_cell BK461.out 1).trans rfl, (blk_cell BK462.out 0).trans rfl, (blk_cell BK462.out 1).trans rfl⟩ (fun hHeld => ?_)
   clear hK K
   refine norm_ (a' := ?_) ?_ ?_
   rotate_left
   ·show Act.put _ (some 31) _ = _
    simp only [Act.put, List.setIfInBounds_toArray, List.set_cons_zero, List.set_cons_succ, i64_w, i32_w]
    rfl
   refine one_ (i := 5) (N := some 33) #[true, true, true, true, true, true, false, false] rfl rfl (one_of HT_.out (by kernel_rfl)) (by decide) (fun K hK => ?_)
   refine goes_ Tryd.func31 (by kernel_rfl) rfl #[.agg #[.bool t487, .slice Ao37 t488.length co37], .agg #[.bool a2_0, .slice A2_1 l2_1.length c2_1]] (by rfl) rfl rfl (by (try simp only [List.map_toArray, List.map_cons, List.map_nil]); first | done | rfl) ?_
   with_reducible refine (abacuslaw05_times.calls k t487 _ _ t488 a2_0 _ _ l2_1 t491 t492 _ ?side1 ?side2 ?side3 ?side4 A16.out).mono ?_
   (case side1 => exact cS (Kd.V_reads' HO490.out).2.2)
   (case side2 => exact (Kd.V_reads' HO490.out).2.1)
   (case side3 => exact cS (Kd.C_below HR2_1.out HB.out))
   (case side4 => exact HC2_1.out)
   rintro e w38 ⟨v493, rfl, ho0, hb⟩
   refine ⟨_, rfl, ?_⟩
   have n0_ := Aside0.mk (Kd.V_below (vS <| HO466.out) hb)
   have n1_ := Aside0.mk (Kd.V_below (vS <| HO470.out) hb)
   have n2_ := Aside0.mk (Kd.V_below (vS <| HO473.out) hb)
   have n3_ := Aside0.mk (Kd.V_below (vS <| HO478.out) hb)
   have n4_ := Aside0.mk (Kd.V_below (vS <| HO482.out) hb)
   have n5_ := Aside0.mk (Kd.V_below (vS <| HO485.out) hb)
   have n6_ := Aside0.mk (Kd.V_below (vS <| HO490.out) hb)
   have n7_ := Aside0.mk (Kd.V_lower (Kd.V_mono (ok' := fun k_ => k_ ≠ gb461 ∧ k_ ≠ gb462) ho0 (fun k_ hk_ => ⟨(Kd.freshB (g := gb461) (o := .cells #[.bool a0_0, .slice A0_1 l0_1.length c0_1] 27 (0, 0)) (by exact bkS BK461.out) k_ hk_), (Kd.freshB (g := gb462) (o := .cells #[.bool a2_0, .slice A2_1 l2_1.length c2_1] 27 (0, 0)) (by exact bkS BK462.out) k_ hk_)⟩)) (below_size (bG2 HB.out GE461.out GE462.out)))
   have n8_ := Aside0.mk (blk_below (g := gb461) (o := .cells #[.bool a0_0, .slice A0_1 l0_1.length c0_1] 27 (0, 0)) (by exact bkS BK461.out) hb)
   have n9_ := Aside0.mk (blk_below (g := gb462) (o := .cells #[.bool a2_0, .slice A2_1 l2_1.length c2_1] 27 (0, 0)) (by exact bkS BK462.out) hb)
   have n10_ := Aside0.mk (below_step (bG2 HB.out GE461.out GE462.out) hb)
   clear HO466
   clear HO470
   clear HO473
   clear HO478
   clear HO482
   clear HO485
   clear HO490
   clear BK461
   clear BK462
   clear HB
   have HO466 := n0_
   have HO470 := n1_
   have HO473 := n2_
   have HO478 := n3_
   have HO482 := n4_
   have HO485 := n5_
   have HO490 := n6_
   have HO494 := n7_
   have BK461 := n8_
   have BK462 := n9_
   have HB := n10_
   clear n0_ n1_ n2_ n3_ n4_ n5_ n6_ n7_ n8_ n9_ n10_
   (try clear hb)
   (try clear hb2)
   (try clear hk)
   (try clear hi)
   (try clear ho0)
   obtain ⟨Ao39, co39, eo39⟩ := Kd.V_slice HO494.out
   (first | subst eo39 | (injection eo39 with f1_ f2_ f3_; have f4_ := f1_.symm; have f5_ := f3_.symm; clear f1_ f2_ f3_; subst f4_; subst f5_))
   refine hK.out _ _ ⟨(blk_cell BK461.out 0).trans rfl, (blk_cell BK461.out 1).trans rfl, (blk_cell BK462.out 0).trans rfl, (blk_cell BK462.out 1).trans rfl⟩ (fun hHeld => ?_)
   clear hK K
   refine norm_ (a' := ?_) ?_ ?_
   rotate_left
   ·show Act.put _ (some 33) _ = _
    simp only [Act.put, List.setIfInBounds_toArray, List.set_cons_zero, List.set_cons_succ, i64_w, i32_w]
    rfl
   refine one_ (i := 6) (N := some 34) #[true, true, true, true, true, true, true, false] rfl rfl (one_of HT_.out (by kernel_rfl)) (by decide) (fun K hK => ?_)
   refine goes_ Tryd.func54 (by kernel_rfl) rfl #[.agg #[.bool a0_0, .slice A0_1 l0_1.length c0_1], .agg #[.bool t491, .slice Ao39 t492.length co39]] (by rfl) rfl rfl (by (try simp only [List.map_toArray, List.map_cons, List.map_nil]); first | done | rfl) ?_
   with_reducible refine (abacuslaw05_apart.calls k a0_0 (fun k_ => k_ < w.heap.size) _ _ l0_1 t491 (fun k_ => (k_ ≠ gb461 ∧ k_ ≠ gb462)) _ _ t492 t495 _ ?side1 ?side2 A17.out).mono ?_
   (case side1 => exact Kd.V_mk HC0_1.out (Kd.F_below (Kd.C_F (Kd.heap_int .u64) HR0_1.out) (bG2 HB.out GE461.out GE462.out)))
   (case side2 => exact HO494.out)
   rintro e w40 ⟨v496, rfl, ho0, hb⟩
   refine ⟨_, rfl, ?_⟩
   have n0_ := Aside0.mk (Kd.V_below (vS <| HO466.out) hb)
   have n1_ := Aside0.mk (Kd.V_below (vS <| HO470.out) hb)
   have n2_ := Aside0.mk (Kd.V_below (vS <| HO473.out) hb)
   have n3_ := Aside0.mk (Kd.V_below (vS <| HO478.out) hb)
   have n4_ := Aside0.mk (Kd.V_below (vS <| HO482.out) hb)
   have n5_ := Aside0.mk (Kd.V_below (vS <| HO485.out) hb)
   have n6_ := Aside0.mk (Kd.V_below (vS <| HO490.out) hb)
   have n7_ := Aside0.mk (Kd.V_below (vS <| HO494.out) hb)
   have n8_ := Aside0.mk (Kd.V_lower (Kd.V_mono (ok' := fun k_ => k_ ≠ gb461 ∧ k_ ≠ gb462) ho0 (fun k_ hk_ => ⟨Or.elim hk_ (fun hs_ => Or.elim hs_ (fun hs_ => fun e_ => Nat.not_le.2 hs_ (by rw [e_]; exact GW461.out)) (fun hs_ => hs_.1)) (fun hn_ => (Kd.freshB (g := gb461) (o := .cells #[.bool a0_0, .slice A0_1 l0_1.length c0_1] 27 (0, 0)) (by exact bkS BK461.out) k_ hn_)), Or.elim hk_ (fun hs_ => Or.elim hs_ (fun hs_ => fun e_ => Nat.not_le.2 hs_ (by rw [e_]; exact GW462.out)) (fun hs_ => hs_.2)) (fun hn_ => (Kd.freshB (g := gb462) (o := .cells #[.bool a2_0, .slice A2_1 l2_1.length c2_1] 27 (0, 0)) (by exact bkS BK462.out) k_ hn_))⟩)) (below_size (bG2 HB.out GE461.out GE462.out)))
   have n9_ := Aside0.mk (blk_below (g := gb461) (o := .cells #[.bool a0_0, .slice A0_1 l0_1.length c0_1] 27 (0, 0)) (by exact bkS BK461.out) hb)
   have n10_ := Aside0.mk (blk_below (g := gb462) (o := .cells #[.bool a2_0, .slice A2_1 l2_1.length c2_1] 27 (0, 0)) (by exact bkS BK462.out) hb)
   have n11_ := Aside0.mk (below_step (bG2 HB.out GE461.out GE462.out) hb)
   clear HO466
   clear HO470
   clear HO473
   clear HO478
   clear HO482
   clear HO485
   clear HO490
   clear HO494
   clear BK461
   clear BK462
   clear HB
   have HO466 := n0_
   have HO470 := n1_
   have HO473 := n2_
   have HO478 := n3_
   have HO482 := n4_
   have HO485 := n5_
   have HO490 := n6_
   have HO494 := n7_
   have HO497 := n8_
   have BK461 := n9_
   have BK462 := n10_
   have HB := n11_
   clear n0_ n1_ n2_ n3_ n4_ n5_ n6_ n7_ n8_ n9_ n10_ n11_
   (try clear hb)
   (try clear hb2)
   (try clear hk)
   (try clear hi)
   (try clear ho0)
   refine hK.out _ _ ⟨(blk_cell BK461.out 0).trans rfl, (blk_cell BK461.out 1).trans rfl, (blk_cell BK462.out 0).trans rfl, (blk_cell BK462.out 1).trans rfl⟩ (fun hHeld => ?_)
   clear hK K
   refine norm_ (a' := ?_) ?_ ?_
   rotate_left
   ·show Act.put _ (some 34) _ = _
    simp only [Act.put, List.setIfInBounds_toArray, List.set_cons_zero, List.set_cons_succ, i64_w, i32_w]
    rfl
   refine pure_ (i := 7) (N := some 9) (v := ?_) (a' := ?_) #[true, true, true, true, true, true, true, true] rfl rfl (any_of HT_.out (by kernel_rfl)) (fun _ _ _ h => h) (Or.inl ⟨by rfl, ?_⟩) ?_ ?_
   rotate_left
   ·intro w'
    go_simp
    with_reducible rfl
   rotate_left
   ·simp only [Act.put, List.setIfInBounds_toArray, List.set_cons_zero, List.set_cons_succ, i64_w, i32_w]
    rfl
   refine done_ (done_of HT_.out (by kernel_rfl)) ?_
   obtain ⟨Ao41, co41, eo41⟩ := Kd.V_slice HO473.out
   subst eo41
   obtain ⟨Ao42, co42, eo42⟩ := Kd.V_slice HO485.out
   subst eo42
   try go_wp2_with (first | ((with_reducible refine gate_callee (f := 18) rfl ?_); refine goesL_ (some 37) rfl rfl Tryd.func18 (by kernel_rfl) rfl #[.slice Ao41 t471.length co41, .slice Ao42 t483.length co42] rfl (by (try simp only [List.map_toArray, List.map_cons, List.map_nil]); first | done | rfl) ?_; (with_reducible refine (nat_Cmp.calls k _ _ t471 _ _ t483 t498 _ ?side1 ?side2 ?side3 ?side4 A18.out).mono ?_); (case side1 => exact cS (Kd.V_reads' HO473.out).2.2); (case side2 => exact (Kd.V_reads' HO473.out).2.1); (case side3 => exact cS (Kd.V_reads' HO485.out).2.2); (case side4 => exact (Kd.V_reads' HO485.out).2.1); rintro e w' ⟨rfl, ⟨nd, rfl⟩⟩; refine ⟨_, rfl, ?_⟩; obtain ⟨Ao43, co43, eo43⟩ := Kd.V_slice HO497.out; subst eo43) | ((with_reducible refine gate_callee (f := 18) rfl ?_); refine goesL_ (some 40) rfl rfl Tryd.func18 (by kernel_rfl) rfl #[.slice Ao41 t471.length co41, .slice Ao43 t495.length co43] rfl (by (try simp only [List.map_toArray, List.map_cons, List.map_nil]); first | done | rfl) ?_; (with_reducible refine (nat_Cmp.calls k _ _ t471 _ _ t495 t499 _ ?side1 ?side2 ?side3 ?side4 A19.out).mono ?_); (case side1 => exact cS (Kd.V_reads' HO473.out).2.2); (case side2 => exact (Kd.V_reads' HO473.out).2.1); (case side3 => exact cS (Kd.V_reads' HO497.out).2.2); (case side4 => exact (Kd.V_reads' HO497.out).2.1); rintro e w' ⟨rfl, ⟨nd, rfl⟩⟩; refine ⟨_, rfl, ?_⟩))
   go_ret
   exact ⟨by first | rfl | (simp [errW_none, errW_some] <;> rfl) | (simp [*, errW_none, errW_some] <;> rfl), bG2 HB.out GE461.out GE462.out⟩
  ·rw [if_neg c20] at H
   have c20b0 : decide (0 < t498) = false := decide_eq_false c20
   clear c20
   by_cases c44 : t499 > 0
   ·rw [if_pos c44] at H
    have c44b0 : decide (0 < t499) = true := decide_eq_true c44
    clear c44
    obtain rfl := Option.some.inj H
    go_enter Tryd.func25, Tryd.ntmps25
    try go_wp2_with (first | ((with_reducible refine gate_dst (N := 3) rfl ?_); refine box_event ?hg (N := 3) ?hd (cs := #[.bool a0_0, .slice A0_1 l0_1.length c0_1]) (t := 27) ?hr ?_; (case hd => rfl); (case hg => rfl); (case hr => first | (go_simp; done) | (go_simp; rfl)); intro gb461 hg w45 hbox hb; have BK461 := Aside0.mk (hbox); have GW461 := Aside0.mk ((by rw [hg]; exact (below_size (bS HB.out)) : w.heap.size ≤ gb461)); have GE461 := Aside0.mk ((by rw [hg]; exact (below_size (bS HB.out)) : w.heap.size ≤ gb461)); replace HB := hB HB hb; clear hb hbox hg) | ((with_reducible refine gate_dst (N := 5) rfl ?_); refine box_event ?hg (N := 5) ?hd (cs := #[.bool a2_0, .slice A2_1 l2_1.length c2_1]) (t := 27) ?hr ?_; (case hd => rfl); (case hg => rfl); (case hr => first | (go_simp; done) | (go_simp; rfl)); intro gb462 hg w46 hbox hb; have BK462 := Aside0.mk (hbox); have GW462 := Aside0.mk ((by rw [hg]; exact (below_size (bG1 HB.out GE461.out)) : w.heap.size ≤ gb462)); have GE462 := Aside0.mk ((by rw [hg]; exact (below_size (bG1 HB.out GE461.out)) : w.heap.size ≤ gb462)); replace HB := Aside0.mk (below_step (bG1 HB.out GE461.out) hb); have NB461_462 := Aside0.mk ((by rw [hg]; exact Nat.ne_of_lt (blk_lt (g := gb461) (o := .cells #[.bool a0_0, .slice A0_1 l0_1.length c0_1] 27 (0, 0)) (by exact bkS BK461.out)) : gb461 ≠ gb462)); have NB462_461 := Aside0.mk ((by rw [hg]; exact Nat.ne_of_gt (blk_lt (g := gb461) (o := .cells #[.bool a0_0, .slice A0_1 l0_1.length c0_1] 27 (0, 0)) (by exact bkS BK461.out)) : gb462 ≠ gb461)); replace BK461 := bkB BK461 hb; clear hb hbox hg))
    have n0_ := Aside0.mk (blk_drew BK461.out)
    have n1_ := Aside0.mk (blk_drew BK462.out)
    have n2_ := Aside0.mk (below_drew1 HB.out)
    clear BK461
    clear BK462
    clear HB
    have BK461 := n0_
    have BK462 := n1_
    have HB := n2_
    clear n0_ n1_ n2_
    refine start_ (n := 7) (S := fun w' => w'.cell? ⟨gb461, 0, none⟩ = some (.bool a0_0) ∧ w'.cell? ⟨gb461, 1, none⟩ = some (.slice A0_1 l0_1.length c0_1) ∧ w'.cell? ⟨gb462, 0, none⟩ = some (.bool a2_0) ∧ w'.cell? ⟨gb462, 1, none⟩ = some (.slice A2_1 l2_1.length c2_1)) (ds := []) #[false, false, false, false, false, false, false] (by kernel_rfl) rfl rfl ⟨(blk_cell BK461.out 0).trans rfl, (blk_cell BK461.out 1).trans rfl, (blk_cell BK462.out 0).trans rfl, (blk_cell BK462.out 1).trans rfl⟩ (fun hHeld => ?_)
    generalize w46.drew = w47 at BK461 BK462 HB hHeld ⊢
    refine pure_ (i := 1) (N := some 16) (v := ?_) (a' := ?_) #[false, true, false, false, false, false, false] rfl rfl (by kernel_rfl) (fun _ _ _ h => h) (Or.inl ⟨by rfl, ?_⟩) ?_ ?_
    rotate_left
    ·intro w'
     go_simp
     with_reducible rfl
    rotate_left
    ·simp only [Act.put, List.setIfInBounds_toArray, List.set_cons_zero, List.set_cons_succ, i64_w, i32_w]
     rfl
    refine take_ (i := 0) (N := some 15) (v := ?_) (a' := ?_) #[true, true, false, false, false, false, false] rfl rfl (by kernel_rfl) (fun _ _ _ h => h) (Or.inl ⟨by rfl, ?_⟩) hHeld ?_ ?_
    rotate_left
    ·rintro w' ⟨s0, s1, s2, s3⟩
     go_simp
     with_reducible rfl
    rotate_left
    ·simp only [Act.put, List.setIfInBounds_toArray, List.set_cons_zero, List.set_cons_succ, i64_w, i32_w]
     rfl
    refine take_ (i := 3) (N := some 18) (v := ?_) (a' := ?_) #[true, true, false, true, false, false, false] rfl rfl (by kernel_rfl) (fun _ _ _ h => h) (Or.inl ⟨by rfl, ?_⟩) hHeld ?_ ?_
    rotate_left
    ·rintro w' ⟨s0, s1, s2, s3⟩
     go_simp
     with_reducible rfl
    rotate_left
    ·simp only [Act.put, List.setIfInBounds_toArray, List.set_cons_zero, List.set_cons_succ, i64_w, i32_w]
     rfl
    refine one_ (i := 2) (N := some 17) #[true, true, true, true, false, false, false] rfl rfl (by kernel_rfl) (by decide) (fun K hK => ?_)
    refine goes_ Tryd.func17 (by kernel_rfl) rfl #[.int .u64 a1] (by rfl) rfl rfl (by (try simp only [List.map_toArray, List.map_cons, List.map_nil]); first | done | rfl) ?_
    with_reducible refine (abacuslaw05_units.calls k a1 t463 t464 _ A7.out).mono ?_
    rintro e w48 ⟨v465, rfl, ho0, hb⟩
    refine ⟨_, rfl, ?_⟩
    have n0_ := Aside0.mk (Kd.V_lower (Kd.V_mono (ok' := fun k_ => k_ ≠ gb461 ∧ k_ ≠ gb462) ho0 (fun k_ hk_ => ⟨(Kd.freshB (g := gb461) (o := .cells #[.bool a0_0, .slice A0_1 l0_1.length c0_1] 27 (0, 0)) (by exact bkS BK461.out) k_ hk_), (Kd.freshB (g := gb462) (o := .cells #[.bool a2_0, .slice A2_1 l2_1.length c2_1] 27 (0, 0)) (by exact bkS BK462.out) k_ hk_)⟩)) (below_size (bG2 HB.out GE461.out GE462.out)))
    have n1_ := Aside0.mk (blk_below (g := gb461) (o := .cells #[.bool a0_0, .slice A0_1 l0_1.length c0_1] 27 (0, 0)) (by exact bkS BK461.out) hb)
    have n2_ := Aside0.mk (blk_below (g := gb462) (o := .cells #[.bool a2_0, .slice A2_1 l2_1.length c2_1] 27 (0, 0)) (by exact bkS BK462.out) hb)
    have n3_ := Aside0.mk (below_step (bG2 HB.out GE461.out GE462.out) hb)
    clear BK461
    clear BK462
    clear HB
    have HO466 := n0_
    have BK461 := n1_
    have BK462 := n2_
    have HB := n3_
    clear n0_ n1_ n2_ n3_
    (try clear hb)
    (try clear hb2)
    (try clear hk)
    (try clear hi)
    (try clear ho0)
    obtain ⟨Ao49, co49, eo49⟩ := Kd.V_slice HO466.out
    (first | subst eo49 | (injection eo49 with f1_ f2_ f3_; have f4_ := f1_.symm; have f5_ := f3_.symm; clear f1_ f2_ f3_; subst f4_; subst f5_))
    refine hK.out _ _ ⟨(blk_cell BK461.out 0).trans rfl, (blk_cell BK461.out 1).trans rfl, (blk_cell BK462.out 0).trans rfl, (blk_cell BK462.out 1).trans rfl⟩ (fun hHeld => ?_)
    clear hK K
    refine norm_ (a' := ?_) ?_ ?_
    rotate_left
    ·show Act.put _ (some 17) _ = _
     simp only [Act.put, List.setIfInBounds_toArray, List.set_cons_zero, List.set_cons_succ, i64_w, i32_w]
     rfl
    refine one_ (i := 4) (N := some 19) #[true, true, true, true, true, false, false] rfl rfl (by kernel_rfl) (by decide) (fun K hK => ?_)
    refine goes_ Tryd.func31 (by kernel_rfl) rfl #[.agg #[.bool t463, .slice Ao49 t464.length co49], .agg #[.bool a2_0, .slice A2_1 l2_1.length c2_1]] (by rfl) rfl rfl (by (try simp only [List.map_toArray, List.map_cons, List.map_nil]); first | done | rfl) ?_
    with_reducible refine (abacuslaw05_times.calls k t463 _ _ t464 a2_0 _ _ l2_1 t467 t468 _ ?side1 ?side2 ?side3 ?side4 A8.out).mono ?_
    (case side1 => exact cS (Kd.V_reads' HO466.out).2.2)
    (case side2 => exact (Kd.V_reads' HO466.out).2.1)
    (case side3 => exact cS (Kd.C_below HR2_1.out HB.out))
    (case side4 => exact HC2_1.out)
    rintro e w50 ⟨v469, rfl, ho0, hb⟩
    refine ⟨_, rfl, ?_⟩
    have n0_ := Aside0.mk (Kd.V_below (vS <| HO466.out) hb)
    have n1_ := Aside0.mk (Kd.V_lower (Kd.V_mono (ok' := fun k_ => k_ ≠ gb461 ∧ k_ ≠ gb462) ho0 (fun k_ hk_ => ⟨(Kd.freshB (g := gb461) (o := .cells #[.bool a0_0, .slice A0_1 l0_1.length c0_1] 27 (0, 0)) (by exact bkS BK461.out) k_ hk_), (Kd.freshB (g := gb462) (o := .cells #[.bool a2_0, .slice A2_1 l2_1.length c2_1] 27 (0, 0)) (by exact bkS BK462.out) k_ hk_)⟩)) (below_size (bG2 HB.out GE461.out GE462.out)))
    have n2_ := Aside0.mk (blk_below (g := gb461) (o := .cells #[.bool a0_0, .slice A0_1 l0_1.length c0_1] 27 (0, 0)) (by exact bkS BK461.out) hb)
    have n3_ := Aside0.mk (blk_below (g := gb462) (o := .cells #[.bool a2_0, .slice A2_1 l2_1.length c2_1] 27 (0, 0)) (by exact bkS BK462.out) hb)
    have n4_ := Aside0.mk (below_step (bG2 HB.out GE461.out GE462.out) hb)
    clear HO466
    clear BK461
    clear BK462
    clear HB
    have HO466 := n0_
    have HO470 := n1_
    have BK461 := n2_
    have BK462 := n3_
    have HB := n4_
    clear n0_ n1_ n2_ n3_ n4_
    (try clear hb)
    (try clear hb2)
    (try clear hk)
    (try clear hi)
    (try clear ho0)
    obtain ⟨Ao51, co51, eo51⟩ := Kd.V_slice HO470.out
    (first | subst eo51 | (injection eo51 with f1_ f2_ f3_; have f4_ := f1_.symm; have f5_ := f3_.symm; clear f1_ f2_ f3_; subst f4_; subst f5_))
    refine hK.out _ _ ⟨(blk_cell BK461.out 0).trans rfl, (blk_cell BK461.out 1).trans rfl, (blk_cell BK462.out 0).trans rfl, (blk_cell BK462.out 1).trans rfl⟩ (fun hHeld => ?_)
    clear hK K
    refine norm_ (a' := ?_) ?_ ?_
    rotate_left
    ·show Act.put _ (some 19) _ = _
     simp only [Act.put, List.setIfInBounds_toArray, List.set_cons_zero, List.set_cons_succ, i64_w, i32_w]
     rfl
    refine one_ (i := 5) (N := some 20) #[true, true, true, true, true, true, false] rfl rfl (by kernel_rfl) (by decide) (fun K hK => ?_)
    refine goes_ Tryd.func54 (by kernel_rfl) rfl #[.agg #[.bool a0_0, .slice A0_1 l0_1.length c0_1], .agg #[.bool t467, .slice Ao51 t468.length co51]] (by rfl) rfl rfl (by (try simp only [List.map_toArray, List.map_cons, List.map_nil]); first | done | rfl) ?_
    with_reducible refine (abacuslaw05_apart.calls k a0_0 (fun k_ => k_ < w.heap.size) _ _ l0_1 t467 (fun k_ => (k_ ≠ gb461 ∧ k_ ≠ gb462)) _ _ t468 t471 _ ?side1 ?side2 A9.out).mono ?_
    (case side1 => exact Kd.V_mk HC0_1.out (Kd.F_below (Kd.C_F (Kd.heap_int .u64) HR0_1.out) (bG2 HB.out GE461.out GE462.out)))
    (case side2 => exact HO470.out)
    rintro e w52 ⟨v472, rfl, ho0, hb⟩
    refine ⟨_, rfl, ?_⟩
    have n0_ := Aside0.mk (Kd.V_below (vS <| HO466.out) hb)
    have n1_ := Aside0.mk (Kd.V_below (vS <| HO470.out) hb)
    have n2_ := Aside0.mk (Kd.V_lower (Kd.V_mono (ok' := fun k_ => k_ ≠ gb461 ∧ k_ ≠ gb462) ho0 (fun k_ hk_ => ⟨Or.elim hk_ (fun hs_ => Or.elim hs_ (fun hs_ => fun e_ => Nat.not_le.2 hs_ (by rw [e_]; exact GW461.out)) (fun hs_ => hs_.1)) (fun hn_ => (Kd.freshB (g := gb461) (o := .cells #[.bool a0_0, .slice A0_1 l0_1.length c0_1] 27 (0, 0)) (by exact bkS BK461.out) k_ hn_)), Or.elim hk_ (fun hs_ => Or.elim hs_ (fun hs_ => fun e_ => Nat.not_le.2 hs_ (by rw [e_]; exact GW462.out)) (fun hs_ => hs_.2)) (fun hn_ => (Kd.freshB (g := gb462) (o := .cells #[.bool a2_0, .slice A2_1 l2_1.length c2_1] 27 (0, 0)) (by exact bkS BK462.out) k_ hn_))⟩)) (below_size (bG2 HB.out GE461.out GE462.out)))
    have n3_ := Aside0.mk (blk_below (g := gb461) (o := .cells #[.bool a0_0, .slice A0_1 l0_1.length c0_1] 27 (0, 0)) (by exact bkS BK461.out) hb)
    have n4_ := Aside0.mk (blk_below (g := gb462) (o := .cells #[.bool a2_0, .slice A2_1 l2_1.length c2_1] 27 (0, 0)) (by exact bkS BK462.out) hb)
    have n5_ := Aside0.mk (below_step (bG2 HB.out GE461.out GE462.out) hb)
    clear HO466
    clear HO470
    clear BK461
    clear BK462
    clear HB
    have HO466 := n0_
    have HO470 := n1_
    have HO473 := n2_
    have BK461 := n3_
    have BK462 := n4_
    have HB := n5_
    clear n0_ n1_ n2_ n3_ n4_ n5_
    (try clear hb)
    (try clear hb2)
    (try clear hk)
    (try clear hi)
    (try clear ho0)
    refine hK.out _ _ ⟨(blk_cell BK461.out 0).trans rfl, (blk_cell BK461.out 1).trans rfl, (blk_cell BK462.out 0).trans rfl, (blk_cell BK462.out 1).trans rfl⟩ (fun hHeld => ?_)
    clear hK K
    refine norm_ (a' := ?_) ?_ ?_
    rotate_left
    ·show Act.put _ (some 20) _ = _
     simp only [Act.put, List.setIfInBounds_toArray, List.set_cons_zero, List.set_cons_succ, i64_w, i32_w]
     rfl
    refine pure_ (i := 6) (N := some 7) (v := ?_) (a' := ?_) #[true, true, true, true, true, true, true] rfl rfl (by kernel_rfl) (fun _ _ _ h => h) (Or.inl ⟨by rfl, ?_⟩) ?_ ?_
    rotate_left
    ·intro w'
     go_simp
     with_reducible rfl
    rotate_left
    ·simp only [Act.put, List.setIfInBounds_toArray, List.set_cons_zero, List.set_cons_succ, i64_w, i32_w]
     rfl
    refine done_ (by kernel_rfl) ?_
    try go_wp2
    have n0_ := Aside0.mk (Kd.V_drew HO466.out)
    have n1_ := Aside0.mk (Kd.V_drew HO470.out)
    have n2_ := Aside0.mk (Kd.V_drew HO473.out)
    have n3_ := Aside0.mk (blk_drew BK461.out)
    have n4_ := Aside0.mk (blk_drew BK462.out)
    have n5_ := Aside0.mk (below_drew1 HB.out)
    clear HO466
    clear HO470
    clear HO473
    clear BK461
    clear BK462
    clear HB
    have HO466 := n0_
    have HO470 := n1_
    have HO473 := n2_
    have BK461 := n3_
    have BK462 := n4_
    have HB := n5_
    clear n0_ n1_ n2_ n3_ n4_ n5_
    refine start_ (n := 8) (S := fun w' => w'.cell? ⟨gb461, 0, none⟩ = some (.bool a0_0) ∧ w'.cell? ⟨gb461, 1, none⟩ = some (.slice A0_1 l0_1.length c0_1) ∧ w'.cell? ⟨gb462, 0, none⟩ = some (.bool a2_0) ∧ w'.cell? ⟨gb462, 1, none⟩ = some (.slice A2_1 l2_1.length c2_1)) (ds := []) #[false, false, false, false, false, false, false, false] (by kernel_rfl) rfl rfl ⟨(blk_cell BK461.out 0).trans rfl, (blk_cell BK461.out 1).trans rfl, (blk_cell BK462.out 0).trans rfl, (blk_cell BK462.out 1).trans rfl⟩ (fun hHeld => ?_); refine with_tabW abacuslaw05_nearest.tab4 abacuslaw05_nearest.bits4 (fun HT_ HW_ => ?_)
    generalize w52.drew = w53 at HO466 HO470 HO473 BK461 BK462 HB hHeld ⊢
    refine pure_ (i := 1) (N := some 22) (v := ?_) (a' := ?_) #[false, true, false, false, false, false, false, false] rfl rfl (any_of HT_.out (by kernel_rfl)) (fun _ _ _ h => h) (Or.inl ⟨by rfl, ?_⟩) ?_ ?_
    rotate_left
    ·intro w'
     go_simp
     with_reducible rfl
    rotate_left
    ·simp only [Act.put, List.setIfInBounds_toArray, List.set_cons_zero, List.set_cons_succ, i64_w, i32_w]
     rfl
    refine take_ (i := 0) (N := some 21) (v := ?_) (a' := ?_) #[true, true, false, false, false, false, false, false] rfl rfl (take_ofW HT_.out HW_.out (by kernel_rfl)) (fun _ _ _ h => h) (Or.inl ⟨by rfl, ?_⟩) hHeld ?_ ?_
    rotate_left
    ·rintro w' ⟨s0, s1, s2, s3⟩
     go_simp
     with_reducible rfl
    rotate_left
    ·simp only [Act.put, List.setIfInBounds_toArray, List.set_cons_zero, List.set_cons_succ, i64_w, i32_w]
     rfl
    refine take_ (i := 4) (N := some 25) (v := ?_) (a' := ?_) #[true, true, false, false, true, false, false, false] rfl rfl (take_ofW HT_.out HW_.out (by kernel_rfl)) (fun _ _ _ h => h) (Or.inl ⟨by rfl, ?_⟩) hHeld ?_ ?_
    rotate_left
    ·rintro w' ⟨s0, s1, s2, s3⟩
     go_simp
     with_reducible rfl
    rotate_left
    ·simp only [Act.put, List.setIfInBounds_toArray, List.set_cons_zero, List.set_cons_succ, i64_w, i32_w]
     rfl
    refine one_ (i := 2) (N := some 23) #[true, true, true, false, true, false, false, false] rfl rfl (one_of HT_.out (by kernel_rfl)) (by decide) (fun K hK => ?_)
    refine goes_ Tryd.func34 (by kernel_rfl) rfl #[.int .u64 a1] (by rfl) rfl rfl (by (try simp only [List.map_toArray, List.map_cons, List.map_nil]); first | done | rfl) ?_
    with_reducible refine (ieee_Up.calls k a1 t474 _ A10.out).mono ?_
    rintro e w' ⟨rfl, ⟨nd, rfl⟩⟩
    refine ⟨_, rfl, ?_⟩
    refine hK.out _ _ ⟨(blk_cell BK461.out 0).trans rfl, (blk_cell BK461.out 1).trans rfl, (blk_cell BK462.out 0).trans rfl, (blk_cell BK462.out 1).trans rfl⟩ (fun hHeld => ?_)
    clear hK K
    refine norm_ (a' := ?_) ?_ ?_
    rotate_left
    ·show Act.put _ (some 23) _ = _
     simp only [Act.put, List.setIfInBounds_toArray, List.set_cons_zero, List.set_cons_succ, i64_w, i32_w]
     rfl
    refine one_ (i := 3) (N := some 24) #[true, true, true, true, true, false, false, false] rfl rfl (one_of HT_.out (by kernel_rfl)) (by decide) (fun K hK => ?_)
    refine goes_ Tryd.func17 (by kernel_rfl) rfl #[.int .u64 t474] (by rfl) rfl rfl (by (try simp only [List.map_toArray, List.map_cons, List.map_nil]); first | done | rfl) ?_
    with_reducible refine (abacuslaw05_units.calls k t474 t475 t476 _ A11.out).mono ?_
    rintro e w54 ⟨v477, rfl, ho0, hb⟩
    refine ⟨_, rfl, ?_⟩
    have n0_ := Aside0.mk (Kd.V_below (vS <| HO466.out) hb)
    have n1_ := Aside0.mk (Kd.V_below (vS <| HO470.out) hb)
    have n2_ := Aside0.mk (Kd.V_below (vS <| HO473.out) hb)
    have n3_ := Aside0.mk (Kd.V_lower (Kd.V_mono (ok' := fun k_ => k_ ≠ gb461 ∧ k_ ≠ gb462) ho0 (fun k_ hk_ => ⟨(Kd.freshB (g := gb461) (o := .cells #[.bool a0_0, .slice A0_1 l0_1.length c0_1] 27 (0, 0)) (by exact bkS BK461.out) k_ hk_), (Kd.freshB (g := gb462) (o := .cells #[.bool a2_0, .slice A2_1 l2_1.length c2_1] 27 (0, 0)) (by exact bkS BK462.out) k_ hk_)⟩)) (below_size (bG2 HB.out GE461.out GE462.out)))
    have n4_ := Aside0.mk (blk_below (g := gb461) (o := .cells #[.bool a0_0, .slice A0_1 l0_1.length c0_1] 27 (0, 0)) (by exact bkS BK461.out) hb)
    have n5_ := Aside0.mk (blk_below (g := gb462) (o := .cells #[.bool a2_0, .slice A2_1 l2_1.length c2_1] 27 (0, 0)) (by exact bkS BK462.out) hb)
    have n6_ := Aside0.mk (below_step (bG2 HB.out GE461.out GE462.out) hb)
    clear HO466
    clear HO470
    clear HO473
    clear BK461
    clear BK462
    clear HB
    have HO466 := n0_
    have HO470 := n1_
    have HO473 := n2_
    have HO478 := n3_
    have BK461 := n4_
    have BK462 := n5_
    have HB := n6_
    clear n0_ n1_ n2_ n3_ n4_ n5_ n6_
    (try clear hb)
    (try clear hb2)
    (try clear hk)
    (try clear hi)
    (try clear ho0)
    obtain ⟨Ao55, co55, eo55⟩ := Kd.V_slice HO478.out
    (first | subst eo55 | (injection eo55 with f1_ f2_ f3_; have f4_ := f1_.symm; have f5_ := f3_.symm; clear f1_ f2_ f3_; subst f4_; subst f5_))
    refine hK.out _ _ ⟨(blk_cell BK461.out 0).trans rfl, (blk_cell BK461.out 1).trans rfl, (blk_cell BK462.out 0).trans rfl, (blk_cell BK462.out 1).trans rfl⟩ (fun hHeld => ?_)
    clear hK K
    refine norm_ (a' := ?_) ?_ ?_
    rotate_left
    ·show Act.put _ (some 24) _ = _
     simp only [Act.put, List.setIfInBounds_toArray, List.set_cons_zero, List.set_cons_succ, i64_w, i32_w]
     rfl
    refine one_ (i := 5) (N := some 26) #[true, true, true, true, true, true, false, false] rfl rfl (one_of HT_.out (by kernel_rfl)) (by decide) (fun K hK => ?_)
    refine goes_ Tryd.func31 (by kernel_rfl) rfl #[.agg #[.bool t475, .slice Ao55 t476.length co55], .agg #[.bool a2_0, .slice A2_1 l2_1.length c2_1]] (by rfl) rfl rfl (by (try simp only [List.map_toArray, List.map_cons, List.map_nil]); first | done | rfl) ?_
    with_reducible refine (abacuslaw05_times.calls k t475 _ _ t476 a2_0 _ _ l2_1 t479 t480 _ ?side1 ?side2 ?side3 ?side4 A12.out).mono ?_
    (case side1 => exact cS (Kd.V_reads' HO478.out).2.2)
    (case side2 => exact (Kd.V_reads' HO478.out).2.1)
    (case side3 => exact cS (Kd.C_below HR2_1.out HB.out))
    (case side4 => exact HC2_1.out)
    rintro e w56 ⟨v481, rfl, ho0, hb⟩
    refine ⟨_, rfl, ?_⟩
    have n0_ := Aside0.mk (Kd.V_below (vS <| HO466.out) hb)
    have n1_ := Aside0.mk (Kd.V_below (vS <| HO470.out) hb)
    have n2_ := Aside0.mk (Kd.V_below (vS <| HO473.out) hb)
    have n3_ := Aside0.mk (Kd.V_below (vS <| HO478.out) hb)
    have n4_ := Aside0.mk (Kd.V_lower (Kd.V_mono (ok' := fun k_ => k_ ≠ gb461 ∧ k_ ≠ gb462) ho0 (fun k_ hk_ => ⟨(Kd.freshB (g := gb461) (o := .cells #[.bool a0_0, .slice A0_1 l0_1.length c0_1] 27 (0, 0)) (by exact bkS BK461.out) k_ hk_), (Kd.freshB (g := gb462) (o := .cells #[.bool a2_0, .slice A2_1 l2_1.length c2_1] 27 (0, 0)) (by exact bkS BK462.out) k_ hk_)⟩)) (below_size (bG2 HB.out GE461.out GE462.out)))
    have n5_ := Aside0.mk (blk_below (g := gb461) (o := .cells #[.bool a0_0, .slice A0_1 l0_1.length c0_1] 27 (0, 0)) (by exact bkS BK461.out) hb)
    have n6_ := Aside0.mk (blk_below (g := gb462) (o := .cells #[.bool a2_0, .slice A2_1 l2_1.length c2_1] 27 (0, 0)) (by exact bkS BK462.out) hb)
    have n7_ := Aside0.mk (below_step (bG2 HB.out GE461.out GE462.out) hb)
    clear HO466
    clear HO470
    clear HO473
    clear HO478
    clear BK461
    clear BK462
    clear HB
    have HO466 := n0_
    have HO470 := n1_
    have HO473 := n2_
    have HO478 := n3_
    have HO482 := n4_
    have BK461 := n5_
    have BK462 := n6_
    have HB := n7_
    clear n0_ n1_ n2_ n3_ n4_ n5_ n6_ n7_
    (try clear hb)
    (try clear hb2)
    (try clear hk)
    (try clear hi)
    (try clear ho0)
    obtain ⟨Ao57, co57, eo57⟩ := Kd.V_slice HO482.out
    (first | subst eo57 | (injection eo57 with f1_ f2_ f3_; have f4_ := f1_.symm; have f5_ := f3_.symm; clear f1_ f2_ f3_; subst f4_; subst f5_))
    refine hK.out _ _ ⟨(blk_cell BK461.out 0).trans rfl, (blk_cell BK461.out 1).trans rfl, (blk_cell BK462.out 0).trans rfl, (blk_cell BK462.out 1).trans rfl⟩ (fun hHeld => ?_)
    clear hK K
    refine norm_ (a' := ?_) ?_ ?_
    rotate_left
    ·show Act.put _ (some 26) _ = _
     simp only [Act.put, List.setIfInBounds_toArray, List.set_cons_zero, List.set_cons_succ, i64_w, i32_w]
     rfl
    refine one_ (i := 6) (N := some 27) #[true, true, true, true, true, true, true, false] rfl rfl (one_of HT_.out (by kernel_rfl)) (by decide) (fun K hK => ?_)
    refine goes_ Tryd.func54 (by kernel_rfl) rfl #[.agg #[.bool a0_0, .slice A0_1 l0_1.length c0_1], .agg #[.bool t479, .slice Ao57 t480.length co57]] (by rfl) rfl rfl (by (try simp only [List.map_toArray, List.map_cons, List.map_nil]); first | done | rfl) ?_
    with_reducible refine (abacuslaw05_apart.calls k a0_0 (fun k_ => k_ < w.heap.size) _ _ l0_1 t479 (fun k_ => (k_ ≠ gb461 ∧ k_ ≠ gb462)) _ _ t480 t483 _ ?side1 ?side2 A13.out).mono ?_
    (case side1 => exact Kd.V_mk HC0_1.out (Kd.F_below (Kd.C_F (Kd.heap_int .u64) HR0_1.out) (bG2 HB.out GE461.out GE462.out)))
    (case side2 => exact HO482.out)
    rintro e w58 ⟨v484, rfl, ho0, hb⟩
    refine ⟨_, rfl, ?_⟩
    have n0_ := Aside0.mk (Kd.V_below (vS <| HO466.out) hb)
    have n1_ := Aside0.mk (Kd.V_below (vS <| HO470.out) hb)
    have n2_ := Aside0.mk (Kd.V_below (vS <| HO473.out) hb)
    have n3_ := Aside0.mk (Kd.V_below (vS <| HO478.out) hb)
    have n4_ := Aside0.mk (Kd.V_below (vS <| HO482.out) hb)
    have n5_ := Aside0.mk (Kd.V_lower (Kd.V_mono (ok' := fun k_ => k_ ≠ gb461 ∧ k_ ≠ gb462) ho0 (fun k_ hk_ => ⟨Or.elim hk_ (fun hs_ => Or.elim hs_ (fun hs_ => fun e_ => Nat.not_le.2 hs_ (by rw [e_]; exact GW461.out)) (fun hs_ => hs_.1)) (fun hn_ => (Kd.freshB (g := gb461) (o := .cells #[.bool a0_0, .slice A0_1 l0_1.length c0_1] 27 (0, 0)) (by exact bkS BK461.out) k_ hn_)), Or.elim hk_ (fun hs_ => Or.elim hs_ (fun hs_ => fun e_ => Nat.not_le.2 hs_ (by rw [e_]; exact GW462.out)) (fun hs_ => hs_.2)) (fun hn_ => (Kd.freshB (g := gb462) (o := .cells #[.bool a2_0, .slice A2_1 l2_1.length c2_1] 27 (0, 0)) (by exact bkS BK462.out) k_ hn_))⟩)) (below_size (bG2 HB.out GE461.out GE462.out)))
    have n6_ := Aside0.mk (blk_below (g := gb461) (o := .cells #[.bool a0_0, .slice A0_1 l0_1.length c0_1] 27 (0, 0)) (by exact bkS BK461.out) hb)
    have n7_ := Aside0.mk (blk_below (g := gb462) (o := .cells #[.bool a2_0, .slice A2_1 l2_1.length c2_1] 27 (0, 0)) (by exact bkS BK462.out) hb)
    have n8_ := Aside0.mk (below_step (bG2 HB.out GE461.out GE462.out) hb)
    clear HO466
    clear HO470
    clear HO473
    clear HO478
    clear HO482
    clear BK461
    clear BK462
    clear HB
    have HO466 := n0_
    have HO470 := n1_
    have HO473 := n2_
    have HO478 := n3_
    have HO482 := n4_
    have HO485 := n5_
    have BK461 := n6_
    have BK462 := n7_
    have HB := n8_
    clear n0_ n1_ n2_ n3_ n4_ n5_ n6_ n7_ n8_
    (try clear hb)
    (try clear hb2)
    (try clear hk)
    (try clear hi)
    (try clear ho0)
    refine hK.out _ _ ⟨(blk_cell BK461.out 0).trans rfl, (blk_cell BK461.out 1).trans rfl, (blk_cell BK462.out 0).trans rfl, (blk_cell BK462.out 1).trans rfl⟩ (fun hHeld => ?_)
    clear hK K
    refine norm_ (a' := ?_) ?_ ?_
    rotate_left
    ·show Act.put _ (some 27) _ = _
     simp only [Act.put, List.setIfInBounds_toArray, List.set_cons_zero, List.set_cons_succ, i64_w, i32_w]
     rfl
    refine pure_ (i := 7) (N := some 8) (v := ?_) (a' := ?_) #[true, true, true, true, true, true, true, true] rfl rfl (any_of HT_.out (by kernel_rfl)) (fun _ _ _ h => h) (Or.inl ⟨by rfl, ?_⟩) ?_ ?_
    rotate_left
    ·intro w'
     go_simp
     with_reducible rfl
    rotate_left
    ·simp only [Act.put, List.setIfInBounds_toArray, List.set_cons_zero, List.set_cons_succ, i64_w, i32_w]
     rfl
    refine done_ (done_of HT_.out (by kernel_rfl)) ?_
    try go_wp2
    have n0_ := Aside0.mk (Kd.V_drew HO466.out)
    have n1_ := Aside0.mk (Kd.V_drew HO470.out)
    have n2_ := Aside0.mk (Kd.V_drew HO473.out)
    have n3_ := Aside0.mk (Kd.V_drew HO478.out)
    have n4_ := Aside0.mk (Kd.V_drew HO482.out)
    have n5_ := Aside0.mk (Kd.V_drew HO485.out)
    have n6_ := Aside0.mk (blk_drew BK461.out)
    have n7_ := Aside0.mk (blk_drew BK462.out)
    have n8_ := Aside0.mk (below_drew1 HB.out)
    clear HO466
    clear HO470
    clear HO473
    clear HO478
    clear HO482
    clear HO485
    clear BK461
    clear BK462
    clear HB
    have HO466 := n0_
    have HO470 := n1_
    have HO473 := n2_
    have HO478 := n3_
    have HO482 := n4_
    have HO485 := n5_
    have BK461 := n6_
    have BK462 := n7_
    have HB := n8_
    clear n0_ n1_ n2_ n3_ n4_ n5_ n6_ n7_ n8_
    refine start_ (n := 8) (S := fun w' => w'.cell? ⟨gb461, 0, none⟩ = some (.bool a0_0) ∧ w'.cell? ⟨gb461, 1, none⟩ = some (.slice A0_1 l0_1.length c0_1) ∧ w'.cell? ⟨gb462, 0, none⟩ = some (.bool a2_0) ∧ w'.cell? ⟨gb462, 1, none⟩ = some (.slice A2_1 l2_1.length c2_1)) (ds := []) #[false, false, false, false, false, false, false, false] (by kernel_rfl) rfl rfl ⟨(blk_cell BK461.out 0).trans rfl, (blk_cell BK461.out 1).trans rfl, (blk_cell BK462.out 0).trans rfl, (blk_cell BK462.out 1).trans rfl⟩ (fun hHeld => ?_); refine with_tabW abacuslaw05_nearest.tab5 abacuslaw05_nearest.bits5 (fun HT_ HW_ => ?_)
    generalize w58.drew = w59 at HO466 HO470 HO473 HO478 HO482 HO485 BK461 BK462 HB hHeld ⊢
    refine pure_ (i := 1) (N := some 29) (v := ?_) (a' := ?_) #[false, true, false, false, false, false, false, false] rfl rfl (any_of HT_.out (by kernel_rfl)) (fun _ _ _ h => h) (Or.inl ⟨by rfl, ?_⟩) ?_ ?_
    rotate_left
    ·intro w'
     go_simp
     with_reducible rfl
    rotate_left
    ·simp only [Act.put, List.setIfInBounds_toArray, List.set_cons_zero, List.set_cons_succ, i64_w, i32_w]
     rfl
    refine take_ (i := 0) (N := some 28) (v := ?_) (a' := ?_) #[true, true, false, false, false, false, false, false] rfl rfl (take_ofW HT_.out HW_.out (by kernel_rfl)) (fun _ _ _ h => h) (Or.inl ⟨by rfl, ?_⟩) hHeld ?_ ?_
    rotate_left
    ·rintro w' ⟨s0, s1, s2, s3⟩
     go_simp
     with_reducible rfl
    rotate_left
    ·simp only [Act.put, List.setIfInBounds_toArray, List.set_cons_zero, List.set_cons_succ, i64_w, i32_w]
     rfl
    refine take_ (i := 4) (N := some 32) (v := ?_) (a' := ?_) #[true, true, false, false, true, false, false, false] rfl rfl (take_ofW HT_.out HW_.out (by kernel_rfl)) (fun _ _ _ h => h) (Or.inl ⟨by rfl, ?_⟩) hHeld ?_ ?_
    rotate_left
    ·rintro w' ⟨s0, s1, s2, s3⟩
     go_simp
     with_reducible rfl
    rotate_left
    ·simp only [Act.put, List.setIfInBounds_toArray, List.set_cons_zero, List.set_cons_succ, i64_w, i32_w]
     rfl
    refine one_ (i := 2) (N := some 30) #[true, true, true, false, true, false, false, false] rfl rfl (one_of HT_.out (by kernel_rfl)) (by decide) (fun K hK => ?_)
    refine goes_ Tryd.func35 (by kernel_rfl) rfl #[.int .u64 a1] (by rfl) rfl rfl (by (try simp only [List.map_toArray, List.map_cons, List.map_nil]); first | done | rfl) ?_
    with_reducible refine (ieee_Down.calls k a1 t486 _ A14.out).mono ?_
    rintro e w' ⟨rfl, ⟨nd, rfl⟩⟩
    refine ⟨_, rfl, ?_⟩
    refine hK.out _ _ ⟨(blk_cell BK461.out 0).trans rfl, (blk_cell BK461.out 1).trans rfl, (blk_cell BK462.out 0).trans rfl, (blk_cell BK462.out 1).trans rfl⟩ (fun hHeld => ?_)
    clear hK K
    refine norm_ (a' := ?_) ?_ ?_
    rotate_left
    ·show Act.put _ (some 30) _ = _
     simp only [Act.put, List.setIfInBounds_toArray, List.set_cons_zero, List.set_cons_succ, i64_w, i32_w]
     rfl
    refine one_ (i := 3) (N := some 31) #[true, true, true, true, true, false, false, false] rfl rfl (one_of HT_.out (by kernel_rfl)) (by decide) (fun K hK => ?_)
    refine goes_ Tryd.func17 (by kernel_rfl) rfl #[.int .u64 t486] (by rfl) rfl rfl (by (try simp only [List.map_toArray, List.map_cons, List.map_nil]); first | done | rfl) ?_
    with_reducible refine (abacuslaw05_units.calls k t486 t487 t488 _ A15.out).mono ?_
    rintro e w60 ⟨v489, rfl, ho0, hb⟩
    refine ⟨_, rfl, ?_⟩
    have n0_ := Aside0.mk (Kd.V_below (vS <| HO466.out) hb)
    have n1_ := Aside0.mk (Kd.V_below (vS <| HO470.out) hb)
    have n2_ := Aside0.mk (Kd.V_below (vS <| HO473.out) hb)
    have n3_ := Aside0.mk (Kd.V_below (vS <| HO478.out) hb)
    have n4_ := Aside0.mk (Kd.V_below (vS <| HO482.out) hb)
    have n5_ := Aside0.mk (Kd.V_below (vS <| HO485.out) hb)
    have n6_ := Aside0.mk (Kd.V_lower (Kd.V_mono (ok' := fun k_ => k_ ≠ gb461 ∧ k_ ≠ gb462) ho0 (fun k_ hk_ => ⟨(Kd.freshB (g := gb461) (o := .cells #[.bool a0_0, .slice A0_1 l0_1.length c0_1] 27 (0, 0)) (by exact bkS BK461.out) k_ hk_), (Kd.freshB (g := gb462) (o := .cells #[.bool a2_0, .slice A2_1 l2_1.length c2_1] 27 (0, 0)) (by exact bkS BK462.out) k_ hk_)⟩)) (below_size (bG2 HB.out GE461.out GE462.out)))
    have n7_ := Aside0.mk (blk_below (g := gb461) (o := .cells #[.bool a0_0, .slice A0_1 l0_1.length c0_1] 27 (0, 0)) (by exact bkS BK461.out) hb)
    have n8_ := Aside0.mk (blk_below (g := gb462) (o := .cells #[.bool a2_0, .slice A2_1 l2_1.length c2_1] 27 (0, 0)) (by exact bkS BK462.out) hb)
    have n9_ := Aside0.mk (below_step (bG2 HB.out GE461.out GE462.out) hb)
    clear HO466
    clear HO470
    clear HO473
    clear HO478
    clear HO482
    clear HO485
    clear BK461
    clear BK462
    clear HB
    have HO466 := n0_
    have HO470 := n1_
    have HO473 := n2_
    have HO478 := n3_
    have HO482 := n4_
    have HO485 := n5_
    have HO490 := n6_
    have BK461 := n7_
    have BK462 := n8_
    have HB := n9_
    clear n0_ n1_ n2_ n3_ n4_ n5_ n6_ n7_ n8_ n9_
    (try clear hb)
    (try clear hb2)
    (try clear hk)
    (try clear hi)
    (try clear ho0)
    obtain ⟨Ao61, co61, eo61⟩ := Kd.V_slice HO490.out
    (first | subst eo61 | (injection eo61 with f1_ f2_ f3_; have f4_ := f1_.symm; have f5_ := f3_.symm; clear f1_ f2_ f3_; subst f4_; subst f5_))
    refine hK.out _ _ ⟨(blk_cell BK461.out 0).trans rfl, (blk_cell BK461.out 1).trans rfl, (blk_cell BK462.out 0).trans rfl, (blk_cell BK462.out 1).trans rfl⟩ (fun hHeld => ?_)
    clear hK K
    refine norm_ (a' := ?_) ?_ ?_
    rotate_left
    ·show Act.put _ (some 31) _ = _
     simp only [Act.put, List.setIfInBounds_toArray, List.set_cons_zero, List.set_cons_succ, i64_w, i32_w]
     rfl
    refine one_ (i := 5) (N := some 33) #[true, true, true, true, true, true, false, false] rfl rfl (one_of HT_.out (by kernel_rfl)) (by decide) (fun K hK => ?_)
    refine goes_ Tryd.func31 (by kernel_rfl) rfl #[.agg #[.bool t487, .slice Ao61 t488.length co61], .agg #[.bool a2_0, .slice A2_1 l2_1.length c2_1]] (by rfl) rfl rfl (by (try simp only [List.map_toArray, List.map_cons, List.map_nil]); first | done | rfl) ?_
    with_reducible refine (abacuslaw05_times.calls k t487 _ _ t488 a2_0 _ _ l2_1 t491 t492 _ ?side1 ?side2 ?side3 ?side4 A16.out).mono ?_
    (case side1 => exact cS (Kd.V_reads' HO490.out).2.2)
    (case side2 => exact (Kd.V_reads' HO490.out).2.1)
    (case side3 => exact cS (Kd.C_below HR2_1.out HB.out))
    (case side4 => exact HC2_1.out)
    rintro e w62 ⟨v493, rfl, ho0, hb⟩
    refine ⟨_, rfl, ?_⟩
    have n0_ := Aside0.mk (Kd.V_below (vS <| HO466.out) hb)
    have n1_ := Aside0.mk (Kd.V_below (vS <| HO470.out) hb)
    have n2_ := Aside0.mk (Kd.V_below (vS <| HO473.out) hb)
    have n3_ := Aside0.mk (Kd.V_below (vS <| HO478.out) hb)
    have n4_ := Aside0.mk (Kd.V_below (vS <| HO482.out) hb)
    have n5_ := Aside0.mk (Kd.V_below (vS <| HO485.out) hb)
    have n6_ := Aside0.mk (Kd.V_below (vS <| HO490.out) hb)
    have n7_ := Aside0.mk (Kd.V_lower (Kd.V_mono (ok' := fun k_ => k_ ≠ gb461 ∧ k_ ≠ gb462) ho0 (fun k_ hk_ => ⟨(Kd.freshB (g := gb461) (o := .cells #[.bool a0_0, .slice A0_1 l0_1.length c0_1] 27 (0, 0)) (by exact bkS BK461.out) k_ hk_), (Kd.freshB (g := gb462) (o := .cells #[.bool a2_0, .slice A2_1 l2_1.length c2_1] 27 (0, 0)) (by exact bkS BK462.out) k_ hk_)⟩)) (below_size (bG2 HB.out GE461.out GE462.out)))
    have n8_ := Aside0.mk (blk_below (g := gb461) (o := .cells #[.bool a0_0, .slice A0_1 l0_1.length c0_1] 27 (0, 0)) (by exact bkS BK461.out) hb)
    have n9_ := Aside0.mk (blk_below (g := gb462) (o := .cells #[.bool a2_0, .slice A2_1 l2_1.length c2_1] 27 (0, 0)) (by exact bkS BK462.out) hb)
    have n10_ := Aside0.mk (below_step (bG2 HB.out GE461.out GE462.out) hb)
    clear HO466
    clear HO470
    clear HO473
    clear HO478
    clear HO482
    clear HO485
    clear HO490
    clear BK461
    clear BK462
    clear HB
    have HO466 := n0_
    have HO470 := n1_
    have HO473 := n2_
    have HO478 := n3_
    have HO482 := n4_
    have HO485 := n5_
    have HO490 := n6_
    have HO494 := n7_
    have BK461 := n8_
    have BK462 := n9_
    have HB := n10_
    clear n0_ n1_ n2_ n3_ n4_ n5_ n6_ n7_ n8_ n9_ n10_
    (try clear hb)
    (try clear hb2)
    (try clear hk)
    (try clear hi)
    (try clear ho0)
    obtain ⟨Ao63, co63, eo63⟩ := Kd.V_slice HO494.out
    (first | subst eo63 | (injection eo63 with f1_ f2_ f3_; have f4_ := f1_.symm; have f5_ := f3_.symm; clear f1_ f2_ f3_; subst f4_; subst f5_))
    refine hK.out _ _ ⟨(blk_cell BK461.out 0).trans rfl, (blk_cell BK461.out 1).trans rfl, (blk_cell BK462.out 0).trans rfl, (blk_cell BK462.out 1).trans rfl⟩ (fun hHeld => ?_)
    clear hK K
    refine norm_ (a' := ?_) ?_ ?_
    rotate_left
    ·show Act.put _ (some 33) _ = _
     simp only [Act.put, List.setIfInBounds_toArray, List.set_cons_zero, List.set_cons_succ, i64_w, i32_w]
     rfl
    refine one_ (i := 6) (N := some 34) #[true, true, true, true, true, true, true, false] rfl rfl (one_of HT_.out (by kernel_rfl)) (by decide) (fun K hK => ?_)
    refine goes_ Tryd.func54 (by kernel_rfl) rfl #[.agg #[.bool a0_0, .slice A0_1 l0_1.length c0_1], .agg #[.bool t491, .slice Ao63 t492.length co63]] (by rfl) rfl rfl (by (try simp only [List.map_toArray, List.map_cons, List.map_nil]); first | done | rfl) ?_
    with_reducible refine (abacuslaw05_apart.calls k a0_0 (fun k_ => k_ < w.heap.size) _ _ l0_1 t491 (fun k_ => (k_ ≠ gb461 ∧ k_ ≠ gb462)) _ _ t492 t495 _ ?side1 ?side2 A17.out).mono ?_
    (case side1 => exact Kd.V_mk HC0_1.out (Kd.F_below (Kd.C_F (Kd.heap_int .u64) HR0_1.out) (bG2 HB.out GE461.out GE462.out)))
    (case side2 => exact HO494.out)
    rintro e w64 ⟨v496, rfl, ho0, hb⟩
    refine ⟨_, rfl, ?_⟩
    have n0_ := Aside0.mk (Kd.V_below (vS <| HO466.out) hb)
    have n1_ := Aside0.mk (Kd.V_below (vS <| HO470.out) hb)
    have n2_ := Aside0.mk (Kd.V_below (vS <| HO473.out) hb)
    have n3_ := Aside0.mk (Kd.V_below (vS <| HO478.out) hb)
    have n4_ := Aside0.mk (Kd.V_below (vS <| HO482.out) hb)
    have n5_ := Aside0.mk (Kd.V_below (vS <| HO485.out) hb)
    have n6_ := Aside0.mk (Kd.V_below (vS <| HO490.out) hb)
    have n7_ := Aside0.mk (Kd.V_below (vS <| HO494.out) hb)
    have n8_ := Aside0.mk (Kd.V_lower (Kd.V_mono (ok' := fun k_ => k_ ≠ gb461 ∧ k_ ≠ gb462) ho0 (fun k_ hk_ => ⟨Or.elim hk_ (fun hs_ => Or.elim hs_ (fun hs_ => fun e_ => Nat.not_le.2 hs_ (by rw [e_]; exact GW461.out)) (fun hs_ => hs_.1)) (fun hn_ => (Kd.freshB (g := gb461) (o := .cells #[.bool a0_0, .slice A0_1 l0_1.length c0_1] 27 (0, 0)) (by exact bkS BK461.out) k_ hn_)), Or.elim hk_ (fun hs_ => Or.elim hs_ (fun hs_ => fun e_ => Nat.not_le.2 hs_ (by rw [e_]; exact GW462.out)) (fun hs_ => hs_.2)) (fun hn_ => (Kd.freshB (g := gb462) (o := .cells #[.bool a2_0, .slice A2_1 l2_1.length c2_1] 27 (0, 0)) (by exact bkS BK462.out) k_ hn_))⟩)) (below_size (bG2 HB.out GE461.out GE462.out)))
    have n9_ := Aside0.mk (blk_below (g := gb461) (o := .cells #[.bool a0_0, .slice A0_1 l0_1.length c0_1] 27 (0, 0)) (by exact bkS BK461.out) hb)
    have n10_ := Aside0.mk (blk_below (g := gb462) (o := .cells #[.bool a2_0, .slice A2_1 l2_1.length c2_1] 27 (0, 0)) (by exact bkS BK462.out) hb)
    have n11_ := Aside0.mk (below_step (bG2 HB.out GE461.out GE462.out) hb)
    clear HO466
    clear HO470
    clear HO473
    clear HO478
    clear HO482
    clear HO485
    clear HO490
    clear HO494
    clear BK461
    clear BK462
    clear HB
    have HO466 := n0_
    have HO470 := n1_
    have HO473 := n2_
    have HO478 := n3_
    have HO482 := n4_
    have HO485 := n5_
    have HO490 := n6_
    have HO494 := n7_
    have HO497 := n8_
    have BK461 := n9_
    have BK462 := n10_
    have HB := n11_
    clear n0_ n1_ n2_ n3_ n4_ n5_ n6_ n7_ n8_ n9_ n10_ n11_
    (try clear hb)
    (try clear hb2)
    (try clear hk)
    (try clear hi)
    (try clear ho0)
    refine hK.out _ _ ⟨(blk_cell BK461.out 0).trans rfl, (blk_cell BK461.out 1).trans rfl, (blk_cell BK462.out 0).trans rfl, (blk_cell BK462.out 1).trans rfl⟩ (fun hHeld => ?_)
    clear hK K
    refine norm_ (a' := ?_) ?_ ?_
    rotate_left
    ·show Act.put _ (some 34) _ = _
     simp only [Act.put, List.setIfInBounds_toArray, List.set_cons_zero, List.set_cons_succ, i64_w, i32_w]
     rfl
    refine pure_ (i := 7) (N := some 9) (v := ?_) (a' := ?_) #[true, true, true, true, true, true, true, true] rfl rfl (any_of HT_.out (by kernel_rfl)) (fun _ _ _ h => h) (Or.inl ⟨by rfl, ?_⟩) ?_ ?_
    rotate_left
    ·intro w'
     go_simp
     with_reducible rfl
    rotate_left
    ·simp only [Act.put, List.setIfInBounds_toArray, List.set_cons_zero, List.set_cons_succ, i64_w, i32_w]
     rfl
    refine done_ (done_of HT_.out (by kernel_rfl)) ?_
    obtain ⟨Ao65, co65, eo65⟩ := Kd.V_slice HO473.out
    subst eo65
    obtain ⟨Ao66, co66, eo66⟩ := Kd.V_slice HO485.out
    subst eo66
    try go_wp2_with (first | ((with_reducible refine gate_callee (f := 18) rfl ?_); refine goesL_ (some 37) rfl rfl Tryd.func18 (by kernel_rfl) rfl #[.slice Ao65 t471.length co65, .slice Ao66 t483.length co66] rfl (by (try simp only [List.map_toArray, List.map_cons, List.map_nil]); first | done | rfl) ?_; (with_reducible refine (nat_Cmp.calls k _ _ t471 _ _ t483 t498 _ ?side1 ?side2 ?side3 ?side4 A18.out).mono ?_); (case side1 => exact cS (Kd.V_reads' HO473.out).2.2); (case side2 => exact (Kd.V_reads' HO473.out).2.1); (case side3 => exact cS (Kd.V_reads' HO485.out).2.2); (case side4 => exact (Kd.V_reads' HO485.out).2.1); rintro e w' ⟨rfl, ⟨nd, rfl⟩⟩; refine ⟨_, rfl, ?_⟩; obtain ⟨Ao67, co67, eo67⟩ := Kd.V_slice HO497.out; subst eo67) | ((with_reducible refine gate_callee (f := 18) rfl ?_); refine goesL_ (some 40) rfl rfl Tryd.func18 (by kernel_rfl) rfl #[.slice Ao65 t471.length co65, .slice Ao67 t495.length co67] rfl (by (try simp only [List.map_toArray, List.map_cons, List.map_nil]); first | done | rfl) ?_; (with_reducible refine (nat_Cmp.calls k _ _ t471 _ _ t495 t499 _ ?side1 ?side2 ?side3 ?side4 A19.out).mono ?_); (case side1 => exact cS (Kd.V_reads' HO473.out).2.2); (case side2 => exact (Kd.V_reads' HO473.out).2.1); (case side3 => exact cS (Kd.V_reads' HO497.out).2.2); (case side4 => exact (Kd.V_reads' HO497.out).2.1); rintro e w' ⟨rfl, ⟨nd, rfl⟩⟩; refine ⟨_, rfl, ?_⟩))
    go_ret
    exact ⟨by first | rfl | (simp [errW_none, errW_some] <;> rfl) | (simp [*, errW_none, errW_some] <;> rfl), bG2 HB.out GE461.out GE462.out⟩
   ·rw [if_neg c44] at H
    have c44b0 : decide (0 < t499) = false := decide_eq_false c44
    clear c44
    by_cases c68 : t498 < 0
    ·rw [if_pos c68] at H
     have c68b0 : decide (t498 < 0) = true := decide_eq_true c68
     clear c68
     by_cases c69 : t499 < 0
     ·rw [if_pos c69] at H
      have c69b0 : decide (t499 < 0) = true := decide_eq_true c69
      clear c69
      obtain rfl := Option.some.inj H
      go_enter Tryd.func25, Tryd.ntmps25
      try go_wp2_with (first | ((with_reducible refine gate_dst (N := 3) rfl ?_); refine box_event ?hg (N := 3) ?hd (cs := #[.bool a0_0, .slice A0_1 l0_1.length c0_1]) (t := 27) ?hr ?_; (case hd => rfl); (case hg => rfl); (case hr => first | (go_simp; done) | (go_simp; rfl)); intro gb461 hg w70 hbox hb; have BK461 := Aside0.mk (hbox); have GW461 := Aside0.mk ((by rw [hg]; exact (below_size (bS HB.out)) : w.heap.size ≤ gb461)); have GE461 := Aside0.mk ((by rw [hg]; exact (below_size (bS HB.out)) : w.heap.size ≤ gb461)); replace HB := hB HB hb; clear hb hbox hg) | ((with_reducible refine gate_dst (N := 5) rfl ?_); refine box_event ?hg (N := 5) ?hd (cs := #[.bool a2_0, .slice A2_1 l2_1.length c2_1]) (t := 27) ?hr ?_; (case hd => rfl); (case hg => rfl); (case hr => first | (go_simp; done) | (go_simp; rfl)); intro gb462 hg w71 hbox hb; have BK462 := Aside0.mk (hbox); have GW462 := Aside0.mk ((by rw [hg]; exact (below_size (bG1 HB.out GE461.out)) : w.heap.size ≤ gb462)); have GE462 := Aside0.mk ((by rw [hg]; exact (below_size (bG1 HB.out GE461.out)) : w.heap.size ≤ gb462)); replace HB := Aside0.mk (below_step (bG1 HB.out GE461.out) hb); have NB461_462 := Aside0.mk ((by rw [hg]; exact Nat.ne_of_lt (blk_lt (g := gb461) (o := .cells #[.bool a0_0, .slice A0_1 l0_1.length c0_1] 27 (0, 0)) (by exact bkS BK461.out)) : gb461 ≠ gb462)); have NB462_461 := Aside0.mk ((by rw [hg]; exact Nat.ne_of_gt (blk_lt (g := gb461) (o := .cells #[.bool a0_0, .slice A0_1 l0_1.length c0_1] 27 (0, 0)) (by exact bkS BK461.out)) : gb462 ≠ gb461)); replace BK461 := bkB BK461 hb; clear hb hbox hg))
      have n0_ := Aside0.mk (blk_drew BK461.out)
      have n1_ := Aside0.mk (blk_drew BK462.out)
      have n2_ := Aside0.mk (below_drew1 HB.out)
      clear BK461
      clear BK462
      clear HB
      have BK461 := n0_
      have BK462 := n1_
      have HB := n2_
      clear n0_ n1_ n2_
      refine start_ (n := 7) (S := fun w' => w'.cell? ⟨gb461, 0, none⟩ = some (.bool a0_0) ∧ w'.cell? ⟨gb461, 1, none⟩ = some (.slice A0_1 l0_1.length c0_1) ∧ w'.cell? ⟨gb462, 0, none⟩ = some (.bool a2_0) ∧ w'.cell? ⟨gb462, 1, none⟩ = some (.slice A2_1 l2_1.length c2_1)) (ds := []) #[false, false, false, false, false, false, false] (by kernel_rfl) rfl rfl ⟨(blk_cell BK461.out 0).trans rfl, (blk_cell BK461.out 1).trans rfl, (blk_cell BK462.out 0).trans rfl, (blk_cell BK462.out 1).trans rfl⟩ (fun hHeld => ?_)
      generalize w71.drew = w72 at BK461 BK462 HB hHeld ⊢
      refine pure_ (i := 1) (N := some 16) (v := ?_) (a' := ?_) #[false, true, false, false, false, false, false] rfl rfl (by kernel_rfl) (fun _ _ _ h => h) (Or.inl ⟨by rfl, ?_⟩) ?_ ?_
      rotate_left
      ·intro w'
       go_simp
       with_reducible rfl
      rotate_left
      ·simp only [Act.put, List.setIfInBounds_toArray, List.set_cons_zero, List.set_cons_succ, i64_w, i32_w]
       rfl
      refine take_ (i := 0) (N := some 15) (v := ?_) (a' := ?_) #[true, true, false, false, false, false, false] rfl rfl (by kernel_rfl) (fun _ _ _ h => h) (Or.inl ⟨by rfl, ?_⟩) hHeld ?_ ?_
      rotate_left
      ·rintro w' ⟨s0, s1, s2, s3⟩
       go_simp
       with_reducible rfl
      rotate_left
      ·simp only [Act.put, List.setIfInBounds_toArray, List.set_cons_zero, List.set_cons_succ, i64_w, i32_w]
       rfl
      refine take_ (i := 3) (N := some 18) (v := ?_) (a' := ?_) #[true, true, false, true, false, false, false] rfl rfl (by kernel_rfl) (fun _ _ _ h => h) (Or.inl ⟨by rfl, ?_⟩) hHeld ?_ ?_
      rotate_left
      ·rintro w' ⟨s0, s1, s2, s3⟩
       go_simp
       with_reducible rfl
      rotate_left
      ·simp only [Act.put, List.setIfInBounds_toArray, List.set_cons_zero, List.set_cons_succ, i64_w, i32_w]
       rfl
      refine one_ (i := 2) (N := some 17) #[true, true, true, true, false, false, false] rfl rfl (by kernel_rfl) (by decide) (fun K hK => ?_)
      refine goes_ Tryd.func17 (by kernel_rfl) rfl #[.int .u64 a1] (by rfl) rfl rfl (by (try simp only [List.map_toArray, List.map_cons, List.map_nil]); first | done | rfl) ?_
      with_reducible refine (abacuslaw05_units.calls k a1 t463 t464 _ A7.out).mono ?_
      rintro e w73 ⟨v465, rfl, ho0, hb⟩
      refine ⟨_, rfl, ?_⟩
      have n0_ := Aside0.mk (Kd.V_lower (Kd.V_mono (ok' := fun k_ => k_ ≠ gb461 ∧ k_ ≠ gb462) ho0 (fun k_ hk_ => ⟨(Kd.freshB (g := gb461) (o := .cells #[.bool a0_0, .slice A0_1 l0_1.length c0_1] 27 (0, 0)) (by exact bkS BK461.out) k_ hk_), (Kd.freshB (g := gb462) (o := .cells #[.bool a2_0, .slice A2_1 l2_1.length c2_1] 27 (0, 0)) (by exact bkS BK462.out) k_ hk_)⟩)) (below_size (bG2 HB.out GE461.out GE462.out)))
      have n1_ := Aside0.mk (blk_below (g := gb461) (o := .cells #[.bool a0_0, .slice A0_1 l0_1.length c0_1] 27 (0, 0)) (by exact bkS BK461.out) hb)
      have n2_ := Aside0.mk (blk_below (g := gb462) (o := .cells #[.bool a2_0, .slice A2_1 l2_1.length c2_1] 27 (0, 0)) (by exact bkS BK462.out) hb)
      have n3_ := Aside0.mk (below_step (bG2 HB.out GE461.out GE462.out) hb)
      clear BK461
      clear BK462
      clear HB
      have HO466 := n0_
      have BK461 := n1_
      have BK462 := n2_
      have HB := n3_
      clear n0_ n1_ n2_ n3_
      (try clear hb)
      (try clear hb2)
      (try clear hk)
      (try clear hi)
      (try clear ho0)
      obtain ⟨Ao74, co74, eo74⟩ := Kd.V_slice HO466.out
      (first | subst eo74 | (injection eo74 with f1_ f2_ f3_; have f4_ := f1_.symm; have f5_ := f3_.symm; clear f1_ f2_ f3_; subst f4_; subst f5_))
      refine hK.out _ _ ⟨(blk_cell BK461.out 0).trans rfl, (blk_cell BK461.out 1).trans rfl, (blk_cell BK462.out 0).trans rfl, (blk_cell BK462.out 1).trans rfl⟩ (fun hHeld => ?_)
      clear hK K
      refine norm_ (a' := ?_) ?_ ?_
      rotate_left
      ·show Act.put _ (some 17) _ = _
       simp only [Act.put, List.setIfInBounds_toArray, List.set_cons_zero, List.set_cons_succ, i64_w, i32_w]
       rfl
      refine one_ (i := 4) (N := some 19) #[true, true, true, true, true, false, false] rfl rfl (by kernel_rfl) (by decide) (fun K hK => ?_)
      refine goes_ Tryd.func31 (by kernel_rfl) rfl #[.agg #[.bool t463, .slice Ao74 t464.length co74], .agg #[.bool a2_0, .slice A2_1 l2_1.length c2_1]] (by rfl) rfl rfl (by (try simp only [List.map_toArray, List.map_cons, List.map_nil]); first | done | rfl) ?_
      with_reducible refine (abacuslaw05_times.calls k t463 _ _ t464 a2_0 _ _ l2_1 t467 t468 _ ?side1 ?side2 ?side3 ?side4 A8.out).mono ?_
      (case side1 => exact cS (Kd.V_reads' HO466.out).2.2)
      (case side2 => exact (Kd.V_reads' HO466.out).2.1)
      (case side3 => exact cS (Kd.C_below HR2_1.out HB.out))
      (case side4 => exact HC2_1.out)
      rintro e w75 ⟨v469, rfl, ho0, hb⟩
      refine ⟨_, rfl, ?_⟩
      have n0_ := Aside0.mk (Kd.V_below (vS <| HO466.out) hb)
      have n1_ := Aside0.mk (Kd.V_lower (Kd.V_mono (ok' := fun k_ => k_ ≠ gb461 ∧ k_ ≠ gb462) ho0 (fun k_ hk_ => ⟨(Kd.freshB (g := gb461) (o := .cells #[.bool a0_0, .slice A0_1 l0_1.length c0_1] 27 (0, 0)) (by exact bkS BK461.out) k_ hk_), (Kd.freshB (g := gb462) (o := .cells #[.bool a2_0, .slice A2_1 l2_1.length c2_1] 27 (0, 0)) (by exact bkS BK462.out) k_ hk_)⟩)) (below_size (bG2 HB.out GE461.out GE462.out)))
      have n2_ := Aside0.mk (blk_below (g := gb461) (o := .cells #[.bool a0_0, .slice A0_1 l0_1.length c0_1] 27 (0, 0)) (by exact bkS BK461.out) hb)
      have n3_ := Aside0.mk (blk_below (g := gb462) (o := .cells #[.bool a2_0, .slice A2_1 l2_1.length c2_1] 27 (0, 0)) (by exact bkS BK462.out) hb)
      have n4_ := Aside0.mk (below_step (bG2 HB.out GE461.out GE462.out) hb)
      clear HO466
      clear BK461
      clear BK462
      clear HB
      have HO466 := n0_
      have HO470 := n1_
      have BK461 := n2_
      have BK462 := n3_
      have HB := n4_
      clear n0_ n1_ n2_ n3_ n4_
      (try clear hb)
      (try clear hb2)
      (try clear hk)
      (try clear hi)
      (try clear ho0)
      obtain ⟨Ao76, co76, eo76⟩ := Kd.V_slice HO470.out
      (first | subst eo76 | (injection eo76 with f1_ f2_ f3_; have f4_ := f1_.symm; have f5_ := f3_.symm; clear f1_ f2_ f3_; subst f4_; subst f5_))
      refine hK.out _ _ ⟨(blk_cell BK461.out 0).trans rfl, (blk_cell BK461.out 1).trans rfl, (blk_cell BK462.out 0).trans rfl, (blk_cell BK462.out 1).trans rfl⟩ (fun hHeld => ?_)
      clear hK K
      refine norm_ (a' := ?_) ?_ ?_
      rotate_left
      ·show Act.put _ (some 19) _ = _
       simp only [Act.put, List.setIfInBounds_toArray, List.set_cons_zero, List.set_cons_succ, i64_w, i32_w]
       rfl
      refine one_ (i := 5) (N := some 20) #[true, true, true, true, true, true, false] rfl rfl (by kernel_rfl) (by decide) (fun K hK => ?_)
      refine goes_ Tryd.func54 (by kernel_rfl) rfl #[.agg #[.bool a0_0, .slice A0_1 l0_1.length c0_1], .agg #[.bool t467, .slice Ao76 t468.length co76]] (by rfl) rfl rfl (by (try simp only [List.map_toArray, List.map_cons, List.map_nil]); first | done | rfl) ?_
      with_reducible refine (abacuslaw05_apart.calls k a0_0 (fun k_ => k_ < w.heap.size) _ _ l0_1 t467 (fun k_ => (k_ ≠ gb461 ∧ k_ ≠ gb462)) _ _ t468 t471 _ ?side1 ?side2 A9.out).mono ?_
      (case side1 => exact Kd.V_mk HC0_1.out (Kd.F_below (Kd.C_F (Kd.heap_int .u64) HR0_1.out) (bG2 HB.out GE461.out GE462.out)))
      (case side2 => exact HO470.out)
      rintro e w77 ⟨v472, rfl, ho0, hb⟩
      refine ⟨_, rfl, ?_⟩
      have n0_ := Aside0.mk (Kd.V_below (vS <| HO466.out) hb)
      have n1_ := Aside0.mk (Kd.V_below (vS <| HO470.out) hb)
      have n2_ := Aside0.mk (Kd.V_lower (Kd.V_mono (ok' := fun k_ => k_ ≠ gb461 ∧ k_ ≠ gb462) ho0 (fun k_ hk_ => ⟨Or.elim hk_ (fun hs_ => Or.elim hs_ (fun hs_ => fun e_ => Nat.not_le.2 hs_ (by rw [e_]; exact GW461.out)) (fun hs_ => hs_.1)) (fun hn_ => (Kd.freshB (g := gb461) (o := .cells #[.bool a0_0, .slice A0_1 l0_1.length c0_1] 27 (0, 0)) (by exact bkS BK461.out) k_ hn_)), Or.elim hk_ (fun hs_ => Or.elim hs_ (fun hs_ => fun e_ => Nat.not_le.2 hs_ (by rw [e_]; exact GW462.out)) (fun hs_ => hs_.2)) (fun hn_ => (Kd.freshB (g := gb462) (o := .cells #[.bool a2_0, .slice A2_1 l2_1.length c2_1] 27 (0, 0)) (by exact bkS BK462.out) k_ hn_))⟩)) (below_size (bG2 HB.out GE461.out GE462.out)))
      have n3_ := Aside0.mk (blk_below (g := gb461) (o := .cells #[.bool a0_0, .slice A0_1 l0_1.length c0_1] 27 (0, 0)) (by exact bkS BK461.out) hb)
      have n4_ := Aside0.mk (blk_below (g := gb462) (o := .cells #[.bool a2_0, .slice A2_1 l2_1.length c2_1] 27 (0, 0)) (by exact bkS BK462.out) hb)
      have n5_ := Aside0.mk (below_step (bG2 HB.out GE461.out GE462.out) hb)
      clear HO466
      clear HO470
      clear BK461
      clear BK462
      clear HB
      have HO466 := n0_
      have HO470 := n1_
      have HO473 := n2_
      have BK461 := n3_
      have BK462 := n4_
      have HB := n5_
      clear n0_ n1_ n2_ n3_ n4_ n5_
      (try clear hb)
      (try clear hb2)
      (try clear hk)
      (try clear hi)
      (try clear ho0)
      refine hK.out _ _ ⟨(blk_cell BK461.out 0).trans rfl, (blk_cell BK461.out 1).trans rfl, (blk_cell BK462.out 0).trans rfl, (blk_cell BK462.out 1).trans rfl⟩ (fun hHeld => ?_)
      clear hK K
      refine norm_ (a' := ?_) ?_ ?_
      rotate_left
      ·show Act.put _ (some 20) _ = _
       simp only [Act.put, List.setIfInBounds_toArray, List.set_cons_zero, List.set_cons_succ, i64_w, i32_w]
       rfl
      refine pure_ (i := 6) (N := some 7) (v := ?_) (a' := ?_) #[true, true, true, true, true, true, true] rfl rfl (by kernel_rfl) (fun _ _ _ h => h) (Or.inl ⟨by rfl, ?_⟩) ?_ ?_
      rotate_left
      ·intro w'
       go_simp
       with_reducible rfl
      rotate_left
      ·simp only [Act.put, List.setIfInBounds_toArray, List.set_cons_zero, List.set_cons_succ, i64_w, i32_w]
       rfl
      refine done_ (by kernel_rfl) ?_
      try go_wp2
      have n0_ := Aside0.mk (Kd.V_drew HO466.out)
      have n1_ := Aside0.mk (Kd.V_drew HO470.out)
      have n2_ := Aside0.mk (Kd.V_drew HO473.out)
      have n3_ := Aside0.mk (blk_drew BK461.out)
      have n4_ := Aside0.mk (blk_drew BK462.out)
      have n5_ := Aside0.mk (below_drew1 HB.out)
      clear HO466
      clear HO470
      clear HO473
      clear BK461
      clear BK462
      clear HB
      have HO466 := n0_
      have HO470 := n1_
      have HO473 := n2_
      have BK461 := n3_
      have BK462 := n4_
      have HB := n5_
      clear n0_ n1_ n2_ n3_ n4_ n5_
      refine start_ (n := 8) (S := fun w' => w'.cell? ⟨gb461, 0, none⟩ = some (.bool a0_0) ∧ w'.cell? ⟨gb461, 1, none⟩ = some (.slice A0_1 l0_1.length c0_1) ∧ w'.cell? ⟨gb462, 0, none⟩ = some (.bool a2_0) ∧ w'.cell? ⟨gb462, 1, none⟩ = some (.slice A2_1 l2_1.length c2_1)) (ds := []) #[false, false, false, false, false, false, false, false] (by kernel_rfl) rfl rfl ⟨(blk_cell BK461.out 0).trans rfl, (blk_cell BK461.out 1).trans rfl, (blk_cell BK462.out 0).trans rfl, (blk_cell BK462.out 1).trans rfl⟩ (fun hHeld => ?_); refine with_tabW abacuslaw05_nearest.tab4 abacuslaw05_nearest.bits4 (fun HT_ HW_ => ?_)
      generalize w77.drew = w78 at HO466 HO470 HO473 BK461 BK462 HB hHeld ⊢
      refine pure_ (i := 1) (N := some 22) (v := ?_) (a' := ?_) #[false, true, false, false, false, false, false, false] rfl rfl (any_of HT_.out (by kernel_rfl)) (fun _ _ _ h => h) (Or.inl ⟨by rfl, ?_⟩) ?_ ?_
      rotate_left
      ·intro w'
       go_simp
       with_reducible rfl
      rotate_left
      ·simp only [Act.put, List.setIfInBounds_toArray, List.set_cons_zero, List.set_cons_succ, i64_w, i32_w]
       rfl
      refine take_ (i := 0) (N := some 21) (v := ?_) (a' := ?_) #[true, true, false, false, false, false, false, false] rfl rfl (take_ofW HT_.out HW_.out (by kernel_rfl)) (fun _ _ _ h => h) (Or.inl ⟨by rfl, ?_⟩) hHeld ?_ ?_
      rotate_left
      ·rintro w' ⟨s0, s1, s2, s3⟩
       go_simp
       with_reducible rfl
      rotate_left
      ·simp only [Act.put, List.setIfInBounds_toArray, List.set_cons_zero, List.set_cons_succ, i64_w, i32_w]
       rfl
      refine take_ (i := 4) (N := some 25) (v := ?_) (a' := ?_) #[true, true, false, false, true, false, false, false] rfl rfl (take_ofW HT_.out HW_.out (by kernel_rfl)) (fun _ _ _ h => h) (Or.inl ⟨by rfl, ?_⟩) hHeld ?_ ?_
      rotate_left
      ·rintro w' ⟨s0, s1, s2, s3⟩
       go_simp
       with_reducible rfl
      rotate_left
      ·simp only [Act.put, List.setIfInBounds_toArray, List.set_cons_zero, List.set_cons_succ, i64_w, i32_w]
       rfl
      refine one_ (i := 2) (N := some 23) #[true, true, true, false, true, false, false, false] rfl rfl (one_of HT_.out (by kernel_rfl)) (by decide) (fun K hK => ?_)
      refine goes_ Tryd.func34 (by kernel_rfl) rfl #[.int .u64 a1] (by rfl) rfl rfl (by (try simp only [List.map_toArray, List.map_cons, List.map_nil]); first | done | rfl) ?_
      with_reducible refine (ieee_Up.calls k a1 t474 _ A10.out).mono ?_
      rintro e w' ⟨rfl, ⟨nd, rfl⟩⟩
      refine ⟨_, rfl, ?_⟩
      refine hK.out _ _ ⟨(blk_cell BK461.out 0).trans rfl, (blk_cell BK461.out 1).trans rfl, (blk_cell BK462.out 0).trans rfl, (blk_cell BK462.out 1).trans rfl⟩ (fun hHeld => ?_)
      clear hK K
      refine norm_ (a' := ?_) ?_ ?_
      rotate_left
      ·show Act.put _ (some 23) _ = _
       simp only [Act.put, List.setIfInBounds_toArray, List.set_cons_zero, List.set_cons_succ, i64_w, i32_w]
       rfl
      refine one_ (i := 3) (N := some 24) #[true, true, true, true, true, false, false, false] rfl rfl (one_of HT_.out (by kernel_rfl)) (by decide) (fun K hK => ?_)
      refine goes_ Tryd.func17 (by kernel_rfl) rfl #[.int .u64 t474] (by rfl) rfl rfl (by (try simp only [List.map_toArray, List.map_cons, List.map_nil]); first | done | rfl) ?_
      with_reducible refine (abacuslaw05_units.calls k t474 t475 t476 _ A11.out).mono ?_
      rintro e w79 ⟨v477, rfl, ho0, hb⟩
      refine ⟨_, rfl, ?_⟩
      have n0_ := Aside0.mk (Kd.V_below (vS <| HO466.out) hb)
      have n1_ := Aside0.mk (Kd.V_below (vS <| HO470.out) hb)
      have n2_ := Aside0.mk (Kd.V_below (vS <| HO473.out) hb)
      have n3_ := Aside0.mk (Kd.V_lower (Kd.V_mono (ok' := fun k_ => k_ ≠ gb461 ∧ k_ ≠ gb462) ho0 (fun k_ hk_ => ⟨(Kd.freshB (g := gb461) (o := .cells #[.bool a0_0, .slice A0_1 l0_1.length c0_1] 27 (0, 0)) (by exact bkS BK461.out) k_ hk_), (Kd.freshB (g := gb462) (o := .cells #[.bool a2_0, .slice A2_1 l2_1.length c2_1] 27 (0, 0)) (by exact bkS BK462.out) k_ hk_)⟩)) (below_size (bG2 HB.out GE461.out GE462.out)))
      have n4_ := Aside0.mk (blk_below (g := gb461) (o := .cells #[.bool a0_0, .slice A0_1 l0_1.length c0_1] 27 (0, 0)) (by exact bkS BK461.out) hb)
      have n5_ := Aside0.mk (blk_below (g := gb462) (o := .cells #[.bool a2_0, .slice A2_1 l2_1.length c2_1] 27 (0, 0)) (by exact bkS BK462.out) hb)
      have n6_ := Aside0.mk (below_step (bG2 HB.out GE461.out GE462.out) hb)
      clear HO466
      clear HO470
      clear HO473
      clear BK461
      clear BK462
      clear HB
      have HO466 := n0_
      have HO470 := n1_
      have HO473 := n2_
      have HO478 := n3_
      have BK461 := n4_
      have BK462 := n5_
      have HB := n6_
      clear n0_ n1_ n2_ n3_ n4_ n5_ n6_
      (try clear hb)
      (try clear hb2)
      (try clear hk)
      (try clear hi)
      (try clear ho0)
      obtain ⟨Ao80, co80, eo80⟩ := Kd.V_slice HO478.out
      (first | subst eo80 | (injection eo80 with f1_ f2_ f3_; have f4_ := f1_.symm; have f5_ := f3_.symm; clear f1_ f2_ f3_; subst f4_; subst f5_))
      refine hK.out _ _ ⟨(blk_cell BK461.out 0).trans rfl, (blk_cell BK461.out 1).trans rfl, (blk_cell BK462.out 0).trans rfl, (blk_cell BK462.out 1).trans rfl⟩ (fun hHeld => ?_)
      clear hK K
      refine norm_ (a' := ?_) ?_ ?_
      rotate_left
      ·show Act.put _ (some 24) _ = _
       simp only [Act.put, List.setIfInBounds_toArray, List.set_cons_zero, List.set_cons_succ, i64_w, i32_w]
       rfl
      refine one_ (i := 5) (N := some 26) #[true, true, true, true, true, true, false, false] rfl rfl (one_of HT_.out (by kernel_rfl)) (by decide) (fun K hK => ?_)
      refine goes_ Tryd.func31 (by kernel_rfl) rfl #[.agg #[.bool t475, .slice Ao80 t476.length co80], .agg #[.bool a2_0, .slice A2_1 l2_1.length c2_1]] (by rfl) rfl rfl (by (try simp only [List.map_toArray, List.map_cons, List.map_nil]); first | done | rfl) ?_
      with_reducible refine (abacuslaw05_times.calls k t475 _ _ t476 a2_0 _ _ l2_1 t479 t480 _ ?side1 ?side2 ?side3 ?side4 A12.out).mono ?_
      (case side1 => exact cS (Kd.V_reads' HO478.out).2.2)
      (case side2 => exact (Kd.V_reads' HO478.out).2.1)
      (case side3 => exact cS (Kd.C_below HR2_1.out HB.out))
      (case side4 => exact HC2_1.out)
      rintro e w81 ⟨v481, rfl, ho0, hb⟩
      refine ⟨_, rfl, ?_⟩
      have n0_ := Aside0.mk (Kd.V_below (vS <| HO466.out) hb)
      have n1_ := Aside0.mk (Kd.V_below (vS <| HO470.out) hb)
      have n2_ := Aside0.mk (Kd.V_below (vS <| HO473.out) hb)
      have n3_ := Aside0.mk (Kd.V_below (vS <| HO478.out) hb)
      have n4_ := Aside0.mk (Kd.V_lower (Kd.V_mono (ok' := fun k_ => k_ ≠ gb461 ∧ k_ ≠ gb462) ho0 (fun k_ hk_ => ⟨(Kd.freshB (g := gb461) (o := .cells #[.bool a0_0, .slice A0_1 l0_1.length c0_1] 27 (0, 0)) (by exact bkS BK461.out) k_ hk_), (Kd.freshB (g := gb462) (o := .cells #[.bool a2_0, .slice A2_1 l2_1.length c2_1] 27 (0, 0)) (by exact bkS BK462.out) k_ hk_)⟩)) (below_size (bG2 HB.out GE461.out GE462.out)))
      have n5_ := Aside0.mk (blk_below (g := gb461) (o := .cells #[.bool a0_0, .slice A0_1 l0_1.length c0_1] 27 (0, 0)) (by exact bkS BK461.out) hb)
      have n6_ := Aside0.mk (blk_below (g := gb462) (o := .cells #[.bool a2_0, .slice A2_1 l2_1.length c2_1] 27 (0, 0)) (by exact bkS BK462.out) hb)
      have n7_ := Aside0.mk (below_step (bG2 HB.out GE461.out GE462.out) hb)
      clear HO466
      clear HO470
      clear HO473
      clear HO478
      clear BK461
      clear BK462
      clear HB
      have HO466 := n0_
      have HO470 := n1_
      have HO473 := n2_
      have HO478 := n3_
      have HO482 := n4_
      have BK461 := n5_
      have BK462 := n6_
      have HB := n7_
      clear n0_ n1_ n2_ n3_ n4_ n5_ n6_ n7_
      (try clear hb)
      (try clear hb2)
      (try clear hk)
      (try clear hi)
      (try clear ho0)
      obtain ⟨Ao82, co82, eo82⟩ := Kd.V_slice HO482.out
      (first | subst eo82 | (injection eo82 with f1_ f2_ f3_; have f4_ := f1_.symm; have f5_ := f3_.symm; clear f1_ f2_ f3_; subst f4_; subst f5_))
      refine hK.out _ _ ⟨(blk_cell BK461.out 0).trans rfl, (blk_cell BK461.out 1).trans rfl, (blk_cell BK462.out 0).trans rfl, (blk_cell BK462.out 1).trans rfl⟩ (fun hHeld => ?_)
      clear hK K
      refine norm_ (a' := ?_) ?_ ?_
      rotate_left
      ·show Act.put _ (some 26) _ = _
       simp only [Act.put, List.setIfInBounds_toArray, List.set_cons_zero, List.set_cons_succ, i64_w, i32_w]
       rfl
      refine one_ (i := 6) (N := some 27) #[true, true, true, true, true, true, true, false] rfl rfl (one_of HT_.out (by kernel_rfl)) (by decide) (fun K hK => ?_)
      refine goes_ Tryd.func54 (by kernel_rfl) rfl #[.agg #[.bool a0_0, .slice A0_1 l0_1.length c0_1], .agg #[.bool t479, .slice Ao82 t480.length co82]] (by rfl) rfl rfl (by (try simp only [List.map_toArray, List.map_cons, List.map_nil]); first | done | rfl) ?_
      with_reducible refine (abacuslaw05_apart.calls k a0_0 (fun k_ => k_ < w.heap.size) _ _ l0_1 t479 (fun k_ => (k_ ≠ gb461 ∧ k_ ≠ gb462)) _ _ t480 t483 _ ?side1 ?side2 A13.out).mono ?_
      (case side1 => exact Kd.V_mk HC0_1.out (Kd.F_below (Kd.C_F (Kd.heap_int .u64) HR0_1.out) (bG2 HB.out GE461.out GE462.out)))
      (case side2 => exact HO482.out)
      rintro e w83 ⟨v484, rfl, ho0, hb⟩
      refine ⟨_, rfl, ?_⟩
      have n0_ := Aside0.mk (Kd.V_below (vS <| HO466.out) hb)
      have n1_ := Aside0.mk (Kd.V_below (vS <| HO470.out) hb)
      have n2_ := Aside0.mk (Kd.V_below (vS <| HO473.out) hb)
      have n3_ := Aside0.mk (Kd.V_below (vS <| HO478.out) hb)
      have n4_ := Aside0.mk (Kd.V_below (vS <| HO482.out) hb)
      have n5_ := Aside0.mk (Kd.V_lower (Kd.V_mono (ok' := fun k_ => k_ ≠ gb461 ∧ k_ ≠ gb462) ho0 (fun k_ hk_ => ⟨Or.elim hk_ (fun hs_ => Or.elim hs_ (fun hs_ => fun e_ => Nat.not_le.2 hs_ (by rw [e_]; exact GW461.out)) (fun hs_ => hs_.1)) (fun hn_ => (Kd.freshB (g := gb461) (o := .cells #[.bool a0_0, .slice A0_1 l0_1.length c0_1] 27 (0, 0)) (by exact bkS BK461.out) k_ hn_)), Or.elim hk_ (fun hs_ => Or.elim hs_ (fun hs_ => fun e_ => Nat.not_le.2 hs_ (by rw [e_]; exact GW462.out)) (fun hs_ => hs_.2)) (fun hn_ => (Kd.freshB (g := gb462) (o := .cells #[.bool a2_0, .slice A2_1 l2_1.length c2_1] 27 (0, 0)) (by exact bkS BK462.out) k_ hn_))⟩)) (below_size (bG2 HB.out GE461.out GE462.out)))
      have n6_ := Aside0.mk (blk_below (g := gb461) (o := .cells #[.bool a0_0, .slice A0_1 l0_1.length c0_1] 27 (0, 0)) (by exact bkS BK461.out) hb)
      have n7_ := Aside0.mk (blk_below (g := gb462) (o := .cells #[.bool a2_0, .slice A2_1 l2_1.length c2_1] 27 (0, 0)) (by exact bkS BK462.out) hb)
      have n8_ := Aside0.mk (below_step (bG2 HB.out GE461.out GE462.out) hb)
      clear HO466
      clear HO470
      clear HO473
      clear HO478
      clear HO482
      clear BK461
      clear BK462
      clear HB
      have HO466 := n0_
      have HO470 := n1_
      have HO473 := n2_
      have HO478 := n3_
      have HO482 := n4_
      have HO485 := n5_
      have BK461 := n6_
      have BK462 := n7_
      have HB := n8_
      clear n0_ n1_ n2_ n3_ n4_ n5_ n6_ n7_ n8_
      (try clear hb)
      (try clear hb2)
      (try clear hk)
      (try clear hi)
      (try clear ho0)
      refine hK.out _ _ ⟨(blk_cell BK461.out 0).trans rfl, (blk_cell BK461.out 1).trans rfl, (blk_cell BK462.out 0).trans rfl, (blk_cell BK462.out 1).trans rfl⟩ (fun hHeld => ?_)
      clear hK K
      refine norm_ (a' := ?_) ?_ ?_
      rotate_left
      ·show Act.put _ (some 27) _ = _
       simp only [Act.put, List.setIfInBounds_toArray, List.set_cons_zero, List.set_cons_succ, i64_w, i32_w]
       rfl
      refine pure_ (i := 7) (N := some 8) (v := ?_) (a' := ?_) #[true, true, true, true, true, true, true, true] rfl rfl (any_of HT_.out (by kernel_rfl)) (fun _ _ _ h => h) (Or.inl ⟨by rfl, ?_⟩) ?_ ?_
      rotate_left
      ·intro w'
       go_simp
       with_reducible rfl
      rotate_left
      ·simp only [Act.put, List.setIfInBounds_toArray, List.set_cons_zero, List.set_cons_succ, i64_w, i32_w]
       rfl
      refine done_ (done_of HT_.out (by kernel_rfl)) ?_
      try go_wp2
      have n0_ := Aside0.mk (Kd.V_drew HO466.out)
      have n1_ := Aside0.mk (Kd.V_drew HO470.out)
      have n2_ := Aside0.mk (Kd.V_drew HO473.out)
      have n3_ := Aside0.mk (Kd.V_drew HO478.out)
      have n4_ := Aside0.mk (Kd.V_drew HO482.out)
      have n5_ := Aside0.mk (Kd.V_drew HO485.out)
      have n6_ := Aside0.mk (blk_drew BK461.out)
      have n7_ := Aside0.mk (blk_drew BK462.out)
      have n8_ := Aside0.mk (below_drew1 HB.out)
      clear HO466
      clear HO470
      clear HO473
      clear HO478
      clear HO482
      clear HO485
      clear BK461
      clear BK462
      clear HB
      have HO466 := n0_
      have HO470 := n1_
      have HO473 := n2_
      have HO478 := n3_
      have HO482 := n4_
      have HO485 := n5_
      have BK461 := n6_
      have BK462 := n7_
      have HB := n8_
      clear n0_ n1_ n2_ n3_ n4_ n5_ n6_ n7_ n8_
      refine start_ (n := 8) (S := fun w' => w'.cell? ⟨gb461, 0, none⟩ = some (.bool a0_0) ∧ w'.cell? ⟨gb461, 1, none⟩ = some (.slice A0_1 l0_1.length c0_1) ∧ w'.cell? ⟨gb462, 0, none⟩ = some (.bool a2_0) ∧ w'.cell? ⟨gb462, 1, none⟩ = some (.slice A2_1 l2_1.length c2_1)) (ds := []) #[false, false, false, false, false, false, false, false] (by kernel_rfl) rfl rfl ⟨(blk_cell BK461.out 0).trans rfl, (blk_cell BK461.out 1).trans rfl, (blk_cell BK462.out 0).trans rfl, (blk_cell BK462.out 1).trans rfl⟩ (fun hHeld => ?_); refine with_tabW abacuslaw05_nearest.tab5 abacuslaw05_nearest.bits5 (fun HT_ HW_ => ?_)
      generalize w83.drew = w84 at HO466 HO470 HO473 HO478 HO482 HO485 BK461 BK462 HB hHeld ⊢
      refine pure_ (i := 1) (N := some 29) (v := ?_) (a' := ?_) #[false, true, false, false, false, false, false, false] rfl rfl (any_of HT_.out (by kernel_rfl)) (fun _ _ _ h => h) (Or.inl ⟨by rfl, ?_⟩) ?_ ?_
      rotate_left
      ·intro w'
       go_simp
       with_reducible rfl
      rotate_left
      ·simp only [Act.put, List.setIfInBounds_toArray, List.set_cons_zero, List.set_cons_succ, i64_w, i32_w]
       rfl
      refine take_ (i := 0) (N := some 28) (v := ?_) (a' := ?_) #[true, true, false, false, false, false, false, false] rfl rfl (take_ofW HT_.out HW_.out (by kernel_rfl)) (fun _ _ _ h => h) (Or.inl ⟨by rfl, ?_⟩) hHeld ?_ ?_
      rotate_left
      ·rintro w' ⟨s0, s1, s2, s3⟩
       go_simp
       with_reducible rfl
      rotate_left
      ·simp only [Act.put, List.setIfInBounds_toArray, List.set_cons_zero, List.set_cons_succ, i64_w, i32_w]
       rfl
      refine take_ (i := 4) (N := some 32) (v := ?_) (a' := ?_) #[true, true, false, false, true, false, false, false] rfl rfl (take_ofW HT_.out HW_.out (by kernel_rfl)) (fun _ _ _ h => h) (Or.inl ⟨by rfl, ?_⟩) hHeld ?_ ?_
      rotate_left
      ·rintro w' ⟨s0, s1, s2, s3⟩
       go_simp
       with_reducible rfl
      rotate_left
      ·simp only [Act.put, List.setIfInBounds_toArray, List.set_cons_zero, List.set_cons_succ, i64_w, i32_w]
       rfl
      refine one_ (i := 2) (N := some 30) #[true, true, true, false, true, false, false, false] rfl rfl (one_of HT_.out (by kernel_rfl)) (by decide) (fun K hK => ?_)
      refine goes_ Tryd.func35 (by kernel_rfl) rfl #[.int .u64 a1] (by rfl) rfl rfl (by (try simp only [List.map_toArray, List.map_cons, List.map_nil]); first | done | rfl) ?_
      with_reducible refine (ieee_Down.calls k a1 t486 _ A14.out).mono ?_
      rintro e w' ⟨rfl, ⟨nd, rfl⟩⟩
      refine ⟨_, rfl, ?_⟩
      refine hK.out _ _ ⟨(blk_cell BK461.out 0).trans rfl, (blk_cell BK461.out 1).trans rfl, (blk_cell BK462.out 0).trans rfl, (blk_cell BK462.out 1).trans rfl⟩ (fun hHeld => ?_)
      clear hK K
      refine norm_ (a' := ?_) ?_ ?_
      rotate_left
      ·show Act.put _ (some 30) _ = _
       simp only [Act.put, List.setIfInBounds_toArray, List.set_cons_zero, List.set_cons_succ, i64_w, i32_w]
       rfl
      refine one_ (i := 3) (N := some 31) #[true, true, true, true, true, false, false, false] rfl rfl (one_of HT_.out (by kernel_rfl)) (by decide) (fun K hK => ?_)
      refine goes_ Tryd.func17 (by kernel_rfl) rfl #[.int .u64 t486] (by rfl) rfl rfl (by (try simp only [List.map_toArray, List.map_cons, List.map_nil]); first | done | rfl) ?_
      with_reducible refine (abacuslaw05_units.calls k t486 t487 t488 _ A15.out).mono ?_
      rintro e w85 ⟨v489, rfl, ho0, hb⟩
      refine ⟨_, rfl, ?_⟩
      have n0_ := Aside0.mk (Kd.V_below (vS <| HO466.out) hb)
      have n1_ := Aside0.mk (Kd.V_below (vS <| HO470.out) hb)
      have n2_ := Aside0.mk (Kd.V_below (vS <| HO473.out) hb)
      have n3_ := Aside0.mk (Kd.V_below (vS <| HO478.out) hb)
      have n4_ := Aside0.mk (Kd.V_below (vS <| HO482.out) hb)
      have n5_ := Aside0.mk (Kd.V_below (vS <| HO485.out) hb)
      have n6_ := Aside0.mk (Kd.V_lower (Kd.V_mono (ok' := fun k_ => k_ ≠ gb461 ∧ k_ ≠ gb462) ho0 (fun k_ hk_ => ⟨(Kd.freshB (g := gb461) (o := .cells #[.bool a0_0, .slice A0_1 l0_1.length c0_1] 27 (0, 0)) (by exact bkS BK461.out) k_ hk_), (Kd.freshB (g := gb462) (o := .cells #[.bool a2_0, .slice A2_1 l2_1.length c2_1] 27 (0, 0)) (by exact bkS BK462.out) k_ hk_)⟩)) (below_size (bG2 HB.out GE461.out GE462.out)))
      have n7_ := Aside0.mk (blk_below (g := gb461) (o := .cells #[.bool a0_0, .slice A0_1 l0_1.length c0_1] 27 (0, 0)) (by exact bkS BK461.out) hb)
      have n8_ := Aside0.mk (blk_below (g := gb462) (o := .cells #[.bool a2_0, .slice A2_1 l2_1.length c2_1] 27 (0, 0)) (by exact bkS BK462.out) hb)
      have n9_ := Aside0.mk (below_step (bG2 HB.out GE461.out GE462.out) hb)
      clear HO466
      clear HO470
      clear HO473
      clear HO478
      clear HO482
      clear HO485
      clear BK461
      clear BK462
      clear HB
      have HO466 := n0_
      have HO470 := n1_
      have HO473 := n2_
      have HO478 := n3_
      have HO482 := n4_
      have HO485 := n5_
      have HO490 := n6_
      have BK461 := n7_
      have BK462 := n8_
      have HB := n9_
      clear n0_ n1_ n2_ n3_ n4_ n5_ n6_ n7_ n8_ n9_
      (try clear hb)
      (try clear hb2)
      (try clear hk)
      (try clear hi)
      (try clear ho0)
      obtain ⟨Ao86, co86, eo86⟩ := Kd.V_slice HO490.out
      (first | subst eo86 | (injection eo86 with f1_ f2_ f3_; have f4_ := f1_.symm; have f5_ := f3_.symm; clear f1_ f2_ f3_; subst f4_; subst f5_))
      refine hK.out _ _ ⟨(blk_cell BK461.out 0).trans rfl, (blk_cell BK461.out 1).trans rfl, (blk_cell BK462.out 0).trans rfl, (blk_cell BK462.out 1).trans rfl⟩ (fun hHeld => ?_)
      clear hK K
      refine norm_ (a' := ?_) ?_ ?_
      rotate_left
      ·show Act.put _ (some 31) _ = _
       simp only [Act.put, List.setIfInBounds_toArray, List.set_cons_zero, List.set_cons_succ, i64_w, i32_w]
       rfl
      refine one_ (i := 5) (N := some 33) #[true, true, true, true, true, true, false, false] rfl rfl (one_of HT_.out (by kernel_rfl)) (by decide) (fun K hK => ?_)
      refine goes_ Tryd.func31 (by kernel_rfl) rfl #[.agg #[.bool t487, .slice Ao86 t488.length co86], .agg #[.bool a2_0, .slice A2_1 l2_1.length c2_1]] (by rfl) rfl rfl (by (try simp only [List.map_toArray, List.map_cons, List.map_nil]); first | done | rfl) ?_
      with_reducible refine (abacuslaw05_times.calls k t487 _ _ t488 a2_0 _ _ l2_1 t491 t492 _ ?side1 ?side2 ?side3 ?side4 A16.out).mono ?_
      (case side1 => exact cS (Kd.V_reads' HO490.out).2.2)
      (case side2 => exact (Kd.V_reads' HO490.out).2.1)
      (case side3 => exact cS (Kd.C_below HR2_1.out HB.out))
      (case side4 => exact HC2_1.out)
      rintro e w87 ⟨v493, rfl, ho0, hb⟩
      refine ⟨_, rfl, ?_⟩
      have n0_ := Aside0.mk (Kd.V_below (vS <| HO466.out) hb)
      have n1_ := Aside0.mk (Kd.V_below (vS <| HO470.out) hb)
      have n2_ := Aside0.mk (Kd.V_below (vS <| HO473.out) hb)
      have n3_ := Aside0.mk (Kd.V_below (vS <| HO478.out) hb)
      have n4_ := Aside0.mk (Kd.V_below (vS <| HO482.out) hb)
      have n5_ := Aside0.mk (Kd.V_below (vS <| HO485.out) hb)
      have n6_ := Aside0.mk (Kd.V_below (vS <| HO490.out) hb)
      have n7_ := Aside0.mk (Kd.V_lower (Kd.V_mono (ok' := fun k_ => k_ ≠ gb461 ∧ k_ ≠ gb462) ho0 (fun k_ hk_ => ⟨(Kd.freshB (g := gb461) (o := .cells #[.bool a0_0, .slice A0_1 l0_1.length c0_1] 27 (0, 0)) (by exact bkS BK461.out) k_ hk_), (Kd.freshB (g := gb462) (o := .cells #[.bool a2_0, .slice A2_1 l2_1.length c2_1] 27 (0, 0)) (by exact bkS BK462.out) k_ hk_)⟩)) (below_size (bG2 HB.out GE461.out GE462.out)))
      have n8_ := Aside0.mk (blk_below (g := gb461) (o := .cells #[.bool a0_0, .slice A0_1 l0_1.length c0_1] 27 (0, 0)) (by exact bkS BK461.out) hb)
      have n9_ := Aside0.mk (blk_below (g := gb462) (o := .cells #[.bool a2_0, .slice A2_1 l2_1.length c2_1] 27 (0, 0)) (by exact bkS BK462.out) hb)
      have n10_ := Aside0.mk (below_step (bG2 HB.out GE461.out GE462.out) hb)
      clear HO466
      clear HO470
      clear HO473
      clear HO478
      clear HO482
      clear HO485
      clear HO490
      clear BK461
      clear BK462
      clear HB
      have HO466 := n0_
      have HO470 := n1_
      have HO473 := n2_
      have HO478 := n3_
      have HO482 := n4_
      have HO485 := n5_
      have HO490 := n6_
      have HO494 := n7_
      have BK461 := n8_
      have BK462 := n9_
      have HB := n10_
      clear n0_ n1_ n2_ n3_ n4_ n5_ n6_ n7_ n8_ n9_ n10_
      (try clear hb)
      (try clear hb2)
      (try clear hk)
      (try clear hi)
      (try clear ho0)
      obtain ⟨Ao88, co88, eo88⟩ := Kd.V_slice HO494.out
      (first | subst eo88 | (injection eo88 with f1_ f2_ f3_; have f4_ := f1_.symm; have f5_ := f3_.symm; clear f1_ f2_ f3_; subst f4_; subst f5_))
      refine hK.out _ _ ⟨(blk_cell BK461.out 0).trans rfl, (blk_cell BK461.out 1).trans rfl, (blk_cell BK462.out 0).trans rfl, (blk_cell BK462.out 1).trans rfl⟩ (fun hHeld => ?_)
      clear hK K
      refine norm_ (a' := ?_) ?_ ?_
      rotate_left
      ·show Act.put _ (some 33) _ = _
       simp only [Act.put, List.setIfInBounds_toArray, List.set_cons_zero, List.set_cons_succ, i64_w, i32_w]
       rfl
      refine one_ (i := 6) (N := some 34) #[true, true, true, true, true, true, true, false] rfl rfl (one_of HT_.out (by kernel_rfl)) (by decide) (fun K hK => ?_)
      refine goes_ Tryd.func54 (by kernel_rfl) rfl #[.agg #[.bool a0_0, .slice A0_1 l0_1.length c0_1], .agg #[.bool t491, .slice Ao88 t492.length co88]] (by rfl) rfl rfl (by (try simp only [List.map_toArray, List.map_cons, List.map_nil]); first | done | rfl) ?_
      with_reducible refine (abacuslaw05_apart.calls k a0_0 (fun k_ => k_ < w.heap.size) _ _ l0_1 t491 (fun k_ => (k_ ≠ gb461 ∧ k_ ≠ gb462)) _ _ t492 t495 _ ?side1 ?side2 A17.out).mono ?_
      (case side1 => exact Kd.V_mk HC0_1.out (Kd.F_below (Kd.C_F (Kd.heap_int .u64) HR0_1.out) (bG2 HB.out GE461.out GE462.out)))
      (case side2 => exact HO494.out)
      rintro e w89 ⟨v496, rfl, ho0, hb⟩
      refine ⟨_, rfl, ?_⟩
      have n0_ := Aside0.mk (Kd.V_below (vS <| HO466.out) hb)
      have n1_ := Aside0.mk (Kd.V_below (vS <| HO470.out) hb)
      have n2_ := Aside0.mk (Kd.V_below (vS <| HO473.out) hb)
      have n3_ := Aside0.mk (Kd.V_below (vS <| HO478.out) hb)
      have n4_ := Aside0.mk (Kd.V_below (vS <| HO482.out) hb)
      have n5_ := Aside0.mk (Kd.V_below (vS <| HO485.out) hb)
      have n6_ := Aside0.mk (Kd.V_below (vS <| HO490.out) hb)
      have n7_ := Aside0.mk (Kd.V_below (vS <| HO494.out) hb)
      have n8_ := Aside0.mk (Kd.V_lower (Kd.V_mono (ok' := fun k_ => k_ ≠ gb461 ∧ k_ ≠ gb462) ho0 (fun k_ hk_ => ⟨Or.elim hk_ (fun hs_ => Or.elim hs_ (fun hs_ => fun e_ => Nat.not_le.2 hs_ (by rw [e_]; exact GW461.out)) (fun hs_ => hs_.1)) (fun hn_ => (Kd.freshB (g := gb461) (o := .cells #[.bool a0_0, .slice A0_1 l0_1.length c0_1] 27 (0, 0)) (by exact bkS BK461.out) k_ hn_)), Or.elim hk_ (fun hs_ => Or.elim hs_ (fun hs_ => fun e_ => Nat.not_le.2 hs_ (by rw [e_]; exact GW462.out)) (fun hs_ => hs_.2)) (fun hn_ => (Kd.freshB (g := gb462) (o := .cells #[.bool a2_0, .slice A2_1 l2_1.length c2_1] 27 (0, 0)) (by exact bkS BK462.out) k_ hn_))⟩)) (below_size (bG2 HB.out GE461.out GE462.out)))
      have n9_ := Aside0.mk (blk_below (g := gb461) (o := .cells #[.bool a0_0, .slice A0_1 l0_1.length c0_1] 27 (0, 0)) (by exact bkS BK461.out) hb)
      have n10_ := Aside0.mk (blk_below (g := gb462) (o := .cells #[.bool a2_0, .slice A2_1 l2_1.length c2_1] 27 (0, 0)) (by exact bkS BK462.out) hb)
      have n11_ := Aside0.mk (below_step (bG2 HB.out GE461.out GE462.out) hb)
      clear HO466
      clear HO470
      clear HO473
      clear HO478
      clear HO482
      clear HO485
      clear HO490
      clear HO494
      clear BK461
      clear BK462
      clear HB
      have HO466 := n0_
      have HO470 := n1_
      have HO473 := n2_
      have HO478 := n3_
      have HO482 := n4_
      have HO485 := n5_
      have HO490 := n6_
      have HO494 := n7_
      have HO497 := n8_
      have BK461 := n9_
      have BK462 := n10_
      have HB := n11_
      clear n0_ n1_ n2_ n3_ n4_ n5_ n6_ n7_ n8_ n9_ n10_ n11_
      (try clear hb)
      (try clear hb2)
      (try clear hk)
      (try clear hi)
      (try clear ho0)
      refine hK.out _ _ ⟨(blk_cell BK461.out 0).trans rfl, (blk_cell BK461.out 1).trans rfl, (blk_cell BK462.out 0).trans rfl, (blk_cell BK462.out 1).trans rfl⟩ (fun hHeld => ?_)
      clear hK K
      refine norm_ (a' := ?_) ?_ ?_
      rotate_left
      ·show Act.put _ (some 34) _ = _
       simp only [Act.put, List.setIfInBounds_toArray, List.set_cons_zero, List.set_cons_succ, i64_w, i32_w]
       rfl
      refine pure_ (i := 7) (N := some 9) (v := ?_) (a' := ?_) #[true, true, true, true, true, true, true, true] rfl rfl (any_of HT_.out (by kernel_rfl)) (fun _ _ _ h => h) (Or.inl ⟨by rfl, ?_⟩) ?_ ?_
      rotate_left
      ·intro w'
       go_simp
       with_reducible rfl
      rotate_left
      ·simp only [Act.put, List.setIfInBounds_toArray, List.set_cons_zero, List.set_cons_succ, i64_w, i32_w]
       rfl
      refine done_ (done_of HT_.out (by kernel_rfl)) ?_
      obtain ⟨Ao90, co90, eo90⟩ := Kd.V_slice HO473.out
      subst eo90
      obtain ⟨Ao91, co91, eo91⟩ := Kd.V_slice HO485.out
      subst eo91
      try go_wp2_with (first | ((with_reducible refine gate_callee (f := 18) rfl ?_); refine goesL_ (some 37) rfl rfl Tryd.func18 (by kernel_rfl) rfl #[.slice Ao90 t471.length co90, .slice Ao91 t483.length co91] rfl (by (try simp only [List.map_toArray, List.map_cons, List.map_nil]); first | done | rfl) ?_; (with_reducible refine (nat_Cmp.calls k _ _ t471 _ _ t483 t498 _ ?side1 ?side2 ?side3 ?side4 A18.out).mono ?_); (case side1 => exact cS (Kd.V_reads' HO473.out).2.2); (case side2 => exact (Kd.V_reads' HO473.out).2.1); (case side3 => exact cS (Kd.V_reads' HO485.out).2.2); (case side4 => exact (Kd.V_reads' HO485.out).2.1); rintro e w' ⟨rfl, ⟨nd, rfl⟩⟩; refine ⟨_, rfl, ?_⟩; obtain ⟨Ao92, co92, eo92⟩ := Kd.V_slice HO497.out; subst eo92) | ((with_reducible refine gate_callee (f := 18) rfl ?_); refine goesL_ (some 40) rfl rfl Tryd.func18 (by kernel_rfl) rfl #[.slice Ao90 t471.length co90, .slice Ao92 t495.length co92] rfl (by (try simp only [List.map_toArray, List.map_cons, List.map_nil]); first | done | rfl) ?_; (with_reducible refine (nat_Cmp.calls k _ _ t471 _ _ t495 t499 _ ?side1 ?side2 ?side3 ?side4 A19.out).mono ?_); (case side1 => exact cS (Kd.V_reads' HO473.out).2.2); (case side2 => exact (Kd.V_reads' HO473.out).2.1); (case side3 => exact cS (Kd.V_reads' HO497.out).2.2); (case side4 => exact (Kd.V_reads' HO497.out).2.1); rintro e w' ⟨rfl, ⟨nd, rfl⟩⟩; refine ⟨_, rfl, ?_⟩))
      go_ret
      exact ⟨by first | rfl | (simp [errW_none, errW_some] <;> rfl) | (simp [*, errW_none, errW_some] <;> rfl), bG2 HB.out GE461.out GE462.out⟩
     ·rw [if_neg c69] at H
      have c69b0 : decide (t499 < 0) = false := decide_eq_false c69
      clear c69
      obtain rfl := Option.some.inj H
      go_enter Tryd.func25, Tryd.ntmps25
      try go_wp2_with (first | ((with_reducible refine gate_dst (N := 3) rfl ?_); refine box_event ?hg (N := 3) ?hd (cs := #[.bool a0_0, .slice A0_1 l0_1.length c0_1]) (t := 27) ?hr ?_; (case hd => rfl); (case hg => rfl); (case hr => first | (go_simp; done) | (go_simp; rfl)); intro gb461 hg w93 hbox hb; have BK461 := Aside0.mk (hbox); have GW461 := Aside0.mk ((by rw [hg]; exact (below_size (bS HB.out)) : w.heap.size ≤ gb461)); have GE461 := Aside0.mk ((by rw [hg]; exact (below_size (bS HB.out)) : w.heap.size ≤ gb461)); replace HB := hB HB hb; clear hb hbox hg) | ((with_reducible refine gate_dst (N := 5) rfl ?_); refine box_event ?hg (N := 5) ?hd (cs := #[.bool a2_0, .slice A2_1 l2_1.length c2_1]) (t := 27) ?hr ?_; (case hd => rfl); (case hg => rfl); (case hr => first | (go_simp; done) | (go_simp; rfl)); intro gb462 hg w94 hbox hb; have BK462 := Aside0.mk (hbox); have GW462 := Aside0.mk ((by rw [hg]; exact (below_size (bG1 HB.out GE461.out)) : w.heap.size ≤ gb462)); have GE462 := Aside0.mk ((by rw [hg]; exact (below_size (bG1 HB.out GE461.out)) : w.heap.size ≤ gb462)); replace HB := Aside0.mk (below_step (bG1 HB.out GE461.out) hb); have NB461_462 := Aside0.mk ((by rw [hg]; exact Nat.ne_of_lt (blk_lt (g := gb461) (o := .cells #[.bool a0_0, .slice A0_1 l0_1.length c0_1] 27 (0, 0)) (by exact bkS BK461.out)) : gb461 ≠ gb462)); have NB462_461 := Aside0.mk ((by rw [hg]; exact Nat.ne_of_gt (blk_lt (g := gb461) (o := .cells #[.bool a0_0, .slice A0_1 l0_1.length c0_1] 27 (0, 0)) (by exact bkS BK461.out)) : gb462 ≠ gb461)); replace BK461 := bkB BK461 hb; clear hb hbox hg))
      have n0_ := Aside0.mk (blk_drew BK461.out)
      have n1_ := Aside0.mk (blk_drew BK462.out)
      have n2_ := Aside0.mk (below_drew1 HB.out)
      clear BK461
      clear BK462
      clear HB
      have BK461 := n0_
      have BK462 := n1_
      have HB := n2_
      clear n0_ n1_ n2_
      refine start_ (n := 7) (S := fun w' => w'.cell? ⟨gb461, 0, none⟩ = some (.bool a0_0) ∧ w'.cell? ⟨gb461, 1, none⟩ = some (.slice A0_1 l0_1.length c0_1) ∧ w'.cell? ⟨gb462, 0, none⟩ = some (.bool a2_0) ∧ w'.cell? ⟨gb462, 1, none⟩ = some (.slice A2_1 l2_1.length c2_1)) (ds := []) #[false, false, false, false, false, false, false] (by kernel_rfl) rfl rfl ⟨(blk_cell BK461.out 0).trans rfl, (blk_cell BK461.out 1).trans rfl, (blk_cell BK462.out 0).trans rfl, (blk_cell BK462.out 1).trans rfl⟩ (fun hHeld => ?_)
      generalize w94.drew = w95 at BK461 BK462 HB hHeld ⊢
      refine pure_ (i := 1) (N := some 16) (v := ?_) (a' := ?_) #[false, true, false, false, false, false, false] rfl rfl (by kernel_rfl) (fun _ _ _ h => h) (Or.inl ⟨by rfl, ?_⟩) ?_ ?_
      rotate_left
      ·intro w'
       go_simp
       with_reducible rfl
      rotate_left
      ·simp only [Act.put, List.setIfInBounds_toArray, List.set_cons_zero, List.set_cons_succ, i64_w, i32_w]
       rfl
      refine take_ (i := 0) (N := some 15) (v := ?_) (a' := ?_) #[true, true, false, false, false, false, false] rfl rfl (by kernel_rfl) (fun _ _ _ h => h) (Or.inl ⟨by rfl, ?_⟩) hHeld ?_ ?_
      rotate_left
      ·rintro w' ⟨s0, s1, s2, s3⟩
       go_simp
       with_reducible rfl
      rotate_left
      ·simp only [Act.put, List.setIfInBounds_toArray, List.set_cons_zero, List.set_cons_succ, i64_w, i32_w]
       rfl
      refine take_ (i := 3) (N := some 18) (v := ?_) (a' := ?_) #[true, true, false, true, false, false, false] rfl rfl (by kernel_rfl) (fun _ _ _ h => h) (Or.inl ⟨by rfl, ?_⟩) hHeld ?_ ?_
      rotate_left
      ·rintro w' ⟨s0, s1, s2, s3⟩
       go_simp
       with_reducible rfl
      rotate_left
      ·simp only [Act.put, List.setIfInBounds_toArray, List.set_cons_zero, List.set_cons_succ, i64_w, i32_w]
       rfl
      refine one_ (i := 2) (N := some 17) #[true, true, true, true, false, false, false] rfl rfl (by kernel_rfl) (by decide) (fun K hK => ?_)
      refine goes_ Tryd.func17 (by kernel_rfl) rfl #[.int .u64 a1] (by rfl) rfl rfl (by (try simp only [List.map_toArray, List.map_cons, List.map_nil]); first | done | rfl) ?_
      with_reducible refine (abacuslaw05_units.calls k a1 t463 t464 _ A7.out).mono ?_
      rintro e w96 ⟨v465, rfl, ho0, hb⟩
      refine ⟨_, rfl, ?_⟩
      have n0_ := Aside0.mk (Kd.V_lower (Kd.V_mono (ok' := fun k_ => k_ ≠ gb461 ∧ k_ ≠ gb462) ho0 (fun k_ hk_ => ⟨(Kd.freshB (g := gb461) (o := .cells #[.bool a0_0, .slice A0_1 l0_1.length c0_1] 27 (0, 0)) (by exact bkS BK461.out) k_ hk_), (Kd.freshB (g := gb462) (o := .cells #[.bool a2_0, .slice A2_1 l2_1.length c2_1] 27 (0, 0)) (by exact bkS BK462.out) k_ hk_)⟩)) (below_size (bG2 HB.out GE461.out GE462.out)))
      have n1_ := Aside0.mk (blk_below (g := gb461) (o := .cells #[.bool a0_0, .slice A0_1 l0_1.length c0_1] 27 (0, 0)) (by exact bkS BK461.out) hb)
      have n2_ := Aside0.mk (blk_below (g := gb462) (o := .cells #[.bool a2_0, .slice A2_1 l2_1.length c2_1] 27 (0, 0)) (by exact bkS BK462.out) hb)
      have n3_ := Aside0.mk (below_step (bG2 HB.out GE461.out GE462.out) hb)
      clear BK461
      clear BK462
      clear HB
      have HO466 := n0_
      have BK461 := n1_
      have BK462 := n2_
      have HB := n3_
      clear n0_ n1_ n2_ n3_
      (try clear hb)
      (try clear hb2)
      (try clear hk)
      (try clear hi)
      (try clear ho0)
      obtain ⟨Ao97, co97, eo97⟩ := Kd.V_slice HO466.out
      (first | subst eo97 | (injection eo97 with f1_ f2_ f3_; have f4_ := f1_.symm; have f5_ := f3_.symm; clear f1_ f2_ f3_; subst f4_; subst f5_))
      refine hK.out _ _ ⟨(blk_cell BK461.out 0).trans rfl, (blk_cell BK461.out 1).trans rfl, (blk_cell BK462.out 0).trans rfl, (blk_cell BK462.out 1).trans rfl⟩ (fun hHeld => ?_)
      clear hK K
      refine norm_ (a' := ?_) ?_ ?_
      rotate_left
      ·show Act.put _ (some 17) _ = _
       simp only [Act.put, List.setIfInBounds_toArray, List.set_cons_zero, List.set_cons_succ, i64_w, i32_w]
       rfl
      refine one_ (i := 4) (N := some 19) #[true, true, true, true, true, false, false] rfl rfl (by kernel_rfl) (by decide) (fun K hK => ?_)
      refine goes_ Tryd.func31 (by kernel_rfl) rfl #[.agg #[.bool t463, .slice Ao97 t464.length co97], .agg #[.bool a2_0, .slice A2_1 l2_1.length c2_1]] (by rfl) rfl rfl (by (try simp only [List.map_toArray, List.map_cons, List.map_nil]); first | done | rfl) ?_
      with_reducible refine (abacuslaw05_times.calls k t463 _ _ t464 a2_0 _ _ l2_1 t467 t468 _ ?side1 ?side2 ?side3 ?side4 A8.out).mono ?_
      (case side1 => exact cS (Kd.V_reads' HO466.out).2.2)
      (case side2 => exact (Kd.V_reads' HO466.out).2.1)
      (case side3 => exact cS (Kd.C_below HR2_1.out HB.out))
      (case side4 => exact HC2_1.out)
      rintro e w98 ⟨v469, rfl, ho0, hb⟩
      refine ⟨_, rfl, ?_⟩
      have n0_ := Aside0.mk (Kd.V_below (vS <| HO466.out) hb)
      have n1_ := Aside0.mk (Kd.V_lower (Kd.V_mono (ok' := fun k_ => k_ ≠ gb461 ∧ k_ ≠ gb462) ho0 (fun k_ hk_ => ⟨(Kd.freshB (g := gb461) (o := .cells #[.bool a0_0, .slice A0_1 l0_1.length c0_1] 27 (0, 0)) (by exact bkS BK461.out) k_ hk_), (Kd.freshB (g := gb462) (o := .cells #[.bool a2_0, .slice A2_1 l2_1.length c2_1] 27 (0, 0)) (by exact bkS BK462.out) k_ hk_)⟩)) (below_size (bG2 HB.out GE461.out GE462.out)))
      have n2_ := Aside0.mk (blk_below (g := gb461) (o := .cells #[.bool a0_0, .slice A0_1 l0_1.length c0_1] 27 (0, 0)) (by exact bkS BK461.out) hb)
      have n3_ := Aside0.mk (blk_below (g := gb462) (o := .cells #[.bool a2_0, .slice A2_1 l2_1.length c2_1] 27 (0, 0)) (by exact bkS BK462.out) hb)
      have n4_ := Aside0.mk (below_step (bG2 HB.out GE461.out GE462.out) hb)
      clear HO466
      clear BK461
      clear BK462
      clear HB
      have HO466 := n0_
      have HO470 := n1_
      have BK461 := n2_
      have BK462 := n3_
      have HB := n4_
      clear n0_ n1_ n2_ n3_ n4_
      (try clear hb)
      (try clear hb2)
      (try clear hk)
      (try clear hi)
      (try clear ho0)
      obtain ⟨Ao99, co99, eo99⟩ := Kd.V_slice HO470.out
      (first | subst eo99 | (injection eo99 with f1_ f2_ f3_; have f4_ := f1_.symm; have f5_ := f3_.symm; clear f1_ f2_ f3_; subst f4_; subst f5_))
      refine hK.out _ _ ⟨(blk_cell BK461.out 0).trans rfl, (blk_cell BK461.out 1).trans rfl, (blk_cell BK462.out 0).trans rfl, (blk_cell BK462.out 1).trans rfl⟩ (fun hHeld => ?_)
      clear hK K
      refine norm_ (a' := ?_) ?_ ?_
      rotate_left
      ·show Act.put _ (some 19) _ = _
       simp only [Act.put, List.setIfInBounds_toArray, List.set_cons_zero, List.set_cons_succ, i64_w, i32_w]
       rfl
      refine one_ (i := 5) (N := some 20) #[true, true, true, true, true, true, false] rfl rfl (by kernel_rfl) (by decide) (fun K hK => ?_)
      refine goes_ Tryd.func54 (by kernel_rfl) rfl #[.agg #[.bool a0_0, .slice A0_1 l0_1.length c0_1], .agg #[.bool t467, .slice Ao99 t468.length co99]] (by rfl) rfl rfl (by (try simp only [List.map_toArray, List.map_cons, List.map_nil]); first | done | rfl) ?_
      with_reducible refine (abacuslaw05_apart.calls k a0_0 (fun k_ => k_ < w.heap.size) _ _ l0_1 t467 (fun k_ => (k_ ≠ gb461 ∧ k_ ≠ gb462)) _ _ t468 t471 _ ?side1 ?side2 A9.out).mono ?_
      (case side1 => exact Kd.V_mk HC0_1.out (Kd.F_below (Kd.C_F (Kd.heap_int .u64) HR0_1.out) (bG2 HB.out GE461.out GE462.out)))
      (case side2 => exact HO470.out)
      rintro e w100 ⟨v472, rfl, ho0, hb⟩
      refine ⟨_, rfl, ?_⟩
      have n0_ := Aside0.mk (Kd.V_below (vS <| HO466.out) hb)
      have n1_ := Aside0.mk (Kd.V_below (vS <| HO470.out) hb)
      have n2_ := Aside0.mk (Kd.V_lower (Kd.V_mono (ok' := fun k_ => k_ ≠ gb461 ∧ k_ ≠ gb462) ho0 (fun k_ hk_ => ⟨Or.elim hk_ (fun hs_ => Or.elim hs_ (fun hs_ => fun e_ => Nat.not_le.2 hs_ (by rw [e_]; exact GW461.out)) (fun hs_ => hs_.1)) (fun hn_ => (Kd.freshB (g := gb461) (o := .cells #[.bool a0_0, .slice A0_1 l0_1.length c0_1] 27 (0, 0)) (by exact bkS BK461.out) k_ hn_)), Or.elim hk_ (fun hs_ => Or.elim hs_ (fun hs_ => fun e_ => Nat.not_le.2 hs_ (by rw [e_]; exact GW462.out)) (fun hs_ => hs_.2)) (fun hn_ => (Kd.freshB (g := gb462) (o := .cells #[.bool a2_0, .slice A2_1 l2_1.length c2_1] 27 (0, 0)) (by exact bkS BK462.out) k_ hn_))⟩)) (below_size (bG2 HB.out GE461.out GE462.out)))
      have n3_ := Aside0.mk (blk_below (g := gb461) (o := .cells #[.bool a0_0, .slice A0_1 l0_1.length c0_1] 27 (0, 0)) (by exact bkS BK461.out) hb)
      have n4_ := Aside0.mk (blk_below (g := gb462) (o := .cells #[.bool a2_0, .slice A2_1 l2_1.length c2_1] 27 (0, 0)) (by exact bkS BK462.out) hb)
      have n5_ := Aside0.mk (below_step (bG2 HB.out GE461.out GE462.out) hb)
      clear HO466
      clear HO470
      clear BK461
      clear BK462
      clear HB
      have HO466 := n0_
      have HO470 := n1_
      have HO473 := n2_
      have BK461 := n3_
      have BK462 := n4_
      have HB := n5_
      clear n0_ n1_ n2_ n3_ n4_ n5_
      (try clear hb)
      (try clear hb2)
      (try clear hk)
      (try clear hi)
      (try clear ho0)
      refine hK.out _ _ ⟨(blk_cell BK461.out 0).trans rfl, (blk_cell BK461.out 1).trans rfl, (blk_cell BK462.out 0).trans rfl, (blk_cell BK462.out 1).trans rfl⟩ (fun hHeld => ?_)
      clear hK K
      refine norm_ (a' := ?_) ?_ ?_
      rotate_left
      ·show Act.put _ (some 20) _ = _
       simp only [Act.put, List.setIfInBounds_toArray, List.set_cons_zero, List.set_cons_succ, i64_w, i32_w]
       rfl
      refine pure_ (i := 6) (N := some 7) (v := ?_) (a' := ?_) #[true, true, true, true, true, true, true] rfl rfl (by kernel_rfl) (fun _ _ _ h => h) (Or.inl ⟨by rfl, ?_⟩) ?_ ?_
      rotate_left
      ·intro w'
       go_simp
       with_reducible rfl
      rotate_left
      ·simp only [Act.put, List.setIfInBounds_toArray, List.set_cons_zero, List.set_cons_succ, i64_w, i32_w]
       rfl
      refine done_ (by kernel_rfl) ?_
      try go_wp2
      have n0_ := Aside0.mk (Kd.V_drew HO466.out)
      have n1_ := Aside0.mk (Kd.V_drew HO470.out)
      have n2_ := Aside0.mk (Kd.V_drew HO473.out)
      have n3_ := Aside0.mk (blk_drew BK461.out)
      have n4_ := Aside0.mk (blk_drew BK462.out)
      have n5_ := Aside0.mk (below_drew1 HB.out)
      clear HO466
      clear HO470
      clear HO473
      clear BK461
      clear BK462
      clear HB
      have HO466 := n0_
      have HO470 := n1_
      have HO473 := n2_
      have BK461 := n3_
      have BK462 := n4_
      have HB := n5_
      clear n0_ n1_ n2_ n3_ n4_ n5_
      refine start_ (n := 8) (S := fun w' => w'.cell? ⟨gb461, 0, none⟩ = some (.bool a0_0) ∧ w'.cell? ⟨gb461, 1, none⟩ = some (.slice A0_1 l0_1.length c0_1) ∧ w'.cell? ⟨gb462, 0, none⟩ = some (.bool a2_0) ∧ w'.cell? ⟨gb462, 1, none⟩ = some (.slice A2_1 l2_1.length c2_1)) (ds := []) #[false, false, false, false, false, false, false, false] (by kernel_rfl) rfl rfl ⟨(blk_cell BK461.out 0).trans rfl, (blk_cell BK461.out 1).trans rfl, (blk_cell BK462.out 0).trans rfl, (blk_cell BK462.out 1).trans rfl⟩ (fun hHeld => ?_); refine with_tabW abacuslaw05_nearest.tab4 abacuslaw05_nearest.bits4 (fun HT_ HW_ => ?_)
      generalize w100.drew = w101 at HO466 HO470 HO473 BK461 BK462 HB hHeld ⊢
      refine pure_ (i := 1) (N := some 22) (v := ?_) (a' := ?_) #[false, true, false, false, false, false, false, false] rfl rfl (any_of HT_.out (by kernel_rfl)) (fun _ _ _ h => h) (Or.inl ⟨by rfl, ?_⟩) ?_ ?_
      rotate_left
      ·intro w'
       go_simp
       with_reducible rfl
      rotate_left
      ·simp only [Act.put, List.setIfInBounds_toArray, List.set_cons_zero, List.set_cons_succ, i64_w, i32_w]
       rfl
      refine take_ (i := 0) (N := some 21) (v := ?_) (a' := ?_) #[true, true, false, false, false, false, false, false] rfl rfl (take_ofW HT_.out HW_.out (by kernel_rfl)) (fun _ _ _ h => h) (Or.inl ⟨by rfl, ?_⟩) hHeld ?_ ?_
      rotate_left
      ·rintro w' ⟨s0, s1, s2, s3⟩
       go_simp
       with_reducible rfl
      rotate_left
      ·simp only [Act.put, List.setIfInBounds_toArray, List.set_cons_zero, List.set_cons_succ, i64_w, i32_w]
       rfl
      refine take_ (i := 4) (N := some 25) (v := ?_) (a' := ?_) #[true, true, false, false, true, false, false, false] rfl rfl (take_ofW HT_.out HW_.out (by kernel_rfl)) (fun _ _ _ h => h) (Or.inl ⟨by rfl, ?_⟩) hHeld ?_ ?_
      rotate_left
      ·rintro w' ⟨s0, s1, s2, s3⟩
       go_simp
       with_reducible rfl
      rotate_left
      ·simp only [Act.put, List.setIfInBounds_toArray, List.set_cons_zero, List.set_cons_succ, i64_w, i32_w]
       rfl
      refine one_ (i := 2) (N := some 23) #[true, true, true, false, true, false, false, false] rfl rfl (one_of HT_.out (by kernel_rfl)) (by decide) (fun K hK => ?_)
      refine goes_ Tryd.func34 (by kernel_rfl) rfl #[.int .u64 a1] (by rfl) rfl rfl (by (try simp only [List.map_toArray, List.map_cons, List.map_nil]); first | done | rfl) ?_
      with_reducible refine (ieee_Up.calls k a1 t474 _ A10.out).mono ?_
      rintro e w' ⟨rfl, ⟨nd, rfl⟩⟩
      refine ⟨_, rfl, ?_⟩
      refine hK.out _ _ ⟨(blk_cell BK461.out 0).trans rfl, (blk_cell BK461.out 1).trans rfl, (blk_cell BK462.out 0).trans rfl, (blk_cell BK462.out 1).trans rfl⟩ (fun hHeld => ?_)
      clear hK K
      refine norm_ (a' := ?_) ?_ ?_
      rotate_left
      ·show Act.put _ (some 23) _ = _
       simp only [Act.put, List.setIfInBounds_toArray, List.set_cons_zero, List.set_cons_succ, i64_w, i32_w]
       rfl
      refine one_ (i := 3) (N := some 24) #[true, true, true, true, true, false, false, false] rfl rfl (one_of HT_.out (by kernel_rfl)) (by decide) (fun K hK => ?_)
      refine goes_ Tryd.func17 (by kernel_rfl) rfl #[.int .u64 t474] (by rfl) rfl rfl (by (try simp only [List.map_toArray, List.map_cons, List.map_nil]); first | done | rfl) ?_
      with_reducible refine (abacuslaw05_units.calls k t474 t475 t476 _ A11.out).mono ?_
      rintro e w102 ⟨v477, rfl, ho0, hb⟩
      refine ⟨_, rfl, ?_⟩
      have n0_ := Aside0.mk (Kd.V_below (vS <| HO466.out) hb)
      have n1_ := Aside0.mk (Kd.V_below (vS <| HO470.out) hb)
      have n2_ := Aside0.mk (Kd.V_below (vS <| HO473.out) hb)
      have n3_ := Aside0.mk (Kd.V_lower (Kd.V_mono (ok' := fun k_ => k_ ≠ gb461 ∧ k_ ≠ gb462) ho0 (fun k_ hk_ => ⟨(Kd.freshB (g := gb461) (o := .cells #[.bool a0_0, .slice A0_1 l0_1.length c0_1] 27 (0, 0)) (by exact bkS BK461.out) k_ hk_), (Kd.freshB (g := gb462) (o := .cells #[.bool a2_0, .slice A2_1 l2_1.length c2_1] 27 (0, 0)) (by exact bkS BK462.out) k_ hk_)⟩)) (below_size (bG2 HB.out GE461.out GE462.out)))
      have n4_ := Aside0.mk (blk_below (g := gb461) (o := .cells #[.bool a0_0, .slice A0_1 l0_1.length c0_1] 27 (0, 0)) (by exact bkS BK461.out) hb)
      have n5_ := Aside0.mk (blk_below (g := gb462) (o := .cells #[.bool a2_0, .slice A2_1 l2_1.length c2_1] 27 (0, 0)) (by exact bkS BK462.out) hb)
      have n6_ := Aside0.mk (below_step (bG2 HB.out GE461.out GE462.out) hb)
      clear HO466
      clear HO470
      clear HO473
      clear BK461
      clear BK462
      clear HB
      have HO466 := n0_
      have HO470 := n1_
      have HO473 := n2_
      have HO478 := n3_
      have BK461 := n4_
      have BK462 := n5_
      have HB := n6_
      clear n0_ n1_ n2_ n3_ n4_ n5_ n6_
      (try clear hb)
      (try clear hb2)
      (try clear hk)
      (try clear hi)
      (try clear ho0)
      obtain ⟨Ao103, co103, eo103⟩ := Kd.V_slice HO478.out
      (first | subst eo103 | (injection eo103 with f1_ f2_ f3_; have f4_ := f1_.symm; have f5_ := f3_.symm; clear f1_ f2_ f3_; subst f4_; subst f5_))
      refine hK.out _ _ ⟨(blk_cell BK461.out 0).trans rfl, (blk_cell BK461.out 1).trans rfl, (blk_cell BK462.out 0).trans rfl, (blk_cell BK462.out 1).trans rfl⟩ (fun hHeld => ?_)
      clear hK K
      refine norm_ (a' := ?_) ?_ ?_
      rotate_left
      ·show Act.put _ (some 24) _ = _
       simp only [Act.put, List.setIfInBounds_toArray, List.set_cons_zero, List.set_cons_succ, i64_w, i32_w]
       rfl
      refine one_ (i := 5) (N := some 26) #[true, true, true, true, true, true, false, false] rfl rfl (one_of HT_.out (by kernel_rfl)) (by decide) (fun K hK => ?_)
      refine goes_ Tryd.func31 (by kernel_rfl) rfl #[.agg #[.bool t475, .slice Ao103 t476.length co103], .agg #[.bool a2_0, .slice A2_1 l2_1.length c2_1]] (by rfl) rfl rfl (by (try simp only [List.map_toArray, List.map_cons, List.map_nil]); first | done | rfl) ?_
      with_reducible refine (abacuslaw05_times.calls k t475 _ _ t476 a2_0 _ _ l2_1 t479 t480 _ ?side1 ?side2 ?side3 ?side4 A12.out).mono ?_
      (case side1 => exact cS (Kd.V_reads' HO478.out).2.2)
      (case side2 => exact (Kd.V_reads' HO478.out).2.1)
      (case side3 => exact cS (Kd.C_below HR2_1.out HB.out))
      (case side4 => exact HC2_1.out)
      rintro e w104 ⟨v481, rfl, ho0, hb⟩
      refine ⟨_, rfl, ?_⟩
      have n0_ := Aside0.mk (Kd.V_below (vS <| HO466.out) hb)
      have n1_ := Aside0.mk (Kd.V_below (vS <| HO470.out) hb)
      have n2_ := Aside0.mk (Kd.V_below (vS <| HO473.out) hb)
      have n3_ := Aside0.mk (Kd.V_below (vS <| HO478.out) hb)
      have n4_ := Aside0.mk (Kd.V_lower (Kd.V_mono (ok' := fun k_ => k_ ≠ gb461 ∧ k_ ≠ gb462) ho0 (fun k_ hk_ => ⟨(Kd.freshB (g := gb461) (o := .cells #[.bool a0_0, .slice A0_1 l0_1.length c0_1] 27 (0, 0)) (by exact bkS BK461.out) k_ hk_), (Kd.freshB (g := gb462) (o := .cells #[.bool a2_0, .slice A2_1 l2_1.length c2_1] 27 (0, 0)) (by exact bkS BK462.out) k_ hk_)⟩)) (below_size (bG2 HB.out GE461.out GE462.out)))
      have n5_ := Aside0.mk (blk_below (g := gb461) (o := .cells #[.bool a0_0, .slice A0_1 l0_1.length c0_1] 27 (0, 0)) (by exact bkS BK461.out) hb)
      have n6_ := Aside0.mk (blk_below (g := gb462) (o := .cells #[.bool a2_0, .slice A2_1 l2_1.length c2_1] 27 (0, 0)) (by exact bkS BK462.out) hb)
      have n7_ := Aside0.mk (below_step (bG2 HB.out GE461.out GE462.out) hb)
      clear HO466
      clear HO470
      clear HO473
      clear HO478
      clear BK461
      clear BK462
      clear HB
      have HO466 := n0_
      have HO470 := n1_
      have HO473 := n2_
      have HO478 := n3_
      have HO482 := n4_
      have BK461 := n5_
      have BK462 := n6_
      have HB := n7_
      clear n0_ n1_ n2_ n3_ n4_ n5_ n6_ n7_
      (try clear hb)
      (try clear hb2)
      (try clear hk)
      (try clear hi)
      (try clear ho0)
      obtain ⟨Ao105, co105, eo105⟩ := Kd.V_slice HO482.out
      (first | subst eo105 | (injection eo105 with f1_ f2_ f3_; have f4_ := f1_.symm; have f5_ := f3_.symm; clear f1_ f2_ f3_; subst f4_; subst f5_))
      refine hK.out _ _ ⟨(blk_cell BK461.out 0).trans rfl, (blk_cell BK461.out 1).trans rfl, (blk_cell BK462.out 0).trans rfl, (blk_cell BK462.out 1).trans rfl⟩ (fun hHeld => ?_)
      clear hK K
      refine norm_ (a' := ?_) ?_ ?_
      rotate_left
      ·show Act.put _ (some 26) _ = _
       simp only [Act.put, List.setIfInBounds_toArray, List.set_cons_zero, List.set_cons_succ, i64_w, i32_w]
       rfl
      refine one_ (i := 6) (N := some 27) #[true, true, true, true, true, true, true, false] rfl rfl (one_of HT_.out (by kernel_rfl)) (by decide) (fun K hK => ?_)
      refine goes_ Tryd.func54 (by kernel_rfl) rfl #[.agg #[.bool a0_0, .slice A0_1 l0_1.length c0_1], .agg #[.bool t479, .slice Ao105 t480.length co105]] (by rfl) rfl rfl (by (try simp only [List.map_toArray, List.map_cons, List.map_nil]); first | done | rfl) ?_
      with_reducible refine (abacuslaw05_apart.calls k a0_0 (fun k_ => k_ < w.heap.size) _ _ l0_1 t479 (fun k_ => (k_ ≠ gb461 ∧ k_ ≠ gb462)) _ _ t480 t483 _ ?side1 ?side2 A13.out).mono ?_
      (case side1 => exact Kd.V_mk HC0_1.out (Kd.F_below (Kd.C_F (Kd.heap_int .u64) HR0_1.out) (bG2 HB.out GE461.out GE462.out)))
      (case side2 => exact HO482.out)
      rintro e w106 ⟨v484, rfl, ho0, hb⟩
      refine ⟨_, rfl, ?_⟩
      have n0_ := Aside0.mk (Kd.V_below (vS <| HO466.out) hb)
      have n1_ := Aside0.mk (Kd.V_below (vS <| HO470.out) hb)
      have n2_ := Aside0.mk (Kd.V_below (vS <| HO473.out) hb)
      have n3_ := Aside0.mk (Kd.V_below (vS <| HO478.out) hb)
      have n4_ := Aside0.mk (Kd.V_below (vS <| HO482.out) hb)
      have n5_ := Aside0.mk (Kd.V_lower (Kd.V_mono (ok' := fun k_ => k_ ≠ gb461 ∧ k_ ≠ gb462) ho0 (fun k_ hk_ => ⟨Or.elim hk_ (fun hs_ => Or.elim hs_ (fun hs_ => fun e_ => Nat.not_le.2 hs_ (by rw [e_]; exact GW461.out)) (fun hs_ => hs_.1)) (fun hn_ => (Kd.freshB (g := gb461) (o := .cells #[.bool a0_0, .slice A0_1 l0_1.length c0_1] 27 (0, 0)) (by exact bkS BK461.out) k_ hn_)), Or.elim hk_ (fun hs_ => Or.elim hs_ (fun hs_ => fun e_ => Nat.not_le.2 hs_ (by rw [e_]; exact GW462.out)) (fun hs_ => hs_.2)) (fun hn_ => (Kd.freshB (g := gb462) (o := .cells #[.bool a2_0, .slice A2_1 l2_1.length c2_1] 27 (0, 0)) (by exact bkS BK462.out) k_ hn_))⟩)) (below_size (bG2 HB.out GE461.out GE462.out)))
      have n6_ := Aside0.mk (blk_below (g := gb461) (o := .cells #[.bool a0_0, .slice A0_1 l0_1.length c0_1] 27 (0, 0)) (by exact bkS BK461.out) hb)
      have n7_ := Aside0.mk (blk_below (g := gb462) (o := .cells #[.bool a2_0, .slice A2_1 l2_1.length c2_1] 27 (0, 0)) (by exact bkS BK462.out) hb)
      have n8_ := Aside0.mk (below_step (bG2 HB.out GE461.out GE462.out) hb)
      clear HO466
      clear HO470
      clear HO473
      clear HO478
      clear HO482
      clear BK461
      clear BK462
      clear HB
      have HO466 := n0_
      have HO470 := n1_
      have HO473 := n2_
      have HO478 := n3_
      have HO482 := n4_
      have HO485 := n5_
      have BK461 := n6_
      have BK462 := n7_
      have HB := n8_
      clear n0_ n1_ n2_ n3_ n4_ n5_ n6_ n7_ n8_
      (try clear hb)
      (try clear hb2)
      (try clear hk)
      (try clear hi)
      (try clear ho0)
      refine hK.out _ _ ⟨(blk_cell BK461.out 0).trans rfl, (blk_cell BK461.out 1).trans rfl, (blk_cell BK462.out 0).trans rfl, (blk_cell BK462.out 1).trans rfl⟩ (fun hHeld => ?_)
      clear hK K
      refine norm_ (a' := ?_) ?_ ?_
      rotate_left
      ·show Act.put _ (some 27) _ = _
       simp only [Act.put, List.setIfInBounds_toArray, List.set_cons_zero, List.set_cons_succ, i64_w, i32_w]
       rfl
      refine pure_ (i := 7) (N := some 8) (v := ?_) (a' := ?_) #[true, true, true, true, true, true, true, true] rfl rfl (any_of HT_.out (by kernel_rfl)) (fun _ _ _ h => h) (Or.inl ⟨by rfl, ?_⟩) ?_ ?_
      rotate_left
      ·intro w'
       go_simp
       with_reducible rfl
      rotate_left
      ·simp only [Act.put, List.setIfInBounds_toArray, List.set_cons_zero, List.set_cons_succ, i64_w, i32_w]
       rfl
      refine done_ (done_of HT_.out (by kernel_rfl)) ?_
      try go_wp2
      have n0_ := Aside0.mk (Kd.V_drew HO466.out)
      have n1_ := Aside0.mk (Kd.V_drew HO470.out)
      have n2_ := Aside0.mk (Kd.V_drew HO473.out)
      have n3_ := Aside0.mk (Kd.V_drew HO478.out)
      have n4_ := Aside0.mk (Kd.V_drew HO482.out)
      have n5_ := Aside0.mk (Kd.V_drew HO485.out)
      have n6_ := Aside0.mk (blk_drew BK461.out)
      have n7_ := Aside0.mk (blk_drew BK462.out)
      have n8_ := Aside0.mk (below_drew1 HB.out)
      clear HO466
      clear HO470
      clear HO473
      clear HO478
      clear HO482
      clear HO485
      clear BK461
      clear BK462
      clear HB
      have HO466 := n0_
      have HO470 := n1_
      have HO473 := n2_
      have HO478 := n3_
      have HO482 := n4_
      have HO485 := n5_
      have BK461 := n6_
      have BK462 := n7_
      have HB := n8_
      clear n0_ n1_ n2_ n3_ n4_ n5_ n6_ n7_ n8_
      refine start_ (n := 8) (S := fun w' => w'.cell? ⟨gb461, 0, none⟩ = some (.bool a0_0) ∧ w'.cell? ⟨gb461, 1, none⟩ = some (.slice A0_1 l0_1.length c0_1) ∧ w'.cell? ⟨gb462, 0, none⟩ = some (.bool a2_0) ∧ w'.cell? ⟨gb462, 1, none⟩ = some (.slice A2_1 l2_1.length c2_1)) (ds := []) #[false, false, false, false, false, false, false, false] (by kernel_rfl) rfl rfl ⟨(blk_cell BK461.out 0).trans rfl, (blk_cell BK461.out 1).trans rfl, (blk_cell BK462.out 0).trans rfl, (blk_cell BK462.out 1).trans rfl⟩ (fun hHeld => ?_); refine with_tabW abacuslaw05_nearest.tab5 abacuslaw05_nearest.bits5 (fun HT_ HW_ => ?_)
      generalize w106.drew = w107 at HO466 HO470 HO473 HO478 HO482 HO485 BK461 BK462 HB hHeld ⊢
      refine pure_ (i := 1) (N := some 29) (v := ?_) (a' := ?_) #[false, true, false, false, false, false, false, false] rfl rfl (any_of HT_.out (by kernel_rfl)) (fun _ _ _ h => h) (Or.inl ⟨by rfl, ?_⟩) ?_ ?_
      rotate_left
      ·intro w'
       go_simp
       with_reducible rfl
      rotate_left
      ·simp only [Act.put, List.setIfInBounds_toArray, List.set_cons_zero, List.set_cons_succ, i64_w, i32_w]
       rfl
      refine take_ (i := 0) (N := some 28) (v := ?_) (a' := ?_) #[true, true, false, false, false, false, false, false] rfl rfl (take_ofW HT_.out HW_.out (by kernel_rfl)) (fun _ _ _ h => h) (Or.inl ⟨by rfl, ?_⟩) hHeld ?_ ?_
      rotate_left
      ·rintro w' ⟨s0, s1, s2, s3⟩
       go_simp
       with_reducible rfl
      rotate_left
      ·simp only [Act.put, List.setIfInBounds_toArray, List.set_cons_zero, List.set_cons_succ, i64_w, i32_w]
       rfl
      refine take_ (i := 4) (N := some 32) (v := ?_) (a' := ?_) #[true, true, false, false, true, false, false, false] rfl rfl (take_ofW HT_.out HW_.out (by kernel_rfl)) (fun _ _ _ h => h) (Or.inl ⟨by rfl, ?_⟩) hHeld ?_ ?_
      rotate_left
      ·rintro w' ⟨s0, s1, s2, s3⟩
       go_simp
       with_reducible rfl
      rotate_left
      ·simp only [Act.put, List.setIfInBounds_toArray, List.set_cons_zero, List.set_cons_succ, i64_w, i32_w]
       rfl
      refine one_ (i := 2) (N := some 30) #[true, true, true, false, true, false, false, false] rfl rfl (one_of HT_.out (by kernel_rfl)) (by decide) (fun K hK => ?_)
      refine goes_ Tryd.func35 (by kernel_rfl) rfl #[.int .u64 a1] (by rfl) rfl rfl (by (try simp only [List.map_toArray, List.map_cons, List.map_nil]); first | done | rfl) ?_
      with_reducible refine (ieee_Down.calls k a1 t486 _ A14.out).mono ?_
      rintro e w' ⟨rfl, ⟨nd, rfl⟩⟩
      refine ⟨_, rfl, ?_⟩
      refine hK.out _ _ ⟨(blk_cell BK461.out 0).trans rfl, (blk_cell BK461.out 1).trans rfl, (blk_cell BK462.out 0).trans rfl, (blk_cell BK462.out 1).trans rfl⟩ (fun hHeld => ?_)
      clear hK K
      refine norm_ (a' := ?_) ?_ ?_
      rotate_left
      ·show Act.put _ (some 30) _ = _
       simp only [Act.put, List.setIfInBounds_toArray, List.set_cons_zero, List.set_cons_succ, i64_w, i32_w]
       rfl
      refine one_ (i := 3) (N := some 31) #[true, true, true, true, true, false, false, false] rfl rfl (one_of HT_.out (by kernel_rfl)) (by decide) (fun K hK => ?_)
      refine goes_ Tryd.func17 (by kernel_rfl) rfl #[.int .u64 t486] (by rfl) rfl rfl (by (try simp only [List.map_toArray, List.map_cons, List.map_nil]); first | done | rfl) ?_
      with_reducible refine (abacuslaw05_units.calls k t486 t487 t488 _ A15.out).mono ?_
      rintro e w108 ⟨v489, rfl, ho0, hb⟩
      refine ⟨_, rfl, ?_⟩
      have n0_ := Aside0.mk (Kd.V_below (vS <| HO466.out) hb)
      have n1_ := Aside0.mk (Kd.V_below (vS <| HO470.out) hb)
      have n2_ := Aside0.mk (Kd.V_below (vS <| HO473.out) hb)
      have n3_ := Aside0.mk (Kd.V_below (vS <| HO478.out) hb)
      have n4_ := Aside0.mk (Kd.V_below (vS <| HO482.out) hb)
      have n5_ := Aside0.mk (Kd.V_below (vS <| HO485.out) hb)
      have n6_ := Aside0.mk (Kd.V_lower (Kd.V_mono (ok' := fun k_ => k_ ≠ gb461 ∧ k_ ≠ gb462) ho0 (fun k_ hk_ => ⟨(Kd.freshB (g := gb461) (o := .cells #[.bool a0_0, .slice A0_1 l0_1.length c0_1] 27 (0, 0)) (by exact bkS BK461.out) k_ hk_), (Kd.freshB (g := gb462) (o := .cells #[.bool a2_0, .slice A2_1 l2_1.length c2_1] 27 (0, 0)) (by exact bkS BK462.out) k_ hk_)⟩)) (below_size (bG2 HB.out GE461.out GE462.out)))
      have n7_ := Aside0.mk (blk_below (g := gb461) (o := .cells #[.bool a0_0, .slice A0_1 l0_1.length c0_1] 27 (0, 0)) (by exact bkS BK461.out) hb)
      have n8_ := Aside0.mk (blk_below (g := gb462) (o := .cells #[.bool a2_0, .slice A2_1 l2_1.length c2_1] 27 (0, 0)) (by exact bkS BK462.out) hb)
      have n9_ := Aside0.mk (below_step (bG2 HB.out GE461.out GE462.out) hb)
      clear HO466
      clear HO470
      clear HO473
      clear HO478
      clear HO482
      clear HO485
      clear BK461
      clear BK462
      clear HB
      have HO466 := n0_
      have HO470 := n1_
      have HO473 := n2_
      have HO478 := n3_
      have HO482 := n4_
      have HO485 := n5_
      have HO490 := n6_
      have BK461 := n7_
      have BK462 := n8_
      have HB := n9_
      clear n0_ n1_ n2_ n3_ n4_ n5_ n6_ n7_ n8_ n9_
      (try clear hb)
      (try clear hb2)
      (try clear hk)
      (try clear hi)
      (try clear ho0)
      obtain ⟨Ao109, co109, eo109⟩ := Kd.V_slice HO490.out
      (first | subst eo109 | (injection eo109 with f1_ f2_ f3_; have f4_ := f1_.symm; have f5_ := f3_.symm; clear f1_ f2_ f3_; subst f4_; subst f5_))
      refine hK.out _ _ ⟨(blk_cell BK461.out 0).trans rfl, (blk_cell BK461.out 1).trans rfl, (blk_cell BK462.out 0).trans rfl, (blk_cell BK462.out 1).trans rfl⟩ (fun hHeld => ?_)
      clear hK K
      refine norm_ (a' := ?_) ?_ ?_
      rotate_left
      ·show Act.put _ (some 31) _ = _
       simp only [Act.put, List.setIfInBounds_toArray, List.set_cons_zero, List.set_cons_succ, i64_w, i32_w]
       rfl
      refine one_ (i := 5) (N := some 33) #[true, true, true, true, true, true, false, false] rfl rfl (one_of HT_.out (by kernel_rfl)) (by decide) (fun K hK => ?_)
      refine goes_ Tryd.func31 (by kernel_rfl) rfl #[.agg #[.bool t487, .slice Ao109 t488.length co109], .agg #[.bool a2_0, .slice A2_1 l2_1.length c2_1]] (by rfl) rfl rfl (by (try simp only [List.map_toArray, List.map_cons, List.map_nil]); first | done | rfl) ?_
      with_reducible refine (abacuslaw05_times.calls k t487 _ _ t488 a2_0 _ _ l2_1 t491 t492 _ ?side1 ?side2 ?side3 ?side4 A16.out).mono ?_
      (case side1 => exact cS (Kd.V_reads' HO490.out).2.2)
      (case side2 => exact (Kd.V_reads' HO490.out).2.1)
      (case side3 => exact cS (Kd.C_below HR2_1.out HB.out))
      (case side4 => exact HC2_1.out)
      rintro e w110 ⟨v493, rfl, ho0, hb⟩
      refine ⟨_, rfl, ?_⟩
      have n0_ := Aside0.mk (Kd.V_below (vS <| HO466.out) hb)
      have n1_ := Aside0.mk (Kd.V_below (vS <| HO470.out) hb)
      have n2_ := Aside0.mk (Kd.V_below (vS <| HO473.out) hb)
      have n3_ := Aside0.mk (Kd.V_below (vS <| HO478.out) hb)
      have n4_ := Aside0.mk (Kd.V_below (vS <| HO482.out) hb)
      have n5_ := Aside0.mk (Kd.V_below (vS <| HO485.out) hb)
      have n6_ := Aside0.mk (Kd.V_below (vS <| HO490.out) hb)
      have n7_ := Aside0.mk (Kd.V_lower (Kd.V_mono (ok' := fun k_ => k_ ≠ gb461 ∧ k_ ≠ gb462) ho0 (fun k_ hk_ => ⟨(Kd.freshB (g := gb461) (o := .cells #[.bool a0_0, .slice A0_1 l0_1.length c0_1] 27 (0, 0)) (by exact bkS BK461.out) k_ hk_), (Kd.freshB (g := gb462) (o := .cells #[.bool a2_0, .slice A2_1 l2_1.length c2_1] 27 (0, 0)) (by exact bkS BK462.out) k_ hk_)⟩)) (below_size (bG2 HB.out GE461.out GE462.out)))
      have n8_ := Aside0.mk (blk_below (g := gb461) (o := .cells #[.bool a0_0, .slice A0_1 l0_1.length c0_1] 27 (0, 0)) (by exact bkS BK461.out) hb)
      have n9_ := Aside0.mk (blk_below (g := gb462) (o := .cells #[.bool a2_0, .slice A2_1 l2_1.length c2_1] 27 (0, 0)) (by exact bkS BK462.out) hb)
      have n10_ := Aside0.mk (below_step (bG2 HB.out GE461.out GE462.out) hb)
      clear HO466
      clear HO470
      clear HO473
      clear HO478
      clear HO482
      clear HO485
      clear HO490
      clear BK461
      clear BK462
      clear HB
      have HO466 := n0_
      have HO470 := n1_
      have HO473 := n2_
      have HO478 := n3_
      have HO482 := n4_
      have HO485 := n5_
      have HO490 := n6_
      have HO494 := n7_
      have BK461 := n8_
      have BK462 := n9_
      have HB := n10_
      clear n0_ n1_ n2_ n3_ n4_ n5_ n6_ n7_ n8_ n9_ n10_
      (try clear hb)
      (try clear hb2)
      (try clear hk)
      (try clear hi)
      (try clear ho0)
      obtain ⟨Ao111, co111, eo111⟩ := Kd.V_slice HO494.out
      (first | subst eo111 | (injection eo111 with f1_ f2_ f3_; have f4_ := f1_.symm; have f5_ := f3_.symm; clear f1_ f2_ f3_; subst f4_; subst f5_))
      refine hK.out _ _ ⟨(blk_cell BK461.out 0).trans rfl, (blk_cell BK461.out 1).trans rfl, (blk_cell BK462.out 0).trans rfl, (blk_cell BK462.out 1).trans rfl⟩ (fun hHeld => ?_)
      clear hK K
      refine norm_ (a' := ?_) ?_ ?_
      rotate_left
      ·show Act.put _ (some 33) _ = _
       simp only [Act.put, List.setIfInBounds_toArray, List.set_cons_zero, List.set_cons_succ, i64_w, i32_w]
       rfl
      refine one_ (i := 6) (N := some 34) #[true, true, true, true, true, true, true, false] rfl rfl (one_of HT_.out (by kernel_rfl)) (by decide) (fun K hK => ?_)
      refine goes_ Tryd.func54 (by kernel_rfl) rfl #[.agg #[.bool a0_0, .slice A0_1 l0_1.length c0_1], .agg #[.bool t491, .slice Ao111 t492.length co111]] (by rfl) rfl rfl (by (try simp only [List.map_toArray, List.map_cons, List.map_nil]); first | done | rfl) ?_
      with_reducible refine (abacuslaw05_apart.calls k a0_0 (fun k_ => k_ < w.heap.size) _ _ l0_1 t491 (fun k_ => (k_ ≠ gb461 ∧ k_ ≠ gb462)) _ _ t492 t495 _ ?side1 ?side2 A17.out).mono ?_
      (case side1 => exact Kd.V_mk HC0_1.out (Kd.F_below (Kd.C_F (Kd.heap_int .u64) HR0_1.out) (bG2 HB.out GE461.out GE462.out)))
      (case side2 => exact HO494.out)
      rintro e w112 ⟨v496, rfl, ho0, hb⟩
      refine ⟨_, rfl, ?_⟩
      have n0_ := Aside0.mk (Kd.V_below (vS <| HO466.out) hb)
      have n1_ := Aside0.mk (Kd.V_below (vS <| HO470.out) hb)
      have n2_ := Aside0.mk (Kd.V_below (vS <| HO473.out) hb)
      have n3_ := Aside0.mk (Kd.V_below (vS <| HO478.out) hb)
      have n4_ := Aside0.mk (Kd.V_below (vS <| HO482.out) hb)
      have n5_ := Aside0.mk (Kd.V_below (vS <| HO485.out) hb)
      have n6_ := Aside0.mk (Kd.V_below (vS <| HO490.out) hb)
      have n7_ := Aside0.mk (Kd.V_below (vS <| HO494.out) hb)
      have n8_ := Aside0.mk (Kd.V_lower (Kd.V_mono (ok' := fun k_ => k_ ≠ gb461 ∧ k_ ≠ gb462) ho0 (fun k_ hk_ => ⟨Or.elim hk_ (fun hs_ => Or.elim hs_ (fun hs_ => fun e_ => Nat.not_le.2 hs_ (by rw [e_]; exact GW461.out)) (fun hs_ => hs_.1)) (fun hn_ => (Kd.freshB (g := gb461) (o := .cells #[.bool a0_0, .slice A0_1 l0_1.length c0_1] 27 (0, 0)) (by exact bkS BK461.out) k_ hn_)), Or.elim hk_ (fun hs_ => Or.elim hs_ (fun hs_ => fun e_ => Nat.not_le.2 hs_ (by rw [e_]; exact GW462.out)) (fun hs_ => hs_.2)) (fun hn_ => (Kd.freshB (g := gb462) (o := .cells #[.bool a2_0, .slice A2_1 l2_1.length c2_1] 27 (0, 0)) (by exact bkS BK462.out) k_ hn_))⟩)) (below_size (bG2 HB.out GE461.out GE462.out)))
      have n9_ := Aside0.mk (blk_below (g := gb461) (o := .cells #[.bool a0_0, .slice A0_1 l0_1.length c0_1] 27 (0, 0)) (by exact bkS BK461.out) hb)
      have n10_ := Aside0.mk (blk_below (g := gb462) (o := .cells #[.bool a2_0, .slice A2_1 l2_1.length c2_1] 27 (0, 0)) (by exact bkS BK462.out) hb)
      have n11_ := Aside0.mk (below_step (bG2 HB.out GE461.out GE462.out) hb)
      clear HO466
      clear HO470
      clear HO473
      clear HO478
      clear HO482
      clear HO485
      clear HO490
      clear HO494
      clear BK461
      clear BK462
      clear HB
      have HO466 := n0_
      have HO470 := n1_
      have HO473 := n2_
      have HO478 := n3_
      have HO482 := n4_
      have HO485 := n5_
      have HO490 := n6_
      have HO494 := n7_
      have HO497 := n8_
      have BK461 := n9_
      have BK462 := n10_
      have HB := n11_
      clear n0_ n1_ n2_ n3_ n4_ n5_ n6_ n7_ n8_ n9_ n10_ n11_
      (try clear hb)
      (try clear hb2)
      (try clear hk)
      (try clear hi)
      (try clear ho0)
      refine hK.out _ _ ⟨(blk_cell BK461.out 0).trans rfl, (blk_cell BK461.out 1).trans rfl, (blk_cell BK462.out 0).trans rfl, (blk_cell BK462.out 1).trans rfl⟩ (fun hHeld => ?_)
      clear hK K
      refine norm_ (a' := ?_) ?_ ?_
      rotate_left
      ·show Act.put _ (some 34) _ = _
       simp only [Act.put, List.setIfInBounds_toArray, List.set_cons_zero, List.set_cons_succ, i64_w, i32_w]
       rfl
      refine pure_ (i := 7) (N := some 9) (v := ?_) (a' := ?_) #[true, true, true, true, true, true, true, true] rfl rfl (any_of HT_.out (by kernel_rfl)) (fun _ _ _ h => h) (Or.inl ⟨by rfl, ?_⟩) ?_ ?_
      rotate_left
      ·intro w'
       go_simp
       with_reducible rfl
      rotate_left
      ·simp only [Act.put, List.setIfInBounds_toArray, List.set_cons_zero, List.set_cons_succ, i64_w, i32_w]
       rfl
      refine done_ (done_of HT_.out (by kernel_rfl)) ?_
      obtain ⟨Ao113, co113, eo113⟩ := Kd.V_slice HO473.out
      subst eo113
      obtain ⟨Ao114, co114, eo114⟩ := Kd.V_slice HO485.out
      subst eo114
      try go_wp2_with (first | ((with_reducible refine gate_callee (f := 18) rfl ?_); refine goesL_ (some 37) rfl rfl Tryd.func18 (by kernel_rfl) rfl #[.slice Ao113 t471.length co113, .slice Ao114 t483.length co114] rfl (by (try simp only [List.map_toArray, List.map_cons, List.map_nil]); first | done | rfl) ?_; (with_reducible refine (nat_Cmp.calls k _ _ t471 _ _ t483 t498 _ ?side1 ?side2 ?side3 ?side4 A18.out).mono ?_); (case side1 => exact cS (Kd.V_reads' HO473.out).2.2); (case side2 => exact (Kd.V_reads' HO473.out).2.1); (case side3 => exact cS (Kd.V_reads' HO485.out).2.2); (case side4 => exact (Kd.V_reads' HO485.out).2.1); rintro e w' ⟨rfl, ⟨nd, rfl⟩⟩; refine ⟨_, rfl, ?_⟩; obtain ⟨Ao115, co115, eo115⟩ := Kd.V_slice HO497.out; subst eo115) | ((with_reducible refine gate_callee (f := 18) rfl ?_); refine goesL_ (some 40) rfl rfl Tryd.func18 (by kernel_rfl) rfl #[.slice Ao113 t471.length co113, .slice Ao115 t495.length co115] rfl (by (try simp only [List.map_toArray, List.map_cons, List.map_nil]); first | done | rfl) ?_; (with_reducible refine (nat_Cmp.calls k _ _ t471 _ _ t495 t499 _ ?side1 ?side2 ?side3 ?side4 A19.out).mono ?_); (case side1 => exact cS (Kd.V_reads' HO473.out).2.2); (case side2 => exact (Kd.V_reads' HO473.out).2.1); (case side3 => exact cS (Kd.V_reads' HO497.out).2.2); (case side4 => exact (Kd.V_reads' HO497.out).2.1); rintro e w' ⟨rfl, ⟨nd, rfl⟩⟩; refine ⟨_, rfl, ?_⟩))
      go_ret
      exact ⟨by first | rfl | (simp [errW_none, errW_some] <;> rfl) | (simp [*, errW_none, errW_some] <;> rfl), bG2 HB.out GE461.out GE462.out⟩
    ·rw [if_neg c68] at H
     have c68b0 : decide (t498 < 0) = false := decide_eq_false c68
     clear c68
     obtain rfl := Option.some.inj H
     go_enter Tryd.func25, Tryd.ntmps25
     try go_wp2_with (first | ((with_reducible refine gate_dst (N := 3) rfl ?_); refine box_event ?hg (N := 3) ?hd (cs := #[.bool a0_0, .slice A0_1 l0_1.length c0_1]) (t := 27) ?hr ?_; (case hd => rfl); (case hg => rfl); (case hr => first | (go_simp; done) | (go_simp; rfl)); intro gb461 hg w116 hbox hb; have BK461 := Aside0.mk (hbox); have GW461 := Aside0.mk ((by rw [hg]; exact (below_size (bS HB.out)) : w.heap.size ≤ gb461)); have GE461 := Aside0.mk ((by rw [hg]; exact (below_size (bS HB.out)) : w.heap.size ≤ gb461)); replace HB := hB HB hb; clear hb hbox hg) | ((with_reducible refine gate_dst (N := 5) rfl ?_); refine box_event ?hg (N := 5) ?hd (cs := #[.bool a2_0, .slice A2_1 l2_1.length c2_1]) (t := 27) ?hr ?_; (case hd => rfl); (case hg => rfl); (case hr => first | (go_simp; done) | (go_simp; rfl)); intro gb462 hg w117 hbox hb; have BK462 := Aside0.mk (hbox); have GW462 := Aside0.mk ((by rw [hg]; exact (below_size (bG1 HB.out GE461.out)) : w.heap.size ≤ gb462)); have GE462 := Aside0.mk ((by rw [hg]; exact (below_size (bG1 HB.out GE461.out)) : w.heap.size ≤ gb462)); replace HB := Aside0.mk (below_step (bG1 HB.out GE461.out) hb); have NB461_462 := Aside0.mk ((by rw [hg]; exact Nat.ne_of_lt (blk_lt (g := gb461) (o := .cells #[.bool a0_0, .slice A0_1 l0_1.length c0_1] 27 (0, 0)) (by exact bkS BK461.out)) : gb461 ≠ gb462)); have NB462_461 := Aside0.mk ((by rw [hg]; exact Nat.ne_of_gt (blk_lt (g := gb461) (o := .cells #[.bool a0_0, .slice A0_1 l0_1.length c0_1] 27 (0, 0)) (by exact bkS BK461.out)) : gb462 ≠ gb461)); replace BK461 := bkB BK461 hb; clear hb hbox hg))
     have n0_ := Aside0.mk (blk_drew BK461.out)
     have n1_ := Aside0.mk (blk_drew BK462.out)
     have n2_ := Aside0.mk (below_drew1 HB.out)
     clear BK461
     clear BK462
     clear HB
     have BK461 := n0_
     have BK462 := n1_
     have HB := n2_
     clear n0_ n1_ n2_
     refine start_ (n := 7) (S := fun w' => w'.cell? ⟨gb461, 0, none⟩ = some (.bool a0_0) ∧ w'.cell? ⟨gb461, 1, none⟩ = some (.slice A0_1 l0_1.length c0_1) ∧ w'.cell? ⟨gb462, 0, none⟩ = some (.bool a2_0) ∧ w'.cell? ⟨gb462, 1, none⟩ = some (.slice A2_1 l2_1.length c2_1)) (ds := []) #[false, false, false, false, false, false, false] (by kernel_rfl) rfl rfl ⟨(blk_cell BK461.out 0).trans rfl, (blk_cell BK461.out 1).trans rfl, (blk_cell BK462.out 0).trans rfl, (blk_cell BK462.out 1).trans rfl⟩ (fun hHeld => ?_)
     generalize w117.drew = w118 at BK461 BK462 HB hHeld ⊢
     refine pure_ (i := 1) (N := some 16) (v := ?_) (a' := ?_) #[false, true, false, false, false, false, false] rfl rfl (by kernel_rfl) (fun _ _ _ h => h) (Or.inl ⟨by rfl, ?_⟩) ?_ ?_
     rotate_left
     ·intro w'
      go_simp
      with_reducible rfl
     rotate_left
     ·simp only [Act.put, List.setIfInBounds_toArray, List.set_cons_zero, List.set_cons_succ, i64_w, i32_w]
      rfl
     refine take_ (i := 0) (N := some 15) (v := ?_) (a' := ?_) #[true, true, false, false, false, false, false] rfl rfl (by kernel_rfl) (fun _ _ _ h => h) (Or.inl ⟨by rfl, ?_⟩) hHeld ?_ ?_
     rotate_left
     ·rintro w' ⟨s0, s1, s2, s3⟩
      go_simp
      with_reducible rfl
     rotate_left
     ·simp only [Act.put, List.setIfInBounds_toArray, List.set_cons_zero, List.set_cons_succ, i64_w, i32_w]
      rfl
     refine take_ (i := 3) (N := some 18) (v := ?_) (a' := ?_) #[true, true, false, true, false, false, false] rfl rfl (by kernel_rfl) (fun _ _ _ h => h) (Or.inl ⟨by rfl, ?_⟩) hHeld ?_ ?_
     rotate_left
     ·rintro w' ⟨s0, s1, s2, s3⟩
      go_simp
      with_reducible rfl
     rotate_left
     ·simp only [Act.put, List.setIfInBounds_toArray, List.set_cons_zero, List.set_cons_succ, i64_w, i32_w]
      rfl
     refine one_ (i := 2) (N := some 17) #[true, true, true, true, false, false, false] rfl rfl (by kernel_rfl) (by decide) (fun K hK => ?_)
     refine goes_ Tryd.func17 (by kernel_rfl) rfl #[.int .u64 a1] (by rfl) rfl rfl (by (try simp only [List.map_toArray, List.map_cons, List.map_nil]); first | done | rfl) ?_
     with_reducible refine (abacuslaw05_units.calls k a1 t463 t464 _ A7.out).mono ?_
     rintro e w119 ⟨v465, rfl, ho0, hb⟩
     refine ⟨_, rfl, ?_⟩
     have n0_ := Aside0.mk (Kd.V_lower (Kd.V_mono (ok' := fun k_ => k_ ≠ gb461 ∧ k_ ≠ gb462) ho0 (fun k_ hk_ => ⟨(Kd.freshB (g := gb461) (o := .cells #[.bool a0_0, .slice A0_1 l0_1.length c0_1] 27 (0, 0)) (by exact bkS BK461.out) k_ hk_), (Kd.freshB (g := gb462) (o := .cells #[.bool a2_0, .slice A2_1 l2_1.length c2_1] 27 (0, 0)) (by exact bkS BK462.out) k_ hk_)⟩)) (below_size (bG2 HB.out GE461.out GE462.out)))
     have n1_ := Aside0.mk (blk_below (g := gb461) (o := .cells #[.bool a0_0, .slice A0_1 l0_1.length c0_1] 27 (0, 0)) (by exact bkS BK461.out) hb)
     have n2_ := Aside0.mk (blk_below (g := gb462) (o := .cells #[.bool a2_0, .slice A2_1 l2_1.length c2_1] 27 (0, 0)) (by exact bkS BK462.out) hb)
     have n3_ := Aside0.mk (below_step (bG2 HB.out GE461.out GE462.out) hb)
     clear BK461
     clear BK462
     clear HB
     have HO466 := n0_
     have BK461 := n1_
     have BK462 := n2_
     have HB := n3_
     clear n0_ n1_ n2_ n3_
     (try clear hb)
     (try clear hb2)
     (try clear hk)
     (try clear hi)
     (try clear ho0)
     obtain ⟨Ao120, co120, eo120⟩ := Kd.V_slice HO466.out
     (first | subst eo120 | (injection eo120 with f1_ f2_ f3_; have f4_ := f1_.symm; have f5_ := f3_.symm; clear f1_ f2_ f3_; subst f4_; subst f5_))
     refine hK.out _ _ ⟨(blk_cell BK461.out 0).trans rfl, (blk_cell BK461.out 1).trans rfl, (blk_cell BK462.out 0).trans rfl, (blk_cell BK462.out 1).trans rfl⟩ (fun hHeld => ?_)
     clear hK K
     refine norm_ (a' := ?_) ?_ ?_
     rotate_left
     ·show Act.put _ (some 17) _ = _
      simp only [Act.put, List.setIfInBounds_toArray, List.set_cons_zero, List.set_cons_succ, i64_w, i32_w]
      rfl
     refine one_ (i := 4) (N := some 19) #[true, true, true, true, true, false, false] rfl rfl (by kernel_rfl) (by decide) (fun K hK => ?_)
     refine goes_ Tryd.func31 (by kernel_rfl) rfl #[.agg #[.bool t463, .slice Ao120 t464.length co120], .agg #[.bool a2_0, .slice A2_1 l2_1.length c2_1]] (by rfl) rfl rfl (by (try simp only [List.map_toArray, List.map_cons, List.map_nil]); first | done | rfl) ?_
     with_reducible refine (abacuslaw05_times.calls k t463 _ _ t464 a2_0 _ _ l2_1 t467 t468 _ ?side1 ?side2 ?side3 ?side4 A8.out).mono ?_
     (case side1 => exact cS (Kd.V_reads' HO466.out).2.2)
     (case side2 => exact (Kd.V_reads' HO466.out).2.1)
     (case side3 => exact cS (Kd.C_below HR2_1.out HB.out))
     (case side4 => exact HC2_1.out)
     rintro e w121 ⟨v469, rfl, ho0, hb⟩
     refine ⟨_, rfl, ?_⟩
     have n0_ := Aside0.mk (Kd.V_below (vS <| HO466.out) hb)
     have n1_ := Aside0.mk (Kd.V_lower (Kd.V_mono (ok' := fun k_ => k_ ≠ gb461 ∧ k_ ≠ gb462) ho0 (fun k_ hk_ => ⟨(Kd.freshB (g := gb461) (o := .cells #[.bool a0_0, .slice A0_1 l0_1.length c0_1] 27 (0, 0)) (by exact bkS BK461.out) k_ hk_), (Kd.freshB (g := gb462) (o := .cells #[.bool a2_0, .slice A2_1 l2_1.length c2_1] 27 (0, 0)) (by exact bkS BK462.out) k_ hk_)⟩)) (below_size (bG2 HB.out GE461.out GE462.out)))
     have n2_ := Aside0.mk (blk_below (g := gb461) (o := .cells #[.bool a0_0, .slice A0_1 l0_1.length c0_1] 27 (0, 0)) (by exact bkS BK461.out) hb)
     have n3_ := Aside0.mk (blk_below (g := gb462) (o := .cells #[.bool a2_0, .slice A2_1 l2_1.length c2_1] 27 (0, 0)) (by exact bkS BK462.out) hb)
     have n4_ := Aside0.mk (below_step (bG2 HB.out GE461.out GE462.out) hb)
     clear HO466
     clear BK461
     clear BK462
     clear HB
     have HO466 := n0_
     have HO470 := n1_
     have BK461 := n2_
     have BK462 := n3_
     have HB := n4_
     clear n0_ n1_ n2_ n3_ n4_
     (try clear hb)
     (try clear hb2)
     (try clear hk)
     (try clear hi)
     (try clear ho0)
     obtain ⟨Ao122, co122, eo122⟩ := Kd.V_slice HO470.out
     (first | subst eo122 | (injection eo122 with f1_ f2_ f3_; have f4_ := f1_.symm; have f5_ := f3_.symm; clear f1_ f2_ f3_; subst f4_; subst f5_))
     refine hK.out _ _ ⟨(blk_cell BK461.out 0).trans rfl, (blk_cell BK461.out 1).trans rfl, (blk_cell BK462.out 0).trans rfl, (blk_cell BK462.out 1).trans rfl⟩ (fun hHeld => ?_)
     clear hK K
     refine norm_ (a' := ?_) ?_ ?_
     rotate_left
     ·show Act.put _ (some 19) _ = _
      simp only [Act.put, List.setIfInBounds_toArray, List.set_cons_zero, List.set_cons_succ, i64_w, i32_w]
      rfl
     refine one_ (i := 5) (N := some 20) #[true, true, true, true, true, true, false] rfl rfl (by kernel_rfl) (by decide) (fun K hK => ?_)
     refine goes_ Tryd.func54 (by kernel_rfl) rfl #[.agg #[.bool a0_0, .slice A0_1 l0_1.length c0_1], .agg #[.bool t467, .slice Ao122 t468.length co122]] (by rfl) rfl rfl (by (try simp only [List.map_toArray, List.map_cons, List.map_nil]); first | done | rfl) ?_
     with_reducible refine (abacuslaw05_apart.calls k a0_0 (fun k_ => k_ < w.heap.size) _ _ l0_1 t467 (fun k_ => (k_ ≠ gb461 ∧ k_ ≠ gb462)) _ _ t468 t471 _ ?side1 ?side2 A9.out).mono ?_
     (case side1 => exact Kd.V_mk HC0_1.out (Kd.F_below (Kd.C_F (Kd.heap_int .u64) HR0_1.out) (bG2 HB.out GE461.out GE462.out)))
     (case side2 => exact HO470.out)
     rintro e w123 ⟨v472, rfl, ho0, hb⟩
     refine ⟨_, rfl, ?_⟩
     have n0_ := Aside0.mk (Kd.V_below (vS <| HO466.out) hb)
     have n1_ := Aside0.mk (Kd.V_below (vS <| HO470.out) hb)
     have n2_ := Aside0.mk (Kd.V_lower (Kd.V_mono (ok' := fun k_ => k_ ≠ gb461 ∧ k_ ≠ gb462) ho0 (fun k_ hk_ => ⟨Or.elim hk_ (fun hs_ => Or.elim hs_ (fun hs_ => fun e_ => Nat.not_le.2 hs_ (by rw [e_]; exact GW461.out)) (fun hs_ => hs_.1)) (fun hn_ => (Kd.freshB (g := gb461) (o := .cells #[.bool a0_0, .slice A0_1 l0_1.length c0_1] 27 (0, 0)) (by exact bkS BK461.out) k_ hn_)), Or.elim hk_ (fun hs_ => Or.elim hs_ (fun hs_ => fun e_ => Nat.not_le.2 hs_ (by rw [e_]; exact GW462.out)) (fun hs_ => hs_.2)) (fun hn_ => (Kd.freshB (g := gb462) (o := .cells #[.bool a2_0, .slice A2_1 l2_1.length c2_1] 27 (0, 0)) (by exact bkS BK462.out) k_ hn_))⟩)) (below_size (bG2 HB.out GE461.out GE462.out)))
     have n3_ := Aside0.mk (blk_below (g := gb461) (o := .cells #[.bool a0_0, .slice A0_1 l0_1.length c0_1] 27 (0, 0)) (by exact bkS BK461.out) hb)
     have n4_ := Aside0.mk (blk_below (g := gb462) (o := .cells #[.bool a2_0, .slice A2_1 l2_1.length c2_1] 27 (0, 0)) (by exact bkS BK462.out) hb)
     have n5_ := Aside0.mk (below_step (bG2 HB.out GE461.out GE462.out) hb)
     clear HO466
     clear HO470
     clear BK461
     clear BK462
     clear HB
     have HO466 := n0_
     have HO470 := n1_
     have HO473 := n2_
     have BK461 := n3_
     have BK462 := n4_
     have HB := n5_
     clear n0_ n1_ n2_ n3_ n4_ n5_
     (try clear hb)
     (try clear hb2)
     (try clear hk)
     (try clear hi)
     (try clear ho0)
     refine hK.out _ _ ⟨(blk_cell BK461.out 0).trans rfl, (blk_cell BK461.out 1).trans rfl, (blk_cell BK462.out 0).trans rfl, (blk_cell BK462.out 1).trans rfl⟩ (fun hHeld => ?_)
     clear hK K
     refine norm_ (a' := ?_) ?_ ?_
     rotate_left
     ·show Act.put _ (some 20) _ = _
      simp only [Act.put, List.setIfInBounds_toArray, List.set_cons_zero, List.set_cons_succ, i64_w, i32_w]
      rfl
     refine pure_ (i := 6) (N := some 7) (v := ?_) (a' := ?_) #[true, true, true, true, true, true, true] rfl rfl (by kernel_rfl) (fun _ _ _ h => h) (Or.inl ⟨by rfl, ?_⟩) ?_ ?_
     rotate_left
     ·intro w'
      go_simp
      with_reducible rfl
     rotate_left
     ·simp only [Act.put, List.setIfInBounds_toArray, List.set_cons_zero, List.set_cons_succ, i64_w, i32_w]
      rfl
     refine done_ (by kernel_rfl) ?_
     try go_wp2
     have n0_ := Aside0.mk (Kd.V_drew HO466.out)
     have n1_ := Aside0.mk (Kd.V_drew HO470.out)
     have n2_ := Aside0.mk (Kd.V_drew HO473.out)
     have n3_ := Aside0.mk (blk_drew BK461.out)
     have n4_ := Aside0.mk (blk_drew BK462.out)
     have n5_ := Aside0.mk (below_drew1 HB.out)
     clear HO466
     clear HO470
     clear HO473
     clear BK461
     clear BK462
     clear HB
     have HO466 := n0_
     have HO470 := n1_
     have HO473 := n2_
     have BK461 := n3_
     have BK462 := n4_
     have HB := n5_
     clear n0_ n1_ n2_ n3_ n4_ n5_
     refine start_ (n := 8) (S := fun w' => w'.cell? ⟨gb461, 0, none⟩ = some (.bool a0_0) ∧ w'.cell? ⟨gb461, 1, none⟩ = some (.slice A0_1 l0_1.length c0_1) ∧ w'.cell? ⟨gb462, 0, none⟩ = some (.bool a2_0) ∧ w'.cell? ⟨gb462, 1, none⟩ = some (.slice A2_1 l2_1.length c2_1)) (ds := []) #[false, false, false, false, false, false, false, false] (by kernel_rfl) rfl rfl ⟨(blk_cell BK461.out 0).trans rfl, (blk_cell BK461.out 1).trans rfl, (blk_cell BK462.out 0).trans rfl, (blk_cell BK462.out 1).trans rfl⟩ (fun hHeld => ?_); refine with_tabW abacuslaw05_nearest.tab4 abacuslaw05_nearest.bits4 (fun HT_ HW_ => ?_)
     generalize w123.drew = w124 at HO466 HO470 HO473 BK461 BK462 HB hHeld ⊢
     refine pure_ (i := 1) (N := some 22) (v := ?_) (a' := ?_) #[false, true, false, false, false, false, false, false] rfl rfl (any_of HT_.out (by kernel_rfl)) (fun _ _ _ h => h) (Or.inl ⟨by rfl, ?_⟩) ?_ ?_
     rotate_left
     ·intro w'
      go_simp
      with_reducible rfl
     rotate_left
     ·simp only [Act.put, List.setIfInBounds_toArray, List.set_cons_zero, List.set_cons_succ, i64_w, i32_w]
      rfl
     refine take_ (i := 0) (N := some 21) (v := ?_) (a' := ?_) #[true, true, false, false, false, false, false, false] rfl rfl (take_ofW HT_.out HW_.out (by kernel_rfl)) (fun _ _ _ h => h) (Or.inl ⟨by rfl, ?_⟩) hHeld ?_ ?_
     rotate_left
     ·rintro w' ⟨s0, s1, s2, s3⟩
      go_simp
      with_reducible rfl
     rotate_left
     ·simp only [Act.put, List.setIfInBounds_toArray, List.set_cons_zero, List.set_cons_succ, i64_w, i32_w]
      rfl
     refine take_ (i := 4) (N := some 25) (v := ?_) (a' := ?_) #[true, true, false, false, true, false, false, false] rfl rfl (take_ofW HT_.out HW_.out (by kernel_rfl)) (fun _ _ _ h => h) (Or.inl ⟨by rfl, ?_⟩) hHeld ?_ ?_
     rotate_left
     ·rintro w' ⟨s0, s1, s2, s3⟩
      go_simp
      with_reducible rfl
     rotate_left
     ·simp only [Act.put, List.setIfInBounds_toArray, List.set_cons_zero, List.set_cons_succ, i64_w, i32_w]
      rfl
     refine one_ (i := 2) (N := some 23) #[true, true, true, false, true, false, false, false] rfl rfl (one_of HT_.out (by kernel_rfl)) (by decide) (fun K hK => ?_)
     refine goes_ Tryd.func34 (by kernel_rfl) rfl #[.int .u64 a1] (by rfl) rfl rfl (by (try simp only [List.map_toArray, List.map_cons, List.map_nil]); first | done | rfl) ?_
     with_reducible refine (ieee_Up.calls k a1 t474 _ A10.out).mono ?_
     rintro e w' ⟨rfl, ⟨nd, rfl⟩⟩
     refine ⟨_, rfl, ?_⟩
     refine hK.out _ _ ⟨(blk_cell BK461.out 0).trans rfl, (blk_cell BK461.out 1).trans rfl, (blk_cell BK462.out 0).trans rfl, (blk_cell BK462.out 1).trans rfl⟩ (fun hHeld => ?_)
     clear hK K
     refine norm_ (a' := ?_) ?_ ?_
     rotate_left
     ·show Act.put _ (some 23) _ = _
      simp only [Act.put, List.setIfInBounds_toArray, List.set_cons_zero, List.set_cons_succ, i64_w, i32_w]
      rfl
     refine one_ (i := 3) (N := some 24) #[true, true, true, true, true, false, false, false] rfl rfl (one_of HT_.out (by kernel_rfl)) (by decide) (fun K hK => ?_)
     refine goes_ Tryd.func17 (by kernel_rfl) rfl #[.int .u64 t474] (by rfl) rfl rfl (by (try simp only [List.map_toArray, List.map_cons, List.map_nil]); first | done | rfl) ?_
     with_reducible refine (abacuslaw05_units.calls k t474 t475 t476 _ A11.out).mono ?_
     rintro e w125 ⟨v477, rfl, ho0, hb⟩
     refine ⟨_, rfl, ?_⟩
     have n0_ := Aside0.mk (Kd.V_below (vS <| HO466.out) hb)
     have n1_ := Aside0.mk (Kd.V_below (vS <| HO470.out) hb)
     have n2_ := Aside0.mk (Kd.V_below (vS <| HO473.out) hb)
     have n3_ := Aside0.mk (Kd.V_lower (Kd.V_mono (ok' := fun k_ => k_ ≠ gb461 ∧ k_ ≠ gb462) ho0 (fun k_ hk_ => ⟨(Kd.freshB (g := gb461) (o := .cells #[.bool a0_0, .slice A0_1 l0_1.length c0_1] 27 (0, 0)) (by exact bkS BK461.out) k_ hk_), (Kd.freshB (g := gb462) (o := .cells #[.bool a2_0, .slice A2_1 l2_1.length c2_1] 27 (0, 0)) (by exact bkS BK462.out) k_ hk_)⟩)) (below_size (bG2 HB.out GE461.out GE462.out)))
     have n4_ := Aside0.mk (blk_below (g := gb461) (o := .cells #[.bool a0_0, .slice A0_1 l0_1.length c0_1] 27 (0, 0)) (by exact bkS BK461.out) hb)
     have n5_ := Aside0.mk (blk_below (g := gb462) (o := .cells #[.bool a2_0, .slice A2_1 l2_1.length c2_1] 27 (0, 0)) (by exact bkS BK462.out) hb)
     have n6_ := Aside0.mk (below_step (bG2 HB.out GE461.out GE462.out) hb)
     clear HO466
     clear HO470
     clear HO473
     clear BK461
     clear BK462
     clear HB
     have HO466 := n0_
     have HO470 := n1_
     have HO473 := n2_
     have HO478 := n3_
     have BK461 := n4_
     have BK462 := n5_
     have HB := n6_
     clear n0_ n1_ n2_ n3_ n4_ n5_ n6_
     (try clear hb)
     (try clear hb2)
     (try clear hk)
     (try clear hi)
     (try clear ho0)
     obtain ⟨Ao126, co126, eo126⟩ := Kd.V_slice HO478.out
     (first | subst eo126 | (injection eo126 with f1_ f2_ f3_; have f4_ := f1_.symm; have f5_ := f3_.symm; clear f1_ f2_ f3_; subst f4_; subst f5_))
     refine hK.out _ _ ⟨(blk_cell BK461.out 0).trans rfl, (blk_cell BK461.out 1).trans rfl, (blk_cell BK462.out 0).trans rfl, (blk_cell BK462.out 1).trans rfl⟩ (fun hHeld => ?_)
     clear hK K
     refine norm_ (a' := ?_) ?_ ?_
     rotate_left
     ·show Act.put _ (some 24) _ = _
      simp only [Act.put, List.setIfInBounds_toArray, List.set_cons_zero, List.set_cons_succ, i64_w, i32_w]
      rfl
     refine one_ (i := 5) (N := some 26) #[true, true, true, true, true, true, false, false] rfl rfl (one_of HT_.out (by kernel_rfl)) (by decide) (fun K hK => ?_)
     refine goes_ Tryd.func31 (by kernel_rfl) rfl #[.agg #[.bool t475, .slice Ao126 t476.length co126], .agg #[.bool a2_0, .slice A2_1 l2_1.length c2_1]] (by rfl) rfl rfl (by (try simp only [List.map_toArray, List.map_cons, List.map_nil]); first | done | rfl) ?_
     with_reducible refine (abacuslaw05_times.calls k t475 _ _ t476 a2_0 _ _ l2_1 t479 t480 _ ?side1 ?side2 ?side3 ?side4 A12.out).mono ?_
     (case side1 => exact cS (Kd.V_reads' HO478.out).2.2)
     (case side2 => exact (Kd.V_reads' HO478.out).2.1)
     (case side3 => exact cS (Kd.C_below HR2_1.out HB.out))
     (case side4 => exact HC2_1.out)
     rintro e w127 ⟨v481, rfl, ho0, hb⟩
     refine ⟨_, rfl, ?_⟩
     have n0_ := Aside0.mk (Kd.V_below (vS <| HO466.out) hb)
     have n1_ := Aside0.mk (Kd.V_below (vS <| HO470.out) hb)
     have n2_ := Aside0.mk (Kd.V_below (vS <| HO473.out) hb)
     have n3_ := Aside0.mk (Kd.V_below (vS <| HO478.out) hb)
     have n4_ := Aside0.mk (Kd.V_lower (Kd.V_mono (ok' := fun k_ => k_ ≠ gb461 ∧ k_ ≠ gb462) ho0 (fun k_ hk_ => ⟨(Kd.freshB (g := gb461) (o := .cells #[.bool a0_0, .slice A0_1 l0_1.length c0_1] 27 (0, 0)) (by exact bkS BK461.out) k_ hk_), (Kd.freshB (g := gb462) (o := .cells #[.bool a2_0, .slice A2_1 l2_1.length c2_1] 27 (0, 0)) (by exact bkS BK462.out) k_ hk_)⟩)) (below_size (bG2 HB.out GE461.out GE462.out)))
     have n5_ := Aside0.mk (blk_below (g := gb461) (o := .cells #[.bool a0_0, .slice A0_1 l0_1.length c0_1] 27 (0, 0)) (by exact bkS BK461.out) hb)
     have n6_ := Aside0.mk (blk_below (g := gb462) (o := .cells #[.bool a2_0, .slice A2_1 l2_1.length c2_1] 27 (0, 0)) (by exact bkS BK462.out) hb)
     have n7_ := Aside0.mk (below_step (bG2 HB.out GE461.out GE462.out) hb)
     clear HO466
     clear HO470
     clear HO473
     clear HO478
     clear BK461
     clear BK462
     clear HB
     have HO466 := n0_
     have HO470 := n1_
     have HO473 := n2_
     have HO478 := n3_
     have HO482 := n4_
     have BK461 := n5_
     have BK462 := n6_
     have HB := n7_
     clear n0_ n1_ n2_ n3_ n4_ n5_ n6_ n7_
     (try clear hb)
     (try clear hb2)
     (try clear hk)
     (try clear hi)
     (try clear ho0)
     obtain ⟨Ao128, co128, eo128⟩ := Kd.V_slice HO482.out
     (first | subst eo128 | (injection eo128 with f1_ f2_ f3_; have f4_ := f1_.symm; have f5_ := f3_.symm; clear f1_ f2_ f3_; subst f4_; subst f5_))
     refine hK.out _ _ ⟨(blk_cell BK461.out 0).trans rfl, (blk_cell BK461.out 1).trans rfl, (blk_cell BK462.out 0).trans rfl, (blk_cell BK462.out 1).trans rfl⟩ (fun hHeld => ?_)
     clear hK K
     refine norm_ (a' := ?_) ?_ ?_
     rotate_left
     ·show Act.put _ (some 26) _ = _
      simp only [Act.put, List.setIfInBounds_toArray, List.set_cons_zero, List.set_cons_succ, i64_w, i32_w]
      rfl
     refine one_ (i := 6) (N := some 27) #[true, true, true, true, true, true, true, false] rfl rfl (one_of HT_.out (by kernel_rfl)) (by decide) (fun K hK => ?_)
     refine goes_ Tryd.func54 (by kernel_rfl) rfl #[.agg #[.bool a0_0, .slice A0_1 l0_1.length c0_1], .agg #[.bool t479, .slice Ao128 t480.length co128]] (by rfl) rfl rfl (by (try simp only [List.map_toArray, List.map_cons, List.map_nil]); first | done | rfl) ?_
     with_reducible refine (abacuslaw05_apart.calls k a0_0 (fun k_ => k_ < w.heap.size) _ _ l0_1 t479 (fun k_ => (k_ ≠ gb461 ∧ k_ ≠ gb462)) _ _ t480 t483 _ ?side1 ?side2 A13.out).mono ?_
     (case side1 => exact Kd.V_mk HC0_1.out (Kd.F_below (Kd.C_F (Kd.heap_int .u64) HR0_1.out) (bG2 HB.out GE461.out GE462.out)))
     (case side2 => exact HO482.out)
     rintro e w129 ⟨v484, rfl, ho0, hb⟩
     refine ⟨_, rfl, ?_⟩
     have n0_ := Aside0.mk (Kd.V_below (vS <| HO466.out) hb)
     have n1_ := Aside0.mk (Kd.V_below (vS <| HO470.out) hb)
     have n2_ := Aside0.mk (Kd.V_below (vS <| HO473.out) hb)
     have n3_ := Aside0.mk (Kd.V_below (vS <| HO478.out) hb)
     have n4_ := Aside0.mk (Kd.V_below (vS <| HO482.out) hb)
     have n5_ := Aside0.mk (Kd.V_lower (Kd.V_mono (ok' := fun k_ => k_ ≠ gb461 ∧ k_ ≠ gb462) ho0 (fun k_ hk_ => ⟨Or.elim hk_ (fun hs_ => Or.elim hs_ (fun hs_ => fun e_ => Nat.not_le.2 hs_ (by rw [e_]; exact GW461.out)) (fun hs_ => hs_.1)) (fun hn_ => (Kd.freshB (g := gb461) (o := .cells #[.bool a0_0, .slice A0_1 l0_1.length c0_1] 27 (0, 0)) (by exact bkS BK461.out) k_ hn_)), Or.elim hk_ (fun hs_ => Or.elim hs_ (fun hs_ => fun e_ => Nat.not_le.2 hs_ (by rw [e_]; exact GW462.out)) (fun hs_ => hs_.2)) (fun hn_ => (Kd.freshB (g := gb462) (o := .cells #[.bool a2_0, .slice A2_1 l2_1.length c2_1] 27 (0, 0)) (by exact bkS BK462.out) k_ hn_))⟩)) (below_size (bG2 HB.out GE461.out GE462.out)))
     have n6_ := Aside0.mk (blk_below (g := gb461) (o := .cells #[.bool a0_0, .slice A0_1 l0_1.length c0_1] 27 (0, 0)) (by exact bkS BK461.out) hb)
     have n7_ := Aside0.mk (blk_below (g := gb462) (o := .cells #[.bool a2_0, .slice A2_1 l2_1.length c2_1] 27 (0, 0)) (by exact bkS BK462.out) hb)
     have n8_ := Aside0.mk (below_step (bG2 HB.out GE461.out GE462.out) hb)
     clear HO466
     clear HO470
     clear HO473
     clear HO478
     clear HO482
     clear BK461
     clear BK462
     clear HB
     have HO466 := n0_
     have HO470 := n1_
     have HO473 := n2_
     have HO478 := n3_
     have HO482 := n4_
     have HO485 := n5_
     have BK461 := n6_
     have BK462 := n7_
     have HB := n8_
     clear n0_ n1_ n2_ n3_ n4_ n5_ n6_ n7_ n8_
     (try clear hb)
     (try clear hb2)
     (try clear hk)
     (try clear hi)
     (try clear ho0)
     refine hK.out _ _ ⟨(blk_cell BK461.out 0).trans rfl, (blk_cell BK461.out 1).trans rfl, (blk_cell BK462.out 0).trans rfl, (blk_cell BK462.out 1).trans rfl⟩ (fun hHeld => ?_)
     clear hK K
     refine norm_ (a' := ?_) ?_ ?_
     rotate_left
     ·show Act.put _ (some 27) _ = _
      simp only [Act.put, List.setIfInBounds_toArray, List.set_cons_zero, List.set_cons_succ, i64_w, i32_w]
      rfl
     refine pure_ (i := 7) (N := some 8) (v := ?_) (a' := ?_) #[true, true, true, true, true, true, true, true] rfl rfl (any_of HT_.out (by kernel_rfl)) (fun _ _ _ h => h) (Or.inl ⟨by rfl, ?_⟩) ?_ ?_
     rotate_left
     ·intro w'
      go_simp
      with_reducible rfl
     rotate_left
     ·simp only [Act.put, List.setIfInBounds_toArray, List.set_cons_zero, List.set_cons_succ, i64_w, i32_w]
      rfl
     refine done_ (done_of HT_.out (by kernel_rfl)) ?_
     try go_wp2
     have n0_ := Aside0.mk (Kd.V_drew HO466.out)
     have n1_ := Aside0.mk (Kd.V_drew HO470.out)
     have n2_ := Aside0.mk (Kd.V_drew HO473.out)
     have n3_ := Aside0.mk (Kd.V_drew HO478.out)
     have n4_ := Aside0.mk (Kd.V_drew HO482.out)
     have n5_ := Aside0.mk (Kd.V_drew HO485.out)
     have n6_ := Aside0.mk (blk_drew BK461.out)
     have n7_ := Aside0.mk (blk_drew BK462.out)
     have n8_ := Aside0.mk (below_drew1 HB.out)
     clear HO466
     clear HO470
     clear HO473
     clear HO478
     clear HO482
     clear HO485
     clear BK461
     clear BK462
     clear HB
     have HO466 := n0_
     have HO470 := n1_
     have HO473 := n2_
     have HO478 := n3_
     have HO482 := n4_
     have HO485 := n5_
     have BK461 := n6_
     have BK462 := n7_
     have HB := n8_
     clear n0_ n1_ n2_ n3_ n4_ n5_ n6_ n7_ n8_
     refine start_ (n := 8) (S := fun w' => w'.cell? ⟨gb461, 0, none⟩ = some (.bool a0_0) ∧ w'.cell? ⟨gb461, 1, none⟩ = some (.slice A0_1 l0_1.length c0_1) ∧ w'.cell? ⟨gb462, 0, none⟩ = some (.bool a2_0) ∧ w'.cell? ⟨gb462, 1, none⟩ = some (.slice A2_1 l2_1.length c2_1)) (ds := []) #[false, false, false, false, false, false, false, false] (by kernel_rfl) rfl rfl ⟨(blk_cell BK461.out 0).trans rfl, (blk_cell BK461.out 1).trans rfl, (blk_cell BK462.out 0).trans rfl, (blk_cell BK462.out 1).trans rfl⟩ (fun hHeld => ?_); refine with_tabW abacuslaw05_nearest.tab5 abacuslaw05_nearest.bits5 (fun HT_ HW_ => ?_)
     generalize w129.drew = w130 at HO466 HO470 HO473 HO478 HO482 HO485 BK461 BK462 HB hHeld ⊢
     refine pure_ (i := 1) (N := some 29) (v := ?_) (a' := ?_) #[false, true, false, false, false, false, false, false] rfl rfl (any_of HT_.out (by kernel_rfl)) (fun _ _ _ h => h) (Or.inl ⟨by rfl, ?_⟩) ?_ ?_
     rotate_left
     ·intro w'
      go_simp
      with_reducible rfl
     rotate_left
     ·simp only [Act.put, List.setIfInBounds_toArray, List.set_cons_zero, List.set_cons_succ, i64_w, i32_w]
      rfl
     refine take_ (i := 0) (N := some 28) (v := ?_) (a' := ?_) #[true, true, false, false, false, false, false, false] rfl rfl (take_ofW HT_.out HW_.out (by kernel_rfl)) (fun _ _ _ h => h) (Or.inl ⟨by rfl, ?_⟩) hHeld ?_ ?_
     rotate_left
     ·rintro w' ⟨s0, s1, s2, s3⟩
      go_simp
      with_reducible rfl
     rotate_left
     ·simp only [Act.put, List.setIfInBounds_toArray, List.set_cons_zero, List.set_cons_succ, i64_w, i32_w]
      rfl
     refine take_ (i := 4) (N := some 32) (v := ?_) (a' := ?_) #[true, true, false, false, true, false, false, false] rfl rfl (take_ofW HT_.out HW_.out (by kernel_rfl)) (fun _ _ _ h => h) (Or.inl ⟨by rfl, ?_⟩) hHeld ?_ ?_
     rotate_left
     ·rintro w' ⟨s0, s1, s2, s3⟩
      go_simp
      with_reducible rfl
     rotate_left
     ·simp only [Act.put, List.setIfInBounds_toArray, List.set_cons_zero, List.set_cons_succ, i64_w, i32_w]
      rfl
     refine one_ (i := 2) (N := some 30) #[true, true, true, false, true, false, false, false] rfl rfl (one_of HT_.out (by kernel_rfl)) (by decide) (fun K hK => ?_)
     refine goes_ Tryd.func35 (by kernel_rfl) rfl #[.int .u64 a1] (by rfl) rfl rfl (by (try simp only [List.map_toArray, List.map_cons, List.map_nil]); first | done | rfl) ?_
     with_reducible refine (ieee_Down.calls k a1 t486 _ A14.out).mono ?_
     rintro e w' ⟨rfl, ⟨nd, rfl⟩⟩
     refine ⟨_, rfl, ?_⟩
     refine hK.out _ _ ⟨(blk_cell BK461.out 0).trans rfl, (blk_cell BK461.out 1).trans rfl, (blk_cell BK462.out 0).trans rfl, (blk_cell BK462.out 1).trans rfl⟩ (fun hHeld => ?_)
     clear hK K
     refine norm_ (a' := ?_) ?_ ?_
     rotate_left
     ·show Act.put _ (some 30) _ = _
      simp only [Act.put, List.setIfInBounds_toArray, List.set_cons_zero, List.set_cons_succ, i64_w, i32_w]
      rfl
     refine one_ (i := 3) (N := some 31) #[true, true, true, true, true, false, false, false] rfl rfl (one_of HT_.out (by kernel_rfl)) (by decide) (fun K hK => ?_)
     refine goes_ Tryd.func17 (by kernel_rfl) rfl #[.int .u64 t486] (by rfl) rfl rfl (by (try simp only [List.map_toArray, List.map_cons, List.map_nil]); first | done | rfl) ?_
     with_reducible refine (abacuslaw05_units.calls k t486 t487 t488 _ A15.out).mono ?_
     rintro e w131 ⟨v489, rfl, ho0, hb⟩
     refine ⟨_, rfl, ?_⟩
     have n0_ := Aside0.mk (Kd.V_below (vS <| HO466.out) hb)
     have n1_ := Aside0.mk (Kd.V_below (vS <| HO470.out) hb)
     have n2_ := Aside0.mk (Kd.V_below (vS <| HO473.out) hb)
     have n3_ := Aside0.mk (Kd.V_below (vS <| HO478.out) hb)
     have n4_ := Aside0.mk (Kd.V_below (vS <| HO482.out) hb)
     have n5_ := Aside0.mk (Kd.V_below (vS <| HO485.out) hb)
     have n6_ := Aside0.mk (Kd.V_lower (Kd.V_mono (ok' := fun k_ => k_ ≠ gb461 ∧ k_ ≠ gb462) ho0 (fun k_ hk_ => ⟨(Kd.freshB (g := gb461) (o := .cells #[.bool a0_0, .slice A0_1 l0_1.length c0_1] 27 (0, 0)) (by exact bkS BK461.out) k_ hk_), (Kd.freshB (g := gb462) (o := .cells #[.bool a2_0, .slice A2_1 l2_1.length c2_1] 27 (0, 0)) (by exact bkS BK462.out) k_ hk_)⟩)) (below_size (bG2 HB.out GE461.out GE462.out)))
     have n7_ := Aside0.mk (blk_below (g := gb461) (o := .cells #[.bool a0_0, .slice A0_1 l0_1.length c0_1] 27 (0, 0)) (by exact bkS BK461.out) hb)
     have n8_ := Aside0.mk (blk_below (g := gb462) (o := .cells #[.bool a2_0, .slice A2_1 l2_1.length c2_1] 27 (0, 0)) (by exact bkS BK462.out) hb)
     have n9_ := Aside0.mk (below_step (bG2 HB.out GE461.out GE462.out) hb)
     clear HO466
     clear HO470
     clear HO473
     clear HO478
     clear HO482
     clear HO485
     clear BK461
     clear BK462
     clear HB
     have HO466 := n0_
     have HO470 := n1_
     have HO473 := n2_
     have HO478 := n3_
     have HO482 := n4_
     have HO485 := n5_
     have HO490 := n6_
     have BK461 := n7_
     have BK462 := n8_
     have HB := n9_
     clear n0_ n1_ n2_ n3_ n4_ n5_ n6_ n7_ n8_ n9_
     (try clear hb)
     (try clear hb2)
     (try clear hk)
     (try clear hi)
     (try clear ho0)
     obtain ⟨Ao132, co132, eo132⟩ := Kd.V_slice HO490.out
     (first | subst eo132 | (injection eo132 with f1_ f2_ f3_; have f4_ := f1_.symm; have f5_ := f3_.symm; clear f1_ f2_ f3_; subst f4_; subst f5_))
     refine hK.out _ _ ⟨(blk_cell BK461.out 0).trans rfl, (blk_cell BK461.out 1).trans rfl, (blk_cell BK462.out 0).trans rfl, (blk_cell BK462.out 1).trans rfl⟩ (fun hHeld => ?_)
     clear hK K
     refine norm_ (a' := ?_) ?_ ?_
     rotate_left
     ·show Act.put _ (some 31) _ = _
      simp only [Act.put, List.setIfInBounds_toArray, List.set_cons_zero, List.set_cons_succ, i64_w, i32_w]
      rfl
     refine one_ (i := 5) (N := some 33) #[true, true, true, true, true, true, false, false] rfl rfl (one_of HT_.out (by kernel_rfl)) (by decide) (fun K hK => ?_)
     refine goes_ Tryd.func31 (by kernel_rfl) rfl #[.agg #[.bool t487, .slice Ao132 t488.length co132], .agg #[.bool a2_0, .slice A2_1 l2_1.length c2_1]] (by rfl) rfl rfl (by (try simp only [List.map_toArray, List.map_cons, List.map_nil]); first | done | rfl) ?_
     with_reducible refine (abacuslaw05_times.calls k t487 _ _ t488 a2_0 _ _ l2_1 t491 t492 _ ?side1 ?side2 ?side3 ?side4 A16.out).mono ?_
     (case side1 => exact cS (Kd.V_reads' HO490.out).2.2)
     (case side2 => exact (Kd.V_reads' HO490.out).2.1)
     (case side3 => exact cS (Kd.C_below HR2_1.out HB.out))
     (case side4 => exact HC2_1.out)
     rintro e w133 ⟨v493, rfl, ho0, hb⟩
     refine ⟨_, rfl, ?_⟩
     have n0_ := Aside0.mk (Kd.V_below (vS <| HO466.out) hb)
     have n1_ := Aside0.mk (Kd.V_below (vS <| HO470.out) hb)
     have n2_ := Aside0.mk (Kd.V_below (vS <| HO473.out) hb)
     have n3_ := Aside0.mk (Kd.V_below (vS <| HO478.out) hb)
     have n4_ := Aside0.mk (Kd.V_below (vS <| HO482.out) hb)
     have n5_ := Aside0.mk (Kd.V_below (vS <| HO485.out) hb)
     have n6_ := Aside0.mk (Kd.V_below (vS <| HO490.out) hb)
     have n7_ := Aside0.mk (Kd.V_lower (Kd.V_mono (ok' := fun k_ => k_ ≠ gb461 ∧ k_ ≠ gb462) ho0 (fun k_ hk_ => ⟨(Kd.freshB (g := gb461) (o := .cells #[.bool a0_0, .slice A0_1 l0_1.length c0_1] 27 (0, 0)) (by exact bkS BK461.out) k_ hk_), (Kd.freshB (g := gb462) (o := .cells #[.bool a2_0, .slice A2_1 l2_1.length c2_1] 27 (0, 0)) (by exact bkS BK462.out) k_ hk_)⟩)) (below_size (bG2 HB.out GE461.out GE462.out)))
     have n8_ := Aside0.mk (blk_below (g := gb461) (o := .cells #[.bool a0_0, .slice A0_1 l0_1.length c0_1] 27 (0, 0)) (by exact bkS BK461.out) hb)
     have n9_ := Aside0.mk (blk_below (g := gb462) (o := .cells #[.bool a2_0, .slice A2_1 l2_1.length c2_1] 27 (0, 0)) (by exact bkS BK462.out) hb)
     have n10_ := Aside0.mk (below_step (bG2 HB.out GE461.out GE462.out) hb)
     clear HO466
     clear HO470
     clear HO473
     clear HO478
     clear HO482
     clear HO485
     clear HO490
     clear BK461
     clear BK462
     clear HB
     have HO466 := n0_
     have HO470 := n1_
     have HO473 := n2_
     have HO478 := n3_
     have HO482 := n4_
     have HO485 := n5_
     have HO490 := n6_
     have HO494 := n7_
     have BK461 := n8_
     have BK462 := n9_
     have HB := n10_
     clear n0_ n1_ n2_ n3_ n4_ n5_ n6_ n7_ n8_ n9_ n10_
     (try clear hb)
     (try clear hb2)
     (try clear hk)
     (try clear hi)
     (try clear ho0)
     obtain ⟨Ao134, co134, eo134⟩ := Kd.V_slice HO494.out
     (first | subst eo134 | (injection eo134 with f1_ f2_ f3_; have f4_ := f1_.symm; have f5_ := f3_.symm; clear f1_ f2_ f3_; subst f4_; subst f5_))
     refine hK.out _ _ ⟨(blk_cell BK461.out 0).trans rfl, (blk_cell BK461.out 1).trans rfl, (blk_cell BK462.out 0).trans rfl, (blk_cell BK462.out 1).trans rfl⟩ (fun hHeld => ?_)
     clear hK K
     refine norm_ (a' := ?_) ?_ ?_
     rotate_left
     ·show Act.put _ (some 33) _ = _
      simp only [Act.put, List.setIfInBounds_toArray, List.set_cons_zero, List.set_cons_succ, i64_w, i32_w]
      rfl
     refine one_ (i := 6) (N := some 34) #[true, true, true, true, true, true, true, false] rfl rfl (one_of HT_.out (by kernel_rfl)) (by decide) (fun K hK => ?_)
     refine goes_ Tryd.func54 (by kernel_rfl) rfl #[.agg #[.bool a0_0, .slice A0_1 l0_1.length c0_1], .agg #[.bool t491, .slice Ao134 t492.length co134]] (by rfl) rfl rfl (by (try simp only [List.map_toArray, List.map_cons, List.map_nil]); first | done | rfl) ?_
     with_reducible refine (abacuslaw05_apart.calls k a0_0 (fun k_ => k_ < w.heap.size) _ _ l0_1 t491 (fun k_ => (k_ ≠ gb461 ∧ k_ ≠ gb462)) _ _ t492 t495 _ ?side1 ?side2 A17.out).mono ?_
     (case side1 => exact Kd.V_mk HC0_1.out (Kd.F_below (Kd.C_F (Kd.heap_int .u64) HR0_1.out) (bG2 HB.out GE461.out GE462.out)))
     (case side2 => exact HO494.out)
     rintro e w135 ⟨v496, rfl, ho0, hb⟩
     refine ⟨_, rfl, ?_⟩
     have n0_ := Aside0.mk (Kd.V_below (vS <| HO466.out) hb)
     have n1_ := Aside0.mk (Kd.V_below (vS <| HO470.out) hb)
     have n2_ := Aside0.mk (Kd.V_below (vS <| HO473.out) hb)
     have n3_ := Aside0.mk (Kd.V_below (vS <| HO478.out) hb)
     have n4_ := Aside0.mk (Kd.V_below (vS <| HO482.out) hb)
     have n5_ := Aside0.mk (Kd.V_below (vS <| HO485.out) hb)
     have n6_ := Aside0.mk (Kd.V_below (vS <| HO490.out) hb)
     have n7_ := Aside0.mk (Kd.V_below (vS <| HO494.out) hb)
     have n8_ := Aside0.mk (Kd.V_lower (Kd.V_mono (ok' := fun k_ => k_ ≠ gb461 ∧ k_ ≠ gb462) ho0 (fun k_ hk_ => ⟨Or.elim hk_ (fun hs_ => Or.elim hs_ (fun hs_ => fun e_ => Nat.not_le.2 hs_ (by rw [e_]; exact GW461.out)) (fun hs_ => hs_.1)) (fun hn_ => (Kd.freshB (g := gb461) (o := .cells #[.bool a0_0, .slice A0_1 l0_1.length c0_1] 27 (0, 0)) (by exact bkS BK461.out) k_ hn_)), Or.elim hk_ (fun hs_ => Or.elim hs_ (fun hs_ => fun e_ => Nat.not_le.2 hs_ (by rw [e_]; exact GW462.out)) (fun hs_ => hs_.2)) (fun hn_ => (Kd.freshB (g := gb462) (o := .cells #[.bool a2_0, .slice A2_1 l2_1.length c2_1] 27 (0, 0)) (by exact bkS BK462.out) k_ hn_))⟩)) (below_size (bG2 HB.out GE461.out GE462.out)))
     have n9_ := Aside0.mk (blk_below (g := gb461) (o := .cells #[.bool a0_0, .slice A0_1 l0_1.length c0_1] 27 (0, 0)) (by exact bkS BK461.out) hb)
     have n10_ := Aside0.mk (blk_below (g := gb462) (o := .cells #[.bool a2_0, .slice A2_1 l2_1.length c2_1] 27 (0, 0)) (by exact bkS BK462.out) hb)
     have n11_ := Aside0.mk (below_step (bG2 HB.out GE461.out GE462.out) hb)
     clear HO466
     clear HO470
     clear HO473
     clear HO478
     clear HO482
     clear HO485
     clear HO490
     clear HO494
     clear BK461
     clear BK462
     clear HB
     have HO466 := n0_
     have HO470 := n1_
     have HO473 := n2_
     have HO478 := n3_
     have HO482 := n4_
     have HO485 := n5_
     have HO490 := n6_
     have HO494 := n7_
     have HO497 := n8_
     have BK461 := n9_
     have BK462 := n10_
     have HB := n11_
     clear n0_ n1_ n2_ n3_ n4_ n5_ n6_ n7_ n8_ n9_ n10_ n11_
     (try clear hb)
     (try clear hb2)
     (try clear hk)
     (try clear hi)
     (try clear ho0)
     refine hK.out _ _ ⟨(blk_cell BK461.out 0).trans rfl, (blk_cell BK461.out 1).trans rfl, (blk_cell BK462.out 0).trans rfl, (blk_cell BK462.out 1).trans rfl⟩ (fun hHeld => ?_)
     clear hK K
     refine norm_ (a' := ?_) ?_ ?_
     rotate_left
     ·show Act.put _ (some 34) _ = _
      simp only [Act.put, List.setIfInBounds_toArray, List.set_cons_zero, List.set_cons_succ, i64_w, i32_w]
      rfl
     refine pure_ (i := 7) (N := some 9) (v := ?_) (a' := ?_) #[true, true, true, true, true, true, true, true] rfl rfl (any_of HT_.out (by kernel_rfl)) (fun _ _ _ h => h) (Or.inl ⟨by rfl, ?_⟩) ?_ ?_
     rotate_left
     ·intro w'
      go_simp
      with_reducible rfl
     rotate_left
     ·simp only [Act.put, List.setIfInBounds_toArray, List.set_cons_zero, List.set_cons_succ, i64_w, i32_w]
      rfl
     refine done_ (done_of HT_.out (by kernel_rfl)) ?_
     obtain ⟨Ao136, co136, eo136⟩ := Kd.V_slice HO473.out
     subst eo136
     obtain ⟨Ao137, co137, eo137⟩ := Kd.V_slice HO485.out
     subst eo137
     try go_wp2_with (first | ((with_reducible refine gate_callee (f := 18) rfl ?_); refine goesL_ (some 37) rfl rfl Tryd.func18 (by kernel_rfl) rfl #[.slice Ao136 t471.length co136, .slice Ao137 t483.length co137] rfl (by (try simp only [List.map_toArray, List.map_cons, List.map_nil]); first | done | rfl) ?_; (with_reducible refine (nat_Cmp.calls k _ _ t471 _ _ t483 t498 _ ?side1 ?side2 ?side3 ?side4 A18.out).mono ?_); (case side1 => exact cS (Kd.V_reads' HO473.out).2.2); (case side2 => exact (Kd.V_reads' HO473.out).2.1); (case side3 => exact cS (Kd.V_reads' HO485.out).2.2); (case side4 => exact (Kd.V_reads' HO485.out).2.1); rintro e w' ⟨rfl, ⟨nd, rfl⟩⟩; refine ⟨_, rfl, ?_⟩; obtain ⟨Ao138, co138, eo138⟩ := Kd.V_slice HO497.out; subst eo138) | ((with_reducible refine gate_callee (f := 18) rfl ?_); refine goesL_ (some 40) rfl rfl Tryd.func18 (by kernel_rfl) rfl #[.slice Ao136 t471.length co136, .slice Ao138 t495.length co138] rfl (by (try simp only [List.map_toArray, List.map_cons, List.map_nil]); first | done | rfl) ?_; (with_reducible refine (nat_Cmp.calls k _ _ t471 _ _ t495 t499 _ ?side1 ?side2 ?side3 ?side4 A19.out).mono ?_); (case side1 => exact cS (Kd.V_reads' HO473.out).2.2); (case side2 => exact (Kd.V_reads' HO473.out).2.1); (case side3 => exact cS (Kd.V_reads' HO497.out).2.2); (case side4 => exact (Kd.V_reads' HO497.out).2.1); rintro e w' ⟨rfl, ⟨nd, rfl⟩⟩; refine ⟨_, rfl, ?_⟩))
     go_ret
     exact ⟨by first | rfl | (simp [errW_none, errW_some] <;> rfl) | (simp [*, errW_none, errW_some] <;> rfl), bG2 HB.out GE461.out GE462.out⟩

end Go.Proofs.YtcdnoklokoplaaaDoor.PC
