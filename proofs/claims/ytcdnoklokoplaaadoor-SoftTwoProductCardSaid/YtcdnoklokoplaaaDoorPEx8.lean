-- printed by a program
import Derived.Test.YtcdnoklokoplaaaDoorPEx0
import Derived.Test.YtcdnoklokoplaaaDoorPEx1
import Derived.Test.YtcdnoklokoplaaaDoorPEx2
import Derived.Test.YtcdnoklokoplaaaDoorPEx5
import Derived.Test.YtcdnoklokoplaaaDoorPEx7
namespace Go.Proofs.YtcdnoklokoplaaaDoor.PE
open Go.Proofs.YtcdnoklokoplaaaDoorX
open Go.RowKit Go.Proofs.YtcdnoklokoplaaaDoorW.PrintWords Go.Proofs.YtcdnoklokoplaaaDoorW.PrintLast Go.Proofs.YtcdnoklokoplaaaDoorW.PrintMore
attribute [local go_sem] max2_int min2_int max_two min_two max_three min_three max_four min_four   -- for this text's walks alone
set_option linter.unusedVariables false
set_option linter.unusedSimpArgs false

/-! ### soft_fraction_flags: function 118 -/
def soft_fraction_flags.f (k : Nat) (a0_0 : Bool) (l0_1 : List Int) (l0_2 : List Int) (a0_3 : Int) (a1 : Int) : Option (Int) := (ieee_Decode.f a1).bind fun bt361 => (if bt361.2.1 = 3 then (some 20) else ((nat_FromUint.f bt361.2.2.1).bind fun t366 => ((nat_Mul.f k l0_2 t366).bind fun bt369 => ((soft_aligned.f k l0_1 a0_3 bt369.1 bt361.2.2.2).bind fun bt373 => ((nat_Cmp.f k bt373.1 bt373.2.1).bind fun t380 => (if t380 = 0 then (some 0) else ((soft_aligned.f k l0_1 a0_3 l0_2 (-1022)).bind fun bt381 => ((nat_Cmp.f k bt381.1 bt381.2.1).bind fun t388 => (if t388 < 0 then (some 24) else (some 16))))))))))
theorem soft_fraction_flags.mono : ∀ a0 a1 a2 a3 a4 k, LeO (soft_fraction_flags.f k a0 a1 a2 a3 a4) (soft_fraction_flags.f (k + 1) a0 a1 a2 a3 a4) := by
 intro a0 a1 a2 a3 a4 k
 unfold soft_fraction_flags.f
 repeat' first
   | (with_reducible exact nat_Cmp.mono _ _ _)
   | (with_reducible exact nat_Mul.mono _ _ _)
   | (with_reducible exact soft_aligned.mono _ _ _ _ _)
   | (with_reducible exact LeO.refl _)
   | (with_reducible exact LeO.none _)
   | (with_reducible refine LeO.ite ?_ ?_)
   | (with_reducible refine LeO.bind ?_ (fun _ => ?_))
   | exact nat_Cmp.mono _ _ _
   | exact nat_Mul.mono _ _ _
   | exact soft_aligned.mono _ _ _ _ _
   | exact LeO.none _
   | refine LeO.ite ?_ ?_
   | refine LeO.bind ?_ (fun _ => ?_)
def soft_fraction_flags.T4 : Bool × List (List Nat × List Nat) := (true, [([], []), ([0], [0]), ([], []), ([2], [2]), ([3], [3]), ([1, 4, 4], [1, 4]), ([5], [5]), ([6], [6]), ([6], [6]), ([7, 5, 0, 1, 2, 3, 4, 5, 6, 7], [7]), ([8, 9, 0, 1, 2, 3, 4, 5, 6, 7, 8, 9], [8])])
def soft_fraction_flags.B4 : List Nat := [0, 1, 0, 4, 12, 31, 63, 127, 127, 255, 1023]
theorem soft_fraction_flags.tab4 : rtab .any (opsOf Tryd.f118 4) = soft_fraction_flags.T4 := by kernel_rfl
theorem soft_fraction_flags.bits4 : waitsOk soft_fraction_flags.T4.2 soft_fraction_flags.B4 = true := by kernel_rfl
set_option maxHeartbeats 8000000 in
set_option maxRecDepth 100000 in
theorem soft_fraction_flags.calls (k : Nat) (a0_0 : Bool) (A0_1 : Option Addr) (c0_1 : Nat) (l0_1 : List Int) (A0_2 : Option Addr) (c0_2 : Nat) (l0_2 : List Int) (a0_3 : Int) (a1 : Int) (r : Int) (w : World) (hr0_1 : Kd.C (Kd.int .u64) w A0_1 l0_1.length l0_1) (hc0_1 : l0_1.length ≤ c0_1) (hr0_2 : Kd.C (Kd.int .u64) w A0_2 l0_2.length l0_2) (hc0_2 : l0_2.length ≤ c0_2) (h : soft_fraction_flags.f k a0_0 l0_1 l0_2 a0_3 a1 = some r) :
  Calls Tryd.prog 118 #[.agg #[.bool a0_0, .slice A0_1 l0_1.length c0_1, .slice A0_2 l0_2.length c0_2, .int .i64 a0_3], .int .u64 a1] w fun e w' => e = .returned (.int .i64 r) ∧ Below w.heap.size w w' := by
 have hu102 := Tryd.underlying102
 have hu39 := Tryd.underlying39
 have HR0_1 := Aside0.mk hr0_1
 have HC0_1 := Aside0.mk hc0_1
 clear hr0_1 hc0_1
 have HR0_2 := Aside0.mk hr0_2
 have HC0_2 := Aside0.mk hc0_2
 clear hr0_2 hc0_2
 have HB := Aside0.mk (Below.refl w.heap.size w)
 have H : ((ieee_Decode.f a1).bind fun bt361 => (if bt361.2.1 = 3 then (some 20) else ((nat_FromUint.f bt361.2.2.1).bind fun t366 => ((nat_Mul.f k l0_2 t366).bind fun bt369 => ((soft_aligned.f k l0_1 a0_3 bt369.1 bt361.2.2.2).bind fun bt373 => ((nat_Cmp.f k bt373.1 bt373.2.1).bind fun t380 => (if t380 = 0 then (some 0) else ((soft_aligned.f k l0_1 a0_3 l0_2 (-1022)).bind fun bt381 => ((nat_Cmp.f k bt381.1 bt381.2.1).bind fun t388 => (if t388 < 0 then (some 24) else (some 16))))))))))) = some r := h
 clear h
 obtain ⟨⟨t361, t362, t363, t364⟩, A30, H⟩ := Option.bind_eq_some_iff.mp H
 dsimp only at H
 have A3 := Aside0.mk A30
 clear A30
 by_cases c4 : t362 = 3
 ·rw [if_pos c4] at H
  have c4b0 : (t362 == 3) = true := beq_iff_eq.mpr c4
  have c4b1 : (t362 != 3) = false := bne_eq_false_iff_eq.mpr c4
  clear c4
  obtain rfl := Option.some.inj H
  go_enter Tryd.func118, Tryd.ntmps118
  go_wp2_with (first | ((with_reducible refine gate_dst (N := 2) rfl ?_); refine box_event ?hg (N := 2) ?hd (cs := #[.bool a0_0, .slice A0_1 l0_1.length c0_1, .slice A0_2 l0_2.length c0_2, .int .i64 a0_3]) (t := 102) ?hr ?_; (case hd => rfl); (case hg => rfl); (case hr => first | (go_simp; done) | (go_simp; rfl)); intro gb360 hg w5 hbox hb; have BK360 := Aside0.mk (hbox); have GW360 := Aside0.mk ((by rw [hg]; exact (below_size (bS HB.out)) : w.heap.size ≤ gb360)); have GE360 := Aside0.mk ((by rw [hg]; exact (below_size (bS HB.out)) : w.heap.size ≤ gb360)); replace HB := hB HB hb; clear hb hbox hg) | ((with_reducible refine gate_callee (f := 29) rfl ?_); refine goesL_ (some 12) rfl rfl Tryd.func29 (by kernel_rfl) rfl #[.int .u64 a1] rfl (by (try simp only [List.map_toArray, List.map_cons, List.map_nil]); first | done | rfl) ?_; (with_reducible refine (ieee_Decode.calls a1 t361 t362 t363 t364 _ A3.out).mono ?_); rintro e w6 ⟨rfl, hb⟩; refine ⟨_, rfl, ?_⟩; replace BK360 := bkB BK360 hb; replace HB := Aside0.mk (below_step (bG1 HB.out GE360.out) hb); (try clear hb); (try clear hb2); (try clear hk); (try clear hi)) | ((with_reducible refine gate_dst (N := 5) rfl ?_); refine box_event ?hg (N := 5) ?hd (cs := #[.bool false, .int .i64 0, .int .u64 0, .int .i64 0]) (t := 39) ?hr ?_; (case hd => rfl); (case hg => rfl); (case hr => first | (go_simp; done) | (go_simp; rfl)); intro gb365 hg w7 hbox hb; have BK365 := Aside0.mk (hbox); have GW365 := Aside0.mk ((by rw [hg]; exact (below_size (bG1 HB.out GE360.out)) : w.heap.size ≤ gb365)); have GE365 := Aside0.mk ((by rw [hg]; exact (below_size (bG1 HB.out GE360.out)) : w.heap.size ≤ gb365)); replace HB := Aside0.mk (below_step (bG1 HB.out GE360.out) hb); have NB360_365 := Aside0.mk ((by rw [hg]; exact Nat.ne_of_lt (blk_lt (g := gb360) (o := .cells #[.bool a0_0, .slice A0_1 l0_1.length c0_1, .slice A0_2 l0_2.length c0_2, .int .i64 a0_3] 102 (0, 0)) (by exact bkS BK360.out)) : gb360 ≠ gb365)); have NB365_360 := Aside0.mk ((by rw [hg]; exact Nat.ne_of_gt (blk_lt (g := gb360) (o := .cells #[.bool a0_0, .slice A0_1 l0_1.length c0_1, .slice A0_2 l0_2.length c0_2, .int .i64 a0_3] 102 (0, 0)) (by exact bkS BK360.out)) : gb365 ≠ gb360)); replace BK360 := bkB BK360 hb; clear hb hbox hg; have hnb8 := NB365_360.out; have hnc8 := NB360_365.out; have hcz9_0 : w7.cell? ⟨gb365, 0, none⟩ = some (.bool false) := (blk_cell BK365.out 0).trans rfl; have hcz9_1 : w7.cell? ⟨gb365, 1, none⟩ = some (.int .i64 0) := (blk_cell BK365.out 1).trans rfl; have hcz9_2 : w7.cell? ⟨gb365, 2, none⟩ = some (.int .u64 0) := (blk_cell BK365.out 2).trans rfl; have hcz9_3 : w7.cell? ⟨gb365, 3, none⟩ = some (.int .i64 0) := (blk_cell BK365.out 3).trans rfl; have hfz9_0 := blk_frozen BK365.out 0; have hfz9_1 := blk_frozen BK365.out 1; have hfz9_2 := blk_frozen BK365.out 2; have hfz9_3 := blk_frozen BK365.out 3))
  go_ret
  exact ⟨by first | rfl | (simp [errW_none, errW_some] <;> rfl) | (simp [*, errW_none, errW_some] <;> rfl), bG2 HB.out GE360.out GE365.out⟩
 ·rw [if_neg c4] at H
  have c4b0 : (t362 == 3) = false := beq_eq_false_iff_ne.mpr c4
  have c4b1 : (t362 != 3) = true := bne_iff_ne.mpr c4
  obtain ⟨t366, A100, H⟩ := Option.bind_eq_some_iff.mp H
  have A10 := Aside0.mk A100
  clear A100
  obtain ⟨⟨t369, t372⟩, A110, H⟩ := Option.bind_eq_some_iff.mp H
  dsimp only at H
  have A11 := Aside0.mk A110
  clear A110
  obtain ⟨⟨t373, t376, t379⟩, A120, H⟩ := Option.bind_eq_some_iff.mp H
  dsimp only at H
  have A12 := Aside0.mk A120
  clear A120
  obtain ⟨t380, A130, H⟩ := Option.bind_eq_some_iff.mp H
  have A13 := Aside0.mk A130
  clear A130
  by_cases c14 : t380 = 0
  ·rw [if_pos c14] at H
   have c14b0 : (t380 == 0) = true := beq_iff_eq.mpr c14
   have c14b1 : (t380 != 0) = false := bne_eq_false_iff_eq.mpr c14
   clear c14
   obtain rfl := Option.some.inj H
   go_enter Tryd.func118, Tryd.ntmps118
   try go_wp2_with (first | ((with_reducible refine gate_dst (N := 2) rfl ?_); refine box_event ?hg (N := 2) ?hd (cs := #[.bool a0_0, .slice A0_1 l0_1.length c0_1, .slice A0_2 l0_2.length c0_2, .int .i64 a0_3]) (t := 102) ?hr ?_; (case hd => rfl); (case hg => rfl); (case hr => first | (go_simp; done) | (go_simp; rfl)); intro gb360 hg w15 hbox hb; have BK360 := Aside0.mk (hbox); have GW360 := Aside0.mk ((by rw [hg]; exact (below_size (bS HB.out)) : w.heap.size ≤ gb360)); have GE360 := Aside0.mk ((by rw [hg]; exact (below_size (bS HB.out)) : w.heap.size ≤ gb360)); replace HB := hB HB hb; clear hb hbox hg) | ((with_reducible refine gate_callee (f := 29) rfl ?_); refine goesL_ (some 12) rfl rfl Tryd.func29 (by kernel_rfl) rfl #[.int .u64 a1] rfl (by (try simp only [List.map_toArray, List.map_cons, List.map_nil]); first | done | rfl) ?_; (with_reducible refine (ieee_Decode.calls a1 t361 t362 t363 t364 _ A3.out).mono ?_); rintro e w16 ⟨rfl, hb⟩; refine ⟨_, rfl, ?_⟩; replace BK360 := bkB BK360 hb; replace HB := Aside0.mk (below_step (bG1 HB.out GE360.out) hb); (try clear hb); (try clear hb2); (try clear hk); (try clear hi)) | ((with_reducible refine gate_dst (N := 5) rfl ?_); refine box_event ?hg (N := 5) ?hd (cs := #[.bool false, .int .i64 0, .int .u64 0, .int .i64 0]) (t := 39) ?hr ?_; (case hd => rfl); (case hg => rfl); (case hr => first | (go_simp; done) | (go_simp; rfl)); intro gb365 hg w17 hbox hb; have BK365 := Aside0.mk (hbox); have GW365 := Aside0.mk ((by rw [hg]; exact (below_size (bG1 HB.out GE360.out)) : w.heap.size ≤ gb365)); have GE365 := Aside0.mk ((by rw [hg]; exact (below_size (bG1 HB.out GE360.out)) : w.heap.size ≤ gb365)); replace HB := Aside0.mk (below_step (bG1 HB.out GE360.out) hb); have NB360_365 := Aside0.mk ((by rw [hg]; exact Nat.ne_of_lt (blk_lt (g := gb360) (o := .cells #[.bool a0_0, .slice A0_1 l0_1.length c0_1, .slice A0_2 l0_2.length c0_2, .int .i64 a0_3] 102 (0, 0)) (by exact bkS BK360.out)) : gb360 ≠ gb365)); have NB365_360 := Aside0.mk ((by rw [hg]; exact Nat.ne_of_gt (blk_lt (g := gb360) (o := .cells #[.bool a0_0, .slice A0_1 l0_1.length c0_1, .slice A0_2 l0_2.length c0_2, .int .i64 a0_3] 102 (0, 0)) (by exact bkS BK360.out)) : gb365 ≠ gb360)); replace BK360 := bkB BK360 hb; clear hb hbox hg; have hnb18 := NB365_360.out; have hnc18 := NB360_365.out; have hcz19_0 : w17.cell? ⟨gb365, 0, none⟩ = some (.bool false) := (blk_cell BK365.out 0).trans rfl; have hcz19_1 : w17.cell? ⟨gb365, 1, none⟩ = some (.int .i64 0) := (blk_cell BK365.out 1).trans rfl; have hcz19_2 : w17.cell? ⟨gb365, 2, none⟩ = some (.int .u64 0) := (blk_cell BK365.out 2).trans rfl; have hcz19_3 : w17.cell? ⟨gb365, 3, none⟩ = some (.int .i64 0) := (blk_cell BK365.out 3).trans rfl; have hfz19_0 := blk_frozen BK365.out 0; have hfz19_1 := blk_frozen BK365.out 1; have hfz19_2 := blk_frozen BK365.out 2; have hfz19_3 := blk_frozen BK365.out 3))
   have n0_ : Aside0 (((((w17.setCell ⟨gb365, 0, none⟩ (.bool t361)).setCell ⟨gb365, 1, none⟩ (.int .i64 t362)).setCell ⟨gb365, 2, none⟩ (.int .u64 t363)).setCell ⟨gb365, 3, none⟩ (.int .i64 t364)).heap[gb360]? = some (.cells #[.bool a0_0, .slice A0_1 l0_1.length c0_1, .slice A0_2 l0_2.length c0_2, .int .i64 a0_3] 102 (0, 0))) := ⟨by refine blkF ?_ NB360_365.out _; refine blkF ?_ NB360_365.out _; refine blkF ?_ NB360_365.out _; refine blkF ?_ NB360_365.out _; exact bkS BK360.out⟩
   have n1_ : Aside0 (((((w17.setCell ⟨gb365, 0, none⟩ (.bool t361)).setCell ⟨gb365, 1, none⟩ (.int .i64 t362)).setCell ⟨gb365, 2, none⟩ (.int .u64 t363)).setCell ⟨gb365, 3, none⟩ (.int .i64 t364)).heap[gb365]? = some (.cells #[.bool t361, .int .i64 t362, .int .u64 t363, .int .i64 t364] 39 (0, 0))) := ⟨by refine blkP (cs := #[.bool t361, .int .i64 t362, .int .u64 t363, .int .i64 0]) ?_ 3 _ rfl; refine blkP (cs := #[.bool t361, .int .i64 t362, .int .u64 0, .int .i64 0]) ?_ 2 _ rfl; refine blkP (cs := #[.bool t361, .int .i64 0, .int .u64 0, .int .i64 0]) ?_ 1 _ rfl; refine blkP (cs := #[.bool false, .int .i64 0, .int .u64 0, .int .i64 0]) ?_ 0 _ rfl; exact bkS BK365.out⟩
   have n2_ : Aside0 (Below w.heap.size w ((((w17.setCell ⟨gb365, 0, none⟩ (.bool t361)).setCell ⟨gb365, 1, none⟩ (.int .i64 t362)).setCell ⟨gb365, 2, none⟩ (.int .u64 t363)).setCell ⟨gb365, 3, none⟩ (.int .i64 t364))) := ⟨bG2 HB.out GE360.out GE365.out⟩
   (try clear BK360)
   (try clear BK365)
   (try clear HB)
   generalize ((((w17.setCell ⟨gb365, 0, none⟩ (.bool t361)).setCell ⟨gb365, 1, none⟩ (.int .i64 t362)).setCell ⟨gb365, 2, none⟩ (.int .u64 t363)).setCell ⟨gb365, 3, none⟩ (.int .i64 t364)) = w20 at n0_ n1_ n2_ ⊢
   have BK360 := n0_
   have BK365 := n1_
   have HB := n2_
   clear n0_ n1_ n2_
   replace BK360 := Aside0.mk (blk_drew BK360.out)
   replace BK365 := Aside0.mk (blk_drew BK365.out)
   replace HB := Aside0.mk (below_drew1 HB.out)
   refine start_ (n := 11) (S := fun w' => w'.cell? ⟨gb360, 0, none⟩ = some (.bool a0_0) ∧ w'.cell? ⟨gb360, 1, none⟩ = some (.slice A0_1 l0_1.length c0_1) ∧ w'.cell? ⟨gb360, 2, none⟩ = some (.slice A0_2 l0_2.length c0_2) ∧ w'.cell? ⟨gb360, 3, none⟩ = some (.int .i64 a0_3) ∧ w'.cell? ⟨gb365, 0, none⟩ = some (.bool t361) ∧ w'.cell? ⟨gb365, 1, none⟩ = some (.int .i64 t362) ∧ w'.cell? ⟨gb365, 2, none⟩ = some (.int .u64 t363) ∧ w'.cell? ⟨gb365, 3, none⟩ = some (.int .i64 t364)) (ds := []) #[false, false, false, false, false, false, false, false, false, false, false] (by kernel_rfl) rfl rfl ⟨(blk_cell BK360.out 0).trans rfl, (blk_cell BK360.out 1).trans rfl, (blk_cell BK360.out 2).trans rfl, (blk_cell BK360.out 3).trans rfl, (blk_cell BK365.out 0).trans rfl, (blk_cell BK365.out 1).trans rfl, (blk_cell BK365.out 2).trans rfl, (blk_cell BK365.out 3).trans rfl⟩ (fun hHeld => ?_); refine with_tabW soft_fraction_flags.tab4 soft_fraction_flags.bits4 (fun HT_ HW_ => ?_)
   generalize w20.drew = w21 at BK360 BK365 HB hHeld ⊢
   refine pure_ (i := 0) (N := some 17) (v := ?_) (a' := ?_) #[true, false, false, false, false, false, false, false, false, false, false] rfl rfl (any_of HT_.out (by kernel_rfl)) (fun _ _ _ h => h) (Or.inl ⟨by rfl, ?_⟩) ?_ ?_
   rotate_left
   ·intro w'
    go_simp
    with_reducible rfl
   rotate_left
   ·simp only [Act.put, List.setIfInBounds_toArray, List.set_cons_zero, List.set_cons_succ, i64_w, i32_w]
    rfl
   refine pure_ (i := 2) (N := some 19) (v := ?_) (a' := ?_) #[true, false, true, false, false, false, false, false, false, false, false] rfl rfl (any_of HT_.out (by kernel_rfl)) (fun _ _ _ h => h) (Or.inl ⟨by rfl, ?_⟩) ?_ ?_
   rotate_left
   ·intro w'
    go_simp
    with_reducible rfl
   rotate_left
   ·simp only [Act.put, List.setIfInBounds_toArray, List.set_cons_zero, List.set_cons_succ, i64_w, i32_w]
    rfl
   refine take_ (i := 1) (N := some 18) (v := ?_) (a' := ?_) #[true, true, true, false, false, false, false, false, false, false, false] rfl rfl (take_ofW HT_.out HW_.out (by kernel_rfl)) (fun _ _ _ h => h) (Or.inl ⟨by rfl, ?_⟩) hHeld ?_ ?_
   rotate_left
   ·rintro w' ⟨s0, s1, s2, s3, s4, s5, s6, s7⟩
    go_simp
    with_reducible rfl
   rotate_left
   ·simp only [Act.put, List.setIfInBounds_toArray, List.set_cons_zero, List.set_cons_succ, i64_w, i32_w]
    rfl
   refine take_ (i := 3) (N := some 20) (v := ?_) (a' := ?_) #[true, true, true, true, false, false, false, false, false, false, false] rfl rfl (take_ofW HT_.out HW_.out (by kernel_rfl)) (fun _ _ _ h => h) (Or.inl ⟨by rfl, ?_⟩) hHeld ?_ ?_
   rotate_left
   ·rintro w' ⟨s0, s1, s2, s3, s4, s5, s6, s7⟩
    go_simp
    with_reducible rfl
   rotate_left
   ·simp only [Act.put, List.setIfInBounds_toArray, List.set_cons_zero, List.set_cons_succ, i64_w, i32_w]
    rfl
   refine one_ (i := 4) (N := some 21) #[true, true, true, true, true, false, false, false, false, false, false] rfl rfl (one_of HT_.out (by kernel_rfl)) (by decide) (fun K hK => ?_)
   refine goes_ Tryd.func50 (by kernel_rfl) rfl #[.int .u64 t363] (by rfl) rfl rfl (by (try simp only [List.map_toArray, List.map_cons, List.map_nil]); first | done | rfl) ?_
   with_reducible refine (nat_FromUint.calls t363 t366 _ A10.out).mono ?_
   rintro e w22 ⟨v367, rfl, ho0, hb⟩
   refine ⟨_, rfl, ?_⟩
   have HO368 := Aside0.mk (Kd.R_lower ho0 (below_size (bG2 HB.out GE360.out GE365.out)))
   replace BK360 := bkB BK360 hb
   replace BK365 := bkB BK365 hb
   replace HB := Aside0.mk (below_step (bG2 HB.out GE360.out GE365.out) hb)
   (try clear hb)
   (try clear hb2)
   (try clear hk)
   (try clear hi)
   (try clear ho0)
   obtain ⟨Ao23, co23, eo23⟩ := Kd.R_slice HO368.out
   (first | subst eo23 | (injection eo23 with f1_ f2_ f3_; have f4_ := f1_.symm; have f5_ := f3_.symm; clear f1_ f2_ f3_; subst f4_; subst f5_))
   refine hK.out _ _ ⟨(blk_cell BK360.out 0).trans rfl, (blk_cell BK360.out 1).trans rfl, (blk_cell BK360.out 2).trans rfl, (blk_cell BK360.out 3).trans rfl, (blk_cell BK365.out 0).trans rfl, (blk_cell BK365.out 1).trans rfl, (blk_cell BK365.out 2).trans rfl, (blk_cell BK365.out 3).trans rfl⟩ (fun hHeld => ?_)
   clear hK K
   refine norm_ (a' := ?_) ?_ ?_
   rotate_left
   ·show Act.put _ (some 21) _ = _
    simp only [Act.put, List.setIfInBounds_toArray, List.set_cons_zero, List.set_cons_succ, i64_w, i32_w]
    rfl
   refine one_ (i := 5) (N := some 22) #[true, true, true, true, true, true, false, false, false, false, false] rfl rfl (one_of HT_.out (by kernel_rfl)) (by decide) (fun K hK => ?_)
   refine goes_ Tryd.func49 (by kernel_rfl) rfl #[.slice A0_2 l0_2.length c0_2, .slice Ao23 t366.length co23] (by rfl) rfl rfl (by (try simp only [List.map_toArray, List.map_cons, List.map_nil]); first | done | rfl) ?_
   with_reducible refine (nat_Mul.calls k _ _ l0_2 _ _ t366 t369 t372 _ ?side1 ?side2 ?side3 ?side4 A11.out).mono ?_
   (case side1 => exact cS (Kd.C_below HR0_2.out HB.out))
   (case side2 => exact HC0_2.out)
   (case side3 => exact cS (Kd.R_reads' HO368.out).2.2)
   (case side4 => exact (Kd.R_reads' HO368.out).2.1)
   rintro e w24 ⟨v370, rfl, ho0, hb⟩
   refine ⟨_, rfl, ?_⟩
   have HO371 := Aside0.mk (Kd.V_lower (Kd.V_mono (ok' := fun k_ => some k_ ≠ (.slice Ao23 t366.length co23 : Value).ownBlock ∧ k_ ≠ gb360 ∧ k_ ≠ gb365) ho0 (fun k_ hk_ => ⟨(Kd.fresh' (Kd.R_lt (rS <| HO368.out)) k_ hk_), (Kd.freshB (g := gb360) (o := .cells #[.bool a0_0, .slice A0_1 l0_1.length c0_1, .slice A0_2 l0_2.length c0_2, .int .i64 a0_3] 102 (0, 0)) (by exact bkS BK360.out) k_ hk_), (Kd.freshB (g := gb365) (o := .cells #[.bool t361, .int .i64 t362, .int .u64 t363, .int .i64 t364] 39 (0, 0)) (by exact bkS BK365.out) k_ hk_)⟩)) (below_size (bG2 HB.out GE360.out GE365.out)))
   replace HO368 := Aside0.mk (Kd.R_below (rS <| HO368.out) hb)
   replace BK360 := bkB BK360 hb
   replace BK365 := bkB BK365 hb
   replace HB := Aside0.mk (below_step (bG2 HB.out GE360.out GE365.out) hb)
   (try clear hb)
   (try clear hb2)
   (try clear hk)
   (try clear hi)
   (try clear ho0)
   refine hK.out _ _ ⟨(blk_cell BK360.out 0).trans rfl, (blk_cell BK360.out 1).trans rfl, (blk_cell BK360.out 2).trans rfl, (blk_cell BK360.out 3).trans rfl, (blk_cell BK365.out 0).trans rfl, (blk_cell BK365.out 1).trans rfl, (blk_cell BK365.out 2).trans rfl, (blk_cell BK365.out 3).trans rfl⟩ (fun hHeld => ?_)
   clear hK K
   refine norm_ (a' := ?_) ?_ ?_
   rotate_left
   ·show Act.put _ (some 22) _ = _
    simp only [Act.put, List.setIfInBounds_toArray, List.set_cons_zero, List.set_cons_succ, i64_w, i32_w]
    rfl
   refine pure_ (i := 6) (N := some 16) (v := ?_) (a' := ?_) #[true, true, true, true, true, true, true, false, false, false, false] rfl rfl (any_of HT_.out (by kernel_rfl)) (fun _ _ _ h => h) (Or.inl ⟨by rfl, ?_⟩) ?_ ?_
   rotate_left
   ·intro w'
    go_simp
    with_reducible rfl
   rotate_left
   ·simp only [Act.put, List.setIfInBounds_toArray, List.set_cons_zero, List.set_cons_succ, i64_w, i32_w]
    rfl
   refine pure_ (i := 7) (N := some 23) (v := ?_) (a' := ?_) #[true, true, true, true, true, true, true, true, false, false, false] rfl rfl (any_of HT_.out (by kernel_rfl)) (fun _ _ _ h => h) (Or.inl ⟨by rfl, ?_⟩) ?_ ?_
   rotate_left
   ·intro w'
    go_simp
    with_reducible rfl
   rotate_left
   ·simp only [Act.put, List.setIfInBounds_toArray, List.set_cons_zero, List.set_cons_succ, i64_w, i32_w]
    rfl
   refine pure_ (i := 8) (N := some 24) (v := ?_) (a' := ?_) #[true, true, true, true, true, true, true, true, true, false, false] rfl rfl (any_of HT_.out (by kernel_rfl)) (fun _ _ _ h => h) (Or.inl ⟨by rfl, ?_⟩) ?_ ?_
   rotate_left
   ·intro w'
    go_simp
    with_reducible rfl
   rotate_left
   ·simp only [Act.put, List.setIfInBounds_toArray, List.set_cons_zero, List.set_cons_succ, i64_w, i32_w]
    rfl
   refine pure_ (i := 9) (N := some 6) (v := ?_) (a' := ?_) #[true, true, true, true, true, true, true, true, true, true, false] rfl rfl (any_of HT_.out (by kernel_rfl)) (fun _ _ _ h => h) (Or.inl ⟨by rfl, ?_⟩) ?_ ?_
   rotate_left
   ·intro w'
    go_simp
    with_reducible rfl
   rotate_left
   ·simp only [Act.put, List.setIfInBounds_toArray, List.set_cons_zero, List.set_cons_succ, i64_w, i32_w]
    rfl
   refine pure_ (i := 10) (N := some 7) (v := ?_) (a' := ?_) #[true, true, true, true, true, true, true, true, true, true, true] rfl rfl (any_of HT_.out (by kernel_rfl)) (fun _ _ _ h => h) (Or.inl ⟨by rfl, ?_⟩) ?_ ?_
   rotate_left
   ·intro w'
    go_simp
    with_reducible rfl
   rotate_left
   ·simp only [Act.put, List.setIfInBounds_toArray, List.set_cons_zero, List.set_cons_succ, i64_w, i32_w]
    rfl
   refine done_ (done_of HT_.out (by kernel_rfl)) ?_
   have hcz25_0 : w24.cell? ⟨gb360, 0, none⟩ = some (.bool a0_0) := (blk_cell BK360.out 0).trans rfl
   have hcz25_1 : w24.cell? ⟨gb360, 1, none⟩ = some (.slice A0_1 l0_1.length c0_1) := (blk_cell BK360.out 1).trans rfl
   have hcz25_2 : w24.cell? ⟨gb360, 2, none⟩ = some (.slice A0_2 l0_2.length c0_2) := (blk_cell BK360.out 2).trans rfl
   have hcz25_3 : w24.cell? ⟨gb360, 3, none⟩ = some (.int .i64 a0_3) := (blk_cell BK360.out 3).trans rfl
   have hfz25_0 := blk_frozen BK360.out 0
   have hfz25_1 := blk_frozen BK360.out 1
   have hfz25_2 := blk_frozen BK360.out 2
   have hfz25_3 := blk_frozen BK360.out 3
   have hcz26_0 : w24.cell? ⟨gb365, 0, none⟩ = some (.bool t361) := (blk_cell BK365.out 0).trans rfl
   have hcz26_1 : w24.cell? ⟨gb365, 1, none⟩ = some (.int .i64 t362) := (blk_cell BK365.out 1).trans rfl
   have hcz26_2 : w24.cell? ⟨gb365, 2, none⟩ = some (.int .u64 t363) := (blk_cell BK365.out 2).trans rfl
   have hcz26_3 : w24.cell? ⟨gb365, 3, none⟩ = some (.int .i64 t364) := (blk_cell BK365.out 3).trans rfl
   have hfz26_0 := blk_frozen BK365.out 0
   have hfz26_1 := blk_frozen BK365.out 1
   have hfz26_2 := blk_frozen BK365.out 2
   have hfz26_3 := blk_frozen BK365.out 3
   obtain ⟨Ao27, co27, eo27⟩ := Kd.V_slice HO371.out
   subst eo27
   try go_wp2_with (first | ((with_reducible refine gate_callee (f := 119) rfl ?_); refine goesL_ (some 33) rfl rfl Tryd.func119 (by kernel_rfl) rfl #[.slice A0_1 l0_1.length c0_1, .int .i64 a0_3, .slice Ao27 t369.length co27, .int .i64 t364] rfl (by (try simp only [List.map_toArray, List.map_cons, List.map_nil]); first | done | rfl) ?_; (with_reducible refine (soft_aligned.calls k (fun k_ => k_ < w.heap.size) _ _ l0_1 a0_3 (fun k_ => (some k_ ≠ (.slice Ao23 t366.length co23 : Value).ownBlock ∧ (k_ ≠ gb360 ∧ k_ ≠ gb365))) _ _ t369 t364 t373 t376 t379 _ ?side1 ?side2 A12.out).mono ?_); (case side1 => exact Kd.V_mk HC0_1.out (Kd.F_below (Kd.C_F (Kd.heap_int .u64) HR0_1.out) (bG2 HB.out GE360.out GE365.out))); (case side2 => exact HO371.out); rintro e w28 ⟨v374, v377, rfl, ho0, ho1, hb⟩; refine ⟨_, rfl, ?_⟩; replace HO371 := vB HO371 hb; have HO375 := Aside0.mk (Kd.V_lower (Kd.V_mono (ok' := fun k_ => some k_ ≠ (.slice Ao23 t366.length co23 : Value).ownBlock ∧ k_ ≠ gb360 ∧ k_ ≠ gb365) ho0 (fun k_ hk_ => ⟨Or.elim hk_ (fun hs_ => Or.elim hs_ (fun hs_ => fun e_ => Nat.not_le.2 hs_ (Kd.R_base HO368.out k_ e_.symm)) (fun hs_ => hs_.1)) (fun hn_ => (Kd.fresh' (Kd.R_lt (rS <| HO368.out)) k_ hn_)), Or.elim hk_ (fun hs_ => Or.elim hs_ (fun hs_ => fun e_ => Nat.not_le.2 hs_ (by rw [e_]; exact GW360.out)) (fun hs_ => hs_.2.1)) (fun hn_ => (Kd.freshB (g := gb360) (o := .cells #[.bool a0_0, .slice A0_1 l0_1.length c0_1, .slice A0_2 l0_2.length c0_2, .int .i64 a0_3] 102 (0, 0)) (by exact bkS BK360.out) k_ hn_)), Or.elim hk_ (fun hs_ => Or.elim hs_ (fun hs_ => fun e_ => Nat.not_le.2 hs_ (by rw [e_]; exact GW365.out)) (fun hs_ => hs_.2.2)) (fun hn_ => (Kd.freshB (g := gb365) (o := .cells #[.bool t361, .int .i64 t362, .int .u64 t363, .int .i64 t364] 39 (0, 0)) (by exact bkS BK365.out) k_ hn_))⟩)) (below_size (bG2 HB.out GE360.out GE365.out))); have HO378 := Aside0.mk (Kd.V_lower (Kd.V_mono (ok' := fun k_ => some k_ ≠ (.slice Ao23 t366.length co23 : Value).ownBlock ∧ k_ ≠ gb360 ∧ k_ ≠ gb365) ho1 (fun k_ hk_ => ⟨Or.elim hk_ (fun hs_ => Or.elim hs_ (fun hs_ => fun e_ => Nat.not_le.2 hs_ (Kd.R_base HO368.out k_ e_.symm)) (fun hs_ => hs_.1)) (fun hn_ => (Kd.fresh' (Kd.R_lt (rS <| HO368.out)) k_ hn_)), Or.elim hk_ (fun hs_ => Or.elim hs_ (fun hs_ => fun e_ => Nat.not_le.2 hs_ (by rw [e_]; exact GW360.out)) (fun hs_ => hs_.2.1)) (fun hn_ => (Kd.freshB (g := gb360) (o := .cells #[.bool a0_0, .slice A0_1 l0_1.length c0_1, .slice A0_2 l0_2.length c0_2, .int .i64 a0_3] 102 (0, 0)) (by exact bkS BK360.out) k_ hn_)), Or.elim hk_ (fun hs_ => Or.elim hs_ (fun hs_ => fun e_ => Nat.not_le.2 hs_ (by rw [e_]; exact GW365.out)) (fun hs_ => hs_.2.2)) (fun hn_ => (Kd.freshB (g := gb365) (o := .cells #[.bool t361, .int .i64 t362, .int .u64 t363, .int .i64 t364] 39 (0, 0)) (by exact bkS BK365.out) k_ hn_))⟩)) (below_size (bG2 HB.out GE360.out GE365.out))); replace HO368 := Aside0.mk (Kd.R_below (rS <| HO368.out) hb); replace BK360 := bkB BK360 hb; replace BK365 := bkB BK365 hb; replace HB := Aside0.mk (below_step (bG2 HB.out GE360.out GE365.out) hb); (try clear hb); (try clear hb2); (try clear hk); (try clear hi); (try clear ho0); (try clear ho1); obtain ⟨Ao29, co29, eo29⟩ := Kd.V_slice HO375.out; subst eo29; obtain ⟨Ao30, co30, eo30⟩ := Kd.V_slice HO378.out; subst eo30) | ((with_reducible refine gate_callee (f := 18) rfl ?_); refine goesL_ (some 39) rfl rfl Tryd.func18 (by kernel_rfl) rfl #[.slice Ao29 t373.length co29, .slice Ao30 t376.length co30] rfl (by (try simp only [List.map_toArray, List.map_cons, List.map_nil]); first | done | rfl) ?_; (with_reducible refine (nat_Cmp.calls k _ _ t373 _ _ t376 t380 _ ?side1 ?side2 ?side3 ?side4 A13.out).mono ?_); (case side1 => exact cS (Kd.V_reads' HO375.out).2.2); (case side2 => exact (Kd.V_reads' HO375.out).2.1); (case side3 => exact cS (Kd.V_reads' HO378.out).2.2); (case side4 => exact (Kd.V_reads' HO378.out).2.1); rintro e w' ⟨rfl, ⟨nd, rfl⟩⟩; refine ⟨_, rfl, ?_⟩))
   go_ret
   exact ⟨by first | rfl | (simp [errW_none, errW_some] <;> rfl) | (simp [*, errW_none, errW_some] <;> rfl), bG2 HB.out GE360.out GE365.out⟩
  ·rw [if_neg c14] at H
   have c14b0 : (t380 == 0) = false := beq_eq_false_iff_ne.mpr c14
   have c14b1 : (t380 != 0) = true := bne_iff_ne.mpr c14
   obtain ⟨⟨t381, t384, t387⟩, A310, H⟩ := Option.bind_eq_some_iff.mp H
   dsimp only at H
   have A31 := Aside0.mk A310
   clear A310
   obtain ⟨t388, A320, H⟩ := Option.bind_eq_some_iff.mp H
   have A32 := Aside0.mk A320
   clear A320
   by_cases c33 : t388 < 0
   ·rw [if_pos c33] at H
    have c33b0 : decide (t388 < 0) = true := decide_eq_true c33
    clear c33
    obtain rfl := Option.some.inj H
    go_enter Tryd.func118, Tryd.ntmps118
    try go_wp2_with (first | ((with_reducible refine gate_dst (N := 2) rfl ?_); refine box_event ?hg (N := 2) ?hd (cs := #[.bool a0_0, .slice A0_1 l0_1.length c0_1, .slice A0_2 l0_2.length c0_2, .int .i64 a0_3]) (t := 102) ?hr ?_; (case hd => rfl); (case hg => rfl); (case hr => first | (go_simp; done) | (go_simp; rfl)); intro gb360 hg w34 hbox hb; have BK360 := Aside0.mk (hbox); have GW360 := Aside0.mk ((by rw [hg]; exact (below_size (bS HB.out)) : w.heap.size ≤ gb360)); have GE360 := Aside0.mk ((by rw [hg]; exact (below_size (bS HB.out)) : w.heap.size ≤ gb360)); replace HB := hB HB hb; clear hb hbox hg) | ((with_reducible refine gate_callee (f := 29) rfl ?_); refine goesL_ (some 12) rfl rfl Tryd.func29 (by kernel_rfl) rfl #[.int .u64 a1] rfl (by (try simp only [List.map_toArray, List.map_cons, List.map_nil]); first | done | rfl) ?_; (with_reducible refine (ieee_Decode.calls a1 t361 t362 t363 t364 _ A3.out).mono ?_); rintro e w35 ⟨rfl, hb⟩; refine ⟨_, rfl, ?_⟩; replace BK360 := bkB BK360 hb; replace HB := Aside0.mk (below_step (bG1 HB.out GE360.out) hb); (try clear hb); (try clear hb2); (try clear hk); (try clear hi)) | ((with_reducible refine gate_dst (N := 5) rfl ?_); refine box_event ?hg (N := 5) ?hd (cs := #[.bool false, .int .i64 0, .int .u64 0, .int .i64 0]) (t := 39) ?hr ?_; (case hd => rfl); (case hg => rfl); (case hr => first | (go_simp; done) | (go_simp; rfl)); intro gb365 hg w36 hbox hb; have BK365 := Aside0.mk (hbox); have GW365 := Aside0.mk ((by rw [hg]; exact (below_size (bG1 HB.out GE360.out)) : w.heap.size ≤ gb365)); have GE365 := Aside0.mk ((by rw [hg]; exact (below_size (bG1 HB.out GE360.out)) : w.heap.size ≤ gb365)); replace HB := Aside0.mk (below_step (bG1 HB.out GE360.out) hb); have NB360_365 := Aside0.mk ((by rw [hg]; exact Nat.ne_of_lt (blk_lt (g := gb360) (o := .cells #[.bool a0_0, .slice A0_1 l0_1.length c0_1, .slice A0_2 l0_2.length c0_2, .int .i64 a0_3] 102 (0, 0)) (by exact bkS BK360.out)) : gb360 ≠ gb365)); have NB365_360 := Aside0.mk ((by rw [hg]; exact Nat.ne_of_gt (blk_lt (g := gb360) (o := .cells #[.bool a0_0, .slice A0_1 l0_1.length c0_1, .slice A0_2 l0_2.length c0_2, .int .i64 a0_3] 102 (0, 0)) (by exact bkS BK360.out)) : gb365 ≠ gb360)); replace BK360 := bkB BK360 hb; clear hb hbox hg; have hnb37 := NB365_360.out; have hnc37 := NB360_365.out; have hcz38_0 : w36.cell? ⟨gb365, 0, none⟩ = some (.bool false) := (blk_cell BK365.out 0).trans rfl; have hcz38_1 : w36.cell? ⟨gb365, 1, none⟩ = some (.int .i64 0) := (blk_cell BK365.out 1).trans rfl; have hcz38_2 : w36.cell? ⟨gb365, 2, none⟩ = some (.int .u64 0) := (blk_cell BK365.out 2).trans rfl; have hcz38_3 : w36.cell? ⟨gb365, 3, none⟩ = some (.int .i64 0) := (blk_cell BK365.out 3).trans rfl; have hfz38_0 := blk_frozen BK365.out 0; have hfz38_1 := blk_frozen BK365.out 1; have hfz38_2 := blk_frozen BK365.out 2; have hfz38_3 := blk_frozen BK365.out 3))
    have n0_ : Aside0 (((((w36.setCell ⟨gb365, 0, none⟩ (.bool t361)).setCell ⟨gb365, 1, none⟩ (.int .i64 t362)).setCell ⟨gb365, 2, none⟩ (.int .u64 t363)).setCell ⟨gb365, 3, none⟩ (.int .i64 t364)).heap[gb360]? = some (.cells #[.bool a0_0, .slice A0_1 l0_1.length c0_1, .slice A0_2 l0_2.length c0_2, .int .i64 a0_3] 102 (0, 0))) := ⟨by refine blkF ?_ NB360_365.out _; refine blkF ?_ NB360_365.out _; refine blkF ?_ NB360_365.out _; refine blkF ?_ NB360_365.out _; exact bkS BK360.out⟩
    have n1_ : Aside0 (((((w36.setCell ⟨gb365, 0, none⟩ (.bool t361)).setCell ⟨gb365, 1, none⟩ (.int .i64 t362)).setCell ⟨gb365, 2, none⟩ (.int .u64 t363)).setCell ⟨gb365, 3, none⟩ (.int .i64 t364)).heap[gb365]? = some (.cells #[.bool t361, .int .i64 t362, .int .u64 t363, .int .i64 t364] 39 (0, 0))) := ⟨by refine blkP (cs := #[.bool t361, .int .i64 t362, .int .u64 t363, .int .i64 0]) ?_ 3 _ rfl; refine blkP (cs := #[.bool t361, .int .i64 t362, .int .u64 0, .int .i64 0]) ?_ 2 _ rfl; refine blkP (cs := #[.bool t361, .int .i64 0, .int .u64 0, .int .i64 0]) ?_ 1 _ rfl; refine blkP (cs := #[.bool false, .int .i64 0, .int .u64 0, .int .i64 0]) ?_ 0 _ rfl; exact bkS BK365.out⟩
    have n2_ : Aside0 (Below w.heap.size w ((((w36.setCell ⟨gb365, 0, none⟩ (.bool t361)).setCell ⟨gb365, 1, none⟩ (.int .i64 t362)).setCell ⟨gb365, 2, none⟩ (.int .u64 t363)).setCell ⟨gb365, 3, none⟩ (.int .i64 t364))) := ⟨bG2 HB.out GE360.out GE365.out⟩
    (try clear BK360)
    (try clear BK365)
    (try clear HB)
    generalize ((((w36.setCell ⟨gb365, 0, none⟩ (.bool t361)).setCell ⟨gb365, 1, none⟩ (.int .i64 t362)).setCell ⟨gb365, 2, none⟩ (.int .u64 t363)).setCell ⟨gb365, 3, none⟩ (.int .i64 t364)) = w39 at n0_ n1_ n2_ ⊢
    have BK360 := n0_
    have BK365 := n1_
    have HB := n2_
    clear n0_ n1_ n2_
    replace BK360 := Aside0.mk (blk_drew BK360.out)
    replace BK365 := Aside0.mk (blk_drew BK365.out)
    replace HB := Aside0.mk (below_drew1 HB.out)
    refine start_ (n := 11) (S := fun w' => w'.cell? ⟨gb360, 0, none⟩ = some (.bool a0_0) ∧ w'.cell? ⟨gb360, 1, none⟩ = some (.slice A0_1 l0_1.length c0_1) ∧ w'.cell? ⟨gb360, 2, none⟩ = some (.slice A0_2 l0_2.length c0_2) ∧ w'.cell? ⟨gb360, 3, none⟩ = some (.int .i64 a0_3) ∧ w'.cell? ⟨gb365, 0, none⟩ = some (.bool t361) ∧ w'.cell? ⟨gb365, 1, none⟩ = some (.int .i64 t362) ∧ w'.cell? ⟨gb365, 2, none⟩ = some (.int .u64 t363) ∧ w'.cell? ⟨gb365, 3, none⟩ = some (.int .i64 t364)) (ds := []) #[false, false, false, false, false, false, false, false, false, false, false] (by kernel_rfl) rfl rfl ⟨(blk_cell BK360.out 0).trans rfl, (blk_cell BK360.out 1).trans rfl, (blk_cell BK360.out 2).trans rfl, (blk_cell BK360.out 3).trans rfl, (blk_cell BK365.out 0).trans rfl, (blk_cell BK365.out 1).trans rfl, (blk_cell BK365.out 2).trans rfl, (blk_cell BK365.out 3).trans rfl⟩ (fun hHeld => ?_); refine with_tabW soft_fraction_flags.tab4 soft_fraction_flags.bits4 (fun HT_ HW_ => ?_)
    generalize w39.drew = w40 at BK360 BK365 HB hHeld ⊢
    refine pure_ (i := 0) (N := some 17) (v := ?_) (a' := ?_) #[true, false, false, false, false, false, false, false, false, false, false] rfl rfl (any_of HT_.out (by kernel_rfl)) (fun _ _ _ h => h) (Or.inl ⟨by rfl, ?_⟩) ?_ ?_
    rotate_left
    ·intro w'
     go_simp
     with_reducible rfl
    rotate_left
    ·simp only [Act.put, List.setIfInBounds_toArray, List.set_cons_zero, List.set_cons_succ, i64_w, i32_w]
     rfl
    refine pure_ (i := 2) (N := some 19) (v := ?_) (a' := ?_) #[true, false, true, false, false, false, false, false, false, false, false] rfl rfl (any_of HT_.out (by kernel_rfl)) (fun _ _ _ h => h) (Or.inl ⟨by rfl, ?_⟩) ?_ ?_
    rotate_left
    ·intro w'
     go_simp
     with_reducible rfl
    rotate_left
    ·simp only [Act.put, List.setIfInBounds_toArray, List.set_cons_zero, List.set_cons_succ, i64_w, i32_w]
     rfl
    refine take_ (i := 1) (N := some 18) (v := ?_) (a' := ?_) #[true, true, true, false, false, false, false, false, false, false, false] rfl rfl (take_ofW HT_.out HW_.out (by kernel_rfl)) (fun _ _ _ h => h) (Or.inl ⟨by rfl, ?_⟩) hHeld ?_ ?_
    rotate_left
    ·rintro w' ⟨s0, s1, s2, s3, s4, s5, s6, s7⟩
     go_simp
     with_reducible rfl
    rotate_left
    ·simp only [Act.put, List.setIfInBounds_toArray, List.set_cons_zero, List.set_cons_succ, i64_w, i32_w]
     rfl
    refine take_ (i := 3) (N := some 20) (v := ?_) (a' := ?_) #[true, true, true, true, false, false, false, false, false, false, false] rfl rfl (take_ofW HT_.out HW_.out (by kernel_rfl)) (fun _ _ _ h => h) (Or.inl ⟨by rfl, ?_⟩) hHeld ?_ ?_
    rotate_left
    ·rintro w' ⟨s0, s1, s2, s3, s4, s5, s6, s7⟩
     go_simp
     with_reducible rfl
    rotate_left
    ·simp only [Act.put, List.setIfInBounds_toArray, List.set_cons_zero, List.set_cons_succ, i64_w, i32_w]
     rfl
    refine one_ (i := 4) (N := some 21) #[true, true, true, true, true, false, false, false, false, false, false] rfl rfl (one_of HT_.out (by kernel_rfl)) (by decide) (fun K hK => ?_)
    refine goes_ Tryd.func50 (by kernel_rfl) rfl #[.int .u64 t363] (by rfl) rfl rfl (by (try simp only [List.map_toArray, List.map_cons, List.map_nil]); first | done | rfl) ?_
    with_reducible refine (nat_FromUint.calls t363 t366 _ A10.out).mono ?_
    rintro e w41 ⟨v367, rfl, ho0, hb⟩
    refine ⟨_, rfl, ?_⟩
    have HO368 := Aside0.mk (Kd.R_lower ho0 (below_size (bG2 HB.out GE360.out GE365.out)))
    replace BK360 := bkB BK360 hb
    replace BK365 := bkB BK365 hb
    replace HB := Aside0.mk (below_step (bG2 HB.out GE360.out GE365.out) hb)
    (try clear hb)
    (try clear hb2)
    (try clear hk)
    (try clear hi)
    (try clear ho0)
    obtain ⟨Ao42, co42, eo42⟩ := Kd.R_slice HO368.out
    (first | subst eo42 | (injection eo42 with f1_ f2_ f3_; have f4_ := f1_.symm; have f5_ := f3_.symm; clear f1_ f2_ f3_; subst f4_; subst f5_))
    refine hK.out _ _ ⟨(blk_cell BK360.out 0).trans rfl, (blk_cell BK360.out 1).trans rfl, (blk_cell BK360.out 2).trans rfl, (blk_cell BK360.out 3).trans rfl, (blk_cell BK365.out 0).trans rfl, (blk_cell BK365.out 1).trans rfl, (blk_cell BK365.out 2).trans rfl, (blk_cell BK365.out 3).trans rfl⟩ (fun hHeld => ?_)
    clear hK K
    refine norm_ (a' := ?_) ?_ ?_
    rotate_left
    ·show Act.put _ (some 21) _ = _
     simp only [Act.put, List.setIfInBounds_toArray, List.set_cons_zero, List.set_cons_succ, i64_w, i32_w]
     rfl
    refine one_ (i := 5) (N := some 22) #[true, true, true, true, true, true, false, false, false, false, false] rfl rfl (one_of HT_.out (by kernel_rfl)) (by decide) (fun K hK => ?_)
    refine goes_ Tryd.func49 (by kernel_rfl) rfl #[.slice A0_2 l0_2.length c0_2, .slice Ao42 t366.length co42] (by rfl) rfl rfl (by (try simp only [List.map_toArray, List.map_cons, List.map_nil]); first | done | rfl) ?_
    with_reducible refine (nat_Mul.calls k _ _ l0_2 _ _ t366 t369 t372 _ ?side1 ?side2 ?side3 ?side4 A11.out).mono ?_
    (case side1 => exact cS (Kd.C_below HR0_2.out HB.out))
    (case side2 => exact HC0_2.out)
    (case side3 => exact cS (Kd.R_reads' HO368.out).2.2)
    (case side4 => exact (Kd.R_reads' HO368.out).2.1)
    rintro e w43 ⟨v370, rfl, ho0, hb⟩
    refine ⟨_, rfl, ?_⟩
    have HO371 := Aside0.mk (Kd.V_lower (Kd.V_mono (ok' := fun k_ => some k_ ≠ (.slice Ao42 t366.length co42 : Value).ownBlock ∧ k_ ≠ gb360 ∧ k_ ≠ gb365) ho0 (fun k_ hk_ => ⟨(Kd.fresh' (Kd.R_lt (rS <| HO368.out)) k_ hk_), (Kd.freshB (g := gb360) (o := .cells #[.bool a0_0, .slice A0_1 l0_1.length c0_1, .slice A0_2 l0_2.length c0_2, .int .i64 a0_3] 102 (0, 0)) (by exact bkS BK360.out) k_ hk_), (Kd.freshB (g := gb365) (o := .cells #[.bool t361, .int .i64 t362, .int .u64 t363, .int .i64 t364] 39 (0, 0)) (by exact bkS BK365.out) k_ hk_)⟩)) (below_size (bG2 HB.out GE360.out GE365.out)))
    replace HO368 := Aside0.mk (Kd.R_below (rS <| HO368.out) hb)
    replace BK360 := bkB BK360 hb
    replace BK365 := bkB BK365 hb
    replace HB := Aside0.mk (below_step (bG2 HB.out GE360.out GE365.out) hb)
    (try clear hb)
    (try clear hb2)
    (try clear hk)
    (try clear hi)
    (try clear ho0)
    refine hK.out _ _ ⟨(blk_cell BK360.out 0).trans rfl, (blk_cell BK360.out 1).trans rfl, (blk_cell BK360.out 2).trans rfl, (blk_cell BK360.out 3).trans rfl, (blk_cell BK365.out 0).trans rfl, (blk_cell BK365.out 1).trans rfl, (blk_cell BK365.out 2).trans rfl, (blk_cell BK365.out 3).trans rfl⟩ (fun hHeld => ?_)
    clear hK K
    refine norm_ (a' := ?_) ?_ ?_
    rotate_left
    ·show Act.put _ (some 22) _ = _
     simp only [Act.put, List.setIfInBounds_toArray, List.set_cons_zero, List.set_cons_succ, i64_w, i32_w]
     rfl
    refine pure_ (i := 6) (N := some 16) (v := ?_) (a' := ?_) #[true, true, true, true, true, true, true, false, false, false, false] rfl rfl (any_of HT_.out (by kernel_rfl)) (fun _ _ _ h => h) (Or.inl ⟨by rfl, ?_⟩) ?_ ?_
    rotate_left
    ·intro w'
     go_simp
     with_reducible rfl
    rotate_left
    ·simp only [Act.put, List.setIfInBounds_toArray, List.set_cons_zero, List.set_cons_succ, i64_w, i32_w]
     rfl
    refine pure_ (i := 7) (N := some 23) (v := ?_) (a' := ?_) #[true, true, true, true, true, true, true, true, false, false, false] rfl rfl (any_of HT_.out (by kernel_rfl)) (fun _ _ _ h => h) (Or.inl ⟨by rfl, ?_⟩) ?_ ?_
    rotate_left
    ·intro w'
     go_simp
     with_reducible rfl
    rotate_left
    ·simp only [Act.put, List.setIfInBounds_toArray, List.set_cons_zero, List.set_cons_succ, i64_w, i32_w]
     rfl
    refine pure_ (i := 8) (N := some 24) (v := ?_) (a' := ?_) #[true, true, true, true, true, true, true, true, true, false, false] rfl rfl (any_of HT_.out (by kernel_rfl)) (fun _ _ _ h => h) (Or.inl ⟨by rfl, ?_⟩) ?_ ?_
    rotate_left
    ·intro w'
     go_simp
     with_reducible rfl
    rotate_left
    ·simp only [Act.put, List.setIfInBounds_toArray, List.set_cons_zero, List.set_cons_succ, i64_w, i32_w]
     rfl
    refine pure_ (i := 9) (N := some 6) (v := ?_) (a' := ?_) #[true, true, true, true, true, true, true, true, true, true, false] rfl rfl (any_of HT_.out (by kernel_rfl)) (fun _ _ _ h => h) (Or.inl ⟨by rfl, ?_⟩) ?_ ?_
    rotate_left
    ·intro w'
     go_simp
     with_reducible rfl
    rotate_left
    ·simp only [Act.put, List.setIfInBounds_toArray, List.set_cons_zero, List.set_cons_succ, i64_w, i32_w]
     rfl
    refine pure_ (i := 10) (N := some 7) (v := ?_) (a' := ?_) #[true, true, true, true, true, true, true, true, true, true, true] rfl rfl (any_of HT_.out (by kernel_rfl)) (fun _ _ _ h => h) (Or.inl ⟨by rfl, ?_⟩) ?_ ?_
    rotate_left
    ·intro w'
     go_simp
     with_reducible rfl
    rotate_left
    ·simp only [Act.put, List.setIfInBounds_toArray, List.set_cons_zero, List.set_cons_succ, i64_w, i32_w]
     rfl
    refine done_ (done_of HT_.out (by kernel_rfl)) ?_
    have hcz44_0 : w43.cell? ⟨gb360, 0, none⟩ = some (.bool a0_0) := (blk_cell BK360.out 0).trans rfl
    have hcz44_1 : w43.cell? ⟨gb360, 1, none⟩ = some (.slice A0_1 l0_1.length c0_1) := (blk_cell BK360.out 1).trans rfl
    have hcz44_2 : w43.cell? ⟨gb360, 2, none⟩ = some (.slice A0_2 l0_2.length c0_2) := (blk_cell BK360.out 2).trans rfl
    have hcz44_3 : w43.cell? ⟨gb360, 3, none⟩ = some (.int .i64 a0_3) := (blk_cell BK360.out 3).trans rfl
    have hfz44_0 := blk_frozen BK360.out 0
    have hfz44_1 := blk_frozen BK360.out 1
    have hfz44_2 := blk_frozen BK360.out 2
    have hfz44_3 := blk_frozen BK360.out 3
    have hcz45_0 : w43.cell? ⟨gb365, 0, none⟩ = some (.bool t361) := (blk_cell BK365.out 0).trans rfl
    have hcz45_1 : w43.cell? ⟨gb365, 1, none⟩ = some (.int .i64 t362) := (blk_cell BK365.out 1).trans rfl
    have hcz45_2 : w43.cell? ⟨gb365, 2, none⟩ = some (.int .u64 t363) := (blk_cell BK365.out 2).trans rfl
    have hcz45_3 : w43.cell? ⟨gb365, 3, none⟩ = some (.int .i64 t364) := (blk_cell BK365.out 3).trans rfl
    have hfz45_0 := blk_frozen BK365.out 0
    have hfz45_1 := blk_frozen BK365.out 1
    have hfz45_2 := blk_frozen BK365.out 2
    have hfz45_3 := blk_frozen BK365.out 3
    obtain ⟨Ao46, co46, eo46⟩ := Kd.V_slice HO371.out
    subst eo46
    try go_wp2_with (first | ((with_reducible refine gate_callee (f := 119) rfl ?_); refine goesL_ (some 33) rfl rfl Tryd.func119 (by kernel_rfl) rfl #[.slice A0_1 l0_1.length c0_1, .int .i64 a0_3, .slice Ao46 t369.length co46, .int .i64 t364] rfl (by (try simp only [List.map_toArray, List.map_cons, List.map_nil]); first | done | rfl) ?_; (with_reducible refine (soft_aligned.calls k (fun k_ => k_ < w.heap.size) _ _ l0_1 a0_3 (fun k_ => (some k_ ≠ (.slice Ao42 t366.length co42 : Value).ownBlock ∧ (k_ ≠ gb360 ∧ k_ ≠ gb365))) _ _ t369 t364 t373 t376 t379 _ ?side1 ?side2 A12.out).mono ?_); (case side1 => exact Kd.V_mk HC0_1.out (Kd.F_below (Kd.C_F (Kd.heap_int .u64) HR0_1.out) (bG2 HB.out GE360.out GE365.out))); (case side2 => exact HO371.out); rintro e w47 ⟨v374, v377, rfl, ho0, ho1, hb⟩; refine ⟨_, rfl, ?_⟩; replace HO371 := vB HO371 hb; have HO375 := Aside0.mk (Kd.V_lower (Kd.V_mono (ok' := fun k_ => some k_ ≠ (.slice Ao42 t366.length co42 : Value).ownBlock ∧ k_ ≠ gb360 ∧ k_ ≠ gb365) ho0 (fun k_ hk_ => ⟨Or.elim hk_ (fun hs_ => Or.elim hs_ (fun hs_ => fun e_ => Nat.not_le.2 hs_ (Kd.R_base HO368.out k_ e_.symm)) (fun hs_ => hs_.1)) (fun hn_ => (Kd.fresh' (Kd.R_lt (rS <| HO368.out)) k_ hn_)), Or.elim hk_ (fun hs_ => Or.elim hs_ (fun hs_ => fun e_ => Nat.not_le.2 hs_ (by rw [e_]; exact GW360.out)) (fun hs_ => hs_.2.1)) (fun hn_ => (Kd.freshB (g := gb360) (o := .cells #[.bool a0_0, .slice A0_1 l0_1.length c0_1, .slice A0_2 l0_2.length c0_2, .int .i64 a0_3] 102 (0, 0)) (by exact bkS BK360.out) k_ hn_)), Or.elim hk_ (fun hs_ => Or.elim hs_ (fun hs_ => fun e_ => Nat.not_le.2 hs_ (by rw [e_]; exact GW365.out)) (fun hs_ => hs_.2.2)) (fun hn_ => (Kd.freshB (g := gb365) (o := .cells #[.bool t361, .int .i64 t362, .int .u64 t363, .int .i64 t364] 39 (0, 0)) (by exact bkS BK365.out) k_ hn_))⟩)) (below_size (bG2 HB.out GE360.out GE365.out))); have HO378 := Aside0.mk (Kd.V_lower (Kd.V_mono (ok' := fun k_ => some k_ ≠ (.slice Ao42 t366.length co42 : Value).ownBlock ∧ k_ ≠ gb360 ∧ k_ ≠ gb365) ho1 (fun k_ hk_ => ⟨Or.elim hk_ (fun hs_ => Or.elim hs_ (fun hs_ => fun e_ => Nat.not_le.2 hs_ (Kd.R_base HO368.out k_ e_.symm)) (fun hs_ => hs_.1)) (fun hn_ => (Kd.fresh' (Kd.R_lt (rS <| HO368.out)) k_ hn_)), Or.elim hk_ (fun hs_ => Or.elim hs_ (fun hs_ => fun e_ => Nat.not_le.2 hs_ (by rw [e_]; exact GW360.out)) (fun hs_ => hs_.2.1)) (fun hn_ => (Kd.freshB (g := gb360) (o := .cells #[.bool a0_0, .slice A0_1 l0_1.length c0_1, .slice A0_2 l0_2.length c0_2, .int .i64 a0_3] 102 (0, 0)) (by exact bkS BK360.out) k_ hn_)), Or.elim hk_ (fun hs_ => Or.elim hs_ (fun hs_ => fun e_ => Nat.not_le.2 hs_ (by rw [e_]; exact GW365.out)) (fun hs_ => hs_.2.2)) (fun hn_ => (Kd.freshB (g := gb365) (o := .cells #[.bool t361, .int .i64 t362, .int .u64 t363, .int .i64 t364] 39 (0, 0)) (by exact bkS BK365.out) k_ hn_))⟩)) (below_size (bG2 HB.out GE360.out GE365.out))); replace HO368 := Aside0.mk (Kd.R_below (rS <| HO368.out) hb); replace BK360 := bkB BK360 hb; replace BK365 := bkB BK365 hb; replace HB := Aside0.mk (below_step (bG2 HB.out GE360.out GE365.out) hb); (try clear hb); (try clear hb2); (try clear hk); (try clear hi); (try clear ho0); (try clear ho1); obtain ⟨Ao48, co48, eo48⟩ := Kd.V_slice HO375.out; subst eo48; obtain ⟨Ao49, co49, eo49⟩ := Kd.V_slice HO378.out; subst eo49) | ((with_reducible refine gate_callee (f := 18) rfl ?_); refine goesL_ (some 39) rfl rfl Tryd.func18 (by kernel_rfl) rfl #[.slice Ao48 t373.length co48, .slice Ao49 t376.length co49] rfl (by (try simp only [List.map_toArray, List.map_cons, List.map_nil]); first | done | rfl) ?_; (with_reducible refine (nat_Cmp.calls k _ _ t373 _ _ t376 t380 _ ?side1 ?side2 ?side3 ?side4 A13.out).mono ?_); (case side1 => exact cS (Kd.V_reads' HO375.out).2.2); (case side2 => exact (Kd.V_reads' HO375.out).2.1); (case side3 => exact cS (Kd.V_reads' HO378.out).2.2); (case side4 => exact (Kd.V_reads' HO378.out).2.1); rintro e w' ⟨rfl, ⟨nd, rfl⟩⟩; refine ⟨_, rfl, ?_⟩; have hcz50_0 : w47.cell? ⟨gb360, 0, none⟩ = some (.bool a0_0) := (blk_cell BK360.out 0).trans rfl; have hcz50_1 : w47.cell? ⟨gb360, 1, none⟩ = some (.slice A0_1 l0_1.length c0_1) := (blk_cell BK360.out 1).trans rfl; have hcz50_2 : w47.cell? ⟨gb360, 2, none⟩ = some (.slice A0_2 l0_2.length c0_2) := (blk_cell BK360.out 2).trans rfl; have hcz50_3 : w47.cell? ⟨gb360, 3, none⟩ = some (.int .i64 a0_3) := (blk_cell BK360.out 3).trans rfl; have hfz50_0 := blk_frozen BK360.out 0; have hfz50_1 := blk_frozen BK360.out 1; have hfz50_2 := blk_frozen BK360.out 2; have hfz50_3 := blk_frozen BK360.out 3) | ((with_reducible refine gate_callee (f := 119) rfl ?_); refine goesL_ (some 48) rfl rfl Tryd.func119 (by kernel_rfl) rfl #[.slice A0_1 l0_1.length c0_1, .int .i64 a0_3, .slice A0_2 l0_2.length c0_2, .int .i64 (-1022)] rfl (by (try simp only [List.map_toArray, List.map_cons, List.map_nil]); first | done | rfl) ?_; (with_reducible refine (soft_aligned.calls k (fun k_ => k_ < w.heap.size) _ _ l0_1 a0_3 (fun k_ => k_ < w.heap.size) _ _ l0_2 (-1022) t381 t384 t387 _ ?side1 ?side2 A31.out).mono ?_); (case side1 => exact Kd.V_mk HC0_1.out (Kd.F_below (Kd.C_F (Kd.heap_int .u64) HR0_1.out) (bG2 HB.out GE360.out GE365.out))); (case side2 => exact Kd.V_mk HC0_2.out (Kd.F_below (Kd.C_F (Kd.heap_int .u64) HR0_2.out) (bG2 HB.out GE360.out GE365.out))); rintro e w51 ⟨v382, v385, rfl, ho0, ho1, hb⟩; refine ⟨_, rfl, ?_⟩; replace HO371 := vB HO371 hb; replace HO375 := vB HO375 hb; replace HO378 := vB HO378 hb; have HO383 := Aside0.mk (Kd.V_lower (Kd.V_mono (ok' := fun k_ => some k_ ≠ (.slice Ao42 t366.length co42 : Value).ownBlock ∧ k_ ≠ gb360 ∧ k_ ≠ gb365) ho0 (fun k_ hk_ => ⟨Or.elim hk_ (fun hs_ => Or.elim hs_ (fun hs_ => fun e_ => Nat.not_le.2 hs_ (Kd.R_base HO368.out k_ e_.symm)) (fun hs_ => fun e_ => Nat.not_le.2 hs_ (Kd.R_base HO368.out k_ e_.symm))) (fun hn_ => (Kd.fresh' (Kd.R_lt (rS <| HO368.out)) k_ hn_)), Or.elim hk_ (fun hs_ => Or.elim hs_ (fun hs_ => fun e_ => Nat.not_le.2 hs_ (by rw [e_]; exact GW360.out)) (fun hs_ => fun e_ => Nat.not_le.2 hs_ (by rw [e_]; exact GW360.out))) (fun hn_ => (Kd.freshB (g := gb360) (o := .cells #[.bool a0_0, .slice A0_1 l0_1.length c0_1, .slice A0_2 l0_2.length c0_2, .int .i64 a0_3] 102 (0, 0)) (by exact bkS BK360.out) k_ hn_)), Or.elim hk_ (fun hs_ => Or.elim hs_ (fun hs_ => fun e_ => Nat.not_le.2 hs_ (by rw [e_]; exact GW365.out)) (fun hs_ => fun e_ => Nat.not_le.2 hs_ (by rw [e_]; exact GW365.out))) (fun hn_ => (Kd.freshB (g := gb365) (o := .cells #[.bool t361, .int .i64 t362, .int .u64 t363, .int .i64 t364] 39 (0, 0)) (by exact bkS BK365.out) k_ hn_))⟩)) (below_size (bG2 HB.out GE360.out GE365.out))); have HO386 := Aside0.mk (Kd.V_lower (Kd.V_mono (ok' := fun k_ => some k_ ≠ (.slice Ao42 t366.length co42 : Value).ownBlock ∧ k_ ≠ gb360 ∧ k_ ≠ gb365) ho1 (fun k_ hk_ => ⟨Or.elim hk_ (fun hs_ => Or.elim hs_ (fun hs_ => fun e_ => Nat.not_le.2 hs_ (Kd.R_base HO368.out k_ e_.symm)) (fun hs_ => fun e_ => Nat.not_le.2 hs_ (Kd.R_base HO368.out k_ e_.symm))) (fun hn_ => (Kd.fresh' (Kd.R_lt (rS <| HO368.out)) k_ hn_)), Or.elim hk_ (fun hs_ => Or.elim hs_ (fun hs_ => fun e_ => Nat.not_le.2 hs_ (by rw [e_]; exact GW360.out)) (fun hs_ => fun e_ => Nat.not_le.2 hs_ (by rw [e_]; exact GW360.out))) (fun hn_ => (Kd.freshB (g := gb360) (o := .cells #[.bool a0_0, .slice A0_1 l0_1.length c0_1, .slice A0_2 l0_2.length c0_2, .int .i64 a0_3] 102 (0, 0)) (by exact bkS BK360.out) k_ hn_)), Or.elim hk_ (fun hs_ => Or.elim hs_ (fun hs_ => fun e_ => Nat.not_le.2 hs_ (by rw [e_]; exact GW365.out)) (fun hs_ => fun e_ => Nat.not_le.2 hs_ (by rw [e_]; exact GW365.out))) (fun hn_ => (Kd.freshB (g := gb365) (o := .cells #[.bool t361, .int .i64 t362, .int .u64 t363, .int .i64 t364] 39 (0, 0)) (by exact bkS BK365.out) k_ hn_))⟩)) (below_size (bG2 HB.out GE360.out GE365.out))); replace HO368 := Aside0.mk (Kd.R_below (rS <| HO368.out) hb); replace BK360 := bkB BK360 hb; replace BK365 := bkB BK365 hb; replace HB := Aside0.mk (below_step (bG2 HB.out GE360.out GE365.out) hb); (try clear hb); (try clear hb2); (try clear hk); (try clear hi); (try clear ho0); (try clear ho1); obtain ⟨Ao52, co52, eo52⟩ := Kd.V_slice HO383.out; subst eo52; obtain ⟨Ao53, co53, eo53⟩ := Kd.V_slice HO386.out; subst eo53) | ((with_reducible refine gate_callee (f := 18) rfl ?_); refine goesL_ (some 54) rfl rfl Tryd.func18 (by kernel_rfl) rfl #[.slice Ao52 t381.length co52, .slice Ao53 t384.length co53] rfl (by (try simp only [List.map_toArray, List.map_cons, List.map_nil]); first | done | rfl) ?_; (with_reducible refine (nat_Cmp.calls k _ _ t381 _ _ t384 t388 _ ?side1 ?side2 ?side3 ?side4 A32.out).mono ?_); (case side1 => exact cS (Kd.V_reads' HO383.out).2.2); (case side2 => exact (Kd.V_reads' HO383.out).2.1); (case side3 => exact cS (Kd.V_reads' HO386.out).2.2); (case side4 => exact (Kd.V_reads' HO386.out).2.1); rintro e w' ⟨rfl, ⟨nd, rfl⟩⟩; refine ⟨_, rfl, ?_⟩))
    go_ret
    exact ⟨by first | rfl | (simp [errW_none, errW_some] <;> rfl) | (simp [*, errW_none, errW_some] <;> rfl), bG2 HB.out GE360.out GE365.out⟩
   ·rw [if_neg c33] at H
    have c33b0 : decide (t388 < 0) = false := decide_eq_false c33
    clear c33
    obtain rfl := Option.some.inj H
    go_enter Tryd.func118, Tryd.ntmps118
    try go_wp2_with (first | ((with_reducible refine gate_dst (N := 2) rfl ?_); refine box_event ?hg (N := 2) ?hd (cs := #[.bool a0_0, .slice A0_1 l0_1.length c0_1, .slice A0_2 l0_2.length c0_2, .int .i64 a0_3]) (t := 102) ?hr ?_; (case hd => rfl); (case hg => rfl); (case hr => first | (go_simp; done) | (go_simp; rfl)); intro gb360 hg w54 hbox hb; have BK360 := Aside0.mk (hbox); have GW360 := Aside0.mk ((by rw [hg]; exact (below_size (bS HB.out)) : w.heap.size ≤ gb360)); have GE360 := Aside0.mk ((by rw [hg]; exact (below_size (bS HB.out)) : w.heap.size ≤ gb360)); replace HB := hB HB hb; clear hb hbox hg) | ((with_reducible refine gate_callee (f := 29) rfl ?_); refine goesL_ (some 12) rfl rfl Tryd.func29 (by kernel_rfl) rfl #[.int .u64 a1] rfl (by (try simp only [List.map_toArray, List.map_cons, List.map_nil]); first | done | rfl) ?_; (with_reducible refine (ieee_Decode.calls a1 t361 t362 t363 t364 _ A3.out).mono ?_); rintro e w55 ⟨rfl, hb⟩; refine ⟨_, rfl, ?_⟩; replace BK360 := bkB BK360 hb; replace HB := Aside0.mk (below_step (bG1 HB.out GE360.out) hb); (try clear hb); (try clear hb2); (try clear hk); (try clear hi)) | ((with_reducible refine gate_dst (N := 5) rfl ?_); refine box_event ?hg (N := 5) ?hd (cs := #[.bool false, .int .i64 0, .int .u64 0, .int .i64 0]) (t := 39) ?hr ?_; (case hd => rfl); (case hg => rfl); (case hr => first | (go_simp; done) | (go_simp; rfl)); intro gb365 hg w56 hbox hb; have BK365 := Aside0.mk (hbox); have GW365 := Aside0.mk ((by rw [hg]; exact (below_size (bG1 HB.out GE360.out)) : w.heap.size ≤ gb365)); have GE365 := Aside0.mk ((by rw [hg]; exact (below_size (bG1 HB.out GE360.out)) : w.heap.size ≤ gb365)); replace HB := Aside0.mk (below_step (bG1 HB.out GE360.out) hb); have NB360_365 := Aside0.mk ((by rw [hg]; exact Nat.ne_of_lt (blk_lt (g := gb360) (o := .cells #[.bool a0_0, .slice A0_1 l0_1.length c0_1, .slice A0_2 l0_2.length c0_2, .int .i64 a0_3] 102 (0, 0)) (by exact bkS BK360.out)) : gb360 ≠ gb365)); have NB365_360 := Aside0.mk ((by rw [hg]; exact Nat.ne_of_gt (blk_lt (g := gb360) (o := .cells #[.bool a0_0, .slice A0_1 l0_1.length c0_1, .slice A0_2 l0_2.length c0_2, .int .i64 a0_3] 102 (0, 0)) (by exact bkS BK360.out)) : gb365 ≠ gb360)); replace BK360 := bkB BK360 hb; clear hb hbox hg; have hnb57 := NB365_360.out; have hnc57 := NB360_365.out; have hcz58_0 : w56.cell? ⟨gb365, 0, none⟩ = some (.bool false) := (blk_cell BK365.out 0).trans rfl; have hcz58_1 : w56.cell? ⟨gb365, 1, none⟩ = some (.int .i64 0) := (blk_cell BK365.out 1).trans rfl; have hcz58_2 : w56.cell? ⟨gb365, 2, none⟩ = some (.int .u64 0) := (blk_cell BK365.out 2).trans rfl; have hcz58_3 : w56.cell? ⟨gb365, 3, none⟩ = some (.int .i64 0) := (blk_cell BK365.out 3).trans rfl; have hfz58_0 := blk_frozen BK365.out 0; have hfz58_1 := blk_frozen BK365.out 1; have hfz58_2 := blk_frozen BK365.out 2; have hfz58_3 := blk_frozen BK365.out 3))
    have n0_ : Aside0 (((((w56.setCell ⟨gb365, 0, none⟩ (.bool t361)).setCell ⟨gb365, 1, none⟩ (.int .i64 t362)).setCell ⟨gb365, 2, none⟩ (.int .u64 t363)).setCell ⟨gb365, 3, none⟩ (.int .i64 t364)).heap[gb360]? = some (.cells #[.bool a0_0, .slice A0_1 l0_1.length c0_1, .slice A0_2 l0_2.length c0_2, .int .i64 a0_3] 102 (0, 0))) := ⟨by refine blkF ?_ NB360_365.out _; refine blkF ?_ NB360_365.out _; refine blkF ?_ NB360_365.out _; refine blkF ?_ NB360_365.out _; exact bkS BK360.out⟩
    have n1_ : Aside0 (((((w56.setCell ⟨gb365, 0, none⟩ (.bool t361)).setCell ⟨gb365, 1, none⟩ (.int .i64 t362)).setCell ⟨gb365, 2, none⟩ (.int .u64 t363)).setCell ⟨gb365, 3, none⟩ (.int .i64 t364)).heap[gb365]? = some (.cells #[.bool t361, .int .i64 t362, .int .u64 t363, .int .i64 t364] 39 (0, 0))) := ⟨by refine blkP (cs := #[.bool t361, .int .i64 t362, .int .u64 t363, .int .i64 0]) ?_ 3 _ rfl; refine blkP (cs := #[.bool t361, .int .i64 t362, .int .u64 0, .int .i64 0]) ?_ 2 _ rfl; refine blkP (cs := #[.bool t361, .int .i64 0, .int .u64 0, .int .i64 0]) ?_ 1 _ rfl; refine blkP (cs := #[.bool false, .int .i64 0, .int .u64 0, .int .i64 0]) ?_ 0 _ rfl; exact bkS BK365.out⟩
    have n2_ : Aside0 (Below w.heap.size w ((((w56.setCell ⟨gb365, 0, none⟩ (.bool t361)).setCell ⟨gb365, 1, none⟩ (.int .i64 t362)).setCell ⟨gb365, 2, none⟩ (.int .u64 t363)).setCell ⟨gb365, 3, none⟩ (.int .i64 t364))) := ⟨bG2 HB.out GE360.out GE365.out⟩
    (try clear BK360)
    (try clear BK365)
    (try clear HB)
    generalize ((((w56.setCell ⟨gb365, 0, none⟩ (.bool t361)).setCell ⟨gb365, 1, none⟩ (.int .i64 t362)).setCell ⟨gb365, 2, none⟩ (.int .u64 t363)).setCell ⟨gb365, 3, none⟩ (.int .i64 t364)) = w59 at n0_ n1_ n2_ ⊢
    have BK360 := n0_
    have BK365 := n1_
    have HB := n2_
    clear n0_ n1_ n2_
    replace BK360 := Aside0.mk (blk_drew BK360.out)
    replace BK365 := Aside0.mk (blk_drew BK365.out)
    replace HB := Aside0.mk (below_drew1 HB.out)
    refine start_ (n := 11) (S := fun w' => w'.cell? ⟨gb360, 0, none⟩ = some (.bool a0_0) ∧ w'.cell? ⟨gb360, 1, none⟩ = some (.slice A0_1 l0_1.length c0_1) ∧ w'.cell? ⟨gb360, 2, none⟩ = some (.slice A0_2 l0_2.length c0_2) ∧ w'.cell? ⟨gb360, 3, none⟩ = some (.int .i64 a0_3) ∧ w'.cell? ⟨gb365, 0, none⟩ = some (.bool t361) ∧ w'.cell? ⟨gb365, 1, none⟩ = some (.int .i64 t362) ∧ w'.cell? ⟨gb365, 2, none⟩ = some (.int .u64 t363) ∧ w'.cell? ⟨gb365, 3, none⟩ = some (.int .i64 t364)) (ds := []) #[false, false, false, false, false, false, false, false, false, false, false] (by kernel_rfl) rfl rfl ⟨(blk_cell BK360.out 0).trans rfl, (blk_cell BK360.out 1).trans rfl, (blk_cell BK360.out 2).trans rfl, (blk_cell BK360.out 3).trans rfl, (blk_cell BK365.out 0).trans rfl, (blk_cell BK365.out 1).trans rfl, (blk_cell BK365.out 2).trans rfl, (blk_cell BK365.out 3).trans rfl⟩ (fun hHeld => ?_); refine with_tabW soft_fraction_flags.tab4 soft_fraction_flags.bits4 (fun HT_ HW_ => ?_)
    generalize w59.drew = w60 at BK360 BK365 HB hHeld ⊢
    refine pure_ (i := 0) (N := some 17) (v := ?_) (a' := ?_) #[true, false, false, false, false, false, false, false, false, false, false] rfl rfl (any_of HT_.out (by kernel_rfl)) (fun _ _ _ h => h) (Or.inl ⟨by rfl, ?_⟩) ?_ ?_
    rotate_left
    ·intro w'
     go_simp
     with_reducible rfl
    rotate_left
    ·simp only [Act.put, List.setIfInBounds_toArray, List.set_cons_zero, List.set_cons_succ, i64_w, i32_w]
     rfl
    refine pure_ (i := 2) (N := some 19) (v := ?_) (a' := ?_) #[true, false, true, false, false, false, false, false, false, false, false] rfl rfl (any_of HT_.out (by kernel_rfl)) (fun _ _ _ h => h) (Or.inl ⟨by rfl, ?_⟩) ?_ ?_
    rotate_left
    ·intro w'
     go_simp
     with_reducible rfl
    rotate_left
    ·simp only [Act.put, List.setIfInBounds_toArray, List.set_cons_zero, List.set_cons_succ, i64_w, i32_w]
     rfl
    refine take_ (i := 1) (N := some 18) (v := ?_) (a' := ?_) #[true, true, true, false, false, false, false, false, false, false, false] rfl rfl (take_ofW HT_.out HW_.out (by kernel_rfl)) (fun _ _ _ h => h) (Or.inl ⟨by rfl, ?_⟩) hHeld ?_ ?_
    rotate_left
    ·rintro w' ⟨s0, s1, s2, s3, s4, s5, s6, s7⟩
     go_simp
     with_reducible rfl
    rotate_left
    ·simp only [Act.put, List.setIfInBounds_toArray, List.set_cons_zero, List.set_cons_succ, i64_w, i32_w]
     rfl
    refine take_ (i := 3) (N := some 20) (v := ?_) (a' := ?_) #[true, true, true, true, false, false, false, false, false, false, false] rfl rfl (take_ofW HT_.out HW_.out (by kernel_rfl)) (fun _ _ _ h => h) (Or.inl ⟨by rfl, ?_⟩) hHeld ?_ ?_
    rotate_left
    ·rintro w' ⟨s0, s1, s2, s3, s4, s5, s6, s7⟩
     go_simp
     with_reducible rfl
    rotate_left
    ·simp only [Act.put, List.setIfInBounds_toArray, List.set_cons_zero, List.set_cons_succ, i64_w, i32_w]
     rfl
    refine one_ (i := 4) (N := some 21) #[true, true, true, true, true, false, false, false, false, false, false] rfl rfl (one_of HT_.out (by kernel_rfl)) (by decide) (fun K hK => ?_)
    refine goes_ Tryd.func50 (by kernel_rfl) rfl #[.int .u64 t363] (by rfl) rfl rfl (by (try simp only [List.map_toArray, List.map_cons, List.map_nil]); first | done | rfl) ?_
    with_reducible refine (nat_FromUint.calls t363 t366 _ A10.out).mono ?_
    rintro e w61 ⟨v367, rfl, ho0, hb⟩
    refine ⟨_, rfl, ?_⟩
    have HO368 := Aside0.mk (Kd.R_lower ho0 (below_size (bG2 HB.out GE360.out GE365.out)))
    replace BK360 := bkB BK360 hb
    replace BK365 := bkB BK365 hb
    replace HB := Aside0.mk (below_step (bG2 HB.out GE360.out GE365.out) hb)
    (try clear hb)
    (try clear hb2)
    (try clear hk)
    (try clear hi)
    (try clear ho0)
    obtain ⟨Ao62, co62, eo62⟩ := Kd.R_slice HO368.out
    (first | subst eo62 | (injection eo62 with f1_ f2_ f3_; have f4_ := f1_.symm; have f5_ := f3_.symm; clear f1_ f2_ f3_; subst f4_; subst f5_))
    refine hK.out _ _ ⟨(blk_cell BK360.out 0).trans rfl, (blk_cell BK360.out 1).trans rfl, (blk_cell BK360.out 2).trans rfl, (blk_cell BK360.out 3).trans rfl, (blk_cell BK365.out 0).trans rfl, (blk_cell BK365.out 1).trans rfl, (blk_cell BK365.out 2).trans rfl, (blk_cell BK365.out 3).trans rfl⟩ (fun hHeld => ?_)
    clear hK K
    refine norm_ (a' := ?_) ?_ ?_
    rotate_left
    ·show Act.put _ (some 21) _ = _
     simp only [Act.put, List.setIfInBounds_toArray, List.set_cons_zero, List.set_cons_succ, i64_w, i32_w]
     rfl
    refine one_ (i := 5) (N := some 22) #[true, true, true, true, true, true, false, false, false, false, false] rfl rfl (one_of HT_.out (by kernel_rfl)) (by decide) (fun K hK => ?_)
    refine goes_ Tryd.func49 (by kernel_rfl) rfl #[.slice A0_2 l0_2.length c0_2, .slice Ao62 t366.length co62] (by rfl) rfl rfl (by (try simp only [List.map_toArray, List.map_cons, List.map_nil]); first | done | rfl) ?_
    with_reducible refine (nat_Mul.calls k _ _ l0_2 _ _ t366 t369 t372 _ ?side1 ?side2 ?side3 ?side4 A11.out).mono ?_
    (case side1 => exact cS (Kd.C_below HR0_2.out HB.out))
    (case side2 => exact HC0_2.out)
    (case side3 => exact cS (Kd.R_reads' HO368.out).2.2)
    (case side4 => exact (Kd.R_reads' HO368.out).2.1)
    rintro e w63 ⟨v370, rfl, ho0, hb⟩
    refine ⟨_, rfl, ?_⟩
    have HO371 := Aside0.mk (Kd.V_lower (Kd.V_mono (ok' := fun k_ => some k_ ≠ (.slice Ao62 t366.length co62 : Value).ownBlock ∧ k_ ≠ gb360 ∧ k_ ≠ gb365) ho0 (fun k_ hk_ => ⟨(Kd.fresh' (Kd.R_lt (rS <| HO368.out)) k_ hk_), (Kd.freshB (g := gb360) (o := .cells #[.bool a0_0, .slice A0_1 l0_1.length c0_1, .slice A0_2 l0_2.length c0_2, .int .i64 a0_3] 102 (0, 0)) (by exact bkS BK360.out) k_ hk_), (Kd.freshB (g := gb365) (o := .cells #[.bool t361, .int .i64 t362, .int .u64 t363, .int .i64 t364] 39 (0, 0)) (by exact bkS BK365.out) k_ hk_)⟩)) (below_size (bG2 HB.out GE360.out GE365.out)))
    replace HO368 := Aside0.mk (Kd.R_below (rS <| HO368.out) hb)
    replace BK360 := bkB BK360 hb
    replace BK365 := bkB BK365 hb
    replace HB := Aside0.mk (below_step (bG2 HB.out GE360.out GE365.out) hb)
    (try clear hb)
    (try clear hb2)
    (try clear hk)
    (try clear hi)
    (try clear ho0)
    refine hK.out _ _ ⟨(blk_cell BK360.out 0).trans rfl, (blk_cell BK360.out 1).trans rfl, (blk_cell BK360.out 2).trans rfl, (blk_cell BK360.out 3).trans rfl, (blk_cell BK365.out 0).trans rfl, (blk_cell BK365.out 1).trans rfl, (blk_cell BK365.out 2).trans rfl, (blk_cell BK365.out 3).trans rfl⟩ (fun hHeld => ?_)
    clear hK K
    refine norm_ (a' := ?_) ?_ ?_
    rotate_left
    ·show Act.put _ (some 22) _ = _
     simp only [Act.put, List.setIfInBounds_toArray, List.set_cons_zero, List.set_cons_succ, i64_w, i32_w]
     rfl
    refine pure_ (i := 6) (N := some 16) (v := ?_) (a' := ?_) #[true, true, true, true, true, true, true, false, false, false, false] rfl rfl (any_of HT_.out (by kernel_rfl)) (fun _ _ _ h => h) (Or.inl ⟨by rfl, ?_⟩) ?_ ?_
    rotate_left
    ·intro w'
     go_simp
     with_reducible rfl
    rotate_left
    ·simp only [Act.put, List.setIfInBounds_toArray, List.set_cons_zero, List.set_cons_succ, i64_w, i32_w]
     rfl
    refine pure_ (i := 7) (N := some 23) (v := ?_) (a' := ?_) #[true, true, true, true, true, true, true, true, false, false, false] rfl rfl (any_of HT_.out (by kernel_rfl)) (fun _ _ _ h => h) (Or.inl ⟨by rfl, ?_⟩) ?_ ?_
    rotate_left
    ·intro w'
     go_simp
     with_reducible rfl
    rotate_left
    ·simp only [Act.put, List.setIfInBounds_toArray, List.set_cons_zero, List.set_cons_succ, i64_w, i32_w]
     rfl
    refine pure_ (i := 8) (N := some 24) (v := ?_) (a' := ?_) #[true, true, true, true, true, true, true, true, true, false, false] rfl rfl (any_of HT_.out (by kernel_rfl)) (fun _ _ _ h => h) (Or.inl ⟨by rfl, ?_⟩) ?_ ?_
    rotate_left
    ·intro w'
     go_simp
     with_reducible rfl
    rotate_left
    ·simp only [Act.put, List.setIfInBounds_toArray, List.set_cons_zero, List.set_cons_succ, i64_w, i32_w]
     rfl
    refine pure_ (i := 9) (N := some 6) (v := ?_) (a' := ?_) #[true, true, true, true, true, true, true, true, true, true, false] rfl rfl (any_of HT_.out (by kernel_rfl)) (fun _ _ _ h => h) (Or.inl ⟨by rfl, ?_⟩) ?_ ?_
    rotate_left
    ·intro w'
     go_simp
     with_reducible rfl
    rotate_left
    ·simp only [Act.put, List.setIfInBounds_toArray, List.set_cons_zero, List.set_cons_succ, i64_w, i32_w]
     rfl
    refine pure_ (i := 10) (N := some 7) (v := ?_) (a' := ?_) #[true, true, true, true, true, true, true, true, true, true, true] rfl rfl (any_of HT_.out (by kernel_rfl)) (fun _ _ _ h => h) (Or.inl ⟨by rfl, ?_⟩) ?_ ?_
    rotate_left
    ·intro w'
     go_simp
     with_reducible rfl
    rotate_left
    ·simp only [Act.put, List.setIfInBounds_toArray, List.set_cons_zero, List.set_cons_succ, i64_w, i32_w]
     rfl
    refine done_ (done_of HT_.out (by kernel_rfl)) ?_
    have hcz64_0 : w63.cell? ⟨gb360, 0, none⟩ = some (.bool a0_0) := (blk_cell BK360.out 0).trans rfl
    have hcz64_1 : w63.cell? ⟨gb360, 1, none⟩ = some (.slice A0_1 l0_1.length c0_1) := (blk_cell BK360.out 1).trans rfl
    have hcz64_2 : w63.cell? ⟨gb360, 2, none⟩ = some (.slice A0_2 l0_2.length c0_2) := (blk_cell BK360.out 2).trans rfl
    have hcz64_3 : w63.cell? ⟨gb360, 3, none⟩ = some (.int .i64 a0_3) := (blk_cell BK360.out 3).trans rfl
    have hfz64_0 := blk_frozen BK360.out 0
    have hfz64_1 := blk_frozen BK360.out 1
    have hfz64_2 := blk_frozen BK360.out 2
    have hfz64_3 := blk_frozen BK360.out 3
    have hcz65_0 : w63.cell? ⟨gb365, 0, none⟩ = some (.bool t361) := (blk_cell BK365.out 0).trans rfl
    have hcz65_1 : w63.cell? ⟨gb365, 1, none⟩ = some (.int .i64 t362) := (blk_cell BK365.out 1).trans rfl
    have hcz65_2 : w63.cell? ⟨gb365, 2, none⟩ = some (.int .u64 t363) := (blk_cell BK365.out 2).trans rfl
    have hcz65_3 : w63.cell? ⟨gb365, 3, none⟩ = some (.int .i64 t364) := (blk_cell BK365.out 3).trans rfl
    have hfz65_0 := blk_frozen BK365.out 0
    have hfz65_1 := blk_frozen BK365.out 1
    have hfz65_2 := blk_frozen BK365.out 2
    have hfz65_3 := blk_frozen BK365.out 3
    obtain ⟨Ao66, co66, eo66⟩ := Kd.V_slice HO371.out
    subst eo66
    try go_wp2_with (first | ((with_reducible refine gate_callee (f := 119) rfl ?_); refine goesL_ (some 33) rfl rfl Tryd.func119 (by kernel_rfl) rfl #[.slice A0_1 l0_1.length c0_1, .int .i64 a0_3, .slice Ao66 t369.length co66, .int .i64 t364] rfl (by (try simp only [List.map_toArray, List.map_cons, List.map_nil]); first | done | rfl) ?_; (with_reducible refine (soft_aligned.calls k (fun k_ => k_ < w.heap.size) _ _ l0_1 a0_3 (fun k_ => (some k_ ≠ (.slice Ao62 t366.length co62 : Value).ownBlock ∧ (k_ ≠ gb360 ∧ k_ ≠ gb365))) _ _ t369 t364 t373 t376 t379 _ ?side1 ?side2 A12.out).mono ?_); (case side1 => exact Kd.V_mk HC0_1.out (Kd.F_below (Kd.C_F (Kd.heap_int .u64) HR0_1.out) (bG2 HB.out GE360.out GE365.out))); (case side2 => exact HO371.out); rintro e w67 ⟨v374, v377, rfl, ho0, ho1, hb⟩; refine ⟨_, rfl, ?_⟩; replace HO371 := vB HO371 hb; have HO375 := Aside0.mk (Kd.V_lower (Kd.V_mono (ok' := fun k_ => some k_ ≠ (.slice Ao62 t366.length co62 : Value).ownBlock ∧ k_ ≠ gb360 ∧ k_ ≠ gb365) ho0 (fun k_ hk_ => ⟨Or.elim hk_ (fun hs_ => Or.elim hs_ (fun hs_ => fun e_ => Nat.not_le.2 hs_ (Kd.R_base HO368.out k_ e_.symm)) (fun hs_ => hs_.1)) (fun hn_ => (Kd.fresh' (Kd.R_lt (rS <| HO368.out)) k_ hn_)), Or.elim hk_ (fun hs_ => Or.elim hs_ (fun hs_ => fun e_ => Nat.not_le.2 hs_ (by rw [e_]; exact GW360.out)) (fun hs_ => hs_.2.1)) (fun hn_ => (Kd.freshB (g := gb360) (o := .cells #[.bool a0_0, .slice A0_1 l0_1.length c0_1, .slice A0_2 l0_2.length c0_2, .int .i64 a0_3] 102 (0, 0)) (by exact bkS BK360.out) k_ hn_)), Or.elim hk_ (fun hs_ => Or.elim hs_ (fun hs_ => fun e_ => Nat.not_le.2 hs_ (by rw [e_]; exact GW365.out)) (fun hs_ => hs_.2.2)) (fun hn_ => (Kd.freshB (g := gb365) (o := .cells #[.bool t361, .int .i64 t362, .int .u64 t363, .int .i64 t364] 39 (0, 0)) (by exact bkS BK365.out) k_ hn_))⟩)) (below_size (bG2 HB.out GE360.out GE365.out))); have HO378 := Aside0.mk (Kd.V_lower (Kd.V_mono (ok' := fun k_ => some k_ ≠ (.slice Ao62 t366.length co62 : Value).ownBlock ∧ k_ ≠ gb360 ∧ k_ ≠ gb365) ho1 (fun k_ hk_ => ⟨Or.elim hk_ (fun hs_ => Or.elim hs_ (fun hs_ => fun e_ => Nat.not_le.2 hs_ (Kd.R_base HO368.out k_ e_.symm)) (fun hs_ => hs_.1)) (fun hn_ => (Kd.fresh' (Kd.R_lt (rS <| HO368.out)) k_ hn_)), Or.elim hk_ (fun hs_ => Or.elim hs_ (fun hs_ => fun e_ => Nat.not_le.2 hs_ (by rw [e_]; exact GW360.out)) (fun hs_ => hs_.2.1)) (fun hn_ => (Kd.freshB (g := gb360) (o := .cells #[.bool a0_0, .slice A0_1 l0_1.length c0_1, .slice A0_2 l0_2.length c0_2, .int .i64 a0_3] 102 (0, 0)) (by exact bkS BK360.out) k_ hn_)), Or.elim hk_ (fun hs_ => Or.elim hs_ (fun hs_ => fun e_ => Nat.not_le.2 hs_ (by rw [e_]; exact GW365.out)) (fun hs_ => hs_.2.2)) (fun hn_ => (Kd.freshB (g := gb365) (o := .cells #[.bool t361, .int .i64 t362, .int .u64 t363, .int .i64 t364] 39 (0, 0)) (by exact bkS BK365.out) k_ hn_))⟩)) (below_size (bG2 HB.out GE360.out GE365.out))); replace HO368 := Aside0.mk (Kd.R_below (rS <| HO368.out) hb); replace BK360 := bkB BK360 hb; replace BK365 := bkB BK365 hb; replace HB := Aside0.mk (below_step (bG2 HB.out GE360.out GE365.out) hb); (try clear hb); (try clear hb2); (try clear hk); (try clear hi); (try clear ho0); (try clear ho1); obtain ⟨Ao68, co68, eo68⟩ := Kd.V_slice HO375.out; subst eo68; obtain ⟨Ao69, co69, eo69⟩ := Kd.V_slice HO378.out; subst eo69) | ((with_reducible refine gate_callee (f := 18) rfl ?_); refine goesL_ (some 39) rfl rfl Tryd.func18 (by kernel_rfl) rfl #[.slice Ao68 t373.length co68, .slice Ao69 t376.length co69] rfl (by (try simp only [List.map_toArray, List.map_cons, List.map_nil]); first | done | rfl) ?_; (with_reducible refine (nat_Cmp.calls k _ _ t373 _ _ t376 t380 _ ?side1 ?side2 ?side3 ?side4 A13.out).mono ?_); (case side1 => exact cS (Kd.V_reads' HO375.out).2.2); (case side2 => exact (Kd.V_reads' HO375.out).2.1); (case side3 => exact cS (Kd.V_reads' HO378.out).2.2); (case side4 => exact (Kd.V_reads' HO378.out).2.1); rintro e w' ⟨rfl, ⟨nd, rfl⟩⟩; refine ⟨_, rfl, ?_⟩; have hcz70_0 : w67.cell? ⟨gb360, 0, none⟩ = some (.bool a0_0) := (blk_cell BK360.out 0).trans rfl; have hcz70_1 : w67.cell? ⟨gb360, 1, none⟩ = some (.slice A0_1 l0_1.length c0_1) := (blk_cell BK360.out 1).trans rfl; have hcz70_2 : w67.cell? ⟨gb360, 2, none⟩ = some (.slice A0_2 l0_2.length c0_2) := (blk_cell BK360.out 2).trans rfl; have hcz70_3 : w67.cell? ⟨gb360, 3, none⟩ = some (.int .i64 a0_3) := (blk_cell BK360.out 3).trans rfl; have hfz70_0 := blk_frozen BK360.out 0; have hfz70_1 := blk_frozen BK360.out 1; have hfz70_2 := blk_frozen BK360.out 2; have hfz70_3 := blk_frozen BK360.out 3) | ((with_reducible refine gate_callee (f := 119) rfl ?_); refine goesL_ (some 48) rfl rfl Tryd.func119 (by kernel_rfl) rfl #[.slice A0_1 l0_1.length c0_1, .int .i64 a0_3, .slice A0_2 l0_2.length c0_2, .int .i64 (-1022)] rfl (by (try simp only [List.map_toArray, List.map_cons, List.map_nil]); first | done | rfl) ?_; (with_reducible refine (soft_aligned.calls k (fun k_ => k_ < w.heap.size) _ _ l0_1 a0_3 (fun k_ => k_ < w.heap.size) _ _ l0_2 (-1022) t381 t384 t387 _ ?side1 ?side2 A31.out).mono ?_); (case side1 => exact Kd.V_mk HC0_1.out (Kd.F_below (Kd.C_F (Kd.heap_int .u64) HR0_1.out) (bG2 HB.out GE360.out GE365.out))); (case side2 => exact Kd.V_mk HC0_2.out (Kd.F_below (Kd.C_F (Kd.heap_int .u64) HR0_2.out) (bG2 HB.out GE360.out GE365.out))); rintro e w71 ⟨v382, v385, rfl, ho0, ho1, hb⟩; refine ⟨_, rfl, ?_⟩; replace HO371 := vB HO371 hb; replace HO375 := vB HO375 hb; replace HO378 := vB HO378 hb; have HO383 := Aside0.mk (Kd.V_lower (Kd.V_mono (ok' := fun k_ => some k_ ≠ (.slice Ao62 t366.length co62 : Value).ownBlock ∧ k_ ≠ gb360 ∧ k_ ≠ gb365) ho0 (fun k_ hk_ => ⟨Or.elim hk_ (fun hs_ => Or.elim hs_ (fun hs_ => fun e_ => Nat.not_le.2 hs_ (Kd.R_base HO368.out k_ e_.symm)) (fun hs_ => fun e_ => Nat.not_le.2 hs_ (Kd.R_base HO368.out k_ e_.symm))) (fun hn_ => (Kd.fresh' (Kd.R_lt (rS <| HO368.out)) k_ hn_)), Or.elim hk_ (fun hs_ => Or.elim hs_ (fun hs_ => fun e_ => Nat.not_le.2 hs_ (by rw [e_]; exact GW360.out)) (fun hs_ => fun e_ => Nat.not_le.2 hs_ (by rw [e_]; exact GW360.out))) (fun hn_ => (Kd.freshB (g := gb360) (o := .cells #[.bool a0_0, .slice A0_1 l0_1.length c0_1, .slice A0_2 l0_2.length c0_2, .int .i64 a0_3] 102 (0, 0)) (by exact bkS BK360.out) k_ hn_)), Or.elim hk_ (fun hs_ => Or.elim hs_ (fun hs_ => fun e_ => Nat.not_le.2 hs_ (by rw [e_]; exact GW365.out)) (fun hs_ => fun e_ => Nat.not_le.2 hs_ (by rw [e_]; exact GW365.out))) (fun hn_ => (Kd.freshB (g := gb365) (o := .cells #[.bool t361, .int .i64 t362, .int .u64 t363, .int .i64 t364] 39 (0, 0)) (by exact bkS BK365.out) k_ hn_))⟩)) (below_size (bG2 HB.out GE360.out GE365.out))); have HO386 := Aside0.mk (Kd.V_lower (Kd.V_mono (ok' := fun k_ => some k_ ≠ (.slice Ao62 t366.length co62 : Value).ownBlock ∧ k_ ≠ gb360 ∧ k_ ≠ gb365) ho1 (fun k_ hk_ => ⟨Or.elim hk_ (fun hs_ => Or.elim hs_ (fun hs_ => fun e_ => Nat.not_le.2 hs_ (Kd.R_base HO368.out k_ e_.symm)) (fun hs_ => fun e_ => Nat.not_le.2 hs_ (Kd.R_base HO368.out k_ e_.symm))) (fun hn_ => (Kd.fresh' (Kd.R_lt (rS <| HO368.out)) k_ hn_)), Or.elim hk_ (fun hs_ => Or.elim hs_ (fun hs_ => fun e_ => Nat.not_le.2 hs_ (by rw [e_]; exact GW360.out)) (fun hs_ => fun e_ => Nat.not_le.2 hs_ (by rw [e_]; exact GW360.out))) (fun hn_ => (Kd.freshB (g := gb360) (o := .cells #[.bool a0_0, .slice A0_1 l0_1.length c0_1, .slice A0_2 l0_2.length c0_2, .int .i64 a0_3] 102 (0, 0)) (by exact bkS BK360.out) k_ hn_)), Or.elim hk_ (fun hs_ => Or.elim hs_ (fun hs_ => fun e_ => Nat.not_le.2 hs_ (by rw [e_]; exact GW365.out)) (fun hs_ => fun e_ => Nat.not_le.2 hs_ (by rw [e_]; exact GW365.out))) (fun hn_ => (Kd.freshB (g := gb365) (o := .cells #[.bool t361, .int .i64 t362, .int .u64 t363, .int .i64 t364] 39 (0, 0)) (by exact bkS BK365.out) k_ hn_))⟩)) (below_size (bG2 HB.out GE360.out GE365.out))); replace HO368 := Aside0.mk (Kd.R_below (rS <| HO368.out) hb); replace BK360 := bkB BK360 hb; replace BK365 := bkB BK365 hb; replace HB := Aside0.mk (below_step (bG2 HB.out GE360.out GE365.out) hb); (try clear hb); (try clear hb2); (try clear hk); (try clear hi); (try clear ho0); (try clear ho1); obtain ⟨Ao72, co72, eo72⟩ := Kd.V_slice HO383.out; subst eo72; obtain ⟨Ao73, co73, eo73⟩ := Kd.V_slice HO386.out; subst eo73) | ((with_reducible refine gate_callee (f := 18) rfl ?_); refine goesL_ (some 54) rfl rfl Tryd.func18 (by kernel_rfl) rfl #[.slice Ao72 t381.length co72, .slice Ao73 t384.length co73] rfl (by (try simp only [List.map_toArray, List.map_cons, List.map_nil]); first | done | rfl) ?_; (with_reducible refine (nat_Cmp.calls k _ _ t381 _ _ t384 t388 _ ?side1 ?side2 ?side3 ?side4 A32.out).mono ?_); (case side1 => exact cS (Kd.V_reads' HO383.out).2.2); (case side2 => exact (Kd.V_reads' HO383.out).2.1); (case side3 => exact cS (Kd.V_reads' HO386.out).2.2); (case side4 => exact (Kd.V_reads' HO386.out).2.1); rintro e w' ⟨rfl, ⟨nd, rfl⟩⟩; refine ⟨_, rfl, ?_⟩))
    go_ret
    exact ⟨by first | rfl | (simp [errW_none, errW_some] <;> rfl) | (simp [*, errW_none, errW_some] <;> rfl), bG2 HB.out GE360.out GE365.out⟩

/-! ### soft_term_rounded: function 89 -/
def soft_term_rounded.f (k : Nat) (a0_0 : Bool) (l0_1 : List Int) (a0_2 : Int) : Option (Int × Int) := if (l0_1.length : Int) = 0 then ((soft_withSign.f a0_0 0).bind fun t390 => (some (t390, 0))) else ((ieee_Round.f k a0_0 l0_1 a0_2 false).bind fun bt391 => ((soft_fraction_flags.f k a0_0 l0_1 (([1] : List Int)) a0_2 bt391.1).bind fun t396 => (some (bt391.1, t396))))
theorem soft_term_rounded.mono : ∀ a0 a1 a2 k, LeO (soft_term_rounded.f k a0 a1 a2) (soft_term_rounded.f (k + 1) a0 a1 a2) := by
 intro a0 a1 a2 k
 unfold soft_term_rounded.f
 repeat' first
   | (with_reducible exact ieee_Round.mono _ _ _ _ _)
   | (with_reducible exact soft_fraction_flags.mono _ _ _ _ _ _)
   | (with_reducible exact LeO.refl _)
   | (with_reducible exact LeO.none _)
   | (with_reducible refine LeO.ite ?_ ?_)
   | (with_reducible refine LeO.bind ?_ (fun _ => ?_))
   | exact ieee_Round.mono _ _ _ _ _
   | exact soft_fraction_flags.mono _ _ _ _ _ _
   | exact LeO.none _
   | refine LeO.ite ?_ ?_
   | refine LeO.bind ?_ (fun _ => ?_)
set_option maxHeartbeats 8000000 in
set_option maxRecDepth 100000 in
theorem soft_term_rounded.calls (k : Nat) (a0_0 : Bool) (A0_1 : Option Addr) (c0_1 : Nat) (l0_1 : List Int) (a0_2 : Int) (r1 : Int) (r2 : Int) (w : World) (hT : Kd.C (Kd.int .u8) w (some ⟨0, 0, none⟩) 64 tabL) (hr0_1 : Kd.C (Kd.int .u64) w A0_1 l0_1.length l0_1) (hc0_1 : l0_1.length ≤ c0_1) (h : soft_term_rounded.f k a0_0 l0_1 a0_2 = some (r1, r2)) :
  Calls Tryd.prog 89 #[.agg #[.bool a0_0, .slice A0_1 l0_1.length c0_1, .int .i64 a0_2]] w fun e w' => e = .returned (.tuple #[.int .u64 r1, .int .i64 r2]) ∧ Below w.heap.size w w' := by
 have hu89 := Tryd.underlying89
 have hu102 := Tryd.underlying102
 have HT := Aside0.mk hT
 clear hT
 have HR0_1 := Aside0.mk hr0_1
 have HC0_1 := Aside0.mk hc0_1
 clear hr0_1 hc0_1
 have HB := Aside0.mk (Below.refl w.heap.size w)
 have H : (if (l0_1.length : Int) = 0 then ((soft_withSign.f a0_0 0).bind fun t390 => (some (t390, 0))) else ((ieee_Round.f k a0_0 l0_1 a0_2 false).bind fun bt391 => ((soft_fraction_flags.f k a0_0 l0_1 (([1] : List Int)) a0_2 bt391.1).bind fun t396 => (some (bt391.1, t396))))) = some (r1, r2) := h
 clear h
 by_cases c2 : (l0_1.length : Int) = 0
 ·rw [if_pos c2] at H
  have c2b0 : ((l0_1.length : Int) == 0) = true := beq_iff_eq.mpr c2
  have c2b1 : ((l0_1.length : Int) != 0) = false := bne_eq_false_iff_eq.mpr c2
  clear c2
  obtain ⟨t390, A30, H⟩ := Option.bind_eq_some_iff.mp H
  have A3 := Aside0.mk A30
  clear A30
  simp only [Option.some.injEq, Prod.mk.injEq] at H
  obtain ⟨rfl, rfl⟩ := H
  go_enter Tryd.func89, Tryd.ntmps89
  go_wp2_with (first | ((with_reducible refine gate_dst (N := 1) rfl ?_); refine box_event ?hg (N := 1) ?hd (cs := #[.bool a0_0, .slice A0_1 l0_1.length c0_1, .int .i64 a0_2]) (t := 89) ?hr ?_; (case hd => rfl); (case hg => rfl); (case hr => first | (go_simp; done) | (go_simp; rfl)); intro gb389 hg w4 hbox hb; have BK389 := Aside0.mk (hbox); have GW389 := Aside0.mk ((by rw [hg]; exact (below_size (bS HB.out)) : w.heap.size ≤ gb389)); have GE389 := Aside0.mk ((by rw [hg]; exact (below_size (bS HB.out)) : w.heap.size ≤ gb389)); replace HB := hB HB hb; clear hb hbox hg; have hcz5_0 : w4.cell? ⟨gb389, 0, none⟩ = some (.bool a0_0) := (blk_cell BK389.out 0).trans rfl; have hcz5_1 : w4.cell? ⟨gb389, 1, none⟩ = some (.slice A0_1 l0_1.length c0_1) := (blk_cell BK389.out 1).trans rfl; have hcz5_2 : w4.cell? ⟨gb389, 2, none⟩ = some (.int .i64 a0_2) := (blk_cell BK389.out 2).trans rfl; have hfz5_0 := blk_frozen BK389.out 0; have hfz5_1 := blk_frozen BK389.out 1; have hfz5_2 := blk_frozen BK389.out 2) | ((with_reducible refine gate_callee (f := 90) rfl ?_); refine goesL_ (some 12) rfl rfl Tryd.func90 (by kernel_rfl) rfl #[.bool a0_0, .int .u64 0] rfl (by (try simp only [List.map_toArray, List.map_cons, List.map_nil]); first | done | rfl) ?_; (with_reducible refine (soft_withSign.calls a0_0 0 t390 _ A3.out).mono ?_); rintro e w' ⟨rfl, ⟨nd, rfl⟩⟩; refine ⟨_, rfl, ?_⟩))
  go_ret2
  exact ⟨by first | rfl | (simp [errW_none, errW_some] <;> rfl) | (simp [*, errW_none, errW_some] <;> rfl), bG1 HB.out GE389.out⟩
 ·rw [if_neg c2] at H
  have c2b0 : ((l0_1.length : Int) == 0) = false := beq_eq_false_iff_ne.mpr c2
  have c2b1 : ((l0_1.length : Int) != 0) = true := bne_iff_ne.mpr c2
  have c2b2 : ¬ (l0_1 = []) := fun h_ => c2 (by rw [h_]; rfl)
  obtain ⟨⟨t391, t392⟩, A60, H⟩ := Option.bind_eq_some_iff.mp H
  dsimp only at H
  have A6 := Aside0.mk A60
  clear A60
  obtain ⟨y393, hy393⟩ : ∃ y_ : List Int, y_ = (([1] : List Int)) := ⟨_, rfl⟩
  replace H : ((soft_fraction_flags.f k a0_0 l0_1 y393 a0_2 t391).bind fun t396 => (some (t391, t396))) = some (r1, r2) := by first | (rw [hy393]; with_reducible exact H) | (have H2_ := (Option.bind_some _ _).symm.trans H; rw [hy393]; with_reducible exact H2_) | (have H2_ := (Option.bind_some _ _).symm.trans H; with_reducible exact H2_) | with_reducible exact H | (rw [hy393]; exact H) | exact H
  have Ny393 := Aside0.mk hy393
  clear hy393
  obtain ⟨t396, A70, H⟩ := Option.bind_eq_some_iff.mp H
  have A7 := Aside0.mk A70
  clear A70
  simp only [Option.some.injEq, Prod.mk.injEq] at H
  obtain ⟨rfl, rfl⟩ := H
  go_enter Tryd.func89, Tryd.ntmps89
  go_wp2_with (first | ((with_reducible refine gate_dst (N := 1) rfl ?_); refine box_event ?hg (N := 1) ?hd (cs := #[.bool a0_0, .slice A0_1 l0_1.length c0_1, .int .i64 a0_2]) (t := 89) ?hr ?_; (case hd => rfl); (case hg => rfl); (case hr => first | (go_simp; done) | (go_simp; rfl)); intro gb389 hg w8 hbox hb; have BK389 := Aside0.mk (hbox); have GW389 := Aside0.mk ((by rw [hg]; exact (below_size (bS HB.out)) : w.heap.size ≤ gb389)); have GE389 := Aside0.mk ((by rw [hg]; exact (below_size (bS HB.out)) : w.heap.size ≤ gb389)); replace HB := hB HB hb; clear hb hbox hg; have hcz9_0 : w8.cell? ⟨gb389, 0, none⟩ = some (.bool a0_0) := (blk_cell BK389.out 0).trans rfl; have hcz9_1 : w8.cell? ⟨gb389, 1, none⟩ = some (.slice A0_1 l0_1.length c0_1) := (blk_cell BK389.out 1).trans rfl; have hcz9_2 : w8.cell? ⟨gb389, 2, none⟩ = some (.int .i64 a0_2) := (blk_cell BK389.out 2).trans rfl; have hfz9_0 := blk_frozen BK389.out 0; have hfz9_1 := blk_frozen BK389.out 1; have hfz9_2 := blk_frozen BK389.out 2) | ((with_reducible refine gate_callee (f := 94) rfl ?_); refine goesL_ (some 20) rfl rfl Tryd.func94 (by kernel_rfl) rfl #[.bool a0_0, .slice A0_1 l0_1.length c0_1, .int .i64 a0_2, .bool false] rfl (by (try simp only [List.map_toArray, List.map_cons, List.map_nil]); first | done | rfl) ?_; (with_reducible refine (ieee_Round.calls k a0_0 _ _ l0_1 a0_2 false t391 t392 _ ?side3 ?side1 ?side2 A6.out).mono ?_); (case side1 => exact cS (Kd.C_below HR0_1.out HB.out)); (case side2 => exact HC0_1.out); (case side3 => exact cS (Kd.C_below HT.out HB.out)); rintro e w10 ⟨rfl, hb⟩; refine ⟨_, rfl, ?_⟩; replace BK389 := bkB BK389 hb; replace HB := Aside0.mk (below_step (bG1 HB.out GE389.out) hb); (try clear hb); (try clear hb2); (try clear hk); (try clear hi); have hcz11_0 : w10.cell? ⟨gb389, 0, none⟩ = some (.bool a0_0) := (blk_cell BK389.out 0).trans rfl; have hcz11_1 : w10.cell? ⟨gb389, 1, none⟩ = some (.slice A0_1 l0_1.length c0_1) := (blk_cell BK389.out 1).trans rfl; have hcz11_2 : w10.cell? ⟨gb389, 2, none⟩ = some (.int .i64 a0_2) := (blk_cell BK389.out 2).trans rfl; have hfz11_0 := blk_frozen BK389.out 0; have hfz11_1 := blk_frozen BK389.out 1; have hfz11_2 := blk_frozen BK389.out 2) | ((with_reducible refine gate_dst (N := 28) rfl ?_); refine Kd.R_lit (Kd.int .u64) _ 22 ?hg (N := 28) ?hd (xs := ([1] : List Int)) (inner := [.int .u64 1]) (ok := fun _ => True) (okp := fun _ => True) ?hr ?hp (fun _ hk => hk) trivial (Below.refl _ _) (Nat.le_refl _) (by simp) ?_; (case hd => rfl); (case hg => rfl); (case hr => first | (go_simp; done) | (go_simp; rfl)); (case hp => exact (Reps.one (show Kd.M (Kd.int .u64) _ _ _ 1 [.int .u64 1] from rfl) (Reps.none _ _))); intro v394 w12 ho13 hb hg_ hnew_; clear hg_ hnew_; (first | rw [← Ny393.out] at ho13 | (simp only [Int.reduceToNat] at ho13; rw [← Ny393.out] at ho13)); have HO395 := Aside0.mk (Kd.R_lower ho13 (below_size (bG1 HB.out GE389.out))); replace BK389 := bkB BK389 hb; replace HB := Aside0.mk (below_step (bG1 HB.out GE389.out) hb); clear hb ho13; have hcz14_0 : w12.cell? ⟨gb389, 0, none⟩ = some (.bool a0_0) := (blk_cell BK389.out 0).trans rfl; have hcz14_1 : w12.cell? ⟨gb389, 1, none⟩ = some (.slice A0_1 l0_1.length c0_1) := (blk_cell BK389.out 1).trans rfl; have hcz14_2 : w12.cell? ⟨gb389, 2, none⟩ = some (.int .i64 a0_2) := (blk_cell BK389.out 2).trans rfl; have hfz14_0 := blk_frozen BK389.out 0; have hfz14_1 := blk_frozen BK389.out 1; have hfz14_2 := blk_frozen BK389.out 2; obtain ⟨Ao15, co15, eo15⟩ := Kd.R_slice HO395.out; subst eo15) | ((with_reducible refine gate_callee (f := 118) rfl ?_); refine goesL_ (some 33) rfl rfl Tryd.func118 (by kernel_rfl) rfl #[.agg #[.bool a0_0, .slice A0_1 l0_1.length c0_1, .slice Ao15 y393.length co15, .int .i64 a0_2], .int .u64 t391] rfl (by (try simp only [List.map_toArray, List.map_cons, List.map_nil]); first | done | rfl) ?_; (with_reducible refine (soft_fraction_flags.calls k a0_0 _ _ l0_1 _ _ y393 a0_2 t391 t396 _ ?side1 ?side2 ?side3 ?side4 A7.out).mono ?_); (case side1 => exact cS (Kd.C_below HR0_1.out HB.out)); (case side2 => exact HC0_1.out); (case side3 => exact cS (Kd.R_reads' HO395.out).2.2); (case side4 => exact (Kd.R_reads' HO395.out).2.1); rintro e w16 ⟨rfl, hb⟩; refine ⟨_, rfl, ?_⟩; replace HO395 := Aside0.mk (Kd.R_below (rS <| HO395.out) hb); replace BK389 := bkB BK389 hb; replace HB := Aside0.mk (below_step (bG1 HB.out GE389.out) hb); (try clear hb); (try clear hb2); (try clear hk); (try clear hi)))
  go_ret2
  exact ⟨by first | rfl | (simp [errW_none, errW_some] <;> rfl) | (simp [*, errW_none, errW_some] <;> rfl), bG1 HB.out GE389.out⟩

end Go.Proofs.YtcdnoklokoplaaaDoor.PE
