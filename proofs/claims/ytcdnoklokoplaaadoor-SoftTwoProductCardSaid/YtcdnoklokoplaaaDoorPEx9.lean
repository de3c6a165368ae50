-- printed by a program
import Derived.Test.YtcdnoklokoplaaaDoorPEx0
import Derived.Test.YtcdnoklokoplaaaDoorPEx2
namespace Go.Proofs.YtcdnoklokoplaaaDoor.PE
open Go.Proofs.YtcdnoklokoplaaaDoorX
open Go.RowKit Go.Proofs.YtcdnoklokoplaaaDoorW.PrintWords Go.Proofs.YtcdnoklokoplaaaDoorW.PrintLast Go.Proofs.YtcdnoklokoplaaaDoorW.PrintMore
attribute [local go_sem] max2_int min2_int max_two min_two max_three min_three max_four min_four   -- for this text's walks alone
set_option linter.unusedVariables false
set_option linter.unusedSimpArgs false

/-! ### soft_product: function 91 -/
def soft_product.f (k : Nat) (a0_0 : Bool) (a0_1 : Int) (a0_2 : Int) (a0_3 : Int) (a1_0 : Bool) (a1_1 : Int) (a1_2 : Int) (a1_3 : Int) : Option (Bool × List Int × Int) := (nat_FromUint.f a0_2).bind fun t400 => ((nat_FromUint.f a1_2).bind fun t403 => ((nat_Mul.f k t400 t403).bind fun bt406 => (some ((a0_0 != a1_0), bt406.1, wrap64 (a0_3 + a1_3)))))
theorem soft_product.mono : ∀ a0 a1 a2 a3 a4 a5 a6 a7 k, LeO (soft_product.f k a0 a1 a2 a3 a4 a5 a6 a7) (soft_product.f (k + 1) a0 a1 a2 a3 a4 a5 a6 a7) := by
 intro a0 a1 a2 a3 a4 a5 a6 a7 k
 unfold soft_product.f
 repeat' first
   | (with_reducible exact nat_Mul.mono _ _ _)
   | (with_reducible exact LeO.refl _)
   | (with_reducible exact LeO.none _)
   | (with_reducible refine LeO.ite ?_ ?_)
   | (with_reducible refine LeO.bind ?_ (fun _ => ?_))
   | exact nat_Mul.mono _ _ _
   | exact LeO.none _
   | refine LeO.ite ?_ ?_
   | refine LeO.bind ?_ (fun _ => ?_)
def soft_product.T1 : Bool × List (List Nat × List Nat) := (true, [([], []), ([0], [0]), ([1], [1]), ([], []), ([3], [3]), ([4, 2], [4]), ([2, 5, 5], [2, 5]), ([6], [6]), ([7], [7]), ([7], [7]), ([8, 6, 0, 1, 2, 3, 4, 5, 6, 7, 8], [8]), ([9, 10, 0, 1, 2, 3, 4, 5, 6, 7, 8, 9, 10], [9])])
def soft_product.B1 : List Nat := [0, 1, 3, 0, 8, 31, 63, 127, 255, 255, 511, 2047]
theorem soft_product.tab1 : rtab .any (opsOf Tryd.f91 1) = soft_product.T1 := by kernel_rfl
theorem soft_product.bits1 : waitsOk soft_product.T1.2 soft_product.B1 = true := by kernel_rfl
set_option maxHeartbeats 8000000 in
set_option maxRecDepth 100000 in
theorem soft_product.calls (k : Nat) (a0_0 : Bool) (a0_1 : Int) (a0_2 : Int) (a0_3 : Int) (a1_0 : Bool) (a1_1 : Int) (a1_2 : Int) (a1_3 : Int) (r1 : Bool) (r2 : List Int) (r3 : Int) (w : World) (h : soft_product.f k a0_0 a0_1 a0_2 a0_3 a1_0 a1_1 a1_2 a1_3 = some (r1, r2, r3)) :
  Calls Tryd.prog 91 #[.agg #[.bool a0_0, .int .i64 a0_1, .int .u64 a0_2, .int .i64 a0_3], .agg #[.bool a1_0, .int .i64 a1_1, .int .u64 a1_2, .int .i64 a1_3]] w fun e w' => ∃ v1_ : Value, e = .returned (.agg #[.bool r1, v1_, .int .i64 r3]) ∧ Kd.V (Kd.int .u64) 22 w' w.heap.size (fun k_ => (w.heap.size ≤ k_)) v1_ r2 ∧ Below w.heap.size w w' := by
 have hu39 := Tryd.underlying39
 have hu89 := Tryd.underlying89
 have HB := Aside0.mk (Below.refl w.heap.size w)
 have H : ((nat_FromUint.f a0_2).bind fun t400 => ((nat_FromUint.f a1_2).bind fun t403 => ((nat_Mul.f k t400 t403).bind fun bt406 => (some ((a0_0 != a1_0), bt406.1, wrap64 (a0_3 + a1_3)))))) = some (r1, r2, r3) := h
 clear h
 obtain ⟨t400, A30, H⟩ := Option.bind_eq_some_iff.mp H
 have A3 := Aside0.mk A30
 clear A30
 obtain ⟨t403, A40, H⟩ := Option.bind_eq_some_iff.mp H
 have A4 := Aside0.mk A40
 clear A40
 obtain ⟨⟨t406, t409⟩, A50, H⟩ := Option.bind_eq_some_iff.mp H
 dsimp only at H
 have A5 := Aside0.mk A50
 clear A50
 simp only [Option.some.injEq, Prod.mk.injEq] at H
 obtain ⟨rfl, rfl, rfl⟩ := H
 go_enter Tryd.func91, Tryd.ntmps91
 try go_wp2_with (first | ((with_reducible refine gate_dst (N := 2) rfl ?_); refine box_event ?hg (N := 2) ?hd (cs := #[.bool a0_0, .int .i64 a0_1, .int .u64 a0_2, .int .i64 a0_3]) (t := 39) ?hr ?_; (case hd => rfl); (case hg => rfl); (case hr => first | (go_simp; done) | (go_simp; rfl)); intro gb397 hg w6 hbox hb; have BK397 := Aside0.mk (hbox); have GW397 := Aside0.mk ((by rw [hg]; exact (below_size (bS HB.out)) : w.heap.size ≤ gb397)); have GE397 := Aside0.mk ((by rw [hg]; exact (below_size (bS HB.out)) : w.heap.size ≤ gb397)); replace HB := hB HB hb; clear hb hbox hg) | ((with_reducible refine gate_dst (N := 3) rfl ?_); refine box_event ?hg (N := 3) ?hd (cs := #[.bool a1_0, .int .i64 a1_1, .int .u64 a1_2, .int .i64 a1_3]) (t := 39) ?hr ?_; (case hd => rfl); (case hg => rfl); (case hr => first | (go_simp; done) | (go_simp; rfl)); intro gb398 hg w7 hbox hb; have BK398 := Aside0.mk (hbox); have GW398 := Aside0.mk ((by rw [hg]; exact (below_size (bG1 HB.out GE397.out)) : w.heap.size ≤ gb398)); have GE398 := Aside0.mk ((by rw [hg]; exact (below_size (bG1 HB.out GE397.out)) : w.heap.size ≤ gb398)); replace HB := Aside0.mk (below_step (bG1 HB.out GE397.out) hb); have NB397_398 := Aside0.mk ((by rw [hg]; exact Nat.ne_of_lt (blk_lt (g := gb397) (o := .cells #[.bool a0_0, .int .i64 a0_1, .int .u64 a0_2, .int .i64 a0_3] 39 (0, 0)) (by exact bkS BK397.out)) : gb397 ≠ gb398)); have NB398_397 := Aside0.mk ((by rw [hg]; exact Nat.ne_of_gt (blk_lt (g := gb397) (o := .cells #[.bool a0_0, .int .i64 a0_1, .int .u64 a0_2, .int .i64 a0_3] 39 (0, 0)) (by exact bkS BK397.out)) : gb398 ≠ gb397)); replace BK397 := bkB BK397 hb; clear hb hbox hg) | ((with_reducible refine gate_dst (N := 4) rfl ?_); refine box_event ?hg (N := 4) ?hd (cs := #[.bool false, .slice none 0 0, .int .i64 0]) (t := 89) ?hr ?_; (case hd => rfl); (case hg => rfl); (case hr => first | (go_simp; done) | (go_simp; rfl)); intro gb399 hg w8 hbox hb; have BK399 := Aside0.mk (hbox); have GW399 := Aside0.mk ((by rw [hg]; exact (below_size (bG2 HB.out GE397.out GE398.out)) : w.heap.size ≤ gb399)); have GE399 := Aside0.mk ((by rw [hg]; exact (below_size (bG2 HB.out GE397.out GE398.out)) : w.heap.size ≤ gb399)); replace HB := Aside0.mk (below_step (bG2 HB.out GE397.out GE398.out) hb); have NB397_399 := Aside0.mk ((by rw [hg]; exact Nat.ne_of_lt (blk_lt (g := gb397) (o := .cells #[.bool a0_0, .int .i64 a0_1, .int .u64 a0_2, .int .i64 a0_3] 39 (0, 0)) (by exact bkS BK397.out)) : gb397 ≠ gb399)); have NB399_397 := Aside0.mk ((by rw [hg]; exact Nat.ne_of_gt (blk_lt (g := gb397) (o := .cells #[.bool a0_0, .int .i64 a0_1, .int .u64 a0_2, .int .i64 a0_3] 39 (0, 0)) (by exact bkS BK397.out)) : gb399 ≠ gb397)); replace BK397 := bkB BK397 hb; have NB398_399 := Aside0.mk ((by rw [hg]; exact Nat.ne_of_lt (blk_lt (g := gb398) (o := .cells #[.bool a1_0, .int .i64 a1_1, .int .u64 a1_2, .int .i64 a1_3] 39 (0, 0)) (by exact bkS BK398.out)) : gb398 ≠ gb399)); have NB399_398 := Aside0.mk ((by rw [hg]; exact Nat.ne_of_gt (blk_lt (g := gb398) (o := .cells #[.bool a1_0, .int .i64 a1_1, .int .u64 a1_2, .int .i64 a1_3] 39 (0, 0)) (by exact bkS BK398.out)) : gb399 ≠ gb398)); replace BK398 := bkB BK398 hb; clear hb hbox hg))
 replace BK397 := Aside0.mk (blk_drew BK397.out)
 replace BK398 := Aside0.mk (blk_drew BK398.out)
 replace BK399 := Aside0.mk (blk_drew BK399.out)
 replace HB := Aside0.mk (below_drew1 HB.out)
 refine start_ (n := 12) (S := fun w' => w'.cell? ⟨gb397, 0, none⟩ = some (.bool a0_0) ∧ w'.cell? ⟨gb397, 1, none⟩ = some (.int .i64 a0_1) ∧ w'.cell? ⟨gb397, 2, none⟩ = some (.int .u64 a0_2) ∧ w'.cell? ⟨gb397, 3, none⟩ = some (.int .i64 a0_3) ∧ w'.cell? ⟨gb398, 0, none⟩ = some (.bool a1_0) ∧ w'.cell? ⟨gb398, 1, none⟩ = some (.int .i64 a1_1) ∧ w'.cell? ⟨gb398, 2, none⟩ = some (.int .u64 a1_2) ∧ w'.cell? ⟨gb398, 3, none⟩ = some (.int .i64 a1_3)) (ds := []) #[false, false, false, false, false, false, false, false, false, false, false, false] (by kernel_rfl) rfl rfl ⟨(blk_cell BK397.out 0).trans rfl, (blk_cell BK397.out 1).trans rfl, (blk_cell BK397.out 2).trans rfl, (blk_cell BK397.out 3).trans rfl, (blk_cell BK398.out 0).trans rfl, (blk_cell BK398.out 1).trans rfl, (blk_cell BK398.out 2).trans rfl, (blk_cell BK398.out 3).trans rfl⟩ (fun hHeld => ?_); refine with_tabW soft_product.tab1 soft_product.bits1 (fun HT_ HW_ => ?_)
 generalize w8.drew = w9 at BK397 BK398 BK399 HB hHeld ⊢
 refine pure_ (i := 0) (N := some 8) (v := ?_) (a' := ?_) #[true, false, false, false, false, false, false, false, false, false, false, false] rfl rfl (any_of HT_.out (by kernel_rfl)) (fun _ _ _ h => h) (Or.inl ⟨by rfl, ?_⟩) ?_ ?_
 rotate_left
 ·intro w'
  go_simp
  with_reducible rfl
 rotate_left
 ·simp only [Act.put, List.setIfInBounds_toArray, List.set_cons_zero, List.set_cons_succ, i64_w, i32_w]
  rfl
 refine pure_ (i := 3) (N := some 11) (v := ?_) (a' := ?_) #[true, false, false, true, false, false, false, false, false, false, false, false] rfl rfl (any_of HT_.out (by kernel_rfl)) (fun _ _ _ h => h) (Or.inl ⟨by rfl, ?_⟩) ?_ ?_
 rotate_left
 ·intro w'
  go_simp
  with_reducible rfl
 rotate_left
 ·simp only [Act.put, List.setIfInBounds_toArray, List.set_cons_zero, List.set_cons_succ, i64_w, i32_w]
  rfl
 refine take_ (i := 1) (N := some 9) (v := ?_) (a' := ?_) #[true, true, false, true, false, false, false, false, false, false, false, false] rfl rfl (take_ofW HT_.out HW_.out (by kernel_rfl)) (fun _ _ _ h => h) (Or.inl ⟨by rfl, ?_⟩) hHeld ?_ ?_
 rotate_left
 ·rintro w' ⟨s0, s1, s2, s3, s4, s5, s6, s7⟩
  go_simp
  with_reducible rfl
 rotate_left
 ·simp only [Act.put, List.setIfInBounds_toArray, List.set_cons_zero, List.set_cons_succ, i64_w, i32_w]
  rfl
 refine take_ (i := 4) (N := some 12) (v := ?_) (a' := ?_) #[true, true, false, true, true, false, false, false, false, false, false, false] rfl rfl (take_ofW HT_.out HW_.out (by kernel_rfl)) (fun _ _ _ h => h) (Or.inl ⟨by rfl, ?_⟩) hHeld ?_ ?_
 rotate_left
 ·rintro w' ⟨s0, s1, s2, s3, s4, s5, s6, s7⟩
  go_simp
  with_reducible rfl
 rotate_left
 ·simp only [Act.put, List.setIfInBounds_toArray, List.set_cons_zero, List.set_cons_succ, i64_w, i32_w]
  rfl
 refine one_ (i := 2) (N := some 10) #[true, true, true, true, true, false, false, false, false, false, false, false] rfl rfl (one_of HT_.out (by kernel_rfl)) (by decide) (fun K hK => ?_)
 refine goes_ Tryd.func50 (by kernel_rfl) rfl #[.int .u64 a0_2] (by rfl) rfl rfl (by (try simp only [List.map_toArray, List.map_cons, List.map_nil]); first | done | rfl) ?_
 with_reducible refine (nat_FromUint.calls a0_2 t400 _ A3.out).mono ?_
 rintro e w10 ⟨v401, rfl, ho0, hb⟩
 refine ⟨_, rfl, ?_⟩
 have HO402 := Aside0.mk (Kd.R_lower (Kd.R_newM (M := fun k_ => (w.heap.size ≤ k_)) ho0 (below_size (bG3 HB.out GE397.out GE398.out GE399.out)) (fun k_ h_ => h_)) (below_size (bG3 HB.out GE397.out GE398.out GE399.out)))
 replace BK397 := bkB BK397 hb
 replace BK398 := bkB BK398 hb
 replace BK399 := bkB BK399 hb
 replace HB := Aside0.mk (below_step (bG3 HB.out GE397.out GE398.out GE399.out) hb)
 (try clear hb)
 (try clear hb2)
 (try clear hk)
 (try clear hi)
 (try clear ho0)
 refine hK.out _ _ ⟨(blk_cell BK397.out 0).trans rfl, (blk_cell BK397.out 1).trans rfl, (blk_cell BK397.out 2).trans rfl, (blk_cell BK397.out 3).trans rfl, (blk_cell BK398.out 0).trans rfl, (blk_cell BK398.out 1).trans rfl, (blk_cell BK398.out 2).trans rfl, (blk_cell BK398.out 3).trans rfl⟩ (fun hHeld => ?_)
 clear hK K
 refine norm_ (a' := ?_) ?_ ?_
 rotate_left
 ·show Act.put _ (some 10) _ = _
  simp only [Act.put, List.setIfInBounds_toArray, List.set_cons_zero, List.set_cons_succ, i64_w, i32_w]
  rfl
 refine one_ (i := 5) (N := some 13) #[true, true, true, true, true, true, false, false, false, false, false, false] rfl rfl (one_of HT_.out (by kernel_rfl)) (by decide) (fun K hK => ?_)
 refine goes_ Tryd.func50 (by kernel_rfl) rfl #[.int .u64 a1_2] (by rfl) rfl rfl (by (try simp only [List.map_toArray, List.map_cons, List.map_nil]); first | done | rfl) ?_
 with_reducible refine (nat_FromUint.calls a1_2 t403 _ A4.out).mono ?_
 rintro e w11 ⟨v404, rfl, ho0, hb⟩
 refine ⟨_, rfl, ?_⟩
 have HO405 := Aside0.mk (Kd.R_lower (Kd.R_new' (Kd.R_newM (M := fun k_ => (w.heap.size ≤ k_)) ho0 (below_size (bG3 HB.out GE397.out GE398.out GE399.out)) (fun k_ h_ => h_)) (Kd.R_lt (rS <| HO402.out))) (below_size (bG3 HB.out GE397.out GE398.out GE399.out)))
 replace HO402 := Aside0.mk (Kd.R_elder' (rS <| HO402.out) (Kd.R_base ho0) hb)
 replace BK397 := bkB BK397 hb
 replace BK398 := bkB BK398 hb
 replace BK399 := bkB BK399 hb
 replace HB := Aside0.mk (below_step (bG3 HB.out GE397.out GE398.out GE399.out) hb)
 (try clear hb)
 (try clear hb2)
 (try clear hk)
 (try clear hi)
 (try clear ho0)
 obtain ⟨Ao12, co12, eo12⟩ := Kd.R_slice HO402.out
 (first | subst eo12 | (injection eo12 with f1_ f2_ f3_; have f4_ := f1_.symm; have f5_ := f3_.symm; clear f1_ f2_ f3_; subst f4_; subst f5_))
 obtain ⟨Ao13, co13, eo13⟩ := Kd.R_slice HO405.out
 (first | subst eo13 | (injection eo13 with f1_ f2_ f3_; have f4_ := f1_.symm; have f5_ := f3_.symm; clear f1_ f2_ f3_; subst f4_; subst f5_))
 refine hK.out _ _ ⟨(blk_cell BK397.out 0).trans rfl, (blk_cell BK397.out 1).trans rfl, (blk_cell BK397.out 2).trans rfl, (blk_cell BK397.out 3).trans rfl, (blk_cell BK398.out 0).trans rfl, (blk_cell BK398.out 1).trans rfl, (blk_cell BK398.out 2).trans rfl, (blk_cell BK398.out 3).trans rfl⟩ (fun hHeld => ?_)
 clear hK K
 refine norm_ (a' := ?_) ?_ ?_
 rotate_left
 ·show Act.put _ (some 13) _ = _
  simp only [Act.put, List.setIfInBounds_toArray, List.set_cons_zero, List.set_cons_succ, i64_w, i32_w]
  rfl
 refine one_ (i := 6) (N := some 14) #[true, true, true, true, true, true, true, false, false, false, false, false] rfl rfl (one_of HT_.out (by kernel_rfl)) (by decide) (fun K hK => ?_)
 refine goes_ Tryd.func49 (by kernel_rfl) rfl #[.slice Ao12 t400.length co12, .slice Ao13 t403.length co13] (by rfl) rfl rfl (by (try simp only [List.map_toArray, List.map_cons, List.map_nil]); first | done | rfl) ?_
 with_reducible refine (nat_Mul.calls k _ _ t400 _ _ t403 t406 t409 _ ?side1 ?side2 ?side3 ?side4 A5.out).mono ?_
 (case side1 => exact cS (Kd.R_reads' HO402.out).2.2)
 (case side2 => exact (Kd.R_reads' HO402.out).2.1)
 (case side3 => exact cS (Kd.R_reads' HO405.out).2.2)
 (case side4 => exact (Kd.R_reads' HO405.out).2.1)
 rintro e w14 ⟨v407, rfl, ho0, hb⟩
 refine ⟨_, rfl, ?_⟩
 have HO408 := Aside0.mk (Kd.V_lower (Kd.V_mono (ok' := fun k_ => (w.heap.size ≤ k_) ∧ some k_ ≠ (.slice Ao12 t400.length co12 : Value).ownBlock ∧ some k_ ≠ (.slice Ao13 t403.length co13 : Value).ownBlock ∧ k_ ≠ gb397 ∧ k_ ≠ gb398 ∧ k_ ≠ gb399) ho0 (fun k_ hk_ => ⟨(Nat.le_trans (below_size (bG3 HB.out GE397.out GE398.out GE399.out)) hk_), (Kd.fresh' (Kd.R_lt (rS <| HO402.out)) k_ hk_), (Kd.fresh' (Kd.R_lt (rS <| HO405.out)) k_ hk_), (Kd.freshB (g := gb397) (o := .cells #[.bool a0_0, .int .i64 a0_1, .int .u64 a0_2, .int .i64 a0_3] 39 (0, 0)) (by exact bkS BK397.out) k_ hk_), (Kd.freshB (g := gb398) (o := .cells #[.bool a1_0, .int .i64 a1_1, .int .u64 a1_2, .int .i64 a1_3] 39 (0, 0)) (by exact bkS BK398.out) k_ hk_), (Kd.freshB (g := gb399) (o := .cells #[.bool false, .slice none 0 0, .int .i64 0] 89 (0, 0)) (by exact bkS BK399.out) k_ hk_)⟩)) (below_size (bG3 HB.out GE397.out GE398.out GE399.out)))
 replace HO402 := Aside0.mk (Kd.R_below (rS <| HO402.out) hb)
 replace HO405 := Aside0.mk (Kd.R_below (rS <| HO405.out) hb)
 replace BK397 := bkB BK397 hb
 replace BK398 := bkB BK398 hb
 replace BK399 := bkB BK399 hb
 replace HB := Aside0.mk (below_step (bG3 HB.out GE397.out GE398.out GE399.out) hb)
 (try clear hb)
 (try clear hb2)
 (try clear hk)
 (try clear hi)
 (try clear ho0)
 refine hK.out _ _ ⟨(blk_cell BK397.out 0).trans rfl, (blk_cell BK397.out 1).trans rfl, (blk_cell BK397.out 2).trans rfl, (blk_cell BK397.out 3).trans rfl, (blk_cell BK398.out 0).trans rfl, (blk_cell BK398.out 1).trans rfl, (blk_cell BK398.out 2).trans rfl, (blk_cell BK398.out 3).trans rfl⟩ (fun hHeld => ?_)
 clear hK K
 refine norm_ (a' := ?_) ?_ ?_
 rotate_left
 ·show Act.put _ (some 14) _ = _
  simp only [Act.put, List.setIfInBounds_toArray, List.set_cons_zero, List.set_cons_succ, i64_w, i32_w]
  rfl
 refine pure_ (i := 7) (N := some 7) (v := ?_) (a' := ?_) #[true, true, true, true, true, true, true, true, false, false, false, false] rfl rfl (any_of HT_.out (by kernel_rfl)) (fun _ _ _ h => h) (Or.inl ⟨by rfl, ?_⟩) ?_ ?_
 rotate_left
 ·intro w'
  go_simp
  with_reducible rfl
 rotate_left
 ·simp only [Act.put, List.setIfInBounds_toArray, List.set_cons_zero, List.set_cons_succ, i64_w, i32_w]
  rfl
 refine pure_ (i := 8) (N := some 15) (v := ?_) (a' := ?_) #[true, true, true, true, true, true, true, true, true, false, false, false] rfl rfl (any_of HT_.out (by kernel_rfl)) (fun _ _ _ h => h) (Or.inl ⟨by rfl, ?_⟩) ?_ ?_
 rotate_left
 ·intro w'
  go_simp
  with_reducible rfl
 rotate_left
 ·simp only [Act.put, List.setIfInBounds_toArray, List.set_cons_zero, List.set_cons_succ, i64_w, i32_w]
  rfl
 refine pure_ (i := 9) (N := some 16) (v := ?_) (a' := ?_) #[true, true, true, true, true, true, true, true, true, true, false, false] rfl rfl (any_of HT_.out (by kernel_rfl)) (fun _ _ _ h => h) (Or.inl ⟨by rfl, ?_⟩) ?_ ?_
 rotate_left
 ·intro w'
  go_simp
  with_reducible rfl
 rotate_left
 ·simp only [Act.put, List.setIfInBounds_toArray, List.set_cons_zero, List.set_cons_succ, i64_w, i32_w]
  rfl
 refine pure_ (i := 10) (N := some 5) (v := ?_) (a' := ?_) #[true, true, true, true, true, true, true, true, true, true, true, false] rfl rfl (any_of HT_.out (by kernel_rfl)) (fun _ _ _ h => h) (Or.inl ⟨by rfl, ?_⟩) ?_ ?_
 rotate_left
 ·intro w'
  go_simp
  with_reducible rfl
 rotate_left
 ·simp only [Act.put, List.setIfInBounds_toArray, List.set_cons_zero, List.set_cons_succ, i64_w, i32_w]
  rfl
 refine pure_ (i := 11) (N := some 6) (v := ?_) (a' := ?_) #[true, true, true, true, true, true, true, true, true, true, true, true] rfl rfl (any_of HT_.out (by kernel_rfl)) (fun _ _ _ h => h) (Or.inl ⟨by rfl, ?_⟩) ?_ ?_
 rotate_left
 ·intro w'
  go_simp
  with_reducible rfl
 rotate_left
 ·simp only [Act.put, List.setIfInBounds_toArray, List.set_cons_zero, List.set_cons_succ, i64_w, i32_w]
  rfl
 refine done_ (done_of HT_.out (by kernel_rfl)) ?_
 have hnb15 := NB397_398.out
 have hnc15 := NB398_397.out
 have hnb16 := NB397_399.out
 have hnc16 := NB399_397.out
 have hcz17_0 : w14.cell? ⟨gb397, 0, none⟩ = some (.bool a0_0) := (blk_cell BK397.out 0).trans rfl
 have hcz17_1 : w14.cell? ⟨gb397, 1, none⟩ = some (.int .i64 a0_1) := (blk_cell BK397.out 1).trans rfl
 have hcz17_2 : w14.cell? ⟨gb397, 2, none⟩ = some (.int .u64 a0_2) := (blk_cell BK397.out 2).trans rfl
 have hcz17_3 : w14.cell? ⟨gb397, 3, none⟩ = some (.int .i64 a0_3) := (blk_cell BK397.out 3).trans rfl
 have hfz17_0 := blk_frozen BK397.out 0
 have hfz17_1 := blk_frozen BK397.out 1
 have hfz17_2 := blk_frozen BK397.out 2
 have hfz17_3 := blk_frozen BK397.out 3
 have hnb18 := NB398_399.out
 have hnc18 := NB399_398.out
 have hcz19_0 : w14.cell? ⟨gb398, 0, none⟩ = some (.bool a1_0) := (blk_cell BK398.out 0).trans rfl
 have hcz19_1 : w14.cell? ⟨gb398, 1, none⟩ = some (.int .i64 a1_1) := (blk_cell BK398.out 1).trans rfl
 have hcz19_2 : w14.cell? ⟨gb398, 2, none⟩ = some (.int .u64 a1_2) := (blk_cell BK398.out 2).trans rfl
 have hcz19_3 : w14.cell? ⟨gb398, 3, none⟩ = some (.int .i64 a1_3) := (blk_cell BK398.out 3).trans rfl
 have hfz19_0 := blk_frozen BK398.out 0
 have hfz19_1 := blk_frozen BK398.out 1
 have hfz19_2 := blk_frozen BK398.out 2
 have hfz19_3 := blk_frozen BK398.out 3
 obtain ⟨Ao20, co20, eo20⟩ := Kd.V_slice HO408.out
 subst eo20
 have hcz21_0 : w14.cell? ⟨gb399, 0, none⟩ = some (.bool false) := (blk_cell BK399.out 0).trans rfl
 have hcz21_1 : w14.cell? ⟨gb399, 1, none⟩ = some (.slice none 0 0) := (blk_cell BK399.out 1).trans rfl
 have hcz21_2 : w14.cell? ⟨gb399, 2, none⟩ = some (.int .i64 0) := (blk_cell BK399.out 2).trans rfl
 have hfz21_0 := blk_frozen BK399.out 0
 have hfz21_1 := blk_frozen BK399.out 1
 have hfz21_2 := blk_frozen BK399.out 2
 try go_wp2
 refine bodyPost_ret (results_cell_row rfl _ _ gb399 89 #[.bool (a0_0 != a1_0), .slice Ao20 t406.length co20, .int .i64 (wrap64 (a0_3 + a1_3))] (0, 0) _ rfl (by refine blkP (cs := #[.bool (a0_0 != a1_0), .slice Ao20 t406.length co20, .int .i64 0]) ?_ 2 _ rfl; refine blkP (cs := #[.bool (a0_0 != a1_0), .slice none 0 0, .int .i64 0]) ?_ 1 _ rfl; refine blkP (cs := #[.bool false, .slice none 0 0, .int .i64 0]) ?_ 0 _ rfl; exact bkS BK399.out) Tryd.underlying89 rfl (by kernel_rfl)) rfl ?_
 exact ⟨_, by first | rfl | (simp [errW_none, errW_some] <;> rfl) | (simp [*, errW_none, errW_some] <;> rfl), by (with_reducible repeat (first | apply Kd.V_alloc | apply Kd.V_drewN | apply Kd.V_drew)); exact Kd.V_mono (Kd.V_far (p := ⟨gb399, 2, none⟩) (Kd.V_far (p := ⟨gb399, 1, none⟩) (Kd.V_far (p := ⟨gb399, 0, none⟩) (Kd.V_mono HO408.out (fun k_ hk => (⟨hk, hk.2.2.2.2.2⟩ : _ ∧ k_ ≠ gb399))) (fun _ hk => hk.2) (.bool (a0_0 != a1_0))) (fun _ hk => hk.2) (.slice Ao20 t406.length co20)) (fun _ hk => hk.2) (.int .i64 (wrap64 (a0_3 + a1_3)))) (fun _ hk => hk.1.1), by repeat (first | (with_reducible first | exact HB.out | apply below_alloc | apply pw_below_drewN | apply below_drew1 | refine below_set ?_ GE397.out | refine below_set ?_ GE398.out | refine below_set ?_ GE399.out) | exact HB.out)⟩

end Go.Proofs.YtcdnoklokoplaaaDoor.PE
