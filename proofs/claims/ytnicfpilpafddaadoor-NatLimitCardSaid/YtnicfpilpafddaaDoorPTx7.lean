-- printed by a program
import Derived.Test.YtnicfpilpafddaaDoorPTx0
import Derived.Test.YtnicfpilpafddaaDoorPTx1
import Derived.Test.YtnicfpilpafddaaDoorPTx2
import Derived.Test.YtnicfpilpafddaaDoorPTx3
import Derived.Test.YtnicfpilpafddaaDoorPTx4
import Derived.Test.YtnicfpilpafddaaDoorPTx5
import Derived.Test.YtnicfpilpafddaaDoorPTx6
namespace Go.Proofs.YtnicfpilpafddaaDoor.PT
open Go.Proofs.YtnicfpilpafddaaDoorX
open Go.RowKit Go.Proofs.YtnicfpilpafddaaDoorW.PrintWords Go.Proofs.YtnicfpilpafddaaDoorW.PrintLast Go.Proofs.YtnicfpilpafddaaDoorW.PrintMore
attribute [local go_sem] max2_int min2_int max_two min_two max_three min_three max_four min_four   -- for this text's walks alone
set_option linter.unusedVariables false
set_option linter.unusedSimpArgs false

/-! ### abacuslaw01_NatLimit: function 4 -/
mutual
def abacuslaw01_NatLimit.j0 : Nat → Int → List Int → List Int → Bool → Option (Bool)
  | 0, _, _, _, _ => none
  | k + 1, x0, x3, x4, x66 => if x66 = true then (some false) else ((nat_Add.f k x4 x4).bind fun bt323 => ((nat_Mul.f k (([2] : List Int)) x4).bind fun bt330 => ((nat_MulAdd.f k x4 2 0).bind fun bt334 => ((nat_Shl.f k x4 1).bind fun bt338 => (if x0 = 262143 then (if bt323.2 = 2 then (if bt330.2 = 2 then (if bt334.2 = 2 then (if bt338.2 = 2 then (abacuslaw01_NatLimit.j1 k x0 x3 x4) else (some false)) else (some false)) else (some false)) else (some false)) else (if bt323.2 = 0 then (if bt330.2 = 0 then (if bt334.2 = 0 then (if bt338.2 = 0 then ((abacuslaw01_same.f k bt323.1 bt330.1).bind fun t342 => (if t342 = true then ((abacuslaw01_same.f k bt323.1 bt334.1).bind fun t343 => (if t343 = true then ((abacuslaw01_same.f k bt323.1 bt338.1).bind fun t344 => (if t344 = true then ((nat_BitLen.f k bt323.1).bind fun t345 => (if t345 = (wrap64 (x0 + 2)) then (abacuslaw01_NatLimit.j1 k x0 x3 x4) else (some false))) else (some false))) else (some false))) else (some false))) else (some false)) else (some false)) else (some false)) else (some false)))))))
def abacuslaw01_NatLimit.j1 : Nat → Int → List Int → List Int → Option (Bool)
  | 0, _, _, _ => none
  | k + 1, x0, x3, x4 => (nat_Sub.f k x4 x3).bind fun bt346 => (if bt346.2 = 0 then ((nat_BitLen.f k bt346.1).bind fun t350 => (abacuslaw01_NatLimit.j2 k x0 bt346.1 (t350 != x0))) else (abacuslaw01_NatLimit.j2 k x0 bt346.1 true))
def abacuslaw01_NatLimit.j2 : Nat → Int → List Int → Bool → Option (Bool)
  | 0, _, _, _ => none
  | k + 1, x0, x14, x157 => if x157 = true then (some false) else ((nat_Shr.f k x14 (wrap64 (Int.tdiv x0 2))).bind fun bt351 => (if bt351.2.2 = 0 then (if (wrap64 (Int.tdiv x0 2)) > 0 then (if (bt351.2.1 == (decide (x0 > 0))) = true then ((nat_BitLen.f k bt351.1).bind fun t356 => (some (t356 == (wrap64 (x0 - (wrap64 (Int.tdiv x0 2))))))) else (some false)) else (if (bt351.2.1 == false) = true then ((nat_BitLen.f k bt351.1).bind fun t357 => (some (t357 == (wrap64 (x0 - (wrap64 (Int.tdiv x0 2))))))) else (some false))) else (some false)))
end
def abacuslaw01_NatLimit.f (k : Nat) (a0 : Int) : Option (Bool) := (abacuslaw01_awake.f k).bind fun t313 => (if t313 = true then ((some (([1] : List Int) : List Int)).bind fun y314 => ((nat_Shl.f k y314 a0).bind fun bt317 => (if a0 < 0 then (if bt317.2 = 1 then (some ((bt317.1.length : Int) == 0)) else (some false)) else (if a0 ≥ 262144 then (if bt317.2 = 2 then (some ((bt317.1.length : Int) == 0)) else (some false)) else (if bt317.2 = 0 then ((nat_BitLen.f k bt317.1).bind fun t321 => (if t321 = (wrap64 (a0 + 1)) then ((nat_Trail.f k bt317.1).bind fun t322 => (if t322 = a0 then (abacuslaw01_NatLimit.j0 k a0 y314 bt317.1 ((bt317.1.length : Int) != (wrap64 ((wrap64 (Int.tdiv a0 64)) + 1)))) else (abacuslaw01_NatLimit.j0 k a0 y314 bt317.1 true))) else (abacuslaw01_NatLimit.j0 k a0 y314 bt317.1 true))) else (abacuslaw01_NatLimit.j0 k a0 y314 bt317.1 true)))))) else (some false))
theorem abacuslaw01_NatLimit.mono_l : ∀ k, (∀ y0 y1 y2 y3, LeO (abacuslaw01_NatLimit.j0 k y0 y1 y2 y3) (abacuslaw01_NatLimit.j0 (k + 1) y0 y1 y2 y3)) ∧ (∀ y0 y1 y2, LeO (abacuslaw01_NatLimit.j1 k y0 y1 y2) (abacuslaw01_NatLimit.j1 (k + 1) y0 y1 y2)) ∧ (∀ y0 y1 y2, LeO (abacuslaw01_NatLimit.j2 k y0 y1 y2) (abacuslaw01_NatLimit.j2 (k + 1) y0 y1 y2))
  | 0 => ⟨fun _ _ _ _ r h => by simp [abacuslaw01_NatLimit.j0] at h, fun _ _ _ r h => by simp [abacuslaw01_NatLimit.j1] at h, fun _ _ _ r h => by simp [abacuslaw01_NatLimit.j2] at h⟩
  | k + 1 => by
    obtain ⟨ih0, ih1, ih2⟩ := abacuslaw01_NatLimit.mono_l k
    refine ⟨?_, ?_, ?_⟩
    · intro y0 y1 y2 y3
      unfold abacuslaw01_NatLimit.j0
      repeat' first
      | (with_reducible exact ih0 _ _ _ _)
      | (with_reducible exact ih1 _ _ _)
      | (with_reducible exact ih2 _ _ _)
      | (with_reducible exact abacuslaw01_awake.mono _)
      | (with_reducible exact abacuslaw01_same.mono _ _ _)
      | (with_reducible exact nat_Add.mono _ _ _)
      | (with_reducible exact nat_BitLen.mono _ _)
      | (with_reducible exact nat_Mul.mono _ _ _)
      | (with_reducible exact nat_MulAdd.mono _ _ _ _)
      | (with_reducible exact nat_Shl.mono _ _ _)
      | (with_reducible exact nat_Shr.mono _ _ _)
      | (with_reducible exact nat_Sub.mono _ _ _)
      | (with_reducible exact nat_Trail.mono _ _)
      | (with_reducible exact LeO.refl _)
      | (with_reducible exact LeO.none _)
      | (with_reducible refine LeO.ite ?_ ?_)
      | (with_reducible refine LeO.bind ?_ (fun _ => ?_))
      | exact ih0 _ _ _ _
      | exact ih1 _ _ _
      | exact ih2 _ _ _
      | exact abacuslaw01_awake.mono _
      | exact abacuslaw01_same.mono _ _ _
      | exact nat_Add.mono _ _ _
      | exact nat_BitLen.mono _ _
      | exact nat_Mul.mono _ _ _
      | exact nat_MulAdd.mono _ _ _ _
      | exact nat_Shl.mono _ _ _
      | exact nat_Shr.mono _ _ _
      | exact nat_Sub.mono _ _ _
      | exact nat_Trail.mono _ _
      | exact LeO.none _
      | refine LeO.ite ?_ ?_
      | refine LeO.bind ?_ (fun _ => ?_)
    · intro y0 y1 y2
      unfold abacuslaw01_NatLimit.j1
      repeat' first
      | (with_reducible exact ih0 _ _ _ _)
      | (with_reducible exact ih1 _ _ _)
      | (with_reducible exact ih2 _ _ _)
      | (with_reducible exact abacuslaw01_awake.mono _)
      | (with_reducible exact abacuslaw01_same.mono _ _ _)
      | (with_reducible exact nat_Add.mono _ _ _)
      | (with_reducible exact nat_BitLen.mono _ _)
      | (with_reducible exact nat_Mul.mono _ _ _)
      | (with_reducible exact nat_MulAdd.mono _ _ _ _)
      | (with_reducible exact nat_Shl.mono _ _ _)
      | (with_reducible exact nat_Shr.mono _ _ _)
      | (with_reducible exact nat_Sub.mono _ _ _)
      | (with_reducible exact nat_Trail.mono _ _)
      | (with_reducible exact LeO.refl _)
      | (with_reducible exact LeO.none _)
      | (with_reducible refine LeO.ite ?_ ?_)
      | (with_reducible refine LeO.bind ?_ (fun _ => ?_))
      | exact ih0 _ _ _ _
      | exact ih1 _ _ _
      | exact ih2 _ _ _
      | exact abacuslaw01_awake.mono _
      | exact abacuslaw01_same.mono _ _ _
      | exact nat_Add.mono _ _ _
      | exact nat_BitLen.mono _ _
      | exact nat_Mul.mono _ _ _
      | exact nat_MulAdd.mono _ _ _ _
      | exact nat_Shl.mono _ _ _
      | exact nat_Shr.mono _ _ _
      | exact nat_Sub.mono _ _ _
      | exact nat_Trail.mono _ _
      | exact LeO.none _
      | refine LeO.ite ?_ ?_
      | refine LeO.bind ?_ (fun _ => ?_)
    · intro y0 y1 y2
      unfold abacuslaw01_NatLimit.j2
      repeat' first
      | (with_reducible exact ih0 _ _ _ _)
      | (with_reducible exact ih1 _ _ _)
      | (with_reducible exact ih2 _ _ _)
      | (with_reducible exact abacuslaw01_awake.mono _)
      | (with_reducible exact abacuslaw01_same.mono _ _ _)
      | (with_reducible exact nat_Add.mono _ _ _)
      | (with_reducible exact nat_BitLen.mono _ _)
      | (with_reducible exact nat_Mul.mono _ _ _)
      | (with_reducible exact nat_MulAdd.mono _ _ _ _)
      | (with_reducible exact nat_Shl.mono _ _ _)
      | (with_reducible exact nat_Shr.mono _ _ _)
      | (with_reducible exact nat_Sub.mono _ _ _)
      | (with_reducible exact nat_Trail.mono _ _)
      | (with_reducible exact LeO.refl _)
      | (with_reducible exact LeO.none _)
      | (with_reducible refine LeO.ite ?_ ?_)
      | (with_reducible refine LeO.bind ?_ (fun _ => ?_))
      | exact ih0 _ _ _ _
      | exact ih1 _ _ _
      | exact ih2 _ _ _
      | exact abacuslaw01_awake.mono _
      | exact abacuslaw01_same.mono _ _ _
      | exact nat_Add.mono _ _ _
      | exact nat_BitLen.mono _ _
      | exact nat_Mul.mono _ _ _
      | exact nat_MulAdd.mono _ _ _ _
      | exact nat_Shl.mono _ _ _
      | exact nat_Shr.mono _ _ _
      | exact nat_Sub.mono _ _ _
      | exact nat_Trail.mono _ _
      | exact LeO.none _
      | refine LeO.ite ?_ ?_
      | refine LeO.bind ?_ (fun _ => ?_)
theorem abacuslaw01_NatLimit.mono : ∀ a0 k, LeO (abacuslaw01_NatLimit.f k a0) (abacuslaw01_NatLimit.f (k + 1) a0) := by
  intro a0 k
  obtain ⟨ih0, ih1, ih2⟩ := abacuslaw01_NatLimit.mono_l k
  unfold abacuslaw01_NatLimit.f
  repeat' first
      | (with_reducible exact ih0 _ _ _ _)
      | (with_reducible exact ih1 _ _ _)
      | (with_reducible exact ih2 _ _ _)
      | (with_reducible exact abacuslaw01_awake.mono _)
      | (with_reducible exact abacuslaw01_same.mono _ _ _)
      | (with_reducible exact nat_Add.mono _ _ _)
      | (with_reducible exact nat_BitLen.mono _ _)
      | (with_reducible exact nat_Mul.mono _ _ _)
      | (with_reducible exact nat_MulAdd.mono _ _ _ _)
      | (with_reducible exact nat_Shl.mono _ _ _)
      | (with_reducible exact nat_Shr.mono _ _ _)
      | (with_reducible exact nat_Sub.mono _ _ _)
      | (with_reducible exact nat_Trail.mono _ _)
      | (with_reducible exact LeO.refl _)
      | (with_reducible exact LeO.none _)
      | (with_reducible refine LeO.ite ?_ ?_)
      | (with_reducible refine LeO.bind ?_ (fun _ => ?_))
      | exact ih0 _ _ _ _
      | exact ih1 _ _ _
      | exact ih2 _ _ _
      | exact abacuslaw01_awake.mono _
      | exact abacuslaw01_same.mono _ _ _
      | exact nat_Add.mono _ _ _
      | exact nat_BitLen.mono _ _
      | exact nat_Mul.mono _ _ _
      | exact nat_MulAdd.mono _ _ _ _
      | exact nat_Shl.mono _ _ _
      | exact nat_Shr.mono _ _ _
      | exact nat_Sub.mono _ _ _
      | exact nat_Trail.mono _ _
      | exact LeO.none _
      | refine LeO.ite ?_ ?_
      | refine LeO.bind ?_ (fun _ => ?_)
set_option maxHeartbeats 8000000 in
set_option maxRecDepth 100000 in
theorem abacuslaw01_NatLimit.calls (k : Nat) (a0 : Int) (r : Bool) (w : World) (hT : Kd.C (Kd.int .u8) w (some ⟨0, 0, none⟩) 64 tabL) (h : abacuslaw01_NatLimit.f k a0 = some r) :
    Calls Tryd.prog 4 #[.int .i64 a0] w fun e w' => e = .returned (.bool r) ∧ Below w.heap.size w w' := by
  have HT := Aside0.mk hT
  clear hT
  have HB := Aside0.mk (Below.refl w.heap.size w)
  have H : ((abacuslaw01_awake.f k).bind fun t313 => (if t313 = true then ((some (([1] : List Int) : List Int)).bind fun y314 => ((nat_Shl.f k y314 a0).bind fun bt317 => (if a0 < 0 then (if bt317.2 = 1 then (some ((bt317.1.length : Int) == 0)) else (some false)) else (if a0 ≥ 262144 then (if bt317.2 = 2 then (some ((bt317.1.length : Int) == 0)) else (some false)) else (if bt317.2 = 0 then ((nat_BitLen.f k bt317.1).bind fun t321 => (if t321 = (wrap64 (a0 + 1)) then ((nat_Trail.f k bt317.1).bind fun t322 => (if t322 = a0 then (abacuslaw01_NatLimit.j0 k a0 y314 bt317.1 ((bt317.1.length : Int) != (wrap64 ((wrap64 (Int.tdiv a0 64)) + 1)))) else (abacuslaw01_NatLimit.j0 k a0 y314 bt317.1 true))) else (abacuslaw01_NatLimit.j0 k a0 y314 bt317.1 true))) else (abacuslaw01_NatLimit.j0 k a0 y314 bt317.1 true)))))) else (some false))) = some r := h
  clear h
  replace H := Option.bind_eq_some_iff.mp H
  obtain ⟨t313, A20, H⟩ := H
  replace H : (if t313 = true then ((some (([1] : List Int) : List Int)).bind fun y314 => ((nat_Shl.f k y314 a0).bind fun bt317 => (if a0 < 0 then (if bt317.2 = 1 then (some ((bt317.1.length : Int) == 0)) else (some false)) else (if a0 ≥ 262144 then (if bt317.2 = 2 then (some ((bt317.1.length : Int) == 0)) else (some false)) else (if bt317.2 = 0 then ((nat_BitLen.f k bt317.1).bind fun t321 => (if t321 = (wrap64 (a0 + 1)) then ((nat_Trail.f k bt317.1).bind fun t322 => (if t322 = a0 then (abacuslaw01_NatLimit.j0 k a0 y314 bt317.1 ((bt317.1.length : Int) != (wrap64 ((wrap64 (Int.tdiv a0 64)) + 1)))) else (abacuslaw01_NatLimit.j0 k a0 y314 bt317.1 true))) else (abacuslaw01_NatLimit.j0 k a0 y314 bt317.1 true))) else (abacuslaw01_NatLimit.j0 k a0 y314 bt317.1 true)))))) else (some false)) = some r := H
  have A2 := Aside0.mk A20
  clear A20
  by_cases c3 : t313 = true
  · subst c3
    have H1 : ((some (([1] : List Int) : List Int)).bind fun y314 => ((nat_Shl.f k y314 a0).bind fun bt317 => (if a0 < 0 then (if bt317.2 = 1 then (some ((bt317.1.length : Int) == 0)) else (some false)) else (if a0 ≥ 262144 then (if bt317.2 = 2 then (some ((bt317.1.length : Int) == 0)) else (some false)) else (if bt317.2 = 0 then ((nat_BitLen.f k bt317.1).bind fun t321 => (if t321 = (wrap64 (a0 + 1)) then ((nat_Trail.f k bt317.1).bind fun t322 => (if t322 = a0 then (abacuslaw01_NatLimit.j0 k a0 y314 bt317.1 ((bt317.1.length : Int) != (wrap64 ((wrap64 (Int.tdiv a0 64)) + 1)))) else (abacuslaw01_NatLimit.j0 k a0 y314 bt317.1 true))) else (abacuslaw01_NatLimit.j0 k a0 y314 bt317.1 true))) else (abacuslaw01_NatLimit.j0 k a0 y314 bt317.1 true)))))) = some r := by rw [if_pos rfl] at H; exact H
    clear H
    have H := H1
    clear H1
    obtain ⟨y314, hy314⟩ : ∃ y_ : List Int, y_ = (([1] : List Int)) := ⟨_, rfl⟩
    replace H : ((nat_Shl.f k y314 a0).bind fun bt317 => (if a0 < 0 then (if bt317.2 = 1 then (some ((bt317.1.length : Int) == 0)) else (some false)) else (if a0 ≥ 262144 then (if bt317.2 = 2 then (some ((bt317.1.length : Int) == 0)) else (some false)) else (if bt317.2 = 0 then ((nat_BitLen.f k bt317.1).bind fun t321 => (if t321 = (wrap64 (a0 + 1)) then ((nat_Trail.f k bt317.1).bind fun t322 => (if t322 = a0 then (abacuslaw01_NatLimit.j0 k a0 y314 bt317.1 ((bt317.1.length : Int) != (wrap64 ((wrap64 (Int.tdiv a0 64)) + 1)))) else (abacuslaw01_NatLimit.j0 k a0 y314 bt317.1 true))) else (abacuslaw01_NatLimit.j0 k a0 y314 bt317.1 true))) else (abacuslaw01_NatLimit.j0 k a0 y314 bt317.1 true))))) = some r := by first | (rw [hy314]; with_reducible exact H) | (have H2_ := (Option.bind_some _ _).symm.trans H; rw [hy314]; with_reducible exact H2_) | (have H2_ := (Option.bind_some _ _).symm.trans H; with_reducible exact H2_) | with_reducible exact H | (rw [hy314]; exact H) | exact H
    have Ny314 := Aside0.mk hy314
    clear hy314
    replace H := Option.bind_eq_some_iff.mp H
    obtain ⟨⟨t317, t320⟩, A40, H⟩ := H
    replace H : (if a0 < 0 then (if t320 = 1 then (some ((t317.length : Int) == 0)) else (some false)) else (if a0 ≥ 262144 then (if t320 = 2 then (some ((t317.length : Int) == 0)) else (some false)) else (if t320 = 0 then ((nat_BitLen.f k t317).bind fun t321 => (if t321 = (wrap64 (a0 + 1)) then ((nat_Trail.f k t317).bind fun t322 => (if t322 = a0 then (abacuslaw01_NatLimit.j0 k a0 y314 t317 ((t317.length : Int) != (wrap64 ((wrap64 (Int.tdiv a0 64)) + 1)))) else (abacuslaw01_NatLimit.j0 k a0 y314 t317 true))) else (abacuslaw01_NatLimit.j0 k a0 y314 t317 true))) else (abacuslaw01_NatLimit.j0 k a0 y314 t317 true)))) = some r := H
    have A4 := Aside0.mk A40
    clear A40
    by_cases c5 : a0 < 0
    · rw [if_pos c5] at H
      have c5b0 : decide (a0 < 0) = true := decide_eq_true c5
      clear c5
      by_cases c6 : t320 = 1
      · rw [if_pos c6] at H
        have c6b0 : (t320 == 1) = true := beq_iff_eq.mpr c6
        have c6b1 : (t320 != 1) = false := bne_eq_false_iff_eq.mpr c6
        clear c6
        obtain rfl := Option.some.inj H
        go_enter Tryd.func4, Tryd.ntmps4
        go_wp2_with (first | ((with_reducible refine gate_callee (f := 8) rfl ?_); refine goesL_ (some 17) rfl rfl Tryd.func8 (by kernel_rfl) rfl #[] rfl (by (try simp only [List.map_toArray, List.map_cons, List.map_nil]); first | done | rfl | (simp only [List.length_drop, List.length_take]; rfl)) ?_; (with_reducible refine (abacuslaw01_awake.calls k  true _ A2.out).mono ?_); rintro e w7 ⟨rfl, hb⟩; refine ⟨_, rfl, ?_⟩; have n0_ := Aside0.mk (below_step (by repeat (first | (with_reducible first | exact HB.out | apply below_alloc | apply pw_below_drewN | apply below_drew1) | exact HB.out)) hb); clear HB; have HB := n0_; clear n0_; (try clear hb); (try clear hb2); (try clear hk); (try clear hi)) | ((with_reducible refine gate_dst (N := 19) rfl ?_); (try (refine gate_guard (by rfl) ?_; dsimp only)); refine Kd.R_lit (Kd.int .u64) _ 29 ?hg (N := 19) ?hd (xs := ([1] : List Int)) (inner := [.int .u64 1]) (ok := fun _ => True) (okp := fun _ => True) ?hr ?hp (fun _ hk => hk) trivial (Below.refl _ _) (Nat.le_refl _) (by simp) ?_; (case hd => rfl); (case hg => rfl); (case hr => first | (go_simp; done) | (go_simp; rfl)); (case hp => exact (Reps.one (show Kd.M (Kd.int .u64) _ _ _ 1 [.int .u64 1] from rfl) (Reps.none _ _))); intro v315 w8 ho9 hb hg_ hnew_; clear hg_ hnew_; (first | rw [← Ny314.out] at ho9 | (simp only [Int.reduceToNat] at ho9; rw [← Ny314.out] at ho9)); have n0_ := Aside0.mk (Kd.R_lower ho9 (below_size (by repeat (first | (with_reducible first | exact HB.out | apply below_alloc | apply pw_below_drewN | apply below_drew1) | exact HB.out)))); have n1_ := Aside0.mk (below_step (by repeat (first | (with_reducible first | exact HB.out | apply below_alloc | apply pw_below_drewN | apply below_drew1) | exact HB.out)) hb); clear HB; have HO316 := n0_; have HB := n1_; clear n0_ n1_; clear hb ho9; obtain ⟨Ao10, co10, eo10⟩ := Kd.R_slice HO316.out; subst eo10) | ((with_reducible refine gate_callee (f := 15) rfl ?_); refine goesL_ (some 23) rfl rfl Tryd.func15 (by kernel_rfl) rfl #[.slice Ao10 y314.length co10, .int .i64 a0] rfl (by (try simp only [List.map_toArray, List.map_cons, List.map_nil]); first | done | rfl | (simp only [List.length_drop, List.length_take]; rfl)) ?_; (with_reducible refine (nat_Shl.calls k _ _ y314 a0 t317 t320 _ ?side1 ?side2 A4.out).mono ?_); (case side1 => repeat (first | exact (Kd.R_reads' HO316.out).2.2 | (with_reducible refine Kd.C_alloc ?_ _) | (with_reducible refine Kd.C_drewN ?_ _) | (with_reducible refine Kd.C_drew ?_))); (case side2 => exact (Kd.R_reads' HO316.out).2.1); rintro e w11 ⟨v318, rfl, ho0, hb⟩; refine ⟨_, rfl, ?_⟩; have n0_ := Aside0.mk (Kd.R_below (by (with_reducible repeat (first | apply Kd.R_alloc | apply Kd.R_drewN | apply Kd.R_drew)); exact HO316.out) hb); have n1_ := Aside0.mk (Kd.V_lower (Kd.V_mono (ok' := fun k_ => some k_ ≠ (.slice Ao10 y314.length co10 : Value).ownBlock) ho0 (fun k_ hk_ => (Kd.fresh' (Kd.R_lt (by (with_reducible repeat (first | apply Kd.R_alloc | apply Kd.R_drewN | apply Kd.R_drew)); exact HO316.out)) k_ hk_))) (below_size (by repeat (first | (with_reducible first | exact HB.out | apply below_alloc | apply pw_below_drewN | apply below_drew1) | exact HB.out)))); have n2_ := Aside0.mk (below_step (by repeat (first | (with_reducible first | exact HB.out | apply below_alloc | apply pw_below_drewN | apply below_drew1) | exact HB.out)) hb); clear HO316; clear HB; have HO316 := n0_; have HO319 := n1_; have HB := n2_; clear n0_ n1_ n2_; (try clear hb); (try clear hb2); (try clear hk); (try clear hi); (try clear ho0); obtain ⟨Ao12, co12, eo12⟩ := Kd.V_slice HO319.out; subst eo12))
        go_ret
        exact ⟨by first | rfl | (simp [errW_none, errW_some] <;> rfl) | (simp [*, errW_none, errW_some] <;> rfl), by repeat (first | (with_reducible first | exact HB.out | apply below_alloc | apply pw_below_drewN | apply below_drew1) | exact HB.out)⟩
      · rw [if_neg c6] at H
        have c6b0 : (t320 == 1) = false := beq_eq_false_iff_ne.mpr c6
        have c6b1 : (t320 != 1) = true := bne_iff_ne.mpr c6
        obtain rfl := Option.some.inj H
        go_enter Tryd.func4, Tryd.ntmps4
        go_wp2_with (first | ((with_reducible refine gate_callee (f := 8) rfl ?_); refine goesL_ (some 17) rfl rfl Tryd.func8 (by kernel_rfl) rfl #[] rfl (by (try simp only [List.map_toArray, List.map_cons, List.map_nil]); first | done | rfl | (simp only [List.length_drop, List.length_take]; rfl)) ?_; (with_reducible refine (abacuslaw01_awake.calls k  true _ A2.out).mono ?_); rintro e w13 ⟨rfl, hb⟩; refine ⟨_, rfl, ?_⟩; have n0_ := Aside0.mk (below_step (by repeat (first | (with_reducible first | exact HB.out | apply below_alloc | apply pw_below_drewN | apply below_drew1) | exact HB.out)) hb); clear HB; have HB := n0_; clear n0_; (try clear hb); (try clear hb2); (try clear hk); (try clear hi)) | ((with_reducible refine gate_dst (N := 19) rfl ?_); (try (refine gate_guard (by rfl) ?_; dsimp only)); refine Kd.R_lit (Kd.int .u64) _ 29 ?hg (N := 19) ?hd (xs := ([1] : List Int)) (inner := [.int .u64 1]) (ok := fun _ => True) (okp := fun _ => True) ?hr ?hp (fun _ hk => hk) trivial (Below.refl _ _) (Nat.le_refl _) (by simp) ?_; (case hd => rfl); (case hg => rfl); (case hr => first | (go_simp; done) | (go_simp; rfl)); (case hp => exact (Reps.one (show Kd.M (Kd.int .u64) _ _ _ 1 [.int .u64 1] from rfl) (Reps.none _ _))); intro v315 w14 ho15 hb hg_ hnew_; clear hg_ hnew_; (first | rw [← Ny314.out] at ho15 | (simp only [Int.reduceToNat] at ho15; rw [← Ny314.out] at ho15)); have n0_ := Aside0.mk (Kd.R_lower ho15 (below_size (by repeat (first | (with_reducible first | exact HB.out | apply below_alloc | apply pw_below_drewN | apply below_drew1) | exact HB.out)))); have n1_ := Aside0.mk (below_step (by repeat (first | (with_reducible first | exact HB.out | apply below_alloc | apply pw_below_drewN | apply below_drew1) | exact HB.out)) hb); clear HB; have HO316 := n0_; have HB := n1_; clear n0_ n1_; clear hb ho15; obtain ⟨Ao16, co16, eo16⟩ := Kd.R_slice HO316.out; subst eo16) | ((with_reducible refine gate_callee (f := 15) rfl ?_); refine goesL_ (some 23) rfl rfl Tryd.func15 (by kernel_rfl) rfl #[.slice Ao16 y314.length co16, .int .i64 a0] rfl (by (try simp only [List.map_toArray, List.map_cons, List.map_nil]); first | done | rfl | (simp only [List.length_drop, List.length_take]; rfl)) ?_; (with_reducible refine (nat_Shl.calls k _ _ y314 a0 t317 t320 _ ?side1 ?side2 A4.out).mono ?_); (case side1 => repeat (first | exact (Kd.R_reads' HO316.out).2.2 | (with_reducible refine Kd.C_alloc ?_ _) | (with_reducible refine Kd.C_drewN ?_ _) | (with_reducible refine Kd.C_drew ?_))); (case side2 => exact (Kd.R_reads' HO316.out).2.1); rintro e w17 ⟨v318, rfl, ho0, hb⟩; refine ⟨_, rfl, ?_⟩; have n0_ := Aside0.mk (Kd.R_below (by (with_reducible repeat (first | apply Kd.R_alloc | apply Kd.R_drewN | apply Kd.R_drew)); exact HO316.out) hb); have n1_ := Aside0.mk (Kd.V_lower (Kd.V_mono (ok' := fun k_ => some k_ ≠ (.slice Ao16 y314.length co16 : Value).ownBlock) ho0 (fun k_ hk_ => (Kd.fresh' (Kd.R_lt (by (with_reducible repeat (first | apply Kd.R_alloc | apply Kd.R_drewN | apply Kd.R_drew)); exact HO316.out)) k_ hk_))) (below_size (by repeat (first | (with_reducible first | exact HB.out | apply below_alloc | apply pw_below_drewN | apply below_drew1) | exact HB.out)))); have n2_ := Aside0.mk (below_step (by repeat (first | (with_reducible first | exact HB.out | apply below_alloc | apply pw_below_drewN | apply below_drew1) | exact HB.out)) hb); clear HO316; clear HB; have HO316 := n0_; have HO319 := n1_; have HB := n2_; clear n0_ n1_ n2_; (try clear hb); (try clear hb2); (try clear hk); (try clear hi); (try clear ho0)))
        go_ret
        exact ⟨by first | rfl | (simp [errW_none, errW_some] <;> rfl) | (simp [*, errW_none, errW_some] <;> rfl), by repeat (first | (with_reducible first | exact HB.out | apply below_alloc | apply pw_below_drewN | apply below_drew1) | exact HB.out)⟩
    · rw [if_neg c5] at H
      have c5b0 : decide (a0 < 0) = false := decide_eq_false c5
      clear c5
      by_cases c18 : a0 ≥ 262144
      · rw [if_pos c18] at H
        have c18b0 : decide (262144 ≤ a0) = true := decide_eq_true c18
        clear c18
        by_cases c19 : t320 = 2
        · rw [if_pos c19] at H
          have c19b0 : (t320 == 2) = true := beq_iff_eq.mpr c19
          have c19b1 : (t320 != 2) = false := bne_eq_false_iff_eq.mpr c19
          clear c19
          obtain rfl := Option.some.inj H
          go_enter Tryd.func4, Tryd.ntmps4
          go_wp2_with (first | ((with_reducible refine gate_callee (f := 8) rfl ?_); refine goesL_ (some 17) rfl rfl Tryd.func8 (by kernel_rfl) rfl #[] rfl (by (try simp only [List.map_toArray, List.map_cons, List.map_nil]); first | done | rfl | (simp only [List.length_drop, List.length_take]; rfl)) ?_; (with_reducible refine (abacuslaw01_awake.calls k  true _ A2.out).mono ?_); rintro e w20 ⟨rfl, hb⟩; refine ⟨_, rfl, ?_⟩; have n0_ := Aside0.mk (below_step (by repeat (first | (with_reducible first | exact HB.out | apply below_alloc | apply pw_below_drewN | apply below_drew1) | exact HB.out)) hb); clear HB; have HB := n0_; clear n0_; (try clear hb); (try clear hb2); (try clear hk); (try clear hi)) | ((with_reducible refine gate_dst (N := 19) rfl ?_); (try (refine gate_guard (by rfl) ?_; dsimp only)); refine Kd.R_lit (Kd.int .u64) _ 29 ?hg (N := 19) ?hd (xs := ([1] : List Int)) (inner := [.int .u64 1]) (ok := fun _ => True) (okp := fun _ => True) ?hr ?hp (fun _ hk => hk) trivial (Below.refl _ _) (Nat.le_refl _) (by simp) ?_; (case hd => rfl); (case hg => rfl); (case hr => first | (go_simp; done) | (go_simp; rfl)); (case hp => exact (Reps.one (show Kd.M (Kd.int .u64) _ _ _ 1 [.int .u64 1] from rfl) (Reps.none _ _))); intro v315 w21 ho22 hb hg_ hnew_; clear hg_ hnew_; (first | rw [← Ny314.out] at ho22 | (simp only [Int.reduceToNat] at ho22; rw [← Ny314.out] at ho22)); have n0_ := Aside0.mk (Kd.R_lower ho22 (below_size (by repeat (first | (with_reducible first | exact HB.out | apply below_alloc | apply pw_below_drewN | apply below_drew1) | exact HB.out)))); have n1_ := Aside0.mk (below_step (by repeat (first | (with_reducible first | exact HB.out | apply below_alloc | apply pw_below_drewN | apply below_drew1) | exact HB.out)) hb); clear HB; have HO316 := n0_; have HB := n1_; clear n0_ n1_; clear hb ho22; obtain ⟨Ao23, co23, eo23⟩ := Kd.R_slice HO316.out; subst eo23) | ((with_reducible refine gate_callee (f := 15) rfl ?_); refine goesL_ (some 23) rfl rfl Tryd.func15 (by kernel_rfl) rfl #[.slice Ao23 y314.length co23, .int .i64 a0] rfl (by (try simp only [List.map_toArray, List.map_cons, List.map_nil]); first | done | rfl | (simp only [List.length_drop, List.length_take]; rfl)) ?_; (with_reducible refine (nat_Shl.calls k _ _ y314 a0 t317 t320 _ ?side1 ?side2 A4.out).mono ?_); (case side1 => repeat (first | exact (Kd.R_reads' HO316.out).2.2 | (with_reducible refine Kd.C_alloc ?_ _) | (with_reducible refine Kd.C_drewN ?_ _) | (with_reducible refine Kd.C_drew ?_))); (case side2 => exact (Kd.R_reads' HO316.out).2.1); rintro e w24 ⟨v318, rfl, ho0, hb⟩; refine ⟨_, rfl, ?_⟩; have n0_ := Aside0.mk (Kd.R_below (by (with_reducible repeat (first | apply Kd.R_alloc | apply Kd.R_drewN | apply Kd.R_drew)); exact HO316.out) hb); have n1_ := Aside0.mk (Kd.V_lower (Kd.V_mono (ok' := fun k_ => some k_ ≠ (.slice Ao23 y314.length co23 : Value).ownBlock) ho0 (fun k_ hk_ => (Kd.fresh' (Kd.R_lt (by (with_reducible repeat (first | apply Kd.R_alloc | apply Kd.R_drewN | apply Kd.R_drew)); exact HO316.out)) k_ hk_))) (below_size (by repeat (first | (with_reducible first | exact HB.out | apply below_alloc | apply pw_below_drewN | apply below_drew1) | exact HB.out)))); have n2_ := Aside0.mk (below_step (by repeat (first | (with_reducible first | exact HB.out | apply below_alloc | apply pw_below_drewN | apply below_drew1) | exact HB.out)) hb); clear HO316; clear HB; have HO316 := n0_; have HO319 := n1_; have HB := n2_; clear n0_ n1_ n2_; (try clear hb); (try clear hb2); (try clear hk); (try clear hi); (try clear ho0); obtain ⟨Ao25, co25, eo25⟩ := Kd.V_slice HO319.out; subst eo25))
          go_ret
          exact ⟨by first | rfl | (simp [errW_none, errW_some] <;> rfl) | (simp [*, errW_none, errW_some] <;> rfl), by repeat (first | (with_reducible first | exact HB.out | apply below_alloc | apply pw_below_drewN | apply below_drew1) | exact HB.out)⟩
        · rw [if_neg c19] at H
          have c19b0 : (t320 == 2) = false := beq_eq_false_iff_ne.mpr c19
          have c19b1 : (t320 != 2) = true := bne_iff_ne.mpr c19
          obtain rfl := Option.some.inj H
          go_enter Tryd.func4, Tryd.ntmps4
          go_wp2_with (first | ((with_reducible refine gate_callee (f := 8) rfl ?_); refine goesL_ (some 17) rfl rfl Tryd.func8 (by kernel_rfl) rfl #[] rfl (by (try simp only [List.map_toArray, List.map_cons, List.map_nil]); first | done | rfl | (simp only [List.length_drop, List.length_take]; rfl)) ?_; (with_reducible refine (abacuslaw01_awake.calls k  true _ A2.out).mono ?_); rintro e w26 ⟨rfl, hb⟩; refine ⟨_, rfl, ?_⟩; have n0_ := Aside0.mk (below_step (by repeat (first | (with_reducible first | exact HB.out | apply below_alloc | apply pw_below_drewN | apply below_drew1) | exact HB.out)) hb); clear HB; have HB := n0_; clear n0_; (try clear hb); (try clear hb2); (try clear hk); (try clear hi)) | ((with_reducible refine gate_dst (N := 19) rfl ?_); (try (refine gate_guard (by rfl) ?_; dsimp only)); refine Kd.R_lit (Kd.int .u64) _ 29 ?hg (N := 19) ?hd (xs := ([1] : List Int)) (inner := [.int .u64 1]) (ok := fun _ => True) (okp := fun _ => True) ?hr ?hp (fun _ hk => hk) trivial (Below.refl _ _) (Nat.le_refl _) (by simp) ?_; (case hd => rfl); (case hg => rfl); (case hr => first | (go_simp; done) | (go_simp; rfl)); (case hp => exact (Reps.one (show Kd.M (Kd.int .u64) _ _ _ 1 [.int .u64 1] from rfl) (Reps.none _ _))); intro v315 w27 ho28 hb hg_ hnew_; clear hg_ hnew_; (first | rw [← Ny314.out] at ho28 | (simp only [Int.reduceToNat] at ho28; rw [← Ny314.out] at ho28)); have n0_ := Aside0.mk (Kd.R_lower ho28 (below_size (by repeat (first | (with_reducible first | exact HB.out | apply below_alloc | apply pw_below_drewN | apply below_drew1) | exact HB.out)))); have n1_ := Aside0.mk (below_step (by repeat (first | (with_reducible first | exact HB.out | apply below_alloc | apply pw_below_drewN | apply below_drew1) | exact HB.out)) hb); clear HB; have HO316 := n0_; have HB := n1_; clear n0_ n1_; clear hb ho28; obtain ⟨Ao29, co29, eo29⟩ := Kd.R_slice HO316.out; subst eo29) | ((with_reducible refine gate_callee (f := 15) rfl ?_); refine goesL_ (some 23) rfl rfl Tryd.func15 (by kernel_rfl) rfl #[.slice Ao29 y314.length co29, .int .i64 a0] rfl (by (try simp only [List.map_toArray, List.map_cons, List.map_nil]); first | done | rfl | (simp only [List.length_drop, List.length_take]; rfl)) ?_; (with_reducible refine (nat_Shl.calls k _ _ y314 a0 t317 t320 _ ?side1 ?side2 A4.out).mono ?_); (case side1 => repeat (first | exact (Kd.R_reads' HO316.out).2.2 | (with_reducible refine Kd.C_alloc ?_ _) | (with_reducible refine Kd.C_drewN ?_ _) | (with_reducible refine Kd.C_drew ?_))); (case side2 => exact (Kd.R_reads' HO316.out).2.1); rintro e w30 ⟨v318, rfl, ho0, hb⟩; refine ⟨_, rfl, ?_⟩; have n0_ := Aside0.mk (Kd.R_below (by (with_reducible repeat (first | apply Kd.R_alloc | apply Kd.R_drewN | apply Kd.R_drew)); exact HO316.out) hb); have n1_ := Aside0.mk (Kd.V_lower (Kd.V_mono (ok' := fun k_ => some k_ ≠ (.slice Ao29 y314.length co29 : Value).ownBlock) ho0 (fun k_ hk_ => (Kd.fresh' (Kd.R_lt (by (with_reducible repeat (first | apply Kd.R_alloc | apply Kd.R_drewN | apply Kd.R_drew)); exact HO316.out)) k_ hk_))) (below_size (by repeat (first | (with_reducible first | exact HB.out | apply below_alloc | apply pw_below_drewN | apply below_drew1) | exact HB.out)))); have n2_ := Aside0.mk (below_step (by repeat (first | (with_reducible first | exact HB.out | apply below_alloc | apply pw_below_drewN | apply below_drew1) | exact HB.out)) hb); clear HO316; clear HB; have HO316 := n0_; have HO319 := n1_; have HB := n2_; clear n0_ n1_ n2_; (try clear hb); (try clear hb2); (try clear hk); (try clear hi); (try clear ho0)))
          go_ret
          exact ⟨by first | rfl | (simp [errW_none, errW_some] <;> rfl) | (simp [*, errW_none, errW_some] <;> rfl), by repeat (first | (with_reducible first | exact HB.out | apply below_alloc | apply pw_below_drewN | apply below_drew1) | exact HB.out)⟩
      · rw [if_neg c18] at H
        have c18b0 : decide (262144 ≤ a0) = false := decide_eq_false c18
        clear c18
        have HC31 := Aside0.mk H
        clear H
        go_enter Tryd.func4, Tryd.ntmps4
        go_upto_region 9 with (first | ((with_reducible refine gate_callee (f := 8) rfl ?_); refine goesL_ (some 17) rfl rfl Tryd.func8 (by kernel_rfl) rfl #[] rfl (by (try simp only [List.map_toArray, List.map_cons, List.map_nil]); first | done | rfl | (simp only [List.length_drop, List.length_take]; rfl)) ?_; (with_reducible refine (abacuslaw01_awake.calls k  true _ A2.out).mono ?_); rintro e w32 ⟨rfl, hb⟩; refine ⟨_, rfl, ?_⟩; have n0_ := Aside0.mk (below_step (by repeat (first | (with_reducible first | exact HB.out | apply below_alloc | apply pw_below_drewN | apply below_drew1) | exact HB.out)) hb); clear HB; have HB := n0_; clear n0_; (try clear hb); (try clear hb2); (try clear hk); (try clear hi)) | ((with_reducible refine gate_dst (N := 19) rfl ?_); (try (refine gate_guard (by rfl) ?_; dsimp only)); refine Kd.R_lit (Kd.int .u64) _ 29 ?hg (N := 19) ?hd (xs := ([1] : List Int)) (inner := [.int .u64 1]) (ok := fun _ => True) (okp := fun _ => True) ?hr ?hp (fun _ hk => hk) trivial (Below.refl _ _) (Nat.le_refl _) (by simp) ?_; (case hd => rfl); (case hg => rfl); (case hr => first | (go_simp; done) | (go_simp; rfl)); (case hp => exact (Reps.one (show Kd.M (Kd.int .u64) _ _ _ 1 [.int .u64 1] from rfl) (Reps.none _ _))); intro v315 w33 ho34 hb hg_ hnew_; clear hg_ hnew_; (first | rw [← Ny314.out] at ho34 | (simp only [Int.reduceToNat] at ho34; rw [← Ny314.out] at ho34)); have n0_ := Aside0.mk (Kd.R_lower ho34 (below_size (by repeat (first | (with_reducible first | exact HB.out | apply below_alloc | apply pw_below_drewN | apply below_drew1) | exact HB.out)))); have n1_ := Aside0.mk (below_step (by repeat (first | (with_reducible first | exact HB.out | apply below_alloc | apply pw_below_drewN | apply below_drew1) | exact HB.out)) hb); clear HB; have HO316 := n0_; have HB := n1_; clear n0_ n1_; clear hb ho34; obtain ⟨Ao35, co35, eo35⟩ := Kd.R_slice HO316.out; subst eo35) | ((with_reducible refine gate_callee (f := 15) rfl ?_); refine goesL_ (some 23) rfl rfl Tryd.func15 (by kernel_rfl) rfl #[.slice Ao35 y314.length co35, .int .i64 a0] rfl (by (try simp only [List.map_toArray, List.map_cons, List.map_nil]); first | done | rfl | (simp only [List.length_drop, List.length_take]; rfl)) ?_; (with_reducible refine (nat_Shl.calls k _ _ y314 a0 t317 t320 _ ?side1 ?side2 A4.out).mono ?_); (case side1 => repeat (first | exact (Kd.R_reads' HO316.out).2.2 | (with_reducible refine Kd.C_alloc ?_ _) | (with_reducible refine Kd.C_drewN ?_ _) | (with_reducible refine Kd.C_drew ?_))); (case side2 => exact (Kd.R_reads' HO316.out).2.1); rintro e w36 ⟨v318, rfl, ho0, hb⟩; refine ⟨_, rfl, ?_⟩; have n0_ := Aside0.mk (Kd.R_below (by (with_reducible repeat (first | apply Kd.R_alloc | apply Kd.R_drewN | apply Kd.R_drew)); exact HO316.out) hb); have n1_ := Aside0.mk (Kd.V_lower (Kd.V_mono (ok' := fun k_ => some k_ ≠ (.slice Ao35 y314.length co35 : Value).ownBlock) ho0 (fun k_ hk_ => (Kd.fresh' (Kd.R_lt (by (with_reducible repeat (first | apply Kd.R_alloc | apply Kd.R_drewN | apply Kd.R_drew)); exact HO316.out)) k_ hk_))) (below_size (by repeat (first | (with_reducible first | exact HB.out | apply below_alloc | apply pw_below_drewN | apply below_drew1) | exact HB.out)))); have n2_ := Aside0.mk (below_step (by repeat (first | (with_reducible first | exact HB.out | apply below_alloc | apply pw_below_drewN | apply below_drew1) | exact HB.out)) hb); clear HO316; clear HB; have HO316 := n0_; have HO319 := n1_; have HB := n2_; clear n0_ n1_ n2_; (try clear hb); (try clear hb2); (try clear hk); (try clear hi); (try clear ho0)))
        (try simp only [Act.put, List.setIfInBounds_toArray, List.set_cons_zero, List.set_cons_succ])
        go_cut [66] (fun v66 wc => ∃ (kq : Nat) (x66_30 : Bool), v66 = .bool x66_30 ∧ Aside0 (abacuslaw01_NatLimit.j0 kq a0 y314 t317 x66_30 = some r) ∧ Aside0 (kq ≤ k) ∧ Aside0 (Kd.R (Kd.int .u64) 29 wc w.heap.size (fun _ => True) (.slice Ao35 y314.length co35) y314) ∧ Aside0 (Kd.V (Kd.int .u64) 29 wc w.heap.size (fun k_ => some k_ ≠ ((.slice Ao35 y314.length co35) : Value).ownBlock) v318 t317) ∧ Aside0 (Below w.heap.size w wc))
        case first =>
          have H := HC31.out
          clear HC31
          by_cases c37 : t320 = 0
          · rw [if_pos c37] at H
            have c37b0 : (t320 == 0) = true := beq_iff_eq.mpr c37
            have c37b1 : (t320 != 0) = false := bne_eq_false_iff_eq.mpr c37
            clear c37
            (first | rw [c37b0] | (simp only [i64_w, i32_w]; rw [c37b0]) | rw [c37b1] | skip)
            replace H := Option.bind_eq_some_iff.mp H
            obtain ⟨t321, A380, H⟩ := H
            replace H : (if t321 = (wrap64 (a0 + 1)) then ((nat_Trail.f k t317).bind fun t322 => (if t322 = a0 then (abacuslaw01_NatLimit.j0 k a0 y314 t317 ((t317.length : Int) != (wrap64 ((wrap64 (Int.tdiv a0 64)) + 1)))) else (abacuslaw01_NatLimit.j0 k a0 y314 t317 true))) else (abacuslaw01_NatLimit.j0 k a0 y314 t317 true)) = some r := H
            have A38 := Aside0.mk A380
            clear A380
            by_cases c39 : t321 = (wrap64 (a0 + 1))
            · rw [if_pos c39] at H
              have c39b0 : (t321 == (wrap64 (a0 + 1))) = true := beq_iff_eq.mpr c39
              have c39b1 : (t321 != (wrap64 (a0 + 1))) = false := bne_eq_false_iff_eq.mpr c39
              clear c39
              replace H := Option.bind_eq_some_iff.mp H
              obtain ⟨t322, A400, H⟩ := H
              replace H : (if t322 = a0 then (abacuslaw01_NatLimit.j0 k a0 y314 t317 ((t317.length : Int) != (wrap64 ((wrap64 (Int.tdiv a0 64)) + 1)))) else (abacuslaw01_NatLimit.j0 k a0 y314 t317 true)) = some r := H
              have A40 := Aside0.mk A400
              clear A400
              by_cases c41 : t322 = a0
              · rw [if_pos c41] at H
                have c41b0 : (t322 == a0) = true := beq_iff_eq.mpr c41
                have c41b1 : (t322 != a0) = false := bne_eq_false_iff_eq.mpr c41
                clear c41
                have H' := Aside0.mk H
                clear H
                obtain ⟨Ao42, co42, eo42⟩ := Kd.V_slice HO319.out
                subst eo42
                go_wp2_with (first | (go_at_call 10; (with_reducible refine (nat_BitLen.calls k _ _ t317 t321 _ ?side1 ?side2 A38.out).mono ?_); (case side1 => repeat (first | exact (Kd.V_reads' HO319.out).2.2 | (with_reducible refine Kd.C_alloc ?_ _) | (with_reducible refine Kd.C_drewN ?_ _) | (with_reducible refine Kd.C_drew ?_))); (case side2 => exact (Kd.V_reads' HO319.out).2.1); rintro e w' ⟨rfl, ⟨nd, rfl⟩⟩) | (go_at_call 14; (with_reducible refine (nat_Trail.calls k _ _ t317 t322 _ ?side3 ?side1 ?side2 A40.out).mono ?_); (case side1 => repeat (first | exact (Kd.V_reads' HO319.out).2.2 | (with_reducible refine Kd.C_alloc ?_ _) | (with_reducible refine Kd.C_drewN ?_ _) | (with_reducible refine Kd.C_drew ?_))); (case side2 => exact (Kd.V_reads' HO319.out).2.1); (case side3 => repeat (first | exact (Kd.C_below HT.out (by repeat (first | (with_reducible first | exact HB.out | apply below_alloc | apply pw_below_drewN | apply below_drew1) | exact HB.out))) | (with_reducible refine Kd.C_alloc ?_ _) | (with_reducible refine Kd.C_drewN ?_ _) | (with_reducible refine Kd.C_drew ?_))); rintro e w' ⟨rfl, ⟨nd, rfl⟩⟩))
                go_meet
                case rel => exact ⟨_, (((t317.length : Int) != (wrap64 ((wrap64 (Int.tdiv a0 64)) + 1)))), (by first | rfl | (simp; done) | (simp [*]; done)), H', ⟨by first | omega | exact Nat.le_refl _⟩, ⟨by (with_reducible repeat (first | apply Kd.R_alloc | apply Kd.R_drewN | apply Kd.R_drew)); exact HO316.out⟩, ⟨by (with_reducible repeat (first | apply Kd.V_alloc | apply Kd.V_drewN | apply Kd.V_drew)); exact HO319.out⟩, ⟨by repeat (first | (with_reducible first | exact HB.out | apply below_alloc | apply pw_below_drewN | apply below_drew1) | exact HB.out)⟩⟩
              · rw [if_neg c41] at H
                have c41b0 : (t322 == a0) = false := beq_eq_false_iff_ne.mpr c41
                have c41b1 : (t322 != a0) = true := bne_iff_ne.mpr c41
                have H' := Aside0.mk H
                clear H
                obtain ⟨Ao43, co43, eo43⟩ := Kd.V_slice HO319.out
                subst eo43
                go_wp2_with (first | (go_at_call 10; (with_reducible refine (nat_BitLen.calls k _ _ t317 t321 _ ?side1 ?side2 A38.out).mono ?_); (case side1 => repeat (first | exact (Kd.V_reads' HO319.out).2.2 | (with_reducible refine Kd.C_alloc ?_ _) | (with_reducible refine Kd.C_drewN ?_ _) | (with_reducible refine Kd.C_drew ?_))); (case side2 => exact (Kd.V_reads' HO319.out).2.1); rintro e w' ⟨rfl, ⟨nd, rfl⟩⟩) | (go_at_call 14; (with_reducible refine (nat_Trail.calls k _ _ t317 t322 _ ?side3 ?side1 ?side2 A40.out).mono ?_); (case side1 => repeat (first | exact (Kd.V_reads' HO319.out).2.2 | (with_reducible refine Kd.C_alloc ?_ _) | (with_reducible refine Kd.C_drewN ?_ _) | (with_reducible refine Kd.C_drew ?_))); (case side2 => exact (Kd.V_reads' HO319.out).2.1); (case side3 => repeat (first | exact (Kd.C_below HT.out (by repeat (first | (with_reducible first | exact HB.out | apply below_alloc | apply pw_below_drewN | apply below_drew1) | exact HB.out))) | (with_reducible refine Kd.C_alloc ?_ _) | (with_reducible refine Kd.C_drewN ?_ _) | (with_reducible refine Kd.C_drew ?_))); rintro e w' ⟨rfl, ⟨nd, rfl⟩⟩))
                go_meet
                case rel => exact ⟨_, (true), (by first | rfl | (simp; done) | (simp [*]; done)), H', ⟨by first | omega | exact Nat.le_refl _⟩, ⟨by (with_reducible repeat (first | apply Kd.R_alloc | apply Kd.R_drewN | apply Kd.R_drew)); exact HO316.out⟩, ⟨by (with_reducible repeat (first | apply Kd.V_alloc | apply Kd.V_drewN | apply Kd.V_drew)); exact HO319.out⟩, ⟨by repeat (first | (with_reducible first | exact HB.out | apply below_alloc | apply pw_below_drewN | apply below_drew1) | exact HB.out)⟩⟩
            · rw [if_neg c39] at H
              have c39b0 : (t321 == (wrap64 (a0 + 1))) = false := beq_eq_false_iff_ne.mpr c39
              have c39b1 : (t321 != (wrap64 (a0 + 1))) = true := bne_iff_ne.mpr c39
              have H' := Aside0.mk H
              clear H
              obtain ⟨Ao44, co44, eo44⟩ := Kd.V_slice HO319.out
              subst eo44
              go_wp2_with (first | (go_at_call 10; (with_reducible refine (nat_BitLen.calls k _ _ t317 t321 _ ?side1 ?side2 A38.out).mono ?_); (case side1 => repeat (first | exact (Kd.V_reads' HO319.out).2.2 | (with_reducible refine Kd.C_alloc ?_ _) | (with_reducible refine Kd.C_drewN ?_ _) | (with_reducible refine Kd.C_drew ?_))); (case side2 => exact (Kd.V_reads' HO319.out).2.1); rintro e w' ⟨rfl, ⟨nd, rfl⟩⟩))
              go_meet
              case rel => exact ⟨_, (true), (by first | rfl | (simp; done) | (simp [*]; done)), H', ⟨by first | omega | exact Nat.le_refl _⟩, ⟨by (with_reducible repeat (first | apply Kd.R_alloc | apply Kd.R_drewN | apply Kd.R_drew)); exact HO316.out⟩, ⟨by (with_reducible repeat (first | apply Kd.V_alloc | apply Kd.V_drewN | apply Kd.V_drew)); exact HO319.out⟩, ⟨by repeat (first | (with_reducible first | exact HB.out | apply below_alloc | apply pw_below_drewN | apply below_drew1) | exact HB.out)⟩⟩
          · rw [if_neg c37] at H
            have c37b0 : (t320 == 0) = false := beq_eq_false_iff_ne.mpr c37
            have c37b1 : (t320 != 0) = true := bne_iff_ne.mpr c37
            (first | rw [c37b0] | (simp only [i64_w, i32_w]; rw [c37b0]) | rw [c37b1] | skip)
            have H' := Aside0.mk H
            clear H
            go_wp2
            go_meet
            case rel => exact ⟨_, (true), (by first | rfl | (simp; done) | (simp [*]; done)), H', ⟨by first | omega | exact Nat.le_refl _⟩, ⟨by (with_reducible repeat (first | apply Kd.R_alloc | apply Kd.R_drewN | apply Kd.R_drew)); exact HO316.out⟩, ⟨by (with_reducible repeat (first | apply Kd.V_alloc | apply Kd.V_drewN | apply Kd.V_drew)); exact HO319.out⟩, ⟨by repeat (first | (with_reducible first | exact HB.out | apply below_alloc | apply pw_below_drewN | apply below_drew1) | exact HB.out)⟩⟩
        case rest =>
          clear HC31
          try clear c1
          try clear p2
          try clear c3
          try clear c4
          try clear c5
          try clear c5b0
          try clear c6
          try clear c6b0
          try clear c6b1
          try clear p6
          try clear c8
          try clear c15
          try clear c18
          try clear c18b0
          try clear c19
          try clear c19b0
          try clear c19b1
          try clear c37
          try clear c37b0
          try clear c37b1
          try clear c39
          try clear c39b0
          try clear c39b1
          try clear c41
          try clear c41b0
          try clear c41b1
          obtain ⟨kq, x66_30, rfl, HA, HJ30, HO_3, HO_4, HB⟩ := hcut
          cases kq with
          | zero => exact absurd HA.out (by simp [abacuslaw01_NatLimit.j0])
          | succ kj30 =>
            have H := HA.out
            clear HA
            simp only [abacuslaw01_NatLimit.j0] at H
            by_cases c45 : x66_30 = true
            · subst c45
              have H1 : (some false) = some r := by rw [if_pos rfl] at H; exact H
              clear H
              have H := H1
              clear H1
              obtain rfl := Option.some.inj H
              go_wp2
              go_ret
              exact ⟨by first | rfl | (simp [errW_none, errW_some] <;> rfl) | (simp [*, errW_none, errW_some] <;> rfl), by repeat (first | (with_reducible first | exact HB.out | apply below_alloc | apply pw_below_drewN | apply below_drew1) | exact HB.out)⟩
            · replace c45 := Bool.eq_false_iff.mpr c45
              subst c45
              have H1 : ((nat_Add.f kj30 t317 t317).bind fun bt323 => ((nat_Mul.f kj30 (([2] : List Int)) t317).bind fun bt330 => ((nat_MulAdd.f kj30 t317 2 0).bind fun bt334 => ((nat_Shl.f kj30 t317 1).bind fun bt338 => (if a0 = 262143 then (if bt323.2 = 2 then (if bt330.2 = 2 then (if bt334.2 = 2 then (if bt338.2 = 2 then (abacuslaw01_NatLimit.j1 kj30 a0 y314 t317) else (some false)) else (some false)) else (some false)) else (some false)) else (if bt323.2 = 0 then (if bt330.2 = 0 then (if bt334.2 = 0 then (if bt338.2 = 0 then ((abacuslaw01_same.f kj30 bt323.1 bt330.1).bind fun t342 => (if t342 = true then ((abacuslaw01_same.f kj30 bt323.1 bt334.1).bind fun t343 => (if t343 = true then ((abacuslaw01_same.f kj30 bt323.1 bt338.1).bind fun t344 => (if t344 = true then ((nat_BitLen.f kj30 bt323.1).bind fun t345 => (if t345 = (wrap64 (a0 + 2)) then (abacuslaw01_NatLimit.j1 kj30 a0 y314 t317) else (some false))) else (some false))) else (some false))) else (some false))) else (some false)) else (some false)) else (some false)) else (some false))))))) = some r := by rw [if_neg (show ¬ (false = true) by decide)] at H; exact H
              clear H
              have H := H1
              clear H1
              replace H := Option.bind_eq_some_iff.mp H
              obtain ⟨⟨t323, t326⟩, A460, H⟩ := H
              replace H : ((nat_Mul.f kj30 (([2] : List Int)) t317).bind fun bt330 => ((nat_MulAdd.f kj30 t317 2 0).bind fun bt334 => ((nat_Shl.f kj30 t317 1).bind fun bt338 => (if a0 = 262143 then (if t326 = 2 then (if bt330.2 = 2 then (if bt334.2 = 2 then (if bt338.2 = 2 then (abacuslaw01_NatLimit.j1 kj30 a0 y314 t317) else (some false)) else (some false)) else (some false)) else (some false)) else (if t326 = 0 then (if bt330.2 = 0 then (if bt334.2 = 0 then (if bt338.2 = 0 then ((abacuslaw01_same.f kj30 t323 bt330.1).bind fun t342 => (if t342 = true then ((abacuslaw01_same.f kj30 t323 bt334.1).bind fun t343 => (if t343 = true then ((abacuslaw01_same.f kj30 t323 bt338.1).bind fun t344 => (if t344 = true then ((nat_BitLen.f kj30 t323).bind fun t345 => (if t345 = (wrap64 (a0 + 2)) then (abacuslaw01_NatLimit.j1 kj30 a0 y314 t317) else (some false))) else (some false))) else (some false))) else (some false))) else (some false)) else (some false)) else (some false)) else (some false)))))) = some r := H
              have A46 := Aside0.mk A460
              clear A460
              obtain ⟨y327, hy327⟩ : ∃ y_ : List Int, y_ = (([2] : List Int)) := ⟨_, rfl⟩
              replace H : ((nat_Mul.f kj30 y327 t317).bind fun bt330 => ((nat_MulAdd.f kj30 t317 2 0).bind fun bt334 => ((nat_Shl.f kj30 t317 1).bind fun bt338 => (if a0 = 262143 then (if t326 = 2 then (if bt330.2 = 2 then (if bt334.2 = 2 then (if bt338.2 = 2 then (abacuslaw01_NatLimit.j1 kj30 a0 y314 t317) else (some false)) else (some false)) else (some false)) else (some false)) else (if t326 = 0 then (if bt330.2 = 0 then (if bt334.2 = 0 then (if bt338.2 = 0 then ((abacuslaw01_same.f kj30 t323 bt330.1).bind fun t342 => (if t342 = true then ((abacuslaw01_same.f kj30 t323 bt334.1).bind fun t343 => (if t343 = true then ((abacuslaw01_same.f kj30 t323 bt338.1).bind fun t344 => (if t344 = true then ((nat_BitLen.f kj30 t323).bind fun t345 => (if t345 = (wrap64 (a0 + 2)) then (abacuslaw01_NatLimit.j1 kj30 a0 y314 t317) else (some false))) else (some false))) else (some false))) else (some false))) else (some false)) else (some false)) else (some false)) else (some false)))))) = some r := by first | (rw [hy327]; with_reducible exact H) | (have H2_ := (Option.bind_some _ _).symm.trans H; rw [hy327]; with_reducible exact H2_) | (have H2_ := (Option.bind_some _ _).symm.trans H; with_reducible exact H2_) | with_reducible exact H | (rw [hy327]; exact H) | exact H
              have Ny327 := Aside0.mk hy327
              clear hy327
              replace H := Option.bind_eq_some_iff.mp H
              obtain ⟨⟨t330, t333⟩, A470, H⟩ := H
              replace H : ((nat_MulAdd.f kj30 t317 2 0).bind fun bt334 => ((nat_Shl.f kj30 t317 1).bind fun bt338 => (if a0 = 262143 then (if t326 = 2 then (if t333 = 2 then (if bt334.2 = 2 then (if bt338.2 = 2 then (abacuslaw01_NatLimit.j1 kj30 a0 y314 t317) else (some false)) else (some false)) else (some false)) else (some false)) else (if t326 = 0 then (if t333 = 0 then (if bt334.2 = 0 then (if bt338.2 = 0 then ((abacuslaw01_same.f kj30 t323 t330).bind fun t342 => (if t342 = true then ((abacuslaw01_same.f kj30 t323 bt334.1).bind fun t343 => (if t343 = true then ((abacuslaw01_same.f kj30 t323 bt338.1).bind fun t344 => (if t344 = true then ((nat_BitLen.f kj30 t323).bind fun t345 => (if t345 = (wrap64 (a0 + 2)) then (abacuslaw01_NatLimit.j1 kj30 a0 y314 t317) else (some false))) else (some false))) else (some false))) else (some false))) else (some false)) else (some false)) else (some false)) else (some false))))) = some r := H
              have A47 := Aside0.mk A470
              clear A470
              replace H := Option.bind_eq_some_iff.mp H
              obtain ⟨⟨t334, t337⟩, A480, H⟩ := H
              replace H : ((nat_Shl.f kj30 t317 1).bind fun bt338 => (if a0 = 262143 then (if t326 = 2 then (if t333 = 2 then (if t337 = 2 then (if bt338.2 = 2 then (abacuslaw01_NatLimit.j1 kj30 a0 y314 t317) else (some false)) else (some false)) else (some false)) else (some false)) else (if t326 = 0 then (if t333 = 0 then (if t337 = 0 then (if bt338.2 = 0 then ((abacuslaw01_same.f kj30 t323 t330).bind fun t342 => (if t342 = true then ((abacuslaw01_same.f kj30 t323 t334).bind fun t343 => (if t343 = true then ((abacuslaw01_same.f kj30 t323 bt338.1).bind fun t344 => (if t344 = true then ((nat_BitLen.f kj30 t323).bind fun t345 => (if t345 = (wrap64 (a0 + 2)) then (abacuslaw01_NatLimit.j1 kj30 a0 y314 t317) else (some false))) else (some false))) else (some false))) else (some false))) else (some false)) else (some false)) else (some false)) else (some false)))) = some r := H
              have A48 := Aside0.mk A480
              clear A480
              replace H := Option.bind_eq_some_iff.mp H
              obtain ⟨⟨t338, t341⟩, A490, H⟩ := H
              replace H : (if a0 = 262143 then (if t326 = 2 then (if t333 = 2 then (if t337 = 2 then (if t341 = 2 then (abacuslaw01_NatLimit.j1 kj30 a0 y314 t317) else (some false)) else (some false)) else (some false)) else (some false)) else (if t326 = 0 then (if t333 = 0 then (if t337 = 0 then (if t341 = 0 then ((abacuslaw01_same.f kj30 t323 t330).bind fun t342 => (if t342 = true then ((abacuslaw01_same.f kj30 t323 t334).bind fun t343 => (if t343 = true then ((abacuslaw01_same.f kj30 t323 t338).bind fun t344 => (if t344 = true then ((nat_BitLen.f kj30 t323).bind fun t345 => (if t345 = (wrap64 (a0 + 2)) then (abacuslaw01_NatLimit.j1 kj30 a0 y314 t317) else (some false))) else (some false))) else (some false))) else (some false))) else (some false)) else (some false)) else (some false)) else (some false))) = some r := H
              have A49 := Aside0.mk A490
              clear A490
              have HC50 := Aside0.mk H
              clear H
              obtain ⟨Ao51, co51, eo51⟩ := Kd.V_slice HO_4.out
              subst eo51
              go_upto_if 90 with (first | ((with_reducible refine gate_callee (f := 16) rfl ?_); refine goesL_ (some 70) rfl rfl Tryd.func16 (by kernel_rfl) rfl #[.slice Ao51 t317.length co51, .slice Ao51 t317.length co51] rfl (by (try simp only [List.map_toArray, List.map_cons, List.map_nil]); first | done | rfl | (simp only [List.length_drop, List.length_take]; rfl)) ?_; (with_reducible refine (nat_Add.calls kj30 (fun k_ => some k_ ≠ (.slice Ao35 y314.length co35 : Value).ownBlock) _ _ t317 (fun k_ => some k_ ≠ (.slice Ao35 y314.length co35 : Value).ownBlock) _ _ t317 t323 t326 _ ?side1 ?side2 A46.out).mono ?_); (case side1 => exact HO_4.out); (case side2 => exact HO_4.out); rintro e w52 ⟨v324, rfl, ho0, hb⟩; refine ⟨_, rfl, ?_⟩; have n0_ := Aside0.mk (Kd.R_below (by (with_reducible repeat (first | apply Kd.R_alloc | apply Kd.R_drewN | apply Kd.R_drew)); exact HO_3.out) hb); have n1_ := Aside0.mk (Kd.V_below (by (with_reducible repeat (first | apply Kd.V_alloc | apply Kd.V_drewN | apply Kd.V_drew)); exact HO_4.out) hb); have n2_ := Aside0.mk (Kd.V_lower (Kd.V_mono (ok' := fun k_ => some k_ ≠ (.slice Ao35 y314.length co35 : Value).ownBlock) ho0 (fun k_ hk_ => Or.elim hk_ (fun hs_ => Or.elim hs_ (fun hs_ => hs_) (fun hs_ => hs_)) (fun hn_ => (Kd.fresh' (Kd.R_lt (by (with_reducible repeat (first | apply Kd.R_alloc | apply Kd.R_drewN | apply Kd.R_drew)); exact HO_3.out)) k_ hn_)))) (below_size (by repeat (first | (with_reducible first | exact HB.out | apply below_alloc | apply pw_below_drewN | apply below_drew1) | exact HB.out)))); have n3_ := Aside0.mk (below_step (by repeat (first | (with_reducible first | exact HB.out | apply below_alloc | apply pw_below_drewN | apply below_drew1) | exact HB.out)) hb); clear HO_3; clear HO_4; clear HB; have HO_3 := n0_; have HO_4 := n1_; have HO325 := n2_; have HB := n3_; clear n0_ n1_ n2_ n3_; (try clear hb); (try clear hb2); (try clear hk); (try clear hi); (try clear ho0)) | ((with_reducible refine gate_dst (N := 74) rfl ?_); (try (refine gate_guard (by rfl) ?_; dsimp only)); refine Kd.R_lit (Kd.int .u64) _ 29 ?hg (N := 74) ?hd (xs := ([2] : List Int)) (inner := [.int .u64 2]) (ok := fun _ => True) (okp := fun _ => True) ?hr ?hp (fun _ hk => hk) trivial (Below.refl _ _) (Nat.le_refl _) (by simp) ?_; (case hd => rfl); (case hg => rfl); (case hr => first | (go_simp; done) | (go_simp; rfl)); (case hp => exact (Reps.one (show Kd.M (Kd.int .u64) _ _ _ 2 [.int .u64 2] from rfl) (Reps.none _ _))); intro v328 w53 ho54 hb hg_ hnew_; clear hg_ hnew_; (first | rw [← Ny327.out] at ho54 | (simp only [Int.reduceToNat] at ho54; rw [← Ny327.out] at ho54)); have n0_ := Aside0.mk (Kd.R_elder' (by (with_reducible repeat (first | apply Kd.R_alloc | apply Kd.R_drewN | apply Kd.R_drew)); exact HO_3.out) (Kd.R_base ho54) hb); have n1_ := Aside0.mk (Kd.V_elder' (by (with_reducible repeat (first | apply Kd.V_alloc | apply Kd.V_drewN | apply Kd.V_drew)); exact HO_4.out) (Kd.R_base ho54) hb); have n2_ := Aside0.mk (Kd.V_elder' (by (with_reducible repeat (first | apply Kd.V_alloc | apply Kd.V_drewN | apply Kd.V_drew)); exact HO325.out) (Kd.R_base ho54) hb); have n3_ := Aside0.mk (Kd.R_lower (Kd.R_new' ho54 (Kd.R_lt (by (with_reducible repeat (first | apply Kd.R_alloc | apply Kd.R_drewN | apply Kd.R_drew)); exact HO_3.out))) (below_size (by repeat (first | (with_reducible first | exact HB.out | apply below_alloc | apply pw_below_drewN | apply below_drew1) | exact HB.out)))); have n4_ := Aside0.mk (below_step (by repeat (first | (with_reducible first | exact HB.out | apply below_alloc | apply pw_below_drewN | apply below_drew1) | exact HB.out)) hb); clear HO_3; clear HO_4; clear HO325; clear HB; have HO_3 := n0_; have HO_4 := n1_; have HO325 := n2_; have HO329 := n3_; have HB := n4_; clear n0_ n1_ n2_ n3_ n4_; clear hb ho54; obtain ⟨Ao55, co55, eo55⟩ := Kd.R_slice HO329.out; subst eo55) | ((with_reducible refine gate_callee (f := 17) rfl ?_); refine goesL_ (some 76) rfl rfl Tryd.func17 (by kernel_rfl) rfl #[.slice Ao55 y327.length co55, .slice Ao51 t317.length co51] rfl (by (try simp only [List.map_toArray, List.map_cons, List.map_nil]); first | done | rfl | (simp only [List.length_drop, List.length_take]; rfl)) ?_; (with_reducible refine (nat_Mul.calls kj30 _ _ y327 _ _ t317 t330 t333 _ ?side1 ?side2 ?side3 ?side4 A47.out).mono ?_); (case side1 => repeat (first | exact (Kd.R_reads' HO329.out).2.2 | (with_reducible refine Kd.C_alloc ?_ _) | (with_reducible refine Kd.C_drewN ?_ _) | (with_reducible refine Kd.C_drew ?_))); (case side2 => exact (Kd.R_reads' HO329.out).2.1); (case side3 => repeat (first | exact (Kd.V_reads' HO_4.out).2.2 | (with_reducible refine Kd.C_alloc ?_ _) | (with_reducible refine Kd.C_drewN ?_ _) | (with_reducible refine Kd.C_drew ?_))); (case side4 => exact (Kd.V_reads' HO_4.out).2.1); rintro e w56 ⟨v331, rfl, ho0, hb⟩; refine ⟨_, rfl, ?_⟩; have n0_ := Aside0.mk (Kd.R_below (by (with_reducible repeat (first | apply Kd.R_alloc | apply Kd.R_drewN | apply Kd.R_drew)); exact HO_3.out) hb); have n1_ := Aside0.mk (Kd.V_below (by (with_reducible repeat (first | apply Kd.V_alloc | apply Kd.V_drewN | apply Kd.V_drew)); exact HO_4.out) hb); have n2_ := Aside0.mk (Kd.V_below (by (with_reducible repeat (first | apply Kd.V_alloc | apply Kd.V_drewN | apply Kd.V_drew)); exact HO325.out) hb); have n3_ := Aside0.mk (Kd.R_below (by (with_reducible repeat (first | apply Kd.R_alloc | apply Kd.R_drewN | apply Kd.R_drew)); exact HO329.out) hb); have n4_ := Aside0.mk (Kd.V_lower (Kd.V_mono (ok' := fun k_ => some k_ ≠ (.slice Ao35 y314.length co35 : Value).ownBlock ∧ some k_ ≠ (.slice Ao55 y327.length co55 : Value).ownBlock) ho0 (fun k_ hk_ => ⟨(Kd.fresh' (Kd.R_lt (by (with_reducible repeat (first | apply Kd.R_alloc | apply Kd.R_drewN | apply Kd.R_drew)); exact HO_3.out)) k_ hk_), (Kd.fresh' (Kd.R_lt (by (with_reducible repeat (first | apply Kd.R_alloc | apply Kd.R_drewN | apply Kd.R_drew)); exact HO329.out)) k_ hk_)⟩)) (below_size (by repeat (first | (with_reducible first | exact HB.out | apply below_alloc | apply pw_below_drewN | apply below_drew1) | exact HB.out)))); have n5_ := Aside0.mk (below_step (by repeat (first | (with_reducible first | exact HB.out | apply below_alloc | apply pw_below_drewN | apply below_drew1) | exact HB.out)) hb); clear HO_3; clear HO_4; clear HO325; clear HO329; clear HB; have HO_3 := n0_; have HO_4 := n1_; have HO325 := n2_; have HO329 := n3_; have HO332 := n4_; have HB := n5_; clear n0_ n1_ n2_ n3_ n4_ n5_; (try clear hb); (try clear hb2); (try clear hk); (try clear hi); (try clear ho0)) | ((with_reducible refine gate_callee (f := 12) rfl ?_); refine goesL_ (some 81) rfl rfl Tryd.func12 (by kernel_rfl) rfl #[.slice Ao51 t317.length co51, .int .u64 2, .int .u64 0] rfl (by (try simp only [List.map_toArray, List.map_cons, List.map_nil]); first | done | rfl | (simp only [List.length_drop, List.length_take]; rfl)) ?_; (with_reducible refine (nat_MulAdd.calls kj30 _ _ t317 2 0 t334 t337 _ ?side1 ?side2 A48.out).mono ?_); (case side1 => repeat (first | exact (Kd.V_reads' HO_4.out).2.2 | (with_reducible refine Kd.C_alloc ?_ _) | (with_reducible refine Kd.C_drewN ?_ _) | (with_reducible refine Kd.C_drew ?_))); (case side2 => exact (Kd.V_reads' HO_4.out).2.1); rintro e w57 ⟨v335, rfl, ho0, hb⟩; refine ⟨_, rfl, ?_⟩; have n0_ := Aside0.mk (Kd.R_below (by (with_reducible repeat (first | apply Kd.R_alloc | apply Kd.R_drewN | apply Kd.R_drew)); exact HO_3.out) hb); have n1_ := Aside0.mk (Kd.V_below (by (with_reducible repeat (first | apply Kd.V_alloc | apply Kd.V_drewN | apply Kd.V_drew)); exact HO_4.out) hb); have n2_ := Aside0.mk (Kd.V_below (by (with_reducible repeat (first | apply Kd.V_alloc | apply Kd.V_drewN | apply Kd.V_drew)); exact HO325.out) hb); have n3_ := Aside0.mk (Kd.R_below (by (with_reducible repeat (first | apply Kd.R_alloc | apply Kd.R_drewN | apply Kd.R_drew)); exact HO329.out) hb); have n4_ := Aside0.mk (Kd.V_below (by (with_reducible repeat (first | apply Kd.V_alloc | apply Kd.V_drewN | apply Kd.V_drew)); exact HO332.out) hb); have n5_ := Aside0.mk (Kd.V_lower (Kd.V_mono (ok' := fun k_ => some k_ ≠ (.slice Ao35 y314.length co35 : Value).ownBlock ∧ some k_ ≠ (.slice Ao55 y327.length co55 : Value).ownBlock) ho0 (fun k_ hk_ => ⟨(Kd.fresh' (Kd.R_lt (by (with_reducible repeat (first | apply Kd.R_alloc | apply Kd.R_drewN | apply Kd.R_drew)); exact HO_3.out)) k_ hk_), (Kd.fresh' (Kd.R_lt (by (with_reducible repeat (first | apply Kd.R_alloc | apply Kd.R_drewN | apply Kd.R_drew)); exact HO329.out)) k_ hk_)⟩)) (below_size (by repeat (first | (with_reducible first | exact HB.out | apply below_alloc | apply pw_below_drewN | apply below_drew1) | exact HB.out)))); have n6_ := Aside0.mk (below_step (by repeat (first | (with_reducible first | exact HB.out | apply below_alloc | apply pw_below_drewN | apply below_drew1) | exact HB.out)) hb); clear HO_3; clear HO_4; clear HO325; clear HO329; clear HO332; clear HB; have HO_3 := n0_; have HO_4 := n1_; have HO325 := n2_; have HO329 := n3_; have HO332 := n4_; have HO336 := n5_; have HB := n6_; clear n0_ n1_ n2_ n3_ n4_ n5_ n6_; (try clear hb); (try clear hb2); (try clear hk); (try clear hi); (try clear ho0)) | ((with_reducible refine gate_callee (f := 15) rfl ?_); refine goesL_ (some 86) rfl rfl Tryd.func15 (by kernel_rfl) rfl #[.slice Ao51 t317.length co51, .int .i64 1] rfl (by (try simp only [List.map_toArray, List.map_cons, List.map_nil]); first | done | rfl | (simp only [List.length_drop, List.length_take]; rfl)) ?_; (with_reducible refine (nat_Shl.calls kj30 _ _ t317 1 t338 t341 _ ?side1 ?side2 A49.out).mono ?_); (case side1 => repeat (first | exact (Kd.V_reads' HO_4.out).2.2 | (with_reducible refine Kd.C_alloc ?_ _) | (with_reducible refine Kd.C_drewN ?_ _) | (with_reducible refine Kd.C_drew ?_))); (case side2 => exact (Kd.V_reads' HO_4.out).2.1); rintro e w58 ⟨v339, rfl, ho0, hb⟩; refine ⟨_, rfl, ?_⟩; have n0_ := Aside0.mk (Kd.R_below (by (with_reducible repeat (first | apply Kd.R_alloc | apply Kd.R_drewN | apply Kd.R_drew)); exact HO_3.out) hb); have n1_ := Aside0.mk (Kd.V_below (by (with_reducible repeat (first | apply Kd.V_alloc | apply Kd.V_drewN | apply Kd.V_drew)); exact HO_4.out) hb); have n2_ := Aside0.mk (Kd.V_below (by (with_reducible repeat (first | apply Kd.V_alloc | apply Kd.V_drewN | apply Kd.V_drew)); exact HO325.out) hb); have n3_ := Aside0.mk (Kd.R_below (by (with_reducible repeat (first | apply Kd.R_alloc | apply Kd.R_drewN | apply Kd.R_drew)); exact HO329.out) hb); have n4_ := Aside0.mk (Kd.V_below (by (with_reducible repeat (first | apply Kd.V_alloc | apply Kd.V_drewN | apply Kd.V_drew)); exact HO332.out) hb); have n5_ := Aside0.mk (Kd.V_below (by (with_reducible repeat (first | apply Kd.V_alloc | apply Kd.V_drewN | apply Kd.V_drew)); exact HO336.out) hb); have n6_ := Aside0.mk (Kd.V_lower (Kd.V_mono (ok' := fun k_ => some k_ ≠ (.slice Ao35 y314.length co35 : Value).ownBlock ∧ some k_ ≠ (.slice Ao55 y327.length co55 : Value).ownBlock) ho0 (fun k_ hk_ => ⟨(Kd.fresh' (Kd.R_lt (by (with_reducible repeat (first | apply Kd.R_alloc | apply Kd.R_drewN | apply Kd.R_drew)); exact HO_3.out)) k_ hk_), (Kd.fresh' (Kd.R_lt (by (with_reducible repeat (first | apply Kd.R_alloc | apply Kd.R_drewN | apply Kd.R_drew)); exact HO329.out)) k_ hk_)⟩)) (below_size (by repeat (first | (with_reducible first | exact HB.out | apply below_alloc | apply pw_below_drewN | apply below_drew1) | exact HB.out)))); have n7_ := Aside0.mk (below_step (by repeat (first | (with_reducible first | exact HB.out | apply below_alloc | apply pw_below_drewN | apply below_drew1) | exact HB.out)) hb); clear HO_3; clear HO_4; clear HO325; clear HO329; clear HO332; clear HO336; clear HB; have HO_3 := n0_; have HO_4 := n1_; have HO325 := n2_; have HO329 := n3_; have HO332 := n4_; have HO336 := n5_; have HO340 := n6_; have HB := n7_; clear n0_ n1_ n2_ n3_ n4_ n5_ n6_ n7_; (try clear hb); (try clear hb2); (try clear hk); (try clear hi); (try clear ho0)))
              (try simp only [Act.put, List.setIfInBounds_toArray, List.set_cons_zero, List.set_cons_succ])
              go_cut [] (fun wc => ∃ (kq : Nat), Aside0 (abacuslaw01_NatLimit.j1 kq a0 y314 t317 = some r) ∧ Aside0 (kq ≤ kj30) ∧ Aside0 (Kd.R (Kd.int .u64) 29 wc w.heap.size (fun _ => True) (.slice Ao35 y314.length co35) y314) ∧ Aside0 (Kd.V (Kd.int .u64) 29 wc w.heap.size (fun k_ => some k_ ≠ ((.slice Ao35 y314.length co35) : Value).ownBlock) (.slice Ao51 t317.length co51) t317) ∧ Aside0 (Below w.heap.size w wc))
              case first =>
                have H := HC50.out
                clear HC50
                by_cases c59 : a0 = 262143
                · rw [if_pos c59] at H
                  have c59b0 : (a0 == 262143) = true := beq_iff_eq.mpr c59
                  have c59b1 : (a0 != 262143) = false := bne_eq_false_iff_eq.mpr c59
                  clear c59
                  (first | rw [c59b0] | (simp only [i64_w, i32_w]; rw [c59b0]) | rw [c59b1] | skip)
                  by_cases c60 : t326 = 2
                  · rw [if_pos c60] at H
                    have c60b0 : (t326 == 2) = true := beq_iff_eq.mpr c60
                    have c60b1 : (t326 != 2) = false := bne_eq_false_iff_eq.mpr c60
                    clear c60
                    by_cases c61 : t333 = 2
                    · rw [if_pos c61] at H
                      have c61b0 : (t333 == 2) = true := beq_iff_eq.mpr c61
                      have c61b1 : (t333 != 2) = false := bne_eq_false_iff_eq.mpr c61
                      clear c61
                      by_cases c62 : t337 = 2
                      · rw [if_pos c62] at H
                        have c62b0 : (t337 == 2) = true := beq_iff_eq.mpr c62
                        have c62b1 : (t337 != 2) = false := bne_eq_false_iff_eq.mpr c62
                        clear c62
                        by_cases c63 : t341 = 2
                        · rw [if_pos c63] at H
                          have c63b0 : (t341 == 2) = true := beq_iff_eq.mpr c63
                          have c63b1 : (t341 != 2) = false := bne_eq_false_iff_eq.mpr c63
                          clear c63
                          have H' := Aside0.mk H
                          clear H
                          go_wp2
                          go_meet
                          case rel => exact ⟨_, H', ⟨by have := HJ30.out; first | omega | exact Nat.le_refl _⟩, ⟨by (with_reducible repeat (first | apply Kd.R_alloc | apply Kd.R_drewN | apply Kd.R_drew)); exact Kd.R_mono HO_3.out (fun _ hk => trivial)⟩, ⟨by (with_reducible repeat (first | apply Kd.V_alloc | apply Kd.V_drewN | apply Kd.V_drew)); exact Kd.V_mono HO_4.out (fun _ hk => hk.1)⟩, ⟨by repeat (first | (with_reducible first | exact HB.out | apply below_alloc | apply pw_below_drewN | apply below_drew1) | exact HB.out)⟩⟩
                        · rw [if_neg c63] at H
                          have c63b0 : (t341 == 2) = false := beq_eq_false_iff_ne.mpr c63
                          have c63b1 : (t341 != 2) = true := bne_iff_ne.mpr c63
                          obtain rfl := Option.some.inj H
                          go_wp2
                          go_ret
                          exact ⟨by first | rfl | (simp [errW_none, errW_some] <;> rfl) | (simp [*, errW_none, errW_some] <;> rfl), by repeat (first | (with_reducible first | exact HB.out | apply below_alloc | apply pw_below_drewN | apply below_drew1) | exact HB.out)⟩
                      · rw [if_neg c62] at H
                        have c62b0 : (t337 == 2) = false := beq_eq_false_iff_ne.mpr c62
                        have c62b1 : (t337 != 2) = true := bne_iff_ne.mpr c62
                        obtain rfl := Option.some.inj H
                        go_wp2
                        go_ret
                        exact ⟨by first | rfl | (simp [errW_none, errW_some] <;> rfl) | (simp [*, errW_none, errW_some] <;> rfl), by repeat (first | (with_reducible first | exact HB.out | apply below_alloc | apply pw_below_drewN | apply below_drew1) | exact HB.out)⟩
                    · rw [if_neg c61] at H
                      have c61b0 : (t333 == 2) = false := beq_eq_false_iff_ne.mpr c61
                      have c61b1 : (t333 != 2) = true := bne_iff_ne.mpr c61
                      obtain rfl := Option.some.inj H
                      go_wp2
                      go_ret
                      exact ⟨by first | rfl | (simp [errW_none, errW_some] <;> rfl) | (simp [*, errW_none, errW_some] <;> rfl), by repeat (first | (with_reducible first | exact HB.out | apply below_alloc | apply pw_below_drewN | apply below_drew1) | exact HB.out)⟩
                  · rw [if_neg c60] at H
                    have c60b0 : (t326 == 2) = false := beq_eq_false_iff_ne.mpr c60
                    have c60b1 : (t326 != 2) = true := bne_iff_ne.mpr c60
                    obtain rfl := Option.some.inj H
                    go_wp2
                    go_ret
                    exact ⟨by first | rfl | (simp [errW_none, errW_some] <;> rfl) | (simp [*, errW_none, errW_some] <;> rfl), by repeat (first | (with_reducible first | exact HB.out | apply below_alloc | apply pw_below_drewN | apply below_drew1) | exact HB.out)⟩
                · rw [if_neg c59] at H
                  have c59b0 : (a0 == 262143) = false := beq_eq_false_iff_ne.mpr c59
                  have c59b1 : (a0 != 262143) = true := bne_iff_ne.mpr c59
                  (first | rw [c59b0] | (simp only [i64_w, i32_w]; rw [c59b0]) | rw [c59b1] | skip)
                  by_cases c64 : t326 = 0
                  · rw [if_pos c64] at H
                    have c64b0 : (t326 == 0) = true := beq_iff_eq.mpr c64
                    have c64b1 : (t326 != 0) = false := bne_eq_false_iff_eq.mpr c64
                    clear c64
                    by_cases c65 : t333 = 0
                    · rw [if_pos c65] at H
                      have c65b0 : (t333 == 0) = true := beq_iff_eq.mpr c65
                      have c65b1 : (t333 != 0) = false := bne_eq_false_iff_eq.mpr c65
                      clear c65
                      by_cases c66 : t337 = 0
                      · rw [if_pos c66] at H
                        have c66b0 : (t337 == 0) = true := beq_iff_eq.mpr c66
                        have c66b1 : (t337 != 0) = false := bne_eq_false_iff_eq.mpr c66
                        clear c66
                        by_cases c67 : t341 = 0
                        · rw [if_pos c67] at H
                          have c67b0 : (t341 == 0) = true := beq_iff_eq.mpr c67
                          have c67b1 : (t341 != 0) = false := bne_eq_false_iff_eq.mpr c67
                          clear c67
                          replace H := Option.bind_eq_some_iff.mp H
                          obtain ⟨t342, A680, H⟩ := H
                          replace H : (if t342 = true then ((abacuslaw01_same.f kj30 t323 t334).bind fun t343 => (if t343 = true then ((abacuslaw01_same.f kj30 t323 t338).bind fun t344 => (if t344 = true then ((nat_BitLen.f kj30 t323).bind fun t345 => (if t345 = (wrap64 (a0 + 2)) then (abacuslaw01_NatLimit.j1 kj30 a0 y314 t317) else (some false))) else (some false))) else (some false))) else (some false)) = some r := H
                          have A68 := Aside0.mk A680
                          clear A680
                          by_cases c69 : t342 = true
                          · subst c69
                            have H1 : ((abacuslaw01_same.f kj30 t323 t334).bind fun t343 => (if t343 = true then ((abacuslaw01_same.f kj30 t323 t338).bind fun t344 => (if t344 = true then ((nat_BitLen.f kj30 t323).bind fun t345 => (if t345 = (wrap64 (a0 + 2)) then (abacuslaw01_NatLimit.j1 kj30 a0 y314 t317) else (some false))) else (some false))) else (some false))) = some r := by rw [if_pos rfl] at H; exact H
                            clear H
                            have H := H1
                            clear H1
                            replace H := Option.bind_eq_some_iff.mp H
                            obtain ⟨t343, A700, H⟩ := H
                            replace H : (if t343 = true then ((abacuslaw01_same.f kj30 t323 t338).bind fun t344 => (if t344 = true then ((nat_BitLen.f kj30 t323).bind fun t345 => (if t345 = (wrap64 (a0 + 2)) then (abacuslaw01_NatLimit.j1 kj30 a0 y314 t317) else (some false))) else (some false))) else (some false)) = some r := H
                            have A70 := Aside0.mk A700
                            clear A700
                            by_cases c71 : t343 = true
                            · subst c71
                              have H1 : ((abacuslaw01_same.f kj30 t323 t338).bind fun t344 => (if t344 = true then ((nat_BitLen.f kj30 t323).bind fun t345 => (if t345 = (wrap64 (a0 + 2)) then (abacuslaw01_NatLimit.j1 kj30 a0 y314 t317) else (some false))) else (some false))) = some r := by rw [if_pos rfl] at H; exact H
                              clear H
                              have H := H1
                              clear H1
                              replace H := Option.bind_eq_some_iff.mp H
                              obtain ⟨t344, A720, H⟩ := H
                              replace H : (if t344 = true then ((nat_BitLen.f kj30 t323).bind fun t345 => (if t345 = (wrap64 (a0 + 2)) then (abacuslaw01_NatLimit.j1 kj30 a0 y314 t317) else (some false))) else (some false)) = some r := H
                              have A72 := Aside0.mk A720
                              clear A720
                              by_cases c73 : t344 = true
                              · subst c73
                                have H1 : ((nat_BitLen.f kj30 t323).bind fun t345 => (if t345 = (wrap64 (a0 + 2)) then (abacuslaw01_NatLimit.j1 kj30 a0 y314 t317) else (some false))) = some r := by rw [if_pos rfl] at H; exact H
                                clear H
                                have H := H1
                                clear H1
                                replace H := Option.bind_eq_some_iff.mp H
                                obtain ⟨t345, A740, H⟩ := H
                                replace H : (if t345 = (wrap64 (a0 + 2)) then (abacuslaw01_NatLimit.j1 kj30 a0 y314 t317) else (some false)) = some r := H
                                have A74 := Aside0.mk A740
                                clear A740
                                by_cases c75 : t345 = (wrap64 (a0 + 2))
                                · rw [if_pos c75] at H
                                  have c75b0 : (t345 == (wrap64 (a0 + 2))) = true := beq_iff_eq.mpr c75
                                  have c75b1 : (t345 != (wrap64 (a0 + 2))) = false := bne_eq_false_iff_eq.mpr c75
                                  clear c75
                                  have H' := Aside0.mk H
                                  clear H
                                  obtain ⟨Ao76, co76, eo76⟩ := Kd.V_slice HO325.out
                                  subst eo76
                                  obtain ⟨Ao77, co77, eo77⟩ := Kd.V_slice HO332.out
                                  subst eo77
                                  go_wp2_with (first | (go_at_call 18; (with_reducible refine (abacuslaw01_same.calls kj30 _ _ t323 _ _ t330 true _ ?side1 ?side2 ?side3 ?side4 A68.out).mono ?_); (case side1 => repeat (first | exact (Kd.V_reads' HO325.out).2.2 | (with_reducible refine Kd.C_alloc ?_ _) | (with_reducible refine Kd.C_drewN ?_ _) | (with_reducible refine Kd.C_drew ?_))); (case side2 => exact (Kd.V_reads' HO325.out).2.1); (case side3 => repeat (first | exact (Kd.V_reads' HO332.out).2.2 | (with_reducible refine Kd.C_alloc ?_ _) | (with_reducible refine Kd.C_drewN ?_ _) | (with_reducible refine Kd.C_drew ?_))); (case side4 => exact (Kd.V_reads' HO332.out).2.1); rintro e w' ⟨rfl, ⟨nd, rfl⟩⟩; obtain ⟨Ao78, co78, eo78⟩ := Kd.V_slice HO336.out; subst eo78) | (go_at_call 18; (with_reducible refine (abacuslaw01_same.calls kj30 _ _ t323 _ _ t334 true _ ?side1 ?side2 ?side3 ?side4 A70.out).mono ?_); (case side1 => repeat (first | exact (Kd.V_reads' HO325.out).2.2 | (with_reducible refine Kd.C_alloc ?_ _) | (with_reducible refine Kd.C_drewN ?_ _) | (with_reducible refine Kd.C_drew ?_))); (case side2 => exact (Kd.V_reads' HO325.out).2.1); (case side3 => repeat (first | exact (Kd.V_reads' HO336.out).2.2 | (with_reducible refine Kd.C_alloc ?_ _) | (with_reducible refine Kd.C_drewN ?_ _) | (with_reducible refine Kd.C_drew ?_))); (case side4 => exact (Kd.V_reads' HO336.out).2.1); rintro e w' ⟨rfl, ⟨nd, rfl⟩⟩; obtain ⟨Ao79, co79, eo79⟩ := Kd.V_slice HO340.out; subst eo79) | (go_at_call 18; (with_reducible refine (abacuslaw01_same.calls kj30 _ _ t323 _ _ t338 true _ ?side1 ?side2 ?side3 ?side4 A72.out).mono ?_); (case side1 => repeat (first | exact (Kd.V_reads' HO325.out).2.2 | (with_reducible refine Kd.C_alloc ?_ _) | (with_reducible refine Kd.C_drewN ?_ _) | (with_reducible refine Kd.C_drew ?_))); (case side2 => exact (Kd.V_reads' HO325.out).2.1); (case side3 => repeat (first | exact (Kd.V_reads' HO340.out).2.2 | (with_reducible refine Kd.C_alloc ?_ _) | (with_reducible refine Kd.C_drewN ?_ _) | (with_reducible refine Kd.C_drew ?_))); (case side4 => exact (Kd.V_reads' HO340.out).2.1); rintro e w' ⟨rfl, ⟨nd, rfl⟩⟩) | (go_at_call 10; (with_reducible refine (nat_BitLen.calls kj30 _ _ t323 t345 _ ?side1 ?side2 A74.out).mono ?_); (case side1 => repeat (first | exact (Kd.V_reads' HO325.out).2.2 | (with_reducible refine Kd.C_alloc ?_ _) | (with_reducible refine Kd.C_drewN ?_ _) | (with_reducible refine Kd.C_drew ?_))); (case side2 => exact (Kd.V_reads' HO325.out).2.1); rintro e w' ⟨rfl, ⟨nd, rfl⟩⟩))
                                  go_meet
                                  case rel => exact ⟨_, H', ⟨by have := HJ30.out; first | omega | exact Nat.le_refl _⟩, ⟨by (with_reducible repeat (first | apply Kd.R_alloc | apply Kd.R_drewN | apply Kd.R_drew)); exact Kd.R_mono HO_3.out (fun _ hk => trivial)⟩, ⟨by (with_reducible repeat (first | apply Kd.V_alloc | apply Kd.V_drewN | apply Kd.V_drew)); exact Kd.V_mono HO_4.out (fun _ hk => hk.1)⟩, ⟨by repeat (first | (with_reducible first | exact HB.out | apply below_alloc | apply pw_below_drewN | apply below_drew1) | exact HB.out)⟩⟩
                                · rw [if_neg c75] at H
                                  have c75b0 : (t345 == (wrap64 (a0 + 2))) = false := beq_eq_false_iff_ne.mpr c75
                                  have c75b1 : (t345 != (wrap64 (a0 + 2))) = true := bne_iff_ne.mpr c75
                                  obtain rfl := Option.some.inj H
                                  obtain ⟨Ao80, co80, eo80⟩ := Kd.V_slice HO325.out
                                  subst eo80
                                  obtain ⟨Ao81, co81, eo81⟩ := Kd.V_slice HO332.out
                                  subst eo81
                                  go_wp2_with (first | (go_at_call 18; (with_reducible refine (abacuslaw01_same.calls kj30 _ _ t323 _ _ t330 true _ ?side1 ?side2 ?side3 ?side4 A68.out).mono ?_); (case side1 => repeat (first | exact (Kd.V_reads' HO325.out).2.2 | (with_reducible refine Kd.C_alloc ?_ _) | (with_reducible refine Kd.C_drewN ?_ _) | (with_reducible refine Kd.C_drew ?_))); (case side2 => exact (Kd.V_reads' HO325.out).2.1); (case side3 => repeat (first | exact (Kd.V_reads' HO332.out).2.2 | (with_reducible refine Kd.C_alloc ?_ _) | (with_reducible refine Kd.C_drewN ?_ _) | (with_reducible refine Kd.C_drew ?_))); (case side4 => exact (Kd.V_reads' HO332.out).2.1); rintro e w' ⟨rfl, ⟨nd, rfl⟩⟩; obtain ⟨Ao82, co82, eo82⟩ := Kd.V_slice HO336.out; subst eo82) | (go_at_call 18; (with_reducible refine (abacuslaw01_same.calls kj30 _ _ t323 _ _ t334 true _ ?side1 ?side2 ?side3 ?side4 A70.out).mono ?_); (case side1 => repeat (first | exact (Kd.V_reads' HO325.out).2.2 | (with_reducible refine Kd.C_alloc ?_ _) | (with_reducible refine Kd.C_drewN ?_ _) | (with_reducible refine Kd.C_drew ?_))); (case side2 => exact (Kd.V_reads' HO325.out).2.1); (case side3 => repeat (first | exact (Kd.V_reads' HO336.out).2.2 | (with_reducible refine Kd.C_alloc ?_ _) | (with_reducible refine Kd.C_drewN ?_ _) | (with_reducible refine Kd.C_drew ?_))); (case side4 => exact (Kd.V_reads' HO336.out).2.1); rintro e w' ⟨rfl, ⟨nd, rfl⟩⟩; obtain ⟨Ao83, co83, eo83⟩ := Kd.V_slice HO340.out; subst eo83) | (go_at_call 18; (with_reducible refine (abacuslaw01_same.calls kj30 _ _ t323 _ _ t338 true _ ?side1 ?side2 ?side3 ?side4 A72.out).mono ?_); (case side1 => repeat (first | exact (Kd.V_reads' HO325.out).2.2 | (with_reducible refine Kd.C_alloc ?_ _) | (with_reducible refine Kd.C_drewN ?_ _) | (with_reducible refine Kd.C_drew ?_))); (case side2 => exact (Kd.V_reads' HO325.out).2.1); (case side3 => repeat (first | exact (Kd.V_reads' HO340.out).2.2 | (with_reducible refine Kd.C_alloc ?_ _) | (with_reducible refine Kd.C_drewN ?_ _) | (with_reducible refine Kd.C_drew ?_))); (case side4 => exact (Kd.V_reads' HO340.out).2.1); rintro e w' ⟨rfl, ⟨nd, rfl⟩⟩) | (go_at_call 10; (with_reducible refine (nat_BitLen.calls kj30 _ _ t323 t345 _ ?side1 ?side2 A74.out).mono ?_); (case side1 => repeat (first | exact (Kd.V_reads' HO325.out).2.2 | (with_reducible refine Kd.C_alloc ?_ _) | (with_reducible refine Kd.C_drewN ?_ _) | (with_reducible refine Kd.C_drew ?_))); (case side2 => exact (Kd.V_reads' HO325.out).2.1); rintro e w' ⟨rfl, ⟨nd, rfl⟩⟩))
                                  go_ret
                                  exact ⟨by first | rfl | (simp [errW_none, errW_some] <;> rfl) | (simp [*, errW_none, errW_some] <;> rfl), by repeat (first | (with_reducible first | exact HB.out | apply below_alloc | apply pw_below_drewN | apply below_drew1) | exact HB.out)⟩
                              · replace c73 := Bool.eq_false_iff.mpr c73
                                subst c73
                                have H1 : (some false) = some r := by rw [if_neg (show ¬ (false = true) by decide)] at H; exact H
                                clear H
                                have H := H1
                                clear H1
                                obtain rfl := Option.some.inj H
                                obtain ⟨Ao84, co84, eo84⟩ := Kd.V_slice HO325.out
                                subst eo84
                                obtain ⟨Ao85, co85, eo85⟩ := Kd.V_slice HO332.out
                                subst eo85
                                go_wp2_with (first | (go_at_call 18; (with_reducible refine (abacuslaw01_same.calls kj30 _ _ t323 _ _ t330 true _ ?side1 ?side2 ?side3 ?side4 A68.out).mono ?_); (case side1 => repeat (first | exact (Kd.V_reads' HO325.out).2.2 | (with_reducible refine Kd.C_alloc ?_ _) | (with_reducible refine Kd.C_drewN ?_ _) | (with_reducible refine Kd.C_drew ?_))); (case side2 => exact (Kd.V_reads' HO325.out).2.1); (case side3 => repeat (first | exact (Kd.V_reads' HO332.out).2.2 | (with_reducible refine Kd.C_alloc ?_ _) | (with_reducible refine Kd.C_drewN ?_ _) | (with_reducible refine Kd.C_drew ?_))); (case side4 => exact (Kd.V_reads' HO332.out).2.1); rintro e w' ⟨rfl, ⟨nd, rfl⟩⟩; obtain ⟨Ao86, co86, eo86⟩ := Kd.V_slice HO336.out; subst eo86) | (go_at_call 18; (with_reducible refine (abacuslaw01_same.calls kj30 _ _ t323 _ _ t334 true _ ?side1 ?side2 ?side3 ?side4 A70.out).mono ?_); (case side1 => repeat (first | exact (Kd.V_reads' HO325.out).2.2 | (with_reducible refine Kd.C_alloc ?_ _) | (with_reducible refine Kd.C_drewN ?_ _) | (with_reducible refine Kd.C_drew ?_))); (case side2 => exact (Kd.V_reads' HO325.out).2.1); (case side3 => repeat (first | exact (Kd.V_reads' HO336.out).2.2 | (with_reducible refine Kd.C_alloc ?_ _) | (with_reducible refine Kd.C_drewN ?_ _) | (with_reducible refine Kd.C_drew ?_))); (case side4 => exact (Kd.V_reads' HO336.out).2.1); rintro e w' ⟨rfl, ⟨nd, rfl⟩⟩; obtain ⟨Ao87, co87, eo87⟩ := Kd.V_slice HO340.out; subst eo87) | (go_at_call 18; (with_reducible refine (abacuslaw01_same.calls kj30 _ _ t323 _ _ t338 false _ ?side1 ?side2 ?side3 ?side4 A72.out).mono ?_); (case side1 => repeat (first | exact (Kd.V_reads' HO325.out).2.2 | (with_reducible refine Kd.C_alloc ?_ _) | (with_reducible refine Kd.C_drewN ?_ _) | (with_reducible refine Kd.C_drew ?_))); (case side2 => exact (Kd.V_reads' HO325.out).2.1); (case side3 => repeat (first | exact (Kd.V_reads' HO340.out).2.2 | (with_reducible refine Kd.C_alloc ?_ _) | (with_reducible refine Kd.C_drewN ?_ _) | (with_reducible refine Kd.C_drew ?_))); (case side4 => exact (Kd.V_reads' HO340.out).2.1); rintro e w' ⟨rfl, ⟨nd, rfl⟩⟩))
                                go_ret
                                exact ⟨by first | rfl | (simp [errW_none, errW_some] <;> rfl) | (simp [*, errW_none, errW_some] <;> rfl), by repeat (first | (with_reducible first | exact HB.out | apply below_alloc | apply pw_below_drewN | apply below_drew1) | exact HB.out)⟩
                            · replace c71 := Bool.eq_false_iff.mpr c71
                              subst c71
                              have H1 : (some false) = some r := by rw [if_neg (show ¬ (false = true) by decide)] at H; exact H
                              clear H
                              have H := H1
                              clear H1
                              obtain rfl := Option.some.inj H
                              obtain ⟨Ao88, co88, eo88⟩ := Kd.V_slice HO325.out
                              subst eo88
                              obtain ⟨Ao89, co89, eo89⟩ := Kd.V_slice HO332.out
                              subst eo89
                              go_wp2_with (first | (go_at_call 18; (with_reducible refine (abacuslaw01_same.calls kj30 _ _ t323 _ _ t330 true _ ?side1 ?side2 ?side3 ?side4 A68.out).mono ?_); (case side1 => repeat (first | exact (Kd.V_reads' HO325.out).2.2 | (with_reducible refine Kd.C_alloc ?_ _) | (with_reducible refine Kd.C_drewN ?_ _) | (with_reducible refine Kd.C_drew ?_))); (case side2 => exact (Kd.V_reads' HO325.out).2.1); (case side3 => repeat (first | exact (Kd.V_reads' HO332.out).2.2 | (with_reducible refine Kd.C_alloc ?_ _) | (with_reducible refine Kd.C_drewN ?_ _) | (with_reducible refine Kd.C_drew ?_))); (case side4 => exact (Kd.V_reads' HO332.out).2.1); rintro e w' ⟨rfl, ⟨nd, rfl⟩⟩; obtain ⟨Ao90, co90, eo90⟩ := Kd.V_slice HO336.out; subst eo90) | (go_at_call 18; (with_reducible refine (abacuslaw01_same.calls kj30 _ _ t323 _ _ t334 false _ ?side1 ?side2 ?side3 ?side4 A70.out).mono ?_); (case side1 => repeat (first | exact (Kd.V_reads' HO325.out).2.2 | (with_reducible refine Kd.C_alloc ?_ _) | (with_reducible refine Kd.C_drewN ?_ _) | (with_reducible refine Kd.C_drew ?_))); (case side2 => exact (Kd.V_reads' HO325.out).2.1); (case side3 => repeat (first | exact (Kd.V_reads' HO336.out).2.2 | (with_reducible refine Kd.C_alloc ?_ _) | (with_reducible refine Kd.C_drewN ?_ _) | (with_reducible refine Kd.C_drew ?_))); (case side4 => exact (Kd.V_reads' HO336.out).2.1); rintro e w' ⟨rfl, ⟨nd, rfl⟩⟩))
                              go_ret
                              exact ⟨by first | rfl | (simp [errW_none, errW_some] <;> rfl) | (simp [*, errW_none, errW_some] <;> rfl), by repeat (first | (with_reducible first | exact HB.out | apply below_alloc | apply pw_below_drewN | apply below_drew1) | exact HB.out)⟩
                          · replace c69 := Bool.eq_false_iff.mpr c69
                            subst c69
                            have H1 : (some false) = some r := by rw [if_neg (show ¬ (false = true) by decide)] at H; exact H
                            clear H
                            have H := H1
                            clear H1
                            obtain rfl := Option.some.inj H
                            obtain ⟨Ao91, co91, eo91⟩ := Kd.V_slice HO325.out
                            subst eo91
                            obtain ⟨Ao92, co92, eo92⟩ := Kd.V_slice HO332.out
                            subst eo92
                            go_wp2_with (first | (go_at_call 18; (with_reducible refine (abacuslaw01_same.calls kj30 _ _ t323 _ _ t330 false _ ?side1 ?side2 ?side3 ?side4 A68.out).mono ?_); (case side1 => repeat (first | exact (Kd.V_reads' HO325.out).2.2 | (with_reducible refine Kd.C_alloc ?_ _) | (with_reducible refine Kd.C_drewN ?_ _) | (with_reducible refine Kd.C_drew ?_))); (case side2 => exact (Kd.V_reads' HO325.out).2.1); (case side3 => repeat (first | exact (Kd.V_reads' HO332.out).2.2 | (with_reducible refine Kd.C_alloc ?_ _) | (with_reducible refine Kd.C_drewN ?_ _) | (with_reducible refine Kd.C_drew ?_))); (case side4 => exact (Kd.V_reads' HO332.out).2.1); rintro e w' ⟨rfl, ⟨nd, rfl⟩⟩))
                            go_ret
                            exact ⟨by first | rfl | (simp [errW_none, errW_some] <;> rfl) | (simp [*, errW_none, errW_some] <;> rfl), by repeat (first | (with_reducible first | exact HB.out | apply below_alloc | apply pw_below_drewN | apply below_drew1) | exact HB.out)⟩
                        · rw [if_neg c67] at H
                          have c67b0 : (t341 == 0) = false := beq_eq_false_iff_ne.mpr c67
                          have c67b1 : (t341 != 0) = true := bne_iff_ne.mpr c67
                          obtain rfl := Option.some.inj H
                          go_wp2
                          go_ret
                          exact ⟨by first | rfl | (simp [errW_none, errW_some] <;> rfl) | (simp [*, errW_none, errW_some] <;> rfl), by repeat (first | (with_reducible first | exact HB.out | apply below_alloc | apply pw_below_drewN | apply below_drew1) | exact HB.out)⟩
                      · rw [if_neg c66] at H
                        have c66b0 : (t337 == 0) = false := beq_eq_false_iff_ne.mpr c66
                        have c66b1 : (t337 != 0) = true := bne_iff_ne.mpr c66
                        obtain rfl := Option.some.inj H
                        go_wp2
                        go_ret
                        exact ⟨by first | rfl | (simp [errW_none, errW_some] <;> rfl) | (simp [*, errW_none, errW_some] <;> rfl), by repeat (first | (with_reducible first | exact HB.out | apply below_alloc | apply pw_below_drewN | apply below_drew1) | exact HB.out)⟩
                    · rw [if_neg c65] at H
                      have c65b0 : (t333 == 0) = false := beq_eq_false_iff_ne.mpr c65
                      have c65b1 : (t333 != 0) = true := bne_iff_ne.mpr c65
                      obtain rfl := Option.some.inj H
                      go_wp2
                      go_ret
                      exact ⟨by first | rfl | (simp [errW_none, errW_some] <;> rfl) | (simp [*, errW_none, errW_some] <;> rfl), by repeat (first | (with_reducible first | exact HB.out | apply below_alloc | apply pw_below_drewN | apply below_drew1) | exact HB.out)⟩
                  · rw [if_neg c64] at H
                    have c64b0 : (t326 == 0) = false := beq_eq_false_iff_ne.mpr c64
                    have c64b1 : (t326 != 0) = true := bne_iff_ne.mpr c64
                    obtain rfl := Option.some.inj H
                    go_wp2
                    go_ret
                    exact ⟨by first | rfl | (simp [errW_none, errW_some] <;> rfl) | (simp [*, errW_none, errW_some] <;> rfl), by repeat (first | (with_reducible first | exact HB.out | apply below_alloc | apply pw_below_drewN | apply below_drew1) | exact HB.out)⟩
              case rest =>
                clear HC50
                try clear c1
                try clear p2
                try clear c3
                try clear c4
                try clear c5
                try clear c5b0
                try clear c6
                try clear c6b0
                try clear c6b1
                try clear p6
                try clear c7
                try clear c8
                try clear c12
                try clear c15
                try clear c16
                try clear c17
                try clear c18
                try clear c18b0
                try clear c19
                try clear c19b0
                try clear c19b1
                try clear c37
                try clear c37b0
                try clear c37b1
                try clear c39
                try clear c39b0
                try clear c39b1
                try clear c41
                try clear c41b0
                try clear c41b1
                try clear c45
                try clear c59
                try clear c59b0
                try clear c59b1
                try clear c60
                try clear c60b0
                try clear c60b1
                try clear c61
                try clear c61b0
                try clear c61b1
                try clear c62
                try clear c62b0
                try clear c62b1
                try clear c63
                try clear c63b0
                try clear c63b1
                try clear c64
                try clear c64b0
                try clear c64b1
                try clear p64
                try clear c65
                try clear c65b0
                try clear c65b1
                try clear c66
                try clear c66b0
                try clear c66b1
                try clear c67
                try clear c67b0
                try clear c67b1
                try clear c69
                try clear c71
                try clear c73
                try clear c75
                try clear c75b0
                try clear c75b1
                try clear p2
                try clear p6
                obtain ⟨kq, HA, HJ49, HO_3, HO_4, HB⟩ := hcut
                cases kq with
                | zero => exact absurd HA.out (by simp [abacuslaw01_NatLimit.j1])
                | succ kj49 =>
                  have H := HA.out
                  clear HA
                  simp only [abacuslaw01_NatLimit.j1] at H
                  replace H := Option.bind_eq_some_iff.mp H
                  obtain ⟨⟨t346, t349⟩, A930, H⟩ := H
                  replace H : (if t349 = 0 then ((nat_BitLen.f kj49 t346).bind fun t350 => (abacuslaw01_NatLimit.j2 kj49 a0 t346 (t350 != a0))) else (abacuslaw01_NatLimit.j2 kj49 a0 t346 true)) = some r := H
                  have A93 := Aside0.mk A930
                  clear A930
                  have HC94 := Aside0.mk H
                  clear H
                  go_upto_region 21 with (first | ((with_reducible refine gate_callee (f := 19) rfl ?_); refine goesL_ (some 147) rfl rfl Tryd.func19 (by kernel_rfl) rfl #[.slice Ao51 t317.length co51, .slice Ao35 y314.length co35] rfl (by (try simp only [List.map_toArray, List.map_cons, List.map_nil]); first | done | rfl | (simp only [List.length_drop, List.length_take]; rfl)) ?_; (with_reducible refine (nat_Sub.calls kj49 _ _ t317 _ _ y314 t346 t349 _ ?side1 ?side2 ?side3 ?side4 A93.out).mono ?_); (case side1 => repeat (first | exact (Kd.V_reads' HO_4.out).2.2 | (with_reducible refine Kd.C_alloc ?_ _) | (with_reducible refine Kd.C_drewN ?_ _) | (with_reducible refine Kd.C_drew ?_))); (case side2 => exact (Kd.V_reads' HO_4.out).2.1); (case side3 => repeat (first | exact (Kd.R_reads' HO_3.out).2.2 | (with_reducible refine Kd.C_alloc ?_ _) | (with_reducible refine Kd.C_drewN ?_ _) | (with_reducible refine Kd.C_drew ?_))); (case side4 => exact (Kd.R_reads' HO_3.out).2.1); rintro e w95 ⟨v347, rfl, ho0, hb⟩; refine ⟨_, rfl, ?_⟩; have n0_ := Aside0.mk (Kd.R_below (by (with_reducible repeat (first | apply Kd.R_alloc | apply Kd.R_drewN | apply Kd.R_drew)); exact HO_3.out) hb); have n1_ := Aside0.mk (Kd.V_below (by (with_reducible repeat (first | apply Kd.V_alloc | apply Kd.V_drewN | apply Kd.V_drew)); exact HO_4.out) hb); have n2_ := Aside0.mk (Kd.V_lower (Kd.V_mono (ok' := fun k_ => some k_ ≠ (.slice Ao35 y314.length co35 : Value).ownBlock) ho0 (fun k_ hk_ => (Kd.fresh' (Kd.R_lt (by (with_reducible repeat (first | apply Kd.R_alloc | apply Kd.R_drewN | apply Kd.R_drew)); exact HO_3.out)) k_ hk_))) (below_size (by repeat (first | (with_reducible first | exact HB.out | apply below_alloc | apply pw_below_drewN | apply below_drew1) | exact HB.out)))); have n3_ := Aside0.mk (below_step (by repeat (first | (with_reducible first | exact HB.out | apply below_alloc | apply pw_below_drewN | apply below_drew1) | exact HB.out)) hb); clear HO_3; clear HO_4; clear HB; have HO_3 := n0_; have HO_4 := n1_; have HO348 := n2_; have HB := n3_; clear n0_ n1_ n2_ n3_; (try clear hb); (try clear hb2); (try clear hk); (try clear hi); (try clear ho0)))
                  (try simp only [Act.put, List.setIfInBounds_toArray, List.set_cons_zero, List.set_cons_succ])
                  go_cut [157] (fun v157 wc => ∃ (kq : Nat) (x157_93 : Bool), v157 = .bool x157_93 ∧ Aside0 (abacuslaw01_NatLimit.j2 kq a0 t346 x157_93 = some r) ∧ Aside0 (kq ≤ kj49) ∧ Aside0 (Kd.V (Kd.int .u64) 29 wc w.heap.size (fun _ => True) v347 t346) ∧ Aside0 (Below w.heap.size w wc))
                  case first =>
                    have H := HC94.out
                    clear HC94
                    by_cases c96 : t349 = 0
                    · rw [if_pos c96] at H
                      have c96b0 : (t349 == 0) = true := beq_iff_eq.mpr c96
                      have c96b1 : (t349 != 0) = false := bne_eq_false_iff_eq.mpr c96
                      clear c96
                      (first | rw [c96b0] | (simp only [i64_w, i32_w]; rw [c96b0]) | rw [c96b1] | skip)
                      replace H := Option.bind_eq_some_iff.mp H
                      obtain ⟨t350, A970, H⟩ := H
                      replace H : (abacuslaw01_NatLimit.j2 kj49 a0 t346 (t350 != a0)) = some r := H
                      have A97 := Aside0.mk A970
                      clear A970
                      have H' := Aside0.mk H
                      clear H
                      obtain ⟨Ao98, co98, eo98⟩ := Kd.V_slice HO348.out
                      subst eo98
                      go_wp2_with (first | (go_at_call 10; (with_reducible refine (nat_BitLen.calls kj49 _ _ t346 t350 _ ?side1 ?side2 A97.out).mono ?_); (case side1 => repeat (first | exact (Kd.V_reads' HO348.out).2.2 | (with_reducible refine Kd.C_alloc ?_ _) | (with_reducible refine Kd.C_drewN ?_ _) | (with_reducible refine Kd.C_drew ?_))); (case side2 => exact (Kd.V_reads' HO348.out).2.1); rintro e w' ⟨rfl, ⟨nd, rfl⟩⟩))
                      go_meet
                      case rel => exact ⟨_, ((t350 != a0)), (by first | rfl | (simp; done) | (simp [*]; done)), H', ⟨by have := HJ30.out; have := HJ49.out; first | omega | exact Nat.le_refl _⟩, ⟨by (with_reducible repeat (first | apply Kd.V_alloc | apply Kd.V_drewN | apply Kd.V_drew)); exact Kd.V_mono HO348.out (fun _ hk => trivial)⟩, ⟨by repeat (first | (with_reducible first | exact HB.out | apply below_alloc | apply pw_below_drewN | apply below_drew1) | exact HB.out)⟩⟩
                    · rw [if_neg c96] at H
                      have c96b0 : (t349 == 0) = false := beq_eq_false_iff_ne.mpr c96
                      have c96b1 : (t349 != 0) = true := bne_iff_ne.mpr c96
                      (first | rw [c96b0] | (simp only [i64_w, i32_w]; rw [c96b0]) | rw [c96b1] | skip)
                      have H' := Aside0.mk H
                      clear H
                      go_wp2
                      go_meet
                      case rel => exact ⟨_, (true), (by first | rfl | (simp; done) | (simp [*]; done)), H', ⟨by have := HJ30.out; have := HJ49.out; first | omega | exact Nat.le_refl _⟩, ⟨by (with_reducible repeat (first | apply Kd.V_alloc | apply Kd.V_drewN | apply Kd.V_drew)); exact Kd.V_mono HO348.out (fun _ hk => trivial)⟩, ⟨by repeat (first | (with_reducible first | exact HB.out | apply below_alloc | apply pw_below_drewN | apply below_drew1) | exact HB.out)⟩⟩
                  case rest =>
                    clear HC94
                    try clear c1
                    try clear p2
                    try clear c3
                    try clear c4
                    try clear c5
                    try clear c5b0
                    try clear c6
                    try clear c6b0
                    try clear c6b1
                    try clear p6
                    try clear c7
                    try clear c8
                    try clear c9
                    try clear c12
                    try clear c15
                    try clear c16
                    try clear c17
                    try clear c18
                    try clear c18b0
                    try clear c19
                    try clear c19b0
                    try clear c19b1
                    try clear c37
                    try clear c37b0
                    try clear c37b1
                    try clear c39
                    try clear c39b0
                    try clear c39b1
                    try clear c41
                    try clear c41b0
                    try clear c41b1
                    try clear c45
                    try clear c59
                    try clear c59b0
                    try clear c59b1
                    try clear c60
                    try clear c60b0
                    try clear c60b1
                    try clear c61
                    try clear c61b0
                    try clear c61b1
                    try clear c62
                    try clear c62b0
                    try clear c62b1
                    try clear c63
                    try clear c63b0
                    try clear c63b1
                    try clear c64
                    try clear c64b0
                    try clear c64b1
                    try clear p64
                    try clear c65
                    try clear c65b0
                    try clear c65b1
                    try clear c66
                    try clear c66b0
                    try clear c66b1
                    try clear c67
                    try clear c67b0
                    try clear c67b1
                    try clear c69
                    try clear c71
                    try clear c73
                    try clear c75
                    try clear c75b0
                    try clear c75b1
                    try clear c96
                    try clear c96b0
                    try clear c96b1
                    try clear p2
                    try clear p6
                    try clear p64
                    obtain ⟨kq, x157_93, rfl, HA, HJ93, HO_14, HB⟩ := hcut
                    cases kq with
                    | zero => exact absurd HA.out (by simp [abacuslaw01_NatLimit.j2])
                    | succ kj93 =>
                      have H := HA.out
                      clear HA
                      simp only [abacuslaw01_NatLimit.j2] at H
                      by_cases c99 : x157_93 = true
                      · subst c99
                        have H1 : (some false) = some r := by rw [if_pos rfl] at H; exact H
                        clear H
                        have H := H1
                        clear H1
                        obtain rfl := Option.some.inj H
                        go_wp2
                        go_ret
                        exact ⟨by first | rfl | (simp [errW_none, errW_some] <;> rfl) | (simp [*, errW_none, errW_some] <;> rfl), by repeat (first | (with_reducible first | exact HB.out | apply below_alloc | apply pw_below_drewN | apply below_drew1) | exact HB.out)⟩
                      · replace c99 := Bool.eq_false_iff.mpr c99
                        subst c99
                        have H1 : ((nat_Shr.f kj93 t346 (wrap64 (Int.tdiv a0 2))).bind fun bt351 => (if bt351.2.2 = 0 then (if (wrap64 (Int.tdiv a0 2)) > 0 then (if (bt351.2.1 == (decide (a0 > 0))) = true then ((nat_BitLen.f kj93 bt351.1).bind fun t356 => (some (t356 == (wrap64 (a0 - (wrap64 (Int.tdiv a0 2))))))) else (some false)) else (if (bt351.2.1 == false) = true then ((nat_BitLen.f kj93 bt351.1).bind fun t357 => (some (t357 == (wrap64 (a0 - (wrap64 (Int.tdiv a0 2))))))) else (some false))) else (some false))) = some r := by rw [if_neg (show ¬ (false = true) by decide)] at H; exact H
                        clear H
                        have H := H1
                        clear H1
                        replace H := Option.bind_eq_some_iff.mp H
                        obtain ⟨⟨t351, t354, t355⟩, A1000, H⟩ := H
                        replace H : (if t355 = 0 then (if (wrap64 (Int.tdiv a0 2)) > 0 then (if (t354 == (decide (a0 > 0))) = true then ((nat_BitLen.f kj93 t351).bind fun t356 => (some (t356 == (wrap64 (a0 - (wrap64 (Int.tdiv a0 2))))))) else (some false)) else (if (t354 == false) = true then ((nat_BitLen.f kj93 t351).bind fun t357 => (some (t357 == (wrap64 (a0 - (wrap64 (Int.tdiv a0 2))))))) else (some false))) else (some false)) = some r := H
                        have A100 := Aside0.mk A1000
                        clear A1000
                        by_cases c101 : t355 = 0
                        · rw [if_pos c101] at H
                          have c101b0 : (t355 == 0) = true := beq_iff_eq.mpr c101
                          have c101b1 : (t355 != 0) = false := bne_eq_false_iff_eq.mpr c101
                          clear c101
                          by_cases c102 : (wrap64 (Int.tdiv a0 2)) > 0
                          · rw [if_pos c102] at H
                            have c102b0 : decide (0 < (wrap64 (Int.tdiv a0 2))) = true := decide_eq_true c102
                            clear c102
                            by_cases c103 : (t354 == (decide (a0 > 0))) = true
                            · rw [if_pos c103] at H
                              have c103b0 : (t354 == (decide (a0 > 0))) = true := c103
                              (try (have c103b1 : decide (t354 = (decide (a0 > 0))) = true := by simpa using c103))
                              (try (have c103b2 : (t354 == (decide (a0 > 0))) = true := by simpa using c103))
                              clear c103
                              replace H := Option.bind_eq_some_iff.mp H
                              obtain ⟨t356, A1040, H⟩ := H
                              replace H : (some (t356 == (wrap64 (a0 - (wrap64 (Int.tdiv a0 2)))))) = some r := H
                              have A104 := Aside0.mk A1040
                              clear A1040
                              obtain rfl := Option.some.inj H
                              obtain ⟨Ao105, co105, eo105⟩ := Kd.V_slice HO_14.out
                              subst eo105
                              go_wp2_with (first | ((with_reducible refine gate_callee (f := 20) rfl ?_); refine goesL_ (some 162) rfl rfl Tryd.func20 (by kernel_rfl) rfl #[.slice Ao105 t346.length co105, .int .i64 (wrap64 (Int.tdiv a0 2))] rfl (by (try simp only [List.map_toArray, List.map_cons, List.map_nil]); first | done | rfl | (simp only [List.length_drop, List.length_take]; rfl)) ?_; (with_reducible refine (nat_Shr.calls kj93 _ _ t346 (wrap64 (Int.tdiv a0 2)) t351 t354 t355 _ ?side3 ?side1 ?side2 A100.out).mono ?_); (case side1 => repeat (first | exact (Kd.V_reads' HO_14.out).2.2 | (with_reducible refine Kd.C_alloc ?_ _) | (with_reducible refine Kd.C_drewN ?_ _) | (with_reducible refine Kd.C_drew ?_))); (case side2 => exact (Kd.V_reads' HO_14.out).2.1); (case side3 => repeat (first | exact (Kd.C_below HT.out HB.out) | (with_reducible refine Kd.C_alloc ?_ _) | (with_reducible refine Kd.C_drewN ?_ _) | (with_reducible refine Kd.C_drew ?_))); rintro e w106 ⟨v352, rfl, ho0, hb⟩; refine ⟨_, rfl, ?_⟩; have n0_ := Aside0.mk (Kd.V_below (by (with_reducible repeat (first | apply Kd.V_alloc | apply Kd.V_drewN | apply Kd.V_drew)); exact HO_14.out) hb); have n1_ := Aside0.mk (Kd.V_lower (Kd.V_mono (ok' := fun k_ => True) ho0 (fun k_ hk_ => trivial)) (below_size (by repeat (first | (with_reducible first | exact HB.out | apply below_alloc | apply pw_below_drewN | apply below_drew1) | exact HB.out)))); have n2_ := Aside0.mk (below_step (by repeat (first | (with_reducible first | exact HB.out | apply below_alloc | apply pw_below_drewN | apply below_drew1) | exact HB.out)) hb); clear HO_14; clear HB; have HO_14 := n0_; have HO353 := n1_; have HB := n2_; clear n0_ n1_ n2_; (try clear hb); (try clear hb2); (try clear hk); (try clear hi); (try clear ho0); obtain ⟨Ao107, co107, eo107⟩ := Kd.V_slice HO353.out; subst eo107) | (go_at_call 10; (with_reducible refine (nat_BitLen.calls kj93 _ _ t351 t356 _ ?side1 ?side2 A104.out).mono ?_); (case side1 => repeat (first | exact (Kd.V_reads' HO353.out).2.2 | (with_reducible refine Kd.C_alloc ?_ _) | (with_reducible refine Kd.C_drewN ?_ _) | (with_reducible refine Kd.C_drew ?_))); (case side2 => exact (Kd.V_reads' HO353.out).2.1); rintro e w' ⟨rfl, ⟨nd, rfl⟩⟩))
                              go_ret
                              exact ⟨by first | rfl | (simp [errW_none, errW_some] <;> rfl) | (simp [*, errW_none, errW_some] <;> rfl), by repeat (first | (with_reducible first | exact HB.out | apply below_alloc | apply pw_below_drewN | apply below_drew1) | exact HB.out)⟩
                            · rw [if_neg c103] at H
                              have c103b0 : (t354 == (decide (a0 > 0))) = false := by simpa using c103
                              (try (have c103b1 : decide (t354 = (decide (a0 > 0))) = false := by simpa using c103))
                              (try (have c103b2 : (t354 == (decide (a0 > 0))) = false := by simpa using c103))
                              (try (have c103b3 : ¬ (t354 = (decide (a0 > 0))) := by simpa using c103))
                              clear c103
                              obtain rfl := Option.some.inj H
                              obtain ⟨Ao108, co108, eo108⟩ := Kd.V_slice HO_14.out
                              subst eo108
                              go_wp2_with (first | ((with_reducible refine gate_callee (f := 20) rfl ?_); refine goesL_ (some 162) rfl rfl Tryd.func20 (by kernel_rfl) rfl #[.slice Ao108 t346.length co108, .int .i64 (wrap64 (Int.tdiv a0 2))] rfl (by (try simp only [List.map_toArray, List.map_cons, List.map_nil]); first | done | rfl | (simp only [List.length_drop, List.length_take]; rfl)) ?_; (with_reducible refine (nat_Shr.calls kj93 _ _ t346 (wrap64 (Int.tdiv a0 2)) t351 t354 t355 _ ?side3 ?side1 ?side2 A100.out).mono ?_); (case side1 => repeat (first | exact (Kd.V_reads' HO_14.out).2.2 | (with_reducible refine Kd.C_alloc ?_ _) | (with_reducible refine Kd.C_drewN ?_ _) | (with_reducible refine Kd.C_drew ?_))); (case side2 => exact (Kd.V_reads' HO_14.out).2.1); (case side3 => repeat (first | exact (Kd.C_below HT.out HB.out) | (with_reducible refine Kd.C_alloc ?_ _) | (with_reducible refine Kd.C_drewN ?_ _) | (with_reducible refine Kd.C_drew ?_))); rintro e w109 ⟨v352, rfl, ho0, hb⟩; refine ⟨_, rfl, ?_⟩; have n0_ := Aside0.mk (Kd.V_below (by (with_reducible repeat (first | apply Kd.V_alloc | apply Kd.V_drewN | apply Kd.V_drew)); exact HO_14.out) hb); have n1_ := Aside0.mk (Kd.V_lower (Kd.V_mono (ok' := fun k_ => True) ho0 (fun k_ hk_ => trivial)) (below_size (by repeat (first | (with_reducible first | exact HB.out | apply below_alloc | apply pw_below_drewN | apply below_drew1) | exact HB.out)))); have n2_ := Aside0.mk (below_step (by repeat (first | (with_reducible first | exact HB.out | apply below_alloc | apply pw_below_drewN | apply below_drew1) | exact HB.out)) hb); clear HO_14; clear HB; have HO_14 := n0_; have HO353 := n1_; have HB := n2_; clear n0_ n1_ n2_; (try clear hb); (try clear hb2); (try clear hk); (try clear hi); (try clear ho0)))
                              go_ret
                              exact ⟨by first | rfl | (simp [errW_none, errW_some] <;> rfl) | (simp [*, errW_none, errW_some] <;> rfl), by repeat (first | (with_reducible first | exact HB.out | apply below_alloc | apply pw_below_drewN | apply below_drew1) | exact HB.out)⟩
                          · rw [if_neg c102] at H
                            have c102b0 : decide (0 < (wrap64 (Int.tdiv a0 2))) = false := decide_eq_false c102
                            clear c102
                            by_cases c110 : (t354 == false) = true
                            · rw [if_pos c110] at H
                              have c110b0 : (t354 == false) = true := c110
                              (try (have c110b1 : decide (t354 = false) = true := by simpa using c110))
                              (try (have c110b2 : (t354 == false) = true := by simpa using c110))
                              clear c110
                              replace H := Option.bind_eq_some_iff.mp H
                              obtain ⟨t357, A1110, H⟩ := H
                              replace H : (some (t357 == (wrap64 (a0 - (wrap64 (Int.tdiv a0 2)))))) = some r := H
                              have A111 := Aside0.mk A1110
                              clear A1110
                              obtain rfl := Option.some.inj H
                              obtain ⟨Ao112, co112, eo112⟩ := Kd.V_slice HO_14.out
                              subst eo112
                              go_wp2_with (first | ((with_reducible refine gate_callee (f := 20) rfl ?_); refine goesL_ (some 162) rfl rfl Tryd.func20 (by kernel_rfl) rfl #[.slice Ao112 t346.length co112, .int .i64 (wrap64 (Int.tdiv a0 2))] rfl (by (try simp only [List.map_toArray, List.map_cons, List.map_nil]); first | done | rfl | (simp only [List.length_drop, List.length_take]; rfl)) ?_; (with_reducible refine (nat_Shr.calls kj93 _ _ t346 (wrap64 (Int.tdiv a0 2)) t351 t354 t355 _ ?side3 ?side1 ?side2 A100.out).mono ?_); (case side1 => repeat (first | exact (Kd.V_reads' HO_14.out).2.2 | (with_reducible refine Kd.C_alloc ?_ _) | (with_reducible refine Kd.C_drewN ?_ _) | (with_reducible refine Kd.C_drew ?_))); (case side2 => exact (Kd.V_reads' HO_14.out).2.1); (case side3 => repeat (first | exact (Kd.C_below HT.out HB.out) | (with_reducible refine Kd.C_alloc ?_ _) | (with_reducible refine Kd.C_drewN ?_ _) | (with_reducible refine Kd.C_drew ?_))); rintro e w113 ⟨v352, rfl, ho0, hb⟩; refine ⟨_, rfl, ?_⟩; have n0_ := Aside0.mk (Kd.V_below (by (with_reducible repeat (first | apply Kd.V_alloc | apply Kd.V_drewN | apply Kd.V_drew)); exact HO_14.out) hb); have n1_ := Aside0.mk (Kd.V_lower (Kd.V_mono (ok' := fun k_ => True) ho0 (fun k_ hk_ => trivial)) (below_size (by repeat (first | (with_reducible first | exact HB.out | apply below_alloc | apply pw_below_drewN | apply below_drew1) | exact HB.out)))); have n2_ := Aside0.mk (below_step (by repeat (first | (with_reducible first | exact HB.out | apply below_alloc | apply pw_below_drewN | apply below_drew1) | exact HB.out)) hb); clear HO_14; clear HB; have HO_14 := n0_; have HO353 := n1_; have HB := n2_; clear n0_ n1_ n2_; (try clear hb); (try clear hb2); (try clear hk); (try clear hi); (try clear ho0); obtain ⟨Ao114, co114, eo114⟩ := Kd.V_slice HO353.out; subst eo114) | (go_at_call 10; (with_reducible refine (nat_BitLen.calls kj93 _ _ t351 t357 _ ?side1 ?side2 A111.out).mono ?_); (case side1 => repeat (first | exact (Kd.V_reads' HO353.out).2.2 | (with_reducible refine Kd.C_alloc ?_ _) | (with_reducible refine Kd.C_drewN ?_ _) | (with_reducible refine Kd.C_drew ?_))); (case side2 => exact (Kd.V_reads' HO353.out).2.1); rintro e w' ⟨rfl, ⟨nd, rfl⟩⟩))
                              go_ret
                              exact ⟨by first | rfl | (simp [errW_none, errW_some] <;> rfl) | (simp [*, errW_none, errW_some] <;> rfl), by repeat (first | (with_reducible first | exact HB.out | apply below_alloc | apply pw_below_drewN | apply below_drew1) | exact HB.out)⟩
                            · rw [if_neg c110] at H
                              have c110b0 : (t354 == false) = false := by simpa using c110
                              (try (have c110b1 : decide (t354 = false) = false := by simpa using c110))
                              (try (have c110b2 : (t354 == false) = false := by simpa using c110))
                              (try (have c110b3 : ¬ (t354 = false) := by simpa using c110))
                              clear c110
                              obtain rfl := Option.some.inj H
                              obtain ⟨Ao115, co115, eo115⟩ := Kd.V_slice HO_14.out
                              subst eo115
                              go_wp2_with (first | ((with_reducible refine gate_callee (f := 20) rfl ?_); refine goesL_ (some 162) rfl rfl Tryd.func20 (by kernel_rfl) rfl #[.slice Ao115 t346.length co115, .int .i64 (wrap64 (Int.tdiv a0 2))] rfl (by (try simp only [List.map_toArray, List.map_cons, List.map_nil]); first | done | rfl | (simp only [List.length_drop, List.length_take]; rfl)) ?_; (with_reducible refine (nat_Shr.calls kj93 _ _ t346 (wrap64 (Int.tdiv a0 2)) t351 t354 t355 _ ?side3 ?side1 ?side2 A100.out).mono ?_); (case side1 => repeat (first | exact (Kd.V_reads' HO_14.out).2.2 | (with_reducible refine Kd.C_alloc ?_ _) | (with_reducible refine Kd.C_drewN ?_ _) | (with_reducible refine Kd.C_drew ?_))); (case side2 => exact (Kd.V_reads' HO_14.out).2.1); (case side3 => repeat (first | exact (Kd.C_below HT.out HB.out) | (with_reducible refine Kd.C_alloc ?_ _) | (with_reducible refine Kd.C_drewN ?_ _) | (with_reducible refine Kd.C_drew ?_))); rintro e w116 ⟨v352, rfl, ho0, hb⟩; refine ⟨_, rfl, ?_⟩; have n0_ := Aside0.mk (Kd.V_below (by (with_reducible repeat (first | apply Kd.V_alloc | apply Kd.V_drewN | apply Kd.V_drew)); exact HO_14.out) hb); have n1_ := Aside0.mk (Kd.V_lower (Kd.V_mono (ok' := fun k_ => True) ho0 (fun k_ hk_ => trivial)) (below_size (by repeat (first | (with_reducible first | exact HB.out | apply below_alloc | apply pw_below_drewN | apply below_drew1) | exact HB.out)))); have n2_ := Aside0.mk (below_step (by repeat (first | (with_reducible first | exact HB.out | apply below_alloc | apply pw_below_drewN | apply below_drew1) | exact HB.out)) hb); clear HO_14; clear HB; have HO_14 := n0_; have HO353 := n1_; have HB := n2_; clear n0_ n1_ n2_; (try clear hb); (try clear hb2); (try clear hk); (try clear hi); (try clear ho0)))
                              go_ret
                              exact ⟨by first | rfl | (simp [errW_none, errW_some] <;> rfl) | (simp [*, errW_none, errW_some] <;> rfl), by repeat (first | (with_reducible first | exact HB.out | apply below_alloc | apply pw_below_drewN | apply below_drew1) | exact HB.out)⟩
                        · rw [if_neg c101] at H
                          have c101b0 : (t355 == 0) = false := beq_eq_false_iff_ne.mpr c101
                          have c101b1 : (t355 != 0) = true := bne_iff_ne.mpr c101
                          obtain rfl := Option.some.inj H
                          obtain ⟨Ao117, co117, eo117⟩ := Kd.V_slice HO_14.out
                          subst eo117
                          go_wp2_with (first | ((with_reducible refine gate_callee (f := 20) rfl ?_); refine goesL_ (some 162) rfl rfl Tryd.func20 (by kernel_rfl) rfl #[.slice Ao117 t346.length co117, .int .i64 (wrap64 (Int.tdiv a0 2))] rfl (by (try simp only [List.map_toArray, List.map_cons, List.map_nil]); first | done | rfl | (simp only [List.length_drop, List.length_take]; rfl)) ?_; (with_reducible refine (nat_Shr.calls kj93 _ _ t346 (wrap64 (Int.tdiv a0 2)) t351 t354 t355 _ ?side3 ?side1 ?side2 A100.out).mono ?_); (case side1 => repeat (first | exact (Kd.V_reads' HO_14.out).2.2 | (with_reducible refine Kd.C_alloc ?_ _) | (with_reducible refine Kd.C_drewN ?_ _) | (with_reducible refine Kd.C_drew ?_))); (case side2 => exact (Kd.V_reads' HO_14.out).2.1); (case side3 => repeat (first | exact (Kd.C_below HT.out HB.out) | (with_reducible refine Kd.C_alloc ?_ _) | (with_reducible refine Kd.C_drewN ?_ _) | (with_reducible refine Kd.C_drew ?_))); rintro e w118 ⟨v352, rfl, ho0, hb⟩; refine ⟨_, rfl, ?_⟩; have n0_ := Aside0.mk (Kd.V_below (by (with_reducible repeat (first | apply Kd.V_alloc | apply Kd.V_drewN | apply Kd.V_drew)); exact HO_14.out) hb); have n1_ := Aside0.mk (Kd.V_lower (Kd.V_mono (ok' := fun k_ => True) ho0 (fun k_ hk_ => trivial)) (below_size (by repeat (first | (with_reducible first | exact HB.out | apply below_alloc | apply pw_below_drewN | apply below_drew1) | exact HB.out)))); have n2_ := Aside0.mk (below_step (by repeat (first | (with_reducible first | exact HB.out | apply below_alloc | apply pw_below_drewN | apply below_drew1) | exact HB.out)) hb); clear HO_14; clear HB; have HO_14 := n0_; have HO353 := n1_; have HB := n2_; clear n0_ n1_ n2_; (try clear hb); (try clear hb2); (try clear hk); (try clear hi); (try clear ho0)))
                          go_ret
                          exact ⟨by first | rfl | (simp [errW_none, errW_some] <;> rfl) | (simp [*, errW_none, errW_some] <;> rfl), by repeat (first | (with_reducible first | exact HB.out | apply below_alloc | apply pw_below_drewN | apply below_drew1) | exact HB.out)⟩
  · replace c3 := Bool.eq_false_iff.mpr c3
    subst c3
    have H1 : (some false) = some r := by rw [if_neg (show ¬ (false = true) by decide)] at H; exact H
    clear H
    have H := H1
    clear H1
    obtain rfl := Option.some.inj H
    go_enter Tryd.func4, Tryd.ntmps4
    go_wp2_with (first | ((with_reducible refine gate_callee (f := 8) rfl ?_); refine goesL_ (some 17) rfl rfl Tryd.func8 (by kernel_rfl) rfl #[] rfl (by (try simp only [List.map_toArray, List.map_cons, List.map_nil]); first | done | rfl | (simp only [List.length_drop, List.length_take]; rfl)) ?_; (with_reducible refine (abacuslaw01_awake.calls k  false _ A2.out).mono ?_); rintro e w119 ⟨rfl, hb⟩; refine ⟨_, rfl, ?_⟩; have n0_ := Aside0.mk (below_step (by repeat (first | (with_reducible first | exact HB.out | apply below_alloc | apply pw_below_drewN | apply below_drew1) | exact HB.out)) hb); clear HB; have HB := n0_; clear n0_; (try clear hb); (try clear hb2); (try clear hk); (try clear hi)))
    go_ret
    exact ⟨by first | rfl | (simp [errW_none, errW_some] <;> rfl) | (simp [*, errW_none, errW_some] <;> rfl), by repeat (first | (with_reducible first | exact HB.out | apply below_alloc | apply pw_below_drewN | apply below_drew1) | exact HB.out)⟩

/-- THE ONE PURE STATEMENT of abacuslaw01_NatLimit: yours. -/
def abacuslaw01_NatLimit.Pure : Prop := ∀ (a0 : Int), (Lit.int .i64 a0).wf = true → ∃ k, abacuslaw01_NatLimit.f k a0 = some true
theorem abacuslaw01_NatLimit.walk (P : abacuslaw01_NatLimit.Pure) (a0 : Int) (w : World) (hT : Kd.C (Kd.int .u8) w (some ⟨0, 0, none⟩) 64 tabL) (w0 : (Lit.int .i64 a0).wf = true) :
    Calls Tryd.prog 4 #[.int .i64 a0] w fun e w' => e = .returned (.bool true) ∧ Below w.heap.size w w' := by
  obtain ⟨k, h⟩ := P a0 w0
  refine (abacuslaw01_NatLimit.calls k a0 true w hT h).mono ?_
  rintro e w' ⟨rfl, hd⟩
  exact ⟨rfl, hd⟩

end Go.Proofs.YtnicfpilpafddaaDoor.PT
