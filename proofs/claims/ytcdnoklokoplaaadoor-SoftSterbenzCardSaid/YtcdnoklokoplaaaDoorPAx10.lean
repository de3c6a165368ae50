-- printed by a program
import Derived.Test.YtcdnoklokoplaaaDoorPAx0
import Derived.Test.YtcdnoklokoplaaaDoorPAx1
import Derived.Test.YtcdnoklokoplaaaDoorPAx2
import Derived.Test.YtcdnoklokoplaaaDoorPAx8
import Derived.Test.YtcdnoklokoplaaaDoorPAx9
namespace Go.Proofs.YtcdnoklokoplaaaDoor.PA
open Go.Proofs.YtcdnoklokoplaaaDoorX
open Go.RowKit Go.Proofs.YtcdnoklokoplaaaDoorW.PrintWords Go.Proofs.YtcdnoklokoplaaaDoorW.PrintLast Go.Proofs.YtcdnoklokoplaaaDoorW.PrintMore
attribute [local go_sem] max2_int min2_int max_two min_two max_three min_three max_four min_four   -- for this text's walks alone
set_option linter.unusedVariables false
set_option linter.unusedSimpArgs false

/-! ### abacuslaw05_SoftSterbenz: function 3 -/
mutual
def abacuslaw05_SoftSterbenz.j0 : Nat → Int → Int → Bool → Option (Bool)
 | 0, _, _, _ => none
 | k + 1, x0, x1, x13 => if x13 = true then (some false) else ((abacuslaw05_finite.f x0).bind fun t465 => (if t465 = true then ((abacuslaw05_finite.f x1).bind fun t466 => (abacuslaw05_SoftSterbenz.j1 k x0 x1 (!t466))) else (abacuslaw05_SoftSterbenz.j1 k x0 x1 true)))
def abacuslaw05_SoftSterbenz.j1 : Nat → Int → Int → Bool → Option (Bool)
 | 0, _, _, _ => none
 | k + 1, x0, x1, x21 => if x21 = true then (some true) else ((abacuslaw05_units.f k x0).bind fun bt467 => ((abacuslaw05_units.f k x1).bind fun bt472 => (if (bt467.1 != bt472.1) = true then (abacuslaw05_SoftSterbenz.j2 k x0 x1 true bt467.1 bt467.2 bt472.1 bt472.2) else ((abacuslaw05_lifted.f k bt472.1 bt472.2 1).bind fun bt477 => ((nat_Cmp.f k bt467.2 bt477.2).bind fun t481 => (if t481 > 0 then (abacuslaw05_SoftSterbenz.j2 k x0 x1 true bt467.1 bt467.2 bt472.1 bt472.2) else ((abacuslaw05_lifted.f k bt467.1 bt467.2 1).bind fun bt482 => ((nat_Cmp.f k bt472.2 bt482.2).bind fun t486 => (abacuslaw05_SoftSterbenz.j2 k x0 x1 (decide (t486 > 0)) bt467.1 bt467.2 bt472.1 bt472.2)))))))))
def abacuslaw05_SoftSterbenz.j2 : Nat → Int → Int → Bool → Bool → List Int → Bool → List Int → Option (Bool)
 | 0, _, _, _, _, _, _, _ => none
 | k + 1, x0, x1, x48, x472000, x472001, x477000, x477001 => if x48 = true then (some true) else ((soft_Sub.f k x0 x1).bind fun t487 => ((abacuslaw05_finite.f t487).bind fun t488 => (if t488 = true then ((abacuslaw05_units.f k t487).bind fun bt489 => ((abacuslaw05_plus.f k x472000 x472001 (!x477000) x477001).bind fun bt493 => ((abacuslaw05_same.f k bt489.1 bt489.2 bt493.1 bt493.2).bind fun t497 => (some t497)))) else (some false))))
end
def abacuslaw05_SoftSterbenz.f (k : Nat) (a0 : Int) (a1 : Int) : Option (Bool) := (abacuslaw05_works.f k).bind fun t463 => (if t463 = true then ((abacuslaw05_adds.f k).bind fun t464 => (abacuslaw05_SoftSterbenz.j0 k a0 a1 (!t464))) else (abacuslaw05_SoftSterbenz.j0 k a0 a1 true))
theorem abacuslaw05_SoftSterbenz.mono_l : ∀ k, (∀ y0 y1 y2, LeO (abacuslaw05_SoftSterbenz.j0 k y0 y1 y2) (abacuslaw05_SoftSterbenz.j0 (k + 1) y0 y1 y2)) ∧ (∀ y0 y1 y2, LeO (abacuslaw05_SoftSterbenz.j1 k y0 y1 y2) (abacuslaw05_SoftSterbenz.j1 (k + 1) y0 y1 y2)) ∧ (∀ y0 y1 y2 y3 y4 y5 y6, LeO (abacuslaw05_SoftSterbenz.j2 k y0 y1 y2 y3 y4 y5 y6) (abacuslaw05_SoftSterbenz.j2 (k + 1) y0 y1 y2 y3 y4 y5 y6))
 | 0 => ⟨fun _ _ _ r h => by simp [abacuslaw05_SoftSterbenz.j0] at h, fun _ _ _ r h => by simp [abacuslaw05_SoftSterbenz.j1] at h, fun _ _ _ _ _ _ _ r h => by simp [abacuslaw05_SoftSterbenz.j2] at h⟩
 | k + 1 => by
  obtain ⟨ih0, ih1, ih2⟩ := abacuslaw05_SoftSterbenz.mono_l k
  refine ⟨?_, ?_, ?_⟩
  ·intro y0 y1 y2
   unfold abacuslaw05_SoftSterbenz.j0
   repeat' first
   | (with_reducible exact ih0 _ _ _)
   | (with_reducible exact ih1 _ _ _)
   | (with_reducible exact ih2 _ _ _ _ _ _ _)
   | (with_reducible exact abacuslaw05_adds.mono _)
   | (with_reducible exact abacuslaw05_lifted.mono _ _ _ _)
   | (with_reducible exact abacuslaw05_plus.mono _ _ _ _ _)
   | (with_reducible exact abacuslaw05_same.mono _ _ _ _ _)
   | (with_reducible exact abacuslaw05_units.mono _ _)
   | (with_reducible exact abacuslaw05_works.mono _)
   | (with_reducible exact nat_Cmp.mono _ _ _)
   | (with_reducible exact soft_Sub.mono _ _ _)
   | (with_reducible exact LeO.refl _)
   | (with_reducible exact LeO.none _)
   | (with_reducible refine LeO.ite ?_ ?_)
   | (with_reducible refine LeO.bind ?_ (fun _ => ?_))
   | exact ih0 _ _ _
   | exact ih1 _ _ _
   | exact ih2 _ _ _ _ _ _ _
   | exact abacuslaw05_adds.mono _
   | exact abacuslaw05_lifted.mono _ _ _ _
   | exact abacuslaw05_plus.mono _ _ _ _ _
   | exact abacuslaw05_same.mono _ _ _ _ _
   | exact abacuslaw05_units.mono _ _
   | exact abacuslaw05_works.mono _
   | exact nat_Cmp.mono _ _ _
   | exact soft_Sub.mono _ _ _
   | exact LeO.none _
   | refine LeO.ite ?_ ?_
   | refine LeO.bind ?_ (fun _ => ?_)
  ·intro y0 y1 y2
   unfold abacuslaw05_SoftSterbenz.j1
   repeat' first
   | (with_reducible exact ih0 _ _ _)
   | (with_reducible exact ih1 _ _ _)
   | (with_reducible exact ih2 _ _ _ _ _ _ _)
   | (with_reducible exact abacuslaw05_adds.mono _)
   | (with_reducible exact abacuslaw05_lifted.mono _ _ _ _)
   | (with_reducible exact abacuslaw05_plus.mono _ _ _ _ _)
   | (with_reducible exact abacuslaw05_same.mono _ _ _ _ _)
   | (with_reducible exact abacuslaw05_units.mono _ _)
   | (with_reducible exact abacuslaw05_works.mono _)
   | (with_reducible exact nat_Cmp.mono _ _ _)
   | (with_reducible exact soft_Sub.mono _ _ _)
   | (with_reducible exact LeO.refl _)
   | (with_reducible exact LeO.none _)
   | (with_reducible refine LeO.ite ?_ ?_)
   | (with_reducible refine LeO.bind ?_ (fun _ => ?_))
   | exact ih0 _ _ _
   | exact ih1 _ _ _
   | exact ih2 _ _ _ _ _ _ _
   | exact abacuslaw05_adds.mono _
   | exact abacuslaw05_lifted.mono _ _ _ _
   | exact abacuslaw05_plus.mono _ _ _ _ _
   | exact abacuslaw05_same.mono _ _ _ _ _
   | exact abacuslaw05_units.mono _ _
   | exact abacuslaw05_works.mono _
   | exact nat_Cmp.mono _ _ _
   | exact soft_Sub.mono _ _ _
   | exact LeO.none _
   | refine LeO.ite ?_ ?_
   | refine LeO.bind ?_ (fun _ => ?_)
  ·intro y0 y1 y2 y3 y4 y5 y6
   unfold abacuslaw05_SoftSterbenz.j2
   repeat' first
   | (with_reducible exact ih0 _ _ _)
   | (with_reducible exact ih1 _ _ _)
   | (with_reducible exact ih2 _ _ _ _ _ _ _)
   | (with_reducible exact abacuslaw05_adds.mono _)
   | (with_reducible exact abacuslaw05_lifted.mono _ _ _ _)
   | (with_reducible exact abacuslaw05_plus.mono _ _ _ _ _)
   | (with_reducible exact abacuslaw05_same.mono _ _ _ _ _)
   | (with_reducible exact abacuslaw05_units.mono _ _)
   | (with_reducible exact abacuslaw05_works.mono _)
   | (with_reducible exact nat_Cmp.mono _ _ _)
   | (with_reducible exact soft_Sub.mono _ _ _)
   | (with_reducible exact LeO.refl _)
   | (with_reducible exact LeO.none _)
   | (with_reducible refine LeO.ite ?_ ?_)
   | (with_reducible refine LeO.bind ?_ (fun _ => ?_))
   | exact ih0 _ _ _
   | exact ih1 _ _ _
   | exact ih2 _ _ _ _ _ _ _
   | exact abacuslaw05_adds.mono _
   | exact abacuslaw05_lifted.mono _ _ _ _
   | exact abacuslaw05_plus.mono _ _ _ _ _
   | exact abacuslaw05_same.mono _ _ _ _ _
   | exact abacuslaw05_units.mono _ _
   | exact abacuslaw05_works.mono _
   | exact nat_Cmp.mono _ _ _
   | exact soft_Sub.mono _ _ _
   | exact LeO.none _
   | refine LeO.ite ?_ ?_
   | refine LeO.bind ?_ (fun _ => ?_)
theorem abacuslaw05_SoftSterbenz.mono : ∀ a0 a1 k, LeO (abacuslaw05_SoftSterbenz.f k a0 a1) (abacuslaw05_SoftSterbenz.f (k + 1) a0 a1) := by
 intro a0 a1 k
 obtain ⟨ih0, ih1, ih2⟩ := abacuslaw05_SoftSterbenz.mono_l k
 unfold abacuslaw05_SoftSterbenz.f
 repeat' first
   | (with_reducible exact ih0 _ _ _)
   | (with_reducible exact ih1 _ _ _)
   | (with_reducible exact ih2 _ _ _ _ _ _ _)
   | (with_reducible exact abacuslaw05_adds.mono _)
   | (with_reducible exact abacuslaw05_lifted.mono _ _ _ _)
   | (with_reducible exact abacuslaw05_plus.mono _ _ _ _ _)
   | (with_reducible exact abacuslaw05_same.mono _ _ _ _ _)
   | (with_reducible exact abacuslaw05_units.mono _ _)
   | (with_reducible exact abacuslaw05_works.mono _)
   | (with_reducible exact nat_Cmp.mono _ _ _)
   | (with_reducible exact soft_Sub.mono _ _ _)
   | (with_reducible exact LeO.refl _)
   | (with_reducible exact LeO.none _)
   | (with_reducible refine LeO.ite ?_ ?_)
   | (with_reducible refine LeO.bind ?_ (fun _ => ?_))
   | exact ih0 _ _ _
   | exact ih1 _ _ _
   | exact ih2 _ _ _ _ _ _ _
   | exact abacuslaw05_adds.mono _
   | exact abacuslaw05_lifted.mono _ _ _ _
   | exact abacuslaw05_plus.mono _ _ _ _ _
   | exact abacuslaw05_same.mono _ _ _ _ _
   | exact abacuslaw05_units.mono _ _
   | exact abacuslaw05_works.mono _
   | exact nat_Cmp.mono _ _ _
   | exact soft_Sub.mono _ _ _
   | exact LeO.none _
   | refine LeO.ite ?_ ?_
   | refine LeO.bind ?_ (fun _ => ?_)
def abacuslaw05_SoftSterbenz.T7 : Bool × List (List Nat × List Nat) := (true, [([], []), ([0], [0]), ([], []), ([2], [2]), ([1, 3], [1, 3]), ([4], [4]), ([5], [5]), ([6, 5], [5, 6]), ([5], [5]), ([8, 5, 5], [5, 8]), ([9, 5], [5, 9]), ([7, 10, 9, 5], [5, 7, 10]), ([11, 5], [5, 11]), ([5, 12], [5, 12]), ([13, 11], [13]), ([14], [14]), ([15, 14], [14, 15]), ([14], [14]), ([17, 14, 14], [14, 17]), ([18, 14], [14, 18]), ([16, 19, 18, 14], [14, 16, 19]), ([20, 14], [14, 20]), ([14, 21], [14, 21])])
def abacuslaw05_SoftSterbenz.B7 : List Nat := [0, 1, 0, 4, 15, 31, 63, 127, 63, 319, 831, 2047, 4095, 8191, 16383, 32767, 65535, 32767, 163839, 425983, 1048575, 2097151, 4194303]
theorem abacuslaw05_SoftSterbenz.tab7 : rtab .any (opsOf Tryd.f3 7) = abacuslaw05_SoftSterbenz.T7 := by kernel_rfl
theorem abacuslaw05_SoftSterbenz.bits7 : waitsOk abacuslaw05_SoftSterbenz.T7.2 abacuslaw05_SoftSterbenz.B7 = true := by kernel_rfl
def abacuslaw05_SoftSterbenz.T10 : Bool × List (List Nat × List Nat) := (true, [([], []), ([0], [0]), ([1, 1], [1]), ([2], [2]), ([3, 2, 2], [2, 3]), ([2], [2]), ([2], [2]), ([6, 2], [2, 6]), ([7, 2], [2, 7]), ([2], [2]), ([9, 2], [2, 9]), ([8, 10, 2], [2, 8, 10]), ([5, 11, 4, 2], [2, 5, 11]), ([4, 12, 12, 2], [2, 4, 12]), ([2, 13], [2, 13]), ([14, 13, 0, 1, 2, 3, 4, 5, 6, 7, 8, 9, 10, 11, 12, 13, 14], [14])])
def abacuslaw05_SoftSterbenz.B10 : List Nat := [0, 1, 3, 7, 15, 7, 7, 71, 199, 7, 519, 1991, 4095, 8191, 16383, 32767]
theorem abacuslaw05_SoftSterbenz.tab10 : rtab .any (opsOf Tryd.f3 10) = abacuslaw05_SoftSterbenz.T10 := by kernel_rfl
theorem abacuslaw05_SoftSterbenz.bits10 : waitsOk abacuslaw05_SoftSterbenz.T10.2 abacuslaw05_SoftSterbenz.B10 = true := by kernel_rfl
set_option maxHeartbeats 8000000 in
set_option maxRecDepth 100000 in
theorem abacuslaw05_SoftSterbenz.calls (k : Nat) (a0 : Int) (a1 : Int) (r : Bool) (w : World) (hT : Kd.C (Kd.int .u8) w (some ⟨0, 0, none⟩) 64 tabL) (h : abacuslaw05_SoftSterbenz.f k a0 a1 = some r) :
  Calls Tryd.prog 3 #[.int .u64 a0, .int .u64 a1] w fun e w' => e = .returned (.bool r) ∧ Below w.heap.size w w' := by
 have hu27 := Tryd.underlying27
 have HT := Aside0.mk hT
 clear hT
 have HB := Aside0.mk (Below.refl w.heap.size w)
 have H : ((abacuslaw05_works.f k).bind fun t463 => (if t463 = true then ((abacuslaw05_adds.f k).bind fun t464 => (abacuslaw05_SoftSterbenz.j0 k a0 a1 (!t464))) else (abacuslaw05_SoftSterbenz.j0 k a0 a1 true))) = some r := h
 clear h
 have HC3 := Aside0.mk H
 clear H
 go_enter Tryd.func3, Tryd.ntmps3
 go_upto_region 1 with (fail)
 go_cut [13] (fun v13 wc => ∃ (kq : Nat) (x13_2 : Bool), v13 = .bool x13_2 ∧ Aside0 (abacuslaw05_SoftSterbenz.j0 kq a0 a1 x13_2 = some r) ∧ Aside0 (kq ≤ k) ∧ Aside0 (Below w.heap.size w wc))
 case first =>
  have H := HC3.out
  clear HC3
  replace H := Option.bind_eq_some_iff.mp H
  obtain ⟨t463, A40, H⟩ := H
  replace H : (if t463 = true then ((abacuslaw05_adds.f k).bind fun t464 => (abacuslaw05_SoftSterbenz.j0 k a0 a1 (!t464))) else (abacuslaw05_SoftSterbenz.j0 k a0 a1 true)) = some r := H
  have A4 := Aside0.mk A40
  clear A40
  by_cases c5 : t463 = true
  ·subst c5
   have H1 : ((abacuslaw05_adds.f k).bind fun t464 => (abacuslaw05_SoftSterbenz.j0 k a0 a1 (!t464))) = some r := by rw [if_pos rfl] at H; exact H
   clear H
   have H := H1
   clear H1
   replace H := Option.bind_eq_some_iff.mp H
   obtain ⟨t464, A60, H⟩ := H
   replace H : (abacuslaw05_SoftSterbenz.j0 k a0 a1 (!t464)) = some r := H
   have A6 := Aside0.mk A60
   clear A60
   have H' := Aside0.mk H
   clear H
   go_wp2_with (first | ((with_reducible refine gate_callee (f := 14) rfl ?_); refine goesL_ (some 8) rfl rfl Tryd.func14 (by kernel_rfl) rfl #[] rfl (by (try simp only [List.map_toArray, List.map_cons, List.map_nil]); first | done | rfl | (simp only [List.length_drop, List.length_take]; rfl) | (simp only [gt_iff_lt, Int.natCast_pos]; done) | (simp only [gt_iff_lt, Int.natCast_pos]; rfl)) ?_; (with_reducible refine (abacuslaw05_works.calls k  true _ A4.out).mono ?_); rintro e w7 ⟨rfl, hb⟩; refine ⟨_, rfl, ?_⟩; have n0_ := Aside0.mk (below_step (bS HB.out) hb); clear HB; have HB := n0_; clear n0_; (try clear hb); (try clear hb2); (try clear hk); (try clear hi)) | (go_at_call 15; (with_reducible refine (abacuslaw05_adds.calls k  t464 _ ?side1 A6.out).mono ?_); (case side1 => exact cS (Kd.C_below HT.out HB.out)); rintro e w8 ⟨rfl, hb⟩; have n0_ := Aside0.mk (below_step (bS HB.out) hb); clear HB; have HB := n0_; clear n0_; (try clear hb); (try clear hb2); (try clear hk); (try clear hi)))
   go_meet
   case rel => exact ⟨_, (!t464), (by first | rfl | (simp; done) | (simp [*]; done)), H', ⟨by first | omega | exact Nat.le_refl _⟩, ⟨bS HB.out⟩⟩
  ·replace c5 := Bool.eq_false_iff.mpr c5
   subst c5
   have H1 : (abacuslaw05_SoftSterbenz.j0 k a0 a1 true) = some r := by rw [if_neg (show ¬ (false = true) by decide)] at H; exact H
   clear H
   have H := H1
   clear H1
   have H' := Aside0.mk H
   clear H
   go_wp2_with (first | ((with_reducible refine gate_callee (f := 14) rfl ?_); refine goesL_ (some 8) rfl rfl Tryd.func14 (by kernel_rfl) rfl #[] rfl (by (try simp only [List.map_toArray, List.map_cons, List.map_nil]); first | done | rfl | (simp only [List.length_drop, List.length_take]; rfl) | (simp only [gt_iff_lt, Int.natCast_pos]; done) | (simp only [gt_iff_lt, Int.natCast_pos]; rfl)) ?_; (with_reducible refine (abacuslaw05_works.calls k  false _ A4.out).mono ?_); rintro e w9 ⟨rfl, hb⟩; refine ⟨_, rfl, ?_⟩; have n0_ := Aside0.mk (below_step (bS HB.out) hb); clear HB; have HB := n0_; clear n0_; (try clear hb); (try clear hb2); (try clear hk); (try clear hi)))
   go_meet
   case rel => exact ⟨_, (true), (by first | rfl | (simp; done) | (simp [*]; done)), H', ⟨by first | omega | exact Nat.le_refl _⟩, ⟨bS HB.out⟩⟩
 case rest =>
  clear HC3
  try clear c1
  try clear p2
  try clear c3
  try clear c5
  obtain ⟨kq, x13_2, rfl, HA, HJ2, HB⟩ := hcut
  cases kq with
  | zero => exact absurd HA.out (by simp [abacuslaw05_SoftSterbenz.j0])
  | succ kj2 =>
   have H := HA.out
   clear HA
   simp only [abacuslaw05_SoftSterbenz.j0] at H
   by_cases c10 : x13_2 = true
   ·subst c10
    have H1 : (some false) = some r := by rw [if_pos rfl] at H; exact H
    clear H
    have H := H1
    clear H1
    obtain rfl := Option.some.inj H
    go_wp2
    go_ret
    exact ⟨by first | rfl | (simp [errW_none, errW_some] <;> rfl) | (simp [*, errW_none, errW_some] <;> rfl), bS HB.out⟩
   ·replace c10 := Bool.eq_false_iff.mpr c10
    subst c10
    have H1 : ((abacuslaw05_finite.f a0).bind fun t465 => (if t465 = true then ((abacuslaw05_finite.f a1).bind fun t466 => (abacuslaw05_SoftSterbenz.j1 kj2 a0 a1 (!t466))) else (abacuslaw05_SoftSterbenz.j1 kj2 a0 a1 true))) = some r := by rw [if_neg (show ¬ (false = true) by decide)] at H; exact H
    clear H
    have H := H1
    clear H1
    have HC11 := Aside0.mk H
    clear H
    go_upto_region 3 with (fail)
    go_cut [21] (fun v21 wc => ∃ (kq : Nat) (x21_10 : Bool), v21 = .bool x21_10 ∧ Aside0 (abacuslaw05_SoftSterbenz.j1 kq a0 a1 x21_10 = some r) ∧ Aside0 (kq ≤ kj2) ∧ Aside0 (Below w.heap.size w wc))
    case first =>
     have H := HC11.out
     clear HC11
     replace H := Option.bind_eq_some_iff.mp H
     obtain ⟨t465, A120, H⟩ := H
     replace H : (if t465 = true then ((abacuslaw05_finite.f a1).bind fun t466 => (abacuslaw05_SoftSterbenz.j1 kj2 a0 a1 (!t466))) else (abacuslaw05_SoftSterbenz.j1 kj2 a0 a1 true)) = some r := H
     have A12 := Aside0.mk A120
     clear A120
     by_cases c13 : t465 = true
     ·subst c13
      have H1 : ((abacuslaw05_finite.f a1).bind fun t466 => (abacuslaw05_SoftSterbenz.j1 kj2 a0 a1 (!t466))) = some r := by rw [if_pos rfl] at H; exact H
      clear H
      have H := H1
      clear H1
      replace H := Option.bind_eq_some_iff.mp H
      obtain ⟨t466, A140, H⟩ := H
      replace H : (abacuslaw05_SoftSterbenz.j1 kj2 a0 a1 (!t466)) = some r := H
      have A14 := Aside0.mk A140
      clear A140
      have H' := Aside0.mk H
      clear H
      go_wp2_with (first | ((with_reducible refine gate_callee (f := 16) rfl ?_); refine goesL_ (some 15) rfl rfl Tryd.func16 (by kernel_rfl) rfl #[.int .u64 a0] rfl (by (try simp only [List.map_toArray, List.map_cons, List.map_nil]); first | done | rfl | (simp only [List.length_drop, List.length_take]; rfl) | (simp only [gt_iff_lt, Int.natCast_pos]; done) | (simp only [gt_iff_lt, Int.natCast_pos]; rfl)) ?_; (with_reducible refine (abacuslaw05_finite.calls a0 true _ A12.out).mono ?_); rintro e w' ⟨rfl, ⟨nd, rfl⟩⟩; refine ⟨_, rfl, ?_⟩) | (go_at_call 16; (with_reducible refine (abacuslaw05_finite.calls a1 t466 _ A14.out).mono ?_); rintro e w' ⟨rfl, ⟨nd, rfl⟩⟩))
      go_meet
      case rel => exact ⟨_, (!t466), (by first | rfl | (have e_ := Option.some.inj (A12.out.symm.trans A14.out); cases e_; rfl) | (simp; done) | (simp [*]; done)), H', ⟨by have := HJ2.out; first | omega | exact Nat.le_refl _⟩, ⟨bS HB.out⟩⟩
     ·replace c13 := Bool.eq_false_iff.mpr c13
      subst c13
      have H1 : (abacuslaw05_SoftSterbenz.j1 kj2 a0 a1 true) = some r := by rw [if_neg (show ¬ (false = true) by decide)] at H; exact H
      clear H
      have H := H1
      clear H1
      have H' := Aside0.mk H
      clear H
      go_wp2_with (first | ((with_reducible refine gate_callee (f := 16) rfl ?_); refine goesL_ (some 15) rfl rfl Tryd.func16 (by kernel_rfl) rfl #[.int .u64 a0] rfl (by (try simp only [List.map_toArray, List.map_cons, List.map_nil]); first | done | rfl | (simp only [List.length_drop, List.length_take]; rfl) | (simp only [gt_iff_lt, Int.natCast_pos]; done) | (simp only [gt_iff_lt, Int.natCast_pos]; rfl)) ?_; (with_reducible refine (abacuslaw05_finite.calls a0 false _ A12.out).mono ?_); rintro e w' ⟨rfl, ⟨nd, rfl⟩⟩; refine ⟨_, rfl, ?_⟩))
      go_meet
      case rel => exact ⟨_, (true), (by first | rfl | (simp; done) | (simp [*]; done)), H', ⟨by have := HJ2.out; first | omega | exact Nat.le_refl _⟩, ⟨bS HB.out⟩⟩
    case rest =>
     clear HC11
     try clear c1
     try clear p2
     try clear c3
     try clear c5
     try clear c10
     try clear c13
     try clear c14
     try clear p2
     obtain ⟨kq, x21_10, rfl, HA, HJ10, HB⟩ := hcut
     cases kq with
     | zero => exact absurd HA.out (by simp [abacuslaw05_SoftSterbenz.j1])
     | succ kj10 =>
      have H := HA.out
      clear HA
      simp only [abacuslaw05_SoftSterbenz.j1] at H
      by_cases c15 : x21_10 = true
      ·subst c15
       have H1 : (some true) = some r := by rw [if_pos rfl] at H; exact H
       clear H
       have H := H1
       clear H1
       obtain rfl := Option.some.inj H
       go_wp2
       go_ret
       exact ⟨by first | rfl | (simp [errW_none, errW_some] <;> rfl) | (simp [*, errW_none, errW_some] <;> rfl), bS HB.out⟩
      ·replace c15 := Bool.eq_false_iff.mpr c15
       subst c15
       have H1 : ((abacuslaw05_units.f kj10 a0).bind fun bt467 => ((abacuslaw05_units.f kj10 a1).bind fun bt472 => (if (bt467.1 != bt472.1) = true then (abacuslaw05_SoftSterbenz.j2 kj10 a0 a1 true bt467.1 bt467.2 bt472.1 bt472.2) else ((abacuslaw05_lifted.f kj10 bt472.1 bt472.2 1).bind fun bt477 => ((nat_Cmp.f kj10 bt467.2 bt477.2).bind fun t481 => (if t481 > 0 then (abacuslaw05_SoftSterbenz.j2 kj10 a0 a1 true bt467.1 bt467.2 bt472.1 bt472.2) else ((abacuslaw05_lifted.f kj10 bt467.1 bt467.2 1).bind fun bt482 => ((nat_Cmp.f kj10 bt472.2 bt482.2).bind fun t486 => (abacuslaw05_SoftSterbenz.j2 kj10 a0 a1 (decide (t486 > 0)) bt467.1 bt467.2 bt472.1 bt472.2))))))))) = some r := by rw [if_neg (show ¬ (false = true) by decide)] at H; exact H
       clear H
       have H := H1
       clear H1
       replace H := Option.bind_eq_some_iff.mp H
       obtain ⟨⟨t467, t468⟩, A160, H⟩ := H
       replace H : ((abacuslaw05_units.f kj10 a1).bind fun bt472 => (if (t467 != bt472.1) = true then (abacuslaw05_SoftSterbenz.j2 kj10 a0 a1 true t467 t468 bt472.1 bt472.2) else ((abacuslaw05_lifted.f kj10 bt472.1 bt472.2 1).bind fun bt477 => ((nat_Cmp.f kj10 t468 bt477.2).bind fun t481 => (if t481 > 0 then (abacuslaw05_SoftSterbenz.j2 kj10 a0 a1 true t467 t468 bt472.1 bt472.2) else ((abacuslaw05_lifted.f kj10 t467 t468 1).bind fun bt482 => ((nat_Cmp.f kj10 bt472.2 bt482.2).bind fun t486 => (abacuslaw05_SoftSterbenz.j2 kj10 a0 a1 (decide (t486 > 0)) t467 t468 bt472.1 bt472.2)))))))) = some r := H
       have A16 := Aside0.mk A160
       clear A160
       replace H := Option.bind_eq_some_iff.mp H
       obtain ⟨⟨t472, t473⟩, A170, H⟩ := H
       replace H : (if (t467 != t472) = true then (abacuslaw05_SoftSterbenz.j2 kj10 a0 a1 true t467 t468 t472 t473) else ((abacuslaw05_lifted.f kj10 t472 t473 1).bind fun bt477 => ((nat_Cmp.f kj10 t468 bt477.2).bind fun t481 => (if t481 > 0 then (abacuslaw05_SoftSterbenz.j2 kj10 a0 a1 true t467 t468 t472 t473) else ((abacuslaw05_lifted.f kj10 t467 t468 1).bind fun bt482 => ((nat_Cmp.f kj10 t473 bt482.2).bind fun t486 => (abacuslaw05_SoftSterbenz.j2 kj10 a0 a1 (decide (t486 > 0)) t467 t468 t472 t473))))))) = some r := H
       have A17 := Aside0.mk A170
       clear A170
       have HC18 := Aside0.mk H
       clear H
       go_upto_region 7 with (first | ((with_reducible refine gate_callee (f := 17) rfl ?_); refine goesL_ (some 23) rfl rfl Tryd.func17 (by kernel_rfl) rfl #[.int .u64 a0] rfl (by (try simp only [List.map_toArray, List.map_cons, List.map_nil]); first | done | rfl | (simp only [List.length_drop, List.length_take]; rfl) | (simp only [gt_iff_lt, Int.natCast_pos]; done) | (simp only [gt_iff_lt, Int.natCast_pos]; rfl)) ?_; (with_reducible refine (abacuslaw05_units.calls kj10 a0 t467 t468 _ A16.out).mono ?_); rintro e w19 ⟨v469, rfl, ho0, hb⟩; refine ⟨_, rfl, ?_⟩; have n0_ := Aside0.mk (Kd.V_lower (Kd.V_mono (ok' := fun k_ => True) ho0 (fun k_ hk_ => trivial)) (below_size (bS HB.out))); have n1_ := Aside0.mk (below_step (bS HB.out) hb); clear HB; have HO470 := n0_; have HB := n1_; clear n0_ n1_; (try clear hb); (try clear hb2); (try clear hk); (try clear hi); (try clear ho0)) | ((with_reducible refine gate_dst (N := 5) rfl ?_); refine box_event ?hg (N := 5) ?hd (cs := #[.bool false, .slice none 0 0]) (t := 27) ?hr ?_; (case hd => rfl); (case hg => rfl); (case hr => first | (go_simp; done) | (go_simp; rfl)); intro gb471 hg w20 hbox hb; have n0_ := Aside0.mk (Kd.V_below (Kd.V_elderB (vS <| HO470.out) gb471 (Nat.le_of_eq hg.symm)) hb); have n1_ := Aside0.mk (below_step (bS HB.out) hb); have n2_ := Aside0.mk (hbox); have n3_ := Aside0.mk ((by rw [hg]; exact (below_size (bS HB.out)) : w.heap.size ≤ gb471)); have n4_ := Aside0.mk ((by rw [hg]; exact (below_size (bS HB.out)) : w.heap.size ≤ gb471)); clear HO470; clear HB; have HO470 := n0_; have HB := n1_; have BK471 := n2_; have GW471 := n3_; have GE471 := n4_; clear n0_ n1_ n2_ n3_ n4_; clear hb hbox hg; have hcz21_0 : w20.cell? ⟨gb471, 0, none⟩ = some (.bool false) := (blk_cell BK471.out 0).trans rfl; have hcz21_1 : w20.cell? ⟨gb471, 1, none⟩ = some (.slice none 0 0) := (blk_cell BK471.out 1).trans rfl; have hfz21_0 := blk_frozen BK471.out 0; have hfz21_1 := blk_frozen BK471.out 1; obtain ⟨Ao22, co22, eo22⟩ := Kd.V_slice HO470.out; subst eo22) | ((with_reducible refine gate_callee (f := 17) rfl ?_); refine goesL_ (some 25) rfl rfl Tryd.func17 (by kernel_rfl) rfl #[.int .u64 a1] rfl (by (try simp only [List.map_toArray, List.map_cons, List.map_nil]); first | done | rfl | (simp only [List.length_drop, List.length_take]; rfl) | (simp only [gt_iff_lt, Int.natCast_pos]; done) | (simp only [gt_iff_lt, Int.natCast_pos]; rfl)) ?_; (with_reducible refine (abacuslaw05_units.calls kj10 a1 t472 t473 _ A17.out).mono ?_); rintro e w23 ⟨v474, rfl, ho0, hb⟩; refine ⟨_, rfl, ?_⟩; have n0_ := Aside0.mk (Kd.V_below (vS <| (Kd.V_mono (Kd.V_far (p := ⟨gb471, 1, none⟩) (Kd.V_far (p := ⟨gb471, 0, none⟩) (Kd.V_mono HO470.out (fun k_ hk => (⟨hk, hk.2⟩ : _ ∧ k_ ≠ gb471))) (fun _ hk => hk.2) (.bool t467)) (fun _ hk => hk.2) (.slice Ao22 t468.length co22)) (fun _ h_ => h_.1))) hb); have n1_ := Aside0.mk (Kd.V_lower (Kd.V_mono (ok' := fun k_ => k_ ≠ gb471) ho0 (fun k_ hk_ => (Kd.freshB (g := gb471) (o := .cells #[.bool t467, .slice Ao22 t468.length co22] 27 (0, 0)) (by refine blkP (cs := #[.bool t467, .slice none 0 0]) ?_ 1 _ rfl; refine blkP (cs := #[.bool false, .slice none 0 0]) ?_ 0 _ rfl; exact bkS BK471.out) k_ hk_))) (below_size (by repeat (first | (with_reducible first | exact HB.out | apply below_alloc | apply pw_below_drewN | apply below_drew1 | refine below_set ?_ GE471.out) | exact HB.out)))); have n2_ := Aside0.mk (blk_below (g := gb471) (o := .cells #[.bool t467, .slice Ao22 t468.length co22] 27 (0, 0)) (by refine blkP (cs := #[.bool t467, .slice none 0 0]) ?_ 1 _ rfl; refine blkP (cs := #[.bool false, .slice none 0 0]) ?_ 0 _ rfl; exact bkS BK471.out) hb); have n3_ := Aside0.mk (below_step (by repeat (first | (with_reducible first | exact HB.out | apply below_alloc | apply pw_below_drewN | apply below_drew1 | refine below_set ?_ GE471.out) | exact HB.out)) hb); clear HO470; clear BK471; clear HB; have HO470 := n0_; have HO475 := n1_; have BK471 := n2_; have HB := n3_; clear n0_ n1_ n2_ n3_; (try clear hb); (try clear hb2); (try clear hk); (try clear hi); (try clear ho0)) | ((with_reducible refine gate_dst (N := 6) rfl ?_); refine box_event ?hg (N := 6) ?hd (cs := #[.bool false, .slice none 0 0]) (t := 27) ?hr ?_; (case hd => rfl); (case hg => rfl); (case hr => first | (go_simp; done) | (go_simp; rfl)); intro gb476 hg w24 hbox hb; have n0_ := Aside0.mk (Kd.V_below (Kd.V_elderB (vS <| HO470.out) gb476 (Nat.le_of_eq hg.symm)) hb); have n1_ := Aside0.mk (Kd.V_below (Kd.V_elderB (vS <| HO475.out) gb476 (Nat.le_of_eq hg.symm)) hb); have n2_ := Aside0.mk (blk_below (g := gb471) (o := .cells #[.bool t467, .slice Ao22 t468.length co22] 27 (0, 0)) (by exact bkS BK471.out) hb); have n3_ := Aside0.mk (below_step (by repeat (first | (with_reducible first | exact HB.out | apply below_alloc | apply pw_below_drewN | apply below_drew1 | refine below_set ?_ GE471.out) | exact HB.out)) hb); have n4_ := Aside0.mk (hbox); have n5_ := Aside0.mk ((by rw [hg]; exact (below_size (by repeat (first | (with_reducible first | exact HB.out | apply below_alloc | apply pw_below_drewN | apply below_drew1 | refine below_set ?_ GE471.out) | exact HB.out))) : w.heap.size ≤ gb476)); have n6_ := Aside0.mk ((by rw [hg]; exact (below_size (by repeat (first | (with_reducible first | exact HB.out | apply below_alloc | apply pw_below_drewN | apply below_drew1 | refine below_set ?_ GE471.out) | exact HB.out))) : w.heap.size ≤ gb476)); have n7_ := Aside0.mk ((by rw [hg]; exact Nat.ne_of_lt (blk_lt (g := gb471) (o := .cells #[.bool t467, .slice Ao22 t468.length co22] 27 (0, 0)) (by exact bkS BK471.out)) : gb471 ≠ gb476)); have n8_ := Aside0.mk ((by rw [hg]; exact Nat.ne_of_gt (blk_lt (g := gb471) (o := .cells #[.bool t467, .slice Ao22 t468.length co22] 27 (0, 0)) (by exact bkS BK471.out)) : gb476 ≠ gb471)); clear HO470; clear HO475; clear BK471; clear HB; have HO470 := n0_; have HO475 := n1_; have BK471 := n2_; have HB := n3_; have BK476 := n4_; have GW476 := n5_; have GE476 := n6_; have NB471_476 := n7_; have NB476_471 := n8_; clear n0_ n1_ n2_ n3_ n4_ n5_ n6_ n7_ n8_; clear hb hbox hg; have hnb25 := NB476_471.out; have hnc25 := NB471_476.out; have hcz26_0 : w24.cell? ⟨gb476, 0, none⟩ = some (.bool false) := (blk_cell BK476.out 0).trans rfl; have hcz26_1 : w24.cell? ⟨gb476, 1, none⟩ = some (.slice none 0 0) := (blk_cell BK476.out 1).trans rfl; have hfz26_0 := blk_frozen BK476.out 0; have hfz26_1 := blk_frozen BK476.out 1; obtain ⟨Ao27, co27, eo27⟩ := Kd.V_slice HO475.out; subst eo27))
       (try simp only [Act.put, List.setIfInBounds_toArray, List.set_cons_zero, List.set_cons_succ])
       go_cut [48] (fun v48 wc => ∃ (kq : Nat) (x48_17 : Bool), v48 = .bool x48_17 ∧ Aside0 (abacuslaw05_SoftSterbenz.j2 kq a0 a1 x48_17 t467 t468 t472 t473 = some r) ∧ Aside0 (kq ≤ kj10) ∧ Aside0 (Kd.V (Kd.int .u64) 22 wc w.heap.size (fun k_ => k_ ≠ gb471 ∧ k_ ≠ gb476) (.slice Ao22 t468.length co22) t468) ∧ Aside0 (Kd.V (Kd.int .u64) 22 wc w.heap.size (fun k_ => k_ ≠ gb471 ∧ k_ ≠ gb476) (.slice Ao27 t473.length co27) t473) ∧ Aside0 (wc.heap[gb471]? = some (.cells #[.bool t467, (.slice Ao22 t468.length co22)] 27 (0, 0))) ∧ Aside0 (wc.heap[gb476]? = some (.cells #[.bool t472, (.slice Ao27 t473.length co27)] 27 (0, 0))) ∧ Aside0 (Below w.heap.size w wc))
       case first =>
        have H := HC18.out
        clear HC18
        by_cases c28 : (t467 != t472) = true
        ·rw [if_pos c28] at H
         have c28b0 : (t467 != t472) = true := c28
         (try (have c28b1 : decide (t467 = t472) = false := by simpa using c28))
         (try (have c28b2 : (t467 == t472) = false := by simpa using c28))
         (try (have c28b3 : ¬ (t467 = t472) := by simpa using c28))
         clear c28
         (first | rw [c28b0] | (simp only [i64_w, i32_w]; rw [c28b0]) | rw [c28b1] | skip)
         have H' := Aside0.mk H
         clear H
         try go_wp2
         have n0_ : Aside0 (Kd.V (Kd.int .u64) 22 ((w24.setCell ⟨gb476, 0, none⟩ (.bool t472)).setCell ⟨gb476, 1, none⟩ (.slice Ao27 t473.length co27)) w.heap.size (fun k_ => k_ ≠ gb471 ∧ k_ ≠ gb476) (.slice Ao22 t468.length co22) t468) := ⟨vS <| Kd.V_mono (Kd.V_far (p := ⟨gb476, 1, none⟩) (Kd.V_far (p := ⟨gb476, 0, none⟩) (Kd.V_mono HO470.out (fun k_ hk => (⟨hk, hk.2⟩ : _ ∧ k_ ≠ gb476))) (fun _ hk => hk.2) (.bool t472)) (fun _ hk => hk.2) (.slice Ao27 t473.length co27)) (fun _ hk => ⟨hk.1.1.2, hk.1.2⟩)⟩
         have n1_ : Aside0 (Kd.V (Kd.int .u64) 22 ((w24.setCell ⟨gb476, 0, none⟩ (.bool t472)).setCell ⟨gb476, 1, none⟩ (.slice Ao27 t473.length co27)) w.heap.size (fun k_ => k_ ≠ gb471 ∧ k_ ≠ gb476) (.slice Ao27 t473.length co27) t473) := ⟨vS <| Kd.V_mono (Kd.V_far (p := ⟨gb476, 1, none⟩) (Kd.V_far (p := ⟨gb476, 0, none⟩) (Kd.V_mono HO475.out (fun k_ hk => (⟨hk, hk.2⟩ : _ ∧ k_ ≠ gb476))) (fun _ hk => hk.2) (.bool t472)) (fun _ hk => hk.2) (.slice Ao27 t473.length co27)) (fun _ hk => ⟨hk.1.1, hk.1.2⟩)⟩
         have n2_ : Aside0 (((w24.setCell ⟨gb476, 0, none⟩ (.bool t472)).setCell ⟨gb476, 1, none⟩ (.slice Ao27 t473.length co27)).heap[gb471]? = some (.cells #[.bool t467, .slice Ao22 t468.length co22] 27 (0, 0))) := ⟨by refine blkF ?_ NB471_476.out _; refine blkF ?_ NB471_476.out _; exact bkS BK471.out⟩
         have n3_ : Aside0 (((w24.setCell ⟨gb476, 0, none⟩ (.bool t472)).setCell ⟨gb476, 1, none⟩ (.slice Ao27 t473.length co27)).heap[gb476]? = some (.cells #[.bool t472, .slice Ao27 t473.length co27] 27 (0, 0))) := ⟨by refine blkP (cs := #[.bool t472, .slice none 0 0]) ?_ 1 _ rfl; refine blkP (cs := #[.bool false, .slice none 0 0]) ?_ 0 _ rfl; exact bkS BK476.out⟩
         have n4_ : Aside0 (Below w.heap.size w ((w24.setCell ⟨gb476, 0, none⟩ (.bool t472)).setCell ⟨gb476, 1, none⟩ (.slice Ao27 t473.length co27))) := ⟨by repeat (first | (with_reducible first | exact HB.out | apply below_alloc | apply pw_below_drewN | apply below_drew1 | refine below_set ?_ GE471.out | refine below_set ?_ GE476.out) | exact HB.out)⟩
         (try clear HO470)
         (try clear HO475)
         (try clear BK471)
         (try clear BK476)
         (try clear HB)
         generalize ((w24.setCell ⟨gb476, 0, none⟩ (.bool t472)).setCell ⟨gb476, 1, none⟩ (.slice Ao27 t473.length co27)) = w29 at n0_ n1_ n2_ n3_ n4_ ⊢
         have HO470 := n0_
         have HO475 := n1_
         have BK471 := n2_
         have BK476 := n3_
         have HB := n4_
         clear n0_ n1_ n2_ n3_ n4_
         have n0_ := Aside0.mk (Kd.V_drew HO470.out)
         have n1_ := Aside0.mk (Kd.V_drew HO475.out)
         have n2_ := Aside0.mk (blk_drew BK471.out)
         have n3_ := Aside0.mk (blk_drew BK476.out)
         have n4_ := Aside0.mk (below_drew1 HB.out)
         clear HO470
         clear HO475
         clear BK471
         clear BK476
         clear HB
         have HO470 := n0_
         have HO475 := n1_
         have BK471 := n2_
         have BK476 := n3_
         have HB := n4_
         clear n0_ n1_ n2_ n3_ n4_
         refine start_ (n := 23) (S := fun w' => w'.cell? ⟨gb471, 0, none⟩ = some (.bool t467) ∧ w'.cell? ⟨gb471, 1, none⟩ = some (.slice Ao22 t468.length co22) ∧ w'.cell? ⟨gb476, 0, none⟩ = some (.bool t472) ∧ w'.cell? ⟨gb476, 1, none⟩ = some (.slice Ao27 t473.length co27)) (ds := []) #[false, false, false, false, false, false, false, false, false, false, false, false, false, false, false, false, false, false, false, false, false, false, false] (by kernel_rfl) rfl rfl ⟨(blk_cell BK471.out 0).trans rfl, (blk_cell BK471.out 1).trans rfl, (blk_cell BK476.out 0).trans rfl, (blk_cell BK476.out 1).trans rfl⟩ (fun hHeld => ?_); refine with_tabW abacuslaw05_SoftSterbenz.tab7 abacuslaw05_SoftSterbenz.bits7 (fun HT_ HW_ => ?_)
         generalize w29.drew = w30 at HO470 HO475 BK471 BK476 HB hHeld ⊢
         refine pure_ (i := 0) (N := some 26) (v := ?_) (a' := ?_) #[true, false, false, false, false, false, false, false, false, false, false, false, false, false, false, false, false, false, false, false, false, false, false] rfl rfl (any_of HT_.out (by kernel_rfl)) (fun _ _ _ h => h) (Or.inl ⟨by rfl, ?_⟩) ?_ ?_
         rotate_left
         ·intro w'
          go_simp
          with_reducible rfl
         rotate_left
         ·simp only [Act.put, List.setIfInBounds_toArray, List.set_cons_zero, List.set_cons_succ, i64_w, i32_w]
          rfl
         refine pure_ (i := 2) (N := some 28) (v := ?_) (a' := ?_) #[true, false, true, false, false, false, false, false, false, false, false, false, false, false, false, false, false, false, false, false, false, false, false] rfl rfl (any_of HT_.out (by kernel_rfl)) (fun _ _ _ h => h) (Or.inl ⟨by rfl, ?_⟩) ?_ ?_
         rotate_left
         ·intro w'
          go_simp
          with_reducible rfl
         rotate_left
         ·simp only [Act.put, List.setIfInBounds_toArray, List.set_cons_zero, List.set_cons_succ, i64_w, i32_w]
          rfl
         refine take_ (i := 1) (N := some 27) (v := ?_) (a' := ?_) #[true, true, true, false, false, false, false, false, false, false, false, false, false, false, false, false, false, false, false, false, false, false, false] rfl rfl (take_ofW HT_.out HW_.out (by kernel_rfl)) (fun _ _ _ h => h) (Or.inl ⟨by rfl, ?_⟩) hHeld ?_ ?_
         rotate_left
         ·rintro w' ⟨s0, s1, s2, s3⟩
          go_simp
          with_reducible rfl
         rotate_left
         ·simp only [Act.put, List.setIfInBounds_toArray, List.set_cons_zero, List.set_cons_succ, i64_w, i32_w]
          rfl
         refine take_ (i := 3) (N := some 29) (v := ?_) (a' := ?_) #[true, true, true, true, false, false, false, false, false, false, false, false, false, false, false, false, false, false, false, false, false, false, false] rfl rfl (take_ofW HT_.out HW_.out (by kernel_rfl)) (fun _ _ _ h => h) (Or.inl ⟨by rfl, ?_⟩) hHeld ?_ ?_
         rotate_left
         ·rintro w' ⟨s0, s1, s2, s3⟩
          go_simp
          with_reducible rfl
         rotate_left
         ·simp only [Act.put, List.setIfInBounds_toArray, List.set_cons_zero, List.set_cons_succ, i64_w, i32_w]
          rfl
         refine pure_ (i := 4) (N := some 30) (v := ?_) (a' := ?_) #[true, true, true, true, true, false, false, false, false, false, false, false, false, false, false, false, false, false, false, false, false, false, false] rfl rfl (any_of HT_.out (by kernel_rfl)) (fun _ _ _ h => h) (Or.inl ⟨by rfl, ?_⟩) ?_ ?_
         rotate_left
         ·intro w'
          go_simp
          with_reducible rfl
         rotate_left
         ·simp only [Act.put, List.setIfInBounds_toArray, List.set_cons_zero, List.set_cons_succ, i64_w, i32_w]
          rfl
         refine pure_ (i := 5) (N := some 31) (v := ?_) (a' := ?_) #[true, true, true, true, true, true, false, false, false, false, false, false, false, false, false, false, false, false, false, false, false, false, false] rfl rfl (any_of HT_.out (by kernel_rfl)) (fun _ _ _ h => h) (Or.inl ⟨by rfl, ?_⟩) ?_ ?_
         rotate_left
         ·intro w'
          go_simp
          with_reducible rfl
         rotate_left
         ·simp only [Act.put, List.setIfInBounds_toArray, List.set_cons_zero, List.set_cons_succ, i64_w, i32_w]
          rfl
         refine pure_ (i := 6) (N := some 32) (v := undef) (a' := ?_) #[true, true, true, true, true, true, true, false, false, false, false, false, false, false, false, false, false, false, false, false, false, false, false] rfl rfl (any_of HT_.out (by kernel_rfl)) (fun _ _ _ h => h) (Or.inr ⟨by rfl, rfl⟩) ?_ ?_
         rotate_left
         ·simp only [Act.put, List.setIfInBounds_toArray, List.set_cons_zero, List.set_cons_succ, i64_w, i32_w]
          rfl
         refine pure_ (i := 7) (N := some 33) (v := undef) (a' := ?_) #[true, true, true, true, true, true, true, true, false, false, false, false, false, false, false, false, false, false, false, false, false, false, false] rfl rfl (any_of HT_.out (by kernel_rfl)) (fun _ _ _ h => h) (Or.inr ⟨by rfl, rfl⟩) ?_ ?_
         rotate_left
         ·simp only [Act.put, List.setIfInBounds_toArray, List.set_cons_zero, List.set_cons_succ, i64_w, i32_w]
          rfl
         refine pure_ (i := 8) (N := some 34) (v := undef) (a' := ?_) #[true, true, true, true, true, true, true, true, true, false, false, false, false, false, false, false, false, false, false, false, false, false, false] rfl rfl (any_of HT_.out (by kernel_rfl)) (fun _ _ _ h => h) (Or.inr ⟨by rfl, rfl⟩) ?_ ?_
         rotate_left
         ·simp only [Act.put, List.setIfInBounds_toArray, List.set_cons_zero, List.set_cons_succ, i64_w, i32_w]
          rfl
         refine pure_ (i := 9) (N := some 35) (v := undef) (a' := ?_) #[true, true, true, true, true, true, true, true, true, true, false, false, false, false, false, false, false, false, false, false, false, false, false] rfl rfl (any_of HT_.out (by kernel_rfl)) (fun _ _ _ h => h) (Or.inr ⟨by rfl, rfl⟩) ?_ ?_
         rotate_left
         ·simp only [Act.put, List.setIfInBounds_toArray, List.set_cons_zero, List.set_cons_succ, i64_w, i32_w]
          rfl
         refine pure_ (i := 10) (N := some 36) (v := undef) (a' := ?_) #[true, true, true, true, true, true, true, true, true, true, true, false, false, false, false, false, false, false, false, false, false, false, false] rfl rfl (any_of HT_.out (by kernel_rfl)) (fun _ _ _ h => h) (Or.inr ⟨by rfl, rfl⟩) ?_ ?_
         rotate_left
         ·simp only [Act.put, List.setIfInBounds_toArray, List.set_cons_zero, List.set_cons_succ, i64_w, i32_w]
          rfl
         refine pure_ (i := 11) (N := some 37) (v := undef) (a' := ?_) #[true, true, true, true, true, true, true, true, true, true, true, true, false, false, false, false, false, false, false, false, false, false, false] rfl rfl (any_of HT_.out (by kernel_rfl)) (fun _ _ _ h => h) (Or.inr ⟨by rfl, rfl⟩) ?_ ?_
         rotate_left
         ·simp only [Act.put, List.setIfInBounds_toArray, List.set_cons_zero, List.set_cons_succ, i64_w, i32_w]
          rfl
         refine pure_ (i := 12) (N := some 38) (v := undef) (a' := ?_) #[true, true, true, true, true, true, true, true, true, true, true, true, true, false, false, false, false, false, false, false, false, false, false] rfl rfl (any_of HT_.out (by kernel_rfl)) (fun _ _ _ h => h) (Or.inr ⟨by rfl, rfl⟩) ?_ ?_
         rotate_left
         ·simp only [Act.put, List.setIfInBounds_toArray, List.set_cons_zero, List.set_cons_succ, i64_w, i32_w]
          rfl
         refine pure_ (i := 13) (N := some 39) (v := ?_) (a' := ?_) #[true, true, true, true, true, true, true, true, true, true, true, true, true, true, false, false, false, false, false, false, false, false, false] rfl rfl (any_of HT_.out (by kernel_rfl)) (fun _ _ _ h => h) (Or.inl ⟨by rfl, ?_⟩) ?_ ?_
         rotate_left
         ·intro w'
          go_simp
          with_reducible rfl
         rotate_left
         ·simp only [Act.put, List.setIfInBounds_toArray, List.set_cons_zero, List.set_cons_succ, i64_w, i32_w]
          rfl
         refine pure_ (i := 14) (N := some 40) (v := ?_) (a' := ?_) #[true, true, true, true, true, true, true, true, true, true, true, true, true, true, true, false, false, false, false, false, false, false, false] rfl rfl (any_of HT_.out (by kernel_rfl)) (fun _ _ _ h => h) (Or.inl ⟨by rfl, ?_⟩) ?_ ?_
         rotate_left
         ·intro w'
          go_simp
          with_reducible rfl
         rotate_left
         ·simp only [Act.put, List.setIfInBounds_toArray, List.set_cons_zero, List.set_cons_succ, i64_w, i32_w]
          rfl
         refine pure_ (i := 15) (N := some 41) (v := undef) (a' := ?_) #[true, true, true, true, true, true, true, true, true, true, true, true, true, true, true, true, false, false, false, false, false, false, false] rfl rfl (any_of HT_.out (by kernel_rfl)) (fun _ _ _ h => h) (Or.inr ⟨by rfl, rfl⟩) ?_ ?_
         rotate_left
         ·simp only [Act.put, List.setIfInBounds_toArray, List.set_cons_zero, List.set_cons_succ, i64_w, i32_w]
          rfl
         refine pure_ (i := 16) (N := some 42) (v := undef) (a' := ?_) #[true, true, true, true, true, true, true, true, true, true, true, true, true, true, true, true, true, false, false, false, false, false, false] rfl rfl (any_of HT_.out (by kernel_rfl)) (fun _ _ _ h => h) (Or.inr ⟨by rfl, rfl⟩) ?_ ?_
         rotate_left
         ·simp only [Act.put, List.setIfInBounds_toArray, List.set_cons_zero, List.set_cons_succ, i64_w, i32_w]
          rfl
         refine pure_ (i := 17) (N := some 43) (v := undef) (a' := ?_) #[true, true, true, true, true, true, true, true, true, true, true, true, true, true, true, true, true, true, false, false, false, false, false] rfl rfl (any_of HT_.out (by kernel_rfl)) (fun _ _ _ h => h) (Or.inr ⟨by rfl, rfl⟩) ?_ ?_
         rotate_left
         ·simp only [Act.put, List.setIfInBounds_toArray, List.set_cons_zero, List.set_cons_succ, i64_w, i32_w]
          rfl
         refine pure_ (i := 18) (N := some 44) (v := undef) (a' := ?_) #[true, true, true, true, true, true, true, true, true, true, true, true, true, true, true, true, true, true, true, false, false, false, false] rfl rfl (any_of HT_.out (by kernel_rfl)) (fun _ _ _ h => h) (Or.inr ⟨by rfl, rfl⟩) ?_ ?_
         rotate_left
         ·simp only [Act.put, List.setIfInBounds_toArray, List.set_cons_zero, List.set_cons_succ, i64_w, i32_w]
          rfl
         refine pure_ (i := 19) (N := some 45) (v := undef) (a' := ?_) #[true, true, true, true, true, true, true, true, true, true, true, true, true, true, true, true, true, true, true, true, false, false, false] rfl rfl (any_of HT_.out (by kernel_rfl)) (fun _ _ _ h => h) (Or.inr ⟨by rfl, rfl⟩) ?_ ?_
         rotate_left
         ·simp only [Act.put, List.setIfInBounds_toArray, List.set_cons_zero, List.set_cons_succ, i64_w, i32_w]
          rfl
         refine pure_ (i := 20) (N := some 46) (v := undef) (a' := ?_) #[true, true, true, true, true, true, true, true, true, true, true, true, true, true, true, true, true, true, true, true, true, false, false] rfl rfl (any_of HT_.out (by kernel_rfl)) (fun _ _ _ h => h) (Or.inr ⟨by rfl, rfl⟩) ?_ ?_
         rotate_left
         ·simp only [Act.put, List.setIfInBounds_toArray, List.set_cons_zero, List.set_cons_succ, i64_w, i32_w]
          rfl
         refine pure_ (i := 21) (N := some 47) (v := undef) (a' := ?_) #[true, true, true, true, true, true, true, true, true, true, true, true, true, true, true, true, true, true, true, true, true, true, false] rfl rfl (any_of HT_.out (by kernel_rfl)) (fun _ _ _ h => h) (Or.inr ⟨by rfl, rfl⟩) ?_ ?_
         rotate_left
         ·simp only [Act.put, List.setIfInBounds_toArray, List.set_cons_zero, List.set_cons_succ, i64_w, i32_w]
          rfl
         refine pure_ (i := 22) (N := some 48) (v := ?_) (a' := ?_) #[true, true, true, true, true, true, true, true, true, true, true, true, true, true, true, true, true, true, true, true, true, true, true] rfl rfl (any_of HT_.out (by kernel_rfl)) (fun _ _ _ h => h) (Or.inl ⟨by rfl, ?_⟩) ?_ ?_
         rotate_left
         ·intro w'
          go_simp
          with_reducible rfl
         rotate_left
         ·simp only [Act.put, List.setIfInBounds_toArray, List.set_cons_zero, List.set_cons_succ, i64_w, i32_w]
          rfl
         refine done_ (done_of HT_.out (by kernel_rfl)) ?_
         try go_wp2
         go_meet
         case rel => exact ⟨_, (true), (by first | rfl | (simp; done) | (simp [*]; done)), H', ⟨by have := HJ2.out; have := HJ10.out; first | omega | exact Nat.le_refl _⟩, ⟨vS <| HO470.out⟩, ⟨vS <| HO475.out⟩, ⟨by exact bkS BK471.out⟩, ⟨by exact bkS BK476.out⟩, ⟨by repeat (first | (with_reducible first | exact HB.out | apply below_alloc | apply pw_below_drewN | apply below_drew1 | refine below_set ?_ GE471.out | refine below_set ?_ GE476.out) | exact HB.out)⟩⟩
        ·rw [if_neg c28] at H
         have c28b0 : (t467 != t472) = false := by simpa using c28
         (try (have c28b1 : decide (t467 = t472) = true := by simpa using c28))
         (try (have c28b2 : (t467 == t472) = true := by simpa using c28))
         clear c28
         (first | rw [c28b0] | (simp only [i64_w, i32_w]; rw [c28b0]) | rw [c28b1] | skip)
         replace H := Option.bind_eq_some_iff.mp H
         obtain ⟨⟨t477, t478⟩, A310, H⟩ := H
         replace H : ((nat_Cmp.f kj10 t468 t478).bind fun t481 => (if t481 > 0 then (abacuslaw05_SoftSterbenz.j2 kj10 a0 a1 true t467 t468 t472 t473) else ((abacuslaw05_lifted.f kj10 t467 t468 1).bind fun bt482 => ((nat_Cmp.f kj10 t473 bt482.2).bind fun t486 => (abacuslaw05_SoftSterbenz.j2 kj10 a0 a1 (decide (t486 > 0)) t467 t468 t472 t473))))) = some r := H
         have A31 := Aside0.mk A310
         clear A310
         replace H := Option.bind_eq_some_iff.mp H
         obtain ⟨t481, A320, H⟩ := H
         replace H : (if t481 > 0 then (abacuslaw05_SoftSterbenz.j2 kj10 a0 a1 true t467 t468 t472 t473) else ((abacuslaw05_lifted.f kj10 t467 t468 1).bind fun bt482 => ((nat_Cmp.f kj10 t473 bt482.2).bind fun t486 => (abacuslaw05_SoftSterbenz.j2 kj10 a0 a1 (decide (t486 > 0)) t467 t468 t472 t473)))) = some r := H
         have A32 := Aside0.mk A320
         clear A320
         by_cases c33 : t481 > 0
         ·rw [if_pos c33] at H
          have c33b0 : decide (0 < t481) = true := decide_eq_true c33
          clear c33
          have H' := Aside0.mk H
          clear H
          try go_wp2
          have n0_ : Aside0 (Kd.V (Kd.int .u64) 22 ((w24.setCell ⟨gb476, 0, none⟩ (.bool t472)).setCell ⟨gb476, 1, none⟩ (.slice Ao27 t473.length co27)) w.heap.size (fun k_ => k_ ≠ gb471 ∧ k_ ≠ gb476) (.slice Ao22 t468.length co22) t468) := ⟨vS <| Kd.V_mono (Kd.V_far (p := ⟨gb476, 1, none⟩) (Kd.V_far (p := ⟨gb476, 0, none⟩) (Kd.V_mono HO470.out (fun k_ hk => (⟨hk, hk.2⟩ : _ ∧ k_ ≠ gb476))) (fun _ hk => hk.2) (.bool t472)) (fun _ hk => hk.2) (.slice Ao27 t473.length co27)) (fun _ hk => ⟨hk.1.1.2, hk.1.2⟩)⟩
          have n1_ : Aside0 (Kd.V (Kd.int .u64) 22 ((w24.setCell ⟨gb476, 0, none⟩ (.bool t472)).setCell ⟨gb476, 1, none⟩ (.slice Ao27 t473.length co27)) w.heap.size (fun k_ => k_ ≠ gb471 ∧ k_ ≠ gb476) (.slice Ao27 t473.length co27) t473) := ⟨vS <| Kd.V_mono (Kd.V_far (p := ⟨gb476, 1, none⟩) (Kd.V_far (p := ⟨gb476, 0, none⟩) (Kd.V_mono HO475.out (fun k_ hk => (⟨hk, hk.2⟩ : _ ∧ k_ ≠ gb476))) (fun _ hk => hk.2) (.bool t472)) (fun _ hk => hk.2) (.slice Ao27 t473.length co27)) (fun _ hk => ⟨hk.1.1, hk.1.2⟩)⟩
          have n2_ : Aside0 (((w24.setCell ⟨gb476, 0, none⟩ (.bool t472)).setCell ⟨gb476, 1, none⟩ (.slice Ao27 t473.length co27)).heap[gb471]? = some (.cells #[.bool t467, .slice Ao22 t468.length co22] 27 (0, 0))) := ⟨by refine blkF ?_ NB471_476.out _; refine blkF ?_ NB471_476.out _; exact bkS BK471.out⟩
          have n3_ : Aside0 (((w24.setCell ⟨gb476, 0, none⟩ (.bool t472)).setCell ⟨gb476, 1, none⟩ (.slice Ao27 t473.length co27)).heap[gb476]? = some (.cells #[.bool t472, .slice Ao27 t473.length co27] 27 (0, 0))) := ⟨by refine blkP (cs := #[.bool t472, .slice none 0 0]) ?_ 1 _ rfl; refine blkP (cs := #[.bool false, .slice none 0 0]) ?_ 0 _ rfl; exact bkS BK476.out⟩
          have n4_ : Aside0 (Below w.heap.size w ((w24.setCell ⟨gb476, 0, none⟩ (.bool t472)).setCell ⟨gb476, 1, none⟩ (.slice Ao27 t473.length co27))) := ⟨by repeat (first | (with_reducible first | exact HB.out | apply below_alloc | apply pw_below_drewN | apply below_drew1 | refine below_set ?_ GE471.out | refine below_set ?_ GE476.out) | exact HB.out)⟩
          (try clear HO470)
          (try clear HO475)
          (try clear BK471)
          (try clear BK476)
          (try clear HB)
          generalize ((w24.setCell ⟨gb476, 0, none⟩ (.bool t472)).setCell ⟨gb476, 1, none⟩ (.slice Ao27 t473.length co27)) = w34 at n0_ n1_ n2_ n3_ n4_ ⊢
          have HO470 := n0_
          have HO475 := n1_
          have BK471 := n2_
          have BK476 := n3_
          have HB := n4_
          clear n0_ n1_ n2_ n3_ n4_
          have n0_ := Aside0.mk (Kd.V_drew HO470.out)
          have n1_ := Aside0.mk (Kd.V_drew HO475.out)
          have n2_ := Aside0.mk (blk_drew BK471.out)
          have n3_ := Aside0.mk (blk_drew BK476.out)
          have n4_ := Aside0.mk (below_drew1 HB.out)
          clear HO470
          clear HO475
          clear BK471
          clear BK476
          clear HB
          have HO470 := n0_
          have HO475 := n1_
          have BK471 := n2_
          have BK476 := n3_
          have HB := n4_
          clear n0_ n1_ n2_ n3_ n4_
          refine start_ (n := 23) (S := fun w' => w'.cell? ⟨gb471, 0, none⟩ = some (.bool t467) ∧ w'.cell? ⟨gb471, 1, none⟩ = some (.slice Ao22 t468.length co22) ∧ w'.cell? ⟨gb476, 0, none⟩ = some (.bool t472) ∧ w'.cell? ⟨gb476, 1, none⟩ = some (.slice Ao27 t473.length co27)) (ds := []) #[false, false, false, false, false, false, false, false, false, false, false, false, false, false, false, false, false, false, false, false, false, false, false] (by kernel_rfl) rfl rfl ⟨(blk_cell BK471.out 0).trans rfl, (blk_cell BK471.out 1).trans rfl, (blk_cell BK476.out 0).trans rfl, (blk_cell BK476.out 1).trans rfl⟩ (fun hHeld => ?_); refine with_tabW abacuslaw05_SoftSterbenz.tab7 abacuslaw05_SoftSterbenz.bits7 (fun HT_ HW_ => ?_)
          generalize w34.drew = w35 at HO470 HO475 BK471 BK476 HB hHeld ⊢
          refine pure_ (i := 0) (N := some 26) (v := ?_) (a' := ?_) #[true, false, false, false, false, false, false, false, false, false, false, false, false, false, false, false, false, false, false, false, false, false, false] rfl rfl (any_of HT_.out (by kernel_rfl)) (fun _ _ _ h => h) (Or.inl ⟨by rfl, ?_⟩) ?_ ?_
          rotate_left
          ·intro w'
           go_simp
           with_reducible rfl
          rotate_left
          ·simp only [Act.put, List.setIfInBounds_toArray, List.set_cons_zero, List.set_cons_succ, i64_w, i32_w]
           rfl
          refine pure_ (i := 2) (N := some 28) (v := ?_) (a' := ?_) #[true, false, true, false, false, false, false, false, false, false, false, false, false, false, false, false, false, false, false, false, false, false, false] rfl rfl (any_of HT_.out (by kernel_rfl)) (fun _ _ _ h => h) (Or.inl ⟨by rfl, ?_⟩) ?_ ?_
          rotate_left
          ·intro w'
           go_simp
           with_reducible rfl
          rotate_left
          ·simp only [Act.put, List.setIfInBounds_toArray, List.set_cons_zero, List.set_cons_succ, i64_w, i32_w]
           rfl
          refine take_ (i := 1) (N := some 27) (v := ?_) (a' := ?_) #[true, true, true, false, false, false, false, false, false, false, false, false, false, false, false, false, false, false, false, false, false, false, false] rfl rfl (take_ofW HT_.out HW_.out (by kernel_rfl)) (fun _ _ _ h => h) (Or.inl ⟨by rfl, ?_⟩) hHeld ?_ ?_
          rotate_left
          ·rintro w' ⟨s0, s1, s2, s3⟩
           go_simp
           with_reducible rfl
          rotate_left
          ·simp only [Act.put, List.setIfInBounds_toArray, List.set_cons_zero, List.set_cons_succ, i64_w, i32_w]
           rfl
          refine take_ (i := 3) (N := some 29) (v := ?_) (a' := ?_) #[true, true, true, true, false, false, false, false, false, false, false, false, false, false, false, false, false, false, false, false, false, false, false] rfl rfl (take_ofW HT_.out HW_.out (by kernel_rfl)) (fun _ _ _ h => h) (Or.inl ⟨by rfl, ?_⟩) hHeld ?_ ?_
          rotate_left
          ·rintro w' ⟨s0, s1, s2, s3⟩
           go_simp
           with_reducible rfl
          rotate_left
          ·simp only [Act.put, List.setIfInBounds_toArray, List.set_cons_zero, List.set_cons_succ, i64_w, i32_w]
           rfl
          refine pure_ (i := 4) (N := some 30) (v := ?_) (a' := ?_) #[true, true, true, true, true, false, false, false, false, false, false, false, false, false, false, false, false, false, false, false, false, false, false] rfl rfl (any_of HT_.out (by kernel_rfl)) (fun _ _ _ h => h) (Or.inl ⟨by rfl, ?_⟩) ?_ ?_
          rotate_left
          ·intro w'
           go_simp
           with_reducible rfl
          rotate_left
          ·simp only [Act.put, List.setIfInBounds_toArray, List.set_cons_zero, List.set_cons_succ, i64_w, i32_w]
           rfl
          refine pure_ (i := 5) (N := some 31) (v := ?_) (a' := ?_) #[true, true, true, true, true, true, false, false, false, false, false, false, false, false, false, false, false, false, false, false, false, false, false] rfl rfl (any_of HT_.out (by kernel_rfl)) (fun _ _ _ h => h) (Or.inl ⟨by rfl, ?_⟩) ?_ ?_
          rotate_left
          ·intro w'
           go_simp
           with_reducible rfl
          rotate_left
          ·simp only [Act.put, List.setIfInBounds_toArray, List.set_cons_zero, List.set_cons_succ, i64_w, i32_w]
           rfl
          refine pure_ (i := 6) (N := some 32) (v := ?_) (a' := ?_) #[true, true, true, true, true, true, true, false, false, false, false, false, false, false, false, false, false, false, false, false, false, false, false] rfl rfl (any_of HT_.out (by kernel_rfl)) (fun _ _ _ h => h) (Or.inl ⟨by rfl, ?_⟩) ?_ ?_
          rotate_left
          ·intro w'
           go_simp
           with_reducible rfl
          rotate_left
          ·simp only [Act.put, List.setIfInBounds_toArray, List.set_cons_zero, List.set_cons_succ, i64_w, i32_w]
           rfl
          refine take_ (i := 7) (N := some 33) (v := ?_) (a' := ?_) #[true, true, true, true, true, true, true, true, false, false, false, false, false, false, false, false, false, false, false, false, false, false, false] rfl rfl (take_ofW HT_.out HW_.out (by kernel_rfl)) (fun _ _ _ h => h) (Or.inl ⟨by rfl, ?_⟩) hHeld ?_ ?_
          rotate_left
          ·rintro w' ⟨s0, s1, s2, s3⟩
           go_simp
           with_reducible rfl
          rotate_left
          ·simp only [Act.put, List.setIfInBounds_toArray, List.set_cons_zero, List.set_cons_succ, i64_w, i32_w]
           rfl
          refine take_ (i := 8) (N := some 34) (v := ?_) (a' := ?_) #[true, true, true, true, true, true, true, true, true, false, false, false, false, false, false, false, false, false, false, false, false, false, false] rfl rfl (take_ofW HT_.out HW_.out (by kernel_rfl)) (fun _ _ _ h => h) (Or.inl ⟨by rfl, ?_⟩) hHeld ?_ ?_
          rotate_left
          ·rintro w' ⟨s0, s1, s2, s3⟩
           go_simp
           with_reducible rfl
          rotate_left
          ·simp only [Act.put, List.setIfInBounds_toArray, List.set_cons_zero, List.set_cons_succ, i64_w, i32_w]
           rfl
          refine one_ (i := 9) (N := some 35) #[true, true, true, true, true, true, true, true, true, true, false, false, false, false, false, false, false, false, false, false, false, false, false] rfl rfl (one_of HT_.out (by kernel_rfl)) (by decide) (fun K hK => ?_)
          refine goes_ Tryd.func19 (by kernel_rfl) rfl #[.agg #[.bool t472, .slice Ao27 t473.length co27], .int .i64 1] (by rfl) rfl rfl (by (try simp only [List.map_toArray, List.map_cons, List.map_nil]); first | done | rfl | (simp only [List.length_drop, List.length_take]; rfl) | (simp only [gt_iff_lt, Int.natCast_pos]; done) | (simp only [gt_iff_lt, Int.natCast_pos]; rfl)) ?_
          with_reducible refine (abacuslaw05_lifted.calls kj10 t472 _ _ t473 1 t477 t478 _ ?side1 ?side2 A31.out).mono ?_
          (case side1 => exact cS (Kd.V_reads' HO475.out).2.2)
          (case side2 => exact (Kd.V_reads' HO475.out).2.1)
          rintro e w36 ⟨v479, rfl, ho0, hb⟩
          refine ⟨_, rfl, ?_⟩
          have n0_ := Aside0.mk (Kd.V_below (vS <| HO470.out) hb)
          have n1_ := Aside0.mk (Kd.V_below (vS <| HO475.out) hb)
          have n2_ := Aside0.mk (Kd.V_lower (Kd.V_mono (ok' := fun k_ => k_ ≠ gb471 ∧ k_ ≠ gb476) ho0 (fun k_ hk_ => ⟨(Kd.freshB (g := gb471) (o := .cells #[.bool t467, .slice Ao22 t468.length co22] 27 (0, 0)) (by exact bkS BK471.out) k_ hk_), (Kd.freshB (g := gb476) (o := .cells #[.bool t472, .slice Ao27 t473.length co27] 27 (0, 0)) (by exact bkS BK476.out) k_ hk_)⟩)) (below_size (by repeat (first | (with_reducible first | exact HB.out | apply below_alloc | apply pw_below_drewN | apply below_drew1 | refine below_set ?_ GE471.out | refine below_set ?_ GE476.out) | exact HB.out))))
          have n3_ := Aside0.mk (blk_below (g := gb471) (o := .cells #[.bool t467, .slice Ao22 t468.length co22] 27 (0, 0)) (by exact bkS BK471.out) hb)
          have n4_ := Aside0.mk (blk_below (g := gb476) (o := .cells #[.bool t472, .slice Ao27 t473.length co27] 27 (0, 0)) (by exact bkS BK476.out) hb)
          have n5_ := Aside0.mk (below_step (by repeat (first | (with_reducible first | exact HB.out | apply below_alloc | apply pw_below_drewN | apply below_drew1 | refine below_set ?_ GE471.out | refine below_set ?_ GE476.out) | exact HB.out)) hb)
          clear HO470
          clear HO475
          clear BK471
          clear BK476
          clear HB
          have HO470 := n0_
          have HO475 := n1_
          have HO480 := n2_
          have BK471 := n3_
          have BK476 := n4_
          have HB := n5_
          clear n0_ n1_ n2_ n3_ n4_ n5_
          (try clear hb)
          (try clear hb2)
          (try clear hk)
          (try clear hi)
          (try clear ho0)
          obtain ⟨Ao37, co37, eo37⟩ := Kd.V_slice HO480.out
          (first | subst eo37 | (injection eo37 with f1_ f2_ f3_; have f4_ := f1_.symm; have f5_ := f3_.symm; clear f1_ f2_ f3_; subst f4_; subst f5_))
          refine hK.out _ _ ⟨(blk_cell BK471.out 0).trans rfl, (blk_cell BK471.out 1).trans rfl, (blk_cell BK476.out 0).trans rfl, (blk_cell BK476.out 1).trans rfl⟩ (fun hHeld => ?_)
          clear hK K
          refine norm_ (a' := ?_) ?_ ?_
          rotate_left
          ·show Act.put _ (some 35) _ = _
           simp only [Act.put, List.setIfInBounds_toArray, List.set_cons_zero, List.set_cons_succ, i64_w, i32_w]
           rfl
          refine pure_ (i := 10) (N := some 36) (v := ?_) (a' := ?_) #[true, true, true, true, true, true, true, true, true, true, true, false, false, false, false, false, false, false, false, false, false, false, false] rfl rfl (any_of HT_.out (by kernel_rfl)) (fun _ _ _ h => h) (Or.inl ⟨by rfl, ?_⟩) ?_ ?_
          rotate_left
          ·intro w'
           go_simp
           first | with_reducible rfl | (simp [Instr.field, asAgg, part, *]; rfl)
          rotate_left
          ·simp only [Act.put, List.setIfInBounds_toArray, List.set_cons_zero, List.set_cons_succ, i64_w, i32_w]
           rfl
          refine one_ (i := 11) (N := some 37) #[true, true, true, true, true, true, true, true, true, true, true, true, false, false, false, false, false, false, false, false, false, false, false] rfl rfl (one_of HT_.out (by kernel_rfl)) (by decide) (fun K hK => ?_)
          refine goes_ Tryd.func18 (by kernel_rfl) rfl #[.slice Ao22 t468.length co22, .slice Ao37 t478.length co37] (by rfl) rfl rfl (by (try simp only [List.map_toArray, List.map_cons, List.map_nil]); first | done | rfl | (simp only [List.length_drop, List.length_take]; rfl) | (simp only [gt_iff_lt, Int.natCast_pos]; done) | (simp only [gt_iff_lt, Int.natCast_pos]; rfl)) ?_
          with_reducible refine (nat_Cmp.calls kj10 _ _ t468 _ _ t478 t481 _ ?side1 ?side2 ?side3 ?side4 A32.out).mono ?_
          (case side1 => exact cS (Kd.V_reads' HO470.out).2.2)
          (case side2 => exact (Kd.V_reads' HO470.out).2.1)
          (case side3 => exact cS (Kd.V_reads' HO480.out).2.2)
          (case side4 => exact (Kd.V_reads' HO480.out).2.1)
          rintro e w' ⟨rfl, ⟨nd, rfl⟩⟩
          refine ⟨_, rfl, ?_⟩
          refine hK.out _ _ ⟨(blk_cell BK471.out 0).trans rfl, (blk_cell BK471.out 1).trans rfl, (blk_cell BK476.out 0).trans rfl, (blk_cell BK476.out 1).trans rfl⟩ (fun hHeld => ?_)
          clear hK K
          refine norm_ (a' := ?_) ?_ ?_
          rotate_left
          ·show Act.put _ (some 37) _ = _
           simp only [Act.put, List.setIfInBounds_toArray, List.set_cons_zero, List.set_cons_succ, i64_w, i32_w]
           rfl
          refine pure_ (i := 12) (N := some 38) (v := ?_) (a' := ?_) #[true, true, true, true, true, true, true, true, true, true, true, true, true, false, false, false, false, false, false, false, false, false, false] rfl rfl (any_of HT_.out (by kernel_rfl)) (fun _ _ _ h => h) (Or.inl ⟨by rfl, ?_⟩) ?_ ?_
          rotate_left
          ·intro w'
           go_simp
           with_reducible rfl
          rotate_left
          ·simp only [Act.put, List.setIfInBounds_toArray, List.set_cons_zero, List.set_cons_succ, i64_w, i32_w]
           rfl
          refine pure_ (i := 13) (N := some 39) (v := ?_) (a' := ?_) #[true, true, true, true, true, true, true, true, true, true, true, true, true, true, false, false, false, false, false, false, false, false, false] rfl rfl (any_of HT_.out (by kernel_rfl)) (fun _ _ _ h => h) (Or.inl ⟨by rfl, ?_⟩) ?_ ?_
          rotate_left
          ·intro w'
           go_simp
           with_reducible rfl
          rotate_left
          ·simp only [Act.put, List.setIfInBounds_toArray, List.set_cons_zero, List.set_cons_succ, i64_w, i32_w]
           rfl
          refine pure_ (i := 14) (N := some 40) (v := ?_) (a' := ?_) #[true, true, true, true, true, true, true, true, true, true, true, true, true, true, true, false, false, false, false, false, false, false, false] rfl rfl (any_of HT_.out (by kernel_rfl)) (fun _ _ _ h => h) (Or.inl ⟨by rfl, ?_⟩) ?_ ?_
          rotate_left
          ·intro w'
           go_simp
           with_reducible rfl
          rotate_left
          ·simp only [Act.put, List.setIfInBounds_toArray, List.set_cons_zero, List.set_cons_succ, i64_w, i32_w]
           rfl
          refine pure_ (i := 15) (N := some 41) (v := undef) (a' := ?_) #[true, true, true, true, true, true, true, true, true, true, true, true, true, true, true, true, false, false, false, false, false, false, false] rfl rfl (any_of HT_.out (by kernel_rfl)) (fun _ _ _ h => h) (Or.inr ⟨by rfl, rfl⟩) ?_ ?_
          rotate_left
          ·simp only [Act.put, List.setIfInBounds_toArray, List.set_cons_zero, List.set_cons_succ, i64_w, i32_w]
           rfl
          refine pure_ (i := 16) (N := some 42) (v := undef) (a' := ?_) #[true, true, true, true, true, true, true, true, true, true, true, true, true, true, true, true, true, false, false, false, false, false, false] rfl rfl (any_of HT_.out (by kernel_rfl)) (fun _ _ _ h => h) (Or.inr ⟨by rfl, rfl⟩) ?_ ?_
          rotate_left
          ·simp only [Act.put, List.setIfInBounds_toArray, List.set_cons_zero, List.set_cons_succ, i64_w, i32_w]
           rfl
          refine pure_ (i := 17) (N := some 43) (v := undef) (a' := ?_) #[true, true, true, true, true, true, true, true, true, true, true, true, true, true, true, true, true, true, false, false, false, false, false] rfl rfl (any_of HT_.out (by kernel_rfl)) (fun _ _ _ h => h) (Or.inr ⟨by rfl, rfl⟩) ?_ ?_
          rotate_left
          ·simp only [Act.put, List.setIfInBounds_toArray, List.set_cons_zero, List.set_cons_succ, i64_w, i32_w]
           rfl
          refine pure_ (i := 18) (N := some 44) (v := undef) (a' := ?_) #[true, true, true, true, true, true, true, true, true, true, true, true, true, true, true, true, true, true, true, false, false, false, false] rfl rfl (any_of HT_.out (by kernel_rfl)) (fun _ _ _ h => h) (Or.inr ⟨by rfl, rfl⟩) ?_ ?_
          rotate_left
          ·simp only [Act.put, List.setIfInBounds_toArray, List.set_cons_zero, List.set_cons_succ, i64_w, i32_w]
           rfl
          refine pure_ (i := 19) (N := some 45) (v := undef) (a' := ?_) #[true, true, true, true, true, true, true, true, true, true, true, true, true, true, true, true, true, true, true, true, false, false, false] rfl rfl (any_of HT_.out (by kernel_rfl)) (fun _ _ _ h => h) (Or.inr ⟨by rfl, rfl⟩) ?_ ?_
          rotate_left
          ·simp only [Act.put, List.setIfInBounds_toArray, List.set_cons_zero, List.set_cons_succ, i64_w, i32_w]
           rfl
          refine pure_ (i := 20) (N := some 46) (v := undef) (a' := ?_) #[true, true, true, true, true, true, true, true, true, true, true, true, true, true, true, true, true, true, true, true, true, false, false] rfl rfl (any_of HT_.out (by kernel_rfl)) (fun _ _ _ h => h) (Or.inr ⟨by rfl, rfl⟩) ?_ ?_
          rotate_left
          ·simp only [Act.put, List.setIfInBounds_toArray, List.set_cons_zero, List.set_cons_succ, i64_w, i32_w]
           rfl
          refine pure_ (i := 21) (N := some 47) (v := undef) (a' := ?_) #[true, true, true, true, true, true, true, true, true, true, true, true, true, true, true, true, true, true, true, true, true, true, false] rfl rfl (any_of HT_.out (by kernel_rfl)) (fun _ _ _ h => h) (Or.inr ⟨by rfl, rfl⟩) ?_ ?_
          rotate_left
          ·simp only [Act.put, List.setIfInBounds_toArray, List.set_cons_zero, List.set_cons_succ, i64_w, i32_w]
           rfl
          refine pure_ (i := 22) (N := some 48) (v := ?_) (a' := ?_) #[true, true, true, true, true, true, true, true, true, true, true, true, true, true, true, true, true, true, true, true, true, true, true] rfl rfl (any_of HT_.out (by kernel_rfl)) (fun _ _ _ h => h) (Or.inl ⟨by rfl, ?_⟩) ?_ ?_
          rotate_left
          ·intro w'
           go_simp
           with_reducible rfl
          rotate_left
          ·simp only [Act.put, List.setIfInBounds_toArray, List.set_cons_zero, List.set_cons_succ, i64_w, i32_w]
           rfl
          refine done_ (done_of HT_.out (by kernel_rfl)) ?_
          try go_wp2
          go_meet
          case rel => exact ⟨_, (true), (by first | rfl | (simp; done) | (simp [*]; done)), H', ⟨by have := HJ2.out; have := HJ10.out; first | omega | exact Nat.le_refl _⟩, ⟨vS <| HO470.out⟩, ⟨vS <| HO475.out⟩, ⟨by exact bkS BK471.out⟩, ⟨by exact bkS BK476.out⟩, ⟨by repeat (first | (with_reducible first | exact HB.out | apply below_alloc | apply pw_below_drewN | apply below_drew1 | refine below_set ?_ GE471.out | refine below_set ?_ GE476.out) | exact HB.out)⟩⟩
         ·rw [if_neg c33] at H
          have c33b0 : decide (0 < t481) = false := decide_eq_false c33
          clear c33
          replace H := Option.bind_eq_some_iff.mp H
          obtain ⟨⟨t482, t483⟩, A380, H⟩ := H
          replace H : ((nat_Cmp.f kj10 t473 t483).bind fun t486 => (abacuslaw05_SoftSterbenz.j2 kj10 a0 a1 (decide (t486 > 0)) t467 t468 t472 t473)) = some r := H
          have A38 := Aside0.mk A380
          clear A380
          replace H := Option.bind_eq_some_iff.mp H
          obtain ⟨t486, A390, H⟩ := H
          replace H : (abacuslaw05_SoftSterbenz.j2 kj10 a0 a1 (decide (t486 > 0)) t467 t468 t472 t473) = some r := H
          have A39 := Aside0.mk A390
          clear A390
          have H' := Aside0.mk H
          clear H
          try go_wp2
          have n0_ : Aside0 (Kd.V (Kd.int .u64) 22 ((w24.setCell ⟨gb476, 0, none⟩ (.bool t472)).setCell ⟨gb476, 1, none⟩ (.slice Ao27 t473.length co27)) w.heap.size (fun k_ => k_ ≠ gb471 ∧ k_ ≠ gb476) (.slice Ao22 t468.length co22) t468) := ⟨vS <| Kd.V_mono (Kd.V_far (p := ⟨gb476, 1, none⟩) (Kd.V_far (p := ⟨gb476, 0, none⟩) (Kd.V_mono HO470.out (fun k_ hk => (⟨hk, hk.2⟩ : _ ∧ k_ ≠ gb476))) (fun _ hk => hk.2) (.bool t472)) (fun _ hk => hk.2) (.slice Ao27 t473.length co27)) (fun _ hk => ⟨hk.1.1.2, hk.1.2⟩)⟩
          have n1_ : Aside0 (Kd.V (Kd.int .u64) 22 ((w24.setCell ⟨gb476, 0, none⟩ (.bool t472)).setCell ⟨gb476, 1, none⟩ (.slice Ao27 t473.length co27)) w.heap.size (fun k_ => k_ ≠ gb471 ∧ k_ ≠ gb476) (.slice Ao27 t473.length co27) t473) := ⟨vS <| Kd.V_mono (Kd.V_far (p := ⟨gb476, 1, none⟩) (Kd.V_far (p := ⟨gb476, 0, none⟩) (Kd.V_mono HO475.out (fun k_ hk => (⟨hk, hk.2⟩ : _ ∧ k_ ≠ gb476))) (fun _ hk => hk.2) (.bool t472)) (fun _ hk => hk.2) (.slice Ao27 t473.length co27)) (fun _ hk => ⟨hk.1.1, hk.1.2⟩)⟩
          have n2_ : Aside0 (((w24.setCell ⟨gb476, 0, none⟩ (.bool t472)).setCell ⟨gb476, 1, none⟩ (.slice Ao27 t473.length co27)).heap[gb471]? = some (.cells #[.bool t467, .slice Ao22 t468.length co22] 27 (0, 0))) := ⟨by refine blkF ?_ NB471_476.out _; refine blkF ?_ NB471_476.out _; exact bkS BK471.out⟩
          have n3_ : Aside0 (((w24.setCell ⟨gb476, 0, none⟩ (.bool t472)).setCell ⟨gb476, 1, none⟩ (.slice Ao27 t473.length co27)).heap[gb476]? = some (.cells #[.bool t472, .slice Ao27 t473.length co27] 27 (0, 0))) := ⟨by refine blkP (cs := #[.bool t472, .slice none 0 0]) ?_ 1 _ rfl; refine blkP (cs := #[.bool false, .slice none 0 0]) ?_ 0 _ rfl; exact bkS BK476.out⟩
          have n4_ : Aside0 (Below w.heap.size w ((w24.setCell ⟨gb476, 0, none⟩ (.bool t472)).setCell ⟨gb476, 1, none⟩ (.slice Ao27 t473.length co27))) := ⟨by repeat (first | (with_reducible first | exact HB.out | apply below_alloc | apply pw_below_drewN | apply below_drew1 | refine below_set ?_ GE471.out | refine below_set ?_ GE476.out) | exact HB.out)⟩
          (try clear HO470)
          (try clear HO475)
          (try clear BK471)
          (try clear BK476)
          (try clear HB)
          generalize ((w24.setCell ⟨gb476, 0, none⟩ (.bool t472)).setCell ⟨gb476, 1, none⟩ (.slice Ao27 t473.length co27)) = w40 at n0_ n1_ n2_ n3_ n4_ ⊢
          have HO470 := n0_
          have HO475 := n1_
          have BK471 := n2_
          have BK476 := n3_
          have HB := n4_
          clear n0_ n1_ n2_ n3_ n4_
          have n0_ := Aside0.mk (Kd.V_drew HO470.out)
          have n1_ := Aside0.mk (Kd.V_drew HO475.out)
          have n2_ := Aside0.mk (blk_drew BK471.out)
          have n3_ := Aside0.mk (blk_drew BK476.out)
          have n4_ := Aside0.mk (below_drew1 HB.out)
          clear HO470
          clear HO475
          clear BK471
          clear BK476
          clear HB
          have HO470 := n0_
          have HO475 := n1_
          have BK471 := n2_
          have BK476 := n3_
          have HB := n4_
          clear n0_ n1_ n2_ n3_ n4_
          refine start_ (n := 23) (S := fun w' => w'.cell? ⟨gb471, 0, none⟩ = some (.bool t467) ∧ w'.cell? ⟨gb471, 1, none⟩ = some (.slice Ao22 t468.length co22) ∧ w'.cell? ⟨gb476, 0, none⟩ = some (.bool t472) ∧ w'.cell? ⟨gb476, 1, none⟩ = some (.slice Ao27 t473.length co27)) (ds := []) #[false, false, false, false, false, false, false, false, false, false, false, false, false, false, false, false, false, false, false, false, false, false, false] (by kernel_rfl) rfl rfl ⟨(blk_cell BK471.out 0).trans rfl, (blk_cell BK471.out 1).trans rfl, (blk_cell BK476.out 0).trans rfl, (blk_cell BK476.out 1).trans rfl⟩ (fun hHeld => ?_); refine with_tabW abacuslaw05_SoftSterbenz.tab7 abacuslaw05_SoftSterbenz.bits7 (fun HT_ HW_ => ?_)
          generalize w40.drew = w41 at HO470 HO475 BK471 BK476 HB hHeld ⊢
          refine pure_ (i := 0) (N := some 26) (v := ?_) (a' := ?_) #[true, false, false, false, false, false, false, false, false, false, false, false, false, false, false, false, false, false, false, false, false, false, false] rfl rfl (any_of HT_.out (by kernel_rfl)) (fun _ _ _ h => h) (Or.inl ⟨by rfl, ?_⟩) ?_ ?_
          rotate_left
          ·intro w'
           go_simp
           with_reducible rfl
          rotate_left
          ·simp only [Act.put, List.setIfInBounds_toArray, List.set_cons_zero, List.set_cons_succ, i64_w, i32_w]
           rfl
          refine pure_ (i := 2) (N := some 28) (v := ?_) (a' := ?_) #[true, false, true, false, false, false, false, false, false, false, false, false, false, false, false, false, false, false, false, false, false, false, false] rfl rfl (any_of HT_.out (by kernel_rfl)) (fun _ _ _ h => h) (Or.inl ⟨by rfl, ?_⟩) ?_ ?_
          rotate_left
          ·intro w'
           go_simp
           with_reducible rfl
          rotate_left
          ·simp only [Act.put, List.setIfInBounds_toArray, List.set_cons_zero, List.set_cons_succ, i64_w, i32_w]
           rfl
          refine take_ (i := 1) (N := some 27) (v := ?_) (a' := ?_) #[true, true, true, false, false, false, false, false, false, false, false, false, false, false, false, false, false, false, false, false, false, false, false] rfl rfl (take_ofW HT_.out HW_.out (by kernel_rfl)) (fun _ _ _ h => h) (Or.inl ⟨by rfl, ?_⟩) hHeld ?_ ?_
          rotate_left
          ·rintro w' ⟨s0, s1, s2, s3⟩
           go_simp
           with_reducible rfl
          rotate_left
          ·simp only [Act.put, List.setIfInBounds_toArray, List.set_cons_zero, List.set_cons_succ, i64_w, i32_w]
           rfl
          refine take_ (i := 3) (N := some 29) (v := ?_) (a' := ?_) #[true, true, true, true, false, false, false, false, false, false, false, false, false, false, false, false, false, false, false, false, false, false, false] rfl rfl (take_ofW HT_.out HW_.out (by kernel_rfl)) (fun _ _ _ h => h) (Or.inl ⟨by rfl, ?_⟩) hHeld ?_ ?_
          rotate_left
          ·rintro w' ⟨s0, s1, s2, s3⟩
           go_simp
           with_reducible rfl
          rotate_left
          ·simp only [Act.put, List.setIfInBounds_toArray, List.set_cons_zero, List.set_cons_succ, i64_w, i32_w]
           rfl
          refine pure_ (i := 4) (N := some 30) (v := ?_) (a' := ?_) #[true, true, true, true, true, false, false, false, false, false, false, false, false, false, false, false, false, false, false, false, false, false, false] rfl rfl (any_of HT_.out (by kernel_rfl)) (fun _ _ _ h => h) (Or.inl ⟨by rfl, ?_⟩) ?_ ?_
          rotate_left
          ·intro w'
           go_simp
           with_reducible rfl
          rotate_left
          ·simp only [Act.put, List.setIfInBounds_toArray, List.set_cons_zero, List.set_cons_succ, i64_w, i32_w]
           rfl
          refine pure_ (i := 5) (N := some 31) (v := ?_) (a' := ?_) #[true, true, true, true, true, true, false, false, false, false, false, false, false, false, false, false, false, false, false, false, false, false, false] rfl rfl (any_of HT_.out (by kernel_rfl)) (fun _ _ _ h => h) (Or.inl ⟨by rfl, ?_⟩) ?_ ?_
          rotate_left
          ·intro w'
           go_simp
           with_reducible rfl
          rotate_left
          ·simp only [Act.put, List.setIfInBounds_toArray, List.set_cons_zero, List.set_cons_succ, i64_w, i32_w]
           rfl
          refine pure_ (i := 6) (N := some 32) (v := ?_) (a' := ?_) #[true, true, true, true, true, true, true, false, false, false, false, false, false, false, false, false, false, false, false, false, false, false, false] rfl rfl (any_of HT_.out (by kernel_rfl)) (fun _ _ _ h => h) (Or.inl ⟨by rfl, ?_⟩) ?_ ?_
          rotate_left
          ·intro w'
           go_simp
           with_reducible rfl
          rotate_left
          ·simp only [Act.put, List.setIfInBounds_toArray, List.set_cons_zero, List.set_cons_succ, i64_w, i32_w]
           rfl
          refine take_ (i := 7) (N := some 33) (v := ?_) (a' := ?_) #[true, true, true, true, true, true, true, true, false, false, false, false, false, false, false, false, false, false, false, false, false, false, false] rfl rfl (take_ofW HT_.out HW_.out (by kernel_rfl)) (fun _ _ _ h => h) (Or.inl ⟨by rfl, ?_⟩) hHeld ?_ ?_
          rotate_left
          ·rintro w' ⟨s0, s1, s2, s3⟩
           go_simp
           with_reducible rfl
          rotate_left
          ·simp only [Act.put, List.setIfInBounds_toArray, List.set_cons_zero, List.set_cons_succ, i64_w, i32_w]
           rfl
          refine take_ (i := 8) (N := some 34) (v := ?_) (a' := ?_) #[true, true, true, true, true, true, true, true, true, false, false, false, false, false, false, false, false, false, false, false, false, false, false] rfl rfl (take_ofW HT_.out HW_.out (by kernel_rfl)) (fun _ _ _ h => h) (Or.inl ⟨by rfl, ?_⟩) hHeld ?_ ?_
          rotate_left
          ·rintro w' ⟨s0, s1, s2, s3⟩
           go_simp
           with_reducible rfl
          rotate_left
          ·simp only [Act.put, List.setIfInBounds_toArray, List.set_cons_zero, List.set_cons_succ, i64_w, i32_w]
           rfl
          refine one_ (i := 9) (N := some 35) #[true, true, true, true, true, true, true, true, true, true, false, false, false, false, false, false, false, false, false, false, false, false, false] rfl rfl (one_of HT_.out (by kernel_rfl)) (by decide) (fun K hK => ?_)
          refine goes_ Tryd.func19 (by kernel_rfl) rfl #[.agg #[.bool t472, .slice Ao27 t473.length co27], .int .i64 1] (by rfl) rfl rfl (by (try simp only [List.map_toArray, List.map_cons, List.map_nil]); first | done | rfl | (simp only [List.length_drop, List.length_take]; rfl) | (simp only [gt_iff_lt, Int.natCast_pos]; done) | (simp only [gt_iff_lt, Int.natCast_pos]; rfl)) ?_
          with_reducible refine (abacuslaw05_lifted.calls kj10 t472 _ _ t473 1 t477 t478 _ ?side1 ?side2 A31.out).mono ?_
          (case side1 => exact cS (Kd.V_reads' HO475.out).2.2)
          (case side2 => exact (Kd.V_reads' HO475.out).2.1)
          rintro e w42 ⟨v479, rfl, ho0, hb⟩
          refine ⟨_, rfl, ?_⟩
          have n0_ := Aside0.mk (Kd.V_below (vS <| HO470.out) hb)
          have n1_ := Aside0.mk (Kd.V_below (vS <| HO475.out) hb)
          have n2_ := Aside0.mk (Kd.V_lower (Kd.V_mono (ok' := fun k_ => k_ ≠ gb471 ∧ k_ ≠ gb476) ho0 (fun k_ hk_ => ⟨(Kd.freshB (g := gb471) (o := .cells #[.bool t467, .slice Ao22 t468.length co22] 27 (0, 0)) (by exact bkS BK471.out) k_ hk_), (Kd.freshB (g := gb476) (o := .cells #[.bool t472, .slice Ao27 t473.length co27] 27 (0, 0)) (by exact bkS BK476.out) k_ hk_)⟩)) (below_size (by repeat (first | (with_reducible first | exact HB.out | apply below_alloc | apply pw_below_drewN | apply below_drew1 | refine below_set ?_ GE471.out | refine below_set ?_ GE476.out) | exact HB.out))))
          have n3_ := Aside0.mk (blk_below (g := gb471) (o := .cells #[.bool t467, .slice Ao22 t468.length co22] 27 (0, 0)) (by exact bkS BK471.out) hb)
          have n4_ := Aside0.mk (blk_below (g := gb476) (o := .cells #[.bool t472, .slice Ao27 t473.length co27] 27 (0, 0)) (by exact bkS BK476.out) hb)
          have n5_ := Aside0.mk (below_step (by repeat (first | (with_reducible first | exact HB.out | apply below_alloc | apply pw_below_drewN | apply below_drew1 | refine below_set ?_ GE471.out | refine below_set ?_ GE476.out) | exact HB.out)) hb)
          clear HO470
          clear HO475
          clear BK471
          clear BK476
          clear HB
          have HO470 := n0_
          have HO475 := n1_
          have HO480 := n2_
          have BK471 := n3_
          have BK476 := n4_
          have HB := n5_
          clear n0_ n1_ n2_ n3_ n4_ n5_
          (try clear hb)
          (try clear hb2)
          (try clear hk)
          (try clear hi)
          (try clear ho0)
          obtain ⟨Ao43, co43, eo43⟩ := Kd.V_slice HO480.out
          (first | subst eo43 | (injection eo43 with f1_ f2_ f3_; have f4_ := f1_.symm; have f5_ := f3_.symm; clear f1_ f2_ f3_; subst f4_; subst f5_))
          refine hK.out _ _ ⟨(blk_cell BK471.out 0).trans rfl, (blk_cell BK471.out 1).trans rfl, (blk_cell BK476.out 0).trans rfl, (blk_cell BK476.out 1).trans rfl⟩ (fun hHeld => ?_)
          clear hK K
          refine norm_ (a' := ?_) ?_ ?_
          rotate_left
          ·show Act.put _ (some 35) _ = _
           simp only [Act.put, List.setIfInBounds_toArray, List.set_cons_zero, List.set_cons_succ, i64_w, i32_w]
           rfl
          refine pure_ (i := 10) (N := some 36) (v := ?_) (a' := ?_) #[true, true, true, true, true, true, true, true, true, true, true, false, false, false, false, false, false, false, false, false, false, false, false] rfl rfl (any_of HT_.out (by kernel_rfl)) (fun _ _ _ h => h) (Or.inl ⟨by rfl, ?_⟩) ?_ ?_
          rotate_left
          ·intro w'
           go_simp
           first | with_reducible rfl | (simp [Instr.field, asAgg, part, *]; rfl)
          rotate_left
          ·simp only [Act.put, List.setIfInBounds_toArray, List.set_cons_zero, List.set_cons_succ, i64_w, i32_w]
           rfl
          refine one_ (i := 11) (N := some 37) #[true, true, true, true, true, true, true, true, true, true, true, true, false, false, false, false, false, false, false, false, false, false, false] rfl rfl (one_of HT_.out (by kernel_rfl)) (by decide) (fun K hK => ?_)
          refine goes_ Tryd.func18 (by kernel_rfl) rfl #[.slice Ao22 t468.length co22, .slice Ao43 t478.length co43] (by rfl) rfl rfl (by (try simp only [List.map_toArray, List.map_cons, List.map_nil]); first | done | rfl | (simp only [List.length_drop, List.length_take]; rfl) | (simp only [gt_iff_lt, Int.natCast_pos]; done) | (simp only [gt_iff_lt, Int.natCast_pos]; rfl)) ?_
          with_reducible refine (nat_Cmp.calls kj10 _ _ t468 _ _ t478 t481 _ ?side1 ?side2 ?side3 ?side4 A32.out).mono ?_
          (case side1 => exact cS (Kd.V_reads' HO470.out).2.2)
          (case side2 => exact (Kd.V_reads' HO470.out).2.1)
          (case side3 => exact cS (Kd.V_reads' HO480.out).2.2)
          (case side4 => exact (Kd.V_reads' HO480.out).2.1)
          rintro e w' ⟨rfl, ⟨nd, rfl⟩⟩
          refine ⟨_, rfl, ?_⟩
          refine hK.out _ _ ⟨(blk_cell BK471.out 0).trans rfl, (blk_cell BK471.out 1).trans rfl, (blk_cell BK476.out 0).trans rfl, (blk_cell BK476.out 1).trans rfl⟩ (fun hHeld => ?_)
          clear hK K
          refine norm_ (a' := ?_) ?_ ?_
          rotate_left
          ·show Act.put _ (some 37) _ = _
           simp only [Act.put, List.setIfInBounds_toArray, List.set_cons_zero, List.set_cons_succ, i64_w, i32_w]
           rfl
          refine pure_ (i := 12) (N := some 38) (v := ?_) (a' := ?_) #[true, true, true, true, true, true, true, true, true, true, true, true, true, false, false, false, false, false, false, false, false, false, false] rfl rfl (any_of HT_.out (by kernel_rfl)) (fun _ _ _ h => h) (Or.inl ⟨by rfl, ?_⟩) ?_ ?_
          rotate_left
          ·intro w'
           go_simp
           with_reducible rfl
          rotate_left
          ·simp only [Act.put, List.setIfInBounds_toArray, List.set_cons_zero, List.set_cons_succ, i64_w, i32_w]
           rfl
          refine pure_ (i := 13) (N := some 39) (v := ?_) (a' := ?_) #[true, true, true, true, true, true, true, true, true, true, true, true, true, true, false, false, false, false, false, false, false, false, false] rfl rfl (any_of HT_.out (by kernel_rfl)) (fun _ _ _ h => h) (Or.inl ⟨by rfl, ?_⟩) ?_ ?_
          rotate_left
          ·intro w'
           go_simp
           with_reducible rfl
          rotate_left
          ·simp only [Act.put, List.setIfInBounds_toArray, List.set_cons_zero, List.set_cons_succ, i64_w, i32_w]
           rfl
          refine pure_ (i := 14) (N := some 40) (v := ?_) (a' := ?_) #[true, true, true, true, true, true, true, true, true, true, true, true, true, true, true, false, false, false, false, false, false, false, false] rfl rfl (any_of HT_.out (by kernel_rfl)) (fun _ _ _ h => h) (Or.inl ⟨by rfl, ?_⟩) ?_ ?_
          rotate_left
          ·intro w'
           go_simp
           with_reducible rfl
          rotate_left
          ·simp only [Act.put, List.setIfInBounds_toArray, List.set_cons_zero, List.set_cons_succ, i64_w, i32_w]
           rfl
          refine pure_ (i := 15) (N := some 41) (v := ?_) (a' := ?_) #[true, true, true, true, true, true, true, true, true, true, true, true, true, true, true, true, false, false, false, false, false, false, false] rfl rfl (any_of HT_.out (by kernel_rfl)) (fun _ _ _ h => h) (Or.inl ⟨by rfl, ?_⟩) ?_ ?_
          rotate_left
          ·intro w'
           go_simp
           with_reducible rfl
          rotate_left
          ·simp only [Act.put, List.setIfInBounds_toArray, List.set_cons_zero, List.set_cons_succ, i64_w, i32_w]
           rfl
          refine take_ (i := 16) (N := some 42) (v := ?_) (a' := ?_) #[true, true, true, true, true, true, true, true, true, true, true, true, true, true, true, true, true, false, false, false, false, false, false] rfl rfl (take_ofW HT_.out HW_.out (by kernel_rfl)) (fun _ _ _ h => h) (Or.inl ⟨by rfl, ?_⟩) hHeld ?_ ?_
          rotate_left
          ·rintro w' ⟨s0, s1, s2, s3⟩
           go_simp
           with_reducible rfl
          rotate_left
          ·simp only [Act.put, List.setIfInBounds_toArray, List.set_cons_zero, List.set_cons_succ, i64_w, i32_w]
           rfl
          refine take_ (i := 17) (N := some 43) (v := ?_) (a' := ?_) #[true, true, true, true, true, true, true, true, true, true, true, true, true, true, true, true, true, true, false, false, false, false, false] rfl rfl (take_ofW HT_.out HW_.out (by kernel_rfl)) (fun _ _ _ h => h) (Or.inl ⟨by rfl, ?_⟩) hHeld ?_ ?_
          rotate_left
          ·rintro w' ⟨s0, s1, s2, s3⟩
           go_simp
           with_reducible rfl
          rotate_left
          ·simp only [Act.put, List.setIfInBounds_toArray, List.set_cons_zero, List.set_cons_succ, i64_w, i32_w]
           rfl
          refine one_ (i := 18) (N := some 44) #[true, true, true, true, true, true, true, true, true, true, true, true, true, true, true, true, true, true, true, false, false, false, false] rfl rfl (one_of HT_.out (by kernel_rfl)) (by decide) (fun K hK => ?_)
          refine goes_ Tryd.func19 (by kernel_rfl) rfl #[.agg #[.bool t467, .slice Ao22 t468.length co22], .int .i64 1] (by rfl) rfl rfl (by (try simp only [List.map_toArray, List.map_cons, List.map_nil]); first | done | rfl | (simp only [List.length_drop, List.length_take]; rfl) | (simp only [gt_iff_lt, Int.natCast_pos]; done) | (simp only [gt_iff_lt, Int.natCast_pos]; rfl)) ?_
          with_reducible refine (abacuslaw05_lifted.calls kj10 t467 _ _ t468 1 t482 t483 _ ?side1 ?side2 A38.out).mono ?_
          (case side1 => exact cS (Kd.V_reads' HO470.out).2.2)
          (case side2 => exact (Kd.V_reads' HO470.out).2.1)
          rintro e w44 ⟨v484, rfl, ho0, hb⟩
          refine ⟨_, rfl, ?_⟩
          have n0_ := Aside0.mk (Kd.V_below (vS <| HO470.out) hb)
          have n1_ := Aside0.mk (Kd.V_below (vS <| HO475.out) hb)
          have n2_ := Aside0.mk (Kd.V_below (vS <| HO480.out) hb)
          have n3_ := Aside0.mk (Kd.V_lower (Kd.V_mono (ok' := fun k_ => k_ ≠ gb471 ∧ k_ ≠ gb476) ho0 (fun k_ hk_ => ⟨(Kd.freshB (g := gb471) (o := .cells #[.bool t467, .slice Ao22 t468.length co22] 27 (0, 0)) (by exact bkS BK471.out) k_ hk_), (Kd.freshB (g := gb476) (o := .cells #[.bool t472, .slice Ao27 t473.length co27] 27 (0, 0)) (by exact bkS BK476.out) k_ hk_)⟩)) (below_size (by repeat (first | (with_reducible first | exact HB.out | apply below_alloc | apply pw_below_drewN | apply below_drew1 | refine below_set ?_ GE471.out | refine below_set ?_ GE476.out) | exact HB.out))))
          have n4_ := Aside0.mk (blk_below (g := gb471) (o := .cells #[.bool t467, .slice Ao22 t468.length co22] 27 (0, 0)) (by exact bkS BK471.out) hb)
          have n5_ := Aside0.mk (blk_below (g := gb476) (o := .cells #[.bool t472, .slice Ao27 t473.length co27] 27 (0, 0)) (by exact bkS BK476.out) hb)
          have n6_ := Aside0.mk (below_step (by repeat (first | (with_reducible first | exact HB.out | apply below_alloc | apply pw_below_drewN | apply below_drew1 | refine below_set ?_ GE471.out | refine below_set ?_ GE476.out) | exact HB.out)) hb)
          clear HO470
          clear HO475
          clear HO480
          clear BK471
          clear BK476
          clear HB
          have HO470 := n0_
          have HO475 := n1_
          have HO480 := n2_
          have HO485 := n3_
          have BK471 := n4_
          have BK476 := n5_
          have HB := n6_
          clear n0_ n1_ n2_ n3_ n4_ n5_ n6_
          (try clear hb)
          (try clear hb2)
          (try clear hk)
          (try clear hi)
          (try clear ho0)
          obtain ⟨Ao45, co45, eo45⟩ := Kd.V_slice HO485.out
          (first | subst eo45 | (injection eo45 with f1_ f2_ f3_; have f4_ := f1_.symm; have f5_ := f3_.symm; clear f1_ f2_ f3_; subst f4_; subst f5_))
          refine hK.out _ _ ⟨(blk_cell BK471.out 0).trans rfl, (blk_cell BK471.out 1).trans rfl, (blk_cell BK476.out 0).trans rfl, (blk_cell BK476.out 1).trans rfl⟩ (fun hHeld => ?_)
          clear hK K
          refine norm_ (a' := ?_) ?_ ?_
          rotate_left
          ·show Act.put _ (some 44) _ = _
           simp only [Act.put, List.setIfInBounds_toArray, List.set_cons_zero, List.set_cons_succ, i64_w, i32_w]
           rfl
          refine pure_ (i := 19) (N := some 45) (v := ?_) (a' := ?_) #[true, true, true, true, true, true, true, true, true, true, true, true, true, true, true, true, true, true, true, true, false, false, false] rfl rfl (any_of HT_.out (by kernel_rfl)) (fun _ _ _ h => h) (Or.inl ⟨by rfl, ?_⟩) ?_ ?_
          rotate_left
          ·intro w'
           go_simp
           first | with_reducible rfl | (simp [Instr.field, asAgg, part, *]; rfl)
          rotate_left
          ·simp only [Act.put, List.setIfInBounds_toArray, List.set_cons_zero, List.set_cons_succ, i64_w, i32_w]
           rfl
          refine one_ (i := 20) (N := some 46) #[true, true, true, true, true, true, true, true, true, true, true, true, true, true, true, true, true, true, true, true, true, false, false] rfl rfl (one_of HT_.out (by kernel_rfl)) (by decide) (fun K hK => ?_)
          refine goes_ Tryd.func18 (by kernel_rfl) rfl #[.slice Ao27 t473.length co27, .slice Ao45 t483.length co45] (by rfl) rfl rfl (by (try simp only [List.map_toArray, List.map_cons, List.map_nil]); first | done | rfl | (simp only [List.length_drop, List.length_take]; rfl) | (simp only [gt_iff_lt, Int.natCast_pos]; done) | (simp only [gt_iff_lt, Int.natCast_pos]; rfl)) ?_
          with_reducible refine (nat_Cmp.calls kj10 _ _ t473 _ _ t483 t486 _ ?side1 ?side2 ?side3 ?side4 A39.out).mono ?_
          (case side1 => exact cS (Kd.V_reads' HO475.out).2.2)
          (case side2 => exact (Kd.V_reads' HO475.out).2.1)
          (case side3 => exact cS (Kd.V_reads' HO485.out).2.2)
          (case side4 => exact (Kd.V_reads' HO485.out).2.1)
          rintro e w' ⟨rfl, ⟨nd, rfl⟩⟩
          refine ⟨_, rfl, ?_⟩
          refine hK.out _ _ ⟨(blk_cell BK471.out 0).trans rfl, (blk_cell BK471.out 1).trans rfl, (blk_cell BK476.out 0).trans rfl, (blk_cell BK476.out 1).trans rfl⟩ (fun hHeld => ?_)
          clear hK K
          refine norm_ (a' := ?_) ?_ ?_
          rotate_left
          ·show Act.put _ (some 46) _ = _
           simp only [Act.put, List.setIfInBounds_toArray, List.set_cons_zero, List.set_cons_succ, i64_w, i32_w]
           rfl
          refine pure_ (i := 21) (N := some 47) (v := ?_) (a' := ?_) #[true, true, true, true, true, true, true, true, true, true, true, true, true, true, true, true, true, true, true, true, true, true, false] rfl rfl (any_of HT_.out (by kernel_rfl)) (fun _ _ _ h => h) (Or.inl ⟨by rfl, ?_⟩) ?_ ?_
          rotate_left
          ·intro w'
           go_simp
           with_reducible rfl
          rotate_left
          ·simp only [Act.put, List.setIfInBounds_toArray, List.set_cons_zero, List.set_cons_succ, i64_w, i32_w]
           rfl
          refine pure_ (i := 22) (N := some 48) (v := ?_) (a' := ?_) #[true, true, true, true, true, true, true, true, true, true, true, true, true, true, true, true, true, true, true, true, true, true, true] rfl rfl (any_of HT_.out (by kernel_rfl)) (fun _ _ _ h => h) (Or.inl ⟨by rfl, ?_⟩) ?_ ?_
          rotate_left
          ·intro w'
           go_simp
           with_reducible rfl
          rotate_left
          ·simp only [Act.put, List.setIfInBounds_toArray, List.set_cons_zero, List.set_cons_succ, i64_w, i32_w]
           rfl
          refine done_ (done_of HT_.out (by kernel_rfl)) ?_
          try go_wp2
          go_meet
          case rel => exact ⟨_, (decide (t486 > 0)), (by first | rfl | (simp; done) | (simp [*]; done)), H', ⟨by have := HJ2.out; have := HJ10.out; first | omega | exact Nat.le_refl _⟩, ⟨vS <| HO470.out⟩, ⟨vS <| HO475.out⟩, ⟨by exact bkS BK471.out⟩, ⟨by exact bkS BK476.out⟩, ⟨by repeat (first | (with_reducible first | exact HB.out | apply below_alloc | apply pw_below_drewN | apply below_drew1 | refine below_set ?_ GE471.out | refine below_set ?_ GE476.out) | exact HB.out)⟩⟩
       case rest =>
        clear HC18
        try clear c1
        try clear c2
        try clear p2
        try clear c3
        try clear c18
        try clear c19
        try clear c28
        try clear c28b0
        try clear c28b1
        try clear c28b2
        try clear c33
        try clear c33b0
        obtain ⟨kq, x48_17, rfl, HA, HJ17, HO_472001, HO_477001, BK471, BK476, HB⟩ := hcut
        cases kq with
        | zero => exact absurd HA.out (by simp [abacuslaw05_SoftSterbenz.j2])
        | succ kj17 =>
         have H := HA.out
         clear HA
         simp only [abacuslaw05_SoftSterbenz.j2] at H
         by_cases c46 : x48_17 = true
         ·subst c46
          have H1 : (some true) = some r := by rw [if_pos rfl] at H; exact H
          clear H
          have H := H1
          clear H1
          obtain rfl := Option.some.inj H
          go_wp2
          go_ret
          exact ⟨by first | rfl | (simp [errW_none, errW_some] <;> rfl) | (simp [*, errW_none, errW_some] <;> rfl), by repeat (first | (with_reducible first | exact HB.out | apply below_alloc | apply pw_below_drewN | apply below_drew1 | refine below_set ?_ GE471.out | refine below_set ?_ GE476.out) | exact HB.out)⟩
         ·replace c46 := Bool.eq_false_iff.mpr c46
          subst c46
          have H1 : ((soft_Sub.f kj17 a0 a1).bind fun t487 => ((abacuslaw05_finite.f t487).bind fun t488 => (if t488 = true then ((abacuslaw05_units.f kj17 t487).bind fun bt489 => ((abacuslaw05_plus.f kj17 t467 t468 (!t472) t473).bind fun bt493 => ((abacuslaw05_same.f kj17 bt489.1 bt489.2 bt493.1 bt493.2).bind fun t497 => (some t497)))) else (some false)))) = some r := by rw [if_neg (show ¬ (false = true) by decide)] at H; exact H
          clear H
          have H := H1
          clear H1
          replace H := Option.bind_eq_some_iff.mp H
          obtain ⟨t487, A470, H⟩ := H
          replace H : ((abacuslaw05_finite.f t487).bind fun t488 => (if t488 = true then ((abacuslaw05_units.f kj17 t487).bind fun bt489 => ((abacuslaw05_plus.f kj17 t467 t468 (!t472) t473).bind fun bt493 => ((abacuslaw05_same.f kj17 bt489.1 bt489.2 bt493.1 bt493.2).bind fun t497 => (some t497)))) else (some false))) = some r := H
          have A47 := Aside0.mk A470
          clear A470
          replace H := Option.bind_eq_some_iff.mp H
          obtain ⟨t488, A480, H⟩ := H
          replace H : (if t488 = true then ((abacuslaw05_units.f kj17 t487).bind fun bt489 => ((abacuslaw05_plus.f kj17 t467 t468 (!t472) t473).bind fun bt493 => ((abacuslaw05_same.f kj17 bt489.1 bt489.2 bt493.1 bt493.2).bind fun t497 => (some t497)))) else (some false)) = some r := H
          have A48 := Aside0.mk A480
          clear A480
          by_cases c49 : t488 = true
          ·subst c49
           have H1 : ((abacuslaw05_units.f kj17 t487).bind fun bt489 => ((abacuslaw05_plus.f kj17 t467 t468 (!t472) t473).bind fun bt493 => ((abacuslaw05_same.f kj17 bt489.1 bt489.2 bt493.1 bt493.2).bind fun t497 => (some t497)))) = some r := by rw [if_pos rfl] at H; exact H
           clear H
           have H := H1
           clear H1
           replace H := Option.bind_eq_some_iff.mp H
           obtain ⟨⟨t489, t490⟩, A500, H⟩ := H
           replace H : ((abacuslaw05_plus.f kj17 t467 t468 (!t472) t473).bind fun bt493 => ((abacuslaw05_same.f kj17 t489 t490 bt493.1 bt493.2).bind fun t497 => (some t497))) = some r := H
           have A50 := Aside0.mk A500
           clear A500
           replace H := Option.bind_eq_some_iff.mp H
           obtain ⟨⟨t493, t494⟩, A510, H⟩ := H
           replace H : ((abacuslaw05_same.f kj17 t489 t490 t493 t494).bind fun t497 => (some t497)) = some r := H
           have A51 := Aside0.mk A510
           clear A510
           replace H := Option.bind_eq_some_iff.mp H
           obtain ⟨t497, A520, H⟩ := H
           replace H : (some t497) = some r := H
           have A52 := Aside0.mk A520
           clear A520
           obtain rfl := Option.some.inj H
           try go_wp2_with (first | ((with_reducible refine gate_callee (f := 20) rfl ?_); refine goesL_ (some 51) rfl rfl Tryd.func20 (by kernel_rfl) rfl #[.int .u64 a0, .int .u64 a1] rfl (by (try simp only [List.map_toArray, List.map_cons, List.map_nil]); first | done | rfl | (simp only [List.length_drop, List.length_take]; rfl) | (simp only [gt_iff_lt, Int.natCast_pos]; done) | (simp only [gt_iff_lt, Int.natCast_pos]; rfl)) ?_; (with_reducible refine (soft_Sub.calls kj17 a0 a1 t487 _ ?side1 A47.out).mono ?_); (case side1 => exact cS (Kd.C_below HT.out HB.out)); rintro e w53 ⟨rfl, hb⟩; refine ⟨_, rfl, ?_⟩; have n0_ := Aside0.mk (Kd.V_below (vS <| HO_472001.out) hb); have n1_ := Aside0.mk (Kd.V_below (vS <| HO_477001.out) hb); have n2_ := Aside0.mk (blk_below (g := gb471) (o := .cells #[.bool t467, .slice Ao22 t468.length co22] 27 (0, 0)) (by exact bkS BK471.out) hb); have n3_ := Aside0.mk (blk_below (g := gb476) (o := .cells #[.bool t472, .slice Ao27 t473.length co27] 27 (0, 0)) (by exact bkS BK476.out) hb); have n4_ := Aside0.mk (below_step (by repeat (first | (with_reducible first | exact HB.out | apply below_alloc | apply pw_below_drewN | apply below_drew1 | refine below_set ?_ GE471.out | refine below_set ?_ GE476.out) | exact HB.out)) hb); clear HO_472001; clear HO_477001; clear BK471; clear BK476; clear HB; have HO_472001 := n0_; have HO_477001 := n1_; have BK471 := n2_; have BK476 := n3_; have HB := n4_; clear n0_ n1_ n2_ n3_ n4_; (try clear hb); (try clear hb2); (try clear hk); (try clear hi)))
           have n0_ := Aside0.mk (Kd.V_drew HO_472001.out)
           have n1_ := Aside0.mk (Kd.V_drew HO_477001.out)
           have n2_ := Aside0.mk (blk_drew BK471.out)
           have n3_ := Aside0.mk (blk_drew BK476.out)
           have n4_ := Aside0.mk (below_drew1 HB.out)
           clear HO_472001
           clear HO_477001
           clear BK471
           clear BK476
           clear HB
           have HO_472001 := n0_
           have HO_477001 := n1_
           have BK471 := n2_
           have BK476 := n3_
           have HB := n4_
           clear n0_ n1_ n2_ n3_ n4_
           refine start_ (n := 16) (S := fun w' => w'.cell? ⟨gb471, 0, none⟩ = some (.bool t467) ∧ w'.cell? ⟨gb471, 1, none⟩ = some (.slice Ao22 t468.length co22) ∧ w'.cell? ⟨gb476, 0, none⟩ = some (.bool t472) ∧ w'.cell? ⟨gb476, 1, none⟩ = some (.slice Ao27 t473.length co27)) (ds := []) #[false, false, false, false, false, false, false, false, false, false, false, false, false, false, false, false] (by kernel_rfl) rfl rfl ⟨(blk_cell BK471.out 0).trans rfl, (blk_cell BK471.out 1).trans rfl, (blk_cell BK476.out 0).trans rfl, (blk_cell BK476.out 1).trans rfl⟩ (fun hHeld => ?_); refine with_tabW abacuslaw05_SoftSterbenz.tab10 abacuslaw05_SoftSterbenz.bits10 (fun HT_ HW_ => ?_)
           generalize w53.drew = w54 at HO_472001 HO_477001 BK471 BK476 HB hHeld ⊢
           refine pure_ (i := 0) (N := some 52) (v := ?_) (a' := ?_) #[true, false, false, false, false, false, false, false, false, false, false, false, false, false, false, false] rfl rfl (any_of HT_.out (by kernel_rfl)) (fun _ _ _ h => h) (Or.inl ⟨by rfl, ?_⟩) ?_ ?_
           rotate_left
           ·intro w'
            go_simp
            with_reducible rfl
           rotate_left
           ·simp only [Act.put, List.setIfInBounds_toArray, List.set_cons_zero, List.set_cons_succ, i64_w, i32_w]
            rfl
           refine one_ (i := 1) (N := some 53) #[true, true, false, false, false, false, false, false, false, false, false, false, false, false, false, false] rfl rfl (one_of HT_.out (by kernel_rfl)) (by decide) (fun K hK => ?_)
           refine goes_ Tryd.func16 (by kernel_rfl) rfl #[.int .u64 t487] (by rfl) rfl rfl (by (try simp only [List.map_toArray, List.map_cons, List.map_nil]); first | done | rfl | (simp only [List.length_drop, List.length_take]; rfl) | (simp only [gt_iff_lt, Int.natCast_pos]; done) | (simp only [gt_iff_lt, Int.natCast_pos]; rfl)) ?_
           with_reducible refine (abacuslaw05_finite.calls t487 true _ A48.out).mono ?_
           rintro e w' ⟨rfl, ⟨nd, rfl⟩⟩
           refine ⟨_, rfl, ?_⟩
           refine hK.out _ _ ⟨(blk_cell BK471.out 0).trans rfl, (blk_cell BK471.out 1).trans rfl, (blk_cell BK476.out 0).trans rfl, (blk_cell BK476.out 1).trans rfl⟩ (fun hHeld => ?_)
           clear hK K
           refine norm_ (a' := ?_) ?_ ?_
           rotate_left
           ·show Act.put _ (some 53) _ = _
            simp only [Act.put, List.setIfInBounds_toArray, List.set_cons_zero, List.set_cons_succ, i64_w, i32_w]
            rfl
           refine pure_ (i := 2) (N := some 54) (v := ?_) (a' := ?_) #[true, true, true, false, false, false, false, false, false, false, false, false, false, false, false, false] rfl rfl (any_of HT_.out (by kernel_rfl)) (fun _ _ _ h => h) (Or.inl ⟨by rfl, ?_⟩) ?_ ?_
           rotate_left
           ·intro w'
            go_simp
            with_reducible rfl
           rotate_left
           ·simp only [Act.put, List.setIfInBounds_toArray, List.set_cons_zero, List.set_cons_succ, i64_w, i32_w]
            rfl
           refine pure_ (i := 3) (N := some 55) (v := ?_) (a' := ?_) #[true, true, true, true, false, false, false, false, false, false, false, false, false, false, false, false] rfl rfl (any_of HT_.out (by kernel_rfl)) (fun _ _ _ h => h) (Or.inl ⟨by rfl, ?_⟩) ?_ ?_
           rotate_left
           ·intro w'
            go_simp
            with_reducible rfl
           rotate_left
           ·simp only [Act.put, List.setIfInBounds_toArray, List.set_cons_zero, List.set_cons_succ, i64_w, i32_w]
            rfl
           refine pure_ (i := 6) (N := some 58) (v := ?_) (a' := ?_) #[true, true, true, true, false, false, true, false, false, false, false, false, false, false, false, false] rfl rfl (any_of HT_.out (by kernel_rfl)) (fun _ _ _ h => h) (Or.inl ⟨by rfl, ?_⟩) ?_ ?_
           rotate_left
           ·intro w'
            go_simp
            with_reducible rfl
           rotate_left
           ·simp only [Act.put, List.setIfInBounds_toArray, List.set_cons_zero, List.set_cons_succ, i64_w, i32_w]
            rfl
           refine pure_ (i := 9) (N := some 61) (v := ?_) (a' := ?_) #[true, true, true, true, false, false, true, false, false, true, false, false, false, false, false, false] rfl rfl (any_of HT_.out (by kernel_rfl)) (fun _ _ _ h => h) (Or.inl ⟨by rfl, ?_⟩) ?_ ?_
           rotate_left
           ·intro w'
            go_simp
            with_reducible rfl
           rotate_left
           ·simp only [Act.put, List.setIfInBounds_toArray, List.set_cons_zero, List.set_cons_succ, i64_w, i32_w]
            rfl
           refine take_ (i := 5) (N := some 57) (v := ?_) (a' := ?_) #[true, true, true, true, false, true, true, false, false, true, false, false, false, false, false, false] rfl rfl (take_ofW HT_.out HW_.out (by kernel_rfl)) (fun _ _ _ h => h) (Or.inl ⟨by rfl, ?_⟩) hHeld ?_ ?_
           rotate_left
           ·rintro w' ⟨s0, s1, s2, s3⟩
            go_simp
            with_reducible rfl
           rotate_left
           ·simp only [Act.put, List.setIfInBounds_toArray, List.set_cons_zero, List.set_cons_succ, i64_w, i32_w]
            rfl
           refine take_ (i := 7) (N := some 59) (v := ?_) (a' := ?_) #[true, true, true, true, false, true, true, true, false, true, false, false, false, false, false, false] rfl rfl (take_ofW HT_.out HW_.out (by kernel_rfl)) (fun _ _ _ h => h) (Or.inl ⟨by rfl, ?_⟩) hHeld ?_ ?_
           rotate_left
           ·rintro w' ⟨s0, s1, s2, s3⟩
            go_simp
            with_reducible rfl
           rotate_left
           ·simp only [Act.put, List.setIfInBounds_toArray, List.set_cons_zero, List.set_cons_succ, i64_w, i32_w]
            rfl
           refine pure_ (i := 8) (N := some 60) (v := ?_) (a' := ?_) #[true, true, true, true, false, true, true, true, true, true, false, false, false, false, false, false] rfl rfl (any_of HT_.out (by kernel_rfl)) (fun _ _ _ h => h) (Or.inl ⟨by rfl, ?_⟩) ?_ ?_
           rotate_left
           ·intro w'
            go_simp
            with_reducible rfl
           rotate_left
           ·simp only [Act.put, List.setIfInBounds_toArray, List.set_cons_zero, List.set_cons_succ, i64_w, i32_w]
            rfl
           refine take_ (i := 10) (N := some 62) (v := ?_) (a' := ?_) #[true, true, true, true, false, true, true, true, true, true, true, false, false, false, false, false] rfl rfl (take_ofW HT_.out HW_.out (by kernel_rfl)) (fun _ _ _ h => h) (Or.inl ⟨by rfl, ?_⟩) hHeld ?_ ?_
           rotate_left
           ·rintro w' ⟨s0, s1, s2, s3⟩
            go_simp
            with_reducible rfl
           rotate_left
           ·simp only [Act.put, List.setIfInBounds_toArray, List.set_cons_zero, List.set_cons_succ, i64_w, i32_w]
            rfl
           refine pure_ (i := 11) (N := some 63) (v := ?_) (a' := ?_) #[true, true, true, true, false, true, true, true, true, true, true, true, false, false, false, false] rfl rfl (any_of HT_.out (by kernel_rfl)) (fun _ _ _ h => h) (Or.inl ⟨by rfl, ?_⟩) ?_ ?_
           rotate_left
           ·intro w'
            go_simp
            with_reducible rfl
           rotate_left
           ·simp only [Act.put, List.setIfInBounds_toArray, List.set_cons_zero, List.set_cons_succ, i64_w, i32_w]
            rfl
           refine one_ (i := 4) (N := some 56) #[true, true, true, true, true, true, true, true, true, true, true, true, false, false, false, false] rfl rfl (one_of HT_.out (by kernel_rfl)) (by decide) (fun K hK => ?_)
           refine goes_ Tryd.func17 (by kernel_rfl) rfl #[.int .u64 t487] (by rfl) rfl rfl (by (try simp only [List.map_toArray, List.map_cons, List.map_nil]); first | done | rfl | (simp only [List.length_drop, List.length_take]; rfl) | (simp only [gt_iff_lt, Int.natCast_pos]; done) | (simp only [gt_iff_lt, Int.natCast_pos]; rfl)) ?_
           with_reducible refine (abacuslaw05_units.calls kj17 t487 t489 t490 _ A50.out).mono ?_
           rintro e w55 ⟨v491, rfl, ho0, hb⟩
           refine ⟨_, rfl, ?_⟩
           have n0_ := Aside0.mk (Kd.V_below (vS <| HO_472001.out) hb)
           have n1_ := Aside0.mk (Kd.V_below (vS <| HO_477001.out) hb)
           have n2_ := Aside0.mk (Kd.V_lower (Kd.V_mono (ok' := fun k_ => k_ ≠ gb471 ∧ k_ ≠ gb476) ho0 (fun k_ hk_ => ⟨(Kd.freshB (g := gb471) (o := .cells #[.bool t467, .slice Ao22 t468.length co22] 27 (0, 0)) (by exact bkS BK471.out) k_ hk_), (Kd.freshB (g := gb476) (o := .cells #[.bool t472, .slice Ao27 t473.length co27] 27 (0, 0)) (by exact bkS BK476.out) k_ hk_)⟩)) (below_size (by repeat (first | (with_reducible first | exact HB.out | apply below_alloc | apply pw_below_drewN | apply below_drew1 | refine below_set ?_ GE471.out | refine below_set ?_ GE476.out) | exact HB.out))))
           have n3_ := Aside0.mk (blk_below (g := gb471) (o := .cells #[.bool t467, .slice Ao22 t468.length co22] 27 (0, 0)) (by exact bkS BK471.out) hb)
           have n4_ := Aside0.mk (blk_below (g := gb476) (o := .cells #[.bool t472, .slice Ao27 t473.length co27] 27 (0, 0)) (by exact bkS BK476.out) hb)
           have n5_ := Aside0.mk (below_step (by repeat (first | (with_reducible first | exact HB.out | apply below_alloc | apply pw_below_drewN | apply below_drew1 | refine below_set ?_ GE471.out | refine below_set ?_ GE476.out) | exact HB.out)) hb)
           clear HO_472001
           clear HO_477001
           clear BK471
           clear BK476
           clear HB
           have HO_472001 := n0_
           have HO_477001 := n1_
           have HO492 := n2_
           have BK471 := n3_
           have BK476 := n4_
           have HB := n5_
           clear n0_ n1_ n2_ n3_ n4_ n5_
           (try clear hb)
           (try clear hb2)
           (try clear hk)
           (try clear hi)
           (try clear ho0)
           refine hK.out _ _ ⟨(blk_cell BK471.out 0).trans rfl, (blk_cell BK471.out 1).trans rfl, (blk_cell BK476.out 0).trans rfl, (blk_cell BK476.out 1).trans rfl⟩ (fun hHeld => ?_)
           clear hK K
           refine norm_ (a' := ?_) ?_ ?_
           rotate_left
           ·show Act.put _ (some 56) _ = _
            simp only [Act.put, List.setIfInBounds_toArray, List.set_cons_zero, List.set_cons_succ, i64_w, i32_w]
            rfl
           refine one_ (i := 12) (N := some 64) #[true, true, true, true, true, true, true, true, true, true, true, true, true, false, false, false] rfl rfl (one_of HT_.out (by kernel_rfl)) (by decide) (fun K hK => ?_)
           refine goes_ Tryd.func22 (by kernel_rfl) rfl #[.agg #[.bool t467, .slice Ao22 t468.length co22], .agg #[.bool (!t472), .slice Ao27 t473.length co27]] (by rfl) rfl rfl (by (try simp only [List.map_toArray, List.map_cons, List.map_nil]); first | done | rfl | (simp only [List.length_drop, List.length_take]; rfl) | (simp only [gt_iff_lt, Int.natCast_pos]; done) | (simp only [gt_iff_lt, Int.natCast_pos]; rfl)) ?_
           with_reducible refine (abacuslaw05_plus.calls kj17 t467 (fun k_ => (k_ ≠ gb471 ∧ k_ ≠ gb476)) _ _ t468 (!t472) (fun k_ => (k_ ≠ gb471 ∧ k_ ≠ gb476)) _ _ t473 t493 t494 _ ?side1 ?side2 A51.out).mono ?_
           (case side1 => exact HO_472001.out)
           (case side2 => exact HO_477001.out)
           rintro e w56 ⟨v495, rfl, ho0, hb⟩
           refine ⟨_, rfl, ?_⟩
           have n0_ := Aside0.mk (Kd.V_below (vS <| HO_472001.out) hb)
           have n1_ := Aside0.mk (Kd.V_below (vS <| HO_477001.out) hb)
           have n2_ := Aside0.mk (Kd.V_below (vS <| HO492.out) hb)
           have n3_ := Aside0.mk (Kd.V_lower (Kd.V_mono (ok' := fun k_ => k_ ≠ gb471 ∧ k_ ≠ gb476) ho0 (fun k_ hk_ => ⟨Or.elim hk_ (fun hs_ => Or.elim hs_ (fun hs_ => hs_.1) (fun hs_ => hs_.1)) (fun hn_ => (Kd.freshB (g := gb471) (o := .cells #[.bool t467, .slice Ao22 t468.length co22] 27 (0, 0)) (by exact bkS BK471.out) k_ hn_)), Or.elim hk_ (fun hs_ => Or.elim hs_ (fun hs_ => hs_.2) (fun hs_ => hs_.2)) (fun hn_ => (Kd.freshB (g := gb476) (o := .cells #[.bool t472, .slice Ao27 t473.length co27] 27 (0, 0)) (by exact bkS BK476.out) k_ hn_))⟩)) (below_size (by repeat (first | (with_reducible first | exact HB.out | apply below_alloc | apply pw_below_drewN | apply below_drew1 | refine below_set ?_ GE471.out | refine below_set ?_ GE476.out) | exact HB.out))))
           have n4_ := Aside0.mk (blk_below (g := gb471) (o := .cells #[.bool t467, .slice Ao22 t468.length co22] 27 (0, 0)) (by exact bkS BK471.out) hb)
           have n5_ := Aside0.mk (blk_below (g := gb476) (o := .cells #[.bool t472, .slice Ao27 t473.length co27] 27 (0, 0)) (by exact bkS BK476.out) hb)
           have n6_ := Aside0.mk (below_step (by repeat (first | (with_reducible first | exact HB.out | apply below_alloc | apply pw_below_drewN | apply below_drew1 | refine below_set ?_ GE471.out | refine below_set ?_ GE476.out) | exact HB.out)) hb)
           clear HO_472001
           clear HO_477001
           clear HO492
           clear BK471
           clear BK476
           clear HB
           have HO_472001 := n0_
           have HO_477001 := n1_
           have HO492 := n2_
           have HO496 := n3_
           have BK471 := n4_
           have BK476 := n5_
           have HB := n6_
           clear n0_ n1_ n2_ n3_ n4_ n5_ n6_
           (try clear hb)
           (try clear hb2)
           (try clear hk)
           (try clear hi)
           (try clear ho0)
           obtain ⟨Ao57, co57, eo57⟩ := Kd.V_slice HO492.out
           (first | subst eo57 | (injection eo57 with f1_ f2_ f3_; have f4_ := f1_.symm; have f5_ := f3_.symm; clear f1_ f2_ f3_; subst f4_; subst f5_))
           obtain ⟨Ao58, co58, eo58⟩ := Kd.V_slice HO496.out
           (first | subst eo58 | (injection eo58 with f1_ f2_ f3_; have f4_ := f1_.symm; have f5_ := f3_.symm; clear f1_ f2_ f3_; subst f4_; subst f5_))
           refine hK.out _ _ ⟨(blk_cell BK471.out 0).trans rfl, (blk_cell BK471.out 1).trans rfl, (blk_cell BK476.out 0).trans rfl, (blk_cell BK476.out 1).trans rfl⟩ (fun hHeld => ?_)
           clear hK K
           refine norm_ (a' := ?_) ?_ ?_
           rotate_left
           ·show Act.put _ (some 64) _ = _
            simp only [Act.put, List.setIfInBounds_toArray, List.set_cons_zero, List.set_cons_succ, i64_w, i32_w]
            rfl
           refine one_ (i := 13) (N := some 65) #[true, true, true, true, true, true, true, true, true, true, true, true, true, true, false, false] rfl rfl (one_of HT_.out (by kernel_rfl)) (by decide) (fun K hK => ?_)
           refine goes_ Tryd.func21 (by kernel_rfl) rfl #[.agg #[.bool t489, .slice Ao57 t490.length co57], .agg #[.bool t493, .slice Ao58 t494.length co58]] (by rfl) rfl rfl (by (try simp only [List.map_toArray, List.map_cons, List.map_nil]); first | done | rfl | (simp only [List.length_drop, List.length_take]; rfl) | (simp only [gt_iff_lt, Int.natCast_pos]; done) | (simp only [gt_iff_lt, Int.natCast_pos]; rfl)) ?_
           with_reducible refine (abacuslaw05_same.calls kj17 t489 _ _ t490 t493 _ _ t494 t497 _ ?side1 ?side2 ?side3 ?side4 A52.out).mono ?_
           (case side1 => exact cS (Kd.V_reads' HO492.out).2.2)
           (case side2 => exact (Kd.V_reads' HO492.out).2.1)
           (case side3 => exact cS (Kd.V_reads' HO496.out).2.2)
           (case side4 => exact (Kd.V_reads' HO496.out).2.1)
           rintro e w59 ⟨rfl, hb⟩
           refine ⟨_, rfl, ?_⟩
           have n0_ := Aside0.mk (Kd.V_below (vS <| HO_472001.out) hb)
           have n1_ := Aside0.mk (Kd.V_below (vS <| HO_477001.out) hb)
           have n2_ := Aside0.mk (Kd.V_below (vS <| HO492.out) hb)
           have n3_ := Aside0.mk (Kd.V_below (vS <| HO496.out) hb)
           have n4_ := Aside0.mk (blk_below (g := gb471) (o := .cells #[.bool t467, .slice Ao22 t468.length co22] 27 (0, 0)) (by exact bkS BK471.out) hb)
           have n5_ := Aside0.mk (blk_below (g := gb476) (o := .cells #[.bool t472, .slice Ao27 t473.length co27] 27 (0, 0)) (by exact bkS BK476.out) hb)
           have n6_ := Aside0.mk (below_step (by repeat (first | (with_reducible first | exact HB.out | apply below_alloc | apply pw_below_drewN | apply below_drew1 | refine below_set ?_ GE471.out | refine below_set ?_ GE476.out) | exact HB.out)) hb)
           clear HO_472001
           clear HO_477001
           clear HO492
           clear HO496
           clear BK471
           clear BK476
           clear HB
           have HO_472001 := n0_
           have HO_477001 := n1_
           have HO492 := n2_
           have HO496 := n3_
           have BK471 := n4_
           have BK476 := n5_
           have HB := n6_
           clear n0_ n1_ n2_ n3_ n4_ n5_ n6_
           (try clear hb)
           (try clear hb2)
           (try clear hk)
           (try clear hi)
           refine hK.out _ _ ⟨(blk_cell BK471.out 0).trans rfl, (blk_cell BK471.out 1).trans rfl, (blk_cell BK476.out 0).trans rfl, (blk_cell BK476.out 1).trans rfl⟩ (fun hHeld => ?_)
           clear hK K
           refine norm_ (a' := ?_) ?_ ?_
           rotate_left
           ·show Act.put _ (some 65) _ = _
            simp only [Act.put, List.setIfInBounds_toArray, List.set_cons_zero, List.set_cons_succ, i64_w, i32_w]
            rfl
           refine pure_ (i := 14) (N := some 66) (v := ?_) (a' := ?_) #[true, true, true, true, true, true, true, true, true, true, true, true, true, true, true, false] rfl rfl (any_of HT_.out (by kernel_rfl)) (fun _ _ _ h => h) (Or.inl ⟨by rfl, ?_⟩) ?_ ?_
           rotate_left
           ·intro w'
            go_simp
            with_reducible rfl
           rotate_left
           ·simp only [Act.put, List.setIfInBounds_toArray, List.set_cons_zero, List.set_cons_succ, i64_w, i32_w]
            rfl
           refine pure_ (i := 15) (N := some 4) (v := ?_) (a' := ?_) #[true, true, true, true, true, true, true, true, true, true, true, true, true, true, true, true] rfl rfl (any_of HT_.out (by kernel_rfl)) (fun _ _ _ h => h) (Or.inl ⟨by rfl, ?_⟩) ?_ ?_
           rotate_left
           ·intro w'
            go_simp
            with_reducible rfl
           rotate_left
           ·simp only [Act.put, List.setIfInBounds_toArray, List.set_cons_zero, List.set_cons_succ, i64_w, i32_w]
            rfl
           refine done_ (done_of HT_.out (by kernel_rfl)) ?_
           try go_wp2
           go_ret
           exact ⟨by first | rfl | (simp [errW_none, errW_some] <;> rfl) | (simp [*, errW_none, errW_some] <;> rfl), by repeat (first | (with_reducible first | exact HB.out | apply below_alloc | apply pw_below_drewN | apply below_drew1 | refine below_set ?_ GE471.out | refine below_set ?_ GE476.out) | exact HB.out)⟩
          ·replace c49 := Bool.eq_false_iff.mpr c49
           subst c49
           have H1 : (some false) = some r := by rw [if_neg (show ¬ (false = true) by decide)] at H; exact H
           clear H
           have H := H1
           clear H1
           obtain rfl := Option.some.inj H
           try go_wp2_with (first | ((with_reducible refine gate_callee (f := 20) rfl ?_); refine goesL_ (some 51) rfl rfl Tryd.func20 (by kernel_rfl) rfl #[.int .u64 a0, .int .u64 a1] rfl (by (try simp only [List.map_toArray, List.map_cons, List.map_nil]); first | done | rfl | (simp only [List.length_drop, List.length_take]; rfl) | (simp only [gt_iff_lt, Int.natCast_pos]; done) | (simp only [gt_iff_lt, Int.natCast_pos]; rfl)) ?_; (with_reducible refine (soft_Sub.calls kj17 a0 a1 t487 _ ?side1 A47.out).mono ?_); (case side1 => exact cS (Kd.C_below HT.out HB.out)); rintro e w60 ⟨rfl, hb⟩; refine ⟨_, rfl, ?_⟩; have n0_ := Aside0.mk (Kd.V_below (vS <| HO_472001.out) hb); have n1_ := Aside0.mk (Kd.V_below (vS <| HO_477001.out) hb); have n2_ := Aside0.mk (blk_below (g := gb471) (o := .cells #[.bool t467, .slice Ao22 t468.length co22] 27 (0, 0)) (by exact bkS BK471.out) hb); have n3_ := Aside0.mk (blk_below (g := gb476) (o := .cells #[.bool t472, .slice Ao27 t473.length co27] 27 (0, 0)) (by exact bkS BK476.out) hb); have n4_ := Aside0.mk (below_step (by repeat (first | (with_reducible first | exact HB.out | apply below_alloc | apply pw_below_drewN | apply below_drew1 | refine below_set ?_ GE471.out | refine below_set ?_ GE476.out) | exact HB.out)) hb); clear HO_472001; clear HO_477001; clear BK471; clear BK476; clear HB; have HO_472001 := n0_; have HO_477001 := n1_; have BK471 := n2_; have BK476 := n3_; have HB := n4_; clear n0_ n1_ n2_ n3_ n4_; (try clear hb); (try clear hb2); (try clear hk); (try clear hi)))
           have n0_ := Aside0.mk (Kd.V_drew HO_472001.out)
           have n1_ := Aside0.mk (Kd.V_drew HO_477001.out)
           have n2_ := Aside0.mk (blk_drew BK471.out)
           have n3_ := Aside0.mk (blk_drew BK476.out)
           have n4_ := Aside0.mk (below_drew1 HB.out)
           clear HO_472001
           clear HO_477001
           clear BK471
           clear BK476
           clear HB
           have HO_472001 := n0_
           have HO_477001 := n1_
           have BK471 := n2_
           have BK476 := n3_
           have HB := n4_
           clear n0_ n1_ n2_ n3_ n4_
           refine start_ (n := 16) (S := fun w' => True) (ds := []) #[false, false, false, false, false, false, false, false, false, false, false, false, false, false, false, false] (by kernel_rfl) rfl rfl trivial (fun hHeld => ?_); refine with_tabW abacuslaw05_SoftSterbenz.tab10 abacuslaw05_SoftSterbenz.bits10 (fun HT_ HW_ => ?_)
           generalize w60.drew = w61 at HO_472001 HO_477001 BK471 BK476 HB hHeld ⊢
           refine pure_ (i := 0) (N := some 52) (v := ?_) (a' := ?_) #[true, false, false, false, false, false, false, false, false, false, false, false, false, false, false, false] rfl rfl (any_of HT_.out (by kernel_rfl)) (fun _ _ _ h => h) (Or.inl ⟨by rfl, ?_⟩) ?_ ?_
           rotate_left
           ·intro w'
            go_simp
            with_reducible rfl
           rotate_left
           ·simp only [Act.put, List.setIfInBounds_toArray, List.set_cons_zero, List.set_cons_succ, i64_w, i32_w]
            rfl
           refine one_ (i := 1) (N := some 53) #[true, true, false, false, false, false, false, false, false, false, false, false, false, false, false, false] rfl rfl (one_of HT_.out (by kernel_rfl)) (by decide) (fun K hK => ?_)
           refine goes_ Tryd.func16 (by kernel_rfl) rfl #[.int .u64 t487] (by rfl) rfl rfl (by (try simp only [List.map_toArray, List.map_cons, List.map_nil]); first | done | rfl | (simp only [List.length_drop, List.length_take]; rfl) | (simp only [gt_iff_lt, Int.natCast_pos]; done) | (simp only [gt_iff_lt, Int.natCast_pos]; rfl)) ?_
           with_reducible refine (abacuslaw05_finite.calls t487 false _ A48.out).mono ?_
           rintro e w' ⟨rfl, ⟨nd, rfl⟩⟩
           refine ⟨_, rfl, ?_⟩
           refine hK.out _ _ trivial (fun hHeld => ?_)
           clear hK K
           refine norm_ (a' := ?_) ?_ ?_
           rotate_left
           ·show Act.put _ (some 53) _ = _
            simp only [Act.put, List.setIfInBounds_toArray, List.set_cons_zero, List.set_cons_succ, i64_w, i32_w]
            rfl
           refine pure_ (i := 2) (N := some 54) (v := ?_) (a' := ?_) #[true, true, true, false, false, false, false, false, false, false, false, false, false, false, false, false] rfl rfl (any_of HT_.out (by kernel_rfl)) (fun _ _ _ h => h) (Or.inl ⟨by rfl, ?_⟩) ?_ ?_
           rotate_left
           ·intro w'
            go_simp
            with_reducible rfl
           rotate_left
           ·simp only [Act.put, List.setIfInBounds_toArray, List.set_cons_zero, List.set_cons_succ, i64_w, i32_w]
            rfl
           refine pure_ (i := 3) (N := some 55) (v := undef) (a' := ?_) #[true, true, true, true, false, false, false, false, false, false, false, false, false, false, false, false] rfl rfl (any_of HT_.out (by kernel_rfl)) (fun _ _ _ h => h) (Or.inr ⟨by rfl, rfl⟩) ?_ ?_
           rotate_left
           ·simp only [Act.put, List.setIfInBounds_toArray, List.set_cons_zero, List.set_cons_succ, i64_w, i32_w]
            rfl
           refine pure_ (i := 4) (N := some 56) (v := undef) (a' := ?_) #[true, true, true, true, true, false, false, false, false, false, false, false, false, false, false, false] rfl rfl (any_of HT_.out (by kernel_rfl)) (fun _ _ _ h => h) (Or.inr ⟨by rfl, rfl⟩) ?_ ?_
           rotate_left
           ·simp only [Act.put, List.setIfInBounds_toArray, List.set_cons_zero, List.set_cons_succ, i64_w, i32_w]
            rfl
           refine pure_ (i := 5) (N := some 57) (v := undef) (a' := ?_) #[true, true, true, true, true, true, false, false, false, false, false, false, false, false, false, false] rfl rfl (any_of HT_.out (by kernel_rfl)) (fun _ _ _ h => h) (Or.inr ⟨by rfl, rfl⟩) ?_ ?_
           rotate_left
           ·simp only [Act.put, List.setIfInBounds_toArray, List.set_cons_zero, List.set_cons_succ, i64_w, i32_w]
            rfl
           refine pure_ (i := 6) (N := some 58) (v := undef) (a' := ?_) #[true, true, true, true, true, true, true, false, false, false, false, false, false, false, false, false] rfl rfl (any_of HT_.out (by kernel_rfl)) (fun _ _ _ h => h) (Or.inr ⟨by rfl, rfl⟩) ?_ ?_
           rotate_left
           ·simp only [Act.put, List.setIfInBounds_toArray, List.set_cons_zero, List.set_cons_succ, i64_w, i32_w]
            rfl
           refine pure_ (i := 7) (N := some 59) (v := undef) (a' := ?_) #[true, true, true, true, true, true, true, true, false, false, false, false, false, false, false, false] rfl rfl (any_of HT_.out (by kernel_rfl)) (fun _ _ _ h => h) (Or.inr ⟨by rfl, rfl⟩) ?_ ?_
           rotate_left
           ·simp only [Act.put, List.setIfInBounds_toArray, List.set_cons_zero, List.set_cons_succ, i64_w, i32_w]
            rfl
           refine pure_ (i := 8) (N := some 60) (v := undef) (a' := ?_) #[true, true, true, true, true, true, true, true, true, false, false, false, false, false, false, false] rfl rfl (any_of HT_.out (by kernel_rfl)) (fun _ _ _ h => h) (Or.inr ⟨by rfl, rfl⟩) ?_ ?_
           rotate_left
           ·simp only [Act.put, List.setIfInBounds_toArray, List.set_cons_zero, List.set_cons_succ, i64_w, i32_w]
            rfl
           refine pure_ (i := 9) (N := some 61) (v := undef) (a' := ?_) #[true, true, true, true, true, true, true, true, true, true, false, false, false, false, false, false] rfl rfl (any_of HT_.out (by kernel_rfl)) (fun _ _ _ h => h) (Or.inr ⟨by rfl, rfl⟩) ?_ ?_
           rotate_left
           ·simp only [Act.put, List.setIfInBounds_toArray, List.set_cons_zero, List.set_cons_succ, i64_w, i32_w]
            rfl
           refine pure_ (i := 10) (N := some 62) (v := undef) (a' := ?_) #[true, true, true, true, true, true, true, true, true, true, true, false, false, false, false, false] rfl rfl (any_of HT_.out (by kernel_rfl)) (fun _ _ _ h => h) (Or.inr ⟨by rfl, rfl⟩) ?_ ?_
           rotate_left
           ·simp only [Act.put, List.setIfInBounds_toArray, List.set_cons_zero, List.set_cons_succ, i64_w, i32_w]
            rfl
           refine pure_ (i := 11) (N := some 63) (v := undef) (a' := ?_) #[true, true, true, true, true, true, true, true, true, true, true, true, false, false, false, false] rfl rfl (any_of HT_.out (by kernel_rfl)) (fun _ _ _ h => h) (Or.inr ⟨by rfl, rfl⟩) ?_ ?_
           rotate_left
           ·simp only [Act.put, List.setIfInBounds_toArray, List.set_cons_zero, List.set_cons_succ, i64_w, i32_w]
            rfl
           refine pure_ (i := 12) (N := some 64) (v := undef) (a' := ?_) #[true, true, true, true, true, true, true, true, true, true, true, true, true, false, false, false] rfl rfl (any_of HT_.out (by kernel_rfl)) (fun _ _ _ h => h) (Or.inr ⟨by rfl, rfl⟩) ?_ ?_
           rotate_left
           ·simp only [Act.put, List.setIfInBounds_toArray, List.set_cons_zero, List.set_cons_succ, i64_w, i32_w]
            rfl
           refine pure_ (i := 13) (N := some 65) (v := undef) (a' := ?_) #[true, true, true, true, true, true, true, true, true, true, true, true, true, true, false, false] rfl rfl (any_of HT_.out (by kernel_rfl)) (fun _ _ _ h => h) (Or.inr ⟨by rfl, rfl⟩) ?_ ?_
           rotate_left
           ·simp only [Act.put, List.setIfInBounds_toArray, List.set_cons_zero, List.set_cons_succ, i64_w, i32_w]
            rfl
           refine pure_ (i := 14) (N := some 66) (v := ?_) (a' := ?_) #[true, true, true, true, true, true, true, true, true, true, true, true, true, true, true, false] rfl rfl (any_of HT_.out (by kernel_rfl)) (fun _ _ _ h => h) (Or.inl ⟨by rfl, ?_⟩) ?_ ?_
           rotate_left
           ·intro w'
            go_simp
            with_reducible rfl
           rotate_left
           ·simp only [Act.put, List.setIfInBounds_toArray, List.set_cons_zero, List.set_cons_succ, i64_w, i32_w]
            rfl
           refine pure_ (i := 15) (N := some 4) (v := ?_) (a' := ?_) #[true, true, true, true, true, true, true, true, true, true, true, true, true, true, true, true] rfl rfl (any_of HT_.out (by kernel_rfl)) (fun _ _ _ h => h) (Or.inl ⟨by rfl, ?_⟩) ?_ ?_
           rotate_left
           ·intro w'
            go_simp
            with_reducible rfl
           rotate_left
           ·simp only [Act.put, List.setIfInBounds_toArray, List.set_cons_zero, List.set_cons_succ, i64_w, i32_w]
            rfl
           refine done_ (done_of HT_.out (by kernel_rfl)) ?_
           try go_wp2
           go_ret
           exact ⟨by first | rfl | (simp [errW_none, errW_some] <;> rfl) | (simp [*, errW_none, errW_some] <;> rfl), by repeat (first | (with_reducible first | exact HB.out | apply below_alloc | apply pw_below_drewN | apply below_drew1 | refine below_set ?_ GE471.out | refine below_set ?_ GE476.out) | exact HB.out)⟩

/-- THE ONE PURE STATEMENT of abacuslaw05_SoftSterbenz: yours. -/
def abacuslaw05_SoftSterbenz.Pure : Prop := ∀ (a0 : Int) (a1 : Int), (Lit.int .u64 a0).wf = true → (Lit.int .u64 a1).wf = true → ∃ k, abacuslaw05_SoftSterbenz.f k a0 a1 = some true
theorem abacuslaw05_SoftSterbenz.walk (P : abacuslaw05_SoftSterbenz.Pure) (a0 : Int) (a1 : Int) (w : World) (hT : Kd.C (Kd.int .u8) w (some ⟨0, 0, none⟩) 64 tabL) (w0 : (Lit.int .u64 a0).wf = true) (w1 : (Lit.int .u64 a1).wf = true) :
  Calls Tryd.prog 3 #[.int .u64 a0, .int .u64 a1] w fun e w' => e = .returned (.bool true) ∧ Below w.heap.size w w' := by
 obtain ⟨k, h⟩ := P a0 a1 w0 w1
 refine (abacuslaw05_SoftSterbenz.calls k a0 a1 true w hT h).mono ?_
 rintro e w' ⟨rfl, hd⟩
 exact ⟨rfl, hd⟩

end Go.Proofs.YtcdnoklokoplaaaDoor.PA
