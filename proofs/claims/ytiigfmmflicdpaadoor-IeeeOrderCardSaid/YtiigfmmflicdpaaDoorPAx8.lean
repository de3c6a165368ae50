-- printed by a program
import Derived.Test.YtiigfmmflicdpaaDoorPAx0
import Derived.Test.YtiigfmmflicdpaaDoorPAx6
import Derived.Test.YtiigfmmflicdpaaDoorPAx7
namespace Go.Proofs.YtiigfmmflicdpaaDoor.PA
open Go.Proofs.YtiigfmmflicdpaaDoorX
open Go.RowKit Go.Proofs.YtiigfmmflicdpaaDoorW.PrintWords Go.Proofs.YtiigfmmflicdpaaDoorW.PrintLast Go.Proofs.YtiigfmmflicdpaaDoorW.PrintMore
attribute [local go_sem] max2_int min2_int max_two min_two max_three min_three max_four min_four   -- for this text's walks alone
set_option linter.unusedVariables false
set_option linter.unusedSimpArgs false

/-! ### abacuslaw04_IeeeOrder: function 6 -/
mutual
def abacuslaw04_IeeeOrder.j0 : Nat → Int → Int → Int → Int → Int → Bool → Int → Bool → Bool → Option (Bool)
  | 0, _, _, _, _, _, _, _, _, _ => none
  | k + 1, x0, x1, x2, x7, x9, x10, x11, x12, x72 => if x72 = true then (some false) else (if x12 = true then (if ((decide (x11 < 0)) != (decide (x7 < x9))) = true then (abacuslaw04_IeeeOrder.j1 k x0 x1 x2 x10 x11 x12 true) else (if ((decide (x11 > 0)) != (decide (x7 > x9))) = true then (abacuslaw04_IeeeOrder.j1 k x0 x1 x2 x10 x11 x12 true) else (abacuslaw04_IeeeOrder.j1 k x0 x1 x2 x10 x11 x12 false))) else (abacuslaw04_IeeeOrder.j1 k x0 x1 x2 x10 x11 x12 (x11 != 0)))
def abacuslaw04_IeeeOrder.j1 : Nat → Int → Int → Int → Bool → Int → Bool → Bool → Option (Bool)
  | 0, _, _, _, _, _, _, _ => none
  | k + 1, x0, x1, x2, x10, x11, x12, x100 => if x100 = true then (some false) else ((ieee_Total.f x0 x1).bind fun t396 => ((ieee_Total.f x1 x2).bind fun t397 => ((ieee_Total.f x0 x2).bind fun t398 => (if t396 < (-1) then (abacuslaw04_IeeeOrder.j2 k x0 x10 t396 t397 t398 true) else (if t396 > 1 then (abacuslaw04_IeeeOrder.j2 k x0 x10 t396 t397 t398 true) else ((ieee_Total.f x1 x0).bind fun t399 => (if t396 = (wrap64 (-t399)) then (if ((t396 == 0) != (x0 == x1)) = true then (abacuslaw04_IeeeOrder.j2 k x0 x10 t396 t397 t398 true) else (if x12 = true then (if x11 = 0 then (abacuslaw04_IeeeOrder.j2 k x0 x10 t396 t397 t398 false) else (abacuslaw04_IeeeOrder.j2 k x0 x10 t396 t397 t398 (t396 != x11))) else (abacuslaw04_IeeeOrder.j2 k x0 x10 t396 t397 t398 false))) else (abacuslaw04_IeeeOrder.j2 k x0 x10 t396 t397 t398 true))))))))
def abacuslaw04_IeeeOrder.j2 : Nat → Int → Bool → Int → Int → Int → Bool → Option (Bool)
  | 0, _, _, _, _, _, _ => none
  | k + 1, x0, x10, x15, x16, x17, x143 => if x143 = true then (some false) else (if x15 ≤ 0 then (if x16 ≤ 0 then (if x17 > 0 then (abacuslaw04_IeeeOrder.j3 k x0 x10 x15 true) else (if x15 ≥ 0 then (if x16 ≥ 0 then (abacuslaw04_IeeeOrder.j3 k x0 x10 x15 (decide (x17 < 0))) else (abacuslaw04_IeeeOrder.j3 k x0 x10 x15 false)) else (abacuslaw04_IeeeOrder.j3 k x0 x10 x15 false))) else (if x15 ≥ 0 then (if x16 ≥ 0 then (abacuslaw04_IeeeOrder.j3 k x0 x10 x15 (decide (x17 < 0))) else (abacuslaw04_IeeeOrder.j3 k x0 x10 x15 false)) else (abacuslaw04_IeeeOrder.j3 k x0 x10 x15 false))) else (if x15 ≥ 0 then (if x16 ≥ 0 then (abacuslaw04_IeeeOrder.j3 k x0 x10 x15 (decide (x17 < 0))) else (abacuslaw04_IeeeOrder.j3 k x0 x10 x15 false)) else (abacuslaw04_IeeeOrder.j3 k x0 x10 x15 false)))
def abacuslaw04_IeeeOrder.j3 : Nat → Int → Bool → Int → Bool → Option (Bool)
  | 0, _, _, _, _ => none
  | k + 1, x0, x10, x15, x165 => if x165 = true then (some false) else (if (Int.tmod x0 9223372036854775808) > 9218868437227405312 then (if x10 = true then (if ((decide (x15 < 0)) != (decide (x0 ≥ 9223372036854775808))) = true then (some false) else ((ieee_Total.f 9223372036854775808 0).bind fun t400 => (some (t400 == (-1))))) else ((ieee_Total.f 9223372036854775808 0).bind fun t401 => (some (t401 == (-1))))) else ((ieee_Total.f 9223372036854775808 0).bind fun t402 => (some (t402 == (-1)))))
end
def abacuslaw04_IeeeOrder.f (k : Nat) (a0 : Int) (a1 : Int) (a2 : Int) : Option (Bool) := (abacuslaw04_awake.f k).bind fun t387 => (if t387 = true then ((ieee_Rank.f a0).bind fun bt388 => ((ieee_Rank.f a1).bind fun bt390 => ((ieee_Compare.f a0 a1).bind fun bt392 => ((ieee_Compare.f a1 a0).bind fun bt394 => (if (bt388.2 != (decide ((Int.tmod a0 9223372036854775808) ≤ 9218868437227405312))) = true then (abacuslaw04_IeeeOrder.j0 k a0 a1 a2 bt388.1 bt390.1 bt390.2 bt392.1 bt392.2 true) else (if (bt390.2 != (decide ((Int.tmod a1 9223372036854775808) ≤ 9218868437227405312))) = true then (abacuslaw04_IeeeOrder.j0 k a0 a1 a2 bt388.1 bt390.1 bt390.2 bt392.1 bt392.2 true) else (if bt388.2 = true then (if (bt392.2 != bt390.2) = true then (abacuslaw04_IeeeOrder.j0 k a0 a1 a2 bt388.1 bt390.1 bt390.2 bt392.1 bt392.2 true) else (if (bt394.2 != bt392.2) = true then (abacuslaw04_IeeeOrder.j0 k a0 a1 a2 bt388.1 bt390.1 bt390.2 bt392.1 bt392.2 true) else (abacuslaw04_IeeeOrder.j0 k a0 a1 a2 bt388.1 bt390.1 bt390.2 bt392.1 bt392.2 (bt392.1 != (wrap64 (-bt394.1)))))) else (if (bt392.2 != false) = true then (abacuslaw04_IeeeOrder.j0 k a0 a1 a2 bt388.1 bt390.1 bt390.2 bt392.1 bt392.2 true) else (if (bt394.2 != bt392.2) = true then (abacuslaw04_IeeeOrder.j0 k a0 a1 a2 bt388.1 bt390.1 bt390.2 bt392.1 bt392.2 true) else (abacuslaw04_IeeeOrder.j0 k a0 a1 a2 bt388.1 bt390.1 bt390.2 bt392.1 bt392.2 (bt392.1 != (wrap64 (-bt394.1))))))))))))) else (some false))
theorem abacuslaw04_IeeeOrder.mono_l : ∀ k, (∀ y0 y1 y2 y3 y4 y5 y6 y7 y8, LeO (abacuslaw04_IeeeOrder.j0 k y0 y1 y2 y3 y4 y5 y6 y7 y8) (abacuslaw04_IeeeOrder.j0 (k + 1) y0 y1 y2 y3 y4 y5 y6 y7 y8)) ∧ (∀ y0 y1 y2 y3 y4 y5 y6, LeO (abacuslaw04_IeeeOrder.j1 k y0 y1 y2 y3 y4 y5 y6) (abacuslaw04_IeeeOrder.j1 (k + 1) y0 y1 y2 y3 y4 y5 y6)) ∧ (∀ y0 y1 y2 y3 y4 y5, LeO (abacuslaw04_IeeeOrder.j2 k y0 y1 y2 y3 y4 y5) (abacuslaw04_IeeeOrder.j2 (k + 1) y0 y1 y2 y3 y4 y5)) ∧ (∀ y0 y1 y2 y3, LeO (abacuslaw04_IeeeOrder.j3 k y0 y1 y2 y3) (abacuslaw04_IeeeOrder.j3 (k + 1) y0 y1 y2 y3))
  | 0 => ⟨fun _ _ _ _ _ _ _ _ _ r h => by simp [abacuslaw04_IeeeOrder.j0] at h, fun _ _ _ _ _ _ _ r h => by simp [abacuslaw04_IeeeOrder.j1] at h, fun _ _ _ _ _ _ r h => by simp [abacuslaw04_IeeeOrder.j2] at h, fun _ _ _ _ r h => by simp [abacuslaw04_IeeeOrder.j3] at h⟩
  | k + 1 => by
    obtain ⟨ih0, ih1, ih2, ih3⟩ := abacuslaw04_IeeeOrder.mono_l k
    refine ⟨?_, ?_, ?_, ?_⟩
    · intro y0 y1 y2 y3 y4 y5 y6 y7 y8
      unfold abacuslaw04_IeeeOrder.j0
      repeat' first
      | (with_reducible exact ih0 _ _ _ _ _ _ _ _ _)
      | (with_reducible exact ih1 _ _ _ _ _ _ _)
      | (with_reducible exact ih2 _ _ _ _ _ _)
      | (with_reducible exact ih3 _ _ _ _)
      | (with_reducible exact abacuslaw04_awake.mono _)
      | (with_reducible exact LeO.refl _)
      | (with_reducible exact LeO.none _)
      | (with_reducible refine LeO.ite ?_ ?_)
      | (with_reducible refine LeO.bind ?_ (fun _ => ?_))
      | exact ih0 _ _ _ _ _ _ _ _ _
      | exact ih1 _ _ _ _ _ _ _
      | exact ih2 _ _ _ _ _ _
      | exact ih3 _ _ _ _
      | exact abacuslaw04_awake.mono _
      | exact LeO.none _
      | refine LeO.ite ?_ ?_
      | refine LeO.bind ?_ (fun _ => ?_)
    · intro y0 y1 y2 y3 y4 y5 y6
      unfold abacuslaw04_IeeeOrder.j1
      repeat' first
      | (with_reducible exact ih0 _ _ _ _ _ _ _ _ _)
      | (with_reducible exact ih1 _ _ _ _ _ _ _)
      | (with_reducible exact ih2 _ _ _ _ _ _)
      | (with_reducible exact ih3 _ _ _ _)
      | (with_reducible exact abacuslaw04_awake.mono _)
      | (with_reducible exact LeO.refl _)
      | (with_reducible exact LeO.none _)
      | (with_reducible refine LeO.ite ?_ ?_)
      | (with_reducible refine LeO.bind ?_ (fun _ => ?_))
      | exact ih0 _ _ _ _ _ _ _ _ _
      | exact ih1 _ _ _ _ _ _ _
      | exact ih2 _ _ _ _ _ _
      | exact ih3 _ _ _ _
      | exact abacuslaw04_awake.mono _
      | exact LeO.none _
      | refine LeO.ite ?_ ?_
      | refine LeO.bind ?_ (fun _ => ?_)
    · intro y0 y1 y2 y3 y4 y5
      unfold abacuslaw04_IeeeOrder.j2
      repeat' first
      | (with_reducible exact ih0 _ _ _ _ _ _ _ _ _)
      | (with_reducible exact ih1 _ _ _ _ _ _ _)
      | (with_reducible exact ih2 _ _ _ _ _ _)
      | (with_reducible exact ih3 _ _ _ _)
      | (with_reducible exact abacuslaw04_awake.mono _)
      | (with_reducible exact LeO.refl _)
      | (with_reducible exact LeO.none _)
      | (with_reducible refine LeO.ite ?_ ?_)
      | (with_reducible refine LeO.bind ?_ (fun _ => ?_))
      | exact ih0 _ _ _ _ _ _ _ _ _
      | exact ih1 _ _ _ _ _ _ _
      | exact ih2 _ _ _ _ _ _
      | exact ih3 _ _ _ _
      | exact abacuslaw04_awake.mono _
      | exact LeO.none _
      | refine LeO.ite ?_ ?_
      | refine LeO.bind ?_ (fun _ => ?_)
    · intro y0 y1 y2 y3
      unfold abacuslaw04_IeeeOrder.j3
      repeat' first
      | (with_reducible exact ih0 _ _ _ _ _ _ _ _ _)
      | (with_reducible exact ih1 _ _ _ _ _ _ _)
      | (with_reducible exact ih2 _ _ _ _ _ _)
      | (with_reducible exact ih3 _ _ _ _)
      | (with_reducible exact abacuslaw04_awake.mono _)
      | (with_reducible exact LeO.refl _)
      | (with_reducible exact LeO.none _)
      | (with_reducible refine LeO.ite ?_ ?_)
      | (with_reducible refine LeO.bind ?_ (fun _ => ?_))
      | exact ih0 _ _ _ _ _ _ _ _ _
      | exact ih1 _ _ _ _ _ _ _
      | exact ih2 _ _ _ _ _ _
      | exact ih3 _ _ _ _
      | exact abacuslaw04_awake.mono _
      | exact LeO.none _
      | refine LeO.ite ?_ ?_
      | refine LeO.bind ?_ (fun _ => ?_)
theorem abacuslaw04_IeeeOrder.mono : ∀ a0 a1 a2 k, LeO (abacuslaw04_IeeeOrder.f k a0 a1 a2) (abacuslaw04_IeeeOrder.f (k + 1) a0 a1 a2) := by
  intro a0 a1 a2 k
  obtain ⟨ih0, ih1, ih2, ih3⟩ := abacuslaw04_IeeeOrder.mono_l k
  unfold abacuslaw04_IeeeOrder.f
  repeat' first
      | (with_reducible exact ih0 _ _ _ _ _ _ _ _ _)
      | (with_reducible exact ih1 _ _ _ _ _ _ _)
      | (with_reducible exact ih2 _ _ _ _ _ _)
      | (with_reducible exact ih3 _ _ _ _)
      | (with_reducible exact abacuslaw04_awake.mono _)
      | (with_reducible exact LeO.refl _)
      | (with_reducible exact LeO.none _)
      | (with_reducible refine LeO.ite ?_ ?_)
      | (with_reducible refine LeO.bind ?_ (fun _ => ?_))
      | exact ih0 _ _ _ _ _ _ _ _ _
      | exact ih1 _ _ _ _ _ _ _
      | exact ih2 _ _ _ _ _ _
      | exact ih3 _ _ _ _
      | exact abacuslaw04_awake.mono _
      | exact LeO.none _
      | refine LeO.ite ?_ ?_
      | refine LeO.bind ?_ (fun _ => ?_)
set_option maxHeartbeats 8000000 in
set_option maxRecDepth 100000 in
theorem abacuslaw04_IeeeOrder.calls (k : Nat) (a0 : Int) (a1 : Int) (a2 : Int) (r : Bool) (w : World) (hT : Kd.C (Kd.int .u8) w (some ⟨0, 0, none⟩) 64 tabL) (h : abacuslaw04_IeeeOrder.f k a0 a1 a2 = some r) :
    Calls Tryd.prog 6 #[.int .u64 a0, .int .u64 a1, .int .u64 a2] w fun e w' => e = .returned (.bool r) ∧ Below w.heap.size w w' := by
  have HT := Aside0.mk hT
  clear hT
  have HB := Aside0.mk (Below.refl w.heap.size w)
  have H : ((abacuslaw04_awake.f k).bind fun t387 => (if t387 = true then ((ieee_Rank.f a0).bind fun bt388 => ((ieee_Rank.f a1).bind fun bt390 => ((ieee_Compare.f a0 a1).bind fun bt392 => ((ieee_Compare.f a1 a0).bind fun bt394 => (if (bt388.2 != (decide ((Int.tmod a0 9223372036854775808) ≤ 9218868437227405312))) = true then (abacuslaw04_IeeeOrder.j0 k a0 a1 a2 bt388.1 bt390.1 bt390.2 bt392.1 bt392.2 true) else (if (bt390.2 != (decide ((Int.tmod a1 9223372036854775808) ≤ 9218868437227405312))) = true then (abacuslaw04_IeeeOrder.j0 k a0 a1 a2 bt388.1 bt390.1 bt390.2 bt392.1 bt392.2 true) else (if bt388.2 = true then (if (bt392.2 != bt390.2) = true then (abacuslaw04_IeeeOrder.j0 k a0 a1 a2 bt388.1 bt390.1 bt390.2 bt392.1 bt392.2 true) else (if (bt394.2 != bt392.2) = true then (abacuslaw04_IeeeOrder.j0 k a0 a1 a2 bt388.1 bt390.1 bt390.2 bt392.1 bt392.2 true) else (abacuslaw04_IeeeOrder.j0 k a0 a1 a2 bt388.1 bt390.1 bt390.2 bt392.1 bt392.2 (bt392.1 != (wrap64 (-bt394.1)))))) else (if (bt392.2 != false) = true then (abacuslaw04_IeeeOrder.j0 k a0 a1 a2 bt388.1 bt390.1 bt390.2 bt392.1 bt392.2 true) else (if (bt394.2 != bt392.2) = true then (abacuslaw04_IeeeOrder.j0 k a0 a1 a2 bt388.1 bt390.1 bt390.2 bt392.1 bt392.2 true) else (abacuslaw04_IeeeOrder.j0 k a0 a1 a2 bt388.1 bt390.1 bt390.2 bt392.1 bt392.2 (bt392.1 != (wrap64 (-bt394.1))))))))))))) else (some false))) = some r := h
  clear h
  replace H := Option.bind_eq_some_iff.mp H
  obtain ⟨t387, A40, H⟩ := H
  replace H : (if t387 = true then ((ieee_Rank.f a0).bind fun bt388 => ((ieee_Rank.f a1).bind fun bt390 => ((ieee_Compare.f a0 a1).bind fun bt392 => ((ieee_Compare.f a1 a0).bind fun bt394 => (if (bt388.2 != (decide ((Int.tmod a0 9223372036854775808) ≤ 9218868437227405312))) = true then (abacuslaw04_IeeeOrder.j0 k a0 a1 a2 bt388.1 bt390.1 bt390.2 bt392.1 bt392.2 true) else (if (bt390.2 != (decide ((Int.tmod a1 9223372036854775808) ≤ 9218868437227405312))) = true then (abacuslaw04_IeeeOrder.j0 k a0 a1 a2 bt388.1 bt390.1 bt390.2 bt392.1 bt392.2 true) else (if bt388.2 = true then (if (bt392.2 != bt390.2) = true then (abacuslaw04_IeeeOrder.j0 k a0 a1 a2 bt388.1 bt390.1 bt390.2 bt392.1 bt392.2 true) else (if (bt394.2 != bt392.2) = true then (abacuslaw04_IeeeOrder.j0 k a0 a1 a2 bt388.1 bt390.1 bt390.2 bt392.1 bt392.2 true) else (abacuslaw04_IeeeOrder.j0 k a0 a1 a2 bt388.1 bt390.1 bt390.2 bt392.1 bt392.2 (bt392.1 != (wrap64 (-bt394.1)))))) else (if (bt392.2 != false) = true then (abacuslaw04_IeeeOrder.j0 k a0 a1 a2 bt388.1 bt390.1 bt390.2 bt392.1 bt392.2 true) else (if (bt394.2 != bt392.2) = true then (abacuslaw04_IeeeOrder.j0 k a0 a1 a2 bt388.1 bt390.1 bt390.2 bt392.1 bt392.2 true) else (abacuslaw04_IeeeOrder.j0 k a0 a1 a2 bt388.1 bt390.1 bt390.2 bt392.1 bt392.2 (bt392.1 != (wrap64 (-bt394.1))))))))))))) else (some false)) = some r := H
  have A4 := Aside0.mk A40
  clear A40
  by_cases c5 : t387 = true
  · subst c5
    have H1 : ((ieee_Rank.f a0).bind fun bt388 => ((ieee_Rank.f a1).bind fun bt390 => ((ieee_Compare.f a0 a1).bind fun bt392 => ((ieee_Compare.f a1 a0).bind fun bt394 => (if (bt388.2 != (decide ((Int.tmod a0 9223372036854775808) ≤ 9218868437227405312))) = true then (abacuslaw04_IeeeOrder.j0 k a0 a1 a2 bt388.1 bt390.1 bt390.2 bt392.1 bt392.2 true) else (if (bt390.2 != (decide ((Int.tmod a1 9223372036854775808) ≤ 9218868437227405312))) = true then (abacuslaw04_IeeeOrder.j0 k a0 a1 a2 bt388.1 bt390.1 bt390.2 bt392.1 bt392.2 true) else (if bt388.2 = true then (if (bt392.2 != bt390.2) = true then (abacuslaw04_IeeeOrder.j0 k a0 a1 a2 bt388.1 bt390.1 bt390.2 bt392.1 bt392.2 true) else (if (bt394.2 != bt392.2) = true then (abacuslaw04_IeeeOrder.j0 k a0 a1 a2 bt388.1 bt390.1 bt390.2 bt392.1 bt392.2 true) else (abacuslaw04_IeeeOrder.j0 k a0 a1 a2 bt388.1 bt390.1 bt390.2 bt392.1 bt392.2 (bt392.1 != (wrap64 (-bt394.1)))))) else (if (bt392.2 != false) = true then (abacuslaw04_IeeeOrder.j0 k a0 a1 a2 bt388.1 bt390.1 bt390.2 bt392.1 bt392.2 true) else (if (bt394.2 != bt392.2) = true then (abacuslaw04_IeeeOrder.j0 k a0 a1 a2 bt388.1 bt390.1 bt390.2 bt392.1 bt392.2 true) else (abacuslaw04_IeeeOrder.j0 k a0 a1 a2 bt388.1 bt390.1 bt390.2 bt392.1 bt392.2 (bt392.1 != (wrap64 (-bt394.1))))))))))))) = some r := by rw [if_pos rfl] at H; exact H
    clear H
    have H := H1
    clear H1
    replace H := Option.bind_eq_some_iff.mp H
    obtain ⟨⟨t388, t389⟩, A60, H⟩ := H
    replace H : ((ieee_Rank.f a1).bind fun bt390 => ((ieee_Compare.f a0 a1).bind fun bt392 => ((ieee_Compare.f a1 a0).bind fun bt394 => (if (t389 != (decide ((Int.tmod a0 9223372036854775808) ≤ 9218868437227405312))) = true then (abacuslaw04_IeeeOrder.j0 k a0 a1 a2 t388 bt390.1 bt390.2 bt392.1 bt392.2 true) else (if (bt390.2 != (decide ((Int.tmod a1 9223372036854775808) ≤ 9218868437227405312))) = true then (abacuslaw04_IeeeOrder.j0 k a0 a1 a2 t388 bt390.1 bt390.2 bt392.1 bt392.2 true) else (if t389 = true then (if (bt392.2 != bt390.2) = true then (abacuslaw04_IeeeOrder.j0 k a0 a1 a2 t388 bt390.1 bt390.2 bt392.1 bt392.2 true) else (if (bt394.2 != bt392.2) = true then (abacuslaw04_IeeeOrder.j0 k a0 a1 a2 t388 bt390.1 bt390.2 bt392.1 bt392.2 true) else (abacuslaw04_IeeeOrder.j0 k a0 a1 a2 t388 bt390.1 bt390.2 bt392.1 bt392.2 (bt392.1 != (wrap64 (-bt394.1)))))) else (if (bt392.2 != false) = true then (abacuslaw04_IeeeOrder.j0 k a0 a1 a2 t388 bt390.1 bt390.2 bt392.1 bt392.2 true) else (if (bt394.2 != bt392.2) = true then (abacuslaw04_IeeeOrder.j0 k a0 a1 a2 t388 bt390.1 bt390.2 bt392.1 bt392.2 true) else (abacuslaw04_IeeeOrder.j0 k a0 a1 a2 t388 bt390.1 bt390.2 bt392.1 bt392.2 (bt392.1 != (wrap64 (-bt394.1)))))))))))) = some r := H
    have A6 := Aside0.mk A60
    clear A60
    replace H := Option.bind_eq_some_iff.mp H
    obtain ⟨⟨t390, t391⟩, A70, H⟩ := H
    replace H : ((ieee_Compare.f a0 a1).bind fun bt392 => ((ieee_Compare.f a1 a0).bind fun bt394 => (if (t389 != (decide ((Int.tmod a0 9223372036854775808) ≤ 9218868437227405312))) = true then (abacuslaw04_IeeeOrder.j0 k a0 a1 a2 t388 t390 t391 bt392.1 bt392.2 true) else (if (t391 != (decide ((Int.tmod a1 9223372036854775808) ≤ 9218868437227405312))) = true then (abacuslaw04_IeeeOrder.j0 k a0 a1 a2 t388 t390 t391 bt392.1 bt392.2 true) else (if t389 = true then (if (bt392.2 != t391) = true then (abacuslaw04_IeeeOrder.j0 k a0 a1 a2 t388 t390 t391 bt392.1 bt392.2 true) else (if (bt394.2 != bt392.2) = true then (abacuslaw04_IeeeOrder.j0 k a0 a1 a2 t388 t390 t391 bt392.1 bt392.2 true) else (abacuslaw04_IeeeOrder.j0 k a0 a1 a2 t388 t390 t391 bt392.1 bt392.2 (bt392.1 != (wrap64 (-bt394.1)))))) else (if (bt392.2 != false) = true then (abacuslaw04_IeeeOrder.j0 k a0 a1 a2 t388 t390 t391 bt392.1 bt392.2 true) else (if (bt394.2 != bt392.2) = true then (abacuslaw04_IeeeOrder.j0 k a0 a1 a2 t388 t390 t391 bt392.1 bt392.2 true) else (abacuslaw04_IeeeOrder.j0 k a0 a1 a2 t388 t390 t391 bt392.1 bt392.2 (bt392.1 != (wrap64 (-bt394.1))))))))))) = some r := H
    have A7 := Aside0.mk A70
    clear A70
    replace H := Option.bind_eq_some_iff.mp H
    obtain ⟨⟨t392, t393⟩, A80, H⟩ := H
    replace H : ((ieee_Compare.f a1 a0).bind fun bt394 => (if (t389 != (decide ((Int.tmod a0 9223372036854775808) ≤ 9218868437227405312))) = true then (abacuslaw04_IeeeOrder.j0 k a0 a1 a2 t388 t390 t391 t392 t393 true) else (if (t391 != (decide ((Int.tmod a1 9223372036854775808) ≤ 9218868437227405312))) = true then (abacuslaw04_IeeeOrder.j0 k a0 a1 a2 t388 t390 t391 t392 t393 true) else (if t389 = true then (if (t393 != t391) = true then (abacuslaw04_IeeeOrder.j0 k a0 a1 a2 t388 t390 t391 t392 t393 true) else (if (bt394.2 != t393) = true then (abacuslaw04_IeeeOrder.j0 k a0 a1 a2 t388 t390 t391 t392 t393 true) else (abacuslaw04_IeeeOrder.j0 k a0 a1 a2 t388 t390 t391 t392 t393 (t392 != (wrap64 (-bt394.1)))))) else (if (t393 != false) = true then (abacuslaw04_IeeeOrder.j0 k a0 a1 a2 t388 t390 t391 t392 t393 true) else (if (bt394.2 != t393) = true then (abacuslaw04_IeeeOrder.j0 k a0 a1 a2 t388 t390 t391 t392 t393 true) else (abacuslaw04_IeeeOrder.j0 k a0 a1 a2 t388 t390 t391 t392 t393 (t392 != (wrap64 (-bt394.1)))))))))) = some r := H
    have A8 := Aside0.mk A80
    clear A80
    replace H := Option.bind_eq_some_iff.mp H
    obtain ⟨⟨t394, t395⟩, A90, H⟩ := H
    replace H : (if (t389 != (decide ((Int.tmod a0 9223372036854775808) ≤ 9218868437227405312))) = true then (abacuslaw04_IeeeOrder.j0 k a0 a1 a2 t388 t390 t391 t392 t393 true) else (if (t391 != (decide ((Int.tmod a1 9223372036854775808) ≤ 9218868437227405312))) = true then (abacuslaw04_IeeeOrder.j0 k a0 a1 a2 t388 t390 t391 t392 t393 true) else (if t389 = true then (if (t393 != t391) = true then (abacuslaw04_IeeeOrder.j0 k a0 a1 a2 t388 t390 t391 t392 t393 true) else (if (t395 != t393) = true then (abacuslaw04_IeeeOrder.j0 k a0 a1 a2 t388 t390 t391 t392 t393 true) else (abacuslaw04_IeeeOrder.j0 k a0 a1 a2 t388 t390 t391 t392 t393 (t392 != (wrap64 (-t394)))))) else (if (t393 != false) = true then (abacuslaw04_IeeeOrder.j0 k a0 a1 a2 t388 t390 t391 t392 t393 true) else (if (t395 != t393) = true then (abacuslaw04_IeeeOrder.j0 k a0 a1 a2 t388 t390 t391 t392 t393 true) else (abacuslaw04_IeeeOrder.j0 k a0 a1 a2 t388 t390 t391 t392 t393 (t392 != (wrap64 (-t394))))))))) = some r := H
    have A9 := Aside0.mk A90
    clear A90
    have HC10 := Aside0.mk H
    clear H
    go_enter Tryd.func6, Tryd.ntmps6
    go_upto_region 7 with (first | ((with_reducible refine gate_callee (f := 12) rfl ?_); refine goesL_ (some 18) rfl rfl Tryd.func12 (by kernel_rfl) rfl #[] rfl (by (try simp only [List.map_toArray, List.map_cons, List.map_nil]); first | done | rfl | (simp only [List.length_drop, List.length_take]; rfl) | (simp only [gt_iff_lt, Int.natCast_pos]; done) | (simp only [gt_iff_lt, Int.natCast_pos]; rfl)) ?_; (with_reducible refine (abacuslaw04_awake.calls k  true _ ?side1 A4.out).mono ?_); (case side1 => repeat (first | exact HT.out | (with_reducible refine Kd.C_alloc ?_ _) | (with_reducible refine Kd.C_drewN ?_ _) | (with_reducible refine Kd.C_drew ?_))); rintro e w11 ⟨rfl, hb⟩; refine ⟨_, rfl, ?_⟩; have n0_ := Aside0.mk (below_step (by repeat (first | (with_reducible first | exact HB.out | apply below_alloc | apply pw_below_drewN | apply below_drew1) | exact HB.out)) hb); clear HB; have HB := n0_; clear n0_; (try clear hb); (try clear hb2); (try clear hk); (try clear hi)) | ((with_reducible refine gate_callee (f := 23) rfl ?_); refine goesL_ (some 22) rfl rfl Tryd.func23 (by kernel_rfl) rfl #[.int .u64 a0] rfl (by (try simp only [List.map_toArray, List.map_cons, List.map_nil]); first | done | rfl | (simp only [List.length_drop, List.length_take]; rfl) | (simp only [gt_iff_lt, Int.natCast_pos]; done) | (simp only [gt_iff_lt, Int.natCast_pos]; rfl)) ?_; (with_reducible refine (ieee_Rank.calls a0 t388 t389 _ A6.out).mono ?_); rintro e w' ⟨rfl, ⟨nd, rfl⟩⟩; refine ⟨_, rfl, ?_⟩) | ((with_reducible refine gate_callee (f := 23) rfl ?_); refine goesL_ (some 27) rfl rfl Tryd.func23 (by kernel_rfl) rfl #[.int .u64 a1] rfl (by (try simp only [List.map_toArray, List.map_cons, List.map_nil]); first | done | rfl | (simp only [List.length_drop, List.length_take]; rfl) | (simp only [gt_iff_lt, Int.natCast_pos]; done) | (simp only [gt_iff_lt, Int.natCast_pos]; rfl)) ?_; (with_reducible refine (ieee_Rank.calls a1 t390 t391 _ A7.out).mono ?_); rintro e w' ⟨rfl, ⟨nd, rfl⟩⟩; refine ⟨_, rfl, ?_⟩) | ((with_reducible refine gate_callee (f := 26) rfl ?_); refine goesL_ (some 33) rfl rfl Tryd.func26 (by kernel_rfl) rfl #[.int .u64 a0, .int .u64 a1] rfl (by (try simp only [List.map_toArray, List.map_cons, List.map_nil]); first | done | rfl | (simp only [List.length_drop, List.length_take]; rfl) | (simp only [gt_iff_lt, Int.natCast_pos]; done) | (simp only [gt_iff_lt, Int.natCast_pos]; rfl)) ?_; (with_reducible refine (ieee_Compare.calls a0 a1 t392 t393 _ A8.out).mono ?_); rintro e w' ⟨rfl, ⟨nd, rfl⟩⟩; refine ⟨_, rfl, ?_⟩) | ((with_reducible refine gate_callee (f := 26) rfl ?_); refine goesL_ (some 39) rfl rfl Tryd.func26 (by kernel_rfl) rfl #[.int .u64 a1, .int .u64 a0] rfl (by (try simp only [List.map_toArray, List.map_cons, List.map_nil]); first | done | rfl | (simp only [List.length_drop, List.length_take]; rfl) | (simp only [gt_iff_lt, Int.natCast_pos]; done) | (simp only [gt_iff_lt, Int.natCast_pos]; rfl)) ?_; (with_reducible refine (ieee_Compare.calls a1 a0 t394 t395 _ A9.out).mono ?_); rintro e w' ⟨rfl, ⟨nd, rfl⟩⟩; refine ⟨_, rfl, ?_⟩))
    (try simp only [Act.put, List.setIfInBounds_toArray, List.set_cons_zero, List.set_cons_succ])
    go_cut [72] (fun v72 wc => ∃ (kq : Nat) (x72_9 : Bool), v72 = .bool x72_9 ∧ Aside0 (abacuslaw04_IeeeOrder.j0 kq a0 a1 a2 t388 t390 t391 t392 t393 x72_9 = some r) ∧ Aside0 (kq ≤ k) ∧ Aside0 (Below w.heap.size w wc))
    case first =>
      have H := HC10.out
      clear HC10
      by_cases c12 : (t389 != (decide ((Int.tmod a0 9223372036854775808) ≤ 9218868437227405312))) = true
      · rw [if_pos c12] at H
        have c12b0 : (t389 != (decide ((Int.tmod a0 9223372036854775808) ≤ 9218868437227405312))) = true := c12
        (try (have c12b1 : decide (t389 = (decide ((Int.tmod a0 9223372036854775808) ≤ 9218868437227405312))) = false := by simpa using c12))
        (try (have c12b2 : (t389 == (decide ((Int.tmod a0 9223372036854775808) ≤ 9218868437227405312))) = false := by simpa using c12))
        (try (have c12b3 : ¬ (t389 = (decide ((Int.tmod a0 9223372036854775808) ≤ 9218868437227405312))) := by simpa using c12))
        clear c12
        (first | rw [c12b0] | (simp only [i64_w, i32_w]; rw [c12b0]) | rw [c12b1] | skip)
        as_aux_lemma =>
          have H' := Aside0.mk H
          clear H
          go_wp2
          go_meet
          case rel => exact ⟨_, (true), (by first | rfl | (simp; done) | (simp [*]; done)), H', ⟨by first | omega | exact Nat.le_refl _⟩, ⟨by repeat (first | (with_reducible first | exact HB.out | apply below_alloc | apply pw_below_drewN | apply below_drew1) | exact HB.out)⟩⟩
      · rw [if_neg c12] at H
        have c12b0 : (t389 != (decide ((Int.tmod a0 9223372036854775808) ≤ 9218868437227405312))) = false := by simpa using c12
        (try (have c12b1 : decide (t389 = (decide ((Int.tmod a0 9223372036854775808) ≤ 9218868437227405312))) = true := by simpa using c12))
        (try (have c12b2 : (t389 == (decide ((Int.tmod a0 9223372036854775808) ≤ 9218868437227405312))) = true := by simpa using c12))
        clear c12
        (first | rw [c12b0] | (simp only [i64_w, i32_w]; rw [c12b0]) | rw [c12b1] | skip)
        by_cases c13 : (t391 != (decide ((Int.tmod a1 9223372036854775808) ≤ 9218868437227405312))) = true
        · rw [if_pos c13] at H
          have c13b0 : (t391 != (decide ((Int.tmod a1 9223372036854775808) ≤ 9218868437227405312))) = true := c13
          (try (have c13b1 : decide (t391 = (decide ((Int.tmod a1 9223372036854775808) ≤ 9218868437227405312))) = false := by simpa using c13))
          (try (have c13b2 : (t391 == (decide ((Int.tmod a1 9223372036854775808) ≤ 9218868437227405312))) = false := by simpa using c13))
          (try (have c13b3 : ¬ (t391 = (decide ((Int.tmod a1 9223372036854775808) ≤ 9218868437227405312))) := by simpa using c13))
          clear c13
          as_aux_lemma =>
            have H' := Aside0.mk H
            clear H
            go_wp2
            go_meet
            case rel => exact ⟨_, (true), (by first | rfl | (simp; done) | (simp [*]; done)), H', ⟨by first | omega | exact Nat.le_refl _⟩, ⟨by repeat (first | (with_reducible first | exact HB.out | apply below_alloc | apply pw_below_drewN | apply below_drew1) | exact HB.out)⟩⟩
        · rw [if_neg c13] at H
          have c13b0 : (t391 != (decide ((Int.tmod a1 9223372036854775808) ≤ 9218868437227405312))) = false := by simpa using c13
          (try (have c13b1 : decide (t391 = (decide ((Int.tmod a1 9223372036854775808) ≤ 9218868437227405312))) = true := by simpa using c13))
          (try (have c13b2 : (t391 == (decide ((Int.tmod a1 9223372036854775808) ≤ 9218868437227405312))) = true := by simpa using c13))
          clear c13
          by_cases c14 : t389 = true
          · subst c14
            have H1 : (if (t393 != t391) = true then (abacuslaw04_IeeeOrder.j0 k a0 a1 a2 t388 t390 t391 t392 t393 true) else (if (t395 != t393) = true then (abacuslaw04_IeeeOrder.j0 k a0 a1 a2 t388 t390 t391 t392 t393 true) else (abacuslaw04_IeeeOrder.j0 k a0 a1 a2 t388 t390 t391 t392 t393 (t392 != (wrap64 (-t394)))))) = some r := by rw [if_pos rfl] at H; exact H
            clear H
            have H := H1
            clear H1
            by_cases c15 : (t393 != t391) = true
            · rw [if_pos c15] at H
              have c15b0 : (t393 != t391) = true := c15
              (try (have c15b1 : decide (t393 = t391) = false := by simpa using c15))
              (try (have c15b2 : (t393 == t391) = false := by simpa using c15))
              (try (have c15b3 : ¬ (t393 = t391) := by simpa using c15))
              clear c15
              as_aux_lemma =>
                have H' := Aside0.mk H
                clear H
                go_wp2
                go_meet
                case rel => exact ⟨_, (true), (by first | rfl | (simp; done) | (simp [*]; done)), H', ⟨by first | omega | exact Nat.le_refl _⟩, ⟨by repeat (first | (with_reducible first | exact HB.out | apply below_alloc | apply pw_below_drewN | apply below_drew1) | exact HB.out)⟩⟩
            · rw [if_neg c15] at H
              have c15b0 : (t393 != t391) = false := by simpa using c15
              (try (have c15b1 : decide (t393 = t391) = true := by simpa using c15))
              (try (have c15b2 : (t393 == t391) = true := by simpa using c15))
              clear c15
              by_cases c16 : (t395 != t393) = true
              · rw [if_pos c16] at H
                have c16b0 : (t395 != t393) = true := c16
                (try (have c16b1 : decide (t395 = t393) = false := by simpa using c16))
                (try (have c16b2 : (t395 == t393) = false := by simpa using c16))
                (try (have c16b3 : ¬ (t395 = t393) := by simpa using c16))
                clear c16
                as_aux_lemma =>
                  have H' := Aside0.mk H
                  clear H
                  go_wp2
                  go_meet
                  case rel => exact ⟨_, (true), (by first | rfl | (simp; done) | (simp [*]; done)), H', ⟨by first | omega | exact Nat.le_refl _⟩, ⟨by repeat (first | (with_reducible first | exact HB.out | apply below_alloc | apply pw_below_drewN | apply below_drew1) | exact HB.out)⟩⟩
              · rw [if_neg c16] at H
                have c16b0 : (t395 != t393) = false := by simpa using c16
                (try (have c16b1 : decide (t395 = t393) = true := by simpa using c16))
                (try (have c16b2 : (t395 == t393) = true := by simpa using c16))
                clear c16
                as_aux_lemma =>
                  have H' := Aside0.mk H
                  clear H
                  go_wp2
                  go_meet
                  case rel => exact ⟨_, ((t392 != (wrap64 (-t394)))), (by first | rfl | (simp; done) | (simp [*]; done)), H', ⟨by first | omega | exact Nat.le_refl _⟩, ⟨by repeat (first | (with_reducible first | exact HB.out | apply below_alloc | apply pw_below_drewN | apply below_drew1) | exact HB.out)⟩⟩
          · replace c14 := Bool.eq_false_iff.mpr c14
            subst c14
            have H1 : (if (t393 != false) = true then (abacuslaw04_IeeeOrder.j0 k a0 a1 a2 t388 t390 t391 t392 t393 true) else (if (t395 != t393) = true then (abacuslaw04_IeeeOrder.j0 k a0 a1 a2 t388 t390 t391 t392 t393 true) else (abacuslaw04_IeeeOrder.j0 k a0 a1 a2 t388 t390 t391 t392 t393 (t392 != (wrap64 (-t394)))))) = some r := by rw [if_neg (show ¬ (false = true) by decide)] at H; exact H
            clear H
            have H := H1
            clear H1
            by_cases c17 : (t393 != false) = true
            · rw [if_pos c17] at H
              have c17b0 : (t393 != false) = true := c17
              (try (have c17b1 : decide (t393 = false) = false := by simpa using c17))
              (try (have c17b2 : (t393 == false) = false := by simpa using c17))
              (try (have c17b3 : ¬ (t393 = false) := by simpa using c17))
              clear c17
              as_aux_lemma =>
                have H' := Aside0.mk H
                clear H
                go_wp2
                go_meet
                case rel => exact ⟨_, (true), (by first | rfl | (simp; done) | (simp [*]; done)), H', ⟨by first | omega | exact Nat.le_refl _⟩, ⟨by repeat (first | (with_reducible first | exact HB.out | apply below_alloc | apply pw_below_drewN | apply below_drew1) | exact HB.out)⟩⟩
            · rw [if_neg c17] at H
              have c17b0 : (t393 != false) = false := by simpa using c17
              (try (have c17b1 : decide (t393 = false) = true := by simpa using c17))
              (try (have c17b2 : (t393 == false) = true := by simpa using c17))
              clear c17
              by_cases c18 : (t395 != t393) = true
              · rw [if_pos c18] at H
                have c18b0 : (t395 != t393) = true := c18
                (try (have c18b1 : decide (t395 = t393) = false := by simpa using c18))
                (try (have c18b2 : (t395 == t393) = false := by simpa using c18))
                (try (have c18b3 : ¬ (t395 = t393) := by simpa using c18))
                clear c18
                as_aux_lemma =>
                  have H' := Aside0.mk H
                  clear H
                  go_wp2
                  go_meet
                  case rel => exact ⟨_, (true), (by first | rfl | (simp; done) | (simp [*]; done)), H', ⟨by first | omega | exact Nat.le_refl _⟩, ⟨by repeat (first | (with_reducible first | exact HB.out | apply below_alloc | apply pw_below_drewN | apply below_drew1) | exact HB.out)⟩⟩
              · rw [if_neg c18] at H
                have c18b0 : (t395 != t393) = false := by simpa using c18
                (try (have c18b1 : decide (t395 = t393) = true := by simpa using c18))
                (try (have c18b2 : (t395 == t393) = true := by simpa using c18))
                clear c18
                as_aux_lemma =>
                  have H' := Aside0.mk H
                  clear H
                  go_wp2
                  go_meet
                  case rel => exact ⟨_, ((t392 != (wrap64 (-t394)))), (by first | rfl | (simp; done) | (simp [*]; done)), H', ⟨by first | omega | exact Nat.le_refl _⟩, ⟨by repeat (first | (with_reducible first | exact HB.out | apply below_alloc | apply pw_below_drewN | apply below_drew1) | exact HB.out)⟩⟩
    case rest =>
      clear HC10
      try clear c1
      try clear c2
      try clear p2
      try clear c5
      try clear c6
      try clear p6
      try clear c12
      try clear c12b0
      try clear c12b1
      try clear c12b2
      try clear c13
      try clear c13b0
      try clear c13b1
      try clear c13b2
      try clear c14
      try clear c15
      try clear c15b0
      try clear c15b1
      try clear c15b2
      try clear c16
      try clear c16b0
      try clear c16b1
      try clear c16b2
      try clear c17
      try clear c17b0
      try clear c17b1
      try clear c17b2
      try clear c18
      try clear c18b0
      try clear c18b1
      try clear c18b2
      obtain ⟨kq, x72_9, rfl, HA, HJ9, HB⟩ := hcut
      cases kq with
      | zero => exact absurd HA.out (by simp [abacuslaw04_IeeeOrder.j0])
      | succ kj9 =>
        have H := HA.out
        clear HA
        simp only [abacuslaw04_IeeeOrder.j0] at H
        by_cases c19 : x72_9 = true
        · subst c19
          have H1 : (some false) = some r := by rw [if_pos rfl] at H; exact H
          clear H
          have H := H1
          clear H1
          as_aux_lemma =>
            obtain rfl := Option.some.inj H
            go_wp2
            go_ret
            exact ⟨by first | rfl | (simp [errW_none, errW_some] <;> rfl) | (simp [*, errW_none, errW_some] <;> rfl), by repeat (first | (with_reducible first | exact HB.out | apply below_alloc | apply pw_below_drewN | apply below_drew1) | exact HB.out)⟩
        · replace c19 := Bool.eq_false_iff.mpr c19
          subst c19
          have H1 : (if t393 = true then (if ((decide (t392 < 0)) != (decide (t388 < t390))) = true then (abacuslaw04_IeeeOrder.j1 kj9 a0 a1 a2 t391 t392 t393 true) else (if ((decide (t392 > 0)) != (decide (t388 > t390))) = true then (abacuslaw04_IeeeOrder.j1 kj9 a0 a1 a2 t391 t392 t393 true) else (abacuslaw04_IeeeOrder.j1 kj9 a0 a1 a2 t391 t392 t393 false))) else (abacuslaw04_IeeeOrder.j1 kj9 a0 a1 a2 t391 t392 t393 (t392 != 0))) = some r := by rw [if_neg (show ¬ (false = true) by decide)] at H; exact H
          clear H
          have H := H1
          clear H1
          have HC20 := Aside0.mk H
          clear H
          go_upto_region 9 with (fail)
          go_cut [100] (fun v100 wc => ∃ (kq : Nat) (x100_19 : Bool), v100 = .bool x100_19 ∧ Aside0 (abacuslaw04_IeeeOrder.j1 kq a0 a1 a2 t391 t392 t393 x100_19 = some r) ∧ Aside0 (kq ≤ kj9) ∧ Aside0 (Below w.heap.size w wc))
          case first =>
            have H := HC20.out
            clear HC20
            by_cases c21 : t393 = true
            · subst c21
              have H1 : (if ((decide (t392 < 0)) != (decide (t388 < t390))) = true then (abacuslaw04_IeeeOrder.j1 kj9 a0 a1 a2 t391 t392 true true) else (if ((decide (t392 > 0)) != (decide (t388 > t390))) = true then (abacuslaw04_IeeeOrder.j1 kj9 a0 a1 a2 t391 t392 true true) else (abacuslaw04_IeeeOrder.j1 kj9 a0 a1 a2 t391 t392 true false))) = some r := by rw [if_pos rfl] at H; exact H
              clear H
              have H := H1
              clear H1
              by_cases c22 : ((decide (t392 < 0)) != (decide (t388 < t390))) = true
              · rw [if_pos c22] at H
                have c22b0 : ((decide (t392 < 0)) != (decide (t388 < t390))) = true := c22
                (try (have c22b1 : decide ((decide (t392 < 0)) = (decide (t388 < t390))) = false := by simpa using c22))
                (try (have c22b2 : ((decide (t392 < 0)) == (decide (t388 < t390))) = false := by simpa using c22))
                (try (have c22b3 : ¬ ((decide (t392 < 0)) = (decide (t388 < t390))) := by simpa using c22))
                clear c22
                (first | rw [c22b0] | (simp only [i64_w, i32_w]; rw [c22b0]) | rw [c22b1] | skip)
                as_aux_lemma =>
                  have H' := Aside0.mk H
                  clear H
                  go_wp2
                  go_meet
                  case rel => exact ⟨_, (true), (by first | rfl | (simp; done) | (simp [*]; done)), H', ⟨by have := HJ9.out; first | omega | exact Nat.le_refl _⟩, ⟨by repeat (first | (with_reducible first | exact HB.out | apply below_alloc | apply pw_below_drewN | apply below_drew1) | exact HB.out)⟩⟩
              · rw [if_neg c22] at H
                have c22b0 : ((decide (t392 < 0)) != (decide (t388 < t390))) = false := by simpa using c22
                (try (have c22b1 : decide ((decide (t392 < 0)) = (decide (t388 < t390))) = true := by simpa using c22))
                (try (have c22b2 : ((decide (t392 < 0)) == (decide (t388 < t390))) = true := by simpa using c22))
                clear c22
                (first | rw [c22b0] | (simp only [i64_w, i32_w]; rw [c22b0]) | rw [c22b1] | skip)
                by_cases c23 : ((decide (t392 > 0)) != (decide (t388 > t390))) = true
                · rw [if_pos c23] at H
                  have c23b0 : ((decide (t392 > 0)) != (decide (t388 > t390))) = true := c23
                  (try (have c23b1 : decide ((decide (t392 > 0)) = (decide (t388 > t390))) = false := by simpa using c23))
                  (try (have c23b2 : ((decide (t392 > 0)) == (decide (t388 > t390))) = false := by simpa using c23))
                  (try (have c23b3 : ¬ ((decide (t392 > 0)) = (decide (t388 > t390))) := by simpa using c23))
                  clear c23
                  as_aux_lemma =>
                    have H' := Aside0.mk H
                    clear H
                    go_wp2
                    go_meet
                    case rel => exact ⟨_, (true), (by first | rfl | (simp; done) | (simp [*]; done)), H', ⟨by have := HJ9.out; first | omega | exact Nat.le_refl _⟩, ⟨by repeat (first | (with_reducible first | exact HB.out | apply below_alloc | apply pw_below_drewN | apply below_drew1) | exact HB.out)⟩⟩
                · rw [if_neg c23] at H
                  have c23b0 : ((decide (t392 > 0)) != (decide (t388 > t390))) = false := by simpa using c23
                  (try (have c23b1 : decide ((decide (t392 > 0)) = (decide (t388 > t390))) = true := by simpa using c23))
                  (try (have c23b2 : ((decide (t392 > 0)) == (decide (t388 > t390))) = true := by simpa using c23))
                  clear c23
                  as_aux_lemma =>
                    have H' := Aside0.mk H
                    clear H
                    go_wp2
                    go_meet
                    case rel => exact ⟨_, (false), (by first | rfl | (simp; done) | (simp [*]; done)), H', ⟨by have := HJ9.out; first | omega | exact Nat.le_refl _⟩, ⟨by repeat (first | (with_reducible first | exact HB.out | apply below_alloc | apply pw_below_drewN | apply below_drew1) | exact HB.out)⟩⟩
            · replace c21 := Bool.eq_false_iff.mpr c21
              subst c21
              have H1 : (abacuslaw04_IeeeOrder.j1 kj9 a0 a1 a2 t391 t392 false (t392 != 0)) = some r := by rw [if_neg (show ¬ (false = true) by decide)] at H; exact H
              clear H
              have H := H1
              clear H1
              as_aux_lemma =>
                have H' := Aside0.mk H
                clear H
                go_wp2
                go_meet
                case rel => exact ⟨_, ((t392 != 0)), (by first | rfl | (simp; done) | (simp [*]; done)), H', ⟨by have := HJ9.out; first | omega | exact Nat.le_refl _⟩, ⟨by repeat (first | (with_reducible first | exact HB.out | apply below_alloc | apply pw_below_drewN | apply below_drew1) | exact HB.out)⟩⟩
          case rest =>
            clear HC20
            try clear c1
            try clear c2
            try clear p2
            try clear c5
            try clear c6
            try clear p6
            try clear c12
            try clear c12b0
            try clear c12b1
            try clear c12b2
            try clear c13
            try clear c13b0
            try clear c13b1
            try clear c13b2
            try clear c14
            try clear c15
            try clear c15b0
            try clear c15b1
            try clear c15b2
            try clear c16
            try clear c16b0
            try clear c16b1
            try clear c16b2
            try clear c17
            try clear c17b0
            try clear c17b1
            try clear c17b2
            try clear c18
            try clear c18b0
            try clear c18b1
            try clear c18b2
            try clear c19
            try clear c21
            try clear c22
            try clear c22b0
            try clear c22b1
            try clear c22b2
            try clear c23
            try clear c23b0
            try clear c23b1
            try clear c23b2
            try clear p2
            try clear p6
            obtain ⟨kq, x100_19, rfl, HA, HJ19, HB⟩ := hcut
            cases kq with
            | zero => exact absurd HA.out (by simp [abacuslaw04_IeeeOrder.j1])
            | succ kj19 =>
              have H := HA.out
              clear HA
              simp only [abacuslaw04_IeeeOrder.j1] at H
              by_cases c24 : x100_19 = true
              · subst c24
                have H1 : (some false) = some r := by rw [if_pos rfl] at H; exact H
                clear H
                have H := H1
                clear H1
                as_aux_lemma =>
                  obtain rfl := Option.some.inj H
                  go_wp2
                  go_ret
                  exact ⟨by first | rfl | (simp [errW_none, errW_some] <;> rfl) | (simp [*, errW_none, errW_some] <;> rfl), by repeat (first | (with_reducible first | exact HB.out | apply below_alloc | apply pw_below_drewN | apply below_drew1) | exact HB.out)⟩
              · replace c24 := Bool.eq_false_iff.mpr c24
                subst c24
                have H1 : ((ieee_Total.f a0 a1).bind fun t396 => ((ieee_Total.f a1 a2).bind fun t397 => ((ieee_Total.f a0 a2).bind fun t398 => (if t396 < (-1) then (abacuslaw04_IeeeOrder.j2 kj19 a0 t391 t396 t397 t398 true) else (if t396 > 1 then (abacuslaw04_IeeeOrder.j2 kj19 a0 t391 t396 t397 t398 true) else ((ieee_Total.f a1 a0).bind fun t399 => (if t396 = (wrap64 (-t399)) then (if ((t396 == 0) != (a0 == a1)) = true then (abacuslaw04_IeeeOrder.j2 kj19 a0 t391 t396 t397 t398 true) else (if t393 = true then (if t392 = 0 then (abacuslaw04_IeeeOrder.j2 kj19 a0 t391 t396 t397 t398 false) else (abacuslaw04_IeeeOrder.j2 kj19 a0 t391 t396 t397 t398 (t396 != t392))) else (abacuslaw04_IeeeOrder.j2 kj19 a0 t391 t396 t397 t398 false))) else (abacuslaw04_IeeeOrder.j2 kj19 a0 t391 t396 t397 t398 true)))))))) = some r := by rw [if_neg (show ¬ (false = true) by decide)] at H; exact H
                clear H
                have H := H1
                clear H1
                replace H := Option.bind_eq_some_iff.mp H
                obtain ⟨t396, A250, H⟩ := H
                replace H : ((ieee_Total.f a1 a2).bind fun t397 => ((ieee_Total.f a0 a2).bind fun t398 => (if t396 < (-1) then (abacuslaw04_IeeeOrder.j2 kj19 a0 t391 t396 t397 t398 true) else (if t396 > 1 then (abacuslaw04_IeeeOrder.j2 kj19 a0 t391 t396 t397 t398 true) else ((ieee_Total.f a1 a0).bind fun t399 => (if t396 = (wrap64 (-t399)) then (if ((t396 == 0) != (a0 == a1)) = true then (abacuslaw04_IeeeOrder.j2 kj19 a0 t391 t396 t397 t398 true) else (if t393 = true then (if t392 = 0 then (abacuslaw04_IeeeOrder.j2 kj19 a0 t391 t396 t397 t398 false) else (abacuslaw04_IeeeOrder.j2 kj19 a0 t391 t396 t397 t398 (t396 != t392))) else (abacuslaw04_IeeeOrder.j2 kj19 a0 t391 t396 t397 t398 false))) else (abacuslaw04_IeeeOrder.j2 kj19 a0 t391 t396 t397 t398 true))))))) = some r := H
                have A25 := Aside0.mk A250
                clear A250
                replace H := Option.bind_eq_some_iff.mp H
                obtain ⟨t397, A260, H⟩ := H
                replace H : ((ieee_Total.f a0 a2).bind fun t398 => (if t396 < (-1) then (abacuslaw04_IeeeOrder.j2 kj19 a0 t391 t396 t397 t398 true) else (if t396 > 1 then (abacuslaw04_IeeeOrder.j2 kj19 a0 t391 t396 t397 t398 true) else ((ieee_Total.f a1 a0).bind fun t399 => (if t396 = (wrap64 (-t399)) then (if ((t396 == 0) != (a0 == a1)) = true then (abacuslaw04_IeeeOrder.j2 kj19 a0 t391 t396 t397 t398 true) else (if t393 = true then (if t392 = 0 then (abacuslaw04_IeeeOrder.j2 kj19 a0 t391 t396 t397 t398 false) else (abacuslaw04_IeeeOrder.j2 kj19 a0 t391 t396 t397 t398 (t396 != t392))) else (abacuslaw04_IeeeOrder.j2 kj19 a0 t391 t396 t397 t398 false))) else (abacuslaw04_IeeeOrder.j2 kj19 a0 t391 t396 t397 t398 true)))))) = some r := H
                have A26 := Aside0.mk A260
                clear A260
                replace H := Option.bind_eq_some_iff.mp H
                obtain ⟨t398, A270, H⟩ := H
                replace H : (if t396 < (-1) then (abacuslaw04_IeeeOrder.j2 kj19 a0 t391 t396 t397 t398 true) else (if t396 > 1 then (abacuslaw04_IeeeOrder.j2 kj19 a0 t391 t396 t397 t398 true) else ((ieee_Total.f a1 a0).bind fun t399 => (if t396 = (wrap64 (-t399)) then (if ((t396 == 0) != (a0 == a1)) = true then (abacuslaw04_IeeeOrder.j2 kj19 a0 t391 t396 t397 t398 true) else (if t393 = true then (if t392 = 0 then (abacuslaw04_IeeeOrder.j2 kj19 a0 t391 t396 t397 t398 false) else (abacuslaw04_IeeeOrder.j2 kj19 a0 t391 t396 t397 t398 (t396 != t392))) else (abacuslaw04_IeeeOrder.j2 kj19 a0 t391 t396 t397 t398 false))) else (abacuslaw04_IeeeOrder.j2 kj19 a0 t391 t396 t397 t398 true))))) = some r := H
                have A27 := Aside0.mk A270
                clear A270
                have HC28 := Aside0.mk H
                clear H
                go_upto_region 14 with (first | ((with_reducible refine gate_callee (f := 27) rfl ?_); refine goesL_ (some 103) rfl rfl Tryd.func27 (by kernel_rfl) rfl #[.int .u64 a0, .int .u64 a1] rfl (by (try simp only [List.map_toArray, List.map_cons, List.map_nil]); first | done | rfl | (simp only [List.length_drop, List.length_take]; rfl) | (simp only [gt_iff_lt, Int.natCast_pos]; done) | (simp only [gt_iff_lt, Int.natCast_pos]; rfl)) ?_; (with_reducible refine (ieee_Total.calls a0 a1 t396 _ A25.out).mono ?_); rintro e w' ⟨rfl, ⟨nd, rfl⟩⟩; refine ⟨_, rfl, ?_⟩) | ((with_reducible refine gate_callee (f := 27) rfl ?_); refine goesL_ (some 106) rfl rfl Tryd.func27 (by kernel_rfl) rfl #[.int .u64 a1, .int .u64 a2] rfl (by (try simp only [List.map_toArray, List.map_cons, List.map_nil]); first | done | rfl | (simp only [List.length_drop, List.length_take]; rfl) | (simp only [gt_iff_lt, Int.natCast_pos]; done) | (simp only [gt_iff_lt, Int.natCast_pos]; rfl)) ?_; (with_reducible refine (ieee_Total.calls a1 a2 t397 _ A26.out).mono ?_); rintro e w' ⟨rfl, ⟨nd, rfl⟩⟩; refine ⟨_, rfl, ?_⟩) | ((with_reducible refine gate_callee (f := 27) rfl ?_); refine goesL_ (some 109) rfl rfl Tryd.func27 (by kernel_rfl) rfl #[.int .u64 a0, .int .u64 a2] rfl (by (try simp only [List.map_toArray, List.map_cons, List.map_nil]); first | done | rfl | (simp only [List.length_drop, List.length_take]; rfl) | (simp only [gt_iff_lt, Int.natCast_pos]; done) | (simp only [gt_iff_lt, Int.natCast_pos]; rfl)) ?_; (with_reducible refine (ieee_Total.calls a0 a2 t398 _ A27.out).mono ?_); rintro e w' ⟨rfl, ⟨nd, rfl⟩⟩; refine ⟨_, rfl, ?_⟩))
                (try simp only [Act.put, List.setIfInBounds_toArray, List.set_cons_zero, List.set_cons_succ])
                go_cut [143] (fun v143 wc => ∃ (kq : Nat) (x143_27 : Bool), v143 = .bool x143_27 ∧ Aside0 (abacuslaw04_IeeeOrder.j2 kq a0 t391 t396 t397 t398 x143_27 = some r) ∧ Aside0 (kq ≤ kj19) ∧ Aside0 (Below w.heap.size w wc))
                case first =>
                  have H := HC28.out
                  clear HC28
                  by_cases c29 : t396 < (-1)
                  · rw [if_pos c29] at H
                    have c29b0 : decide (t396 < (-1)) = true := decide_eq_true c29
                    clear c29
                    (first | rw [c29b0] | (simp only [i64_w, i32_w]; rw [c29b0]) | rw [c29b1] | skip)
                    as_aux_lemma =>
                      have H' := Aside0.mk H
                      clear H
                      go_wp2
                      go_meet
                      case rel => exact ⟨_, (true), (by first | rfl | (simp; done) | (simp [*]; done)), H', ⟨by have := HJ9.out; have := HJ19.out; first | omega | exact Nat.le_refl _⟩, ⟨by repeat (first | (with_reducible first | exact HB.out | apply below_alloc | apply pw_below_drewN | apply below_drew1) | exact HB.out)⟩⟩
                  · rw [if_neg c29] at H
                    have c29b0 : decide (t396 < (-1)) = false := decide_eq_false c29
                    clear c29
                    (first | rw [c29b0] | (simp only [i64_w, i32_w]; rw [c29b0]) | rw [c29b1] | skip)
                    by_cases c30 : t396 > 1
                    · rw [if_pos c30] at H
                      have c30b0 : decide (1 < t396) = true := decide_eq_true c30
                      clear c30
                      as_aux_lemma =>
                        have H' := Aside0.mk H
                        clear H
                        go_wp2
                        go_meet
                        case rel => exact ⟨_, (true), (by first | rfl | (simp; done) | (simp [*]; done)), H', ⟨by have := HJ9.out; have := HJ19.out; first | omega | exact Nat.le_refl _⟩, ⟨by repeat (first | (with_reducible first | exact HB.out | apply below_alloc | apply pw_below_drewN | apply below_drew1) | exact HB.out)⟩⟩
                    · rw [if_neg c30] at H
                      have c30b0 : decide (1 < t396) = false := decide_eq_false c30
                      clear c30
                      replace H := Option.bind_eq_some_iff.mp H
                      obtain ⟨t399, A310, H⟩ := H
                      replace H : (if t396 = (wrap64 (-t399)) then (if ((t396 == 0) != (a0 == a1)) = true then (abacuslaw04_IeeeOrder.j2 kj19 a0 t391 t396 t397 t398 true) else (if t393 = true then (if t392 = 0 then (abacuslaw04_IeeeOrder.j2 kj19 a0 t391 t396 t397 t398 false) else (abacuslaw04_IeeeOrder.j2 kj19 a0 t391 t396 t397 t398 (t396 != t392))) else (abacuslaw04_IeeeOrder.j2 kj19 a0 t391 t396 t397 t398 false))) else (abacuslaw04_IeeeOrder.j2 kj19 a0 t391 t396 t397 t398 true)) = some r := H
                      have A31 := Aside0.mk A310
                      clear A310
                      by_cases c32 : t396 = (wrap64 (-t399))
                      · rw [if_pos c32] at H
                        have c32b0 : (t396 == (wrap64 (-t399))) = true := beq_iff_eq.mpr c32
                        have c32b1 : (t396 != (wrap64 (-t399))) = false := bne_eq_false_iff_eq.mpr c32
                        clear c32
                        by_cases c33 : ((t396 == 0) != (a0 == a1)) = true
                        · rw [if_pos c33] at H
                          have c33b0 : ((t396 == 0) != (a0 == a1)) = true := c33
                          (try (have c33b1 : decide ((t396 == 0) = (a0 == a1)) = false := by simpa using c33))
                          (try (have c33b2 : ((t396 == 0) == (a0 == a1)) = false := by simpa using c33))
                          (try (have c33b3 : ¬ ((t396 == 0) = (a0 == a1)) := by simpa using c33))
                          clear c33
                          as_aux_lemma =>
                            have H' := Aside0.mk H
                            clear H
                            go_wp2_with (first | (go_at_call 27; (with_reducible refine (ieee_Total.calls a1 a0 t399 _ A31.out).mono ?_); rintro e w' ⟨rfl, ⟨nd, rfl⟩⟩))
                            go_meet
                            case rel => exact ⟨_, (true), (by first | rfl | (simp; done) | (simp [*]; done)), H', ⟨by have := HJ9.out; have := HJ19.out; first | omega | exact Nat.le_refl _⟩, ⟨by repeat (first | (with_reducible first | exact HB.out | apply below_alloc | apply pw_below_drewN | apply below_drew1) | exact HB.out)⟩⟩
                        · rw [if_neg c33] at H
                          have c33b0 : ((t396 == 0) != (a0 == a1)) = false := by simpa using c33
                          (try (have c33b1 : decide ((t396 == 0) = (a0 == a1)) = true := by simpa using c33))
                          (try (have c33b2 : ((t396 == 0) == (a0 == a1)) = true := by simpa using c33))
                          clear c33
                          by_cases c34 : t393 = true
                          · subst c34
                            have H1 : (if t392 = 0 then (abacuslaw04_IeeeOrder.j2 kj19 a0 t391 t396 t397 t398 false) else (abacuslaw04_IeeeOrder.j2 kj19 a0 t391 t396 t397 t398 (t396 != t392))) = some r := by rw [if_pos rfl] at H; exact H
                            clear H
                            have H := H1
                            clear H1
                            by_cases c35 : t392 = 0
                            · rw [if_pos c35] at H
                              have c35b0 : (t392 == 0) = true := beq_iff_eq.mpr c35
                              have c35b1 : (t392 != 0) = false := bne_eq_false_iff_eq.mpr c35
                              clear c35
                              as_aux_lemma =>
                                have H' := Aside0.mk H
                                clear H
                                go_wp2_with (first | (go_at_call 27; (with_reducible refine (ieee_Total.calls a1 a0 t399 _ A31.out).mono ?_); rintro e w' ⟨rfl, ⟨nd, rfl⟩⟩))
                                go_meet
                                case rel => exact ⟨_, (false), (by first | rfl | (simp; done) | (simp [*]; done)), H', ⟨by have := HJ9.out; have := HJ19.out; first | omega | exact Nat.le_refl _⟩, ⟨by repeat (first | (with_reducible first | exact HB.out | apply below_alloc | apply pw_below_drewN | apply below_drew1) | exact HB.out)⟩⟩
                            · rw [if_neg c35] at H
                              have c35b0 : (t392 == 0) = false := beq_eq_false_iff_ne.mpr c35
                              have c35b1 : (t392 != 0) = true := bne_iff_ne.mpr c35
                              as_aux_lemma =>
                                have H' := Aside0.mk H
                                clear H
                                go_wp2_with (first | (go_at_call 27; (with_reducible refine (ieee_Total.calls a1 a0 t399 _ A31.out).mono ?_); rintro e w' ⟨rfl, ⟨nd, rfl⟩⟩))
                                go_meet
                                case rel => exact ⟨_, ((t396 != t392)), (by first | rfl | (simp; done) | (simp [*]; done)), H', ⟨by have := HJ9.out; have := HJ19.out; first | omega | exact Nat.le_refl _⟩, ⟨by repeat (first | (with_reducible first | exact HB.out | apply below_alloc | apply pw_below_drewN | apply below_drew1) | exact HB.out)⟩⟩
                          · replace c34 := Bool.eq_false_iff.mpr c34
                            subst c34
                            have H1 : (abacuslaw04_IeeeOrder.j2 kj19 a0 t391 t396 t397 t398 false) = some r := by rw [if_neg (show ¬ (false = true) by decide)] at H; exact H
                            clear H
                            have H := H1
                            clear H1
                            as_aux_lemma =>
                              have H' := Aside0.mk H
                              clear H
                              go_wp2_with (first | (go_at_call 27; (with_reducible refine (ieee_Total.calls a1 a0 t399 _ A31.out).mono ?_); rintro e w' ⟨rfl, ⟨nd, rfl⟩⟩))
                              go_meet
                              case rel => exact ⟨_, (false), (by first | rfl | (simp; done) | (simp [*]; done)), H', ⟨by have := HJ9.out; have := HJ19.out; first | omega | exact Nat.le_refl _⟩, ⟨by repeat (first | (with_reducible first | exact HB.out | apply below_alloc | apply pw_below_drewN | apply below_drew1) | exact HB.out)⟩⟩
                      · rw [if_neg c32] at H
                        have c32b0 : (t396 == (wrap64 (-t399))) = false := beq_eq_false_iff_ne.mpr c32
                        have c32b1 : (t396 != (wrap64 (-t399))) = true := bne_iff_ne.mpr c32
                        as_aux_lemma =>
                          have H' := Aside0.mk H
                          clear H
                          go_wp2_with (first | (go_at_call 27; (with_reducible refine (ieee_Total.calls a1 a0 t399 _ A31.out).mono ?_); rintro e w' ⟨rfl, ⟨nd, rfl⟩⟩))
                          go_meet
                          case rel => exact ⟨_, (true), (by first | rfl | (simp; done) | (simp [*]; done)), H', ⟨by have := HJ9.out; have := HJ19.out; first | omega | exact Nat.le_refl _⟩, ⟨by repeat (first | (with_reducible first | exact HB.out | apply below_alloc | apply pw_below_drewN | apply below_drew1) | exact HB.out)⟩⟩
                case rest =>
                  clear HC28
                  try clear c1
                  try clear c2
                  try clear p2
                  try clear c3
                  try clear c5
                  try clear c6
                  try clear p6
                  try clear c12
                  try clear c12b0
                  try clear c12b1
                  try clear c12b2
                  try clear c13
                  try clear c13b0
                  try clear c13b1
                  try clear c13b2
                  try clear c14
                  try clear c15
                  try clear c15b0
                  try clear c15b1
                  try clear c15b2
                  try clear c16
                  try clear c16b0
                  try clear c16b1
                  try clear c16b2
                  try clear c17
                  try clear c17b0
                  try clear c17b1
                  try clear c17b2
                  try clear c18
                  try clear c18b0
                  try clear c18b1
                  try clear c18b2
                  try clear c19
                  try clear c21
                  try clear c22
                  try clear c22b0
                  try clear c22b1
                  try clear c22b2
                  try clear c23
                  try clear c23b0
                  try clear c23b1
                  try clear c23b2
                  try clear c24
                  try clear c26
                  try clear c27
                  try clear c29
                  try clear c29b0
                  try clear c29b1
                  try clear c30
                  try clear c30b0
                  try clear c32
                  try clear c32b0
                  try clear c32b1
                  try clear c33
                  try clear c33b0
                  try clear c33b1
                  try clear c33b2
                  try clear c34
                  try clear c35
                  try clear c35b0
                  try clear c35b1
                  try clear p2
                  try clear p6
                  obtain ⟨kq, x143_27, rfl, HA, HJ27, HB⟩ := hcut
                  cases kq with
                  | zero => exact absurd HA.out (by simp [abacuslaw04_IeeeOrder.j2])
                  | succ kj27 =>
                    have H := HA.out
                    clear HA
                    simp only [abacuslaw04_IeeeOrder.j2] at H
                    by_cases c36 : x143_27 = true
                    · subst c36
                      have H1 : (some false) = some r := by rw [if_pos rfl] at H; exact H
                      clear H
                      have H := H1
                      clear H1
                      as_aux_lemma =>
                        obtain rfl := Option.some.inj H
                        go_wp2
                        go_ret
                        exact ⟨by first | rfl | (simp [errW_none, errW_some] <;> rfl) | (simp [*, errW_none, errW_some] <;> rfl), by repeat (first | (with_reducible first | exact HB.out | apply below_alloc | apply pw_below_drewN | apply below_drew1) | exact HB.out)⟩
                    · replace c36 := Bool.eq_false_iff.mpr c36
                      subst c36
                      have H1 : (if t396 ≤ 0 then (if t397 ≤ 0 then (if t398 > 0 then (abacuslaw04_IeeeOrder.j3 kj27 a0 t391 t396 true) else (if t396 ≥ 0 then (if t397 ≥ 0 then (abacuslaw04_IeeeOrder.j3 kj27 a0 t391 t396 (decide (t398 < 0))) else (abacuslaw04_IeeeOrder.j3 kj27 a0 t391 t396 false)) else (abacuslaw04_IeeeOrder.j3 kj27 a0 t391 t396 false))) else (if t396 ≥ 0 then (if t397 ≥ 0 then (abacuslaw04_IeeeOrder.j3 kj27 a0 t391 t396 (decide (t398 < 0))) else (abacuslaw04_IeeeOrder.j3 kj27 a0 t391 t396 false)) else (abacuslaw04_IeeeOrder.j3 kj27 a0 t391 t396 false))) else (if t396 ≥ 0 then (if t397 ≥ 0 then (abacuslaw04_IeeeOrder.j3 kj27 a0 t391 t396 (decide (t398 < 0))) else (abacuslaw04_IeeeOrder.j3 kj27 a0 t391 t396 false)) else (abacuslaw04_IeeeOrder.j3 kj27 a0 t391 t396 false))) = some r := by rw [if_neg (show ¬ (false = true) by decide)] at H; exact H
                      clear H
                      have H := H1
                      clear H1
                      have HC37 := Aside0.mk H
                      clear H
                      go_upto_region 16 with (fail)
                      go_cut [165] (fun v165 wc => ∃ (kq : Nat) (x165_36 : Bool), v165 = .bool x165_36 ∧ Aside0 (abacuslaw04_IeeeOrder.j3 kq a0 t391 t396 x165_36 = some r) ∧ Aside0 (kq ≤ kj27) ∧ Aside0 (Below w.heap.size w wc))
                      case first =>
                        have H := HC37.out
                        clear HC37
                        by_cases c38 : t396 ≤ 0
                        · rw [if_pos c38] at H
                          have c38b0 : decide (t396 ≤ 0) = true := decide_eq_true c38
                          clear c38
                          (first | rw [c38b0] | (simp only [i64_w, i32_w]; rw [c38b0]) | rw [c38b1] | skip)
                          by_cases c39 : t397 ≤ 0
                          · rw [if_pos c39] at H
                            have c39b0 : decide (t397 ≤ 0) = true := decide_eq_true c39
                            clear c39
                            by_cases c40 : t398 > 0
                            · rw [if_pos c40] at H
                              have c40b0 : decide (0 < t398) = true := decide_eq_true c40
                              clear c40
                              as_aux_lemma =>
                                have H' := Aside0.mk H
                                clear H
                                go_wp2
                                go_meet
                                case rel => exact ⟨_, (true), (by first | rfl | (simp; done) | (simp [*]; done)), H', ⟨by have := HJ9.out; have := HJ19.out; have := HJ27.out; first | omega | exact Nat.le_refl _⟩, ⟨by repeat (first | (with_reducible first | exact HB.out | apply below_alloc | apply pw_below_drewN | apply below_drew1) | exact HB.out)⟩⟩
                            · rw [if_neg c40] at H
                              have c40b0 : decide (0 < t398) = false := decide_eq_false c40
                              clear c40
                              by_cases c41 : t396 ≥ 0
                              · rw [if_pos c41] at H
                                have c41b0 : decide (0 ≤ t396) = true := decide_eq_true c41
                                clear c41
                                by_cases c42 : t397 ≥ 0
                                · rw [if_pos c42] at H
                                  have c42b0 : decide (0 ≤ t397) = true := decide_eq_true c42
                                  clear c42
                                  as_aux_lemma =>
                                    have H' := Aside0.mk H
                                    clear H
                                    go_wp2
                                    go_meet
                                    case rel => exact ⟨_, (decide (t398 < 0)), (by first | rfl | (simp; done) | (simp [*]; done)), H', ⟨by have := HJ9.out; have := HJ19.out; have := HJ27.out; first | omega | exact Nat.le_refl _⟩, ⟨by repeat (first | (with_reducible first | exact HB.out | apply below_alloc | apply pw_below_drewN | apply below_drew1) | exact HB.out)⟩⟩
                                · rw [if_neg c42] at H
                                  have c42b0 : decide (0 ≤ t397) = false := decide_eq_false c42
                                  clear c42
                                  as_aux_lemma =>
                                    have H' := Aside0.mk H
                                    clear H
                                    go_wp2
                                    go_meet
                                    case rel => exact ⟨_, (false), (by first | rfl | (simp; done) | (simp [*]; done)), H', ⟨by have := HJ9.out; have := HJ19.out; have := HJ27.out; first | omega | exact Nat.le_refl _⟩, ⟨by repeat (first | (with_reducible first | exact HB.out | apply below_alloc | apply pw_below_drewN | apply below_drew1) | exact HB.out)⟩⟩
                              · rw [if_neg c41] at H
                                have c41b0 : decide (0 ≤ t396) = false := decide_eq_false c41
                                clear c41
                                as_aux_lemma =>
                                  have H' := Aside0.mk H
                                  clear H
                                  go_wp2
                                  go_meet
                                  case rel => exact ⟨_, (false), (by first | rfl | (simp; done) | (simp [*]; done)), H', ⟨by have := HJ9.out; have := HJ19.out; have := HJ27.out; first | omega | exact Nat.le_refl _⟩, ⟨by repeat (first | (with_reducible first | exact HB.out | apply below_alloc | apply pw_below_drewN | apply below_drew1) | exact HB.out)⟩⟩
                          · rw [if_neg c39] at H
                            have c39b0 : decide (t397 ≤ 0) = false := decide_eq_false c39
                            clear c39
                            by_cases c43 : t396 ≥ 0
                            · rw [if_pos c43] at H
                              have c43b0 : decide (0 ≤ t396) = true := decide_eq_true c43
                              clear c43
                              by_cases c44 : t397 ≥ 0
                              · rw [if_pos c44] at H
                                have c44b0 : decide (0 ≤ t397) = true := decide_eq_true c44
                                clear c44
                                as_aux_lemma =>
                                  have H' := Aside0.mk H
                                  clear H
                                  go_wp2
                                  go_meet
                                  case rel => exact ⟨_, (decide (t398 < 0)), (by first | rfl | (simp; done) | (simp [*]; done)), H', ⟨by have := HJ9.out; have := HJ19.out; have := HJ27.out; first | omega | exact Nat.le_refl _⟩, ⟨by repeat (first | (with_reducible first | exact HB.out | apply below_alloc | apply pw_below_drewN | apply below_drew1) | exact HB.out)⟩⟩
                              · rw [if_neg c44] at H
                                have c44b0 : decide (0 ≤ t397) = false := decide_eq_false c44
                                clear c44
                                as_aux_lemma =>
                                  have H' := Aside0.mk H
                                  clear H
                                  go_wp2
                                  go_meet
                                  case rel => exact ⟨_, (false), (by first | rfl | (simp; done) | (simp [*]; done)), H', ⟨by have := HJ9.out; have := HJ19.out; have := HJ27.out; first | omega | exact Nat.le_refl _⟩, ⟨by repeat (first | (with_reducible first | exact HB.out | apply below_alloc | apply pw_below_drewN | apply below_drew1) | exact HB.out)⟩⟩
                            · rw [if_neg c43] at H
                              have c43b0 : decide (0 ≤ t396) = false := decide_eq_false c43
                              clear c43
                              as_aux_lemma =>
                                have H' := Aside0.mk H
                                clear H
                                go_wp2
                                go_meet
                                case rel => exact ⟨_, (false), (by first | rfl | (simp; done) | (simp [*]; done)), H', ⟨by have := HJ9.out; have := HJ19.out; have := HJ27.out; first | omega | exact Nat.le_refl _⟩, ⟨by repeat (first | (with_reducible first | exact HB.out | apply below_alloc | apply pw_below_drewN | apply below_drew1) | exact HB.out)⟩⟩
                        · rw [if_neg c38] at H
                          have c38b0 : decide (t396 ≤ 0) = false := decide_eq_false c38
                          clear c38
                          (first | rw [c38b0] | (simp only [i64_w, i32_w]; rw [c38b0]) | rw [c38b1] | skip)
                          by_cases c45 : t396 ≥ 0
                          · rw [if_pos c45] at H
                            have c45b0 : decide (0 ≤ t396) = true := decide_eq_true c45
                            clear c45
                            by_cases c46 : t397 ≥ 0
                            · rw [if_pos c46] at H
                              have c46b0 : decide (0 ≤ t397) = true := decide_eq_true c46
                              clear c46
                              as_aux_lemma =>
                                have H' := Aside0.mk H
                                clear H
                                go_wp2
                                go_meet
                                case rel => exact ⟨_, (decide (t398 < 0)), (by first | rfl | (simp; done) | (simp [*]; done)), H', ⟨by have := HJ9.out; have := HJ19.out; have := HJ27.out; first | omega | exact Nat.le_refl _⟩, ⟨by repeat (first | (with_reducible first | exact HB.out | apply below_alloc | apply pw_below_drewN | apply below_drew1) | exact HB.out)⟩⟩
                            · rw [if_neg c46] at H
                              have c46b0 : decide (0 ≤ t397) = false := decide_eq_false c46
                              clear c46
                              as_aux_lemma =>
                                have H' := Aside0.mk H
                                clear H
                                go_wp2
                                go_meet
                                case rel => exact ⟨_, (false), (by first | rfl | (simp; done) | (simp [*]; done)), H', ⟨by have := HJ9.out; have := HJ19.out; have := HJ27.out; first | omega | exact Nat.le_refl _⟩, ⟨by repeat (first | (with_reducible first | exact HB.out | apply below_alloc | apply pw_below_drewN | apply below_drew1) | exact HB.out)⟩⟩
                          · rw [if_neg c45] at H
                            have c45b0 : decide (0 ≤ t396) = false := decide_eq_false c45
                            clear c45
                            as_aux_lemma =>
                              have H' := Aside0.mk H
                              clear H
                              go_wp2
                              go_meet
                              case rel => exact ⟨_, (false), (by first | rfl | (simp; done) | (simp [*]; done)), H', ⟨by have := HJ9.out; have := HJ19.out; have := HJ27.out; first | omega | exact Nat.le_refl _⟩, ⟨by repeat (first | (with_reducible first | exact HB.out | apply below_alloc | apply pw_below_drewN | apply below_drew1) | exact HB.out)⟩⟩
                      case rest =>
                        clear HC37
                        try clear c1
                        try clear c2
                        try clear p2
                        try clear c3
                        try clear c4
                        try clear c5
                        try clear c6
                        try clear p6
                        try clear c12
                        try clear c12b0
                        try clear c12b1
                        try clear c12b2
                        try clear c13
                        try clear c13b0
                        try clear c13b1
                        try clear c13b2
                        try clear c14
                        try clear c15
                        try clear c15b0
                        try clear c15b1
                        try clear c15b2
                        try clear c16
                        try clear c16b0
                        try clear c16b1
                        try clear c16b2
                        try clear c17
                        try clear c17b0
                        try clear c17b1
                        try clear c17b2
                        try clear c18
                        try clear c18b0
                        try clear c18b1
                        try clear c18b2
                        try clear c19
                        try clear c21
                        try clear c22
                        try clear c22b0
                        try clear c22b1
                        try clear c22b2
                        try clear c23
                        try clear c23b0
                        try clear c23b1
                        try clear c23b2
                        try clear c24
                        try clear c26
                        try clear c27
                        try clear c29
                        try clear c29b0
                        try clear c29b1
                        try clear c30
                        try clear c30b0
                        try clear c32
                        try clear c32b0
                        try clear c32b1
                        try clear c33
                        try clear c33b0
                        try clear c33b1
                        try clear c33b2
                        try clear c34
                        try clear c35
                        try clear c35b0
                        try clear c35b1
                        try clear c36
                        try clear c38
                        try clear c38b0
                        try clear c38b1
                        try clear c39
                        try clear c39b0
                        try clear c40
                        try clear c40b0
                        try clear c41
                        try clear c41b0
                        try clear c42
                        try clear c42b0
                        try clear c43
                        try clear c43b0
                        try clear c44
                        try clear c44b0
                        try clear c45
                        try clear c45b0
                        try clear c46
                        try clear c46b0
                        try clear p2
                        try clear p6
                        obtain ⟨kq, x165_36, rfl, HA, HJ36, HB⟩ := hcut
                        cases kq with
                        | zero => exact absurd HA.out (by simp [abacuslaw04_IeeeOrder.j3])
                        | succ kj36 =>
                          have H := HA.out
                          clear HA
                          simp only [abacuslaw04_IeeeOrder.j3] at H
                          by_cases c47 : x165_36 = true
                          · subst c47
                            have H1 : (some false) = some r := by rw [if_pos rfl] at H; exact H
                            clear H
                            have H := H1
                            clear H1
                            as_aux_lemma =>
                              obtain rfl := Option.some.inj H
                              go_wp2
                              go_ret
                              exact ⟨by first | rfl | (simp [errW_none, errW_some] <;> rfl) | (simp [*, errW_none, errW_some] <;> rfl), by repeat (first | (with_reducible first | exact HB.out | apply below_alloc | apply pw_below_drewN | apply below_drew1) | exact HB.out)⟩
                          · replace c47 := Bool.eq_false_iff.mpr c47
                            subst c47
                            have H1 : (if (Int.tmod a0 9223372036854775808) > 9218868437227405312 then (if t391 = true then (if ((decide (t396 < 0)) != (decide (a0 ≥ 9223372036854775808))) = true then (some false) else ((ieee_Total.f 9223372036854775808 0).bind fun t400 => (some (t400 == (-1))))) else ((ieee_Total.f 9223372036854775808 0).bind fun t401 => (some (t401 == (-1))))) else ((ieee_Total.f 9223372036854775808 0).bind fun t402 => (some (t402 == (-1))))) = some r := by rw [if_neg (show ¬ (false = true) by decide)] at H; exact H
                            clear H
                            have H := H1
                            clear H1
                            by_cases c48 : (Int.tmod a0 9223372036854775808) > 9218868437227405312
                            · rw [if_pos c48] at H
                              have c48b0 : decide (9218868437227405312 < (Int.tmod a0 9223372036854775808)) = true := decide_eq_true c48
                              clear c48
                              by_cases c49 : t391 = true
                              · subst c49
                                have H1 : (if ((decide (t396 < 0)) != (decide (a0 ≥ 9223372036854775808))) = true then (some false) else ((ieee_Total.f 9223372036854775808 0).bind fun t400 => (some (t400 == (-1))))) = some r := by rw [if_pos rfl] at H; exact H
                                clear H
                                have H := H1
                                clear H1
                                by_cases c50 : ((decide (t396 < 0)) != (decide (a0 ≥ 9223372036854775808))) = true
                                · rw [if_pos c50] at H
                                  have c50b0 : ((decide (t396 < 0)) != (decide (a0 ≥ 9223372036854775808))) = true := c50
                                  (try (have c50b1 : decide ((decide (t396 < 0)) = (decide (a0 ≥ 9223372036854775808))) = false := by simpa using c50))
                                  (try (have c50b2 : ((decide (t396 < 0)) == (decide (a0 ≥ 9223372036854775808))) = false := by simpa using c50))
                                  (try (have c50b3 : ¬ ((decide (t396 < 0)) = (decide (a0 ≥ 9223372036854775808))) := by simpa using c50))
                                  clear c50
                                  as_aux_lemma =>
                                    obtain rfl := Option.some.inj H
                                    go_wp2
                                    go_ret
                                    exact ⟨by first | rfl | (simp [errW_none, errW_some] <;> rfl) | (simp [*, errW_none, errW_some] <;> rfl), by repeat (first | (with_reducible first | exact HB.out | apply below_alloc | apply pw_below_drewN | apply below_drew1) | exact HB.out)⟩
                                · rw [if_neg c50] at H
                                  have c50b0 : ((decide (t396 < 0)) != (decide (a0 ≥ 9223372036854775808))) = false := by simpa using c50
                                  (try (have c50b1 : decide ((decide (t396 < 0)) = (decide (a0 ≥ 9223372036854775808))) = true := by simpa using c50))
                                  (try (have c50b2 : ((decide (t396 < 0)) == (decide (a0 ≥ 9223372036854775808))) = true := by simpa using c50))
                                  clear c50
                                  replace H := Option.bind_eq_some_iff.mp H
                                  obtain ⟨t400, A510, H⟩ := H
                                  replace H : (some (t400 == (-1))) = some r := H
                                  have A51 := Aside0.mk A510
                                  clear A510
                                  as_aux_lemma =>
                                    obtain rfl := Option.some.inj H
                                    go_wp2_with (first | ((with_reducible refine gate_callee (f := 27) rfl ?_); refine goesL_ (some 179) rfl rfl Tryd.func27 (by kernel_rfl) rfl #[.int .u64 9223372036854775808, .int .u64 0] rfl (by (try simp only [List.map_toArray, List.map_cons, List.map_nil]); first | done | rfl | (simp only [List.length_drop, List.length_take]; rfl) | (simp only [gt_iff_lt, Int.natCast_pos]; done) | (simp only [gt_iff_lt, Int.natCast_pos]; rfl)) ?_; (with_reducible refine (ieee_Total.calls 9223372036854775808 0 t400 _ A51.out).mono ?_); rintro e w' ⟨rfl, ⟨nd, rfl⟩⟩; refine ⟨_, rfl, ?_⟩))
                                    go_ret
                                    exact ⟨by first | rfl | (simp [errW_none, errW_some] <;> rfl) | (simp [*, errW_none, errW_some] <;> rfl), by repeat (first | (with_reducible first | exact HB.out | apply below_alloc | apply pw_below_drewN | apply below_drew1) | exact HB.out)⟩
                              · replace c49 := Bool.eq_false_iff.mpr c49
                                subst c49
                                have H1 : ((ieee_Total.f 9223372036854775808 0).bind fun t401 => (some (t401 == (-1)))) = some r := by rw [if_neg (show ¬ (false = true) by decide)] at H; exact H
                                clear H
                                have H := H1
                                clear H1
                                replace H := Option.bind_eq_some_iff.mp H
                                obtain ⟨t401, A520, H⟩ := H
                                replace H : (some (t401 == (-1))) = some r := H
                                have A52 := Aside0.mk A520
                                clear A520
                                as_aux_lemma =>
                                  obtain rfl := Option.some.inj H
                                  go_wp2_with (first | ((with_reducible refine gate_callee (f := 27) rfl ?_); refine goesL_ (some 179) rfl rfl Tryd.func27 (by kernel_rfl) rfl #[.int .u64 9223372036854775808, .int .u64 0] rfl (by (try simp only [List.map_toArray, List.map_cons, List.map_nil]); first | done | rfl | (simp only [List.length_drop, List.length_take]; rfl) | (simp only [gt_iff_lt, Int.natCast_pos]; done) | (simp only [gt_iff_lt, Int.natCast_pos]; rfl)) ?_; (with_reducible refine (ieee_Total.calls 9223372036854775808 0 t401 _ A52.out).mono ?_); rintro e w' ⟨rfl, ⟨nd, rfl⟩⟩; refine ⟨_, rfl, ?_⟩))
                                  go_ret
                                  exact ⟨by first | rfl | (simp [errW_none, errW_some] <;> rfl) | (simp [*, errW_none, errW_some] <;> rfl), by repeat (first | (with_reducible first | exact HB.out | apply below_alloc | apply pw_below_drewN | apply below_drew1) | exact HB.out)⟩
                            · rw [if_neg c48] at H
                              have c48b0 : decide (9218868437227405312 < (Int.tmod a0 9223372036854775808)) = false := decide_eq_false c48
                              clear c48
                              replace H := Option.bind_eq_some_iff.mp H
                              obtain ⟨t402, A530, H⟩ := H
                              replace H : (some (t402 == (-1))) = some r := H
                              have A53 := Aside0.mk A530
                              clear A530
                              as_aux_lemma =>
                                obtain rfl := Option.some.inj H
                                go_wp2_with (first | ((with_reducible refine gate_callee (f := 27) rfl ?_); refine goesL_ (some 179) rfl rfl Tryd.func27 (by kernel_rfl) rfl #[.int .u64 9223372036854775808, .int .u64 0] rfl (by (try simp only [List.map_toArray, List.map_cons, List.map_nil]); first | done | rfl | (simp only [List.length_drop, List.length_take]; rfl) | (simp only [gt_iff_lt, Int.natCast_pos]; done) | (simp only [gt_iff_lt, Int.natCast_pos]; rfl)) ?_; (with_reducible refine (ieee_Total.calls 9223372036854775808 0 t402 _ A53.out).mono ?_); rintro e w' ⟨rfl, ⟨nd, rfl⟩⟩; refine ⟨_, rfl, ?_⟩))
                                go_ret
                                exact ⟨by first | rfl | (simp [errW_none, errW_some] <;> rfl) | (simp [*, errW_none, errW_some] <;> rfl), by repeat (first | (with_reducible first | exact HB.out | apply below_alloc | apply pw_below_drewN | apply below_drew1) | exact HB.out)⟩
  · replace c5 := Bool.eq_false_iff.mpr c5
    subst c5
    have H1 : (some false) = some r := by rw [if_neg (show ¬ (false = true) by decide)] at H; exact H
    clear H
    have H := H1
    clear H1
    as_aux_lemma =>
      obtain rfl := Option.some.inj H
      go_enter Tryd.func6, Tryd.ntmps6
      go_wp2_with (first | ((with_reducible refine gate_callee (f := 12) rfl ?_); refine goesL_ (some 18) rfl rfl Tryd.func12 (by kernel_rfl) rfl #[] rfl (by (try simp only [List.map_toArray, List.map_cons, List.map_nil]); first | done | rfl | (simp only [List.length_drop, List.length_take]; rfl) | (simp only [gt_iff_lt, Int.natCast_pos]; done) | (simp only [gt_iff_lt, Int.natCast_pos]; rfl)) ?_; (with_reducible refine (abacuslaw04_awake.calls k  false _ ?side1 A4.out).mono ?_); (case side1 => repeat (first | exact HT.out | (with_reducible refine Kd.C_alloc ?_ _) | (with_reducible refine Kd.C_drewN ?_ _) | (with_reducible refine Kd.C_drew ?_))); rintro e w54 ⟨rfl, hb⟩; refine ⟨_, rfl, ?_⟩; have n0_ := Aside0.mk (below_step (by repeat (first | (with_reducible first | exact HB.out | apply below_alloc | apply pw_below_drewN | apply below_drew1) | exact HB.out)) hb); clear HB; have HB := n0_; clear n0_; (try clear hb); (try clear hb2); (try clear hk); (try clear hi)))
      go_ret
      exact ⟨by first | rfl | (simp [errW_none, errW_some] <;> rfl) | (simp [*, errW_none, errW_some] <;> rfl), by repeat (first | (with_reducible first | exact HB.out | apply below_alloc | apply pw_below_drewN | apply below_drew1) | exact HB.out)⟩

/-- THE ONE PURE STATEMENT of abacuslaw04_IeeeOrder: yours. -/
def abacuslaw04_IeeeOrder.Pure : Prop := ∀ (a0 : Int) (a1 : Int) (a2 : Int), (Lit.int .u64 a0).wf = true → (Lit.int .u64 a1).wf = true → (Lit.int .u64 a2).wf = true → ∃ k, abacuslaw04_IeeeOrder.f k a0 a1 a2 = some true
theorem abacuslaw04_IeeeOrder.walk (P : abacuslaw04_IeeeOrder.Pure) (a0 : Int) (a1 : Int) (a2 : Int) (w : World) (hT : Kd.C (Kd.int .u8) w (some ⟨0, 0, none⟩) 64 tabL) (w0 : (Lit.int .u64 a0).wf = true) (w1 : (Lit.int .u64 a1).wf = true) (w2 : (Lit.int .u64 a2).wf = true) :
    Calls Tryd.prog 6 #[.int .u64 a0, .int .u64 a1, .int .u64 a2] w fun e w' => e = .returned (.bool true) ∧ Below w.heap.size w w' := by
  obtain ⟨k, h⟩ := P a0 a1 a2 w0 w1 w2
  refine (abacuslaw04_IeeeOrder.calls k a0 a1 a2 true w hT h).mono ?_
  rintro e w' ⟨rfl, hd⟩
  exact ⟨rfl, hd⟩

end Go.Proofs.YtiigfmmflicdpaaDoor.PA
