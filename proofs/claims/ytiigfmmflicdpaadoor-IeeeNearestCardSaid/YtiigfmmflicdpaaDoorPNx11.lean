-- printed by a program
import Derived.Test.YtiigfmmflicdpaaDoorPNx0
import Derived.Test.YtiigfmmflicdpaaDoorPNx1
import Derived.Test.YtiigfmmflicdpaaDoorPNx8
import Derived.Test.YtiigfmmflicdpaaDoorPNx9
import Derived.Test.YtiigfmmflicdpaaDoorPNx10
namespace Go.Proofs.YtiigfmmflicdpaaDoor.PN
open Go.Proofs.YtiigfmmflicdpaaDoorX
open Go.RowKit Go.Proofs.YtiigfmmflicdpaaDoorW.PrintWords Go.Proofs.YtiigfmmflicdpaaDoorW.PrintLast Go.Proofs.YtiigfmmflicdpaaDoorW.PrintMore
attribute [local go_sem] max2_int min2_int max_two min_two max_three min_three max_four min_four   -- for this text's walks alone
set_option linter.unusedVariables false
set_option linter.unusedSimpArgs false

/-! ### abacuslaw04_IeeeNearest: function 7 -/
mutual
noncomputable def abacuslaw04_IeeeNearest.j0 : Nat → Bool → List Int → List Int → Int → Bool → Option (Bool)
  | 0, _, _, _, _, _ => none
  | k + 1, x3, x4, x5, x6, x47 => if x47 = true then (some true) else ((ieee_RoundRatio.f k x3 x4 x5 x6).bind fun bt443 => (if bt443.2 = 0 then (if ((decide (bt443.1 ≥ 9223372036854775808)) != x3) = true then (abacuslaw04_IeeeNearest.j1 k x4 x5 x6 bt443.1 true) else (abacuslaw04_IeeeNearest.j1 k x4 x5 x6 bt443.1 (decide ((Int.tmod bt443.1 9223372036854775808) > 9218868437227405312)))) else (abacuslaw04_IeeeNearest.j1 k x4 x5 x6 bt443.1 true)))
noncomputable def abacuslaw04_IeeeNearest.j1 : Nat → List Int → List Int → Int → Int → Bool → Option (Bool)
  | 0, _, _, _, _, _ => none
  | k + 1, x4, x5, x6, x7, x68 => if x68 = true then (some false) else (if (Int.tmod x7 9223372036854775808) = 9218868437227405312 then ((abacuslaw04_held.f k 18014398509481983 970 x4 x5 x6).bind fun bt445 => (if bt445.2 = true then (some (decide (bt445.1 ≤ 0))) else (some false))) else ((ieee_Decode.f (Int.tmod x7 9223372036854775808)).bind fun bt447 => (if (Int.tmod x7 9223372036854775808) = 0 then (abacuslaw04_IeeeNearest.j2 k x4 x5 x6 (Int.tmod x7 9223372036854775808) ((Int.tmod (Int.tmod x7 9223372036854775808) 2) == 0) 0 (-1075) bt447.1 bt447.2.1 bt447.2.2.1 bt447.2.2.2) else (abacuslaw04_IeeeNearest.j2 k x4 x5 x6 (Int.tmod x7 9223372036854775808) ((Int.tmod (Int.tmod x7 9223372036854775808) 2) == 0) (IntKind.u64.wrap (2 * bt447.2.2.1)) (wrap64 (bt447.2.2.2 - 1)) bt447.1 bt447.2.1 bt447.2.2.1 bt447.2.2.2))))
noncomputable def abacuslaw04_IeeeNearest.j2 : Nat → List Int → List Int → Int → Int → Bool → Int → Int → Bool → Int → Int → Int → Option (Bool)
  | 0, _, _, _, _, _, _, _, _, _, _, _ => none
  | k + 1, x4, x5, x6, x7, x9, x13, x14, x452000, x452001, x452002, x452003 => (abacuslaw04_held.f k (IntKind.u64.wrap (x13 + 1)) x14 x4 x5 x6).bind fun bt452 => (if bt452.2 = true then (if bt452.1 < 0 then (abacuslaw04_IeeeNearest.j3 k x4 x5 x6 x7 x9 x13 x14 true x452000 x452001 x452002 x452003) else (if bt452.1 = 0 then (abacuslaw04_IeeeNearest.j3 k x4 x5 x6 x7 x9 x13 x14 (!x9) x452000 x452001 x452002 x452003) else (abacuslaw04_IeeeNearest.j3 k x4 x5 x6 x7 x9 x13 x14 false x452000 x452001 x452002 x452003))) else (abacuslaw04_IeeeNearest.j3 k x4 x5 x6 x7 x9 x13 x14 true x452000 x452001 x452002 x452003))
noncomputable def abacuslaw04_IeeeNearest.j3 : Nat → List Int → List Int → Int → Int → Bool → Int → Int → Bool → Bool → Int → Int → Int → Option (Bool)
  | 0, _, _, _, _, _, _, _, _, _, _, _, _ => none
  | k + 1, x4, x5, x6, x7, x9, x13, x14, x121, x452000, x452001, x452002, x452003 => if x121 = true then (some false) else (if x7 = 0 then (some true) else (if x452002 = 4503599627370496 then (if x452003 > (-1074) then ((abacuslaw04_held.f k (IntKind.u64.wrap ((IntKind.u64.wrap (2 * x13)) - 1)) (wrap64 (x14 - 1)) x4 x5 x6).bind fun bt454 => (if bt454.2 = true then (if bt454.1 < 0 then (some true) else (if bt454.1 = 0 then (some x9) else (some false))) else (some false))) else ((abacuslaw04_held.f k (IntKind.u64.wrap (x13 - 1)) x14 x4 x5 x6).bind fun bt456 => (if bt456.2 = true then (if bt456.1 < 0 then (some true) else (if bt456.1 = 0 then (some x9) else (some false))) else (some false)))) else ((abacuslaw04_held.f k (IntKind.u64.wrap (x13 - 1)) x14 x4 x5 x6).bind fun bt458 => (if bt458.2 = true then (if bt458.1 < 0 then (some true) else (if bt458.1 = 0 then (some x9) else (some false))) else (some false)))))
end
noncomputable def abacuslaw04_IeeeNearest.f (k : Nat) (a0_0 : Bool) (l0_1 : List Int) (l0_2 : List Int) (l0_3 : List Int) (a0_4 : Int) (a0_5 : Int) : Option (Bool) := (abacuslaw04_awake.f k).bind fun t441 => (if t441 = true then (if (l0_1.length : Int) > 60 then (abacuslaw04_IeeeNearest.j0 k a0_0 l0_1 l0_3 a0_4 true) else (if (l0_3.length : Int) > 60 then (abacuslaw04_IeeeNearest.j0 k a0_0 l0_1 l0_3 a0_4 true) else (if a0_4 > 9000 then (abacuslaw04_IeeeNearest.j0 k a0_0 l0_1 l0_3 a0_4 true) else (if a0_4 < (-9000) then (abacuslaw04_IeeeNearest.j0 k a0_0 l0_1 l0_3 a0_4 true) else ((nat_BitLen.f k l0_3).bind fun t442 => (abacuslaw04_IeeeNearest.j0 k a0_0 l0_1 l0_3 a0_4 (t442 == 0))))))) else (some false))
theorem abacuslaw04_IeeeNearest.mono_l : ∀ k, (∀ y0 y1 y2 y3 y4, LeO (abacuslaw04_IeeeNearest.j0 k y0 y1 y2 y3 y4) (abacuslaw04_IeeeNearest.j0 (k + 1) y0 y1 y2 y3 y4)) ∧ (∀ y0 y1 y2 y3 y4, LeO (abacuslaw04_IeeeNearest.j1 k y0 y1 y2 y3 y4) (abacuslaw04_IeeeNearest.j1 (k + 1) y0 y1 y2 y3 y4)) ∧ (∀ y0 y1 y2 y3 y4 y5 y6 y7 y8 y9 y10, LeO (abacuslaw04_IeeeNearest.j2 k y0 y1 y2 y3 y4 y5 y6 y7 y8 y9 y10) (abacuslaw04_IeeeNearest.j2 (k + 1) y0 y1 y2 y3 y4 y5 y6 y7 y8 y9 y10)) ∧ (∀ y0 y1 y2 y3 y4 y5 y6 y7 y8 y9 y10 y11, LeO (abacuslaw04_IeeeNearest.j3 k y0 y1 y2 y3 y4 y5 y6 y7 y8 y9 y10 y11) (abacuslaw04_IeeeNearest.j3 (k + 1) y0 y1 y2 y3 y4 y5 y6 y7 y8 y9 y10 y11))
  | 0 => ⟨fun _ _ _ _ _ r h => by simp [abacuslaw04_IeeeNearest.j0] at h, fun _ _ _ _ _ r h => by simp [abacuslaw04_IeeeNearest.j1] at h, fun _ _ _ _ _ _ _ _ _ _ _ r h => by simp [abacuslaw04_IeeeNearest.j2] at h, fun _ _ _ _ _ _ _ _ _ _ _ _ r h => by simp [abacuslaw04_IeeeNearest.j3] at h⟩
  | k + 1 => by
    obtain ⟨ih0, ih1, ih2, ih3⟩ := abacuslaw04_IeeeNearest.mono_l k
    refine ⟨?_, ?_, ?_, ?_⟩
    · intro y0 y1 y2 y3 y4
      unfold abacuslaw04_IeeeNearest.j0
      repeat' first
      | (with_reducible exact ih0 _ _ _ _ _)
      | (with_reducible exact ih1 _ _ _ _ _)
      | (with_reducible exact ih2 _ _ _ _ _ _ _ _ _ _ _)
      | (with_reducible exact ih3 _ _ _ _ _ _ _ _ _ _ _ _)
      | (with_reducible exact abacuslaw04_awake.mono _)
      | (with_reducible exact abacuslaw04_held.mono _ _ _ _ _ _)
      | (with_reducible exact ieee_RoundRatio.mono _ _ _ _ _)
      | (with_reducible exact nat_BitLen.mono _ _)
      | (with_reducible exact LeO.refl _)
      | (with_reducible exact LeO.none _)
      | (with_reducible refine LeO.ite ?_ ?_)
      | (with_reducible refine LeO.bind ?_ (fun _ => ?_))
      | exact ih0 _ _ _ _ _
      | exact ih1 _ _ _ _ _
      | exact ih2 _ _ _ _ _ _ _ _ _ _ _
      | exact ih3 _ _ _ _ _ _ _ _ _ _ _ _
      | exact abacuslaw04_awake.mono _
      | exact abacuslaw04_held.mono _ _ _ _ _ _
      | exact ieee_RoundRatio.mono _ _ _ _ _
      | exact nat_BitLen.mono _ _
      | exact LeO.none _
      | refine LeO.ite ?_ ?_
      | refine LeO.bind ?_ (fun _ => ?_)
    · intro y0 y1 y2 y3 y4
      unfold abacuslaw04_IeeeNearest.j1
      repeat' first
      | (with_reducible exact ih0 _ _ _ _ _)
      | (with_reducible exact ih1 _ _ _ _ _)
      | (with_reducible exact ih2 _ _ _ _ _ _ _ _ _ _ _)
      | (with_reducible exact ih3 _ _ _ _ _ _ _ _ _ _ _ _)
      | (with_reducible exact abacuslaw04_awake.mono _)
      | (with_reducible exact abacuslaw04_held.mono _ _ _ _ _ _)
      | (with_reducible exact ieee_RoundRatio.mono _ _ _ _ _)
      | (with_reducible exact nat_BitLen.mono _ _)
      | (with_reducible exact LeO.refl _)
      | (with_reducible exact LeO.none _)
      | (with_reducible refine LeO.ite ?_ ?_)
      | (with_reducible refine LeO.bind ?_ (fun _ => ?_))
      | exact ih0 _ _ _ _ _
      | exact ih1 _ _ _ _ _
      | exact ih2 _ _ _ _ _ _ _ _ _ _ _
      | exact ih3 _ _ _ _ _ _ _ _ _ _ _ _
      | exact abacuslaw04_awake.mono _
      | exact abacuslaw04_held.mono _ _ _ _ _ _
      | exact ieee_RoundRatio.mono _ _ _ _ _
      | exact nat_BitLen.mono _ _
      | exact LeO.none _
      | refine LeO.ite ?_ ?_
      | refine LeO.bind ?_ (fun _ => ?_)
    · intro y0 y1 y2 y3 y4 y5 y6 y7 y8 y9 y10
      unfold abacuslaw04_IeeeNearest.j2
      repeat' first
      | (with_reducible exact ih0 _ _ _ _ _)
      | (with_reducible exact ih1 _ _ _ _ _)
      | (with_reducible exact ih2 _ _ _ _ _ _ _ _ _ _ _)
      | (with_reducible exact ih3 _ _ _ _ _ _ _ _ _ _ _ _)
      | (with_reducible exact abacuslaw04_awake.mono _)
      | (with_reducible exact abacuslaw04_held.mono _ _ _ _ _ _)
      | (with_reducible exact ieee_RoundRatio.mono _ _ _ _ _)
      | (with_reducible exact nat_BitLen.mono _ _)
      | (with_reducible exact LeO.refl _)
      | (with_reducible exact LeO.none _)
      | (with_reducible refine LeO.ite ?_ ?_)
      | (with_reducible refine LeO.bind ?_ (fun _ => ?_))
      | exact ih0 _ _ _ _ _
      | exact ih1 _ _ _ _ _
      | exact ih2 _ _ _ _ _ _ _ _ _ _ _
      | exact ih3 _ _ _ _ _ _ _ _ _ _ _ _
      | exact abacuslaw04_awake.mono _
      | exact abacuslaw04_held.mono _ _ _ _ _ _
      | exact ieee_RoundRatio.mono _ _ _ _ _
      | exact nat_BitLen.mono _ _
      | exact LeO.none _
      | refine LeO.ite ?_ ?_
      | refine LeO.bind ?_ (fun _ => ?_)
    · intro y0 y1 y2 y3 y4 y5 y6 y7 y8 y9 y10 y11
      unfold abacuslaw04_IeeeNearest.j3
      repeat' first
      | (with_reducible exact ih0 _ _ _ _ _)
      | (with_reducible exact ih1 _ _ _ _ _)
      | (with_reducible exact ih2 _ _ _ _ _ _ _ _ _ _ _)
      | (with_reducible exact ih3 _ _ _ _ _ _ _ _ _ _ _ _)
      | (with_reducible exact abacuslaw04_awake.mono _)
      | (with_reducible exact abacuslaw04_held.mono _ _ _ _ _ _)
      | (with_reducible exact ieee_RoundRatio.mono _ _ _ _ _)
      | (with_reducible exact nat_BitLen.mono _ _)
      | (with_reducible exact LeO.refl _)
      | (with_reducible exact LeO.none _)
      | (with_reducible refine LeO.ite ?_ ?_)
      | (with_reducible refine LeO.bind ?_ (fun _ => ?_))
      | exact ih0 _ _ _ _ _
      | exact ih1 _ _ _ _ _
      | exact ih2 _ _ _ _ _ _ _ _ _ _ _
      | exact ih3 _ _ _ _ _ _ _ _ _ _ _ _
      | exact abacuslaw04_awake.mono _
      | exact abacuslaw04_held.mono _ _ _ _ _ _
      | exact ieee_RoundRatio.mono _ _ _ _ _
      | exact nat_BitLen.mono _ _
      | exact LeO.none _
      | refine LeO.ite ?_ ?_
      | refine LeO.bind ?_ (fun _ => ?_)
theorem abacuslaw04_IeeeNearest.mono : ∀ a0 a1 a2 a3 a4 a5 k, LeO (abacuslaw04_IeeeNearest.f k a0 a1 a2 a3 a4 a5) (abacuslaw04_IeeeNearest.f (k + 1) a0 a1 a2 a3 a4 a5) := by
  intro a0 a1 a2 a3 a4 a5 k
  obtain ⟨ih0, ih1, ih2, ih3⟩ := abacuslaw04_IeeeNearest.mono_l k
  unfold abacuslaw04_IeeeNearest.f
  repeat' first
      | (with_reducible exact ih0 _ _ _ _ _)
      | (with_reducible exact ih1 _ _ _ _ _)
      | (with_reducible exact ih2 _ _ _ _ _ _ _ _ _ _ _)
      | (with_reducible exact ih3 _ _ _ _ _ _ _ _ _ _ _ _)
      | (with_reducible exact abacuslaw04_awake.mono _)
      | (with_reducible exact abacuslaw04_held.mono _ _ _ _ _ _)
      | (with_reducible exact ieee_RoundRatio.mono _ _ _ _ _)
      | (with_reducible exact nat_BitLen.mono _ _)
      | (with_reducible exact LeO.refl _)
      | (with_reducible exact LeO.none _)
      | (with_reducible refine LeO.ite ?_ ?_)
      | (with_reducible refine LeO.bind ?_ (fun _ => ?_))
      | exact ih0 _ _ _ _ _
      | exact ih1 _ _ _ _ _
      | exact ih2 _ _ _ _ _ _ _ _ _ _ _
      | exact ih3 _ _ _ _ _ _ _ _ _ _ _ _
      | exact abacuslaw04_awake.mono _
      | exact abacuslaw04_held.mono _ _ _ _ _ _
      | exact ieee_RoundRatio.mono _ _ _ _ _
      | exact nat_BitLen.mono _ _
      | exact LeO.none _
      | refine LeO.ite ?_ ?_
      | refine LeO.bind ?_ (fun _ => ?_)
set_option maxHeartbeats 8000000 in
set_option maxRecDepth 100000 in
theorem abacuslaw04_IeeeNearest.calls (k : Nat) (a0_0 : Bool) (A0_1 : Option Addr) (c0_1 : Nat) (l0_1 : List Int) (A0_2 : Option Addr) (c0_2 : Nat) (l0_2 : List Int) (A0_3 : Option Addr) (c0_3 : Nat) (l0_3 : List Int) (a0_4 : Int) (a0_5 : Int) (r : Bool) (w : World) (hT : Kd.C (Kd.int .u8) w (some ⟨0, 0, none⟩) 64 tabL) (hr0_1 : Kd.C (Kd.int .u64) w A0_1 l0_1.length l0_1) (hc0_1 : l0_1.length ≤ c0_1) (hr0_2 : Kd.C (Kd.int .u64) w A0_2 l0_2.length l0_2) (hc0_2 : l0_2.length ≤ c0_2) (hr0_3 : Kd.C (Kd.int .u64) w A0_3 l0_3.length l0_3) (hc0_3 : l0_3.length ≤ c0_3) (h : abacuslaw04_IeeeNearest.f k a0_0 l0_1 l0_2 l0_3 a0_4 a0_5 = some r) :
    Calls Tryd.prog 7 #[.agg #[.bool a0_0, .slice A0_1 l0_1.length c0_1, .slice A0_2 l0_2.length c0_2, .slice A0_3 l0_3.length c0_3, .int .i64 a0_4, .int .u8 a0_5]] w fun e w' => e = .returned (.bool r) ∧ Below w.heap.size w w' := by
  have hu24 := Tryd.underlying24
  have hu35 := Tryd.underlying35
  have HT := Aside0.mk hT
  clear hT
  have HR0_1 := Aside0.mk hr0_1
  have HC0_1 := Aside0.mk hc0_1
  clear hr0_1 hc0_1
  have HR0_2 := Aside0.mk hr0_2
  have HC0_2 := Aside0.mk hc0_2
  clear hr0_2 hc0_2
  have HR0_3 := Aside0.mk hr0_3
  have HC0_3 := Aside0.mk hc0_3
  clear hr0_3 hc0_3
  have HB := Aside0.mk (Below.refl w.heap.size w)
  have H : ((abacuslaw04_awake.f k).bind fun t441 => (if t441 = true then (if (l0_1.length : Int) > 60 then (abacuslaw04_IeeeNearest.j0 k a0_0 l0_1 l0_3 a0_4 true) else (if (l0_3.length : Int) > 60 then (abacuslaw04_IeeeNearest.j0 k a0_0 l0_1 l0_3 a0_4 true) else (if a0_4 > 9000 then (abacuslaw04_IeeeNearest.j0 k a0_0 l0_1 l0_3 a0_4 true) else (if a0_4 < (-9000) then (abacuslaw04_IeeeNearest.j0 k a0_0 l0_1 l0_3 a0_4 true) else ((nat_BitLen.f k l0_3).bind fun t442 => (abacuslaw04_IeeeNearest.j0 k a0_0 l0_1 l0_3 a0_4 (t442 == 0))))))) else (some false))) = some r := h
  clear h
  replace H := Option.bind_eq_some_iff.mp H
  obtain ⟨t441, A20, H⟩ := H
  replace H : (if t441 = true then (if (l0_1.length : Int) > 60 then (abacuslaw04_IeeeNearest.j0 k a0_0 l0_1 l0_3 a0_4 true) else (if (l0_3.length : Int) > 60 then (abacuslaw04_IeeeNearest.j0 k a0_0 l0_1 l0_3 a0_4 true) else (if a0_4 > 9000 then (abacuslaw04_IeeeNearest.j0 k a0_0 l0_1 l0_3 a0_4 true) else (if a0_4 < (-9000) then (abacuslaw04_IeeeNearest.j0 k a0_0 l0_1 l0_3 a0_4 true) else ((nat_BitLen.f k l0_3).bind fun t442 => (abacuslaw04_IeeeNearest.j0 k a0_0 l0_1 l0_3 a0_4 (t442 == 0))))))) else (some false)) = some r := H
  have A2 := Aside0.mk A20
  clear A20
  by_cases c3 : t441 = true
  · subst c3
    have H1 : (if (l0_1.length : Int) > 60 then (abacuslaw04_IeeeNearest.j0 k a0_0 l0_1 l0_3 a0_4 true) else (if (l0_3.length : Int) > 60 then (abacuslaw04_IeeeNearest.j0 k a0_0 l0_1 l0_3 a0_4 true) else (if a0_4 > 9000 then (abacuslaw04_IeeeNearest.j0 k a0_0 l0_1 l0_3 a0_4 true) else (if a0_4 < (-9000) then (abacuslaw04_IeeeNearest.j0 k a0_0 l0_1 l0_3 a0_4 true) else ((nat_BitLen.f k l0_3).bind fun t442 => (abacuslaw04_IeeeNearest.j0 k a0_0 l0_1 l0_3 a0_4 (t442 == 0))))))) = some r := by rw [if_pos rfl] at H; exact H
    clear H
    have H := H1
    clear H1
    have HC4 := Aside0.mk H
    clear H
    go_enter Tryd.func7, Tryd.ntmps7
    go_upto_region 7 with (first | ((with_reducible refine gate_dst (N := 1) rfl ?_); (try (refine gate_guard (by rfl) ?_; dsimp only)); refine box_event ?hg (N := 1) ?hd (cs := #[.bool a0_0, .slice A0_1 l0_1.length c0_1, .slice A0_2 l0_2.length c0_2, .slice A0_3 l0_3.length c0_3, .int .i64 a0_4, .int .u8 a0_5]) (t := 24) ?hr ?_; (case hd => rfl); (case hg => rfl); (case hr => first | (go_simp; done) | (go_simp; rfl)); intro gb440 hg w5 hbox hb; have n0_ := Aside0.mk (below_step (by repeat (first | (with_reducible first | exact HB.out | apply below_alloc | apply pw_below_drewN | apply below_drew1) | exact HB.out)) hb); have n1_ := Aside0.mk (hbox); have n2_ := Aside0.mk ((by rw [hg]; exact (below_size (by repeat (first | (with_reducible first | exact HB.out | apply below_alloc | apply pw_below_drewN | apply below_drew1) | exact HB.out))) : w.heap.size ≤ gb440)); have n3_ := Aside0.mk ((by rw [hg]; exact (below_size (by repeat (first | (with_reducible first | exact HB.out | apply below_alloc | apply pw_below_drewN | apply below_drew1) | exact HB.out))) : w.heap.size ≤ gb440)); clear HB; have HB := n0_; have BK440 := n1_; have GW440 := n2_; have GE440 := n3_; clear n0_ n1_ n2_ n3_; clear hb hbox hg) | ((with_reducible refine gate_callee (f := 12) rfl ?_); refine goesL_ (some 17) rfl rfl Tryd.func12 (by kernel_rfl) rfl #[] rfl (by (try simp only [List.map_toArray, List.map_cons, List.map_nil]); first | done | rfl | (simp only [List.length_drop, List.length_take]; rfl) | (simp only [gt_iff_lt, Int.natCast_pos]; done) | (simp only [gt_iff_lt, Int.natCast_pos]; rfl)) ?_; (with_reducible refine (abacuslaw04_awake.calls k  true _ ?side1 A2.out).mono ?_); (case side1 => repeat (first | exact (Kd.C_below HT.out HB.out) | (with_reducible refine Kd.C_alloc ?_ _) | (with_reducible refine Kd.C_drewN ?_ _) | (with_reducible refine Kd.C_drew ?_))); rintro e w6 ⟨rfl, hb⟩; refine ⟨_, rfl, ?_⟩; have n0_ := Aside0.mk (blk_below (g := gb440) (o := .cells #[.bool a0_0, .slice A0_1 l0_1.length c0_1, .slice A0_2 l0_2.length c0_2, .slice A0_3 l0_3.length c0_3, .int .i64 a0_4, .int .u8 a0_5] 24 (0, 0)) (by (with_reducible repeat (first | refine blk_drewN ?_ _ | refine blk_drew ?_ | refine blk_alloc ?_ _)); exact BK440.out) hb); have n1_ := Aside0.mk (below_step (by repeat (first | (with_reducible first | exact HB.out | apply below_alloc | apply pw_below_drewN | apply below_drew1 | refine below_set ?_ GE440.out) | exact HB.out)) hb); clear BK440; clear HB; have BK440 := n0_; have HB := n1_; clear n0_ n1_; (try clear hb); (try clear hb2); (try clear hk); (try clear hi); have hcz7_0 : w6.cell? ⟨gb440, 0, none⟩ = some (.bool a0_0) := (blk_cell BK440.out 0).trans rfl; have hcz7_1 : w6.cell? ⟨gb440, 1, none⟩ = some (.slice A0_1 l0_1.length c0_1) := (blk_cell BK440.out 1).trans rfl; have hcz7_2 : w6.cell? ⟨gb440, 2, none⟩ = some (.slice A0_2 l0_2.length c0_2) := (blk_cell BK440.out 2).trans rfl; have hcz7_3 : w6.cell? ⟨gb440, 3, none⟩ = some (.slice A0_3 l0_3.length c0_3) := (blk_cell BK440.out 3).trans rfl; have hcz7_4 : w6.cell? ⟨gb440, 4, none⟩ = some (.int .i64 a0_4) := (blk_cell BK440.out 4).trans rfl; have hcz7_5 : w6.cell? ⟨gb440, 5, none⟩ = some (.int .u8 a0_5) := (blk_cell BK440.out 5).trans rfl; have hfz7_0 := blk_frozen BK440.out 0; have hfz7_1 := blk_frozen BK440.out 1; have hfz7_2 := blk_frozen BK440.out 2; have hfz7_3 := blk_frozen BK440.out 3; have hfz7_4 := blk_frozen BK440.out 4; have hfz7_5 := blk_frozen BK440.out 5))
    (try simp only [Act.put, List.setIfInBounds_toArray, List.set_cons_zero, List.set_cons_succ])
    go_cut [47] (fun v47 wc => ∃ (kq : Nat) (x47_3 : Bool), v47 = .bool x47_3 ∧ Aside0 (abacuslaw04_IeeeNearest.j0 kq a0_0 l0_1 l0_3 a0_4 x47_3 = some r) ∧ Aside0 (kq ≤ k) ∧ Aside0 (wc.heap[gb440]? = some (.cells #[.bool a0_0, (.slice A0_1 l0_1.length c0_1), (.slice A0_2 l0_2.length c0_2), (.slice A0_3 l0_3.length c0_3), .int .i64 a0_4, .int .u8 a0_5] 24 (0, 0))) ∧ Aside0 (Below w.heap.size w wc))
    case first =>
      have H := HC4.out
      clear HC4
      by_cases c8 : (l0_1.length : Int) > 60
      · rw [if_pos c8] at H
        have c8b0 : decide (60 < (l0_1.length : Int)) = true := decide_eq_true c8
        have c8b1 : decide (60 < l0_1.length) = true := decide_eq_true (by omega)
        clear c8
        (first | rw [c8b0] | (simp only [i64_w, i32_w]; rw [c8b0]) | rw [c8b1] | skip)
        have H' := Aside0.mk H
        clear H
        go_wp2
        go_meet
        case rel => exact ⟨_, (true), (by first | rfl | (simp; done) | (simp [*]; done)), H', ⟨by first | omega | exact Nat.le_refl _⟩, ⟨by (with_reducible repeat (first | refine blk_drewN ?_ _ | refine blk_drew ?_ | refine blk_alloc ?_ _)); exact BK440.out⟩, ⟨by repeat (first | (with_reducible first | exact HB.out | apply below_alloc | apply pw_below_drewN | apply below_drew1 | refine below_set ?_ GE440.out) | exact HB.out)⟩⟩
      · rw [if_neg c8] at H
        have c8b0 : decide (60 < (l0_1.length : Int)) = false := decide_eq_false c8
        have c8b1 : decide (60 < l0_1.length) = false := decide_eq_false (by omega)
        clear c8
        (first | rw [c8b0] | (simp only [i64_w, i32_w]; rw [c8b0]) | rw [c8b1] | skip)
        by_cases c9 : (l0_3.length : Int) > 60
        · rw [if_pos c9] at H
          have c9b0 : decide (60 < (l0_3.length : Int)) = true := decide_eq_true c9
          have c9b1 : decide (60 < l0_3.length) = true := decide_eq_true (by omega)
          clear c9
          have H' := Aside0.mk H
          clear H
          go_wp2
          go_meet
          case rel => exact ⟨_, (true), (by first | rfl | (simp; done) | (simp [*]; done)), H', ⟨by first | omega | exact Nat.le_refl _⟩, ⟨by (with_reducible repeat (first | refine blk_drewN ?_ _ | refine blk_drew ?_ | refine blk_alloc ?_ _)); exact BK440.out⟩, ⟨by repeat (first | (with_reducible first | exact HB.out | apply below_alloc | apply pw_below_drewN | apply below_drew1 | refine below_set ?_ GE440.out) | exact HB.out)⟩⟩
        · rw [if_neg c9] at H
          have c9b0 : decide (60 < (l0_3.length : Int)) = false := decide_eq_false c9
          have c9b1 : decide (60 < l0_3.length) = false := decide_eq_false (by omega)
          clear c9
          by_cases c10 : a0_4 > 9000
          · rw [if_pos c10] at H
            have c10b0 : decide (9000 < a0_4) = true := decide_eq_true c10
            clear c10
            have H' := Aside0.mk H
            clear H
            go_wp2
            go_meet
            case rel => exact ⟨_, (true), (by first | rfl | (simp; done) | (simp [*]; done)), H', ⟨by first | omega | exact Nat.le_refl _⟩, ⟨by (with_reducible repeat (first | refine blk_drewN ?_ _ | refine blk_drew ?_ | refine blk_alloc ?_ _)); exact BK440.out⟩, ⟨by repeat (first | (with_reducible first | exact HB.out | apply below_alloc | apply pw_below_drewN | apply below_drew1 | refine below_set ?_ GE440.out) | exact HB.out)⟩⟩
          · rw [if_neg c10] at H
            have c10b0 : decide (9000 < a0_4) = false := decide_eq_false c10
            clear c10
            by_cases c11 : a0_4 < (-9000)
            · rw [if_pos c11] at H
              have c11b0 : decide (a0_4 < (-9000)) = true := decide_eq_true c11
              clear c11
              have H' := Aside0.mk H
              clear H
              go_wp2
              go_meet
              case rel => exact ⟨_, (true), (by first | rfl | (simp; done) | (simp [*]; done)), H', ⟨by first | omega | exact Nat.le_refl _⟩, ⟨by (with_reducible repeat (first | refine blk_drewN ?_ _ | refine blk_drew ?_ | refine blk_alloc ?_ _)); exact BK440.out⟩, ⟨by repeat (first | (with_reducible first | exact HB.out | apply below_alloc | apply pw_below_drewN | apply below_drew1 | refine below_set ?_ GE440.out) | exact HB.out)⟩⟩
            · rw [if_neg c11] at H
              have c11b0 : decide (a0_4 < (-9000)) = false := decide_eq_false c11
              clear c11
              replace H := Option.bind_eq_some_iff.mp H
              obtain ⟨t442, A120, H⟩ := H
              replace H : (abacuslaw04_IeeeNearest.j0 k a0_0 l0_1 l0_3 a0_4 (t442 == 0)) = some r := H
              have A12 := Aside0.mk A120
              clear A120
              have H' := Aside0.mk H
              clear H
              go_wp2_with (first | (go_at_call 13; (with_reducible refine (nat_BitLen.calls k _ _ l0_3 t442 _ ?side1 ?side2 A12.out).mono ?_); (case side1 => repeat (first | exact (Kd.C_below HR0_3.out HB.out) | (with_reducible refine Kd.C_alloc ?_ _) | (with_reducible refine Kd.C_drewN ?_ _) | (with_reducible refine Kd.C_drew ?_))); (case side2 => exact HC0_3.out); rintro e w' ⟨rfl, ⟨nd, rfl⟩⟩))
              go_meet
              case rel => exact ⟨_, ((t442 == 0)), (by first | rfl | (simp; done) | (simp [*]; done)), H', ⟨by first | omega | exact Nat.le_refl _⟩, ⟨by (with_reducible repeat (first | refine blk_drewN ?_ _ | refine blk_drew ?_ | refine blk_alloc ?_ _)); exact BK440.out⟩, ⟨by repeat (first | (with_reducible first | exact HB.out | apply below_alloc | apply pw_below_drewN | apply below_drew1 | refine below_set ?_ GE440.out) | exact HB.out)⟩⟩
    case rest =>
      clear HC4
      try clear c1
      try clear p2
      try clear c3
      try clear c7
      try clear c8
      try clear c8b0
      try clear c8b1
      try clear c9
      try clear c9b0
      try clear c9b1
      try clear c10
      try clear c10b0
      try clear c11
      try clear c11b0
      try clear c12
      try clear hcz7_0
      try clear hcz7_1
      try clear hcz7_2
      try clear hcz7_3
      try clear hcz7_4
      try clear hcz7_5
      try clear hfz7_0
      try clear hfz7_1
      try clear hfz7_2
      try clear hfz7_3
      try clear hfz7_4
      try clear hfz7_5
      obtain ⟨kq, x47_3, rfl, HA, HJ3, BK440, HB⟩ := hcut
      cases kq with
      | zero => exact absurd HA.out (by simp [abacuslaw04_IeeeNearest.j0])
      | succ kj3 =>
        have H := HA.out
        clear HA
        simp only [abacuslaw04_IeeeNearest.j0] at H
        by_cases c13 : x47_3 = true
        · subst c13
          have H1 : (some true) = some r := by rw [if_pos rfl] at H; exact H
          clear H
          have H := H1
          clear H1
          obtain rfl := Option.some.inj H
          go_wp2
          go_ret
          exact ⟨by first | rfl | (simp [errW_none, errW_some] <;> rfl) | (simp [*, errW_none, errW_some] <;> rfl), by repeat (first | (with_reducible first | exact HB.out | apply below_alloc | apply pw_below_drewN | apply below_drew1 | refine below_set ?_ GE440.out) | exact HB.out)⟩
        · replace c13 := Bool.eq_false_iff.mpr c13
          subst c13
          have H1 : ((ieee_RoundRatio.f kj3 a0_0 l0_1 l0_3 a0_4).bind fun bt443 => (if bt443.2 = 0 then (if ((decide (bt443.1 ≥ 9223372036854775808)) != a0_0) = true then (abacuslaw04_IeeeNearest.j1 kj3 l0_1 l0_3 a0_4 bt443.1 true) else (abacuslaw04_IeeeNearest.j1 kj3 l0_1 l0_3 a0_4 bt443.1 (decide ((Int.tmod bt443.1 9223372036854775808) > 9218868437227405312)))) else (abacuslaw04_IeeeNearest.j1 kj3 l0_1 l0_3 a0_4 bt443.1 true))) = some r := by rw [if_neg (show ¬ (false = true) by decide)] at H; exact H
          clear H
          have H := H1
          clear H1
          replace H := Option.bind_eq_some_iff.mp H
          obtain ⟨⟨t443, t444⟩, A140, H⟩ := H
          replace H : (if t444 = 0 then (if ((decide (t443 ≥ 9223372036854775808)) != a0_0) = true then (abacuslaw04_IeeeNearest.j1 kj3 l0_1 l0_3 a0_4 t443 true) else (abacuslaw04_IeeeNearest.j1 kj3 l0_1 l0_3 a0_4 t443 (decide ((Int.tmod t443 9223372036854775808) > 9218868437227405312)))) else (abacuslaw04_IeeeNearest.j1 kj3 l0_1 l0_3 a0_4 t443 true)) = some r := H
          have A14 := Aside0.mk A140
          clear A140
          have HC15 := Aside0.mk H
          clear H
          go_upto_region 10 with (first | ((with_reducible refine gate_callee (f := 16) rfl ?_); refine goesL_ (some 53) rfl rfl Tryd.func16 (by kernel_rfl) rfl #[.bool a0_0, .slice A0_1 l0_1.length c0_1, .slice A0_3 l0_3.length c0_3, .int .i64 a0_4] rfl (by (try simp only [List.map_toArray, List.map_cons, List.map_nil]); first | done | rfl | (simp only [List.length_drop, List.length_take]; rfl) | (simp only [gt_iff_lt, Int.natCast_pos]; done) | (simp only [gt_iff_lt, Int.natCast_pos]; rfl)) ?_; (with_reducible refine (ieee_RoundRatio.calls kj3 a0_0 _ _ l0_1 _ _ l0_3 a0_4 t443 t444 _ ?side5 ?side1 ?side2 ?side3 ?side4 A14.out).mono ?_); (case side1 => repeat (first | exact (Kd.C_below HR0_1.out HB.out) | (with_reducible refine Kd.C_alloc ?_ _) | (with_reducible refine Kd.C_drewN ?_ _) | (with_reducible refine Kd.C_drew ?_))); (case side2 => exact HC0_1.out); (case side3 => repeat (first | exact (Kd.C_below HR0_3.out HB.out) | (with_reducible refine Kd.C_alloc ?_ _) | (with_reducible refine Kd.C_drewN ?_ _) | (with_reducible refine Kd.C_drew ?_))); (case side4 => exact HC0_3.out); (case side5 => repeat (first | exact (Kd.C_below HT.out HB.out) | (with_reducible refine Kd.C_alloc ?_ _) | (with_reducible refine Kd.C_drewN ?_ _) | (with_reducible refine Kd.C_drew ?_))); rintro e w16 ⟨rfl, hb⟩; refine ⟨_, rfl, ?_⟩; have n0_ := Aside0.mk (blk_below (g := gb440) (o := .cells #[.bool a0_0, .slice A0_1 l0_1.length c0_1, .slice A0_2 l0_2.length c0_2, .slice A0_3 l0_3.length c0_3, .int .i64 a0_4, .int .u8 a0_5] 24 (0, 0)) (by (with_reducible repeat (first | refine blk_drewN ?_ _ | refine blk_drew ?_ | refine blk_alloc ?_ _)); exact BK440.out) hb); have n1_ := Aside0.mk (below_step (by repeat (first | (with_reducible first | exact HB.out | apply below_alloc | apply pw_below_drewN | apply below_drew1 | refine below_set ?_ GE440.out) | exact HB.out)) hb); clear BK440; clear HB; have BK440 := n0_; have HB := n1_; clear n0_ n1_; (try clear hb); (try clear hb2); (try clear hk); (try clear hi)))
          (try simp only [Act.put, List.setIfInBounds_toArray, List.set_cons_zero, List.set_cons_succ])
          go_cut [68] (fun v68 wc => ∃ (kq : Nat) (x68_14 : Bool), v68 = .bool x68_14 ∧ Aside0 (abacuslaw04_IeeeNearest.j1 kq l0_1 l0_3 a0_4 t443 x68_14 = some r) ∧ Aside0 (kq ≤ kj3) ∧ Aside0 (wc.heap[gb440]? = some (.cells #[.bool a0_0, (.slice A0_1 l0_1.length c0_1), (.slice A0_2 l0_2.length c0_2), (.slice A0_3 l0_3.length c0_3), .int .i64 a0_4, .int .u8 a0_5] 24 (0, 0))) ∧ Aside0 (Below w.heap.size w wc))
          case first =>
            have H := HC15.out
            clear HC15
            by_cases c17 : t444 = 0
            · rw [if_pos c17] at H
              have c17b0 : (t444 == 0) = true := beq_iff_eq.mpr c17
              have c17b1 : (t444 != 0) = false := bne_eq_false_iff_eq.mpr c17
              clear c17
              (first | rw [c17b0] | (simp only [i64_w, i32_w]; rw [c17b0]) | rw [c17b1] | skip)
              by_cases c18 : ((decide (t443 ≥ 9223372036854775808)) != a0_0) = true
              · rw [if_pos c18] at H
                have c18b0 : ((decide (t443 ≥ 9223372036854775808)) != a0_0) = true := c18
                (try (have c18b1 : decide ((decide (t443 ≥ 9223372036854775808)) = a0_0) = false := by simpa using c18))
                (try (have c18b2 : ((decide (t443 ≥ 9223372036854775808)) == a0_0) = false := by simpa using c18))
                (try (have c18b3 : ¬ ((decide (t443 ≥ 9223372036854775808)) = a0_0) := by simpa using c18))
                clear c18
                have H' := Aside0.mk H
                clear H
                go_wp2
                go_meet
                case rel => exact ⟨_, (true), (by first | rfl | (simp; done) | (simp [*]; done)), H', ⟨by have := HJ3.out; first | omega | exact Nat.le_refl _⟩, ⟨by (with_reducible repeat (first | refine blk_drewN ?_ _ | refine blk_drew ?_ | refine blk_alloc ?_ _)); exact BK440.out⟩, ⟨by repeat (first | (with_reducible first | exact HB.out | apply below_alloc | apply pw_below_drewN | apply below_drew1 | refine below_set ?_ GE440.out) | exact HB.out)⟩⟩
              · rw [if_neg c18] at H
                have c18b0 : ((decide (t443 ≥ 9223372036854775808)) != a0_0) = false := by simpa using c18
                (try (have c18b1 : decide ((decide (t443 ≥ 9223372036854775808)) = a0_0) = true := by simpa using c18))
                (try (have c18b2 : ((decide (t443 ≥ 9223372036854775808)) == a0_0) = true := by simpa using c18))
                clear c18
                have H' := Aside0.mk H
                clear H
                go_wp2
                go_meet
                case rel => exact ⟨_, (decide ((Int.tmod t443 9223372036854775808) > 9218868437227405312)), (by first | rfl | (simp; done) | (simp [*]; done)), H', ⟨by have := HJ3.out; first | omega | exact Nat.le_refl _⟩, ⟨by (with_reducible repeat (first | refine blk_drewN ?_ _ | refine blk_drew ?_ | refine blk_alloc ?_ _)); exact BK440.out⟩, ⟨by repeat (first | (with_reducible first | exact HB.out | apply below_alloc | apply pw_below_drewN | apply below_drew1 | refine below_set ?_ GE440.out) | exact HB.out)⟩⟩
            · rw [if_neg c17] at H
              have c17b0 : (t444 == 0) = false := beq_eq_false_iff_ne.mpr c17
              have c17b1 : (t444 != 0) = true := bne_iff_ne.mpr c17
              (first | rw [c17b0] | (simp only [i64_w, i32_w]; rw [c17b0]) | rw [c17b1] | skip)
              have H' := Aside0.mk H
              clear H
              go_wp2
              go_meet
              case rel => exact ⟨_, (true), (by first | rfl | (simp; done) | (simp [*]; done)), H', ⟨by have := HJ3.out; first | omega | exact Nat.le_refl _⟩, ⟨by (with_reducible repeat (first | refine blk_drewN ?_ _ | refine blk_drew ?_ | refine blk_alloc ?_ _)); exact BK440.out⟩, ⟨by repeat (first | (with_reducible first | exact HB.out | apply below_alloc | apply pw_below_drewN | apply below_drew1 | refine below_set ?_ GE440.out) | exact HB.out)⟩⟩
          case rest =>
            clear HC15
            try clear c1
            try clear p2
            try clear c3
            try clear c7
            try clear c8
            try clear c8b0
            try clear c8b1
            try clear c9
            try clear c9b0
            try clear c9b1
            try clear c10
            try clear c10b0
            try clear c11
            try clear c11b0
            try clear c12
            try clear c13
            try clear c16
            try clear c17
            try clear c17b0
            try clear c17b1
            try clear c18
            try clear c18b0
            try clear c18b1
            try clear c18b2
            try clear hcz7_0
            try clear hcz7_1
            try clear hcz7_2
            try clear hcz7_3
            try clear hcz7_4
            try clear hcz7_5
            try clear hfz7_0
            try clear hfz7_1
            try clear hfz7_2
            try clear hfz7_3
            try clear hfz7_4
            try clear hfz7_5
            try clear p2
            obtain ⟨kq, x68_14, rfl, HA, HJ14, BK440, HB⟩ := hcut
            cases kq with
            | zero => exact absurd HA.out (by simp [abacuslaw04_IeeeNearest.j1])
            | succ kj14 =>
              have H := HA.out
              clear HA
              simp only [abacuslaw04_IeeeNearest.j1] at H
              by_cases c19 : x68_14 = true
              · subst c19
                have H1 : (some false) = some r := by rw [if_pos rfl] at H; exact H
                clear H
                have H := H1
                clear H1
                obtain rfl := Option.some.inj H
                go_wp2
                go_ret
                exact ⟨by first | rfl | (simp [errW_none, errW_some] <;> rfl) | (simp [*, errW_none, errW_some] <;> rfl), by repeat (first | (with_reducible first | exact HB.out | apply below_alloc | apply pw_below_drewN | apply below_drew1 | refine below_set ?_ GE440.out) | exact HB.out)⟩
              · replace c19 := Bool.eq_false_iff.mpr c19
                subst c19
                have H1 : (if (Int.tmod t443 9223372036854775808) = 9218868437227405312 then ((abacuslaw04_held.f kj14 18014398509481983 970 l0_1 l0_3 a0_4).bind fun bt445 => (if bt445.2 = true then (some (decide (bt445.1 ≤ 0))) else (some false))) else ((ieee_Decode.f (Int.tmod t443 9223372036854775808)).bind fun bt447 => (if (Int.tmod t443 9223372036854775808) = 0 then (abacuslaw04_IeeeNearest.j2 kj14 l0_1 l0_3 a0_4 (Int.tmod t443 9223372036854775808) ((Int.tmod (Int.tmod t443 9223372036854775808) 2) == 0) 0 (-1075) bt447.1 bt447.2.1 bt447.2.2.1 bt447.2.2.2) else (abacuslaw04_IeeeNearest.j2 kj14 l0_1 l0_3 a0_4 (Int.tmod t443 9223372036854775808) ((Int.tmod (Int.tmod t443 9223372036854775808) 2) == 0) (IntKind.u64.wrap (2 * bt447.2.2.1)) (wrap64 (bt447.2.2.2 - 1)) bt447.1 bt447.2.1 bt447.2.2.1 bt447.2.2.2)))) = some r := by rw [if_neg (show ¬ (false = true) by decide)] at H; exact H
                clear H
                have H := H1
                clear H1
                by_cases c20 : (Int.tmod t443 9223372036854775808) = 9218868437227405312
                · rw [if_pos c20] at H
                  have c20b0 : ((Int.tmod t443 9223372036854775808) == 9218868437227405312) = true := beq_iff_eq.mpr c20
                  have c20b1 : ((Int.tmod t443 9223372036854775808) != 9218868437227405312) = false := bne_eq_false_iff_eq.mpr c20
                  clear c20
                  replace H := Option.bind_eq_some_iff.mp H
                  obtain ⟨⟨t445, t446⟩, A210, H⟩ := H
                  replace H : (if t446 = true then (some (decide (t445 ≤ 0))) else (some false)) = some r := H
                  have A21 := Aside0.mk A210
                  clear A210
                  by_cases c22 : t446 = true
                  · subst c22
                    have H1 : (some (decide (t445 ≤ 0))) = some r := by rw [if_pos rfl] at H; exact H
                    clear H
                    have H := H1
                    clear H1
                    obtain rfl := Option.some.inj H
                    go_wp2_with (first | ((with_reducible refine gate_callee (f := 28) rfl ?_); refine goesL_ (some 80) rfl rfl Tryd.func28 (by kernel_rfl) rfl #[.int .u64 18014398509481983, .int .i64 970, .slice A0_1 l0_1.length c0_1, .slice A0_3 l0_3.length c0_3, .int .i64 a0_4] rfl (by (try simp only [List.map_toArray, List.map_cons, List.map_nil]); first | done | rfl | (simp only [List.length_drop, List.length_take]; rfl) | (simp only [gt_iff_lt, Int.natCast_pos]; done) | (simp only [gt_iff_lt, Int.natCast_pos]; rfl)) ?_; (with_reducible refine (abacuslaw04_held.calls kj14 18014398509481983 970 _ _ l0_1 _ _ l0_3 a0_4 t445 true _ ?side1 ?side2 ?side3 ?side4 A21.out).mono ?_); (case side1 => repeat (first | exact (Kd.C_below HR0_1.out HB.out) | (with_reducible refine Kd.C_alloc ?_ _) | (with_reducible refine Kd.C_drewN ?_ _) | (with_reducible refine Kd.C_drew ?_))); (case side2 => exact HC0_1.out); (case side3 => repeat (first | exact (Kd.C_below HR0_3.out HB.out) | (with_reducible refine Kd.C_alloc ?_ _) | (with_reducible refine Kd.C_drewN ?_ _) | (with_reducible refine Kd.C_drew ?_))); (case side4 => exact HC0_3.out); rintro e w23 ⟨rfl, hb⟩; refine ⟨_, rfl, ?_⟩; have n0_ := Aside0.mk (blk_below (g := gb440) (o := .cells #[.bool a0_0, .slice A0_1 l0_1.length c0_1, .slice A0_2 l0_2.length c0_2, .slice A0_3 l0_3.length c0_3, .int .i64 a0_4, .int .u8 a0_5] 24 (0, 0)) (by (with_reducible repeat (first | refine blk_drewN ?_ _ | refine blk_drew ?_ | refine blk_alloc ?_ _)); exact BK440.out) hb); have n1_ := Aside0.mk (below_step (by repeat (first | (with_reducible first | exact HB.out | apply below_alloc | apply pw_below_drewN | apply below_drew1 | refine below_set ?_ GE440.out) | exact HB.out)) hb); clear BK440; clear HB; have BK440 := n0_; have HB := n1_; clear n0_ n1_; (try clear hb); (try clear hb2); (try clear hk); (try clear hi)))
                    go_ret
                    exact ⟨by first | rfl | (simp [errW_none, errW_some] <;> rfl) | (simp [*, errW_none, errW_some] <;> rfl), by repeat (first | (with_reducible first | exact HB.out | apply below_alloc | apply pw_below_drewN | apply below_drew1 | refine below_set ?_ GE440.out) | exact HB.out)⟩
                  · replace c22 := Bool.eq_false_iff.mpr c22
                    subst c22
                    have H1 : (some false) = some r := by rw [if_neg (show ¬ (false = true) by decide)] at H; exact H
                    clear H
                    have H := H1
                    clear H1
                    obtain rfl := Option.some.inj H
                    go_wp2_with (first | ((with_reducible refine gate_callee (f := 28) rfl ?_); refine goesL_ (some 80) rfl rfl Tryd.func28 (by kernel_rfl) rfl #[.int .u64 18014398509481983, .int .i64 970, .slice A0_1 l0_1.length c0_1, .slice A0_3 l0_3.length c0_3, .int .i64 a0_4] rfl (by (try simp only [List.map_toArray, List.map_cons, List.map_nil]); first | done | rfl | (simp only [List.length_drop, List.length_take]; rfl) | (simp only [gt_iff_lt, Int.natCast_pos]; done) | (simp only [gt_iff_lt, Int.natCast_pos]; rfl)) ?_; (with_reducible refine (abacuslaw04_held.calls kj14 18014398509481983 970 _ _ l0_1 _ _ l0_3 a0_4 t445 false _ ?side1 ?side2 ?side3 ?side4 A21.out).mono ?_); (case side1 => repeat (first | exact (Kd.C_below HR0_1.out HB.out) | (with_reducible refine Kd.C_alloc ?_ _) | (with_reducible refine Kd.C_drewN ?_ _) | (with_reducible refine Kd.C_drew ?_))); (case side2 => exact HC0_1.out); (case side3 => repeat (first | exact (Kd.C_below HR0_3.out HB.out) | (with_reducible refine Kd.C_alloc ?_ _) | (with_reducible refine Kd.C_drewN ?_ _) | (with_reducible refine Kd.C_drew ?_))); (case side4 => exact HC0_3.out); rintro e w24 ⟨rfl, hb⟩; refine ⟨_, rfl, ?_⟩; have n0_ := Aside0.mk (blk_below (g := gb440) (o := .cells #[.bool a0_0, .slice A0_1 l0_1.length c0_1, .slice A0_2 l0_2.length c0_2, .slice A0_3 l0_3.length c0_3, .int .i64 a0_4, .int .u8 a0_5] 24 (0, 0)) (by (with_reducible repeat (first | refine blk_drewN ?_ _ | refine blk_drew ?_ | refine blk_alloc ?_ _)); exact BK440.out) hb); have n1_ := Aside0.mk (below_step (by repeat (first | (with_reducible first | exact HB.out | apply below_alloc | apply pw_below_drewN | apply below_drew1 | refine below_set ?_ GE440.out) | exact HB.out)) hb); clear BK440; clear HB; have BK440 := n0_; have HB := n1_; clear n0_ n1_; (try clear hb); (try clear hb2); (try clear hk); (try clear hi)))
                    go_ret
                    exact ⟨by first | rfl | (simp [errW_none, errW_some] <;> rfl) | (simp [*, errW_none, errW_some] <;> rfl), by repeat (first | (with_reducible first | exact HB.out | apply below_alloc | apply pw_below_drewN | apply below_drew1 | refine below_set ?_ GE440.out) | exact HB.out)⟩
                · rw [if_neg c20] at H
                  have c20b0 : ((Int.tmod t443 9223372036854775808) == 9218868437227405312) = false := beq_eq_false_iff_ne.mpr c20
                  have c20b1 : ((Int.tmod t443 9223372036854775808) != 9218868437227405312) = true := bne_iff_ne.mpr c20
                  replace H := Option.bind_eq_some_iff.mp H
                  obtain ⟨⟨t447, t448, t449, t450⟩, A250, H⟩ := H
                  replace H : (if (Int.tmod t443 9223372036854775808) = 0 then (abacuslaw04_IeeeNearest.j2 kj14 l0_1 l0_3 a0_4 (Int.tmod t443 9223372036854775808) ((Int.tmod (Int.tmod t443 9223372036854775808) 2) == 0) 0 (-1075) t447 t448 t449 t450) else (abacuslaw04_IeeeNearest.j2 kj14 l0_1 l0_3 a0_4 (Int.tmod t443 9223372036854775808) ((Int.tmod (Int.tmod t443 9223372036854775808) 2) == 0) (IntKind.u64.wrap (2 * t449)) (wrap64 (t450 - 1)) t447 t448 t449 t450)) = some r := H
                  have A25 := Aside0.mk A250
                  clear A250
                  have HC26 := Aside0.mk H
                  clear H
                  go_upto_if 97 with (first | ((with_reducible refine gate_callee (f := 17) rfl ?_); refine goesL_ (some 89) rfl rfl Tryd.func17 (by kernel_rfl) rfl #[.int .u64 (Int.tmod t443 9223372036854775808)] rfl (by (try simp only [List.map_toArray, List.map_cons, List.map_nil]); first | done | rfl | (simp only [List.length_drop, List.length_take]; rfl) | (simp only [gt_iff_lt, Int.natCast_pos]; done) | (simp only [gt_iff_lt, Int.natCast_pos]; rfl)) ?_; (with_reducible refine (ieee_Decode.calls (Int.tmod t443 9223372036854775808) t447 t448 t449 t450 _ A25.out).mono ?_); rintro e w27 ⟨rfl, hb⟩; refine ⟨_, rfl, ?_⟩; have n0_ := Aside0.mk (blk_below (g := gb440) (o := .cells #[.bool a0_0, .slice A0_1 l0_1.length c0_1, .slice A0_2 l0_2.length c0_2, .slice A0_3 l0_3.length c0_3, .int .i64 a0_4, .int .u8 a0_5] 24 (0, 0)) (by (with_reducible repeat (first | refine blk_drewN ?_ _ | refine blk_drew ?_ | refine blk_alloc ?_ _)); exact BK440.out) hb); have n1_ := Aside0.mk (below_step (by repeat (first | (with_reducible first | exact HB.out | apply below_alloc | apply pw_below_drewN | apply below_drew1 | refine below_set ?_ GE440.out) | exact HB.out)) hb); clear BK440; clear HB; have BK440 := n0_; have HB := n1_; clear n0_ n1_; (try clear hb); (try clear hb2); (try clear hk); (try clear hi)) | ((with_reducible refine gate_dst (N := 12) rfl ?_); (try (refine gate_guard (by rfl) ?_; dsimp only)); refine box_event ?hg (N := 12) ?hd (cs := #[.bool false, .int .i64 0, .int .u64 0, .int .i64 0]) (t := 35) ?hr ?_; (case hd => rfl); (case hg => rfl); (case hr => first | (go_simp; done) | (go_simp; rfl)); intro gb451 hg w28 hbox hb; have n0_ := Aside0.mk (blk_below (g := gb440) (o := .cells #[.bool a0_0, .slice A0_1 l0_1.length c0_1, .slice A0_2 l0_2.length c0_2, .slice A0_3 l0_3.length c0_3, .int .i64 a0_4, .int .u8 a0_5] 24 (0, 0)) (by (with_reducible repeat (first | refine blk_drewN ?_ _ | refine blk_drew ?_ | refine blk_alloc ?_ _)); exact BK440.out) hb); have n1_ := Aside0.mk (below_step (by repeat (first | (with_reducible first | exact HB.out | apply below_alloc | apply pw_below_drewN | apply below_drew1 | refine below_set ?_ GE440.out) | exact HB.out)) hb); have n2_ := Aside0.mk (hbox); have n3_ := Aside0.mk ((by rw [hg]; exact (below_size (by repeat (first | (with_reducible first | exact HB.out | apply below_alloc | apply pw_below_drewN | apply below_drew1 | refine below_set ?_ GE440.out) | exact HB.out))) : w.heap.size ≤ gb451)); have n4_ := Aside0.mk ((by rw [hg]; exact (below_size (by repeat (first | (with_reducible first | exact HB.out | apply below_alloc | apply pw_below_drewN | apply below_drew1 | refine below_set ?_ GE440.out) | exact HB.out))) : w.heap.size ≤ gb451)); have n5_ := Aside0.mk ((by rw [hg]; exact Nat.ne_of_lt (blk_lt (g := gb440) (o := .cells #[.bool a0_0, .slice A0_1 l0_1.length c0_1, .slice A0_2 l0_2.length c0_2, .slice A0_3 l0_3.length c0_3, .int .i64 a0_4, .int .u8 a0_5] 24 (0, 0)) (by (with_reducible repeat (first | refine blk_drewN ?_ _ | refine blk_drew ?_ | refine blk_alloc ?_ _)); exact BK440.out)) : gb440 ≠ gb451)); have n6_ := Aside0.mk ((by rw [hg]; exact Nat.ne_of_gt (blk_lt (g := gb440) (o := .cells #[.bool a0_0, .slice A0_1 l0_1.length c0_1, .slice A0_2 l0_2.length c0_2, .slice A0_3 l0_3.length c0_3, .int .i64 a0_4, .int .u8 a0_5] 24 (0, 0)) (by (with_reducible repeat (first | refine blk_drewN ?_ _ | refine blk_drew ?_ | refine blk_alloc ?_ _)); exact BK440.out)) : gb451 ≠ gb440)); clear BK440; clear HB; have BK440 := n0_; have HB := n1_; have BK451 := n2_; have GW451 := n3_; have GE451 := n4_; have NB440_451 := n5_; have NB451_440 := n6_; clear n0_ n1_ n2_ n3_ n4_ n5_ n6_; clear hb hbox hg; have hnb29 := NB451_440.out; have hnc29 := NB440_451.out; have hcz30_0 : w28.cell? ⟨gb451, 0, none⟩ = some (.bool false) := (blk_cell BK451.out 0).trans rfl; have hcz30_1 : w28.cell? ⟨gb451, 1, none⟩ = some (.int .i64 0) := (blk_cell BK451.out 1).trans rfl; have hcz30_2 : w28.cell? ⟨gb451, 2, none⟩ = some (.int .u64 0) := (blk_cell BK451.out 2).trans rfl; have hcz30_3 : w28.cell? ⟨gb451, 3, none⟩ = some (.int .i64 0) := (blk_cell BK451.out 3).trans rfl; have hfz30_0 := blk_frozen BK451.out 0; have hfz30_1 := blk_frozen BK451.out 1; have hfz30_2 := blk_frozen BK451.out 2; have hfz30_3 := blk_frozen BK451.out 3))
                  (try simp only [Act.put, List.setIfInBounds_toArray, List.set_cons_zero, List.set_cons_succ])
                  go_cut [13, 14] (fun v13 v14 wc => ∃ (kq : Nat) (x13_25 : Int) (x14_25 : Int), v13 = .int .u64 x13_25 ∧ v14 = .int .i64 x14_25 ∧ Aside0 (abacuslaw04_IeeeNearest.j2 kq l0_1 l0_3 a0_4 (Int.tmod t443 9223372036854775808) ((Int.tmod (Int.tmod t443 9223372036854775808) 2) == 0) x13_25 x14_25 t447 t448 t449 t450 = some r) ∧ Aside0 (kq ≤ kj14) ∧ Aside0 (wc.heap[gb440]? = some (.cells #[.bool a0_0, (.slice A0_1 l0_1.length c0_1), (.slice A0_2 l0_2.length c0_2), (.slice A0_3 l0_3.length c0_3), .int .i64 a0_4, .int .u8 a0_5] 24 (0, 0))) ∧ Aside0 (wc.heap[gb451]? = some (.cells #[.bool t447, .int .i64 t448, .int .u64 t449, .int .i64 t450] 35 (0, 0))) ∧ Aside0 (Below w.heap.size w wc))
                  case first =>
                    have H := HC26.out
                    clear HC26
                    by_cases c31 : (Int.tmod t443 9223372036854775808) = 0
                    · rw [if_pos c31] at H
                      have c31b0 : ((Int.tmod t443 9223372036854775808) == 0) = true := beq_iff_eq.mpr c31
                      have c31b1 : ((Int.tmod t443 9223372036854775808) != 0) = false := bne_eq_false_iff_eq.mpr c31
                      clear c31
                      (first | rw [c31b0] | (simp only [i64_w, i32_w]; rw [c31b0]) | rw [c31b1] | skip)
                      have H' := Aside0.mk H
                      clear H
                      go_wp2
                      go_meet
                      case rel => exact ⟨_, (0), ((-1075)), (by first | rfl | (simp; done) | (simp [*]; done)), (by first | rfl | (simp; done) | (simp [*]; done)), H', ⟨by have := HJ3.out; have := HJ14.out; first | omega | exact Nat.le_refl _⟩, ⟨by (with_reducible repeat (first | refine blk_drewN ?_ _ | refine blk_drew ?_ | refine blk_alloc ?_ _)); refine blk_far ?_ NB440_451.out _; (with_reducible repeat (first | refine blk_drewN ?_ _ | refine blk_drew ?_ | refine blk_alloc ?_ _)); refine blk_far ?_ NB440_451.out _; (with_reducible repeat (first | refine blk_drewN ?_ _ | refine blk_drew ?_ | refine blk_alloc ?_ _)); refine blk_far ?_ NB440_451.out _; (with_reducible repeat (first | refine blk_drewN ?_ _ | refine blk_drew ?_ | refine blk_alloc ?_ _)); refine blk_far ?_ NB440_451.out _; (with_reducible repeat (first | refine blk_drewN ?_ _ | refine blk_drew ?_ | refine blk_alloc ?_ _)); exact BK440.out⟩, ⟨by (with_reducible repeat (first | refine blk_drewN ?_ _ | refine blk_drew ?_ | refine blk_alloc ?_ _)); refine blk_put (cs := #[.bool t447, .int .i64 t448, .int .u64 t449, .int .i64 0]) ?_ 3 _ rfl; (with_reducible repeat (first | refine blk_drewN ?_ _ | refine blk_drew ?_ | refine blk_alloc ?_ _)); refine blk_put (cs := #[.bool t447, .int .i64 t448, .int .u64 0, .int .i64 0]) ?_ 2 _ rfl; (with_reducible repeat (first | refine blk_drewN ?_ _ | refine blk_drew ?_ | refine blk_alloc ?_ _)); refine blk_put (cs := #[.bool t447, .int .i64 0, .int .u64 0, .int .i64 0]) ?_ 1 _ rfl; (with_reducible repeat (first | refine blk_drewN ?_ _ | refine blk_drew ?_ | refine blk_alloc ?_ _)); refine blk_put (cs := #[.bool false, .int .i64 0, .int .u64 0, .int .i64 0]) ?_ 0 _ rfl; (with_reducible repeat (first | refine blk_drewN ?_ _ | refine blk_drew ?_ | refine blk_alloc ?_ _)); exact BK451.out⟩, ⟨by repeat (first | (with_reducible first | exact HB.out | apply below_alloc | apply pw_below_drewN | apply below_drew1 | refine below_set ?_ GE440.out | refine below_set ?_ GE451.out) | exact HB.out)⟩⟩
                    · rw [if_neg c31] at H
                      have c31b0 : ((Int.tmod t443 9223372036854775808) == 0) = false := beq_eq_false_iff_ne.mpr c31
                      have c31b1 : ((Int.tmod t443 9223372036854775808) != 0) = true := bne_iff_ne.mpr c31
                      (first | rw [c31b0] | (simp only [i64_w, i32_w]; rw [c31b0]) | rw [c31b1] | skip)
                      have H' := Aside0.mk H
                      clear H
                      go_wp2
                      go_meet
                      case rel => exact ⟨_, (IntKind.u64.wrap (2 * t449)), (wrap64 (t450 - 1)), (by first | rfl | (simp; done) | (simp [*]; done)), (by first | rfl | (simp; done) | (simp [*]; done)), H', ⟨by have := HJ3.out; have := HJ14.out; first | omega | exact Nat.le_refl _⟩, ⟨by (with_reducible repeat (first | refine blk_drewN ?_ _ | refine blk_drew ?_ | refine blk_alloc ?_ _)); refine blk_far ?_ NB440_451.out _; (with_reducible repeat (first | refine blk_drewN ?_ _ | refine blk_drew ?_ | refine blk_alloc ?_ _)); refine blk_far ?_ NB440_451.out _; (with_reducible repeat (first | refine blk_drewN ?_ _ | refine blk_drew ?_ | refine blk_alloc ?_ _)); refine blk_far ?_ NB440_451.out _; (with_reducible repeat (first | refine blk_drewN ?_ _ | refine blk_drew ?_ | refine blk_alloc ?_ _)); refine blk_far ?_ NB440_451.out _; (with_reducible repeat (first | refine blk_drewN ?_ _ | refine blk_drew ?_ | refine blk_alloc ?_ _)); exact BK440.out⟩, ⟨by (with_reducible repeat (first | refine blk_drewN ?_ _ | refine blk_drew ?_ | refine blk_alloc ?_ _)); refine blk_put (cs := #[.bool t447, .int .i64 t448, .int .u64 t449, .int .i64 0]) ?_ 3 _ rfl; (with_reducible repeat (first | refine blk_drewN ?_ _ | refine blk_drew ?_ | refine blk_alloc ?_ _)); refine blk_put (cs := #[.bool t447, .int .i64 t448, .int .u64 0, .int .i64 0]) ?_ 2 _ rfl; (with_reducible repeat (first | refine blk_drewN ?_ _ | refine blk_drew ?_ | refine blk_alloc ?_ _)); refine blk_put (cs := #[.bool t447, .int .i64 0, .int .u64 0, .int .i64 0]) ?_ 1 _ rfl; (with_reducible repeat (first | refine blk_drewN ?_ _ | refine blk_drew ?_ | refine blk_alloc ?_ _)); refine blk_put (cs := #[.bool false, .int .i64 0, .int .u64 0, .int .i64 0]) ?_ 0 _ rfl; (with_reducible repeat (first | refine blk_drewN ?_ _ | refine blk_drew ?_ | refine blk_alloc ?_ _)); exact BK451.out⟩, ⟨by repeat (first | (with_reducible first | exact HB.out | apply below_alloc | apply pw_below_drewN | apply below_drew1 | refine below_set ?_ GE440.out | refine below_set ?_ GE451.out) | exact HB.out)⟩⟩
                  case rest =>
                    clear HC26
                    try clear c1
                    try clear c2
                    try clear p2
                    try clear c3
                    try clear p6
                    try clear c7
                    try clear c8
                    try clear c8b0
                    try clear c8b1
                    try clear c9
                    try clear c9b0
                    try clear c9b1
                    try clear c10
                    try clear c10b0
                    try clear c11
                    try clear c11b0
                    try clear c12
                    try clear c13
                    try clear c16
                    try clear c17
                    try clear c17b0
                    try clear c17b1
                    try clear c18
                    try clear c18b0
                    try clear c18b1
                    try clear c18b2
                    try clear c19
                    try clear c20
                    try clear c20b0
                    try clear c20b1
                    try clear c22
                    try clear c28
                    try clear c29
                    try clear c31
                    try clear c31b0
                    try clear c31b1
                    try clear hcz30_0
                    try clear hcz30_1
                    try clear hcz30_2
                    try clear hcz30_3
                    try clear hcz7_0
                    try clear hcz7_1
                    try clear hcz7_2
                    try clear hcz7_3
                    try clear hcz7_4
                    try clear hcz7_5
                    try clear hfz30_0
                    try clear hfz30_1
                    try clear hfz30_2
                    try clear hfz30_3
                    try clear hfz7_0
                    try clear hfz7_1
                    try clear hfz7_2
                    try clear hfz7_3
                    try clear hfz7_4
                    try clear hfz7_5
                    try clear p2
                    obtain ⟨kq, x13_25, x14_25, rfl, rfl, HA, HJ25, BK440, BK451, HB⟩ := hcut
                    cases kq with
                    | zero => exact absurd HA.out (by simp [abacuslaw04_IeeeNearest.j2])
                    | succ kj25 =>
                      have H := HA.out
                      clear HA
                      simp only [abacuslaw04_IeeeNearest.j2] at H
                      replace H := Option.bind_eq_some_iff.mp H
                      obtain ⟨⟨t452, t453⟩, A320, H⟩ := H
                      replace H : (if t453 = true then (if t452 < 0 then (abacuslaw04_IeeeNearest.j3 kj25 l0_1 l0_3 a0_4 (Int.tmod t443 9223372036854775808) ((Int.tmod (Int.tmod t443 9223372036854775808) 2) == 0) x13_25 x14_25 true t447 t448 t449 t450) else (if t452 = 0 then (abacuslaw04_IeeeNearest.j3 kj25 l0_1 l0_3 a0_4 (Int.tmod t443 9223372036854775808) ((Int.tmod (Int.tmod t443 9223372036854775808) 2) == 0) x13_25 x14_25 (!((Int.tmod (Int.tmod t443 9223372036854775808) 2) == 0)) t447 t448 t449 t450) else (abacuslaw04_IeeeNearest.j3 kj25 l0_1 l0_3 a0_4 (Int.tmod t443 9223372036854775808) ((Int.tmod (Int.tmod t443 9223372036854775808) 2) == 0) x13_25 x14_25 false t447 t448 t449 t450))) else (abacuslaw04_IeeeNearest.j3 kj25 l0_1 l0_3 a0_4 (Int.tmod t443 9223372036854775808) ((Int.tmod (Int.tmod t443 9223372036854775808) 2) == 0) x13_25 x14_25 true t447 t448 t449 t450)) = some r := H
                      have A32 := Aside0.mk A320
                      clear A320
                      have HC33 := Aside0.mk H
                      clear H
                      go_upto_region 24 with (first | ((with_reducible refine gate_callee (f := 28) rfl ?_); refine goesL_ (some 105) rfl rfl Tryd.func28 (by kernel_rfl) rfl #[.int .u64 (IntKind.u64.wrap (x13_25 + 1)), .int .i64 x14_25, .slice A0_1 l0_1.length c0_1, .slice A0_3 l0_3.length c0_3, .int .i64 a0_4] rfl (by (try simp only [List.map_toArray, List.map_cons, List.map_nil]); first | done | rfl | (simp only [List.length_drop, List.length_take]; rfl) | (simp only [gt_iff_lt, Int.natCast_pos]; done) | (simp only [gt_iff_lt, Int.natCast_pos]; rfl)) ?_; (with_reducible refine (abacuslaw04_held.calls kj25 (IntKind.u64.wrap (x13_25 + 1)) x14_25 _ _ l0_1 _ _ l0_3 a0_4 t452 t453 _ ?side1 ?side2 ?side3 ?side4 A32.out).mono ?_); (case side1 => repeat (first | exact (Kd.C_below HR0_1.out HB.out) | (with_reducible refine Kd.C_alloc ?_ _) | (with_reducible refine Kd.C_drewN ?_ _) | (with_reducible refine Kd.C_drew ?_))); (case side2 => exact HC0_1.out); (case side3 => repeat (first | exact (Kd.C_below HR0_3.out HB.out) | (with_reducible refine Kd.C_alloc ?_ _) | (with_reducible refine Kd.C_drewN ?_ _) | (with_reducible refine Kd.C_drew ?_))); (case side4 => exact HC0_3.out); rintro e w34 ⟨rfl, hb⟩; refine ⟨_, rfl, ?_⟩; have n0_ := Aside0.mk (blk_below (g := gb440) (o := .cells #[.bool a0_0, .slice A0_1 l0_1.length c0_1, .slice A0_2 l0_2.length c0_2, .slice A0_3 l0_3.length c0_3, .int .i64 a0_4, .int .u8 a0_5] 24 (0, 0)) (by (with_reducible repeat (first | refine blk_drewN ?_ _ | refine blk_drew ?_ | refine blk_alloc ?_ _)); exact BK440.out) hb); have n1_ := Aside0.mk (blk_below (g := gb451) (o := .cells #[.bool t447, .int .i64 t448, .int .u64 t449, .int .i64 t450] 35 (0, 0)) (by (with_reducible repeat (first | refine blk_drewN ?_ _ | refine blk_drew ?_ | refine blk_alloc ?_ _)); exact BK451.out) hb); have n2_ := Aside0.mk (below_step (by repeat (first | (with_reducible first | exact HB.out | apply below_alloc | apply pw_below_drewN | apply below_drew1 | refine below_set ?_ GE440.out | refine below_set ?_ GE451.out) | exact HB.out)) hb); clear BK440; clear BK451; clear HB; have BK440 := n0_; have BK451 := n1_; have HB := n2_; clear n0_ n1_ n2_; (try clear hb); (try clear hb2); (try clear hk); (try clear hi)))
                      (try simp only [Act.put, List.setIfInBounds_toArray, List.set_cons_zero, List.set_cons_succ])
                      go_cut [121] (fun v121 wc => ∃ (kq : Nat) (x121_32 : Bool), v121 = .bool x121_32 ∧ Aside0 (abacuslaw04_IeeeNearest.j3 kq l0_1 l0_3 a0_4 (Int.tmod t443 9223372036854775808) ((Int.tmod (Int.tmod t443 9223372036854775808) 2) == 0) x13_25 x14_25 x121_32 t447 t448 t449 t450 = some r) ∧ Aside0 (kq ≤ kj25) ∧ Aside0 (wc.heap[gb440]? = some (.cells #[.bool a0_0, (.slice A0_1 l0_1.length c0_1), (.slice A0_2 l0_2.length c0_2), (.slice A0_3 l0_3.length c0_3), .int .i64 a0_4, .int .u8 a0_5] 24 (0, 0))) ∧ Aside0 (wc.heap[gb451]? = some (.cells #[.bool t447, .int .i64 t448, .int .u64 t449, .int .i64 t450] 35 (0, 0))) ∧ Aside0 (Below w.heap.size w wc))
                      case first =>
                        have H := HC33.out
                        clear HC33
                        by_cases c35 : t453 = true
                        · subst c35
                          have H1 : (if t452 < 0 then (abacuslaw04_IeeeNearest.j3 kj25 l0_1 l0_3 a0_4 (Int.tmod t443 9223372036854775808) ((Int.tmod (Int.tmod t443 9223372036854775808) 2) == 0) x13_25 x14_25 true t447 t448 t449 t450) else (if t452 = 0 then (abacuslaw04_IeeeNearest.j3 kj25 l0_1 l0_3 a0_4 (Int.tmod t443 9223372036854775808) ((Int.tmod (Int.tmod t443 9223372036854775808) 2) == 0) x13_25 x14_25 (!((Int.tmod (Int.tmod t443 9223372036854775808) 2) == 0)) t447 t448 t449 t450) else (abacuslaw04_IeeeNearest.j3 kj25 l0_1 l0_3 a0_4 (Int.tmod t443 9223372036854775808) ((Int.tmod (Int.tmod t443 9223372036854775808) 2) == 0) x13_25 x14_25 false t447 t448 t449 t450))) = some r := by rw [if_pos rfl] at H; exact H
                          clear H
                          have H := H1
                          clear H1
                          by_cases c36 : t452 < 0
                          · rw [if_pos c36] at H
                            have c36b0 : decide (t452 < 0) = true := decide_eq_true c36
                            clear c36
                            (first | rw [c36b0] | (simp only [i64_w, i32_w]; rw [c36b0]) | rw [c36b1] | skip)
                            have H' := Aside0.mk H
                            clear H
                            go_wp2
                            go_meet
                            case rel => exact ⟨_, (true), (by first | rfl | (simp; done) | (simp [*]; done)), H', ⟨by have := HJ3.out; have := HJ14.out; have := HJ25.out; first | omega | exact Nat.le_refl _⟩, ⟨by (with_reducible repeat (first | refine blk_drewN ?_ _ | refine blk_drew ?_ | refine blk_alloc ?_ _)); exact BK440.out⟩, ⟨by (with_reducible repeat (first | refine blk_drewN ?_ _ | refine blk_drew ?_ | refine blk_alloc ?_ _)); exact BK451.out⟩, ⟨by repeat (first | (with_reducible first | exact HB.out | apply below_alloc | apply pw_below_drewN | apply below_drew1 | refine below_set ?_ GE440.out | refine below_set ?_ GE451.out) | exact HB.out)⟩⟩
                          · rw [if_neg c36] at H
                            have c36b0 : decide (t452 < 0) = false := decide_eq_false c36
                            clear c36
                            (first | rw [c36b0] | (simp only [i64_w, i32_w]; rw [c36b0]) | rw [c36b1] | skip)
                            by_cases c37 : t452 = 0
                            · rw [if_pos c37] at H
                              have c37b0 : (t452 == 0) = true := beq_iff_eq.mpr c37
                              have c37b1 : (t452 != 0) = false := bne_eq_false_iff_eq.mpr c37
                              clear c37
                              have H' := Aside0.mk H
                              clear H
                              go_wp2
                              go_meet
                              case rel => exact ⟨_, (!((Int.tmod (Int.tmod t443 9223372036854775808) 2) == 0)), (by first | rfl | (simp; done) | (simp [*]; done)), H', ⟨by have := HJ3.out; have := HJ14.out; have := HJ25.out; first | omega | exact Nat.le_refl _⟩, ⟨by (with_reducible repeat (first | refine blk_drewN ?_ _ | refine blk_drew ?_ | refine blk_alloc ?_ _)); exact BK440.out⟩, ⟨by (with_reducible repeat (first | refine blk_drewN ?_ _ | refine blk_drew ?_ | refine blk_alloc ?_ _)); exact BK451.out⟩, ⟨by repeat (first | (with_reducible first | exact HB.out | apply below_alloc | apply pw_below_drewN | apply below_drew1 | refine below_set ?_ GE440.out | refine below_set ?_ GE451.out) | exact HB.out)⟩⟩
                            · rw [if_neg c37] at H
                              have c37b0 : (t452 == 0) = false := beq_eq_false_iff_ne.mpr c37
                              have c37b1 : (t452 != 0) = true := bne_iff_ne.mpr c37
                              have H' := Aside0.mk H
                              clear H
                              go_wp2
                              go_meet
                              case rel => exact ⟨_, (false), (by first | rfl | (simp; done) | (simp [*]; done)), H', ⟨by have := HJ3.out; have := HJ14.out; have := HJ25.out; first | omega | exact Nat.le_refl _⟩, ⟨by (with_reducible repeat (first | refine blk_drewN ?_ _ | refine blk_drew ?_ | refine blk_alloc ?_ _)); exact BK440.out⟩, ⟨by (with_reducible repeat (first | refine blk_drewN ?_ _ | refine blk_drew ?_ | refine blk_alloc ?_ _)); exact BK451.out⟩, ⟨by repeat (first | (with_reducible first | exact HB.out | apply below_alloc | apply pw_below_drewN | apply below_drew1 | refine below_set ?_ GE440.out | refine below_set ?_ GE451.out) | exact HB.out)⟩⟩
                        · replace c35 := Bool.eq_false_iff.mpr c35
                          subst c35
                          have H1 : (abacuslaw04_IeeeNearest.j3 kj25 l0_1 l0_3 a0_4 (Int.tmod t443 9223372036854775808) ((Int.tmod (Int.tmod t443 9223372036854775808) 2) == 0) x13_25 x14_25 true t447 t448 t449 t450) = some r := by rw [if_neg (show ¬ (false = true) by decide)] at H; exact H
                          clear H
                          have H := H1
                          clear H1
                          have H' := Aside0.mk H
                          clear H
                          go_wp2
                          go_meet
                          case rel => exact ⟨_, (true), (by first | rfl | (simp; done) | (simp [*]; done)), H', ⟨by have := HJ3.out; have := HJ14.out; have := HJ25.out; first | omega | exact Nat.le_refl _⟩, ⟨by (with_reducible repeat (first | refine blk_drewN ?_ _ | refine blk_drew ?_ | refine blk_alloc ?_ _)); exact BK440.out⟩, ⟨by (with_reducible repeat (first | refine blk_drewN ?_ _ | refine blk_drew ?_ | refine blk_alloc ?_ _)); exact BK451.out⟩, ⟨by repeat (first | (with_reducible first | exact HB.out | apply below_alloc | apply pw_below_drewN | apply below_drew1 | refine below_set ?_ GE440.out | refine below_set ?_ GE451.out) | exact HB.out)⟩⟩
                      case rest =>
                        clear HC33
                        try clear c1
                        try clear c2
                        try clear p2
                        try clear c3
                        try clear p6
                        try clear c7
                        try clear c8
                        try clear c8b0
                        try clear c8b1
                        try clear c9
                        try clear c9b0
                        try clear c9b1
                        try clear c10
                        try clear c10b0
                        try clear c11
                        try clear c11b0
                        try clear c12
                        try clear c13
                        try clear c16
                        try clear c17
                        try clear c17b0
                        try clear c17b1
                        try clear c18
                        try clear c18b0
                        try clear c18b1
                        try clear c18b2
                        try clear c19
                        try clear c20
                        try clear c20b0
                        try clear c20b1
                        try clear c22
                        try clear c28
                        try clear c29
                        try clear c31
                        try clear c31b0
                        try clear c31b1
                        try clear c35
                        try clear c36
                        try clear c36b0
                        try clear c36b1
                        try clear c37
                        try clear c37b0
                        try clear c37b1
                        try clear hcz30_0
                        try clear hcz30_1
                        try clear hcz30_2
                        try clear hcz30_3
                        try clear hcz7_0
                        try clear hcz7_1
                        try clear hcz7_2
                        try clear hcz7_3
                        try clear hcz7_4
                        try clear hcz7_5
                        try clear hfz30_0
                        try clear hfz30_1
                        try clear hfz30_2
                        try clear hfz30_3
                        try clear hfz7_0
                        try clear hfz7_1
                        try clear hfz7_2
                        try clear hfz7_3
                        try clear hfz7_4
                        try clear hfz7_5
                        try clear p2
                        try clear p6
                        obtain ⟨kq, x121_32, rfl, HA, HJ32, BK440, BK451, HB⟩ := hcut
                        cases kq with
                        | zero => exact absurd HA.out (by simp [abacuslaw04_IeeeNearest.j3])
                        | succ kj32 =>
                          have H := HA.out
                          clear HA
                          simp only [abacuslaw04_IeeeNearest.j3] at H
                          by_cases c38 : x121_32 = true
                          · subst c38
                            have H1 : (some false) = some r := by rw [if_pos rfl] at H; exact H
                            clear H
                            have H := H1
                            clear H1
                            obtain rfl := Option.some.inj H
                            go_wp2
                            go_ret
                            exact ⟨by first | rfl | (simp [errW_none, errW_some] <;> rfl) | (simp [*, errW_none, errW_some] <;> rfl), by repeat (first | (with_reducible first | exact HB.out | apply below_alloc | apply pw_below_drewN | apply below_drew1 | refine below_set ?_ GE440.out | refine below_set ?_ GE451.out) | exact HB.out)⟩
                          · replace c38 := Bool.eq_false_iff.mpr c38
                            subst c38
                            have H1 : (if (Int.tmod t443 9223372036854775808) = 0 then (some true) else (if t449 = 4503599627370496 then (if t450 > (-1074) then ((abacuslaw04_held.f kj32 (IntKind.u64.wrap ((IntKind.u64.wrap (2 * x13_25)) - 1)) (wrap64 (x14_25 - 1)) l0_1 l0_3 a0_4).bind fun bt454 => (if bt454.2 = true then (if bt454.1 < 0 then (some true) else (if bt454.1 = 0 then (some ((Int.tmod (Int.tmod t443 9223372036854775808) 2) == 0)) else (some false))) else (some false))) else ((abacuslaw04_held.f kj32 (IntKind.u64.wrap (x13_25 - 1)) x14_25 l0_1 l0_3 a0_4).bind fun bt456 => (if bt456.2 = true then (if bt456.1 < 0 then (some true) else (if bt456.1 = 0 then (some ((Int.tmod (Int.tmod t443 9223372036854775808) 2) == 0)) else (some false))) else (some false)))) else ((abacuslaw04_held.f kj32 (IntKind.u64.wrap (x13_25 - 1)) x14_25 l0_1 l0_3 a0_4).bind fun bt458 => (if bt458.2 = true then (if bt458.1 < 0 then (some true) else (if bt458.1 = 0 then (some ((Int.tmod (Int.tmod t443 9223372036854775808) 2) == 0)) else (some false))) else (some false))))) = some r := by rw [if_neg (show ¬ (false = true) by decide)] at H; exact H
                            clear H
                            have H := H1
                            clear H1
                            by_cases c39 : (Int.tmod t443 9223372036854775808) = 0
                            · rw [if_pos c39] at H
                              have c39b0 : ((Int.tmod t443 9223372036854775808) == 0) = true := beq_iff_eq.mpr c39
                              have c39b1 : ((Int.tmod t443 9223372036854775808) != 0) = false := bne_eq_false_iff_eq.mpr c39
                              clear c39
                              obtain rfl := Option.some.inj H
                              go_wp2
                              go_ret
                              exact ⟨by first | rfl | (simp [errW_none, errW_some] <;> rfl) | (simp [*, errW_none, errW_some] <;> rfl), by repeat (first | (with_reducible first | exact HB.out | apply below_alloc | apply pw_below_drewN | apply below_drew1 | refine below_set ?_ GE440.out | refine below_set ?_ GE451.out) | exact HB.out)⟩
                            · rw [if_neg c39] at H
                              have c39b0 : ((Int.tmod t443 9223372036854775808) == 0) = false := beq_eq_false_iff_ne.mpr c39
                              have c39b1 : ((Int.tmod t443 9223372036854775808) != 0) = true := bne_iff_ne.mpr c39
                              by_cases c40 : t449 = 4503599627370496
                              · rw [if_pos c40] at H
                                have c40b0 : (t449 == 4503599627370496) = true := beq_iff_eq.mpr c40
                                have c40b1 : (t449 != 4503599627370496) = false := bne_eq_false_iff_eq.mpr c40
                                clear c40
                                by_cases c41 : t450 > (-1074)
                                · rw [if_pos c41] at H
                                  have c41b0 : decide ((-1074) < t450) = true := decide_eq_true c41
                                  clear c41
                                  replace H := Option.bind_eq_some_iff.mp H
                                  obtain ⟨⟨t454, t455⟩, A420, H⟩ := H
                                  replace H : (if t455 = true then (if t454 < 0 then (some true) else (if t454 = 0 then (some ((Int.tmod (Int.tmod t443 9223372036854775808) 2) == 0)) else (some false))) else (some false)) = some r := H
                                  have A42 := Aside0.mk A420
                                  clear A420
                                  by_cases c43 : t455 = true
                                  · subst c43
                                    have H1 : (if t454 < 0 then (some true) else (if t454 = 0 then (some ((Int.tmod (Int.tmod t443 9223372036854775808) 2) == 0)) else (some false))) = some r := by rw [if_pos rfl] at H; exact H
                                    clear H
                                    have H := H1
                                    clear H1
                                    by_cases c44 : t454 < 0
                                    · rw [if_pos c44] at H
                                      have c44b0 : decide (t454 < 0) = true := decide_eq_true c44
                                      clear c44
                                      obtain rfl := Option.some.inj H
                                      have hnb45 := NB451_440.out
                                      have hnc45 := NB440_451.out
                                      have hcz46_0 : wc.cell? ⟨gb451, 0, none⟩ = some (.bool t447) := (blk_cell BK451.out 0).trans rfl
                                      have hcz46_1 : wc.cell? ⟨gb451, 1, none⟩ = some (.int .i64 t448) := (blk_cell BK451.out 1).trans rfl
                                      have hcz46_2 : wc.cell? ⟨gb451, 2, none⟩ = some (.int .u64 t449) := (blk_cell BK451.out 2).trans rfl
                                      have hcz46_3 : wc.cell? ⟨gb451, 3, none⟩ = some (.int .i64 t450) := (blk_cell BK451.out 3).trans rfl
                                      have hfz46_0 := blk_frozen BK451.out 0
                                      have hfz46_1 := blk_frozen BK451.out 1
                                      have hfz46_2 := blk_frozen BK451.out 2
                                      have hfz46_3 := blk_frozen BK451.out 3
                                      go_wp2_with (first | ((with_reducible refine gate_callee (f := 28) rfl ?_); refine goesL_ (some 143) rfl rfl Tryd.func28 (by kernel_rfl) rfl #[.int .u64 (IntKind.u64.wrap ((IntKind.u64.wrap (2 * x13_25)) - 1)), .int .i64 (wrap64 (x14_25 - 1)), .slice A0_1 l0_1.length c0_1, .slice A0_3 l0_3.length c0_3, .int .i64 a0_4] rfl (by (try simp only [List.map_toArray, List.map_cons, List.map_nil]); first | done | rfl | (simp only [List.length_drop, List.length_take]; rfl) | (simp only [gt_iff_lt, Int.natCast_pos]; done) | (simp only [gt_iff_lt, Int.natCast_pos]; rfl)) ?_; (with_reducible refine (abacuslaw04_held.calls kj32 (IntKind.u64.wrap ((IntKind.u64.wrap (2 * x13_25)) - 1)) (wrap64 (x14_25 - 1)) _ _ l0_1 _ _ l0_3 a0_4 t454 true _ ?side1 ?side2 ?side3 ?side4 A42.out).mono ?_); (case side1 => repeat (first | exact (Kd.C_below HR0_1.out HB.out) | (with_reducible refine Kd.C_alloc ?_ _) | (with_reducible refine Kd.C_drewN ?_ _) | (with_reducible refine Kd.C_drew ?_))); (case side2 => exact HC0_1.out); (case side3 => repeat (first | exact (Kd.C_below HR0_3.out HB.out) | (with_reducible refine Kd.C_alloc ?_ _) | (with_reducible refine Kd.C_drewN ?_ _) | (with_reducible refine Kd.C_drew ?_))); (case side4 => exact HC0_3.out); rintro e w47 ⟨rfl, hb⟩; refine ⟨_, rfl, ?_⟩; have n0_ := Aside0.mk (blk_below (g := gb440) (o := .cells #[.bool a0_0, .slice A0_1 l0_1.length c0_1, .slice A0_2 l0_2.length c0_2, .slice A0_3 l0_3.length c0_3, .int .i64 a0_4, .int .u8 a0_5] 24 (0, 0)) (by (with_reducible repeat (first | refine blk_drewN ?_ _ | refine blk_drew ?_ | refine blk_alloc ?_ _)); exact BK440.out) hb); have n1_ := Aside0.mk (blk_below (g := gb451) (o := .cells #[.bool t447, .int .i64 t448, .int .u64 t449, .int .i64 t450] 35 (0, 0)) (by (with_reducible repeat (first | refine blk_drewN ?_ _ | refine blk_drew ?_ | refine blk_alloc ?_ _)); exact BK451.out) hb); have n2_ := Aside0.mk (below_step (by repeat (first | (with_reducible first | exact HB.out | apply below_alloc | apply pw_below_drewN | apply below_drew1 | refine below_set ?_ GE440.out | refine below_set ?_ GE451.out) | exact HB.out)) hb); clear BK440; clear BK451; clear HB; have BK440 := n0_; have BK451 := n1_; have HB := n2_; clear n0_ n1_ n2_; (try clear hb); (try clear hb2); (try clear hk); (try clear hi)))
                                      go_ret
                                      exact ⟨by first | rfl | (simp [errW_none, errW_some] <;> rfl) | (simp [*, errW_none, errW_some] <;> rfl), by repeat (first | (with_reducible first | exact HB.out | apply below_alloc | apply pw_below_drewN | apply below_drew1 | refine below_set ?_ GE440.out | refine below_set ?_ GE451.out) | exact HB.out)⟩
                                    · rw [if_neg c44] at H
                                      have c44b0 : decide (t454 < 0) = false := decide_eq_false c44
                                      clear c44
                                      by_cases c48 : t454 = 0
                                      · rw [if_pos c48] at H
                                        have c48b0 : (t454 == 0) = true := beq_iff_eq.mpr c48
                                        have c48b1 : (t454 != 0) = false := bne_eq_false_iff_eq.mpr c48
                                        clear c48
                                        obtain rfl := Option.some.inj H
                                        have hnb49 := NB451_440.out
                                        have hnc49 := NB440_451.out
                                        have hcz50_0 : wc.cell? ⟨gb451, 0, none⟩ = some (.bool t447) := (blk_cell BK451.out 0).trans rfl
                                        have hcz50_1 : wc.cell? ⟨gb451, 1, none⟩ = some (.int .i64 t448) := (blk_cell BK451.out 1).trans rfl
                                        have hcz50_2 : wc.cell? ⟨gb451, 2, none⟩ = some (.int .u64 t449) := (blk_cell BK451.out 2).trans rfl
                                        have hcz50_3 : wc.cell? ⟨gb451, 3, none⟩ = some (.int .i64 t450) := (blk_cell BK451.out 3).trans rfl
                                        have hfz50_0 := blk_frozen BK451.out 0
                                        have hfz50_1 := blk_frozen BK451.out 1
                                        have hfz50_2 := blk_frozen BK451.out 2
                                        have hfz50_3 := blk_frozen BK451.out 3
                                        go_wp2_with (first | ((with_reducible refine gate_callee (f := 28) rfl ?_); refine goesL_ (some 143) rfl rfl Tryd.func28 (by kernel_rfl) rfl #[.int .u64 (IntKind.u64.wrap ((IntKind.u64.wrap (2 * x13_25)) - 1)), .int .i64 (wrap64 (x14_25 - 1)), .slice A0_1 l0_1.length c0_1, .slice A0_3 l0_3.length c0_3, .int .i64 a0_4] rfl (by (try simp only [List.map_toArray, List.map_cons, List.map_nil]); first | done | rfl | (simp only [List.length_drop, List.length_take]; rfl) | (simp only [gt_iff_lt, Int.natCast_pos]; done) | (simp only [gt_iff_lt, Int.natCast_pos]; rfl)) ?_; (with_reducible refine (abacuslaw04_held.calls kj32 (IntKind.u64.wrap ((IntKind.u64.wrap (2 * x13_25)) - 1)) (wrap64 (x14_25 - 1)) _ _ l0_1 _ _ l0_3 a0_4 t454 true _ ?side1 ?side2 ?side3 ?side4 A42.out).mono ?_); (case side1 => repeat (first | exact (Kd.C_below HR0_1.out HB.out) | (with_reducible refine Kd.C_alloc ?_ _) | (with_reducible refine Kd.C_drewN ?_ _) | (with_reducible refine Kd.C_drew ?_))); (case side2 => exact HC0_1.out); (case side3 => repeat (first | exact (Kd.C_below HR0_3.out HB.out) | (with_reducible refine Kd.C_alloc ?_ _) | (with_reducible refine Kd.C_drewN ?_ _) | (with_reducible refine Kd.C_drew ?_))); (case side4 => exact HC0_3.out); rintro e w51 ⟨rfl, hb⟩; refine ⟨_, rfl, ?_⟩; have n0_ := Aside0.mk (blk_below (g := gb440) (o := .cells #[.bool a0_0, .slice A0_1 l0_1.length c0_1, .slice A0_2 l0_2.length c0_2, .slice A0_3 l0_3.length c0_3, .int .i64 a0_4, .int .u8 a0_5] 24 (0, 0)) (by (with_reducible repeat (first | refine blk_drewN ?_ _ | refine blk_drew ?_ | refine blk_alloc ?_ _)); exact BK440.out) hb); have n1_ := Aside0.mk (blk_below (g := gb451) (o := .cells #[.bool t447, .int .i64 t448, .int .u64 t449, .int .i64 t450] 35 (0, 0)) (by (with_reducible repeat (first | refine blk_drewN ?_ _ | refine blk_drew ?_ | refine blk_alloc ?_ _)); exact BK451.out) hb); have n2_ := Aside0.mk (below_step (by repeat (first | (with_reducible first | exact HB.out | apply below_alloc | apply pw_below_drewN | apply below_drew1 | refine below_set ?_ GE440.out | refine below_set ?_ GE451.out) | exact HB.out)) hb); clear BK440; clear BK451; clear HB; have BK440 := n0_; have BK451 := n1_; have HB := n2_; clear n0_ n1_ n2_; (try clear hb); (try clear hb2); (try clear hk); (try clear hi)))
                                        go_ret
                                        exact ⟨by first | rfl | (simp [errW_none, errW_some] <;> rfl) | (simp [*, errW_none, errW_some] <;> rfl), by repeat (first | (with_reducible first | exact HB.out | apply below_alloc | apply pw_below_drewN | apply below_drew1 | refine below_set ?_ GE440.out | refine below_set ?_ GE451.out) | exact HB.out)⟩
                                      · rw [if_neg c48] at H
                                        have c48b0 : (t454 == 0) = false := beq_eq_false_iff_ne.mpr c48
                                        have c48b1 : (t454 != 0) = true := bne_iff_ne.mpr c48
                                        obtain rfl := Option.some.inj H
                                        have hnb52 := NB451_440.out
                                        have hnc52 := NB440_451.out
                                        have hcz53_0 : wc.cell? ⟨gb451, 0, none⟩ = some (.bool t447) := (blk_cell BK451.out 0).trans rfl
                                        have hcz53_1 : wc.cell? ⟨gb451, 1, none⟩ = some (.int .i64 t448) := (blk_cell BK451.out 1).trans rfl
                                        have hcz53_2 : wc.cell? ⟨gb451, 2, none⟩ = some (.int .u64 t449) := (blk_cell BK451.out 2).trans rfl
                                        have hcz53_3 : wc.cell? ⟨gb451, 3, none⟩ = some (.int .i64 t450) := (blk_cell BK451.out 3).trans rfl
                                        have hfz53_0 := blk_frozen BK451.out 0
                                        have hfz53_1 := blk_frozen BK451.out 1
                                        have hfz53_2 := blk_frozen BK451.out 2
                                        have hfz53_3 := blk_frozen BK451.out 3
                                        go_wp2_with (first | ((with_reducible refine gate_callee (f := 28) rfl ?_); refine goesL_ (some 143) rfl rfl Tryd.func28 (by kernel_rfl) rfl #[.int .u64 (IntKind.u64.wrap ((IntKind.u64.wrap (2 * x13_25)) - 1)), .int .i64 (wrap64 (x14_25 - 1)), .slice A0_1 l0_1.length c0_1, .slice A0_3 l0_3.length c0_3, .int .i64 a0_4] rfl (by (try simp only [List.map_toArray, List.map_cons, List.map_nil]); first | done | rfl | (simp only [List.length_drop, List.length_take]; rfl) | (simp only [gt_iff_lt, Int.natCast_pos]; done) | (simp only [gt_iff_lt, Int.natCast_pos]; rfl)) ?_; (with_reducible refine (abacuslaw04_held.calls kj32 (IntKind.u64.wrap ((IntKind.u64.wrap (2 * x13_25)) - 1)) (wrap64 (x14_25 - 1)) _ _ l0_1 _ _ l0_3 a0_4 t454 true _ ?side1 ?side2 ?side3 ?side4 A42.out).mono ?_); (case side1 => repeat (first | exact (Kd.C_below HR0_1.out HB.out) | (with_reducible refine Kd.C_alloc ?_ _) | (with_reducible refine Kd.C_drewN ?_ _) | (with_reducible refine Kd.C_drew ?_))); (case side2 => exact HC0_1.out); (case side3 => repeat (first | exact (Kd.C_below HR0_3.out HB.out) | (with_reducible refine Kd.C_alloc ?_ _) | (with_reducible refine Kd.C_drewN ?_ _) | (with_reducible refine Kd.C_drew ?_))); (case side4 => exact HC0_3.out); rintro e w54 ⟨rfl, hb⟩; refine ⟨_, rfl, ?_⟩; have n0_ := Aside0.mk (blk_below (g := gb440) (o := .cells #[.bool a0_0, .slice A0_1 l0_1.length c0_1, .slice A0_2 l0_2.length c0_2, .slice A0_3 l0_3.length c0_3, .int .i64 a0_4, .int .u8 a0_5] 24 (0, 0)) (by (with_reducible repeat (first | refine blk_drewN ?_ _ | refine blk_drew ?_ | refine blk_alloc ?_ _)); exact BK440.out) hb); have n1_ := Aside0.mk (blk_below (g := gb451) (o := .cells #[.bool t447, .int .i64 t448, .int .u64 t449, .int .i64 t450] 35 (0, 0)) (by (with_reducible repeat (first | refine blk_drewN ?_ _ | refine blk_drew ?_ | refine blk_alloc ?_ _)); exact BK451.out) hb); have n2_ := Aside0.mk (below_step (by repeat (first | (with_reducible first | exact HB.out | apply below_alloc | apply pw_below_drewN | apply below_drew1 | refine below_set ?_ GE440.out | refine below_set ?_ GE451.out) | exact HB.out)) hb); clear BK440; clear BK451; clear HB; have BK440 := n0_; have BK451 := n1_; have HB := n2_; clear n0_ n1_ n2_; (try clear hb); (try clear hb2); (try clear hk); (try clear hi)))
                                        go_ret
                                        exact ⟨by first | rfl | (simp [errW_none, errW_some] <;> rfl) | (simp [*, errW_none, errW_some] <;> rfl), by repeat (first | (with_reducible first | exact HB.out | apply below_alloc | apply pw_below_drewN | apply below_drew1 | refine below_set ?_ GE440.out | refine below_set ?_ GE451.out) | exact HB.out)⟩
                                  · replace c43 := Bool.eq_false_iff.mpr c43
                                    subst c43
                                    have H1 : (some false) = some r := by rw [if_neg (show ¬ (false = true) by decide)] at H; exact H
                                    clear H
                                    have H := H1
                                    clear H1
                                    obtain rfl := Option.some.inj H
                                    have hnb55 := NB451_440.out
                                    have hnc55 := NB440_451.out
                                    have hcz56_0 : wc.cell? ⟨gb451, 0, none⟩ = some (.bool t447) := (blk_cell BK451.out 0).trans rfl
                                    have hcz56_1 : wc.cell? ⟨gb451, 1, none⟩ = some (.int .i64 t448) := (blk_cell BK451.out 1).trans rfl
                                    have hcz56_2 : wc.cell? ⟨gb451, 2, none⟩ = some (.int .u64 t449) := (blk_cell BK451.out 2).trans rfl
                                    have hcz56_3 : wc.cell? ⟨gb451, 3, none⟩ = some (.int .i64 t450) := (blk_cell BK451.out 3).trans rfl
                                    have hfz56_0 := blk_frozen BK451.out 0
                                    have hfz56_1 := blk_frozen BK451.out 1
                                    have hfz56_2 := blk_frozen BK451.out 2
                                    have hfz56_3 := blk_frozen BK451.out 3
                                    go_wp2_with (first | ((with_reducible refine gate_callee (f := 28) rfl ?_); refine goesL_ (some 143) rfl rfl Tryd.func28 (by kernel_rfl) rfl #[.int .u64 (IntKind.u64.wrap ((IntKind.u64.wrap (2 * x13_25)) - 1)), .int .i64 (wrap64 (x14_25 - 1)), .slice A0_1 l0_1.length c0_1, .slice A0_3 l0_3.length c0_3, .int .i64 a0_4] rfl (by (try simp only [List.map_toArray, List.map_cons, List.map_nil]); first | done | rfl | (simp only [List.length_drop, List.length_take]; rfl) | (simp only [gt_iff_lt, Int.natCast_pos]; done) | (simp only [gt_iff_lt, Int.natCast_pos]; rfl)) ?_; (with_reducible refine (abacuslaw04_held.calls kj32 (IntKind.u64.wrap ((IntKind.u64.wrap (2 * x13_25)) - 1)) (wrap64 (x14_25 - 1)) _ _ l0_1 _ _ l0_3 a0_4 t454 false _ ?side1 ?side2 ?side3 ?side4 A42.out).mono ?_); (case side1 => repeat (first | exact (Kd.C_below HR0_1.out HB.out) | (with_reducible refine Kd.C_alloc ?_ _) | (with_reducible refine Kd.C_drewN ?_ _) | (with_reducible refine Kd.C_drew ?_))); (case side2 => exact HC0_1.out); (case side3 => repeat (first | exact (Kd.C_below HR0_3.out HB.out) | (with_reducible refine Kd.C_alloc ?_ _) | (with_reducible refine Kd.C_drewN ?_ _) | (with_reducible refine Kd.C_drew ?_))); (case side4 => exact HC0_3.out); rintro e w57 ⟨rfl, hb⟩; refine ⟨_, rfl, ?_⟩; have n0_ := Aside0.mk (blk_below (g := gb440) (o := .cells #[.bool a0_0, .slice A0_1 l0_1.length c0_1, .slice A0_2 l0_2.length c0_2, .slice A0_3 l0_3.length c0_3, .int .i64 a0_4, .int .u8 a0_5] 24 (0, 0)) (by (with_reducible repeat (first | refine blk_drewN ?_ _ | refine blk_drew ?_ | refine blk_alloc ?_ _)); exact BK440.out) hb); have n1_ := Aside0.mk (blk_below (g := gb451) (o := .cells #[.bool t447, .int .i64 t448, .int .u64 t449, .int .i64 t450] 35 (0, 0)) (by (with_reducible repeat (first | refine blk_drewN ?_ _ | refine blk_drew ?_ | refine blk_alloc ?_ _)); exact BK451.out) hb); have n2_ := Aside0.mk (below_step (by repeat (first | (with_reducible first | exact HB.out | apply below_alloc | apply pw_below_drewN | apply below_drew1 | refine below_set ?_ GE440.out | refine below_set ?_ GE451.out) | exact HB.out)) hb); clear BK440; clear BK451; clear HB; have BK440 := n0_; have BK451 := n1_; have HB := n2_; clear n0_ n1_ n2_; (try clear hb); (try clear hb2); (try clear hk); (try clear hi)))
                                    go_ret
                                    exact ⟨by first | rfl | (simp [errW_none, errW_some] <;> rfl) | (simp [*, errW_none, errW_some] <;> rfl), by repeat (first | (with_reducible first | exact HB.out | apply below_alloc | apply pw_below_drewN | apply below_drew1 | refine below_set ?_ GE440.out | refine below_set ?_ GE451.out) | exact HB.out)⟩
                                · rw [if_neg c41] at H
                                  have c41b0 : decide ((-1074) < t450) = false := decide_eq_false c41
                                  clear c41
                                  replace H := Option.bind_eq_some_iff.mp H
                                  obtain ⟨⟨t456, t457⟩, A580, H⟩ := H
                                  replace H : (if t457 = true then (if t456 < 0 then (some true) else (if t456 = 0 then (some ((Int.tmod (Int.tmod t443 9223372036854775808) 2) == 0)) else (some false))) else (some false)) = some r := H
                                  have A58 := Aside0.mk A580
                                  clear A580
                                  by_cases c59 : t457 = true
                                  · subst c59
                                    have H1 : (if t456 < 0 then (some true) else (if t456 = 0 then (some ((Int.tmod (Int.tmod t443 9223372036854775808) 2) == 0)) else (some false))) = some r := by rw [if_pos rfl] at H; exact H
                                    clear H
                                    have H := H1
                                    clear H1
                                    by_cases c60 : t456 < 0
                                    · rw [if_pos c60] at H
                                      have c60b0 : decide (t456 < 0) = true := decide_eq_true c60
                                      clear c60
                                      obtain rfl := Option.some.inj H
                                      have hnb61 := NB451_440.out
                                      have hnc61 := NB440_451.out
                                      have hcz62_0 : wc.cell? ⟨gb451, 0, none⟩ = some (.bool t447) := (blk_cell BK451.out 0).trans rfl
                                      have hcz62_1 : wc.cell? ⟨gb451, 1, none⟩ = some (.int .i64 t448) := (blk_cell BK451.out 1).trans rfl
                                      have hcz62_2 : wc.cell? ⟨gb451, 2, none⟩ = some (.int .u64 t449) := (blk_cell BK451.out 2).trans rfl
                                      have hcz62_3 : wc.cell? ⟨gb451, 3, none⟩ = some (.int .i64 t450) := (blk_cell BK451.out 3).trans rfl
                                      have hfz62_0 := blk_frozen BK451.out 0
                                      have hfz62_1 := blk_frozen BK451.out 1
                                      have hfz62_2 := blk_frozen BK451.out 2
                                      have hfz62_3 := blk_frozen BK451.out 3
                                      go_wp2_with (first | ((with_reducible refine gate_callee (f := 28) rfl ?_); refine goesL_ (some 143) rfl rfl Tryd.func28 (by kernel_rfl) rfl #[.int .u64 (IntKind.u64.wrap (x13_25 - 1)), .int .i64 x14_25, .slice A0_1 l0_1.length c0_1, .slice A0_3 l0_3.length c0_3, .int .i64 a0_4] rfl (by (try simp only [List.map_toArray, List.map_cons, List.map_nil]); first | done | rfl | (simp only [List.length_drop, List.length_take]; rfl) | (simp only [gt_iff_lt, Int.natCast_pos]; done) | (simp only [gt_iff_lt, Int.natCast_pos]; rfl)) ?_; (with_reducible refine (abacuslaw04_held.calls kj32 (IntKind.u64.wrap (x13_25 - 1)) x14_25 _ _ l0_1 _ _ l0_3 a0_4 t456 true _ ?side1 ?side2 ?side3 ?side4 A58.out).mono ?_); (case side1 => repeat (first | exact (Kd.C_below HR0_1.out HB.out) | (with_reducible refine Kd.C_alloc ?_ _) | (with_reducible refine Kd.C_drewN ?_ _) | (with_reducible refine Kd.C_drew ?_))); (case side2 => exact HC0_1.out); (case side3 => repeat (first | exact (Kd.C_below HR0_3.out HB.out) | (with_reducible refine Kd.C_alloc ?_ _) | (with_reducible refine Kd.C_drewN ?_ _) | (with_reducible refine Kd.C_drew ?_))); (case side4 => exact HC0_3.out); rintro e w63 ⟨rfl, hb⟩; refine ⟨_, rfl, ?_⟩; have n0_ := Aside0.mk (blk_below (g := gb440) (o := .cells #[.bool a0_0, .slice A0_1 l0_1.length c0_1, .slice A0_2 l0_2.length c0_2, .slice A0_3 l0_3.length c0_3, .int .i64 a0_4, .int .u8 a0_5] 24 (0, 0)) (by (with_reducible repeat (first | refine blk_drewN ?_ _ | refine blk_drew ?_ | refine blk_alloc ?_ _)); exact BK440.out) hb); have n1_ := Aside0.mk (blk_below (g := gb451) (o := .cells #[.bool t447, .int .i64 t448, .int .u64 t449, .int .i64 t450] 35 (0, 0)) (by (with_reducible repeat (first | refine blk_drewN ?_ _ | refine blk_drew ?_ | refine blk_alloc ?_ _)); exact BK451.out) hb); have n2_ := Aside0.mk (below_step (by repeat (first | (with_reducible first | exact HB.out | apply below_alloc | apply pw_below_drewN | apply below_drew1 | refine below_set ?_ GE440.out | refine below_set ?_ GE451.out) | exact HB.out)) hb); clear BK440; clear BK451; clear HB; have BK440 := n0_; have BK451 := n1_; have HB := n2_; clear n0_ n1_ n2_; (try clear hb); (try clear hb2); (try clear hk); (try clear hi)))
                                      go_ret
                                      exact ⟨by first | rfl | (simp [errW_none, errW_some] <;> rfl) | (simp [*, errW_none, errW_some] <;> rfl), by repeat (first | (with_reducible first | exact HB.out | apply below_alloc | apply pw_below_drewN | apply below_drew1 | refine below_set ?_ GE440.out | refine below_set ?_ GE451.out) | exact HB.out)⟩
                                    · rw [if_neg c60] at H
                                      have c60b0 : decide (t456 < 0) = false := decide_eq_false c60
                                      clear c60
                                      by_cases c64 : t456 = 0
                                      · rw [if_pos c64] at H
                                        have c64b0 : (t456 == 0) = true := beq_iff_eq.mpr c64
                                        have c64b1 : (t456 != 0) = false := bne_eq_false_iff_eq.mpr c64
                                        clear c64
                                        obtain rfl := Option.some.inj H
                                        have hnb65 := NB451_440.out
                                        have hnc65 := NB440_451.out
                                        have hcz66_0 : wc.cell? ⟨gb451, 0, none⟩ = some (.bool t447) := (blk_cell BK451.out 0).trans rfl
                                        have hcz66_1 : wc.cell? ⟨gb451, 1, none⟩ = some (.int .i64 t448) := (blk_cell BK451.out 1).trans rfl
                                        have hcz66_2 : wc.cell? ⟨gb451, 2, none⟩ = some (.int .u64 t449) := (blk_cell BK451.out 2).trans rfl
                                        have hcz66_3 : wc.cell? ⟨gb451, 3, none⟩ = some (.int .i64 t450) := (blk_cell BK451.out 3).trans rfl
                                        have hfz66_0 := blk_frozen BK451.out 0
                                        have hfz66_1 := blk_frozen BK451.out 1
                                        have hfz66_2 := blk_frozen BK451.out 2
                                        have hfz66_3 := blk_frozen BK451.out 3
                                        go_wp2_with (first | ((with_reducible refine gate_callee (f := 28) rfl ?_); refine goesL_ (some 143) rfl rfl Tryd.func28 (by kernel_rfl) rfl #[.int .u64 (IntKind.u64.wrap (x13_25 - 1)), .int .i64 x14_25, .slice A0_1 l0_1.length c0_1, .slice A0_3 l0_3.length c0_3, .int .i64 a0_4] rfl (by (try simp only [List.map_toArray, List.map_cons, List.map_nil]); first | done | rfl | (simp only [List.length_drop, List.length_take]; rfl) | (simp only [gt_iff_lt, Int.natCast_pos]; done) | (simp only [gt_iff_lt, Int.natCast_pos]; rfl)) ?_; (with_reducible refine (abacuslaw04_held.calls kj32 (IntKind.u64.wrap (x13_25 - 1)) x14_25 _ _ l0_1 _ _ l0_3 a0_4 t456 true _ ?side1 ?side2 ?side3 ?side4 A58.out).mono ?_); (case side1 => repeat (first | exact (Kd.C_below HR0_1.out HB.out) | (with_reducible refine Kd.C_alloc ?_ _) | (with_reducible refine Kd.C_drewN ?_ _) | (with_reducible refine Kd.C_drew ?_))); (case side2 => exact HC0_1.out); (case side3 => repeat (first | exact (Kd.C_below HR0_3.out HB.out) | (with_reducible refine Kd.C_alloc ?_ _) | (with_reducible refine Kd.C_drewN ?_ _) | (with_reducible refine Kd.C_drew ?_))); (case side4 => exact HC0_3.out); rintro e w67 ⟨rfl, hb⟩; refine ⟨_, rfl, ?_⟩; have n0_ := Aside0.mk (blk_below (g := gb440) (o := .cells #[.bool a0_0, .slice A0_1 l0_1.length c0_1, .slice A0_2 l0_2.length c0_2, .slice A0_3 l0_3.length c0_3, .int .i64 a0_4, .int .u8 a0_5] 24 (0, 0)) (by (with_reducible repeat (first | refine blk_drewN ?_ _ | refine blk_drew ?_ | refine blk_alloc ?_ _)); exact BK440.out) hb); have n1_ := Aside0.mk (blk_below (g := gb451) (o := .cells #[.bool t447, .int .i64 t448, .int .u64 t449, .int .i64 t450] 35 (0, 0)) (by (with_reducible repeat (first | refine blk_drewN ?_ _ | refine blk_drew ?_ | refine blk_alloc ?_ _)); exact BK451.out) hb); have n2_ := Aside0.mk (below_step (by repeat (first | (with_reducible first | exact HB.out | apply below_alloc | apply pw_below_drewN | apply below_drew1 | refine below_set ?_ GE440.out | refine below_set ?_ GE451.out) | exact HB.out)) hb); clear BK440; clear BK451; clear HB; have BK440 := n0_; have BK451 := n1_; have HB := n2_; clear n0_ n1_ n2_; (try clear hb); (try clear hb2); (try clear hk); (try clear hi)))
                                        go_ret
                                        exact ⟨by first | rfl | (simp [errW_none, errW_some] <;> rfl) | (simp [*, errW_none, errW_some] <;> rfl), by repeat (first | (with_reducible first | exact HB.out | apply below_alloc | apply pw_below_drewN | apply below_drew1 | refine below_set ?_ GE440.out | refine below_set ?_ GE451.out) | exact HB.out)⟩
                                      · rw [if_neg c64] at H
                                        have c64b0 : (t456 == 0) = false := beq_eq_false_iff_ne.mpr c64
                                        have c64b1 : (t456 != 0) = true := bne_iff_ne.mpr c64
                                        obtain rfl := Option.some.inj H
                                        have hnb68 := NB451_440.out
                                        have hnc68 := NB440_451.out
                                        have hcz69_0 : wc.cell? ⟨gb451, 0, none⟩ = some (.bool t447) := (blk_cell BK451.out 0).trans rfl
                                        have hcz69_1 : wc.cell? ⟨gb451, 1, none⟩ = some (.int .i64 t448) := (blk_cell BK451.out 1).trans rfl
                                        have hcz69_2 : wc.cell? ⟨gb451, 2, none⟩ = some (.int .u64 t449) := (blk_cell BK451.out 2).trans rfl
                                        have hcz69_3 : wc.cell? ⟨gb451, 3, none⟩ = some (.int .i64 t450) := (blk_cell BK451.out 3).trans rfl
                                        have hfz69_0 := blk_frozen BK451.out 0
                                        have hfz69_1 := blk_frozen BK451.out 1
                                        have hfz69_2 := blk_frozen BK451.out 2
                                        have hfz69_3 := blk_frozen BK451.out 3
                                        go_wp2_with (first | ((with_reducible refine gate_callee (f := 28) rfl ?_); refine goesL_ (some 143) rfl rfl Tryd.func28 (by kernel_rfl) rfl #[.int .u64 (IntKind.u64.wrap (x13_25 - 1)), .int .i64 x14_25, .slice A0_1 l0_1.length c0_1, .slice A0_3 l0_3.length c0_3, .int .i64 a0_4] rfl (by (try simp only [List.map_toArray, List.map_cons, List.map_nil]); first | done | rfl | (simp only [List.length_drop, List.length_take]; rfl) | (simp only [gt_iff_lt, Int.natCast_pos]; done) | (simp only [gt_iff_lt, Int.natCast_pos]; rfl)) ?_; (with_reducible refine (abacuslaw04_held.calls kj32 (IntKind.u64.wrap (x13_25 - 1)) x14_25 _ _ l0_1 _ _ l0_3 a0_4 t456 true _ ?side1 ?side2 ?side3 ?side4 A58.out).mono ?_); (case side1 => repeat (first | exact (Kd.C_below HR0_1.out HB.out) | (with_reducible refine Kd.C_alloc ?_ _) | (with_reducible refine Kd.C_drewN ?_ _) | (with_reducible refine Kd.C_drew ?_))); (case side2 => exact HC0_1.out); (case side3 => repeat (first | exact (Kd.C_below HR0_3.out HB.out) | (with_reducible refine Kd.C_alloc ?_ _) | (with_reducible refine Kd.C_drewN ?_ _) | (with_reducible refine Kd.C_drew ?_))); (case side4 => exact HC0_3.out); rintro e w70 ⟨rfl, hb⟩; refine ⟨_, rfl, ?_⟩; have n0_ := Aside0.mk (blk_below (g := gb440) (o := .cells #[.bool a0_0, .slice A0_1 l0_1.length c0_1, .slice A0_2 l0_2.length c0_2, .slice A0_3 l0_3.length c0_3, .int .i64 a0_4, .int .u8 a0_5] 24 (0, 0)) (by (with_reducible repeat (first | refine blk_drewN ?_ _ | refine blk_drew ?_ | refine blk_alloc ?_ _)); exact BK440.out) hb); have n1_ := Aside0.mk (blk_below (g := gb451) (o := .cells #[.bool t447, .int .i64 t448, .int .u64 t449, .int .i64 t450] 35 (0, 0)) (by (with_reducible repeat (first | refine blk_drewN ?_ _ | refine blk_drew ?_ | refine blk_alloc ?_ _)); exact BK451.out) hb); have n2_ := Aside0.mk (below_step (by repeat (first | (with_reducible first | exact HB.out | apply below_alloc | apply pw_below_drewN | apply below_drew1 | refine below_set ?_ GE440.out | refine below_set ?_ GE451.out) | exact HB.out)) hb); clear BK440; clear BK451; clear HB; have BK440 := n0_; have BK451 := n1_; have HB := n2_; clear n0_ n1_ n2_; (try clear hb); (try clear hb2); (try clear hk); (try clear hi)))
                                        go_ret
                                        exact ⟨by first | rfl | (simp [errW_none, errW_some] <;> rfl) | (simp [*, errW_none, errW_some] <;> rfl), by repeat (first | (with_reducible first | exact HB.out | apply below_alloc | apply pw_below_drewN | apply below_drew1 | refine below_set ?_ GE440.out | refine below_set ?_ GE451.out) | exact HB.out)⟩
                                  · replace c59 := Bool.eq_false_iff.mpr c59
                                    subst c59
                                    have H1 : (some false) = some r := by rw [if_neg (show ¬ (false = true) by decide)] at H; exact H
                                    clear H
                                    have H := H1
                                    clear H1
                                    obtain rfl := Option.some.inj H
                                    have hnb71 := NB451_440.out
                                    have hnc71 := NB440_451.out
                                    have hcz72_0 : wc.cell? ⟨gb451, 0, none⟩ = some (.bool t447) := (blk_cell BK451.out 0).trans rfl
                                    have hcz72_1 : wc.cell? ⟨gb451, 1, none⟩ = some (.int .i64 t448) := (blk_cell BK451.out 1).trans rfl
                                    have hcz72_2 : wc.cell? ⟨gb451, 2, none⟩ = some (.int .u64 t449) := (blk_cell BK451.out 2).trans rfl
                                    have hcz72_3 : wc.cell? ⟨gb451, 3, none⟩ = some (.int .i64 t450) := (blk_cell BK451.out 3).trans rfl
                                    have hfz72_0 := blk_frozen BK451.out 0
                                    have hfz72_1 := blk_frozen BK451.out 1
                                    have hfz72_2 := blk_frozen BK451.out 2
                                    have hfz72_3 := blk_frozen BK451.out 3
                                    go_wp2_with (first | ((with_reducible refine gate_callee (f := 28) rfl ?_); refine goesL_ (some 143) rfl rfl Tryd.func28 (by kernel_rfl) rfl #[.int .u64 (IntKind.u64.wrap (x13_25 - 1)), .int .i64 x14_25, .slice A0_1 l0_1.length c0_1, .slice A0_3 l0_3.length c0_3, .int .i64 a0_4] rfl (by (try simp only [List.map_toArray, List.map_cons, List.map_nil]); first | done | rfl | (simp only [List.length_drop, List.length_take]; rfl) | (simp only [gt_iff_lt, Int.natCast_pos]; done) | (simp only [gt_iff_lt, Int.natCast_pos]; rfl)) ?_; (with_reducible refine (abacuslaw04_held.calls kj32 (IntKind.u64.wrap (x13_25 - 1)) x14_25 _ _ l0_1 _ _ l0_3 a0_4 t456 false _ ?side1 ?side2 ?side3 ?side4 A58.out).mono ?_); (case side1 => repeat (first | exact (Kd.C_below HR0_1.out HB.out) | (with_reducible refine Kd.C_alloc ?_ _) | (with_reducible refine Kd.C_drewN ?_ _) | (with_reducible refine Kd.C_drew ?_))); (case side2 => exact HC0_1.out); (case side3 => repeat (first | exact (Kd.C_below HR0_3.out HB.out) | (with_reducible refine Kd.C_alloc ?_ _) | (with_reducible refine Kd.C_drewN ?_ _) | (with_reducible refine Kd.C_drew ?_))); (case side4 => exact HC0_3.out); rintro e w73 ⟨rfl, hb⟩; refine ⟨_, rfl, ?_⟩; have n0_ := Aside0.mk (blk_below (g := gb440) (o := .cells #[.bool a0_0, .slice A0_1 l0_1.length c0_1, .slice A0_2 l0_2.length c0_2, .slice A0_3 l0_3.length c0_3, .int .i64 a0_4, .int .u8 a0_5] 24 (0, 0)) (by (with_reducible repeat (first | refine blk_drewN ?_ _ | refine blk_drew ?_ | refine blk_alloc ?_ _)); exact BK440.out) hb); have n1_ := Aside0.mk (blk_below (g := gb451) (o := .cells #[.bool t447, .int .i64 t448, .int .u64 t449, .int .i64 t450] 35 (0, 0)) (by (with_reducible repeat (first | refine blk_drewN ?_ _ | refine blk_drew ?_ | refine blk_alloc ?_ _)); exact BK451.out) hb); have n2_ := Aside0.mk (below_step (by repeat (first | (with_reducible first | exact HB.out | apply below_alloc | apply pw_below_drewN | apply below_drew1 | refine below_set ?_ GE440.out | refine below_set ?_ GE451.out) | exact HB.out)) hb); clear BK440; clear BK451; clear HB; have BK440 := n0_; have BK451 := n1_; have HB := n2_; clear n0_ n1_ n2_; (try clear hb); (try clear hb2); (try clear hk); (try clear hi)))
                                    go_ret
                                    exact ⟨by first | rfl | (simp [errW_none, errW_some] <;> rfl) | (simp [*, errW_none, errW_some] <;> rfl), by repeat (first | (with_reducible first | exact HB.out | apply below_alloc | apply pw_below_drewN | apply below_drew1 | refine below_set ?_ GE440.out | refine below_set ?_ GE451.out) | exact HB.out)⟩
                              · rw [if_neg c40] at H
                                have c40b0 : (t449 == 4503599627370496) = false := beq_eq_false_iff_ne.mpr c40
                                have c40b1 : (t449 != 4503599627370496) = true := bne_iff_ne.mpr c40
                                replace H := Option.bind_eq_some_iff.mp H
                                obtain ⟨⟨t458, t459⟩, A740, H⟩ := H
                                replace H : (if t459 = true then (if t458 < 0 then (some true) else (if t458 = 0 then (some ((Int.tmod (Int.tmod t443 9223372036854775808) 2) == 0)) else (some false))) else (some false)) = some r := H
                                have A74 := Aside0.mk A740
                                clear A740
                                by_cases c75 : t459 = true
                                · subst c75
                                  have H1 : (if t458 < 0 then (some true) else (if t458 = 0 then (some ((Int.tmod (Int.tmod t443 9223372036854775808) 2) == 0)) else (some false))) = some r := by rw [if_pos rfl] at H; exact H
                                  clear H
                                  have H := H1
                                  clear H1
                                  by_cases c76 : t458 < 0
                                  · rw [if_pos c76] at H
                                    have c76b0 : decide (t458 < 0) = true := decide_eq_true c76
                                    clear c76
                                    obtain rfl := Option.some.inj H
                                    have hnb77 := NB451_440.out
                                    have hnc77 := NB440_451.out
                                    have hcz78_0 : wc.cell? ⟨gb451, 0, none⟩ = some (.bool t447) := (blk_cell BK451.out 0).trans rfl
                                    have hcz78_1 : wc.cell? ⟨gb451, 1, none⟩ = some (.int .i64 t448) := (blk_cell BK451.out 1).trans rfl
                                    have hcz78_2 : wc.cell? ⟨gb451, 2, none⟩ = some (.int .u64 t449) := (blk_cell BK451.out 2).trans rfl
                                    have hcz78_3 : wc.cell? ⟨gb451, 3, none⟩ = some (.int .i64 t450) := (blk_cell BK451.out 3).trans rfl
                                    have hfz78_0 := blk_frozen BK451.out 0
                                    have hfz78_1 := blk_frozen BK451.out 1
                                    have hfz78_2 := blk_frozen BK451.out 2
                                    have hfz78_3 := blk_frozen BK451.out 3
                                    go_wp2_with (first | ((with_reducible refine gate_callee (f := 28) rfl ?_); refine goesL_ (some 143) rfl rfl Tryd.func28 (by kernel_rfl) rfl #[.int .u64 (IntKind.u64.wrap (x13_25 - 1)), .int .i64 x14_25, .slice A0_1 l0_1.length c0_1, .slice A0_3 l0_3.length c0_3, .int .i64 a0_4] rfl (by (try simp only [List.map_toArray, List.map_cons, List.map_nil]); first | done | rfl | (simp only [List.length_drop, List.length_take]; rfl) | (simp only [gt_iff_lt, Int.natCast_pos]; done) | (simp only [gt_iff_lt, Int.natCast_pos]; rfl)) ?_; (with_reducible refine (abacuslaw04_held.calls kj32 (IntKind.u64.wrap (x13_25 - 1)) x14_25 _ _ l0_1 _ _ l0_3 a0_4 t458 true _ ?side1 ?side2 ?side3 ?side4 A74.out).mono ?_); (case side1 => repeat (first | exact (Kd.C_below HR0_1.out HB.out) | (with_reducible refine Kd.C_alloc ?_ _) | (with_reducible refine Kd.C_drewN ?_ _) | (with_reducible refine Kd.C_drew ?_))); (case side2 => exact HC0_1.out); (case side3 => repeat (first | exact (Kd.C_below HR0_3.out HB.out) | (with_reducible refine Kd.C_alloc ?_ _) | (with_reducible refine Kd.C_drewN ?_ _) | (with_reducible refine Kd.C_drew ?_))); (case side4 => exact HC0_3.out); rintro e w79 ⟨rfl, hb⟩; refine ⟨_, rfl, ?_⟩; have n0_ := Aside0.mk (blk_below (g := gb440) (o := .cells #[.bool a0_0, .slice A0_1 l0_1.length c0_1, .slice A0_2 l0_2.length c0_2, .slice A0_3 l0_3.length c0_3, .int .i64 a0_4, .int .u8 a0_5] 24 (0, 0)) (by (with_reducible repeat (first | refine blk_drewN ?_ _ | refine blk_drew ?_ | refine blk_alloc ?_ _)); exact BK440.out) hb); have n1_ := Aside0.mk (blk_below (g := gb451) (o := .cells #[.bool t447, .int .i64 t448, .int .u64 t449, .int .i64 t450] 35 (0, 0)) (by (with_reducible repeat (first | refine blk_drewN ?_ _ | refine blk_drew ?_ | refine blk_alloc ?_ _)); exact BK451.out) hb); have n2_ := Aside0.mk (below_step (by repeat (first | (with_reducible first | exact HB.out | apply below_alloc | apply pw_below_drewN | apply below_drew1 | refine below_set ?_ GE440.out | refine below_set ?_ GE451.out) | exact HB.out)) hb); clear BK440; clear BK451; clear HB; have BK440 := n0_; have BK451 := n1_; have HB := n2_; clear n0_ n1_ n2_; (try clear hb); (try clear hb2); (try clear hk); (try clear hi)))
                                    go_ret
                                    exact ⟨by first | rfl | (simp [errW_none, errW_some] <;> rfl) | (simp [*, errW_none, errW_some] <;> rfl), by repeat (first | (with_reducible first | exact HB.out | apply below_alloc | apply pw_below_drewN | apply below_drew1 | refine below_set ?_ GE440.out | refine below_set ?_ GE451.out) | exact HB.out)⟩
                                  · rw [if_neg c76] at H
                                    have c76b0 : decide (t458 < 0) = false := decide_eq_false c76
                                    clear c76
                                    by_cases c80 : t458 = 0
                                    · rw [if_pos c80] at H
                                      have c80b0 : (t458 == 0) = true := beq_iff_eq.mpr c80
                                      have c80b1 : (t458 != 0) = false := bne_eq_false_iff_eq.mpr c80
                                      clear c80
                                      obtain rfl := Option.some.inj H
                                      have hnb81 := NB451_440.out
                                      have hnc81 := NB440_451.out
                                      have hcz82_0 : wc.cell? ⟨gb451, 0, none⟩ = some (.bool t447) := (blk_cell BK451.out 0).trans rfl
                                      have hcz82_1 : wc.cell? ⟨gb451, 1, none⟩ = some (.int .i64 t448) := (blk_cell BK451.out 1).trans rfl
                                      have hcz82_2 : wc.cell? ⟨gb451, 2, none⟩ = some (.int .u64 t449) := (blk_cell BK451.out 2).trans rfl
                                      have hcz82_3 : wc.cell? ⟨gb451, 3, none⟩ = some (.int .i64 t450) := (blk_cell BK451.out 3).trans rfl
                                      have hfz82_0 := blk_frozen BK451.out 0
                                      have hfz82_1 := blk_frozen BK451.out 1
                                      have hfz82_2 := blk_frozen BK451.out 2
                                      have hfz82_3 := blk_frozen BK451.out 3
                                      go_wp2_with (first | ((with_reducible refine gate_callee (f := 28) rfl ?_); refine goesL_ (some 143) rfl rfl Tryd.func28 (by kernel_rfl) rfl #[.int .u64 (IntKind.u64.wrap (x13_25 - 1)), .int .i64 x14_25, .slice A0_1 l0_1.length c0_1, .slice A0_3 l0_3.length c0_3, .int .i64 a0_4] rfl (by (try simp only [List.map_toArray, List.map_cons, List.map_nil]); first | done | rfl | (simp only [List.length_drop, List.length_take]; rfl) | (simp only [gt_iff_lt, Int.natCast_pos]; done) | (simp only [gt_iff_lt, Int.natCast_pos]; rfl)) ?_; (with_reducible refine (abacuslaw04_held.calls kj32 (IntKind.u64.wrap (x13_25 - 1)) x14_25 _ _ l0_1 _ _ l0_3 a0_4 t458 true _ ?side1 ?side2 ?side3 ?side4 A74.out).mono ?_); (case side1 => repeat (first | exact (Kd.C_below HR0_1.out HB.out) | (with_reducible refine Kd.C_alloc ?_ _) | (with_reducible refine Kd.C_drewN ?_ _) | (with_reducible refine Kd.C_drew ?_))); (case side2 => exact HC0_1.out); (case side3 => repeat (first | exact (Kd.C_below HR0_3.out HB.out) | (with_reducible refine Kd.C_alloc ?_ _) | (with_reducible refine Kd.C_drewN ?_ _) | (with_reducible refine Kd.C_drew ?_))); (case side4 => exact HC0_3.out); rintro e w83 ⟨rfl, hb⟩; refine ⟨_, rfl, ?_⟩; have n0_ := Aside0.mk (blk_below (g := gb440) (o := .cells #[.bool a0_0, .slice A0_1 l0_1.length c0_1, .slice A0_2 l0_2.length c0_2, .slice A0_3 l0_3.length c0_3, .int .i64 a0_4, .int .u8 a0_5] 24 (0, 0)) (by (with_reducible repeat (first | refine blk_drewN ?_ _ | refine blk_drew ?_ | refine blk_alloc ?_ _)); exact BK440.out) hb); have n1_ := Aside0.mk (blk_below (g := gb451) (o := .cells #[.bool t447, .int .i64 t448, .int .u64 t449, .int .i64 t450] 35 (0, 0)) (by (with_reducible repeat (first | refine blk_drewN ?_ _ | refine blk_drew ?_ | refine blk_alloc ?_ _)); exact BK451.out) hb); have n2_ := Aside0.mk (below_step (by repeat (first | (with_reducible first | exact HB.out | apply below_alloc | apply pw_below_drewN | apply below_drew1 | refine below_set ?_ GE440.out | refine below_set ?_ GE451.out) | exact HB.out)) hb); clear BK440; clear BK451; clear HB; have BK440 := n0_; have BK451 := n1_; have HB := n2_; clear n0_ n1_ n2_; (try clear hb); (try clear hb2); (try clear hk); (try clear hi)))
                                      go_ret
                                      exact ⟨by first | rfl | (simp [errW_none, errW_some] <;> rfl) | (simp [*, errW_none, errW_some] <;> rfl), by repeat (first | (with_reducible first | exact HB.out | apply below_alloc | apply pw_below_drewN | apply below_drew1 | refine below_set ?_ GE440.out | refine below_set ?_ GE451.out) | exact HB.out)⟩
                                    · rw [if_neg c80] at H
                                      have c80b0 : (t458 == 0) = false := beq_eq_false_iff_ne.mpr c80
                                      have c80b1 : (t458 != 0) = true := bne_iff_ne.mpr c80
                                      obtain rfl := Option.some.inj H
                                      have hnb84 := NB451_440.out
                                      have hnc84 := NB440_451.out
                                      have hcz85_0 : wc.cell? ⟨gb451, 0, none⟩ = some (.bool t447) := (blk_cell BK451.out 0).trans rfl
                                      have hcz85_1 : wc.cell? ⟨gb451, 1, none⟩ = some (.int .i64 t448) := (blk_cell BK451.out 1).trans rfl
                                      have hcz85_2 : wc.cell? ⟨gb451, 2, none⟩ = some (.int .u64 t449) := (blk_cell BK451.out 2).trans rfl
                                      have hcz85_3 : wc.cell? ⟨gb451, 3, none⟩ = some (.int .i64 t450) := (blk_cell BK451.out 3).trans rfl
                                      have hfz85_0 := blk_frozen BK451.out 0
                                      have hfz85_1 := blk_frozen BK451.out 1
                                      have hfz85_2 := blk_frozen BK451.out 2
                                      have hfz85_3 := blk_frozen BK451.out 3
                                      go_wp2_with (first | ((with_reducible refine gate_callee (f := 28) rfl ?_); refine goesL_ (some 143) rfl rfl Tryd.func28 (by kernel_rfl) rfl #[.int .u64 (IntKind.u64.wrap (x13_25 - 1)), .int .i64 x14_25, .slice A0_1 l0_1.length c0_1, .slice A0_3 l0_3.length c0_3, .int .i64 a0_4] rfl (by (try simp only [List.map_toArray, List.map_cons, List.map_nil]); first | done | rfl | (simp only [List.length_drop, List.length_take]; rfl) | (simp only [gt_iff_lt, Int.natCast_pos]; done) | (simp only [gt_iff_lt, Int.natCast_pos]; rfl)) ?_; (with_reducible refine (abacuslaw04_held.calls kj32 (IntKind.u64.wrap (x13_25 - 1)) x14_25 _ _ l0_1 _ _ l0_3 a0_4 t458 true _ ?side1 ?side2 ?side3 ?side4 A74.out).mono ?_); (case side1 => repeat (first | exact (Kd.C_below HR0_1.out HB.out) | (with_reducible refine Kd.C_alloc ?_ _) | (with_reducible refine Kd.C_drewN ?_ _) | (with_reducible refine Kd.C_drew ?_))); (case side2 => exact HC0_1.out); (case side3 => repeat (first | exact (Kd.C_below HR0_3.out HB.out) | (with_reducible refine Kd.C_alloc ?_ _) | (with_reducible refine Kd.C_drewN ?_ _) | (with_reducible refine Kd.C_drew ?_))); (case side4 => exact HC0_3.out); rintro e w86 ⟨rfl, hb⟩; refine ⟨_, rfl, ?_⟩; have n0_ := Aside0.mk (blk_below (g := gb440) (o := .cells #[.bool a0_0, .slice A0_1 l0_1.length c0_1, .slice A0_2 l0_2.length c0_2, .slice A0_3 l0_3.length c0_3, .int .i64 a0_4, .int .u8 a0_5] 24 (0, 0)) (by (with_reducible repeat (first | refine blk_drewN ?_ _ | refine blk_drew ?_ | refine blk_alloc ?_ _)); exact BK440.out) hb); have n1_ := Aside0.mk (blk_below (g := gb451) (o := .cells #[.bool t447, .int .i64 t448, .int .u64 t449, .int .i64 t450] 35 (0, 0)) (by (with_reducible repeat (first | refine blk_drewN ?_ _ | refine blk_drew ?_ | refine blk_alloc ?_ _)); exact BK451.out) hb); have n2_ := Aside0.mk (below_step (by repeat (first | (with_reducible first | exact HB.out | apply below_alloc | apply pw_below_drewN | apply below_drew1 | refine below_set ?_ GE440.out | refine below_set ?_ GE451.out) | exact HB.out)) hb); clear BK440; clear BK451; clear HB; have BK440 := n0_; have BK451 := n1_; have HB := n2_; clear n0_ n1_ n2_; (try clear hb); (try clear hb2); (try clear hk); (try clear hi)))
                                      go_ret
                                      exact ⟨by first | rfl | (simp [errW_none, errW_some] <;> rfl) | (simp [*, errW_none, errW_some] <;> rfl), by repeat (first | (with_reducible first | exact HB.out | apply below_alloc | apply pw_below_drewN | apply below_drew1 | refine below_set ?_ GE440.out | refine below_set ?_ GE451.out) | exact HB.out)⟩
                                · replace c75 := Bool.eq_false_iff.mpr c75
                                  subst c75
                                  have H1 : (some false) = some r := by rw [if_neg (show ¬ (false = true) by decide)] at H; exact H
                                  clear H
                                  have H := H1
                                  clear H1
                                  obtain rfl := Option.some.inj H
                                  have hnb87 := NB451_440.out
                                  have hnc87 := NB440_451.out
                                  have hcz88_0 : wc.cell? ⟨gb451, 0, none⟩ = some (.bool t447) := (blk_cell BK451.out 0).trans rfl
                                  have hcz88_1 : wc.cell? ⟨gb451, 1, none⟩ = some (.int .i64 t448) := (blk_cell BK451.out 1).trans rfl
                                  have hcz88_2 : wc.cell? ⟨gb451, 2, none⟩ = some (.int .u64 t449) := (blk_cell BK451.out 2).trans rfl
                                  have hcz88_3 : wc.cell? ⟨gb451, 3, none⟩ = some (.int .i64 t450) := (blk_cell BK451.out 3).trans rfl
                                  have hfz88_0 := blk_frozen BK451.out 0
                                  have hfz88_1 := blk_frozen BK451.out 1
                                  have hfz88_2 := blk_frozen BK451.out 2
                                  have hfz88_3 := blk_frozen BK451.out 3
                                  go_wp2_with (first | ((with_reducible refine gate_callee (f := 28) rfl ?_); refine goesL_ (some 143) rfl rfl Tryd.func28 (by kernel_rfl) rfl #[.int .u64 (IntKind.u64.wrap (x13_25 - 1)), .int .i64 x14_25, .slice A0_1 l0_1.length c0_1, .slice A0_3 l0_3.length c0_3, .int .i64 a0_4] rfl (by (try simp only [List.map_toArray, List.map_cons, List.map_nil]); first | done | rfl | (simp only [List.length_drop, List.length_take]; rfl) | (simp only [gt_iff_lt, Int.natCast_pos]; done) | (simp only [gt_iff_lt, Int.natCast_pos]; rfl)) ?_; (with_reducible refine (abacuslaw04_held.calls kj32 (IntKind.u64.wrap (x13_25 - 1)) x14_25 _ _ l0_1 _ _ l0_3 a0_4 t458 false _ ?side1 ?side2 ?side3 ?side4 A74.out).mono ?_); (case side1 => repeat (first | exact (Kd.C_below HR0_1.out HB.out) | (with_reducible refine Kd.C_alloc ?_ _) | (with_reducible refine Kd.C_drewN ?_ _) | (with_reducible refine Kd.C_drew ?_))); (case side2 => exact HC0_1.out); (case side3 => repeat (first | exact (Kd.C_below HR0_3.out HB.out) | (with_reducible refine Kd.C_alloc ?_ _) | (with_reducible refine Kd.C_drewN ?_ _) | (with_reducible refine Kd.C_drew ?_))); (case side4 => exact HC0_3.out); rintro e w89 ⟨rfl, hb⟩; refine ⟨_, rfl, ?_⟩; have n0_ := Aside0.mk (blk_below (g := gb440) (o := .cells #[.bool a0_0, .slice A0_1 l0_1.length c0_1, .slice A0_2 l0_2.length c0_2, .slice A0_3 l0_3.length c0_3, .int .i64 a0_4, .int .u8 a0_5] 24 (0, 0)) (by (with_reducible repeat (first | refine blk_drewN ?_ _ | refine blk_drew ?_ | refine blk_alloc ?_ _)); exact BK440.out) hb); have n1_ := Aside0.mk (blk_below (g := gb451) (o := .cells #[.bool t447, .int .i64 t448, .int .u64 t449, .int .i64 t450] 35 (0, 0)) (by (with_reducible repeat (first | refine blk_drewN ?_ _ | refine blk_drew ?_ | refine blk_alloc ?_ _)); exact BK451.out) hb); have n2_ := Aside0.mk (below_step (by repeat (first | (with_reducible first | exact HB.out | apply below_alloc | apply pw_below_drewN | apply below_drew1 | refine below_set ?_ GE440.out | refine below_set ?_ GE451.out) | exact HB.out)) hb); clear BK440; clear BK451; clear HB; have BK440 := n0_; have BK451 := n1_; have HB := n2_; clear n0_ n1_ n2_; (try clear hb); (try clear hb2); (try clear hk); (try clear hi)))
                                  go_ret
                                  exact ⟨by first | rfl | (simp [errW_none, errW_some] <;> rfl) | (simp [*, errW_none, errW_some] <;> rfl), by repeat (first | (with_reducible first | exact HB.out | apply below_alloc | apply pw_below_drewN | apply below_drew1 | refine below_set ?_ GE440.out | refine below_set ?_ GE451.out) | exact HB.out)⟩
  · replace c3 := Bool.eq_false_iff.mpr c3
    subst c3
    have H1 : (some false) = some r := by rw [if_neg (show ¬ (false = true) by decide)] at H; exact H
    clear H
    have H := H1
    clear H1
    obtain rfl := Option.some.inj H
    go_enter Tryd.func7, Tryd.ntmps7
    go_wp2_with (first | ((with_reducible refine gate_dst (N := 1) rfl ?_); (try (refine gate_guard (by rfl) ?_; dsimp only)); refine box_event ?hg (N := 1) ?hd (cs := #[.bool a0_0, .slice A0_1 l0_1.length c0_1, .slice A0_2 l0_2.length c0_2, .slice A0_3 l0_3.length c0_3, .int .i64 a0_4, .int .u8 a0_5]) (t := 24) ?hr ?_; (case hd => rfl); (case hg => rfl); (case hr => first | (go_simp; done) | (go_simp; rfl)); intro gb440 hg w90 hbox hb; have n0_ := Aside0.mk (below_step (by repeat (first | (with_reducible first | exact HB.out | apply below_alloc | apply pw_below_drewN | apply below_drew1) | exact HB.out)) hb); have n1_ := Aside0.mk (hbox); have n2_ := Aside0.mk ((by rw [hg]; exact (below_size (by repeat (first | (with_reducible first | exact HB.out | apply below_alloc | apply pw_below_drewN | apply below_drew1) | exact HB.out))) : w.heap.size ≤ gb440)); have n3_ := Aside0.mk ((by rw [hg]; exact (below_size (by repeat (first | (with_reducible first | exact HB.out | apply below_alloc | apply pw_below_drewN | apply below_drew1) | exact HB.out))) : w.heap.size ≤ gb440)); clear HB; have HB := n0_; have BK440 := n1_; have GW440 := n2_; have GE440 := n3_; clear n0_ n1_ n2_ n3_; clear hb hbox hg) | ((with_reducible refine gate_callee (f := 12) rfl ?_); refine goesL_ (some 17) rfl rfl Tryd.func12 (by kernel_rfl) rfl #[] rfl (by (try simp only [List.map_toArray, List.map_cons, List.map_nil]); first | done | rfl | (simp only [List.length_drop, List.length_take]; rfl) | (simp only [gt_iff_lt, Int.natCast_pos]; done) | (simp only [gt_iff_lt, Int.natCast_pos]; rfl)) ?_; (with_reducible refine (abacuslaw04_awake.calls k  false _ ?side1 A2.out).mono ?_); (case side1 => repeat (first | exact (Kd.C_below HT.out HB.out) | (with_reducible refine Kd.C_alloc ?_ _) | (with_reducible refine Kd.C_drewN ?_ _) | (with_reducible refine Kd.C_drew ?_))); rintro e w91 ⟨rfl, hb⟩; refine ⟨_, rfl, ?_⟩; have n0_ := Aside0.mk (blk_below (g := gb440) (o := .cells #[.bool a0_0, .slice A0_1 l0_1.length c0_1, .slice A0_2 l0_2.length c0_2, .slice A0_3 l0_3.length c0_3, .int .i64 a0_4, .int .u8 a0_5] 24 (0, 0)) (by (with_reducible repeat (first | refine blk_drewN ?_ _ | refine blk_drew ?_ | refine blk_alloc ?_ _)); exact BK440.out) hb); have n1_ := Aside0.mk (below_step (by repeat (first | (with_reducible first | exact HB.out | apply below_alloc | apply pw_below_drewN | apply below_drew1 | refine below_set ?_ GE440.out) | exact HB.out)) hb); clear BK440; clear HB; have BK440 := n0_; have HB := n1_; clear n0_ n1_; (try clear hb); (try clear hb2); (try clear hk); (try clear hi)))
    go_ret
    exact ⟨by first | rfl | (simp [errW_none, errW_some] <;> rfl) | (simp [*, errW_none, errW_some] <;> rfl), by repeat (first | (with_reducible first | exact HB.out | apply below_alloc | apply pw_below_drewN | apply below_drew1 | refine below_set ?_ GE440.out) | exact HB.out)⟩

/-- THE ONE PURE STATEMENT of abacuslaw04_IeeeNearest. -/
def abacuslaw04_IeeeNearest.Pure : Prop := ∀ (a0_0 : Bool) (l0_1 : List Int) (l0_2 : List Int) (l0_3 : List Int) (a0_4 : Int) (a0_5 : Int), l0_1.length ≤ maxLen → l0_1.length * 8 ≤ 140737488351232 → (∀ x ∈ l0_1, (Lit.int .u64 x).wf = true) → l0_2.length ≤ maxLen → l0_2.length * 8 ≤ 140737488351232 → (∀ x ∈ l0_2, (Lit.int .u64 x).wf = true) → l0_3.length ≤ maxLen → l0_3.length * 8 ≤ 140737488351232 → (∀ x ∈ l0_3, (Lit.int .u64 x).wf = true) → (Lit.int .i64 a0_4).wf = true → (Lit.int .u8 a0_5).wf = true → ∃ k, abacuslaw04_IeeeNearest.f k a0_0 l0_1 l0_2 l0_3 a0_4 a0_5 = some true
theorem abacuslaw04_IeeeNearest.walk (P : abacuslaw04_IeeeNearest.Pure) (a0_0 : Bool) (a0_1 : Option Addr) (len0_1 cap0_1 : Nat) (z0_1 : List Int) (a0_2 : Option Addr) (len0_2 cap0_2 : Nat) (z0_2 : List Int) (a0_3 : Option Addr) (len0_3 cap0_3 : Nat) (z0_3 : List Int) (a0_4 : Int) (a0_5 : Int) (w : World) (hT : Kd.C (Kd.int .u8) w (some ⟨0, 0, none⟩) 64 tabL) (w0_1 : (a0_1 = none ∧ len0_1 = 0 ∧ cap0_1 = 0 ∧ z0_1 = []) ∨ ∃ x, a0_1 = some x ∧ len0_1 ≤ cap0_1 ∧ cap0_1 ≤ maxLen ∧ z0_1.length = cap0_1 ∧ (∀ i, i < z0_1.length → w.cell? (x.add i) = some (.int .u64 (z0_1.getD i 0))) ∧ ∀ n ∈ z0_1, (Lit.int .u64 n).wf = true) (y0_1 : len0_1 * 8 ≤ 140737488351232) (w0_2 : (a0_2 = none ∧ len0_2 = 0 ∧ cap0_2 = 0 ∧ z0_2 = []) ∨ ∃ x, a0_2 = some x ∧ len0_2 ≤ cap0_2 ∧ cap0_2 ≤ maxLen ∧ z0_2.length = cap0_2 ∧ (∀ i, i < z0_2.length → w.cell? (x.add i) = some (.int .u64 (z0_2.getD i 0))) ∧ ∀ n ∈ z0_2, (Lit.int .u64 n).wf = true) (y0_2 : len0_2 * 8 ≤ 140737488351232) (w0_3 : (a0_3 = none ∧ len0_3 = 0 ∧ cap0_3 = 0 ∧ z0_3 = []) ∨ ∃ x, a0_3 = some x ∧ len0_3 ≤ cap0_3 ∧ cap0_3 ≤ maxLen ∧ z0_3.length = cap0_3 ∧ (∀ i, i < z0_3.length → w.cell? (x.add i) = some (.int .u64 (z0_3.getD i 0))) ∧ ∀ n ∈ z0_3, (Lit.int .u64 n).wf = true) (y0_3 : len0_3 * 8 ≤ 140737488351232) (w0_4 : (Lit.int .i64 a0_4).wf = true) (w0_5 : (Lit.int .u8 a0_5).wf = true) :
    Calls Tryd.prog 7 #[.agg #[.bool a0_0, .slice a0_1 len0_1 cap0_1, .slice a0_2 len0_2 cap0_2, .slice a0_3 len0_3 cap0_3, .int .i64 a0_4, .int .u8 a0_5]] w fun e w' => e = .returned (.bool true) ∧ Below w.heap.size w w' := by
  obtain ⟨l0_1, rfl, hr0_1, hm0_1, hw0_1, hc0_1⟩ := ReadsInt.ofRowC w0_1
  obtain ⟨l0_2, rfl, hr0_2, hm0_2, hw0_2, hc0_2⟩ := ReadsInt.ofRowC w0_2
  obtain ⟨l0_3, rfl, hr0_3, hm0_3, hw0_3, hc0_3⟩ := ReadsInt.ofRowC w0_3
  obtain ⟨k, h⟩ := P a0_0 l0_1 l0_2 l0_3 a0_4 a0_5 hm0_1 y0_1 hw0_1 hm0_2 y0_2 hw0_2 hm0_3 y0_3 hw0_3 w0_4 w0_5
  refine (abacuslaw04_IeeeNearest.calls k a0_0 _ _ l0_1 _ _ l0_2 _ _ l0_3 a0_4 a0_5 true w hT (Kd.C_of_reads (d := (0 : Int)) (h1 := fun _ => rfl) hr0_1) hc0_1 (Kd.C_of_reads (d := (0 : Int)) (h1 := fun _ => rfl) hr0_2) hc0_2 (Kd.C_of_reads (d := (0 : Int)) (h1 := fun _ => rfl) hr0_3) hc0_3 h).mono ?_
  rintro e w' ⟨rfl, hd⟩
  exact ⟨rfl, hd⟩

end Go.Proofs.YtiigfmmflicdpaaDoor.PN
