-- printed by a program
import Derived.Test.YtnicfpilpafddaaPOx0
import Derived.Test.YtnicfpilpafddaaPOx2
import Derived.Test.YtnicfpilpafddaaPOx3
namespace Go.Proofs.Ytnicfpilpafddaa.PO
open Go.Proofs.YtnicfpilpafddaaX
open Go.RowKit Go.Proofs.YtnicfpilpafddaaW.PrintWords Go.Proofs.YtnicfpilpafddaaW.PrintLast Go.Proofs.YtnicfpilpafddaaW.PrintMore
attribute [local go_sem] max2_int min2_int max_two min_two max_three min_three max_four min_four   -- for this text's walks alone
set_option linter.unusedVariables false
set_option linter.unusedSimpArgs false

/-! ### abacuslaw01_NatOrder: function 6 -/
mutual
def abacuslaw01_NatOrder.j0 : Nat → List Int → List Int → Int → Int → Int → Bool → Option (Bool)
  | 0, _, _, _, _, _, _ => none
  | k + 1, x0, x1, x7, x8, x9, x46 => if x46 = true then (some false) else (if x7 ≤ 0 then (if x8 ≤ 0 then (if x9 > 0 then (abacuslaw01_NatOrder.j1 k x0 x1 x7 true) else (if x7 ≥ 0 then (if x8 ≥ 0 then (if x9 < 0 then (abacuslaw01_NatOrder.j1 k x0 x1 x7 true) else (if x7 < 0 then (if x9 ≥ 0 then (abacuslaw01_NatOrder.j1 k x0 x1 x7 true) else (if x8 < 0 then (abacuslaw01_NatOrder.j1 k x0 x1 x7 (decide (x9 ≥ 0))) else (abacuslaw01_NatOrder.j1 k x0 x1 x7 false))) else (if x8 < 0 then (abacuslaw01_NatOrder.j1 k x0 x1 x7 (decide (x9 ≥ 0))) else (abacuslaw01_NatOrder.j1 k x0 x1 x7 false)))) else (if x7 < 0 then (if x9 ≥ 0 then (abacuslaw01_NatOrder.j1 k x0 x1 x7 true) else (if x8 < 0 then (abacuslaw01_NatOrder.j1 k x0 x1 x7 (decide (x9 ≥ 0))) else (abacuslaw01_NatOrder.j1 k x0 x1 x7 false))) else (if x8 < 0 then (abacuslaw01_NatOrder.j1 k x0 x1 x7 (decide (x9 ≥ 0))) else (abacuslaw01_NatOrder.j1 k x0 x1 x7 false)))) else (if x7 < 0 then (if x9 ≥ 0 then (abacuslaw01_NatOrder.j1 k x0 x1 x7 true) else (if x8 < 0 then (abacuslaw01_NatOrder.j1 k x0 x1 x7 (decide (x9 ≥ 0))) else (abacuslaw01_NatOrder.j1 k x0 x1 x7 false))) else (if x8 < 0 then (abacuslaw01_NatOrder.j1 k x0 x1 x7 (decide (x9 ≥ 0))) else (abacuslaw01_NatOrder.j1 k x0 x1 x7 false))))) else (if x7 ≥ 0 then (if x8 ≥ 0 then (if x9 < 0 then (abacuslaw01_NatOrder.j1 k x0 x1 x7 true) else (if x7 < 0 then (if x8 < 0 then (abacuslaw01_NatOrder.j1 k x0 x1 x7 (decide (x9 ≥ 0))) else (abacuslaw01_NatOrder.j1 k x0 x1 x7 false)) else (if x8 < 0 then (abacuslaw01_NatOrder.j1 k x0 x1 x7 (decide (x9 ≥ 0))) else (abacuslaw01_NatOrder.j1 k x0 x1 x7 false)))) else (if x7 < 0 then (if x8 < 0 then (abacuslaw01_NatOrder.j1 k x0 x1 x7 (decide (x9 ≥ 0))) else (abacuslaw01_NatOrder.j1 k x0 x1 x7 false)) else (if x8 < 0 then (abacuslaw01_NatOrder.j1 k x0 x1 x7 (decide (x9 ≥ 0))) else (abacuslaw01_NatOrder.j1 k x0 x1 x7 false)))) else (if x7 < 0 then (if x8 < 0 then (abacuslaw01_NatOrder.j1 k x0 x1 x7 (decide (x9 ≥ 0))) else (abacuslaw01_NatOrder.j1 k x0 x1 x7 false)) else (if x8 < 0 then (abacuslaw01_NatOrder.j1 k x0 x1 x7 (decide (x9 ≥ 0))) else (abacuslaw01_NatOrder.j1 k x0 x1 x7 false))))) else (if x7 ≥ 0 then (if x8 ≥ 0 then (if x9 < 0 then (abacuslaw01_NatOrder.j1 k x0 x1 x7 true) else (if x7 < 0 then (if x8 ≤ 0 then (if x9 ≥ 0 then (abacuslaw01_NatOrder.j1 k x0 x1 x7 true) else (abacuslaw01_NatOrder.j1 k x0 x1 x7 false)) else (abacuslaw01_NatOrder.j1 k x0 x1 x7 false)) else (abacuslaw01_NatOrder.j1 k x0 x1 x7 false))) else (if x7 < 0 then (if x8 ≤ 0 then (if x9 ≥ 0 then (abacuslaw01_NatOrder.j1 k x0 x1 x7 true) else (abacuslaw01_NatOrder.j1 k x0 x1 x7 false)) else (abacuslaw01_NatOrder.j1 k x0 x1 x7 false)) else (abacuslaw01_NatOrder.j1 k x0 x1 x7 false))) else (if x7 < 0 then (if x8 ≤ 0 then (if x9 ≥ 0 then (abacuslaw01_NatOrder.j1 k x0 x1 x7 true) else (abacuslaw01_NatOrder.j1 k x0 x1 x7 false)) else (abacuslaw01_NatOrder.j1 k x0 x1 x7 false)) else (abacuslaw01_NatOrder.j1 k x0 x1 x7 false))))
def abacuslaw01_NatOrder.j1 : Nat → List Int → List Int → Int → Bool → Option (Bool)
  | 0, _, _, _, _ => none
  | k + 1, x0, x1, x7, x92 => if x92 = true then (some false) else (if 0 ≤ (wrap64 ((x0.length : Int) + 3)) then (if (wrap64 ((x0.length : Int) + 3) : Int).toNat ≤ 35184372088832 then ((some (([] : List Int) : List Int)).bind fun y217 => (if y217.length + x0.length < 17592186044416 then ((some (y217 ++ x0 : List Int)).bind fun y220 => (if y220.length < 17592186044416 then ((some (y220 ++ [0] : List Int)).bind fun y223 => (if y223.length < 17592186044416 then ((some (y223 ++ [0] : List Int)).bind fun y226 => ((nat_Trim.f k y226).bind fun t229 => ((nat_Cmp.f k y226 x1).bind fun t232 => (if t232 = x7 then ((nat_Cmp.f k t229 x0).bind fun t233 => (if t233 = 0 then ((abacuslaw01_size.f k x0).bind fun t234 => (if (t229.length : Int) = t234 then ((nat_BitLen.f k y226).bind fun t235 => ((nat_BitLen.f k x0).bind fun t236 => (some (t235 == t236)))) else (some false))) else (some false))) else (some false))))) else (none))) else (none))) else (none))) else (none)) else (none))
end
def abacuslaw01_NatOrder.f (k : Nat) (l0 : List Int) (l1 : List Int) (l2 : List Int) : Option (Bool) := (abacuslaw01_awake.f k).bind fun t205 => (if t205 = true then ((nat_Cmp.f k l0 l1).bind fun t206 => ((nat_Cmp.f k l1 l2).bind fun t207 => ((nat_Cmp.f k l0 l2).bind fun t208 => ((nat_Cmp.f k l1 l0).bind fun t209 => (if t206 = (wrap64 (-t209)) then (if t206 < (-1) then (abacuslaw01_NatOrder.j0 k l0 l1 t206 t207 t208 true) else (if t206 > 1 then (abacuslaw01_NatOrder.j0 k l0 l1 t206 t207 t208 true) else ((nat_Trim.f k l0).bind fun t210 => ((nat_Trim.f k l1).bind fun t213 => ((abacuslaw01_same.f k t210 t213).bind fun t216 => (abacuslaw01_NatOrder.j0 k l0 l1 t206 t207 t208 ((t206 == 0) != t216))))))) else (abacuslaw01_NatOrder.j0 k l0 l1 t206 t207 t208 true)))))) else (some false))
theorem abacuslaw01_NatOrder.mono_l : ∀ k, (∀ y0 y1 y2 y3 y4 y5, LeO (abacuslaw01_NatOrder.j0 k y0 y1 y2 y3 y4 y5) (abacuslaw01_NatOrder.j0 (k + 1) y0 y1 y2 y3 y4 y5)) ∧ (∀ y0 y1 y2 y3, LeO (abacuslaw01_NatOrder.j1 k y0 y1 y2 y3) (abacuslaw01_NatOrder.j1 (k + 1) y0 y1 y2 y3))
  | 0 => ⟨fun _ _ _ _ _ _ r h => by simp [abacuslaw01_NatOrder.j0] at h, fun _ _ _ _ r h => by simp [abacuslaw01_NatOrder.j1] at h⟩
  | k + 1 => by
    obtain ⟨ih0, ih1⟩ := abacuslaw01_NatOrder.mono_l k
    refine ⟨?_, ?_⟩
    · intro y0 y1 y2 y3 y4 y5
      unfold abacuslaw01_NatOrder.j0
      repeat' first
      | (with_reducible exact ih0 _ _ _ _ _ _)
      | (with_reducible exact ih1 _ _ _ _)
      | (with_reducible exact abacuslaw01_awake.mono _)
      | (with_reducible exact abacuslaw01_same.mono _ _ _)
      | (with_reducible exact abacuslaw01_size.mono _ _)
      | (with_reducible exact nat_BitLen.mono _ _)
      | (with_reducible exact nat_Cmp.mono _ _ _)
      | (with_reducible exact nat_Trim.mono _ _)
      | (with_reducible exact LeO.refl _)
      | (with_reducible exact LeO.none _)
      | (with_reducible refine LeO.ite ?_ ?_)
      | (with_reducible refine LeO.bind ?_ (fun _ => ?_))
      | exact ih0 _ _ _ _ _ _
      | exact ih1 _ _ _ _
      | exact abacuslaw01_awake.mono _
      | exact abacuslaw01_same.mono _ _ _
      | exact abacuslaw01_size.mono _ _
      | exact nat_BitLen.mono _ _
      | exact nat_Cmp.mono _ _ _
      | exact nat_Trim.mono _ _
      | exact LeO.none _
      | refine LeO.ite ?_ ?_
      | refine LeO.bind ?_ (fun _ => ?_)
    · intro y0 y1 y2 y3
      unfold abacuslaw01_NatOrder.j1
      repeat' first
      | (with_reducible exact ih0 _ _ _ _ _ _)
      | (with_reducible exact ih1 _ _ _ _)
      | (with_reducible exact abacuslaw01_awake.mono _)
      | (with_reducible exact abacuslaw01_same.mono _ _ _)
      | (with_reducible exact abacuslaw01_size.mono _ _)
      | (with_reducible exact nat_BitLen.mono _ _)
      | (with_reducible exact nat_Cmp.mono _ _ _)
      | (with_reducible exact nat_Trim.mono _ _)
      | (with_reducible exact LeO.refl _)
      | (with_reducible exact LeO.none _)
      | (with_reducible refine LeO.ite ?_ ?_)
      | (with_reducible refine LeO.bind ?_ (fun _ => ?_))
      | exact ih0 _ _ _ _ _ _
      | exact ih1 _ _ _ _
      | exact abacuslaw01_awake.mono _
      | exact abacuslaw01_same.mono _ _ _
      | exact abacuslaw01_size.mono _ _
      | exact nat_BitLen.mono _ _
      | exact nat_Cmp.mono _ _ _
      | exact nat_Trim.mono _ _
      | exact LeO.none _
      | refine LeO.ite ?_ ?_
      | refine LeO.bind ?_ (fun _ => ?_)
theorem abacuslaw01_NatOrder.mono : ∀ a0 a1 a2 k, LeO (abacuslaw01_NatOrder.f k a0 a1 a2) (abacuslaw01_NatOrder.f (k + 1) a0 a1 a2) := by
  intro a0 a1 a2 k
  obtain ⟨ih0, ih1⟩ := abacuslaw01_NatOrder.mono_l k
  unfold abacuslaw01_NatOrder.f
  repeat' first
      | (with_reducible exact ih0 _ _ _ _ _ _)
      | (with_reducible exact ih1 _ _ _ _)
      | (with_reducible exact abacuslaw01_awake.mono _)
      | (with_reducible exact abacuslaw01_same.mono _ _ _)
      | (with_reducible exact abacuslaw01_size.mono _ _)
      | (with_reducible exact nat_BitLen.mono _ _)
      | (with_reducible exact nat_Cmp.mono _ _ _)
      | (with_reducible exact nat_Trim.mono _ _)
      | (with_reducible exact LeO.refl _)
      | (with_reducible exact LeO.none _)
      | (with_reducible refine LeO.ite ?_ ?_)
      | (with_reducible refine LeO.bind ?_ (fun _ => ?_))
      | exact ih0 _ _ _ _ _ _
      | exact ih1 _ _ _ _
      | exact abacuslaw01_awake.mono _
      | exact abacuslaw01_same.mono _ _ _
      | exact abacuslaw01_size.mono _ _
      | exact nat_BitLen.mono _ _
      | exact nat_Cmp.mono _ _ _
      | exact nat_Trim.mono _ _
      | exact LeO.none _
      | refine LeO.ite ?_ ?_
      | refine LeO.bind ?_ (fun _ => ?_)
set_option maxHeartbeats 8000000 in
set_option maxRecDepth 100000 in
theorem abacuslaw01_NatOrder.calls (k : Nat) (A0 : Option Addr) (c0 : Nat) (l0 : List Int) (A1 : Option Addr) (c1 : Nat) (l1 : List Int) (A2 : Option Addr) (c2 : Nat) (l2 : List Int) (r : Bool) (w : World) (hr0 : Kd.C (Kd.int .u64) w A0 l0.length l0) (hc0 : l0.length ≤ c0) (hr1 : Kd.C (Kd.int .u64) w A1 l1.length l1) (hc1 : l1.length ≤ c1) (hr2 : Kd.C (Kd.int .u64) w A2 l2.length l2) (hc2 : l2.length ≤ c2) (h : abacuslaw01_NatOrder.f k l0 l1 l2 = some r) :
    Calls Try.prog 6 #[.slice A0 l0.length c0, .slice A1 l1.length c1, .slice A2 l2.length c2] w fun e w' => e = .returned (.bool r) ∧ Below w.heap.size w w' := by
  have HR0 := Aside0.mk hr0
  have HC0 := Aside0.mk hc0
  clear hr0 hc0
  have HR1 := Aside0.mk hr1
  have HC1 := Aside0.mk hc1
  clear hr1 hc1
  have HR2 := Aside0.mk hr2
  have HC2 := Aside0.mk hc2
  clear hr2 hc2
  have HB := Aside0.mk (Below.refl w.heap.size w)
  have H : ((abacuslaw01_awake.f k).bind fun t205 => (if t205 = true then ((nat_Cmp.f k l0 l1).bind fun t206 => ((nat_Cmp.f k l1 l2).bind fun t207 => ((nat_Cmp.f k l0 l2).bind fun t208 => ((nat_Cmp.f k l1 l0).bind fun t209 => (if t206 = (wrap64 (-t209)) then (if t206 < (-1) then (abacuslaw01_NatOrder.j0 k l0 l1 t206 t207 t208 true) else (if t206 > 1 then (abacuslaw01_NatOrder.j0 k l0 l1 t206 t207 t208 true) else ((nat_Trim.f k l0).bind fun t210 => ((nat_Trim.f k l1).bind fun t213 => ((abacuslaw01_same.f k t210 t213).bind fun t216 => (abacuslaw01_NatOrder.j0 k l0 l1 t206 t207 t208 ((t206 == 0) != t216))))))) else (abacuslaw01_NatOrder.j0 k l0 l1 t206 t207 t208 true)))))) else (some false))) = some r := h
  clear h
  replace H := Option.bind_eq_some_iff.mp H
  obtain ⟨t205, A40, H⟩ := H
  replace H : (if t205 = true then ((nat_Cmp.f k l0 l1).bind fun t206 => ((nat_Cmp.f k l1 l2).bind fun t207 => ((nat_Cmp.f k l0 l2).bind fun t208 => ((nat_Cmp.f k l1 l0).bind fun t209 => (if t206 = (wrap64 (-t209)) then (if t206 < (-1) then (abacuslaw01_NatOrder.j0 k l0 l1 t206 t207 t208 true) else (if t206 > 1 then (abacuslaw01_NatOrder.j0 k l0 l1 t206 t207 t208 true) else ((nat_Trim.f k l0).bind fun t210 => ((nat_Trim.f k l1).bind fun t213 => ((abacuslaw01_same.f k t210 t213).bind fun t216 => (abacuslaw01_NatOrder.j0 k l0 l1 t206 t207 t208 ((t206 == 0) != t216))))))) else (abacuslaw01_NatOrder.j0 k l0 l1 t206 t207 t208 true)))))) else (some false)) = some r := H
  have A4 := Aside0.mk A40
  clear A40
  by_cases c5 : t205 = true
  · subst c5
    have H1 : ((nat_Cmp.f k l0 l1).bind fun t206 => ((nat_Cmp.f k l1 l2).bind fun t207 => ((nat_Cmp.f k l0 l2).bind fun t208 => ((nat_Cmp.f k l1 l0).bind fun t209 => (if t206 = (wrap64 (-t209)) then (if t206 < (-1) then (abacuslaw01_NatOrder.j0 k l0 l1 t206 t207 t208 true) else (if t206 > 1 then (abacuslaw01_NatOrder.j0 k l0 l1 t206 t207 t208 true) else ((nat_Trim.f k l0).bind fun t210 => ((nat_Trim.f k l1).bind fun t213 => ((abacuslaw01_same.f k t210 t213).bind fun t216 => (abacuslaw01_NatOrder.j0 k l0 l1 t206 t207 t208 ((t206 == 0) != t216))))))) else (abacuslaw01_NatOrder.j0 k l0 l1 t206 t207 t208 true)))))) = some r := by rw [if_pos rfl] at H; exact H
    clear H
    have H := H1
    clear H1
    replace H := Option.bind_eq_some_iff.mp H
    obtain ⟨t206, A60, H⟩ := H
    replace H : ((nat_Cmp.f k l1 l2).bind fun t207 => ((nat_Cmp.f k l0 l2).bind fun t208 => ((nat_Cmp.f k l1 l0).bind fun t209 => (if t206 = (wrap64 (-t209)) then (if t206 < (-1) then (abacuslaw01_NatOrder.j0 k l0 l1 t206 t207 t208 true) else (if t206 > 1 then (abacuslaw01_NatOrder.j0 k l0 l1 t206 t207 t208 true) else ((nat_Trim.f k l0).bind fun t210 => ((nat_Trim.f k l1).bind fun t213 => ((abacuslaw01_same.f k t210 t213).bind fun t216 => (abacuslaw01_NatOrder.j0 k l0 l1 t206 t207 t208 ((t206 == 0) != t216))))))) else (abacuslaw01_NatOrder.j0 k l0 l1 t206 t207 t208 true))))) = some r := H
    have A6 := Aside0.mk A60
    clear A60
    replace H := Option.bind_eq_some_iff.mp H
    obtain ⟨t207, A70, H⟩ := H
    replace H : ((nat_Cmp.f k l0 l2).bind fun t208 => ((nat_Cmp.f k l1 l0).bind fun t209 => (if t206 = (wrap64 (-t209)) then (if t206 < (-1) then (abacuslaw01_NatOrder.j0 k l0 l1 t206 t207 t208 true) else (if t206 > 1 then (abacuslaw01_NatOrder.j0 k l0 l1 t206 t207 t208 true) else ((nat_Trim.f k l0).bind fun t210 => ((nat_Trim.f k l1).bind fun t213 => ((abacuslaw01_same.f k t210 t213).bind fun t216 => (abacuslaw01_NatOrder.j0 k l0 l1 t206 t207 t208 ((t206 == 0) != t216))))))) else (abacuslaw01_NatOrder.j0 k l0 l1 t206 t207 t208 true)))) = some r := H
    have A7 := Aside0.mk A70
    clear A70
    replace H := Option.bind_eq_some_iff.mp H
    obtain ⟨t208, A80, H⟩ := H
    replace H : ((nat_Cmp.f k l1 l0).bind fun t209 => (if t206 = (wrap64 (-t209)) then (if t206 < (-1) then (abacuslaw01_NatOrder.j0 k l0 l1 t206 t207 t208 true) else (if t206 > 1 then (abacuslaw01_NatOrder.j0 k l0 l1 t206 t207 t208 true) else ((nat_Trim.f k l0).bind fun t210 => ((nat_Trim.f k l1).bind fun t213 => ((abacuslaw01_same.f k t210 t213).bind fun t216 => (abacuslaw01_NatOrder.j0 k l0 l1 t206 t207 t208 ((t206 == 0) != t216))))))) else (abacuslaw01_NatOrder.j0 k l0 l1 t206 t207 t208 true))) = some r := H
    have A8 := Aside0.mk A80
    clear A80
    have HC9 := Aside0.mk H
    clear H
    go_enter Try.func6, Try.ntmps6
    go_upto_region 6 with (first | ((with_reducible refine gate_callee (f := 9) rfl ?_); refine goesL_ (some 12) rfl rfl Try.func9 (by kernel_rfl) rfl #[] rfl (by (try simp only [List.map_toArray, List.map_cons, List.map_nil]); first | done | rfl | (simp only [List.length_drop, List.length_take]; rfl)) ?_; (with_reducible refine (abacuslaw01_awake.calls k  true _ A4.out).mono ?_); rintro e w10 ⟨rfl, hb⟩; refine ⟨_, rfl, ?_⟩; have n0_ := Aside0.mk (below_step (by repeat (first | (with_reducible first | exact HB.out | apply below_alloc | apply pw_below_drewN | apply below_drew1) | exact HB.out)) hb); clear HB; have HB := n0_; clear n0_; (try clear hb); (try clear hb2); (try clear hk); (try clear hi)) | ((with_reducible refine gate_callee (f := 18) rfl ?_); refine goesL_ (some 16) rfl rfl Try.func18 (by kernel_rfl) rfl #[.slice A0 l0.length c0, .slice A1 l1.length c1] rfl (by (try simp only [List.map_toArray, List.map_cons, List.map_nil]); first | done | rfl | (simp only [List.length_drop, List.length_take]; rfl)) ?_; (with_reducible refine (nat_Cmp.calls k _ _ l0 _ _ l1 t206 _ ?side1 ?side2 ?side3 ?side4 A6.out).mono ?_); (case side1 => repeat (first | exact (Kd.C_below HR0.out HB.out) | (with_reducible refine Kd.C_alloc ?_ _) | (with_reducible refine Kd.C_drewN ?_ _) | (with_reducible refine Kd.C_drew ?_))); (case side2 => exact HC0.out); (case side3 => repeat (first | exact (Kd.C_below HR1.out HB.out) | (with_reducible refine Kd.C_alloc ?_ _) | (with_reducible refine Kd.C_drewN ?_ _) | (with_reducible refine Kd.C_drew ?_))); (case side4 => exact HC1.out); rintro e w' ⟨rfl, ⟨nd, rfl⟩⟩; refine ⟨_, rfl, ?_⟩) | ((with_reducible refine gate_callee (f := 18) rfl ?_); refine goesL_ (some 19) rfl rfl Try.func18 (by kernel_rfl) rfl #[.slice A1 l1.length c1, .slice A2 l2.length c2] rfl (by (try simp only [List.map_toArray, List.map_cons, List.map_nil]); first | done | rfl | (simp only [List.length_drop, List.length_take]; rfl)) ?_; (with_reducible refine (nat_Cmp.calls k _ _ l1 _ _ l2 t207 _ ?side1 ?side2 ?side3 ?side4 A7.out).mono ?_); (case side1 => repeat (first | exact (Kd.C_below HR1.out (by repeat (first | (with_reducible first | exact HB.out | apply below_alloc | apply pw_below_drewN | apply below_drew1) | exact HB.out))) | (with_reducible refine Kd.C_alloc ?_ _) | (with_reducible refine Kd.C_drewN ?_ _) | (with_reducible refine Kd.C_drew ?_))); (case side2 => exact HC1.out); (case side3 => repeat (first | exact (Kd.C_below HR2.out (by repeat (first | (with_reducible first | exact HB.out | apply below_alloc | apply pw_below_drewN | apply below_drew1) | exact HB.out))) | (with_reducible refine Kd.C_alloc ?_ _) | (with_reducible refine Kd.C_drewN ?_ _) | (with_reducible refine Kd.C_drew ?_))); (case side4 => exact HC2.out); rintro e w' ⟨rfl, ⟨nd, rfl⟩⟩; refine ⟨_, rfl, ?_⟩) | ((with_reducible refine gate_callee (f := 18) rfl ?_); refine goesL_ (some 22) rfl rfl Try.func18 (by kernel_rfl) rfl #[.slice A0 l0.length c0, .slice A2 l2.length c2] rfl (by (try simp only [List.map_toArray, List.map_cons, List.map_nil]); first | done | rfl | (simp only [List.length_drop, List.length_take]; rfl)) ?_; (with_reducible refine (nat_Cmp.calls k _ _ l0 _ _ l2 t208 _ ?side1 ?side2 ?side3 ?side4 A8.out).mono ?_); (case side1 => repeat (first | exact (Kd.C_below HR0.out (by repeat (first | (with_reducible first | exact HB.out | apply below_alloc | apply pw_below_drewN | apply below_drew1) | exact HB.out))) | (with_reducible refine Kd.C_alloc ?_ _) | (with_reducible refine Kd.C_drewN ?_ _) | (with_reducible refine Kd.C_drew ?_))); (case side2 => exact HC0.out); (case side3 => repeat (first | exact (Kd.C_below HR2.out (by repeat (first | (with_reducible first | exact HB.out | apply below_alloc | apply pw_below_drewN | apply below_drew1) | exact HB.out))) | (with_reducible refine Kd.C_alloc ?_ _) | (with_reducible refine Kd.C_drewN ?_ _) | (with_reducible refine Kd.C_drew ?_))); (case side4 => exact HC2.out); rintro e w' ⟨rfl, ⟨nd, rfl⟩⟩; refine ⟨_, rfl, ?_⟩))
    (try simp only [Act.put, List.setIfInBounds_toArray, List.set_cons_zero, List.set_cons_succ])
    go_cut [46] (fun v46 wc => ∃ (kq : Nat) (x46_8 : Bool), v46 = .bool x46_8 ∧ Aside0 (abacuslaw01_NatOrder.j0 kq l0 l1 t206 t207 t208 x46_8 = some r) ∧ Aside0 (kq ≤ k) ∧ Aside0 (Below w.heap.size w wc))
    case first =>
      have H := HC9.out
      clear HC9
      replace H := Option.bind_eq_some_iff.mp H
      obtain ⟨t209, A110, H⟩ := H
      replace H : (if t206 = (wrap64 (-t209)) then (if t206 < (-1) then (abacuslaw01_NatOrder.j0 k l0 l1 t206 t207 t208 true) else (if t206 > 1 then (abacuslaw01_NatOrder.j0 k l0 l1 t206 t207 t208 true) else ((nat_Trim.f k l0).bind fun t210 => ((nat_Trim.f k l1).bind fun t213 => ((abacuslaw01_same.f k t210 t213).bind fun t216 => (abacuslaw01_NatOrder.j0 k l0 l1 t206 t207 t208 ((t206 == 0) != t216))))))) else (abacuslaw01_NatOrder.j0 k l0 l1 t206 t207 t208 true)) = some r := H
      have A11 := Aside0.mk A110
      clear A110
      by_cases c12 : t206 = (wrap64 (-t209))
      · rw [if_pos c12] at H
        have c12b0 : (t206 == (wrap64 (-t209))) = true := beq_iff_eq.mpr c12
        have c12b1 : (t206 != (wrap64 (-t209))) = false := bne_eq_false_iff_eq.mpr c12
        clear c12
        (first | rw [c12b0] | (simp only [i64_w, i32_w]; rw [c12b0]) | rw [c12b1] | skip)
        by_cases c13 : t206 < (-1)
        · rw [if_pos c13] at H
          have c13b0 : decide (t206 < (-1)) = true := decide_eq_true c13
          clear c13
          as_aux_lemma =>
            have H' := Aside0.mk H
            clear H
            go_wp2_with (first | ((with_reducible refine gate_callee (f := 18) rfl ?_); refine goesL_ (some 26) rfl rfl Try.func18 (by kernel_rfl) rfl #[.slice A1 l1.length c1, .slice A0 l0.length c0] rfl (by (try simp only [List.map_toArray, List.map_cons, List.map_nil]); first | done | rfl | (simp only [List.length_drop, List.length_take]; rfl)) ?_; (with_reducible refine (nat_Cmp.calls k _ _ l1 _ _ l0 t209 _ ?side1 ?side2 ?side3 ?side4 A11.out).mono ?_); (case side1 => repeat (first | exact (Kd.C_below HR1.out HB.out) | (with_reducible refine Kd.C_alloc ?_ _) | (with_reducible refine Kd.C_drewN ?_ _) | (with_reducible refine Kd.C_drew ?_))); (case side2 => exact HC1.out); (case side3 => repeat (first | exact (Kd.C_below HR0.out HB.out) | (with_reducible refine Kd.C_alloc ?_ _) | (with_reducible refine Kd.C_drewN ?_ _) | (with_reducible refine Kd.C_drew ?_))); (case side4 => exact HC0.out); rintro e w' ⟨rfl, ⟨nd, rfl⟩⟩; refine ⟨_, rfl, ?_⟩))
            go_meet
            case rel => exact ⟨_, (true), (by first | rfl | (simp; done) | (simp [*]; done)), H', ⟨by first | omega | exact Nat.le_refl _⟩, ⟨by repeat (first | (with_reducible first | exact HB.out | apply below_alloc | apply pw_below_drewN | apply below_drew1) | exact HB.out)⟩⟩
        · rw [if_neg c13] at H
          have c13b0 : decide (t206 < (-1)) = false := decide_eq_false c13
          clear c13
          by_cases c14 : t206 > 1
          · rw [if_pos c14] at H
            have c14b0 : decide (1 < t206) = true := decide_eq_true c14
            clear c14
            as_aux_lemma =>
              have H' := Aside0.mk H
              clear H
              go_wp2_with (first | ((with_reducible refine gate_callee (f := 18) rfl ?_); refine goesL_ (some 26) rfl rfl Try.func18 (by kernel_rfl) rfl #[.slice A1 l1.length c1, .slice A0 l0.length c0] rfl (by (try simp only [List.map_toArray, List.map_cons, List.map_nil]); first | done | rfl | (simp only [List.length_drop, List.length_take]; rfl)) ?_; (with_reducible refine (nat_Cmp.calls k _ _ l1 _ _ l0 t209 _ ?side1 ?side2 ?side3 ?side4 A11.out).mono ?_); (case side1 => repeat (first | exact (Kd.C_below HR1.out HB.out) | (with_reducible refine Kd.C_alloc ?_ _) | (with_reducible refine Kd.C_drewN ?_ _) | (with_reducible refine Kd.C_drew ?_))); (case side2 => exact HC1.out); (case side3 => repeat (first | exact (Kd.C_below HR0.out HB.out) | (with_reducible refine Kd.C_alloc ?_ _) | (with_reducible refine Kd.C_drewN ?_ _) | (with_reducible refine Kd.C_drew ?_))); (case side4 => exact HC0.out); rintro e w' ⟨rfl, ⟨nd, rfl⟩⟩; refine ⟨_, rfl, ?_⟩))
              go_meet
              case rel => exact ⟨_, (true), (by first | rfl | (simp; done) | (simp [*]; done)), H', ⟨by first | omega | exact Nat.le_refl _⟩, ⟨by repeat (first | (with_reducible first | exact HB.out | apply below_alloc | apply pw_below_drewN | apply below_drew1) | exact HB.out)⟩⟩
          · rw [if_neg c14] at H
            have c14b0 : decide (1 < t206) = false := decide_eq_false c14
            clear c14
            replace H := Option.bind_eq_some_iff.mp H
            obtain ⟨t210, A150, H⟩ := H
            replace H : ((nat_Trim.f k l1).bind fun t213 => ((abacuslaw01_same.f k t210 t213).bind fun t216 => (abacuslaw01_NatOrder.j0 k l0 l1 t206 t207 t208 ((t206 == 0) != t216)))) = some r := H
            have A15 := Aside0.mk A150
            clear A150
            replace H := Option.bind_eq_some_iff.mp H
            obtain ⟨t213, A160, H⟩ := H
            replace H : ((abacuslaw01_same.f k t210 t213).bind fun t216 => (abacuslaw01_NatOrder.j0 k l0 l1 t206 t207 t208 ((t206 == 0) != t216))) = some r := H
            have A16 := Aside0.mk A160
            clear A160
            replace H := Option.bind_eq_some_iff.mp H
            obtain ⟨t216, A170, H⟩ := H
            replace H : (abacuslaw01_NatOrder.j0 k l0 l1 t206 t207 t208 ((t206 == 0) != t216)) = some r := H
            have A17 := Aside0.mk A170
            clear A170
            as_aux_lemma =>
              have H' := Aside0.mk H
              clear H
              go_wp2_with (first | ((with_reducible refine gate_callee (f := 18) rfl ?_); refine goesL_ (some 26) rfl rfl Try.func18 (by kernel_rfl) rfl #[.slice A1 l1.length c1, .slice A0 l0.length c0] rfl (by (try simp only [List.map_toArray, List.map_cons, List.map_nil]); first | done | rfl | (simp only [List.length_drop, List.length_take]; rfl)) ?_; (with_reducible refine (nat_Cmp.calls k _ _ l1 _ _ l0 t209 _ ?side1 ?side2 ?side3 ?side4 A11.out).mono ?_); (case side1 => repeat (first | exact (Kd.C_below HR1.out HB.out) | (with_reducible refine Kd.C_alloc ?_ _) | (with_reducible refine Kd.C_drewN ?_ _) | (with_reducible refine Kd.C_drew ?_))); (case side2 => exact HC1.out); (case side3 => repeat (first | exact (Kd.C_below HR0.out HB.out) | (with_reducible refine Kd.C_alloc ?_ _) | (with_reducible refine Kd.C_drewN ?_ _) | (with_reducible refine Kd.C_drew ?_))); (case side4 => exact HC0.out); rintro e w' ⟨rfl, ⟨nd, rfl⟩⟩; refine ⟨_, rfl, ?_⟩) | (go_at_call 20; (with_reducible refine (nat_Trim.calls k _ _ l0 t210 _ ?side1 ?side2 A15.out).mono ?_); (case side1 => repeat (first | exact (Kd.C_below HR0.out (by repeat (first | (with_reducible first | exact HB.out | apply below_alloc | apply pw_below_drewN | apply below_drew1) | exact HB.out))) | (with_reducible refine Kd.C_alloc ?_ _) | (with_reducible refine Kd.C_drewN ?_ _) | (with_reducible refine Kd.C_drew ?_))); (case side2 => exact HC0.out); rintro e w18 ⟨v211, rfl, ho0, hb⟩; have n0_ := Aside0.mk (Kd.R_lower ho0 (below_size (by repeat (first | (with_reducible first | exact HB.out | apply below_alloc | apply pw_below_drewN | apply below_drew1) | exact HB.out)))); have n1_ := Aside0.mk (below_step (by repeat (first | (with_reducible first | exact HB.out | apply below_alloc | apply pw_below_drewN | apply below_drew1) | exact HB.out)) hb); clear HB; have HO212 := n0_; have HB := n1_; clear n0_ n1_; (try clear hb); (try clear hb2); (try clear hk); (try clear hi); (try clear ho0)) | (go_at_call 20; (with_reducible refine (nat_Trim.calls k _ _ l1 t213 _ ?side1 ?side2 A16.out).mono ?_); (case side1 => repeat (first | exact (Kd.C_below HR1.out HB.out) | (with_reducible refine Kd.C_alloc ?_ _) | (with_reducible refine Kd.C_drewN ?_ _) | (with_reducible refine Kd.C_drew ?_))); (case side2 => exact HC1.out); rintro e w19 ⟨v214, rfl, ho0, hb⟩; have n0_ := Aside0.mk (Kd.R_elder' (by (with_reducible repeat (first | apply Kd.R_alloc | apply Kd.R_drewN | apply Kd.R_drew)); exact HO212.out) (Kd.R_base ho0) hb); have n1_ := Aside0.mk (Kd.R_lower (Kd.R_new' ho0 (Kd.R_lt (by (with_reducible repeat (first | apply Kd.R_alloc | apply Kd.R_drewN | apply Kd.R_drew)); exact HO212.out))) (below_size (by repeat (first | (with_reducible first | exact HB.out | apply below_alloc | apply pw_below_drewN | apply below_drew1) | exact HB.out)))); have n2_ := Aside0.mk (below_step (by repeat (first | (with_reducible first | exact HB.out | apply below_alloc | apply pw_below_drewN | apply below_drew1) | exact HB.out)) hb); clear HO212; clear HB; have HO212 := n0_; have HO215 := n1_; have HB := n2_; clear n0_ n1_ n2_; (try clear hb); (try clear hb2); (try clear hk); (try clear hi); (try clear ho0); obtain ⟨Ao20, co20, eo20⟩ := Kd.R_slice HO212.out; subst eo20; obtain ⟨Ao21, co21, eo21⟩ := Kd.R_slice HO215.out; subst eo21) | (go_at_call 13; (with_reducible refine (abacuslaw01_same.calls k _ _ t210 _ _ t213 t216 _ ?side1 ?side2 ?side3 ?side4 A17.out).mono ?_); (case side1 => repeat (first | exact (Kd.R_reads' HO212.out).2.2 | (with_reducible refine Kd.C_alloc ?_ _) | (with_reducible refine Kd.C_drewN ?_ _) | (with_reducible refine Kd.C_drew ?_))); (case side2 => exact (Kd.R_reads' HO212.out).2.1); (case side3 => repeat (first | exact (Kd.R_reads' HO215.out).2.2 | (with_reducible refine Kd.C_alloc ?_ _) | (with_reducible refine Kd.C_drewN ?_ _) | (with_reducible refine Kd.C_drew ?_))); (case side4 => exact (Kd.R_reads' HO215.out).2.1); rintro e w' ⟨rfl, ⟨nd, rfl⟩⟩))
              go_meet
              case rel => exact ⟨_, (((t206 == 0) != t216)), (by first | rfl | (simp; done) | (simp [*]; done)), H', ⟨by first | omega | exact Nat.le_refl _⟩, ⟨by repeat (first | (with_reducible first | exact HB.out | apply below_alloc | apply pw_below_drewN | apply below_drew1) | exact HB.out)⟩⟩
      · rw [if_neg c12] at H
        have c12b0 : (t206 == (wrap64 (-t209))) = false := beq_eq_false_iff_ne.mpr c12
        have c12b1 : (t206 != (wrap64 (-t209))) = true := bne_iff_ne.mpr c12
        (first | rw [c12b0] | (simp only [i64_w, i32_w]; rw [c12b0]) | rw [c12b1] | skip)
        as_aux_lemma =>
          have H' := Aside0.mk H
          clear H
          go_wp2_with (first | ((with_reducible refine gate_callee (f := 18) rfl ?_); refine goesL_ (some 26) rfl rfl Try.func18 (by kernel_rfl) rfl #[.slice A1 l1.length c1, .slice A0 l0.length c0] rfl (by (try simp only [List.map_toArray, List.map_cons, List.map_nil]); first | done | rfl | (simp only [List.length_drop, List.length_take]; rfl)) ?_; (with_reducible refine (nat_Cmp.calls k _ _ l1 _ _ l0 t209 _ ?side1 ?side2 ?side3 ?side4 A11.out).mono ?_); (case side1 => repeat (first | exact (Kd.C_below HR1.out HB.out) | (with_reducible refine Kd.C_alloc ?_ _) | (with_reducible refine Kd.C_drewN ?_ _) | (with_reducible refine Kd.C_drew ?_))); (case side2 => exact HC1.out); (case side3 => repeat (first | exact (Kd.C_below HR0.out HB.out) | (with_reducible refine Kd.C_alloc ?_ _) | (with_reducible refine Kd.C_drewN ?_ _) | (with_reducible refine Kd.C_drew ?_))); (case side4 => exact HC0.out); rintro e w' ⟨rfl, ⟨nd, rfl⟩⟩; refine ⟨_, rfl, ?_⟩))
          go_meet
          case rel => exact ⟨_, (true), (by first | rfl | (simp; done) | (simp [*]; done)), H', ⟨by first | omega | exact Nat.le_refl _⟩, ⟨by repeat (first | (with_reducible first | exact HB.out | apply below_alloc | apply pw_below_drewN | apply below_drew1) | exact HB.out)⟩⟩
    case rest =>
      clear HC9
      try clear c1
      try clear c2
      try clear p2
      try clear c5
      try clear c6
      try clear p6
      try clear c9
      try clear c12
      try clear c12b0
      try clear c12b1
      try clear c13
      try clear c13b0
      try clear c14
      try clear c14b0
      try clear c18
      obtain ⟨kq, x46_8, rfl, HA, HJ8, HB⟩ := hcut
      cases kq with
      | zero => exact absurd HA.out (by simp [abacuslaw01_NatOrder.j0])
      | succ kj8 =>
        have H := HA.out
        clear HA
        simp only [abacuslaw01_NatOrder.j0] at H
        by_cases c22 : x46_8 = true
        · subst c22
          have H1 : (some false) = some r := by rw [if_pos rfl] at H; exact H
          clear H
          have H := H1
          clear H1
          as_aux_lemma =>
            obtain rfl := Option.some.inj H
            go_wp2
            go_ret
            exact ⟨by first | rfl | (simp [errW_none, errW_some] <;> rfl) | (simp [*, errW_none, errW_some] <;> rfl), by repeat (first | (with_reducible first | exact HB.out | apply below_alloc | apply pw_below_drewN | apply below_drew1) | exact HB.out)⟩
        · replace c22 := Bool.eq_false_iff.mpr c22
          subst c22
          have H1 : (if t206 ≤ 0 then (if t207 ≤ 0 then (if t208 > 0 then (abacuslaw01_NatOrder.j1 kj8 l0 l1 t206 true) else (if t206 ≥ 0 then (if t207 ≥ 0 then (if t208 < 0 then (abacuslaw01_NatOrder.j1 kj8 l0 l1 t206 true) else (if t206 < 0 then (if t208 ≥ 0 then (abacuslaw01_NatOrder.j1 kj8 l0 l1 t206 true) else (if t207 < 0 then (abacuslaw01_NatOrder.j1 kj8 l0 l1 t206 (decide (t208 ≥ 0))) else (abacuslaw01_NatOrder.j1 kj8 l0 l1 t206 false))) else (if t207 < 0 then (abacuslaw01_NatOrder.j1 kj8 l0 l1 t206 (decide (t208 ≥ 0))) else (abacuslaw01_NatOrder.j1 kj8 l0 l1 t206 false)))) else (if t206 < 0 then (if t208 ≥ 0 then (abacuslaw01_NatOrder.j1 kj8 l0 l1 t206 true) else (if t207 < 0 then (abacuslaw01_NatOrder.j1 kj8 l0 l1 t206 (decide (t208 ≥ 0))) else (abacuslaw01_NatOrder.j1 kj8 l0 l1 t206 false))) else (if t207 < 0 then (abacuslaw01_NatOrder.j1 kj8 l0 l1 t206 (decide (t208 ≥ 0))) else (abacuslaw01_NatOrder.j1 kj8 l0 l1 t206 false)))) else (if t206 < 0 then (if t208 ≥ 0 then (abacuslaw01_NatOrder.j1 kj8 l0 l1 t206 true) else (if t207 < 0 then (abacuslaw01_NatOrder.j1 kj8 l0 l1 t206 (decide (t208 ≥ 0))) else (abacuslaw01_NatOrder.j1 kj8 l0 l1 t206 false))) else (if t207 < 0 then (abacuslaw01_NatOrder.j1 kj8 l0 l1 t206 (decide (t208 ≥ 0))) else (abacuslaw01_NatOrder.j1 kj8 l0 l1 t206 false))))) else (if t206 ≥ 0 then (if t207 ≥ 0 then (if t208 < 0 then (abacuslaw01_NatOrder.j1 kj8 l0 l1 t206 true) else (if t206 < 0 then (if t207 < 0 then (abacuslaw01_NatOrder.j1 kj8 l0 l1 t206 (decide (t208 ≥ 0))) else (abacuslaw01_NatOrder.j1 kj8 l0 l1 t206 false)) else (if t207 < 0 then (abacuslaw01_NatOrder.j1 kj8 l0 l1 t206 (decide (t208 ≥ 0))) else (abacuslaw01_NatOrder.j1 kj8 l0 l1 t206 false)))) else (if t206 < 0 then (if t207 < 0 then (abacuslaw01_NatOrder.j1 kj8 l0 l1 t206 (decide (t208 ≥ 0))) else (abacuslaw01_NatOrder.j1 kj8 l0 l1 t206 false)) else (if t207 < 0 then (abacuslaw01_NatOrder.j1 kj8 l0 l1 t206 (decide (t208 ≥ 0))) else (abacuslaw01_NatOrder.j1 kj8 l0 l1 t206 false)))) else (if t206 < 0 then (if t207 < 0 then (abacuslaw01_NatOrder.j1 kj8 l0 l1 t206 (decide (t208 ≥ 0))) else (abacuslaw01_NatOrder.j1 kj8 l0 l1 t206 false)) else (if t207 < 0 then (abacuslaw01_NatOrder.j1 kj8 l0 l1 t206 (decide (t208 ≥ 0))) else (abacuslaw01_NatOrder.j1 kj8 l0 l1 t206 false))))) else (if t206 ≥ 0 then (if t207 ≥ 0 then (if t208 < 0 then (abacuslaw01_NatOrder.j1 kj8 l0 l1 t206 true) else (if t206 < 0 then (if t207 ≤ 0 then (if t208 ≥ 0 then (abacuslaw01_NatOrder.j1 kj8 l0 l1 t206 true) else (abacuslaw01_NatOrder.j1 kj8 l0 l1 t206 false)) else (abacuslaw01_NatOrder.j1 kj8 l0 l1 t206 false)) else (abacuslaw01_NatOrder.j1 kj8 l0 l1 t206 false))) else (if t206 < 0 then (if t207 ≤ 0 then (if t208 ≥ 0 then (abacuslaw01_NatOrder.j1 kj8 l0 l1 t206 true) else (abacuslaw01_NatOrder.j1 kj8 l0 l1 t206 false)) else (abacuslaw01_NatOrder.j1 kj8 l0 l1 t206 false)) else (abacuslaw01_NatOrder.j1 kj8 l0 l1 t206 false))) else (if t206 < 0 then (if t207 ≤ 0 then (if t208 ≥ 0 then (abacuslaw01_NatOrder.j1 kj8 l0 l1 t206 true) else (abacuslaw01_NatOrder.j1 kj8 l0 l1 t206 false)) else (abacuslaw01_NatOrder.j1 kj8 l0 l1 t206 false)) else (abacuslaw01_NatOrder.j1 kj8 l0 l1 t206 false)))) = some r := by rw [if_neg (show ¬ (false = true) by decide)] at H; exact H
          clear H
          have H := H1
          clear H1
          have HC23 := Aside0.mk H
          clear H
          go_upto_region 8 with (fail)
          go_cut [92] (fun v92 wc => ∃ (kq : Nat) (x92_22 : Bool), v92 = .bool x92_22 ∧ Aside0 (abacuslaw01_NatOrder.j1 kq l0 l1 t206 x92_22 = some r) ∧ Aside0 (kq ≤ kj8) ∧ Aside0 (Below w.heap.size w wc))
          case first =>
            have H := HC23.out
            clear HC23
            by_cases c24 : t206 ≤ 0
            · rw [if_pos c24] at H
              have c24b0 : decide (t206 ≤ 0) = true := decide_eq_true c24
              clear c24
              (first | rw [c24b0] | (simp only [i64_w, i32_w]; rw [c24b0]) | rw [c24b1] | skip)
              by_cases c25 : t207 ≤ 0
              · rw [if_pos c25] at H
                have c25b0 : decide (t207 ≤ 0) = true := decide_eq_true c25
                clear c25
                by_cases c26 : t208 > 0
                · rw [if_pos c26] at H
                  have c26b0 : decide (0 < t208) = true := decide_eq_true c26
                  clear c26
                  as_aux_lemma =>
                    have H' := Aside0.mk H
                    clear H
                    go_wp2
                    go_meet
                    case rel => exact ⟨_, (true), (by first | rfl | (simp; done) | (simp [*]; done)), H', ⟨by have := HJ8.out; first | omega | exact Nat.le_refl _⟩, ⟨by repeat (first | (with_reducible first | exact HB.out | apply below_alloc | apply pw_below_drewN | apply below_drew1) | exact HB.out)⟩⟩
                · rw [if_neg c26] at H
                  have c26b0 : decide (0 < t208) = false := decide_eq_false c26
                  clear c26
                  by_cases c27 : t206 ≥ 0
                  · rw [if_pos c27] at H
                    have c27b0 : decide (0 ≤ t206) = true := decide_eq_true c27
                    clear c27
                    by_cases c28 : t207 ≥ 0
                    · rw [if_pos c28] at H
                      have c28b0 : decide (0 ≤ t207) = true := decide_eq_true c28
                      clear c28
                      by_cases c29 : t208 < 0
                      · rw [if_pos c29] at H
                        have c29b0 : decide (t208 < 0) = true := decide_eq_true c29
                        clear c29
                        as_aux_lemma =>
                          have H' := Aside0.mk H
                          clear H
                          go_wp2
                          go_meet
                          case rel => exact ⟨_, (true), (by first | rfl | (simp; done) | (simp [*]; done)), H', ⟨by have := HJ8.out; first | omega | exact Nat.le_refl _⟩, ⟨by repeat (first | (with_reducible first | exact HB.out | apply below_alloc | apply pw_below_drewN | apply below_drew1) | exact HB.out)⟩⟩
                      · rw [if_neg c29] at H
                        have c29b0 : decide (t208 < 0) = false := decide_eq_false c29
                        clear c29
                        by_cases c30 : t206 < 0
                        · rw [if_pos c30] at H
                          have c30b0 : decide (t206 < 0) = true := decide_eq_true c30
                          clear c30
                          by_cases c31 : t208 ≥ 0
                          · rw [if_pos c31] at H
                            have c31b0 : decide (0 ≤ t208) = true := decide_eq_true c31
                            clear c31
                            as_aux_lemma =>
                              have H' := Aside0.mk H
                              clear H
                              go_wp2
                              go_meet
                              case rel => exact ⟨_, (true), (by first | rfl | (simp; done) | (simp [*]; done)), H', ⟨by have := HJ8.out; first | omega | exact Nat.le_refl _⟩, ⟨by repeat (first | (with_reducible first | exact HB.out | apply below_alloc | apply pw_below_drewN | apply below_drew1) | exact HB.out)⟩⟩
                          · rw [if_neg c31] at H
                            have c31b0 : decide (0 ≤ t208) = false := decide_eq_false c31
                            clear c31
                            by_cases c32 : t207 < 0
                            · rw [if_pos c32] at H
                              have c32b0 : decide (t207 < 0) = true := decide_eq_true c32
                              clear c32
                              as_aux_lemma =>
                                have H' := Aside0.mk H
                                clear H
                                go_wp2
                                go_meet
                                case rel => exact ⟨_, (decide (t208 ≥ 0)), (by first | rfl | (simp; done) | (simp [*]; done)), H', ⟨by have := HJ8.out; first | omega | exact Nat.le_refl _⟩, ⟨by repeat (first | (with_reducible first | exact HB.out | apply below_alloc | apply pw_below_drewN | apply below_drew1) | exact HB.out)⟩⟩
                            · rw [if_neg c32] at H
                              have c32b0 : decide (t207 < 0) = false := decide_eq_false c32
                              clear c32
                              as_aux_lemma =>
                                have H' := Aside0.mk H
                                clear H
                                go_wp2
                                go_meet
                                case rel => exact ⟨_, (false), (by first | rfl | (simp; done) | (simp [*]; done)), H', ⟨by have := HJ8.out; first | omega | exact Nat.le_refl _⟩, ⟨by repeat (first | (with_reducible first | exact HB.out | apply below_alloc | apply pw_below_drewN | apply below_drew1) | exact HB.out)⟩⟩
                        · rw [if_neg c30] at H
                          have c30b0 : decide (t206 < 0) = false := decide_eq_false c30
                          clear c30
                          by_cases c33 : t207 < 0
                          · rw [if_pos c33] at H
                            have c33b0 : decide (t207 < 0) = true := decide_eq_true c33
                            clear c33
                            as_aux_lemma =>
                              have H' := Aside0.mk H
                              clear H
                              go_wp2
                              go_meet
                              case rel => exact ⟨_, (decide (t208 ≥ 0)), (by first | rfl | (simp; done) | (simp [*]; done)), H', ⟨by have := HJ8.out; first | omega | exact Nat.le_refl _⟩, ⟨by repeat (first | (with_reducible first | exact HB.out | apply below_alloc | apply pw_below_drewN | apply below_drew1) | exact HB.out)⟩⟩
                          · rw [if_neg c33] at H
                            have c33b0 : decide (t207 < 0) = false := decide_eq_false c33
                            clear c33
                            as_aux_lemma =>
                              have H' := Aside0.mk H
                              clear H
                              go_wp2
                              go_meet
                              case rel => exact ⟨_, (false), (by first | rfl | (simp; done) | (simp [*]; done)), H', ⟨by have := HJ8.out; first | omega | exact Nat.le_refl _⟩, ⟨by repeat (first | (with_reducible first | exact HB.out | apply below_alloc | apply pw_below_drewN | apply below_drew1) | exact HB.out)⟩⟩
                    · rw [if_neg c28] at H
                      have c28b0 : decide (0 ≤ t207) = false := decide_eq_false c28
                      clear c28
                      by_cases c34 : t206 < 0
                      · rw [if_pos c34] at H
                        have c34b0 : decide (t206 < 0) = true := decide_eq_true c34
                        clear c34
                        by_cases c35 : t208 ≥ 0
                        · rw [if_pos c35] at H
                          have c35b0 : decide (0 ≤ t208) = true := decide_eq_true c35
                          clear c35
                          as_aux_lemma =>
                            have H' := Aside0.mk H
                            clear H
                            go_wp2
                            go_meet
                            case rel => exact ⟨_, (true), (by first | rfl | (simp; done) | (simp [*]; done)), H', ⟨by have := HJ8.out; first | omega | exact Nat.le_refl _⟩, ⟨by repeat (first | (with_reducible first | exact HB.out | apply below_alloc | apply pw_below_drewN | apply below_drew1) | exact HB.out)⟩⟩
                        · rw [if_neg c35] at H
                          have c35b0 : decide (0 ≤ t208) = false := decide_eq_false c35
                          clear c35
                          by_cases c36 : t207 < 0
                          · rw [if_pos c36] at H
                            have c36b0 : decide (t207 < 0) = true := decide_eq_true c36
                            clear c36
                            as_aux_lemma =>
                              have H' := Aside0.mk H
                              clear H
                              go_wp2
                              go_meet
                              case rel => exact ⟨_, (decide (t208 ≥ 0)), (by first | rfl | (simp; done) | (simp [*]; done)), H', ⟨by have := HJ8.out; first | omega | exact Nat.le_refl _⟩, ⟨by repeat (first | (with_reducible first | exact HB.out | apply below_alloc | apply pw_below_drewN | apply below_drew1) | exact HB.out)⟩⟩
                          · rw [if_neg c36] at H
                            have c36b0 : decide (t207 < 0) = false := decide_eq_false c36
                            clear c36
                            as_aux_lemma =>
                              have H' := Aside0.mk H
                              clear H
                              go_wp2
                              go_meet
                              case rel => exact ⟨_, (false), (by first | rfl | (simp; done) | (simp [*]; done)), H', ⟨by have := HJ8.out; first | omega | exact Nat.le_refl _⟩, ⟨by repeat (first | (with_reducible first | exact HB.out | apply below_alloc | apply pw_below_drewN | apply below_drew1) | exact HB.out)⟩⟩
                      · rw [if_neg c34] at H
                        have c34b0 : decide (t206 < 0) = false := decide_eq_false c34
                        clear c34
                        by_cases c37 : t207 < 0
                        · rw [if_pos c37] at H
                          have c37b0 : decide (t207 < 0) = true := decide_eq_true c37
                          clear c37
                          as_aux_lemma =>
                            have H' := Aside0.mk H
                            clear H
                            go_wp2
                            go_meet
                            case rel => exact ⟨_, (decide (t208 ≥ 0)), (by first | rfl | (simp; done) | (simp [*]; done)), H', ⟨by have := HJ8.out; first | omega | exact Nat.le_refl _⟩, ⟨by repeat (first | (with_reducible first | exact HB.out | apply below_alloc | apply pw_below_drewN | apply below_drew1) | exact HB.out)⟩⟩
                        · rw [if_neg c37] at H
                          have c37b0 : decide (t207 < 0) = false := decide_eq_false c37
                          clear c37
                          as_aux_lemma =>
                            have H' := Aside0.mk H
                            clear H
                            go_wp2
                            go_meet
                            case rel => exact ⟨_, (false), (by first | rfl | (simp; done) | (simp [*]; done)), H', ⟨by have := HJ8.out; first | omega | exact Nat.le_refl _⟩, ⟨by repeat (first | (with_reducible first | exact HB.out | apply below_alloc | apply pw_below_drewN | apply below_drew1) | exact HB.out)⟩⟩
                  · rw [if_neg c27] at H
                    have c27b0 : decide (0 ≤ t206) = false := decide_eq_false c27
                    clear c27
                    by_cases c38 : t206 < 0
                    · rw [if_pos c38] at H
                      have c38b0 : decide (t206 < 0) = true := decide_eq_true c38
                      clear c38
                      by_cases c39 : t208 ≥ 0
                      · rw [if_pos c39] at H
                        have c39b0 : decide (0 ≤ t208) = true := decide_eq_true c39
                        clear c39
                        as_aux_lemma =>
                          have H' := Aside0.mk H
                          clear H
                          go_wp2
                          go_meet
                          case rel => exact ⟨_, (true), (by first | rfl | (simp; done) | (simp [*]; done)), H', ⟨by have := HJ8.out; first | omega | exact Nat.le_refl _⟩, ⟨by repeat (first | (with_reducible first | exact HB.out | apply below_alloc | apply pw_below_drewN | apply below_drew1) | exact HB.out)⟩⟩
                      · rw [if_neg c39] at H
                        have c39b0 : decide (0 ≤ t208) = false := decide_eq_false c39
                        clear c39
                        by_cases c40 : t207 < 0
                        · rw [if_pos c40] at H
                          have c40b0 : decide (t207 < 0) = true := decide_eq_true c40
                          clear c40
                          as_aux_lemma =>
                            have H' := Aside0.mk H
                            clear H
                            go_wp2
                            go_meet
                            case rel => exact ⟨_, (decide (t208 ≥ 0)), (by first | rfl | (simp; done) | (simp [*]; done)), H', ⟨by have := HJ8.out; first | omega | exact Nat.le_refl _⟩, ⟨by repeat (first | (with_reducible first | exact HB.out | apply below_alloc | apply pw_below_drewN | apply below_drew1) | exact HB.out)⟩⟩
                        · rw [if_neg c40] at H
                          have c40b0 : decide (t207 < 0) = false := decide_eq_false c40
                          clear c40
                          as_aux_lemma =>
                            have H' := Aside0.mk H
                            clear H
                            go_wp2
                            go_meet
                            case rel => exact ⟨_, (false), (by first | rfl | (simp; done) | (simp [*]; done)), H', ⟨by have := HJ8.out; first | omega | exact Nat.le_refl _⟩, ⟨by repeat (first | (with_reducible first | exact HB.out | apply below_alloc | apply pw_below_drewN | apply below_drew1) | exact HB.out)⟩⟩
                    · rw [if_neg c38] at H
                      have c38b0 : decide (t206 < 0) = false := decide_eq_false c38
                      clear c38
                      by_cases c41 : t207 < 0
                      · rw [if_pos c41] at H
                        have c41b0 : decide (t207 < 0) = true := decide_eq_true c41
                        clear c41
                        as_aux_lemma =>
                          have H' := Aside0.mk H
                          clear H
                          go_wp2
                          go_meet
                          case rel => exact ⟨_, (decide (t208 ≥ 0)), (by first | rfl | (simp; done) | (simp [*]; done)), H', ⟨by have := HJ8.out; first | omega | exact Nat.le_refl _⟩, ⟨by repeat (first | (with_reducible first | exact HB.out | apply below_alloc | apply pw_below_drewN | apply below_drew1) | exact HB.out)⟩⟩
                      · rw [if_neg c41] at H
                        have c41b0 : decide (t207 < 0) = false := decide_eq_false c41
                        clear c41
                        as_aux_lemma =>
                          have H' := Aside0.mk H
                          clear H
                          go_wp2
                          go_meet
                          case rel => exact ⟨_, (false), (by first | rfl | (simp; done) | (simp [*]; done)), H', ⟨by have := HJ8.out; first | omega | exact Nat.le_refl _⟩, ⟨by repeat (first | (with_reducible first | exact HB.out | apply below_alloc | apply pw_below_drewN | apply below_drew1) | exact HB.out)⟩⟩
              · rw [if_neg c25] at H
                have c25b0 : decide (t207 ≤ 0) = false := decide_eq_false c25
                clear c25
                by_cases c42 : t206 ≥ 0
                · rw [if_pos c42] at H
                  have c42b0 : decide (0 ≤ t206) = true := decide_eq_true c42
                  clear c42
                  by_cases c43 : t207 ≥ 0
                  · rw [if_pos c43] at H
                    have c43b0 : decide (0 ≤ t207) = true := decide_eq_true c43
                    clear c43
                    by_cases c44 : t208 < 0
                    · rw [if_pos c44] at H
                      have c44b0 : decide (t208 < 0) = true := decide_eq_true c44
                      clear c44
                      as_aux_lemma =>
                        have H' := Aside0.mk H
                        clear H
                        go_wp2
                        go_meet
                        case rel => exact ⟨_, (true), (by first | rfl | (simp; done) | (simp [*]; done)), H', ⟨by have := HJ8.out; first | omega | exact Nat.le_refl _⟩, ⟨by repeat (first | (with_reducible first | exact HB.out | apply below_alloc | apply pw_below_drewN | apply below_drew1) | exact HB.out)⟩⟩
                    · rw [if_neg c44] at H
                      have c44b0 : decide (t208 < 0) = false := decide_eq_false c44
                      clear c44
                      by_cases c45 : t206 < 0
                      · rw [if_pos c45] at H
                        have c45b0 : decide (t206 < 0) = true := decide_eq_true c45
                        clear c45
                        by_cases c46 : t207 < 0
                        · rw [if_pos c46] at H
                          have c46b0 : decide (t207 < 0) = true := decide_eq_true c46
                          clear c46
                          as_aux_lemma =>
                            have H' := Aside0.mk H
                            clear H
                            go_wp2
                            go_meet
                            case rel => exact ⟨_, (decide (t208 ≥ 0)), (by first | rfl | (simp; done) | (simp [*]; done)), H', ⟨by have := HJ8.out; first | omega | exact Nat.le_refl _⟩, ⟨by repeat (first | (with_reducible first | exact HB.out | apply below_alloc | apply pw_below_drewN | apply below_drew1) | exact HB.out)⟩⟩
                        · rw [if_neg c46] at H
                          have c46b0 : decide (t207 < 0) = false := decide_eq_false c46
                          clear c46
                          as_aux_lemma =>
                            have H' := Aside0.mk H
                            clear H
                            go_wp2
                            go_meet
                            case rel => exact ⟨_, (false), (by first | rfl | (simp; done) | (simp [*]; done)), H', ⟨by have := HJ8.out; first | omega | exact Nat.le_refl _⟩, ⟨by repeat (first | (with_reducible first | exact HB.out | apply below_alloc | apply pw_below_drewN | apply below_drew1) | exact HB.out)⟩⟩
                      · rw [if_neg c45] at H
                        have c45b0 : decide (t206 < 0) = false := decide_eq_false c45
                        clear c45
                        by_cases c47 : t207 < 0
                        · rw [if_pos c47] at H
                          have c47b0 : decide (t207 < 0) = true := decide_eq_true c47
                          clear c47
                          as_aux_lemma =>
                            have H' := Aside0.mk H
                            clear H
                            go_wp2
                            go_meet
                            case rel => exact ⟨_, (decide (t208 ≥ 0)), (by first | rfl | (simp; done) | (simp [*]; done)), H', ⟨by have := HJ8.out; first | omega | exact Nat.le_refl _⟩, ⟨by repeat (first | (with_reducible first | exact HB.out | apply below_alloc | apply pw_below_drewN | apply below_drew1) | exact HB.out)⟩⟩
                        · rw [if_neg c47] at H
                          have c47b0 : decide (t207 < 0) = false := decide_eq_false c47
                          clear c47
                          as_aux_lemma =>
                            have H' := Aside0.mk H
                            clear H
                            go_wp2
                            go_meet
                            case rel => exact ⟨_, (false), (by first | rfl | (simp; done) | (simp [*]; done)), H', ⟨by have := HJ8.out; first | omega | exact Nat.le_refl _⟩, ⟨by repeat (first | (with_reducible first | exact HB.out | apply below_alloc | apply pw_below_drewN | apply below_drew1) | exact HB.out)⟩⟩
                  · rw [if_neg c43] at H
                    have c43b0 : decide (0 ≤ t207) = false := decide_eq_false c43
                    clear c43
                    by_cases c48 : t206 < 0
                    · rw [if_pos c48] at H
                      have c48b0 : decide (t206 < 0) = true := decide_eq_true c48
                      clear c48
                      by_cases c49 : t207 < 0
                      · rw [if_pos c49] at H
                        have c49b0 : decide (t207 < 0) = true := decide_eq_true c49
                        clear c49
                        as_aux_lemma =>
                          have H' := Aside0.mk H
                          clear H
                          go_wp2
                          go_meet
                          case rel => exact ⟨_, (decide (t208 ≥ 0)), (by first | rfl | (simp; done) | (simp [*]; done)), H', ⟨by have := HJ8.out; first | omega | exact Nat.le_refl _⟩, ⟨by repeat (first | (with_reducible first | exact HB.out | apply below_alloc | apply pw_below_drewN | apply below_drew1) | exact HB.out)⟩⟩
                      · rw [if_neg c49] at H
                        have c49b0 : decide (t207 < 0) = false := decide_eq_false c49
                        clear c49
                        as_aux_lemma =>
                          have H' := Aside0.mk H
                          clear H
                          go_wp2
                          go_meet
                          case rel => exact ⟨_, (false), (by first | rfl | (simp; done) | (simp [*]; done)), H', ⟨by have := HJ8.out; first | omega | exact Nat.le_refl _⟩, ⟨by repeat (first | (with_reducible first | exact HB.out | apply below_alloc | apply pw_below_drewN | apply below_drew1) | exact HB.out)⟩⟩
                    · rw [if_neg c48] at H
                      have c48b0 : decide (t206 < 0) = false := decide_eq_false c48
                      clear c48
                      by_cases c50 : t207 < 0
                      · rw [if_pos c50] at H
                        have c50b0 : decide (t207 < 0) = true := decide_eq_true c50
                        clear c50
                        as_aux_lemma =>
                          have H' := Aside0.mk H
                          clear H
                          go_wp2
                          go_meet
                          case rel => exact ⟨_, (decide (t208 ≥ 0)), (by first | rfl | (simp; done) | (simp [*]; done)), H', ⟨by have := HJ8.out; first | omega | exact Nat.le_refl _⟩, ⟨by repeat (first | (with_reducible first | exact HB.out | apply below_alloc | apply pw_below_drewN | apply below_drew1) | exact HB.out)⟩⟩
                      · rw [if_neg c50] at H
                        have c50b0 : decide (t207 < 0) = false := decide_eq_false c50
                        clear c50
                        as_aux_lemma =>
                          have H' := Aside0.mk H
                          clear H
                          go_wp2
                          go_meet
                          case rel => exact ⟨_, (false), (by first | rfl | (simp; done) | (simp [*]; done)), H', ⟨by have := HJ8.out; first | omega | exact Nat.le_refl _⟩, ⟨by repeat (first | (with_reducible first | exact HB.out | apply below_alloc | apply pw_below_drewN | apply below_drew1) | exact HB.out)⟩⟩
                · rw [if_neg c42] at H
                  have c42b0 : decide (0 ≤ t206) = false := decide_eq_false c42
                  clear c42
                  by_cases c51 : t206 < 0
                  · rw [if_pos c51] at H
                    have c51b0 : decide (t206 < 0) = true := decide_eq_true c51
                    clear c51
                    by_cases c52 : t207 < 0
                    · rw [if_pos c52] at H
                      have c52b0 : decide (t207 < 0) = true := decide_eq_true c52
                      clear c52
                      as_aux_lemma =>
                        have H' := Aside0.mk H
                        clear H
                        go_wp2
                        go_meet
                        case rel => exact ⟨_, (decide (t208 ≥ 0)), (by first | rfl | (simp; done) | (simp [*]; done)), H', ⟨by have := HJ8.out; first | omega | exact Nat.le_refl _⟩, ⟨by repeat (first | (with_reducible first | exact HB.out | apply below_alloc | apply pw_below_drewN | apply below_drew1) | exact HB.out)⟩⟩
                    · rw [if_neg c52] at H
                      have c52b0 : decide (t207 < 0) = false := decide_eq_false c52
                      clear c52
                      as_aux_lemma =>
                        have H' := Aside0.mk H
                        clear H
                        go_wp2
                        go_meet
                        case rel => exact ⟨_, (false), (by first | rfl | (simp; done) | (simp [*]; done)), H', ⟨by have := HJ8.out; first | omega | exact Nat.le_refl _⟩, ⟨by repeat (first | (with_reducible first | exact HB.out | apply below_alloc | apply pw_below_drewN | apply below_drew1) | exact HB.out)⟩⟩
                  · rw [if_neg c51] at H
                    have c51b0 : decide (t206 < 0) = false := decide_eq_false c51
                    clear c51
                    by_cases c53 : t207 < 0
                    · rw [if_pos c53] at H
                      have c53b0 : decide (t207 < 0) = true := decide_eq_true c53
                      clear c53
                      as_aux_lemma =>
                        have H' := Aside0.mk H
                        clear H
                        go_wp2
                        go_meet
                        case rel => exact ⟨_, (decide (t208 ≥ 0)), (by first | rfl | (simp; done) | (simp [*]; done)), H', ⟨by have := HJ8.out; first | omega | exact Nat.le_refl _⟩, ⟨by repeat (first | (with_reducible first | exact HB.out | apply below_alloc | apply pw_below_drewN | apply below_drew1) | exact HB.out)⟩⟩
                    · rw [if_neg c53] at H
                      have c53b0 : decide (t207 < 0) = false := decide_eq_false c53
                      clear c53
                      as_aux_lemma =>
                        have H' := Aside0.mk H
                        clear H
                        go_wp2
                        go_meet
                        case rel => exact ⟨_, (false), (by first | rfl | (simp; done) | (simp [*]; done)), H', ⟨by have := HJ8.out; first | omega | exact Nat.le_refl _⟩, ⟨by repeat (first | (with_reducible first | exact HB.out | apply below_alloc | apply pw_below_drewN | apply below_drew1) | exact HB.out)⟩⟩
            · rw [if_neg c24] at H
              have c24b0 : decide (t206 ≤ 0) = false := decide_eq_false c24
              clear c24
              (first | rw [c24b0] | (simp only [i64_w, i32_w]; rw [c24b0]) | rw [c24b1] | skip)
              by_cases c54 : t206 ≥ 0
              · rw [if_pos c54] at H
                have c54b0 : decide (0 ≤ t206) = true := decide_eq_true c54
                clear c54
                by_cases c55 : t207 ≥ 0
                · rw [if_pos c55] at H
                  have c55b0 : decide (0 ≤ t207) = true := decide_eq_true c55
                  clear c55
                  by_cases c56 : t208 < 0
                  · rw [if_pos c56] at H
                    have c56b0 : decide (t208 < 0) = true := decide_eq_true c56
                    clear c56
                    as_aux_lemma =>
                      have H' := Aside0.mk H
                      clear H
                      go_wp2
                      go_meet
                      case rel => exact ⟨_, (true), (by first | rfl | (simp; done) | (simp [*]; done)), H', ⟨by have := HJ8.out; first | omega | exact Nat.le_refl _⟩, ⟨by repeat (first | (with_reducible first | exact HB.out | apply below_alloc | apply pw_below_drewN | apply below_drew1) | exact HB.out)⟩⟩
                  · rw [if_neg c56] at H
                    have c56b0 : decide (t208 < 0) = false := decide_eq_false c56
                    clear c56
                    by_cases c57 : t206 < 0
                    · rw [if_pos c57] at H
                      have c57b0 : decide (t206 < 0) = true := decide_eq_true c57
                      clear c57
                      by_cases c58 : t207 ≤ 0
                      · rw [if_pos c58] at H
                        have c58b0 : decide (t207 ≤ 0) = true := decide_eq_true c58
                        clear c58
                        by_cases c59 : t208 ≥ 0
                        · rw [if_pos c59] at H
                          have c59b0 : decide (0 ≤ t208) = true := decide_eq_true c59
                          clear c59
                          as_aux_lemma =>
                            have H' := Aside0.mk H
                            clear H
                            go_wp2
                            go_meet
                            case rel => exact ⟨_, (true), (by first | rfl | (simp; done) | (simp [*]; done)), H', ⟨by have := HJ8.out; first | omega | exact Nat.le_refl _⟩, ⟨by repeat (first | (with_reducible first | exact HB.out | apply below_alloc | apply pw_below_drewN | apply below_drew1) | exact HB.out)⟩⟩
                        · rw [if_neg c59] at H
                          have c59b0 : decide (0 ≤ t208) = false := decide_eq_false c59
                          clear c59
                          as_aux_lemma =>
                            have H' := Aside0.mk H
                            clear H
                            go_wp2
                            go_meet
                            case rel => exact ⟨_, (false), (by first | rfl | (simp; done) | (simp [*]; done)), H', ⟨by have := HJ8.out; first | omega | exact Nat.le_refl _⟩, ⟨by repeat (first | (with_reducible first | exact HB.out | apply below_alloc | apply pw_below_drewN | apply below_drew1) | exact HB.out)⟩⟩
                      · rw [if_neg c58] at H
                        have c58b0 : decide (t207 ≤ 0) = false := decide_eq_false c58
                        clear c58
                        as_aux_lemma =>
                          have H' := Aside0.mk H
                          clear H
                          go_wp2
                          go_meet
                          case rel => exact ⟨_, (false), (by first | rfl | (simp; done) | (simp [*]; done)), H', ⟨by have := HJ8.out; first | omega | exact Nat.le_refl _⟩, ⟨by repeat (first | (with_reducible first | exact HB.out | apply below_alloc | apply pw_below_drewN | apply below_drew1) | exact HB.out)⟩⟩
                    · rw [if_neg c57] at H
                      have c57b0 : decide (t206 < 0) = false := decide_eq_false c57
                      clear c57
                      as_aux_lemma =>
                        have H' := Aside0.mk H
                        clear H
                        go_wp2
                        go_meet
                        case rel => exact ⟨_, (false), (by first | rfl | (simp; done) | (simp [*]; done)), H', ⟨by have := HJ8.out; first | omega | exact Nat.le_refl _⟩, ⟨by repeat (first | (with_reducible first | exact HB.out | apply below_alloc | apply pw_below_drewN | apply below_drew1) | exact HB.out)⟩⟩
                · rw [if_neg c55] at H
                  have c55b0 : decide (0 ≤ t207) = false := decide_eq_false c55
                  clear c55
                  by_cases c60 : t206 < 0
                  · rw [if_pos c60] at H
                    have c60b0 : decide (t206 < 0) = true := decide_eq_true c60
                    clear c60
                    by_cases c61 : t207 ≤ 0
                    · rw [if_pos c61] at H
                      have c61b0 : decide (t207 ≤ 0) = true := decide_eq_true c61
                      clear c61
                      by_cases c62 : t208 ≥ 0
                      · rw [if_pos c62] at H
                        have c62b0 : decide (0 ≤ t208) = true := decide_eq_true c62
                        clear c62
                        as_aux_lemma =>
                          have H' := Aside0.mk H
                          clear H
                          go_wp2
                          go_meet
                          case rel => exact ⟨_, (true), (by first | rfl | (simp; done) | (simp [*]; done)), H', ⟨by have := HJ8.out; first | omega | exact Nat.le_refl _⟩, ⟨by repeat (first | (with_reducible first | exact HB.out | apply below_alloc | apply pw_below_drewN | apply below_drew1) | exact HB.out)⟩⟩
                      · rw [if_neg c62] at H
                        have c62b0 : decide (0 ≤ t208) = false := decide_eq_false c62
                        clear c62
                        as_aux_lemma =>
                          have H' := Aside0.mk H
                          clear H
                          go_wp2
                          go_meet
                          case rel => exact ⟨_, (false), (by first | rfl | (simp; done) | (simp [*]; done)), H', ⟨by have := HJ8.out; first | omega | exact Nat.le_refl _⟩, ⟨by repeat (first | (with_reducible first | exact HB.out | apply below_alloc | apply pw_below_drewN | apply below_drew1) | exact HB.out)⟩⟩
                    · rw [if_neg c61] at H
                      have c61b0 : decide (t207 ≤ 0) = false := decide_eq_false c61
                      clear c61
                      as_aux_lemma =>
                        have H' := Aside0.mk H
                        clear H
                        go_wp2
                        go_meet
                        case rel => exact ⟨_, (false), (by first | rfl | (simp; done) | (simp [*]; done)), H', ⟨by have := HJ8.out; first | omega | exact Nat.le_refl _⟩, ⟨by repeat (first | (with_reducible first | exact HB.out | apply below_alloc | apply pw_below_drewN | apply below_drew1) | exact HB.out)⟩⟩
                  · rw [if_neg c60] at H
                    have c60b0 : decide (t206 < 0) = false := decide_eq_false c60
                    clear c60
                    as_aux_lemma =>
                      have H' := Aside0.mk H
                      clear H
                      go_wp2
                      go_meet
                      case rel => exact ⟨_, (false), (by first | rfl | (simp; done) | (simp [*]; done)), H', ⟨by have := HJ8.out; first | omega | exact Nat.le_refl _⟩, ⟨by repeat (first | (with_reducible first | exact HB.out | apply below_alloc | apply pw_below_drewN | apply below_drew1) | exact HB.out)⟩⟩
              · rw [if_neg c54] at H
                have c54b0 : decide (0 ≤ t206) = false := decide_eq_false c54
                clear c54
                by_cases c63 : t206 < 0
                · rw [if_pos c63] at H
                  have c63b0 : decide (t206 < 0) = true := decide_eq_true c63
                  clear c63
                  by_cases c64 : t207 ≤ 0
                  · rw [if_pos c64] at H
                    have c64b0 : decide (t207 ≤ 0) = true := decide_eq_true c64
                    clear c64
                    by_cases c65 : t208 ≥ 0
                    · rw [if_pos c65] at H
                      have c65b0 : decide (0 ≤ t208) = true := decide_eq_true c65
                      clear c65
                      as_aux_lemma =>
                        have H' := Aside0.mk H
                        clear H
                        go_wp2
                        go_meet
                        case rel => exact ⟨_, (true), (by first | rfl | (simp; done) | (simp [*]; done)), H', ⟨by have := HJ8.out; first | omega | exact Nat.le_refl _⟩, ⟨by repeat (first | (with_reducible first | exact HB.out | apply below_alloc | apply pw_below_drewN | apply below_drew1) | exact HB.out)⟩⟩
                    · rw [if_neg c65] at H
                      have c65b0 : decide (0 ≤ t208) = false := decide_eq_false c65
                      clear c65
                      as_aux_lemma =>
                        have H' := Aside0.mk H
                        clear H
                        go_wp2
                        go_meet
                        case rel => exact ⟨_, (false), (by first | rfl | (simp; done) | (simp [*]; done)), H', ⟨by have := HJ8.out; first | omega | exact Nat.le_refl _⟩, ⟨by repeat (first | (with_reducible first | exact HB.out | apply below_alloc | apply pw_below_drewN | apply below_drew1) | exact HB.out)⟩⟩
                  · rw [if_neg c64] at H
                    have c64b0 : decide (t207 ≤ 0) = false := decide_eq_false c64
                    clear c64
                    as_aux_lemma =>
                      have H' := Aside0.mk H
                      clear H
                      go_wp2
                      go_meet
                      case rel => exact ⟨_, (false), (by first | rfl | (simp; done) | (simp [*]; done)), H', ⟨by have := HJ8.out; first | omega | exact Nat.le_refl _⟩, ⟨by repeat (first | (with_reducible first | exact HB.out | apply below_alloc | apply pw_below_drewN | apply below_drew1) | exact HB.out)⟩⟩
                · rw [if_neg c63] at H
                  have c63b0 : decide (t206 < 0) = false := decide_eq_false c63
                  clear c63
                  as_aux_lemma =>
                    have H' := Aside0.mk H
                    clear H
                    go_wp2
                    go_meet
                    case rel => exact ⟨_, (false), (by first | rfl | (simp; done) | (simp [*]; done)), H', ⟨by have := HJ8.out; first | omega | exact Nat.le_refl _⟩, ⟨by repeat (first | (with_reducible first | exact HB.out | apply below_alloc | apply pw_below_drewN | apply below_drew1) | exact HB.out)⟩⟩
          case rest =>
            clear HC23
            try clear c1
            try clear c2
            try clear p2
            try clear c3
            try clear c4
            try clear c5
            try clear c6
            try clear p6
            try clear c9
            try clear c12
            try clear c12b0
            try clear c12b1
            try clear c13
            try clear c13b0
            try clear c14
            try clear c14b0
            try clear c18
            try clear c22
            try clear c24
            try clear c24b0
            try clear c24b1
            try clear c25
            try clear c25b0
            try clear c26
            try clear c26b0
            try clear c27
            try clear c27b0
            try clear c28
            try clear c28b0
            try clear c29
            try clear c29b0
            try clear c30
            try clear c30b0
            try clear c31
            try clear c31b0
            try clear c32
            try clear c32b0
            try clear c33
            try clear c33b0
            try clear c34
            try clear c34b0
            try clear c35
            try clear c35b0
            try clear c36
            try clear c36b0
            try clear c37
            try clear c37b0
            try clear c38
            try clear c38b0
            try clear c39
            try clear c39b0
            try clear c40
            try clear c40b0
            try clear c41
            try clear c41b0
            try clear c42
            try clear c42b0
            try clear c43
            try clear c43b0
            try clear c44
            try clear c44b0
            try clear c45
            try clear c45b0
            try clear c46
            try clear c46b0
            try clear c47
            try clear c47b0
            try clear c48
            try clear c48b0
            try clear c49
            try clear c49b0
            try clear c50
            try clear c50b0
            try clear c51
            try clear c51b0
            try clear c52
            try clear c52b0
            try clear c53
            try clear c53b0
            try clear c54
            try clear c54b0
            try clear c55
            try clear c55b0
            try clear c56
            try clear c56b0
            try clear c57
            try clear c57b0
            try clear c58
            try clear c58b0
            try clear c59
            try clear c59b0
            try clear c60
            try clear c60b0
            try clear c61
            try clear c61b0
            try clear c62
            try clear c62b0
            try clear c63
            try clear c63b0
            try clear c64
            try clear c64b0
            try clear c65
            try clear c65b0
            try clear p2
            try clear p6
            obtain ⟨kq, x92_22, rfl, HA, HJ22, HB⟩ := hcut
            cases kq with
            | zero => exact absurd HA.out (by simp [abacuslaw01_NatOrder.j1])
            | succ kj22 =>
              have H := HA.out
              clear HA
              simp only [abacuslaw01_NatOrder.j1] at H
              by_cases c66 : x92_22 = true
              · subst c66
                have H1 : (some false) = some r := by rw [if_pos rfl] at H; exact H
                clear H
                have H := H1
                clear H1
                as_aux_lemma =>
                  obtain rfl := Option.some.inj H
                  go_wp2
                  go_ret
                  exact ⟨by first | rfl | (simp [errW_none, errW_some] <;> rfl) | (simp [*, errW_none, errW_some] <;> rfl), by repeat (first | (with_reducible first | exact HB.out | apply below_alloc | apply pw_below_drewN | apply below_drew1) | exact HB.out)⟩
              · replace c66 := Bool.eq_false_iff.mpr c66
                subst c66
                have H1 : (if 0 ≤ (wrap64 ((l0.length : Int) + 3)) then (if (wrap64 ((l0.length : Int) + 3) : Int).toNat ≤ 35184372088832 then ((some (([] : List Int) : List Int)).bind fun y217 => (if y217.length + l0.length < 17592186044416 then ((some (y217 ++ l0 : List Int)).bind fun y220 => (if y220.length < 17592186044416 then ((some (y220 ++ [0] : List Int)).bind fun y223 => (if y223.length < 17592186044416 then ((some (y223 ++ [0] : List Int)).bind fun y226 => ((nat_Trim.f kj22 y226).bind fun t229 => ((nat_Cmp.f kj22 y226 l1).bind fun t232 => (if t232 = t206 then ((nat_Cmp.f kj22 t229 l0).bind fun t233 => (if t233 = 0 then ((abacuslaw01_size.f kj22 l0).bind fun t234 => (if (t229.length : Int) = t234 then ((nat_BitLen.f kj22 y226).bind fun t235 => ((nat_BitLen.f kj22 l0).bind fun t236 => (some (t235 == t236)))) else (some false))) else (some false))) else (some false))))) else (none))) else (none))) else (none))) else (none)) else (none)) = some r := by rw [if_neg (show ¬ (false = true) by decide)] at H; exact H
                clear H
                have H := H1
                clear H1
                obtain ⟨ji67, hji67⟩ : ∃ j_ : Int, (wrap64 ((l0.length : Int) + 3)) = j_ := ⟨_, rfl⟩
                replace H : (if 0 ≤ (ji67) then (if (ji67 : Int).toNat ≤ 35184372088832 then ((some (([] : List Int) : List Int)).bind fun y217 => (if y217.length + l0.length < 17592186044416 then ((some (y217 ++ l0 : List Int)).bind fun y220 => (if y220.length < 17592186044416 then ((some (y220 ++ [0] : List Int)).bind fun y223 => (if y223.length < 17592186044416 then ((some (y223 ++ [0] : List Int)).bind fun y226 => ((nat_Trim.f kj22 y226).bind fun t229 => ((nat_Cmp.f kj22 y226 l1).bind fun t232 => (if t232 = t206 then ((nat_Cmp.f kj22 t229 l0).bind fun t233 => (if t233 = 0 then ((abacuslaw01_size.f kj22 l0).bind fun t234 => (if (t229.length : Int) = t234 then ((nat_BitLen.f kj22 y226).bind fun t235 => ((nat_BitLen.f kj22 l0).bind fun t236 => (some (t235 == t236)))) else (some false))) else (some false))) else (some false))))) else (none))) else (none))) else (none))) else (none)) else (none)) = some r := by first | (rw [hji67] at H; exact H) | (simp only [hji67] at H ⊢; exact H)
                have hji67w : (IntKind.i64.wrap ((l0.length : Int) + 3)) = ji67 := (i64_w _).trans hji67
                by_cases c68 : 0 ≤ (ji67)
                · rw [if_pos c68] at H
                  have c68b0 := eq_true c68
                  have c68b1 : decide (0 ≤ (ji67)) = true := decide_eq_true c68
                  clear c68
                  by_cases c69 : (ji67 : Int).toNat ≤ 35184372088832
                  · rw [if_pos c69] at H
                    have c69b0 := eq_true c69
                    have c69b1 : decide ((ji67 : Int).toNat ≤ 35184372088832) = true := decide_eq_true c69
                    clear c69
                    obtain ⟨y217, hy217⟩ : ∃ y_ : List Int, y_ = (([] : List Int)) := ⟨_, rfl⟩
                    replace H : (if y217.length + l0.length < 17592186044416 then ((some (y217 ++ l0 : List Int)).bind fun y220 => (if y220.length < 17592186044416 then ((some (y220 ++ [0] : List Int)).bind fun y223 => (if y223.length < 17592186044416 then ((some (y223 ++ [0] : List Int)).bind fun y226 => ((nat_Trim.f kj22 y226).bind fun t229 => ((nat_Cmp.f kj22 y226 l1).bind fun t232 => (if t232 = t206 then ((nat_Cmp.f kj22 t229 l0).bind fun t233 => (if t233 = 0 then ((abacuslaw01_size.f kj22 l0).bind fun t234 => (if (t229.length : Int) = t234 then ((nat_BitLen.f kj22 y226).bind fun t235 => ((nat_BitLen.f kj22 l0).bind fun t236 => (some (t235 == t236)))) else (some false))) else (some false))) else (some false))))) else (none))) else (none))) else (none)) = some r := by first | (rw [hy217]; with_reducible exact H) | (have H2_ := (Option.bind_some _ _).symm.trans H; rw [hy217]; with_reducible exact H2_) | (have H2_ := (Option.bind_some _ _).symm.trans H; with_reducible exact H2_) | with_reducible exact H | (rw [hy217]; exact H) | exact H
                    have Ny217 := Aside0.mk hy217
                    clear hy217
                    by_cases c70 : y217.length + l0.length < 17592186044416
                    · rw [if_pos c70] at H
                      have LMc70 := Aside0.mk c70
                      clear c70
                      obtain ⟨y220, hy220⟩ : ∃ y_ : List Int, y_ = (y217 ++ l0) := ⟨_, rfl⟩
                      replace H : (if y220.length < 17592186044416 then ((some (y220 ++ [0] : List Int)).bind fun y223 => (if y223.length < 17592186044416 then ((some (y223 ++ [0] : List Int)).bind fun y226 => ((nat_Trim.f kj22 y226).bind fun t229 => ((nat_Cmp.f kj22 y226 l1).bind fun t232 => (if t232 = t206 then ((nat_Cmp.f kj22 t229 l0).bind fun t233 => (if t233 = 0 then ((abacuslaw01_size.f kj22 l0).bind fun t234 => (if (t229.length : Int) = t234 then ((nat_BitLen.f kj22 y226).bind fun t235 => ((nat_BitLen.f kj22 l0).bind fun t236 => (some (t235 == t236)))) else (some false))) else (some false))) else (some false))))) else (none))) else (none)) = some r := by first | (rw [hy220]; with_reducible exact H) | (have H2_ := (Option.bind_some _ _).symm.trans H; rw [hy220]; with_reducible exact H2_) | (have H2_ := (Option.bind_some _ _).symm.trans H; with_reducible exact H2_) | with_reducible exact H | (rw [hy220]; exact H) | exact H
                      have Ny220 := Aside0.mk hy220
                      clear hy220
                      by_cases c71 : y220.length < 17592186044416
                      · rw [if_pos c71] at H
                        have LMc71 := Aside0.mk c71
                        clear c71
                        obtain ⟨y223, hy223⟩ : ∃ y_ : List Int, y_ = (y220 ++ [0]) := ⟨_, rfl⟩
                        replace H : (if y223.length < 17592186044416 then ((some (y223 ++ [0] : List Int)).bind fun y226 => ((nat_Trim.f kj22 y226).bind fun t229 => ((nat_Cmp.f kj22 y226 l1).bind fun t232 => (if t232 = t206 then ((nat_Cmp.f kj22 t229 l0).bind fun t233 => (if t233 = 0 then ((abacuslaw01_size.f kj22 l0).bind fun t234 => (if (t229.length : Int) = t234 then ((nat_BitLen.f kj22 y226).bind fun t235 => ((nat_BitLen.f kj22 l0).bind fun t236 => (some (t235 == t236)))) else (some false))) else (some false))) else (some false))))) else (none)) = some r := by first | (rw [hy223]; with_reducible exact H) | (have H2_ := (Option.bind_some _ _).symm.trans H; rw [hy223]; with_reducible exact H2_) | (have H2_ := (Option.bind_some _ _).symm.trans H; with_reducible exact H2_) | with_reducible exact H | (rw [hy223]; exact H) | exact H
                        have Ny223 := Aside0.mk hy223
                        clear hy223
                        by_cases c72 : y223.length < 17592186044416
                        · rw [if_pos c72] at H
                          have LMc72 := Aside0.mk c72
                          clear c72
                          obtain ⟨y226, hy226⟩ : ∃ y_ : List Int, y_ = (y223 ++ [0]) := ⟨_, rfl⟩
                          replace H : ((nat_Trim.f kj22 y226).bind fun t229 => ((nat_Cmp.f kj22 y226 l1).bind fun t232 => (if t232 = t206 then ((nat_Cmp.f kj22 t229 l0).bind fun t233 => (if t233 = 0 then ((abacuslaw01_size.f kj22 l0).bind fun t234 => (if (t229.length : Int) = t234 then ((nat_BitLen.f kj22 y226).bind fun t235 => ((nat_BitLen.f kj22 l0).bind fun t236 => (some (t235 == t236)))) else (some false))) else (some false))) else (some false)))) = some r := by first | (rw [hy226]; with_reducible exact H) | (have H2_ := (Option.bind_some _ _).symm.trans H; rw [hy226]; with_reducible exact H2_) | (have H2_ := (Option.bind_some _ _).symm.trans H; with_reducible exact H2_) | with_reducible exact H | (rw [hy226]; exact H) | exact H
                          have Ny226 := Aside0.mk hy226
                          clear hy226
                          replace H := Option.bind_eq_some_iff.mp H
                          obtain ⟨t229, A730, H⟩ := H
                          replace H : ((nat_Cmp.f kj22 y226 l1).bind fun t232 => (if t232 = t206 then ((nat_Cmp.f kj22 t229 l0).bind fun t233 => (if t233 = 0 then ((abacuslaw01_size.f kj22 l0).bind fun t234 => (if (t229.length : Int) = t234 then ((nat_BitLen.f kj22 y226).bind fun t235 => ((nat_BitLen.f kj22 l0).bind fun t236 => (some (t235 == t236)))) else (some false))) else (some false))) else (some false))) = some r := H
                          have A73 := Aside0.mk A730
                          clear A730
                          replace H := Option.bind_eq_some_iff.mp H
                          obtain ⟨t232, A740, H⟩ := H
                          replace H : (if t232 = t206 then ((nat_Cmp.f kj22 t229 l0).bind fun t233 => (if t233 = 0 then ((abacuslaw01_size.f kj22 l0).bind fun t234 => (if (t229.length : Int) = t234 then ((nat_BitLen.f kj22 y226).bind fun t235 => ((nat_BitLen.f kj22 l0).bind fun t236 => (some (t235 == t236)))) else (some false))) else (some false))) else (some false)) = some r := H
                          have A74 := Aside0.mk A740
                          clear A740
                          by_cases c75 : t232 = t206
                          · rw [if_pos c75] at H
                            have c75b0 : (t232 == t206) = true := beq_iff_eq.mpr c75
                            have c75b1 : (t232 != t206) = false := bne_eq_false_iff_eq.mpr c75
                            clear c75
                            replace H := Option.bind_eq_some_iff.mp H
                            obtain ⟨t233, A760, H⟩ := H
                            replace H : (if t233 = 0 then ((abacuslaw01_size.f kj22 l0).bind fun t234 => (if (t229.length : Int) = t234 then ((nat_BitLen.f kj22 y226).bind fun t235 => ((nat_BitLen.f kj22 l0).bind fun t236 => (some (t235 == t236)))) else (some false))) else (some false)) = some r := H
                            have A76 := Aside0.mk A760
                            clear A760
                            by_cases c77 : t233 = 0
                            · rw [if_pos c77] at H
                              have c77b0 : (t233 == 0) = true := beq_iff_eq.mpr c77
                              have c77b1 : (t233 != 0) = false := bne_eq_false_iff_eq.mpr c77
                              clear c77
                              replace H := Option.bind_eq_some_iff.mp H
                              obtain ⟨t234, A780, H⟩ := H
                              replace H : (if (t229.length : Int) = t234 then ((nat_BitLen.f kj22 y226).bind fun t235 => ((nat_BitLen.f kj22 l0).bind fun t236 => (some (t235 == t236)))) else (some false)) = some r := H
                              have A78 := Aside0.mk A780
                              clear A780
                              by_cases c79 : (t229.length : Int) = t234
                              · rw [if_pos c79] at H
                                have c79b0 : ((t229.length : Int) == t234) = true := beq_iff_eq.mpr c79
                                have c79b1 : ((t229.length : Int) != t234) = false := bne_eq_false_iff_eq.mpr c79
                                clear c79
                                replace H := Option.bind_eq_some_iff.mp H
                                obtain ⟨t235, A800, H⟩ := H
                                replace H : ((nat_BitLen.f kj22 l0).bind fun t236 => (some (t235 == t236))) = some r := H
                                have A80 := Aside0.mk A800
                                clear A800
                                replace H := Option.bind_eq_some_iff.mp H
                                obtain ⟨t236, A810, H⟩ := H
                                replace H : (some (t235 == t236)) = some r := H
                                have A81 := Aside0.mk A810
                                clear A810
                                as_aux_lemma =>
                                  obtain rfl := Option.some.inj H
                                  go_wp2_with (first | ((with_reducible refine gate_dst (N := 96) rfl ?_); (try (refine gate_guard (by rfl) ?_; dsimp only)); refine Kd.R_make0 (Kd.int .u64) _ 33 rfl (N := 96) rfl 22 _ _ rfl ji67 rfl rfl Try.underlying22 (.int .u64 0) 8 info33 rfl (by decide) (by omega) 0 (ok := fun _ => True) (okp := fun _ => True) rfl (fun _ hk => hk) trivial (of_decide_eq_true (by first | (with_reducible assumption) | assumption)) (Nat.le_trans (Nat.mul_le_mul_right _ (of_decide_eq_true (by first | (with_reducible assumption) | assumption) : ji67.toNat ≤ 35184372088832)) (by omega)) (Below.refl _ _) (Nat.le_refl _) ?_; intro v218 w82 ho83 hb hg_ hnew_; clear hg_ hnew_; (first | rw [← Ny217.out] at ho83 | (simp only [Int.reduceToNat] at ho83; rw [← Ny217.out] at ho83)); have n0_ := Aside0.mk (Kd.R_lower ho83 (below_size (by repeat (first | (with_reducible first | exact HB.out | apply below_alloc | apply pw_below_drewN | apply below_drew1) | exact HB.out)))); have n1_ := Aside0.mk (below_step (by repeat (first | (with_reducible first | exact HB.out | apply below_alloc | apply pw_below_drewN | apply below_drew1) | exact HB.out)) hb); clear HB; have HO219 := n0_; have HB := n1_; clear n0_ n1_; clear hb ho83) | ((with_reducible refine gate_builtin (b := .append) (xs := #[.tmp 97, .tmp 98]) rfl ?_); (try (refine gate_guard (by rfl) ?_; dsimp only)); at_builtin; refine Kd.R_append_rows (Kd.int .u64) (w0 := w) w.heap.size rfl (.tmp 97) (.tmp 98) 22 33 (.int .u64 0) 8 rfl Try.underlying22 info33 rfl (by decide) (by omega) v218 y217 l0 _ _ _ (fun _ => True) (fun _ => False) rfl rfl ?aO ?aR (fun _ _ h => h) (fun _ h => h.elim) ?aF ?aB ?aS ?aL ?_; (case aR => repeat (first | exact (Kd.C_below HR0.out HB.out) | (with_reducible refine Kd.C_alloc ?_ _) | (with_reducible refine Kd.C_drewN ?_ _) | (with_reducible refine Kd.C_drew ?_))); (case aB => exact (by repeat (first | (with_reducible first | exact HB.out | apply below_alloc | apply pw_below_drewN | apply below_drew1) | exact HB.out))); (case aF => exact (fun _ _ => trivial)); (case aO => exact (by (with_reducible repeat (first | apply Kd.R_alloc | apply Kd.R_drewN | apply Kd.R_drew)); exact HO219.out)); (case aS => exact (below_size (by repeat (first | (with_reducible first | exact HB.out | apply below_alloc | apply pw_below_drewN | apply below_drew1) | exact HB.out)))); (case aL => have := LMc70.out; omega); intro v221 w84 ho hb hg hat; rw [← Ny220.out] at ho; have n0_ := Aside0.mk (hb); have n1_ := Aside0.mk (ho); clear HB; clear HO219; have HB := n0_; have HO222 := n1_; clear n0_ n1_; clear ho hb hg hat) | ((with_reducible refine gate_builtin (b := .append) (xs := #[.tmp 100, .tmp 101]) rfl ?_); (try (refine gate_guard (by rfl) ?_; dsimp only)); at_builtin; refine Kd.R_append (Kd.int .u64) (w0 := w) w.heap.size rfl (.tmp 100) (.tmp 101) 22 33 (.int .u64 0) 8 rfl Try.underlying22 info33 rfl (by decide) (by omega) v221 y220 0 [.int .u64 0] (fun _ => True) (fun _ => False) rfl rfl ?aP (fun _ hk => hk.elim) ?aF ?aO ?aB ?aS ?aL ?_; (case aP => exact rfl); (case aB => exact (by repeat (first | (with_reducible first | exact HB.out | apply below_alloc | apply pw_below_drewN | apply below_drew1) | exact HB.out))); (case aF => exact (fun _ _ => trivial)); (case aO => exact (by (with_reducible repeat (first | apply Kd.R_alloc | apply Kd.R_drewN | apply Kd.R_drew)); exact HO222.out)); (case aS => exact (below_size (by repeat (first | (with_reducible first | exact HB.out | apply below_alloc | apply pw_below_drewN | apply below_drew1) | exact HB.out)))); (case aL => have := LMc71.out; omega); intro v224 w85 ho hb hg hat; rw [← Ny223.out] at ho; have n0_ := Aside0.mk (hb); have n1_ := Aside0.mk (ho); clear HB; clear HO222; have HB := n0_; have HO225 := n1_; clear n0_ n1_; clear ho hb hg hat) | ((with_reducible refine gate_builtin (b := .append) (xs := #[.tmp 103, .tmp 104]) rfl ?_); (try (refine gate_guard (by rfl) ?_; dsimp only)); at_builtin; refine Kd.R_append (Kd.int .u64) (w0 := w) w.heap.size rfl (.tmp 103) (.tmp 104) 22 33 (.int .u64 0) 8 rfl Try.underlying22 info33 rfl (by decide) (by omega) v224 y223 0 [.int .u64 0] (fun _ => True) (fun _ => False) rfl rfl ?aP (fun _ hk => hk.elim) ?aF ?aO ?aB ?aS ?aL ?_; (case aP => exact rfl); (case aB => exact (by repeat (first | (with_reducible first | exact HB.out | apply below_alloc | apply pw_below_drewN | apply below_drew1) | exact HB.out))); (case aF => exact (fun _ _ => trivial)); (case aO => exact (by (with_reducible repeat (first | apply Kd.R_alloc | apply Kd.R_drewN | apply Kd.R_drew)); exact HO225.out)); (case aS => exact (below_size (by repeat (first | (with_reducible first | exact HB.out | apply below_alloc | apply pw_below_drewN | apply below_drew1) | exact HB.out)))); (case aL => have := LMc72.out; omega); intro v227 w86 ho hb hg hat; rw [← Ny226.out] at ho; have n0_ := Aside0.mk (hb); have n1_ := Aside0.mk (ho); clear HB; clear HO225; have HB := n0_; have HO228 := n1_; clear n0_ n1_; clear ho hb hg hat; obtain ⟨Ao87, co87, eo87⟩ := Kd.R_slice HO228.out; subst eo87) | ((with_reducible refine gate_callee (f := 20) rfl ?_); refine goesL_ (some 107) rfl rfl Try.func20 (by kernel_rfl) rfl #[.slice Ao87 y226.length co87] rfl (by (try simp only [List.map_toArray, List.map_cons, List.map_nil]); first | done | rfl | (simp only [List.length_drop, List.length_take]; rfl)) ?_; (with_reducible refine (nat_Trim.calls kj22 _ _ y226 t229 _ ?side1 ?side2 A73.out).mono ?_); (case side1 => repeat (first | exact (Kd.R_reads' HO228.out).2.2 | (with_reducible refine Kd.C_alloc ?_ _) | (with_reducible refine Kd.C_drewN ?_ _) | (with_reducible refine Kd.C_drew ?_))); (case side2 => exact (Kd.R_reads' HO228.out).2.1); rintro e w88 ⟨v230, rfl, ho0, hb⟩; refine ⟨_, rfl, ?_⟩; have n0_ := Aside0.mk (Kd.R_elder' (by (with_reducible repeat (first | apply Kd.R_alloc | apply Kd.R_drewN | apply Kd.R_drew)); exact HO228.out) (Kd.R_base ho0) hb); have n1_ := Aside0.mk (Kd.R_lower (Kd.R_new' ho0 (Kd.R_lt (by (with_reducible repeat (first | apply Kd.R_alloc | apply Kd.R_drewN | apply Kd.R_drew)); exact HO228.out))) (below_size (by repeat (first | (with_reducible first | exact HB.out | apply below_alloc | apply pw_below_drewN | apply below_drew1) | exact HB.out)))); have n2_ := Aside0.mk (below_step (by repeat (first | (with_reducible first | exact HB.out | apply below_alloc | apply pw_below_drewN | apply below_drew1) | exact HB.out)) hb); clear HO228; clear HB; have HO228 := n0_; have HO231 := n1_; have HB := n2_; clear n0_ n1_ n2_; (try clear hb); (try clear hb2); (try clear hk); (try clear hi); (try clear ho0)) | ((with_reducible refine gate_callee (f := 18) rfl ?_); refine goesL_ (some 110) rfl rfl Try.func18 (by kernel_rfl) rfl #[.slice Ao87 y226.length co87, .slice A1 l1.length c1] rfl (by (try simp only [List.map_toArray, List.map_cons, List.map_nil]); first | done | rfl | (simp only [List.length_drop, List.length_take]; rfl)) ?_; (with_reducible refine (nat_Cmp.calls kj22 _ _ y226 _ _ l1 t232 _ ?side1 ?side2 ?side3 ?side4 A74.out).mono ?_); (case side1 => repeat (first | exact (Kd.R_reads' HO228.out).2.2 | (with_reducible refine Kd.C_alloc ?_ _) | (with_reducible refine Kd.C_drewN ?_ _) | (with_reducible refine Kd.C_drew ?_))); (case side2 => exact (Kd.R_reads' HO228.out).2.1); (case side3 => repeat (first | exact (Kd.C_below HR1.out HB.out) | (with_reducible refine Kd.C_alloc ?_ _) | (with_reducible refine Kd.C_drewN ?_ _) | (with_reducible refine Kd.C_drew ?_))); (case side4 => exact HC1.out); rintro e w' ⟨rfl, ⟨nd, rfl⟩⟩; refine ⟨_, rfl, ?_⟩; obtain ⟨Ao89, co89, eo89⟩ := Kd.R_slice HO231.out; subst eo89) | (go_at_call 18; (with_reducible refine (nat_Cmp.calls kj22 _ _ t229 _ _ l0 t233 _ ?side1 ?side2 ?side3 ?side4 A76.out).mono ?_); (case side1 => repeat (first | exact (Kd.R_reads' HO231.out).2.2 | (with_reducible refine Kd.C_alloc ?_ _) | (with_reducible refine Kd.C_drewN ?_ _) | (with_reducible refine Kd.C_drew ?_))); (case side2 => exact (Kd.R_reads' HO231.out).2.1); (case side3 => repeat (first | exact (Kd.C_below HR0.out (by repeat (first | (with_reducible first | exact HB.out | apply below_alloc | apply pw_below_drewN | apply below_drew1) | exact HB.out))) | (with_reducible refine Kd.C_alloc ?_ _) | (with_reducible refine Kd.C_drewN ?_ _) | (with_reducible refine Kd.C_drew ?_))); (case side4 => exact HC0.out); rintro e w' ⟨rfl, ⟨nd, rfl⟩⟩) | (go_at_call 10; (with_reducible refine (abacuslaw01_size.calls kj22 _ _ l0 t234 _ ?side1 ?side2 A78.out).mono ?_); (case side1 => repeat (first | exact (Kd.C_below HR0.out (by repeat (first | (with_reducible first | exact HB.out | apply below_alloc | apply pw_below_drewN | apply below_drew1) | exact HB.out))) | (with_reducible refine Kd.C_alloc ?_ _) | (with_reducible refine Kd.C_drewN ?_ _) | (with_reducible refine Kd.C_drew ?_))); (case side2 => exact HC0.out); rintro e w' ⟨rfl, ⟨nd, rfl⟩⟩) | (go_at_call 21; (with_reducible refine (nat_BitLen.calls kj22 _ _ y226 t235 _ ?side1 ?side2 A80.out).mono ?_); (case side1 => repeat (first | exact (Kd.R_reads' HO228.out).2.2 | (with_reducible refine Kd.C_alloc ?_ _) | (with_reducible refine Kd.C_drewN ?_ _) | (with_reducible refine Kd.C_drew ?_))); (case side2 => exact (Kd.R_reads' HO228.out).2.1); rintro e w' ⟨rfl, ⟨nd, rfl⟩⟩) | (go_at_call 21; (with_reducible refine (nat_BitLen.calls kj22 _ _ l0 t236 _ ?side1 ?side2 A81.out).mono ?_); (case side1 => repeat (first | exact (Kd.C_below HR0.out (by repeat (first | (with_reducible first | exact HB.out | apply below_alloc | apply pw_below_drewN | apply below_drew1) | exact HB.out))) | (with_reducible refine Kd.C_alloc ?_ _) | (with_reducible refine Kd.C_drewN ?_ _) | (with_reducible refine Kd.C_drew ?_))); (case side2 => exact HC0.out); rintro e w' ⟨rfl, ⟨nd, rfl⟩⟩))
                                  go_ret
                                  exact ⟨by first | rfl | (simp [errW_none, errW_some] <;> rfl) | (simp only [← hji67]; first | rfl | (simp [errW_none, errW_some] <;> rfl)) | (simp [*, errW_none, errW_some] <;> rfl), by repeat (first | (with_reducible first | exact HB.out | apply below_alloc | apply pw_below_drewN | apply below_drew1) | exact HB.out)⟩
                              · rw [if_neg c79] at H
                                have c79b0 : ((t229.length : Int) == t234) = false := beq_eq_false_iff_ne.mpr c79
                                have c79b1 : ((t229.length : Int) != t234) = true := bne_iff_ne.mpr c79
                                as_aux_lemma =>
                                  obtain rfl := Option.some.inj H
                                  go_wp2_with (first | ((with_reducible refine gate_dst (N := 96) rfl ?_); (try (refine gate_guard (by rfl) ?_; dsimp only)); refine Kd.R_make0 (Kd.int .u64) _ 33 rfl (N := 96) rfl 22 _ _ rfl ji67 rfl rfl Try.underlying22 (.int .u64 0) 8 info33 rfl (by decide) (by omega) 0 (ok := fun _ => True) (okp := fun _ => True) rfl (fun _ hk => hk) trivial (of_decide_eq_true (by first | (with_reducible assumption) | assumption)) (Nat.le_trans (Nat.mul_le_mul_right _ (of_decide_eq_true (by first | (with_reducible assumption) | assumption) : ji67.toNat ≤ 35184372088832)) (by omega)) (Below.refl _ _) (Nat.le_refl _) ?_; intro v218 w90 ho91 hb hg_ hnew_; clear hg_ hnew_; (first | rw [← Ny217.out] at ho91 | (simp only [Int.reduceToNat] at ho91; rw [← Ny217.out] at ho91)); have n0_ := Aside0.mk (Kd.R_lower ho91 (below_size (by repeat (first | (with_reducible first | exact HB.out | apply below_alloc | apply pw_below_drewN | apply below_drew1) | exact HB.out)))); have n1_ := Aside0.mk (below_step (by repeat (first | (with_reducible first | exact HB.out | apply below_alloc | apply pw_below_drewN | apply below_drew1) | exact HB.out)) hb); clear HB; have HO219 := n0_; have HB := n1_; clear n0_ n1_; clear hb ho91) | ((with_reducible refine gate_builtin (b := .append) (xs := #[.tmp 97, .tmp 98]) rfl ?_); (try (refine gate_guard (by rfl) ?_; dsimp only)); at_builtin; refine Kd.R_append_rows (Kd.int .u64) (w0 := w) w.heap.size rfl (.tmp 97) (.tmp 98) 22 33 (.int .u64 0) 8 rfl Try.underlying22 info33 rfl (by decide) (by omega) v218 y217 l0 _ _ _ (fun _ => True) (fun _ => False) rfl rfl ?aO ?aR (fun _ _ h => h) (fun _ h => h.elim) ?aF ?aB ?aS ?aL ?_; (case aR => repeat (first | exact (Kd.C_below HR0.out HB.out) | (with_reducible refine Kd.C_alloc ?_ _) | (with_reducible refine Kd.C_drewN ?_ _) | (with_reducible refine Kd.C_drew ?_))); (case aB => exact (by repeat (first | (with_reducible first | exact HB.out | apply below_alloc | apply pw_below_drewN | apply below_drew1) | exact HB.out))); (case aF => exact (fun _ _ => trivial)); (case aO => exact (by (with_reducible repeat (first | apply Kd.R_alloc | apply Kd.R_drewN | apply Kd.R_drew)); exact HO219.out)); (case aS => exact (below_size (by repeat (first | (with_reducible first | exact HB.out | apply below_alloc | apply pw_below_drewN | apply below_drew1) | exact HB.out)))); (case aL => have := LMc70.out; omega); intro v221 w92 ho hb hg hat; rw [← Ny220.out] at ho; have n0_ := Aside0.mk (hb); have n1_ := Aside0.mk (ho); clear HB; clear HO219; have HB := n0_; have HO222 := n1_; clear n0_ n1_; clear ho hb hg hat) | ((with_reducible refine gate_builtin (b := .append) (xs := #[.tmp 100, .tmp 101]) rfl ?_); (try (refine gate_guard (by rfl) ?_; dsimp only)); at_builtin; refine Kd.R_append (Kd.int .u64) (w0 := w) w.heap.size rfl (.tmp 100) (.tmp 101) 22 33 (.int .u64 0) 8 rfl Try.underlying22 info33 rfl (by decide) (by omega) v221 y220 0 [.int .u64 0] (fun _ => True) (fun _ => False) rfl rfl ?aP (fun _ hk => hk.elim) ?aF ?aO ?aB ?aS ?aL ?_; (case aP => exact rfl); (case aB => exact (by repeat (first | (with_reducible first | exact HB.out | apply below_alloc | apply pw_below_drewN | apply below_drew1) | exact HB.out))); (case aF => exact (fun _ _ => trivial)); (case aO => exact (by (with_reducible repeat (first | apply Kd.R_alloc | apply Kd.R_drewN | apply Kd.R_drew)); exact HO222.out)); (case aS => exact (below_size (by repeat (first | (with_reducible first | exact HB.out | apply below_alloc | apply pw_below_drewN | apply below_drew1) | exact HB.out)))); (case aL => have := LMc71.out; omega); intro v224 w93 ho hb hg hat; rw [← Ny223.out] at ho; have n0_ := Aside0.mk (hb); have n1_ := Aside0.mk (ho); clear HB; clear HO222; have HB := n0_; have HO225 := n1_; clear n0_ n1_; clear ho hb hg hat) | ((with_reducible refine gate_builtin (b := .append) (xs := #[.tmp 103, .tmp 104]) rfl ?_); (try (refine gate_guard (by rfl) ?_; dsimp only)); at_builtin; refine Kd.R_append (Kd.int .u64) (w0 := w) w.heap.size rfl (.tmp 103) (.tmp 104) 22 33 (.int .u64 0) 8 rfl Try.underlying22 info33 rfl (by decide) (by omega) v224 y223 0 [.int .u64 0] (fun _ => True) (fun _ => False) rfl rfl ?aP (fun _ hk => hk.elim) ?aF ?aO ?aB ?aS ?aL ?_; (case aP => exact rfl); (case aB => exact (by repeat (first | (with_reducible first | exact HB.out | apply below_alloc | apply pw_below_drewN | apply below_drew1) | exact HB.out))); (case aF => exact (fun _ _ => trivial)); (case aO => exact (by (with_reducible repeat (first | apply Kd.R_alloc | apply Kd.R_drewN | apply Kd.R_drew)); exact HO225.out)); (case aS => exact (below_size (by repeat (first | (with_reducible first | exact HB.out | apply below_alloc | apply pw_below_drewN | apply below_drew1) | exact HB.out)))); (case aL => have := LMc72.out; omega); intro v227 w94 ho hb hg hat; rw [← Ny226.out] at ho; have n0_ := Aside0.mk (hb); have n1_ := Aside0.mk (ho); clear HB; clear HO225; have HB := n0_; have HO228 := n1_; clear n0_ n1_; clear ho hb hg hat; obtain ⟨Ao95, co95, eo95⟩ := Kd.R_slice HO228.out; subst eo95) | ((with_reducible refine gate_callee (f := 20) rfl ?_); refine goesL_ (some 107) rfl rfl Try.func20 (by kernel_rfl) rfl #[.slice Ao95 y226.length co95] rfl (by (try simp only [List.map_toArray, List.map_cons, List.map_nil]); first | done | rfl | (simp only [List.length_drop, List.length_take]; rfl)) ?_; (with_reducible refine (nat_Trim.calls kj22 _ _ y226 t229 _ ?side1 ?side2 A73.out).mono ?_); (case side1 => repeat (first | exact (Kd.R_reads' HO228.out).2.2 | (with_reducible refine Kd.C_alloc ?_ _) | (with_reducible refine Kd.C_drewN ?_ _) | (with_reducible refine Kd.C_drew ?_))); (case side2 => exact (Kd.R_reads' HO228.out).2.1); rintro e w96 ⟨v230, rfl, ho0, hb⟩; refine ⟨_, rfl, ?_⟩; have n0_ := Aside0.mk (Kd.R_elder' (by (with_reducible repeat (first | apply Kd.R_alloc | apply Kd.R_drewN | apply Kd.R_drew)); exact HO228.out) (Kd.R_base ho0) hb); have n1_ := Aside0.mk (Kd.R_lower (Kd.R_new' ho0 (Kd.R_lt (by (with_reducible repeat (first | apply Kd.R_alloc | apply Kd.R_drewN | apply Kd.R_drew)); exact HO228.out))) (below_size (by repeat (first | (with_reducible first | exact HB.out | apply below_alloc | apply pw_below_drewN | apply below_drew1) | exact HB.out)))); have n2_ := Aside0.mk (below_step (by repeat (first | (with_reducible first | exact HB.out | apply below_alloc | apply pw_below_drewN | apply below_drew1) | exact HB.out)) hb); clear HO228; clear HB; have HO228 := n0_; have HO231 := n1_; have HB := n2_; clear n0_ n1_ n2_; (try clear hb); (try clear hb2); (try clear hk); (try clear hi); (try clear ho0)) | ((with_reducible refine gate_callee (f := 18) rfl ?_); refine goesL_ (some 110) rfl rfl Try.func18 (by kernel_rfl) rfl #[.slice Ao95 y226.length co95, .slice A1 l1.length c1] rfl (by (try simp only [List.map_toArray, List.map_cons, List.map_nil]); first | done | rfl | (simp only [List.length_drop, List.length_take]; rfl)) ?_; (with_reducible refine (nat_Cmp.calls kj22 _ _ y226 _ _ l1 t232 _ ?side1 ?side2 ?side3 ?side4 A74.out).mono ?_); (case side1 => repeat (first | exact (Kd.R_reads' HO228.out).2.2 | (with_reducible refine Kd.C_alloc ?_ _) | (with_reducible refine Kd.C_drewN ?_ _) | (with_reducible refine Kd.C_drew ?_))); (case side2 => exact (Kd.R_reads' HO228.out).2.1); (case side3 => repeat (first | exact (Kd.C_below HR1.out HB.out) | (with_reducible refine Kd.C_alloc ?_ _) | (with_reducible refine Kd.C_drewN ?_ _) | (with_reducible refine Kd.C_drew ?_))); (case side4 => exact HC1.out); rintro e w' ⟨rfl, ⟨nd, rfl⟩⟩; refine ⟨_, rfl, ?_⟩; obtain ⟨Ao97, co97, eo97⟩ := Kd.R_slice HO231.out; subst eo97) | (go_at_call 18; (with_reducible refine (nat_Cmp.calls kj22 _ _ t229 _ _ l0 t233 _ ?side1 ?side2 ?side3 ?side4 A76.out).mono ?_); (case side1 => repeat (first | exact (Kd.R_reads' HO231.out).2.2 | (with_reducible refine Kd.C_alloc ?_ _) | (with_reducible refine Kd.C_drewN ?_ _) | (with_reducible refine Kd.C_drew ?_))); (case side2 => exact (Kd.R_reads' HO231.out).2.1); (case side3 => repeat (first | exact (Kd.C_below HR0.out (by repeat (first | (with_reducible first | exact HB.out | apply below_alloc | apply pw_below_drewN | apply below_drew1) | exact HB.out))) | (with_reducible refine Kd.C_alloc ?_ _) | (with_reducible refine Kd.C_drewN ?_ _) | (with_reducible refine Kd.C_drew ?_))); (case side4 => exact HC0.out); rintro e w' ⟨rfl, ⟨nd, rfl⟩⟩) | (go_at_call 10; (with_reducible refine (abacuslaw01_size.calls kj22 _ _ l0 t234 _ ?side1 ?side2 A78.out).mono ?_); (case side1 => repeat (first | exact (Kd.C_below HR0.out (by repeat (first | (with_reducible first | exact HB.out | apply below_alloc | apply pw_below_drewN | apply below_drew1) | exact HB.out))) | (with_reducible refine Kd.C_alloc ?_ _) | (with_reducible refine Kd.C_drewN ?_ _) | (with_reducible refine Kd.C_drew ?_))); (case side2 => exact HC0.out); rintro e w' ⟨rfl, ⟨nd, rfl⟩⟩))
                                  go_ret
                                  exact ⟨by first | rfl | (simp [errW_none, errW_some] <;> rfl) | (simp only [← hji67]; first | rfl | (simp [errW_none, errW_some] <;> rfl)) | (simp [*, errW_none, errW_some] <;> rfl), by repeat (first | (with_reducible first | exact HB.out | apply below_alloc | apply pw_below_drewN | apply below_drew1) | exact HB.out)⟩
                            · rw [if_neg c77] at H
                              have c77b0 : (t233 == 0) = false := beq_eq_false_iff_ne.mpr c77
                              have c77b1 : (t233 != 0) = true := bne_iff_ne.mpr c77
                              as_aux_lemma =>
                                obtain rfl := Option.some.inj H
                                go_wp2_with (first | ((with_reducible refine gate_dst (N := 96) rfl ?_); (try (refine gate_guard (by rfl) ?_; dsimp only)); refine Kd.R_make0 (Kd.int .u64) _ 33 rfl (N := 96) rfl 22 _ _ rfl ji67 rfl rfl Try.underlying22 (.int .u64 0) 8 info33 rfl (by decide) (by omega) 0 (ok := fun _ => True) (okp := fun _ => True) rfl (fun _ hk => hk) trivial (of_decide_eq_true (by first | (with_reducible assumption) | assumption)) (Nat.le_trans (Nat.mul_le_mul_right _ (of_decide_eq_true (by first | (with_reducible assumption) | assumption) : ji67.toNat ≤ 35184372088832)) (by omega)) (Below.refl _ _) (Nat.le_refl _) ?_; intro v218 w98 ho99 hb hg_ hnew_; clear hg_ hnew_; (first | rw [← Ny217.out] at ho99 | (simp only [Int.reduceToNat] at ho99; rw [← Ny217.out] at ho99)); have n0_ := Aside0.mk (Kd.R_lower ho99 (below_size (by repeat (first | (with_reducible first | exact HB.out | apply below_alloc | apply pw_below_drewN | apply below_drew1) | exact HB.out)))); have n1_ := Aside0.mk (below_step (by repeat (first | (with_reducible first | exact HB.out | apply below_alloc | apply pw_below_drewN | apply below_drew1) | exact HB.out)) hb); clear HB; have HO219 := n0_; have HB := n1_; clear n0_ n1_; clear hb ho99) | ((with_reducible refine gate_builtin (b := .append) (xs := #[.tmp 97, .tmp 98]) rfl ?_); (try (refine gate_guard (by rfl) ?_; dsimp only)); at_builtin; refine Kd.R_append_rows (Kd.int .u64) (w0 := w) w.heap.size rfl (.tmp 97) (.tmp 98) 22 33 (.int .u64 0) 8 rfl Try.underlying22 info33 rfl (by decide) (by omega) v218 y217 l0 _ _ _ (fun _ => True) (fun _ => False) rfl rfl ?aO ?aR (fun _ _ h => h) (fun _ h => h.elim) ?aF ?aB ?aS ?aL ?_; (case aR => repeat (first | exact (Kd.C_below HR0.out HB.out) | (with_reducible refine Kd.C_alloc ?_ _) | (with_reducible refine Kd.C_drewN ?_ _) | (with_reducible refine Kd.C_drew ?_))); (case aB => exact (by repeat (first | (with_reducible first | exact HB.out | apply below_alloc | apply pw_below_drewN | apply below_drew1) | exact HB.out))); (case aF => exact (fun _ _ => trivial)); (case aO => exact (by (with_reducible repeat (first | apply Kd.R_alloc | apply Kd.R_drewN | apply Kd.R_drew)); exact HO219.out)); (case aS => exact (below_size (by repeat (first | (with_reducible first | exact HB.out | apply below_alloc | apply pw_below_drewN | apply below_drew1) | exact HB.out)))); (case aL => have := LMc70.out; omega); intro v221 w100 ho hb hg hat; rw [← Ny220.out] at ho; have n0_ := Aside0.mk (hb); have n1_ := Aside0.mk (ho); clear HB; clear HO219; have HB := n0_; have HO222 := n1_; clear n0_ n1_; clear ho hb hg hat) | ((with_reducible refine gate_builtin (b := .append) (xs := #[.tmp 100, .tmp 101]) rfl ?_); (try (refine gate_guard (by rfl) ?_; dsimp only)); at_builtin; refine Kd.R_append (Kd.int .u64) (w0 := w) w.heap.size rfl (.tmp 100) (.tmp 101) 22 33 (.int .u64 0) 8 rfl Try.underlying22 info33 rfl (by decide) (by omega) v221 y220 0 [.int .u64 0] (fun _ => True) (fun _ => False) rfl rfl ?aP (fun _ hk => hk.elim) ?aF ?aO ?aB ?aS ?aL ?_; (case aP => exact rfl); (case aB => exact (by repeat (first | (with_reducible first | exact HB.out | apply below_alloc | apply pw_below_drewN | apply below_drew1) | exact HB.out))); (case aF => exact (fun _ _ => trivial)); (case aO => exact (by (with_reducible repeat (first | apply Kd.R_alloc | apply Kd.R_drewN | apply Kd.R_drew)); exact HO222.out)); (case aS => exact (below_size (by repeat (first | (with_reducible first | exact HB.out | apply below_alloc | apply pw_below_drewN | apply below_drew1) | exact HB.out)))); (case aL => have := LMc71.out; omega); intro v224 w101 ho hb hg hat; rw [← Ny223.out] at ho; have n0_ := Aside0.mk (hb); have n1_ := Aside0.mk (ho); clear HB; clear HO222; have HB := n0_; have HO225 := n1_; clear n0_ n1_; clear ho hb hg hat) | ((with_reducible refine gate_builtin (b := .append) (xs := #[.tmp 103, .tmp 104]) rfl ?_); (try (refine gate_guard (by rfl) ?_; dsimp only)); at_builtin; refine Kd.R_append (Kd.int .u64) (w0 := w) w.heap.size rfl (.tmp 103) (.tmp 104) 22 33 (.int .u64 0) 8 rfl Try.underlying22 info33 rfl (by decide) (by omega) v224 y223 0 [.int .u64 0] (fun _ => True) (fun _ => False) rfl rfl ?aP (fun _ hk => hk.elim) ?aF ?aO ?aB ?aS ?aL ?_; (case aP => exact rfl); (case aB => exact (by repeat (first | (with_reducible first | exact HB.out | apply below_alloc | apply pw_below_drewN | apply below_drew1) | exact HB.out))); (case aF => exact (fun _ _ => trivial)); (case aO => exact (by (with_reducible repeat (first | apply Kd.R_alloc | apply Kd.R_drewN | apply Kd.R_drew)); exact HO225.out)); (case aS => exact (below_size (by repeat (first | (with_reducible first | exact HB.out | apply below_alloc | apply pw_below_drewN | apply below_drew1) | exact HB.out)))); (case aL => have := LMc72.out; omega); intro v227 w102 ho hb hg hat; rw [← Ny226.out] at ho; have n0_ := Aside0.mk (hb); have n1_ := Aside0.mk (ho); clear HB; clear HO225; have HB := n0_; have HO228 := n1_; clear n0_ n1_; clear ho hb hg hat; obtain ⟨Ao103, co103, eo103⟩ := Kd.R_slice HO228.out; subst eo103) | ((with_reducible refine gate_callee (f := 20) rfl ?_); refine goesL_ (some 107) rfl rfl Try.func20 (by kernel_rfl) rfl #[.slice Ao103 y226.length co103] rfl (by (try simp only [List.map_toArray, List.map_cons, List.map_nil]); first | done | rfl | (simp only [List.length_drop, List.length_take]; rfl)) ?_; (with_reducible refine (nat_Trim.calls kj22 _ _ y226 t229 _ ?side1 ?side2 A73.out).mono ?_); (case side1 => repeat (first | exact (Kd.R_reads' HO228.out).2.2 | (with_reducible refine Kd.C_alloc ?_ _) | (with_reducible refine Kd.C_drewN ?_ _) | (with_reducible refine Kd.C_drew ?_))); (case side2 => exact (Kd.R_reads' HO228.out).2.1); rintro e w104 ⟨v230, rfl, ho0, hb⟩; refine ⟨_, rfl, ?_⟩; have n0_ := Aside0.mk (Kd.R_elder' (by (with_reducible repeat (first | apply Kd.R_alloc | apply Kd.R_drewN | apply Kd.R_drew)); exact HO228.out) (Kd.R_base ho0) hb); have n1_ := Aside0.mk (Kd.R_lower (Kd.R_new' ho0 (Kd.R_lt (by (with_reducible repeat (first | apply Kd.R_alloc | apply Kd.R_drewN | apply Kd.R_drew)); exact HO228.out))) (below_size (by repeat (first | (with_reducible first | exact HB.out | apply below_alloc | apply pw_below_drewN | apply below_drew1) | exact HB.out)))); have n2_ := Aside0.mk (below_step (by repeat (first | (with_reducible first | exact HB.out | apply below_alloc | apply pw_below_drewN | apply below_drew1) | exact HB.out)) hb); clear HO228; clear HB; have HO228 := n0_; have HO231 := n1_; have HB := n2_; clear n0_ n1_ n2_; (try clear hb); (try clear hb2); (try clear hk); (try clear hi); (try clear ho0)) | ((with_reducible refine gate_callee (f := 18) rfl ?_); refine goesL_ (some 110) rfl rfl Try.func18 (by kernel_rfl) rfl #[.slice Ao103 y226.length co103, .slice A1 l1.length c1] rfl (by (try simp only [List.map_toArray, List.map_cons, List.map_nil]); first | done | rfl | (simp only [List.length_drop, List.length_take]; rfl)) ?_; (with_reducible refine (nat_Cmp.calls kj22 _ _ y226 _ _ l1 t232 _ ?side1 ?side2 ?side3 ?side4 A74.out).mono ?_); (case side1 => repeat (first | exact (Kd.R_reads' HO228.out).2.2 | (with_reducible refine Kd.C_alloc ?_ _) | (with_reducible refine Kd.C_drewN ?_ _) | (with_reducible refine Kd.C_drew ?_))); (case side2 => exact (Kd.R_reads' HO228.out).2.1); (case side3 => repeat (first | exact (Kd.C_below HR1.out HB.out) | (with_reducible refine Kd.C_alloc ?_ _) | (with_reducible refine Kd.C_drewN ?_ _) | (with_reducible refine Kd.C_drew ?_))); (case side4 => exact HC1.out); rintro e w' ⟨rfl, ⟨nd, rfl⟩⟩; refine ⟨_, rfl, ?_⟩; obtain ⟨Ao105, co105, eo105⟩ := Kd.R_slice HO231.out; subst eo105) | (go_at_call 18; (with_reducible refine (nat_Cmp.calls kj22 _ _ t229 _ _ l0 t233 _ ?side1 ?side2 ?side3 ?side4 A76.out).mono ?_); (case side1 => repeat (first | exact (Kd.R_reads' HO231.out).2.2 | (with_reducible refine Kd.C_alloc ?_ _) | (with_reducible refine Kd.C_drewN ?_ _) | (with_reducible refine Kd.C_drew ?_))); (case side2 => exact (Kd.R_reads' HO231.out).2.1); (case side3 => repeat (first | exact (Kd.C_below HR0.out (by repeat (first | (with_reducible first | exact HB.out | apply below_alloc | apply pw_below_drewN | apply below_drew1) | exact HB.out))) | (with_reducible refine Kd.C_alloc ?_ _) | (with_reducible refine Kd.C_drewN ?_ _) | (with_reducible refine Kd.C_drew ?_))); (case side4 => exact HC0.out); rintro e w' ⟨rfl, ⟨nd, rfl⟩⟩))
                                go_ret
                                exact ⟨by first | rfl | (simp [errW_none, errW_some] <;> rfl) | (simp only [← hji67]; first | rfl | (simp [errW_none, errW_some] <;> rfl)) | (simp [*, errW_none, errW_some] <;> rfl), by repeat (first | (with_reducible first | exact HB.out | apply below_alloc | apply pw_below_drewN | apply below_drew1) | exact HB.out)⟩
                          · rw [if_neg c75] at H
                            have c75b0 : (t232 == t206) = false := beq_eq_false_iff_ne.mpr c75
                            have c75b1 : (t232 != t206) = true := bne_iff_ne.mpr c75
                            as_aux_lemma =>
                              obtain rfl := Option.some.inj H
                              go_wp2_with (first | ((with_reducible refine gate_dst (N := 96) rfl ?_); (try (refine gate_guard (by rfl) ?_; dsimp only)); refine Kd.R_make0 (Kd.int .u64) _ 33 rfl (N := 96) rfl 22 _ _ rfl ji67 rfl rfl Try.underlying22 (.int .u64 0) 8 info33 rfl (by decide) (by omega) 0 (ok := fun _ => True) (okp := fun _ => True) rfl (fun _ hk => hk) trivial (of_decide_eq_true (by first | (with_reducible assumption) | assumption)) (Nat.le_trans (Nat.mul_le_mul_right _ (of_decide_eq_true (by first | (with_reducible assumption) | assumption) : ji67.toNat ≤ 35184372088832)) (by omega)) (Below.refl _ _) (Nat.le_refl _) ?_; intro v218 w106 ho107 hb hg_ hnew_; clear hg_ hnew_; (first | rw [← Ny217.out] at ho107 | (simp only [Int.reduceToNat] at ho107; rw [← Ny217.out] at ho107)); have n0_ := Aside0.mk (Kd.R_lower ho107 (below_size (by repeat (first | (with_reducible first | exact HB.out | apply below_alloc | apply pw_below_drewN | apply below_drew1) | exact HB.out)))); have n1_ := Aside0.mk (below_step (by repeat (first | (with_reducible first | exact HB.out | apply below_alloc | apply pw_below_drewN | apply below_drew1) | exact HB.out)) hb); clear HB; have HO219 := n0_; have HB := n1_; clear n0_ n1_; clear hb ho107) | ((with_reducible refine gate_builtin (b := .append) (xs := #[.tmp 97, .tmp 98]) rfl ?_); (try (refine gate_guard (by rfl) ?_; dsimp only)); at_builtin; refine Kd.R_append_rows (Kd.int .u64) (w0 := w) w.heap.size rfl (.tmp 97) (.tmp 98) 22 33 (.int .u64 0) 8 rfl Try.underlying22 info33 rfl (by decide) (by omega) v218 y217 l0 _ _ _ (fun _ => True) (fun _ => False) rfl rfl ?aO ?aR (fun _ _ h => h) (fun _ h => h.elim) ?aF ?aB ?aS ?aL ?_; (case aR => repeat (first | exact (Kd.C_below HR0.out HB.out) | (with_reducible refine Kd.C_alloc ?_ _) | (with_reducible refine Kd.C_drewN ?_ _) | (with_reducible refine Kd.C_drew ?_))); (case aB => exact (by repeat (first | (with_reducible first | exact HB.out | apply below_alloc | apply pw_below_drewN | apply below_drew1) | exact HB.out))); (case aF => exact (fun _ _ => trivial)); (case aO => exact (by (with_reducible repeat (first | apply Kd.R_alloc | apply Kd.R_drewN | apply Kd.R_drew)); exact HO219.out)); (case aS => exact (below_size (by repeat (first | (with_reducible first | exact HB.out | apply below_alloc | apply pw_below_drewN | apply below_drew1) | exact HB.out)))); (case aL => have := LMc70.out; omega); intro v221 w108 ho hb hg hat; rw [← Ny220.out] at ho; have n0_ := Aside0.mk (hb); have n1_ := Aside0.mk (ho); clear HB; clear HO219; have HB := n0_; have HO222 := n1_; clear n0_ n1_; clear ho hb hg hat) | ((with_reducible refine gate_builtin (b := .append) (xs := #[.tmp 100, .tmp 101]) rfl ?_); (try (refine gate_guard (by rfl) ?_; dsimp only)); at_builtin; refine Kd.R_append (Kd.int .u64) (w0 := w) w.heap.size rfl (.tmp 100) (.tmp 101) 22 33 (.int .u64 0) 8 rfl Try.underlying22 info33 rfl (by decide) (by omega) v221 y220 0 [.int .u64 0] (fun _ => True) (fun _ => False) rfl rfl ?aP (fun _ hk => hk.elim) ?aF ?aO ?aB ?aS ?aL ?_; (case aP => exact rfl); (case aB => exact (by repeat (first | (with_reducible first | exact HB.out | apply below_alloc | apply pw_below_drewN | apply below_drew1) | exact HB.out))); (case aF => exact (fun _ _ => trivial)); (case aO => exact (by (with_reducible repeat (first | apply Kd.R_alloc | apply Kd.R_drewN | apply Kd.R_drew)); exact HO222.out)); (case aS => exact (below_size (by repeat (first | (with_reducible first | exact HB.out | apply below_alloc | apply pw_below_drewN | apply below_drew1) | exact HB.out)))); (case aL => have := LMc71.out; omega); intro v224 w109 ho hb hg hat; rw [← Ny223.out] at ho; have n0_ := Aside0.mk (hb); have n1_ := Aside0.mk (ho); clear HB; clear HO222; have HB := n0_; have HO225 := n1_; clear n0_ n1_; clear ho hb hg hat) | ((with_reducible refine gate_builtin (b := .append) (xs := #[.tmp 103, .tmp 104]) rfl ?_); (try (refine gate_guard (by rfl) ?_; dsimp only)); at_builtin; refine Kd.R_append (Kd.int .u64) (w0 := w) w.heap.size rfl (.tmp 103) (.tmp 104) 22 33 (.int .u64 0) 8 rfl Try.underlying22 info33 rfl (by decide) (by omega) v224 y223 0 [.int .u64 0] (fun _ => True) (fun _ => False) rfl rfl ?aP (fun _ hk => hk.elim) ?aF ?aO ?aB ?aS ?aL ?_; (case aP => exact rfl); (case aB => exact (by repeat (first | (with_reducible first | exact HB.out | apply below_alloc | apply pw_below_drewN | apply below_drew1) | exact HB.out))); (case aF => exact (fun _ _ => trivial)); (case aO => exact (by (with_reducible repeat (first | apply Kd.R_alloc | apply Kd.R_drewN | apply Kd.R_drew)); exact HO225.out)); (case aS => exact (below_size (by repeat (first | (with_reducible first | exact HB.out | apply below_alloc | apply pw_below_drewN | apply below_drew1) | exact HB.out)))); (case aL => have := LMc72.out; omega); intro v227 w110 ho hb hg hat; rw [← Ny226.out] at ho; have n0_ := Aside0.mk (hb); have n1_ := Aside0.mk (ho); clear HB; clear HO225; have HB := n0_; have HO228 := n1_; clear n0_ n1_; clear ho hb hg hat; obtain ⟨Ao111, co111, eo111⟩ := Kd.R_slice HO228.out; subst eo111) | ((with_reducible refine gate_callee (f := 20) rfl ?_); refine goesL_ (some 107) rfl rfl Try.func20 (by kernel_rfl) rfl #[.slice Ao111 y226.length co111] rfl (by (try simp only [List.map_toArray, List.map_cons, List.map_nil]); first | done | rfl | (simp only [List.length_drop, List.length_take]; rfl)) ?_; (with_reducible refine (nat_Trim.calls kj22 _ _ y226 t229 _ ?side1 ?side2 A73.out).mono ?_); (case side1 => repeat (first | exact (Kd.R_reads' HO228.out).2.2 | (with_reducible refine Kd.C_alloc ?_ _) | (with_reducible refine Kd.C_drewN ?_ _) | (with_reducible refine Kd.C_drew ?_))); (case side2 => exact (Kd.R_reads' HO228.out).2.1); rintro e w112 ⟨v230, rfl, ho0, hb⟩; refine ⟨_, rfl, ?_⟩; have n0_ := Aside0.mk (Kd.R_elder' (by (with_reducible repeat (first | apply Kd.R_alloc | apply Kd.R_drewN | apply Kd.R_drew)); exact HO228.out) (Kd.R_base ho0) hb); have n1_ := Aside0.mk (Kd.R_lower (Kd.R_new' ho0 (Kd.R_lt (by (with_reducible repeat (first | apply Kd.R_alloc | apply Kd.R_drewN | apply Kd.R_drew)); exact HO228.out))) (below_size (by repeat (first | (with_reducible first | exact HB.out | apply below_alloc | apply pw_below_drewN | apply below_drew1) | exact HB.out)))); have n2_ := Aside0.mk (below_step (by repeat (first | (with_reducible first | exact HB.out | apply below_alloc | apply pw_below_drewN | apply below_drew1) | exact HB.out)) hb); clear HO228; clear HB; have HO228 := n0_; have HO231 := n1_; have HB := n2_; clear n0_ n1_ n2_; (try clear hb); (try clear hb2); (try clear hk); (try clear hi); (try clear ho0)) | ((with_reducible refine gate_callee (f := 18) rfl ?_); refine goesL_ (some 110) rfl rfl Try.func18 (by kernel_rfl) rfl #[.slice Ao111 y226.length co111, .slice A1 l1.length c1] rfl (by (try simp only [List.map_toArray, List.map_cons, List.map_nil]); first | done | rfl | (simp only [List.length_drop, List.length_take]; rfl)) ?_; (with_reducible refine (nat_Cmp.calls kj22 _ _ y226 _ _ l1 t232 _ ?side1 ?side2 ?side3 ?side4 A74.out).mono ?_); (case side1 => repeat (first | exact (Kd.R_reads' HO228.out).2.2 | (with_reducible refine Kd.C_alloc ?_ _) | (with_reducible refine Kd.C_drewN ?_ _) | (with_reducible refine Kd.C_drew ?_))); (case side2 => exact (Kd.R_reads' HO228.out).2.1); (case side3 => repeat (first | exact (Kd.C_below HR1.out HB.out) | (with_reducible refine Kd.C_alloc ?_ _) | (with_reducible refine Kd.C_drewN ?_ _) | (with_reducible refine Kd.C_drew ?_))); (case side4 => exact HC1.out); rintro e w' ⟨rfl, ⟨nd, rfl⟩⟩; refine ⟨_, rfl, ?_⟩))
                              go_ret
                              exact ⟨by first | rfl | (simp [errW_none, errW_some] <;> rfl) | (simp only [← hji67]; first | rfl | (simp [errW_none, errW_some] <;> rfl)) | (simp [*, errW_none, errW_some] <;> rfl), by repeat (first | (with_reducible first | exact HB.out | apply below_alloc | apply pw_below_drewN | apply below_drew1) | exact HB.out)⟩
                        · rw [if_neg c72] at H
                          exact absurd H (by simp)
                      · rw [if_neg c71] at H
                        exact absurd H (by simp)
                    · rw [if_neg c70] at H
                      exact absurd H (by simp)
                  · rw [if_neg c69] at H
                    exact absurd H (by simp)
                · rw [if_neg c68] at H
                  exact absurd H (by simp)
  · replace c5 := Bool.eq_false_iff.mpr c5
    subst c5
    have H1 : (some false) = some r := by rw [if_neg (show ¬ (false = true) by decide)] at H; exact H
    clear H
    have H := H1
    clear H1
    as_aux_lemma =>
      obtain rfl := Option.some.inj H
      go_enter Try.func6, Try.ntmps6
      go_wp2_with (first | ((with_reducible refine gate_callee (f := 9) rfl ?_); refine goesL_ (some 12) rfl rfl Try.func9 (by kernel_rfl) rfl #[] rfl (by (try simp only [List.map_toArray, List.map_cons, List.map_nil]); first | done | rfl | (simp only [List.length_drop, List.length_take]; rfl)) ?_; (with_reducible refine (abacuslaw01_awake.calls k  false _ A4.out).mono ?_); rintro e w113 ⟨rfl, hb⟩; refine ⟨_, rfl, ?_⟩; have n0_ := Aside0.mk (below_step (by repeat (first | (with_reducible first | exact HB.out | apply below_alloc | apply pw_below_drewN | apply below_drew1) | exact HB.out)) hb); clear HB; have HB := n0_; clear n0_; (try clear hb); (try clear hb2); (try clear hk); (try clear hi)))
      go_ret
      exact ⟨by first | rfl | (simp [errW_none, errW_some] <;> rfl) | (simp [*, errW_none, errW_some] <;> rfl), by repeat (first | (with_reducible first | exact HB.out | apply below_alloc | apply pw_below_drewN | apply below_drew1) | exact HB.out)⟩

/-- THE ONE PURE STATEMENT of abacuslaw01_NatOrder: yours. -/
def abacuslaw01_NatOrder.Pure : Prop := ∀ (l0 : List Int) (l1 : List Int) (l2 : List Int), l0.length ≤ maxLen → l0.length * 8 ≤ 140737488351232 → (∀ x ∈ l0, (Lit.int .u64 x).wf = true) → l1.length ≤ maxLen → l1.length * 8 ≤ 140737488351232 → (∀ x ∈ l1, (Lit.int .u64 x).wf = true) → l2.length ≤ maxLen → l2.length * 8 ≤ 140737488351232 → (∀ x ∈ l2, (Lit.int .u64 x).wf = true) → ∃ k, abacuslaw01_NatOrder.f k l0 l1 l2 = some true
theorem abacuslaw01_NatOrder.walk (P : abacuslaw01_NatOrder.Pure) (a0 : Option Addr) (len0 cap0 : Nat) (z0 : List Int) (a1 : Option Addr) (len1 cap1 : Nat) (z1 : List Int) (a2 : Option Addr) (len2 cap2 : Nat) (z2 : List Int) (w : World) (w0 : (a0 = none ∧ len0 = 0 ∧ cap0 = 0 ∧ z0 = []) ∨ ∃ x, a0 = some x ∧ len0 ≤ cap0 ∧ cap0 ≤ maxLen ∧ z0.length = cap0 ∧ (∀ i, i < z0.length → w.cell? (x.add i) = some (.int .u64 (z0.getD i 0))) ∧ ∀ n ∈ z0, (Lit.int .u64 n).wf = true) (y0 : len0 * 8 ≤ 140737488351232) (w1 : (a1 = none ∧ len1 = 0 ∧ cap1 = 0 ∧ z1 = []) ∨ ∃ x, a1 = some x ∧ len1 ≤ cap1 ∧ cap1 ≤ maxLen ∧ z1.length = cap1 ∧ (∀ i, i < z1.length → w.cell? (x.add i) = some (.int .u64 (z1.getD i 0))) ∧ ∀ n ∈ z1, (Lit.int .u64 n).wf = true) (y1 : len1 * 8 ≤ 140737488351232) (w2 : (a2 = none ∧ len2 = 0 ∧ cap2 = 0 ∧ z2 = []) ∨ ∃ x, a2 = some x ∧ len2 ≤ cap2 ∧ cap2 ≤ maxLen ∧ z2.length = cap2 ∧ (∀ i, i < z2.length → w.cell? (x.add i) = some (.int .u64 (z2.getD i 0))) ∧ ∀ n ∈ z2, (Lit.int .u64 n).wf = true) (y2 : len2 * 8 ≤ 140737488351232) :
    Calls Try.prog 6 #[.slice a0 len0 cap0, .slice a1 len1 cap1, .slice a2 len2 cap2] w fun e w' => e = .returned (.bool true) ∧ Below w.heap.size w w' := by
  obtain ⟨l0, rfl, hr0, hm0, hw0, hc0⟩ := ReadsInt.ofRowC w0
  obtain ⟨l1, rfl, hr1, hm1, hw1, hc1⟩ := ReadsInt.ofRowC w1
  obtain ⟨l2, rfl, hr2, hm2, hw2, hc2⟩ := ReadsInt.ofRowC w2
  obtain ⟨k, h⟩ := P l0 l1 l2 hm0 y0 hw0 hm1 y1 hw1 hm2 y2 hw2
  refine (abacuslaw01_NatOrder.calls k _ _ l0 _ _ l1 _ _ l2 true w (Kd.C_of_reads (d := (0 : Int)) (h1 := fun _ => rfl) hr0) hc0 (Kd.C_of_reads (d := (0 : Int)) (h1 := fun _ => rfl) hr1) hc1 (Kd.C_of_reads (d := (0 : Int)) (h1 := fun _ => rfl) hr2) hc2 h).mono ?_
  rintro e w' ⟨rfl, hd⟩
  exact ⟨rfl, hd⟩

end Go.Proofs.Ytnicfpilpafddaa.PO
