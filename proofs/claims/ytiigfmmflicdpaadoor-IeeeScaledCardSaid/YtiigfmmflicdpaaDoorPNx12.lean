-- printed by a program
import Derived.Test.YtiigfmmflicdpaaDoorPNx0
import Derived.Test.YtiigfmmflicdpaaDoorPNx1
import Derived.Test.YtiigfmmflicdpaaDoorPNx3
import Derived.Test.YtiigfmmflicdpaaDoorPNx8
import Derived.Test.YtiigfmmflicdpaaDoorPNx9
import Derived.Test.YtiigfmmflicdpaaDoorPNx10
/-! Steps that change nothing that was there, found by a class (for shrink.py). -/
namespace Go.Proofs.YtiigfmmflicdpaaDoorX
open Go.RowKit Go.Proofs.YtiigfmmflicdpaaDoorW.PrintWords Go.Proofs.YtiigfmmflicdpaaDoorW.PrintLast Go.Proofs.YtiigfmmflicdpaaDoorW.PrintMore
set_option linter.unusedVariables false
class Steps (W W' : World) : Prop where st : Below W.heap.size W W'
instance (W : World) : Steps W W := ⟨Below.refl _ _⟩
instance (W W' : World) (n : Nat) [s : Steps W W'] : Steps W (W'.drewN n) := ⟨pw_below_drewN s.st n⟩
instance (W W' : World) (o : Obj) [s : Steps W W'] : Steps W (W'.alloc o) := ⟨below_alloc s.st o⟩
theorem bS {w W W' : World} (h : Below w.heap.size w W) [s : Steps W W'] : Below w.heap.size w W' := below_step h s.st
theorem vS {α : Type} {d : Kd α} {e base : Nat} {ok : Nat → Prop} {W W' : World} {v : Value} {xs : List α} (h : Kd.V d e W base ok v xs) [s : Steps W W'] : Kd.V d e W' base ok v xs := Kd.V_below h s.st
theorem rS {α : Type} {d : Kd α} {e base : Nat} {ok : Nat → Prop} {W W' : World} {v : Value} {xs : List α} (h : d.R e W base ok v xs) [s : Steps W W'] : d.R e W' base ok v xs := Kd.R_below h s.st
theorem cS {α : Type} {d : Kd α} {W W' : World} {A : Option Addr} {n : Nat} {xs : List α} (h : d.C W A n xs) [s : Steps W W'] : d.C W' A n xs := Kd.C_below h s.st
theorem bkS {g : Nat} {o : Obj} {W W' : World} (h : W.heap[g]? = some o) [s : Steps W W'] : W'.heap[g]? = some o := blk_below h s.st
/-- The same, the elder world being sought. -/
class Strip (W : outParam World) (W' : World) : Prop where st : Below W.heap.size W W'
instance (priority := low) (W : World) : Strip W W := ⟨Below.refl _ _⟩
instance (W W' : World) (n : Nat) [s : Strip W W'] : Strip W (W'.drewN n) := ⟨pw_below_drewN s.st n⟩
instance (W W' : World) (o : Obj) [s : Strip W W'] : Strip W (W'.alloc o) := ⟨below_alloc s.st o⟩
theorem blkP {w W' : World} {g : Nat} {t : TypeId} {cs cs' : Array Value} (h : w.heap[g]? = some (.cells cs t (0, 0))) (i : Nat) (u : Value) (e : cs.setIfInBounds i u = cs') [s : Strip (w.setCell ⟨g, i, none⟩ u) W'] : W'.heap[g]? = some (.cells cs' t (0, 0)) := blk_below (blk_put h i u e) s.st
theorem blkF {w W' : World} {g : Nat} {t : TypeId} {cs : Array Value} {p : Addr} (h : w.heap[g]? = some (.cells cs t (0, 0))) (hp : g ≠ p.block) (u : Value) [s : Strip (w.setCell p u) W'] : W'.heap[g]? = some (.cells cs t (0, 0)) := blk_below (blk_far h hp u) s.st
theorem dn2 {w : World} {m n : Nat} : (w.drewN m).drewN n = w.drewN (m + n) := World.drewN_drewN _ _ _
theorem dn3 {w : World} {l m n : Nat} : (w.drewN (l + m)).drewN n = w.drewN (l + (m + n)) := Eq.trans (World.drewN_drewN _ _ _) (congrArg (World.drewN _) (Nat.add_assoc _ _ _))
end Go.Proofs.YtiigfmmflicdpaaDoorX
namespace Go.Proofs.YtiigfmmflicdpaaDoor.PN
open Go.Proofs.YtiigfmmflicdpaaDoorX
open Go.RowKit Go.Proofs.YtiigfmmflicdpaaDoorW.PrintWords Go.Proofs.YtiigfmmflicdpaaDoorW.PrintLast Go.Proofs.YtiigfmmflicdpaaDoorW.PrintMore
attribute [local go_sem] max2_int min2_int max_two min_two max_three min_three max_four min_four   -- for this text's walks alone
set_option linter.unusedVariables false
set_option linter.unusedSimpArgs false

/-! ### abacuslaw04_IeeeScaled: function 8 -/
mutual
noncomputable def abacuslaw04_IeeeScaled.j0 : Nat → List Int → List Int → Int → Bool → Bool → List Int → List Int → List Int → Int → Int → Option (Bool)
 | 0, _, _, _, _, _, _, _, _, _, _ => none
 | k + 1, x3, x4, x5, x53, x461000, x461001, x461002, x461003, x461004, x461005 => if x53 = true then (some true) else ((nat_Shl.f k x3 (wrap64 (x461005))).bind fun bt463 => ((ieee_Round.f k false x3 x5 false).bind fun bt467 => ((ieee_Round.f k false bt463.1 (wrap64 (x5 - (wrap64 (x461005)))) false).bind fun bt469 => ((ieee_RoundRatio.f k false x3 (([1] : List Int)) x5).bind fun bt474 => ((ieee_Round.f k true x3 x5 false).bind fun bt476 => (if bt463.2 = 0 then (if bt467.2 = 0 then (if bt469.2 = 0 then (if bt474.2 = 0 then (if bt476.2 = 0 then (if bt467.1 = bt469.1 then (if bt467.1 = bt474.1 then (abacuslaw04_IeeeScaled.j1 k x3 x4 x5 bt467.1 (bt476.1 != (IntKind.u64.wrap (bt467.1 + 9223372036854775808))) x461000 x461001 x461002 x461003 x461004 x461005) else (abacuslaw04_IeeeScaled.j1 k x3 x4 x5 bt467.1 true x461000 x461001 x461002 x461003 x461004 x461005)) else (abacuslaw04_IeeeScaled.j1 k x3 x4 x5 bt467.1 true x461000 x461001 x461002 x461003 x461004 x461005)) else (abacuslaw04_IeeeScaled.j1 k x3 x4 x5 bt467.1 true x461000 x461001 x461002 x461003 x461004 x461005)) else (abacuslaw04_IeeeScaled.j1 k x3 x4 x5 bt467.1 true x461000 x461001 x461002 x461003 x461004 x461005)) else (abacuslaw04_IeeeScaled.j1 k x3 x4 x5 bt467.1 true x461000 x461001 x461002 x461003 x461004 x461005)) else (abacuslaw04_IeeeScaled.j1 k x3 x4 x5 bt467.1 true x461000 x461001 x461002 x461003 x461004 x461005)) else (abacuslaw04_IeeeScaled.j1 k x3 x4 x5 bt467.1 true x461000 x461001 x461002 x461003 x461004 x461005)))))))
noncomputable def abacuslaw04_IeeeScaled.j1 : Nat → List Int → List Int → Int → Int → Bool → Bool → List Int → List Int → List Int → Int → Int → Option (Bool)
 | 0, _, _, _, _, _, _, _, _, _, _, _ => none
 | k + 1, x3, x4, x5, x9, x123, x461000, x461001, x461002, x461003, x461004, x461005 => if x123 = true then (some false) else ((nat_Mul.f k x3 (([IntKind.u64.wrap ((IntKind.u64.wrap (x461005)) + 1)] : List Int))).bind fun bt481 => ((nat_Mul.f k x4 (([IntKind.u64.wrap ((IntKind.u64.wrap (x461005)) + 1)] : List Int))).bind fun bt488 => ((ieee_RoundRatio.f k true x3 x4 x5).bind fun bt492 => ((ieee_RoundRatio.f k true bt481.1 bt488.1 x5).bind fun bt494 => (if bt481.2 = 0 then (if bt488.2 = 0 then (if bt492.2 = 0 then (if bt494.2 = 0 then (abacuslaw04_IeeeScaled.j2 k x3 x5 x9 (bt492.1 != bt494.1)) else (abacuslaw04_IeeeScaled.j2 k x3 x5 x9 true)) else (abacuslaw04_IeeeScaled.j2 k x3 x5 x9 true)) else (abacuslaw04_IeeeScaled.j2 k x3 x5 x9 true)) else (abacuslaw04_IeeeScaled.j2 k x3 x5 x9 true))))))
noncomputable def abacuslaw04_IeeeScaled.j2 : Nat → List Int → Int → Int → Bool → Option (Bool)
 | 0, _, _, _, _ => none
 | k + 1, x3, x5, x9, x174 => if x174 = true then (some false) else ((nat_BitLen.f k x3).bind fun t496 => (if t496 = 0 then (some (x9 == 0)) else ((nat_Shl.f k x3 64).bind fun bt497 => ((nat_MulAdd.f k bt497.1 1 1).bind fun bt501 => ((ieee_Round.f k false x3 x5 true).bind fun bt505 => ((ieee_Round.f k false bt501.1 (wrap64 (x5 - 64)) false).bind fun bt507 => (if bt497.2 = 0 then (if bt501.2 = 0 then (if bt505.2 = 0 then (if bt507.2 = 0 then (if bt505.1 = bt507.1 then (if bt505.1 = x9 then (some true) else (some (bt505.1 == (IntKind.u64.wrap (x9 + 1))))) else (some false)) else (some false)) else (some false)) else (some false)) else (some false))))))))
end
noncomputable def abacuslaw04_IeeeScaled.f (k : Nat) (a0_0 : Bool) (l0_1 : List Int) (l0_2 : List Int) (l0_3 : List Int) (a0_4 : Int) (a0_5 : Int) : Option (Bool) := (abacuslaw04_awake.f k).bind fun t461 => (if t461 = true then (if (l0_1.length : Int) > 60 then (abacuslaw04_IeeeScaled.j0 k l0_1 l0_3 a0_4 true a0_0 l0_1 l0_2 l0_3 a0_4 a0_5) else (if (l0_3.length : Int) > 60 then (abacuslaw04_IeeeScaled.j0 k l0_1 l0_3 a0_4 true a0_0 l0_1 l0_2 l0_3 a0_4 a0_5) else (if a0_4 > 1099511627776 then (abacuslaw04_IeeeScaled.j0 k l0_1 l0_3 a0_4 true a0_0 l0_1 l0_2 l0_3 a0_4 a0_5) else (if a0_4 < (-1099511627776) then (abacuslaw04_IeeeScaled.j0 k l0_1 l0_3 a0_4 true a0_0 l0_1 l0_2 l0_3 a0_4 a0_5) else ((nat_BitLen.f k l0_3).bind fun t462 => (abacuslaw04_IeeeScaled.j0 k l0_1 l0_3 a0_4 (t462 == 0) a0_0 l0_1 l0_2 l0_3 a0_4 a0_5)))))) else (some false))
theorem abacuslaw04_IeeeScaled.mono_l : ∀ k, (∀ y0 y1 y2 y3 y4 y5 y6 y7 y8 y9, LeO (abacuslaw04_IeeeScaled.j0 k y0 y1 y2 y3 y4 y5 y6 y7 y8 y9) (abacuslaw04_IeeeScaled.j0 (k + 1) y0 y1 y2 y3 y4 y5 y6 y7 y8 y9)) ∧ (∀ y0 y1 y2 y3 y4 y5 y6 y7 y8 y9 y10, LeO (abacuslaw04_IeeeScaled.j1 k y0 y1 y2 y3 y4 y5 y6 y7 y8 y9 y10) (abacuslaw04_IeeeScaled.j1 (k + 1) y0 y1 y2 y3 y4 y5 y6 y7 y8 y9 y10)) ∧ (∀ y0 y1 y2 y3, LeO (abacuslaw04_IeeeScaled.j2 k y0 y1 y2 y3) (abacuslaw04_IeeeScaled.j2 (k + 1) y0 y1 y2 y3))
 | 0 => ⟨fun _ _ _ _ _ _ _ _ _ _ r h => by simp [abacuslaw04_IeeeScaled.j0] at h, fun _ _ _ _ _ _ _ _ _ _ _ r h => by simp [abacuslaw04_IeeeScaled.j1] at h, fun _ _ _ _ r h => by simp [abacuslaw04_IeeeScaled.j2] at h⟩
 | k + 1 => by
  obtain ⟨ih0, ih1, ih2⟩ := abacuslaw04_IeeeScaled.mono_l k
  refine ⟨?_, ?_, ?_⟩
  ·intro y0 y1 y2 y3 y4 y5 y6 y7 y8 y9
   unfold abacuslaw04_IeeeScaled.j0
   repeat' first
   | (with_reducible exact ih0 _ _ _ _ _ _ _ _ _ _)
   | (with_reducible exact ih1 _ _ _ _ _ _ _ _ _ _ _)
   | (with_reducible exact ih2 _ _ _ _)
   | (with_reducible exact abacuslaw04_awake.mono _)
   | (with_reducible exact ieee_Round.mono _ _ _ _ _)
   | (with_reducible exact ieee_RoundRatio.mono _ _ _ _ _)
   | (with_reducible exact nat_BitLen.mono _ _)
   | (with_reducible exact nat_Mul.mono _ _ _)
   | (with_reducible exact nat_MulAdd.mono _ _ _ _)
   | (with_reducible exact nat_Shl.mono _ _ _)
   | (with_reducible exact LeO.refl _)
   | (with_reducible exact LeO.none _)
   | (with_reducible refine LeO.ite ?_ ?_)
   | (with_reducible refine LeO.bind ?_ (fun _ => ?_))
   | exact ih0 _ _ _ _ _ _ _ _ _ _
   | exact ih1 _ _ _ _ _ _ _ _ _ _ _
   | exact ih2 _ _ _ _
   | exact abacuslaw04_awake.mono _
   | exact ieee_Round.mono _ _ _ _ _
   | exact ieee_RoundRatio.mono _ _ _ _ _
   | exact nat_BitLen.mono _ _
   | exact nat_Mul.mono _ _ _
   | exact nat_MulAdd.mono _ _ _ _
   | exact nat_Shl.mono _ _ _
   | exact LeO.none _
   | refine LeO.ite ?_ ?_
   | refine LeO.bind ?_ (fun _ => ?_)
  ·intro y0 y1 y2 y3 y4 y5 y6 y7 y8 y9 y10
   unfold abacuslaw04_IeeeScaled.j1
   repeat' first
   | (with_reducible exact ih0 _ _ _ _ _ _ _ _ _ _)
   | (with_reducible exact ih1 _ _ _ _ _ _ _ _ _ _ _)
   | (with_reducible exact ih2 _ _ _ _)
   | (with_reducible exact abacuslaw04_awake.mono _)
   | (with_reducible exact ieee_Round.mono _ _ _ _ _)
   | (with_reducible exact ieee_RoundRatio.mono _ _ _ _ _)
   | (with_reducible exact nat_BitLen.mono _ _)
   | (with_reducible exact nat_Mul.mono _ _ _)
   | (with_reducible exact nat_MulAdd.mono _ _ _ _)
   | (with_reducible exact nat_Shl.mono _ _ _)
   | (with_reducible exact LeO.refl _)
   | (with_reducible exact LeO.none _)
   | (with_reducible refine LeO.ite ?_ ?_)
   | (with_reducible refine LeO.bind ?_ (fun _ => ?_))
   | exact ih0 _ _ _ _ _ _ _ _ _ _
   | exact ih1 _ _ _ _ _ _ _ _ _ _ _
   | exact ih2 _ _ _ _
   | exact abacuslaw04_awake.mono _
   | exact ieee_Round.mono _ _ _ _ _
   | exact ieee_RoundRatio.mono _ _ _ _ _
   | exact nat_BitLen.mono _ _
   | exact nat_Mul.mono _ _ _
   | exact nat_MulAdd.mono _ _ _ _
   | exact nat_Shl.mono _ _ _
   | exact LeO.none _
   | refine LeO.ite ?_ ?_
   | refine LeO.bind ?_ (fun _ => ?_)
  ·intro y0 y1 y2 y3
   unfold abacuslaw04_IeeeScaled.j2
   repeat' first
   | (with_reducible exact ih0 _ _ _ _ _ _ _ _ _ _)
   | (with_reducible exact ih1 _ _ _ _ _ _ _ _ _ _ _)
   | (with_reducible exact ih2 _ _ _ _)
   | (with_reducible exact abacuslaw04_awake.mono _)
   | (with_reducible exact ieee_Round.mono _ _ _ _ _)
   | (with_reducible exact ieee_RoundRatio.mono _ _ _ _ _)
   | (with_reducible exact nat_BitLen.mono _ _)
   | (with_reducible exact nat_Mul.mono _ _ _)
   | (with_reducible exact nat_MulAdd.mono _ _ _ _)
   | (with_reducible exact nat_Shl.mono _ _ _)
   | (with_reducible exact LeO.refl _)
   | (with_reducible exact LeO.none _)
   | (with_reducible refine LeO.ite ?_ ?_)
   | (with_reducible refine LeO.bind ?_ (fun _ => ?_))
   | exact ih0 _ _ _ _ _ _ _ _ _ _
   | exact ih1 _ _ _ _ _ _ _ _ _ _ _
   | exact ih2 _ _ _ _
   | exact abacuslaw04_awake.mono _
   | exact ieee_Round.mono _ _ _ _ _
   | exact ieee_RoundRatio.mono _ _ _ _ _
   | exact nat_BitLen.mono _ _
   | exact nat_Mul.mono _ _ _
   | exact nat_MulAdd.mono _ _ _ _
   | exact nat_Shl.mono _ _ _
   | exact LeO.none _
   | refine LeO.ite ?_ ?_
   | refine LeO.bind ?_ (fun _ => ?_)
theorem abacuslaw04_IeeeScaled.mono : ∀ a0 a1 a2 a3 a4 a5 k, LeO (abacuslaw04_IeeeScaled.f k a0 a1 a2 a3 a4 a5) (abacuslaw04_IeeeScaled.f (k + 1) a0 a1 a2 a3 a4 a5) := by
 intro a0 a1 a2 a3 a4 a5 k
 obtain ⟨ih0, ih1, ih2⟩ := abacuslaw04_IeeeScaled.mono_l k
 unfold abacuslaw04_IeeeScaled.f
 repeat' first
   | (with_reducible exact ih0 _ _ _ _ _ _ _ _ _ _)
   | (with_reducible exact ih1 _ _ _ _ _ _ _ _ _ _ _)
   | (with_reducible exact ih2 _ _ _ _)
   | (with_reducible exact abacuslaw04_awake.mono _)
   | (with_reducible exact ieee_Round.mono _ _ _ _ _)
   | (with_reducible exact ieee_RoundRatio.mono _ _ _ _ _)
   | (with_reducible exact nat_BitLen.mono _ _)
   | (with_reducible exact nat_Mul.mono _ _ _)
   | (with_reducible exact nat_MulAdd.mono _ _ _ _)
   | (with_reducible exact nat_Shl.mono _ _ _)
   | (with_reducible exact LeO.refl _)
   | (with_reducible exact LeO.none _)
   | (with_reducible refine LeO.ite ?_ ?_)
   | (with_reducible refine LeO.bind ?_ (fun _ => ?_))
   | exact ih0 _ _ _ _ _ _ _ _ _ _
   | exact ih1 _ _ _ _ _ _ _ _ _ _ _
   | exact ih2 _ _ _ _
   | exact abacuslaw04_awake.mono _
   | exact ieee_Round.mono _ _ _ _ _
   | exact ieee_RoundRatio.mono _ _ _ _ _
   | exact nat_BitLen.mono _ _
   | exact nat_Mul.mono _ _ _
   | exact nat_MulAdd.mono _ _ _ _
   | exact nat_Shl.mono _ _ _
   | exact LeO.none _
   | refine LeO.ite ?_ ?_
   | refine LeO.bind ?_ (fun _ => ?_)
set_option maxHeartbeats 8000000 in
set_option maxRecDepth 100000 in
theorem abacuslaw04_IeeeScaled.calls (k : Nat) (a0_0 : Bool) (A0_1 : Option Addr) (c0_1 : Nat) (l0_1 : List Int) (A0_2 : Option Addr) (c0_2 : Nat) (l0_2 : List Int) (A0_3 : Option Addr) (c0_3 : Nat) (l0_3 : List Int) (a0_4 : Int) (a0_5 : Int) (r : Bool) (w : World) (hT : Kd.C (Kd.int .u8) w (some ⟨0, 0, none⟩) 64 tabL) (hr0_1 : Kd.C (Kd.int .u64) w A0_1 l0_1.length l0_1) (hc0_1 : l0_1.length ≤ c0_1) (hr0_2 : Kd.C (Kd.int .u64) w A0_2 l0_2.length l0_2) (hc0_2 : l0_2.length ≤ c0_2) (hr0_3 : Kd.C (Kd.int .u64) w A0_3 l0_3.length l0_3) (hc0_3 : l0_3.length ≤ c0_3) (h : abacuslaw04_IeeeScaled.f k a0_0 l0_1 l0_2 l0_3 a0_4 a0_5 = some r) :
  Calls Tryd.prog 8 #[.agg #[.bool a0_0, .slice A0_1 l0_1.length c0_1, .slice A0_2 l0_2.length c0_2, .slice A0_3 l0_3.length c0_3, .int .i64 a0_4, .int .u8 a0_5]] w fun e w' => e = .returned (.bool r) ∧ Below w.heap.size w w' := by
 have hu24 := Tryd.underlying24
 have HT := Aside0.mk hT
 clear hT
 have HR0_1 := Aside0.mk hr0_1
 have HC0_1 := Aside0.mk hc0_1
 clear hr0_1 hc0_1
 have HR0_2 := Aside0.mk hr0_2
 have HC0_2 := Aside0.mk hc0_2
 clear hr0_2 hc0_2
 have HR0_3 := Aside0.mk hr0_3
 have HC0_3 := Aside0.mk hc0_3
 clear hr0_3 hc0_3
 have HB := Aside0.mk (Below.refl w.heap.size w)
 have H : ((abacuslaw04_awake.f k).bind fun t461 => (if t461 = true then (if (l0_1.length : Int) > 60 then (abacuslaw04_IeeeScaled.j0 k l0_1 l0_3 a0_4 true a0_0 l0_1 l0_2 l0_3 a0_4 a0_5) else (if (l0_3.length : Int) > 60 then (abacuslaw04_IeeeScaled.j0 k l0_1 l0_3 a0_4 true a0_0 l0_1 l0_2 l0_3 a0_4 a0_5) else (if a0_4 > 1099511627776 then (abacuslaw04_IeeeScaled.j0 k l0_1 l0_3 a0_4 true a0_0 l0_1 l0_2 l0_3 a0_4 a0_5) else (if a0_4 < (-1099511627776) then (abacuslaw04_IeeeScaled.j0 k l0_1 l0_3 a0_4 true a0_0 l0_1 l0_2 l0_3 a0_4 a0_5) else ((nat_BitLen.f k l0_3).bind fun t462 => (abacuslaw04_IeeeScaled.j0 k l0_1 l0_3 a0_4 (t462 == 0) a0_0 l0_1 l0_2 l0_3 a0_4 a0_5)))))) else (some false))) = some r := h
 clear h
 replace H := Option.bind_eq_some_iff.mp H
 obtain ⟨t461, A20, H⟩ := H
 replace H : (if t461 = true then (if (l0_1.length : Int) > 60 then (abacuslaw04_IeeeScaled.j0 k l0_1 l0_3 a0_4 true a0_0 l0_1 l0_2 l0_3 a0_4 a0_5) else (if (l0_3.length : Int) > 60 then (abacuslaw04_IeeeScaled.j0 k l0_1 l0_3 a0_4 true a0_0 l0_1 l0_2 l0_3 a0_4 a0_5) else (if a0_4 > 1099511627776 then (abacuslaw04_IeeeScaled.j0 k l0_1 l0_3 a0_4 true a0_0 l0_1 l0_2 l0_3 a0_4 a0_5) else (if a0_4 < (-1099511627776) then (abacuslaw04_IeeeScaled.j0 k l0_1 l0_3 a0_4 true a0_0 l0_1 l0_2 l0_3 a0_4 a0_5) else ((nat_BitLen.f k l0_3).bind fun t462 => (abacuslaw04_IeeeScaled.j0 k l0_1 l0_3 a0_4 (t462 == 0) a0_0 l0_1 l0_2 l0_3 a0_4 a0_5)))))) else (some false)) = some r := H
 have A2 := Aside0.mk A20
 clear A20
 by_cases c3 : t461 = true
 ·subst c3
  have H1 : (if (l0_1.length : Int) > 60 then (abacuslaw04_IeeeScaled.j0 k l0_1 l0_3 a0_4 true a0_0 l0_1 l0_2 l0_3 a0_4 a0_5) else (if (l0_3.length : Int) > 60 then (abacuslaw04_IeeeScaled.j0 k l0_1 l0_3 a0_4 true a0_0 l0_1 l0_2 l0_3 a0_4 a0_5) else (if a0_4 > 1099511627776 then (abacuslaw04_IeeeScaled.j0 k l0_1 l0_3 a0_4 true a0_0 l0_1 l0_2 l0_3 a0_4 a0_5) else (if a0_4 < (-1099511627776) then (abacuslaw04_IeeeScaled.j0 k l0_1 l0_3 a0_4 true a0_0 l0_1 l0_2 l0_3 a0_4 a0_5) else ((nat_BitLen.f k l0_3).bind fun t462 => (abacuslaw04_IeeeScaled.j0 k l0_1 l0_3 a0_4 (t462 == 0) a0_0 l0_1 l0_2 l0_3 a0_4 a0_5)))))) = some r := by rw [if_pos rfl] at H; exact H
  clear H
  have H := H1
  clear H1
  have HC4 := Aside0.mk H
  clear H
  go_enter Tryd.func8, Tryd.ntmps8
  go_upto_region 6 with (first | ((with_reducible refine gate_dst (N := 1) rfl ?_); (try (refine gate_guard (by rfl) ?_; dsimp only)); refine box_event ?hg (N := 1) ?hd (cs := #[.bool a0_0, .slice A0_1 l0_1.length c0_1, .slice A0_2 l0_2.length c0_2, .slice A0_3 l0_3.length c0_3, .int .i64 a0_4, .int .u8 a0_5]) (t := 24) ?hr ?_; (case hd => rfl); (case hg => rfl); (case hr => first | (go_simp; done) | (go_simp; rfl)); intro gb460 hg w5 hbox hb; have n0_ := Aside0.mk (below_step (bS HB.out) hb); have n1_ := Aside0.mk (hbox); have n2_ := Aside0.mk ((by rw [hg]; exact (below_size (bS HB.out)) : w.heap.size ≤ gb460)); have n3_ := Aside0.mk ((by rw [hg]; exact (below_size (bS HB.out)) : w.heap.size ≤ gb460)); clear HB; have HB := n0_; have BK460 := n1_; have GW460 := n2_; have GE460 := n3_; clear n0_ n1_ n2_ n3_; clear hb hbox hg) | ((with_reducible refine gate_callee (f := 12) rfl ?_); refine goesL_ (some 25) rfl rfl Tryd.func12 (by kernel_rfl) rfl #[] rfl (by (try simp only [List.map_toArray, List.map_cons, List.map_nil]); first | done | rfl | (simp only [List.length_drop, List.length_take]; rfl) | (simp only [gt_iff_lt, Int.natCast_pos]; done) | (simp only [gt_iff_lt, Int.natCast_pos]; rfl)) ?_; (with_reducible refine (abacuslaw04_awake.calls k  true _ ?side1 A2.out).mono ?_); (case side1 => exact cS (Kd.C_below HT.out HB.out)); rintro e w6 ⟨rfl, hb⟩; refine ⟨_, rfl, ?_⟩; have n0_ := Aside0.mk (blk_below (g := gb460) (o := .cells #[.bool a0_0, .slice A0_1 l0_1.length c0_1, .slice A0_2 l0_2.length c0_2, .slice A0_3 l0_3.length c0_3, .int .i64 a0_4, .int .u8 a0_5] 24 (0, 0)) (by exact bkS BK460.out) hb); have n1_ := Aside0.mk (below_step (by repeat (first | (with_reducible first | exact HB.out | apply below_alloc | apply pw_below_drewN | apply below_drew1 | refine below_set ?_ GE460.out) | exact HB.out)) hb); clear BK460; clear HB; have BK460 := n0_; have HB := n1_; clear n0_ n1_; (try clear hb); (try clear hb2); (try clear hk); (try clear hi); have hcz7_0 : w6.cell? ⟨gb460, 0, none⟩ = some (.bool a0_0) := (blk_cell BK460.out 0).trans rfl; have hcz7_1 : w6.cell? ⟨gb460, 1, none⟩ = some (.slice A0_1 l0_1.length c0_1) := (blk_cell BK460.out 1).trans rfl; have hcz7_2 : w6.cell? ⟨gb460, 2, none⟩ = some (.slice A0_2 l0_2.length c0_2) := (blk_cell BK460.out 2).trans rfl; have hcz7_3 : w6.cell? ⟨gb460, 3, none⟩ = some (.slice A0_3 l0_3.length c0_3) := (blk_cell BK460.out 3).trans rfl; have hcz7_4 : w6.cell? ⟨gb460, 4, none⟩ = some (.int .i64 a0_4) := (blk_cell BK460.out 4).trans rfl; have hcz7_5 : w6.cell? ⟨gb460, 5, none⟩ = some (.int .u8 a0_5) := (blk_cell BK460.out 5).trans rfl; have hfz7_0 := blk_frozen BK460.out 0; have hfz7_1 := blk_frozen BK460.out 1; have hfz7_2 := blk_frozen BK460.out 2; have hfz7_3 := blk_frozen BK460.out 3; have hfz7_4 := blk_frozen BK460.out 4; have hfz7_5 := blk_frozen BK460.out 5))
  (try simp only [Act.put, List.setIfInBounds_toArray, List.set_cons_zero, List.set_cons_succ])
  go_cut [53] (fun v53 wc => ∃ (kq : Nat) (x53_3 : Bool), v53 = .bool x53_3 ∧ Aside0 (abacuslaw04_IeeeScaled.j0 kq l0_1 l0_3 a0_4 x53_3 a0_0 l0_1 l0_2 l0_3 a0_4 a0_5 = some r) ∧ Aside0 (kq ≤ k) ∧ Aside0 (wc.heap[gb460]? = some (.cells #[.bool a0_0, (.slice A0_1 l0_1.length c0_1), (.slice A0_2 l0_2.length c0_2), (.slice A0_3 l0_3.length c0_3), .int .i64 a0_4, .int .u8 a0_5] 24 (0, 0))) ∧ Aside0 (Below w.heap.size w wc))
  case first =>
   have H := HC4.out
   clear HC4
   by_cases c8 : (l0_1.length : Int) > 60
   ·rw [if_pos c8] at H
    have c8b0 : decide (60 < (l0_1.length : Int)) = true := decide_eq_true c8
    have c8b1 : decide (60 < l0_1.length) = true := decide_eq_true (by omega)
    clear c8
    (first | rw [c8b0] | (simp only [i64_w, i32_w]; rw [c8b0]) | rw [c8b1] | skip)
    as_aux_lemma =>
     have H' := Aside0.mk H
     clear H
     go_wp2
     go_meet
     case rel => exact ⟨_, (true), (by first | rfl | (simp; done) | (simp [*]; done)), H', ⟨by first | omega | exact Nat.le_refl _⟩, ⟨by exact bkS BK460.out⟩, ⟨by repeat (first | (with_reducible first | exact HB.out | apply below_alloc | apply pw_below_drewN | apply below_drew1 | refine below_set ?_ GE460.out) | exact HB.out)⟩⟩
   ·rw [if_neg c8] at H
    have c8b0 : decide (60 < (l0_1.length : Int)) = false := decide_eq_false c8
    have c8b1 : decide (60 < l0_1.length) = false := decide_eq_false (by omega)
    clear c8
    (first | rw [c8b0] | (simp only [i64_w, i32_w]; rw [c8b0]) | rw [c8b1] | skip)
    by_cases c9 : (l0_3.length : Int) > 60
    ·rw [if_pos c9] at H
     have c9b0 : decide (60 < (l0_3.length : Int)) = true := decide_eq_true c9
     have c9b1 : decide (60 < l0_3.length) = true := decide_eq_true (by omega)
     clear c9
     as_aux_lemma =>
      have H' := Aside0.mk H
      clear H
      go_wp2
      go_meet
      case rel => exact ⟨_, (true), (by first | rfl | (simp; done) | (simp [*]; done)), H', ⟨by first | omega | exact Nat.le_refl _⟩, ⟨by exact bkS BK460.out⟩, ⟨by repeat (first | (with_reducible first | exact HB.out | apply below_alloc | apply pw_below_drewN | apply below_drew1 | refine below_set ?_ GE460.out) | exact HB.out)⟩⟩
    ·rw [if_neg c9] at H
     have c9b0 : decide (60 < (l0_3.length : Int)) = false := decide_eq_false c9
     have c9b1 : decide (60 < l0_3.length) = false := decide_eq_false (by omega)
     clear c9
     by_cases c10 : a0_4 > 1099511627776
     ·rw [if_pos c10] at H
      have c10b0 : decide (1099511627776 < a0_4) = true := decide_eq_true c10
      clear c10
      as_aux_lemma =>
       have H' := Aside0.mk H
       clear H
       go_wp2
       go_meet
       case rel => exact ⟨_, (true), (by first | rfl | (simp; done) | (simp [*]; done)), H', ⟨by first | omega | exact Nat.le_refl _⟩, ⟨by exact bkS BK460.out⟩, ⟨by repeat (first | (with_reducible first | exact HB.out | apply below_alloc | apply pw_below_drewN | apply below_drew1 | refine below_set ?_ GE460.out) | exact HB.out)⟩⟩
     ·rw [if_neg c10] at H
      have c10b0 : decide (1099511627776 < a0_4) = false := decide_eq_false c10
      clear c10
      by_cases c11 : a0_4 < (-1099511627776)
      ·rw [if_pos c11] at H
       have c11b0 : decide (a0_4 < (-1099511627776)) = true := decide_eq_true c11
       clear c11
       as_aux_lemma =>
        have H' := Aside0.mk H
        clear H
        go_wp2
        go_meet
        case rel => exact ⟨_, (true), (by first | rfl | (simp; done) | (simp [*]; done)), H', ⟨by first | omega | exact Nat.le_refl _⟩, ⟨by exact bkS BK460.out⟩, ⟨by repeat (first | (with_reducible first | exact HB.out | apply below_alloc | apply pw_below_drewN | apply below_drew1 | refine below_set ?_ GE460.out) | exact HB.out)⟩⟩
      ·rw [if_neg c11] at H
       have c11b0 : decide (a0_4 < (-1099511627776)) = false := decide_eq_false c11
       clear c11
       replace H := Option.bind_eq_some_iff.mp H
       obtain ⟨t462, A120, H⟩ := H
       replace H : (abacuslaw04_IeeeScaled.j0 k l0_1 l0_3 a0_4 (t462 == 0) a0_0 l0_1 l0_2 l0_3 a0_4 a0_5) = some r := H
       have A12 := Aside0.mk A120
       clear A120
       as_aux_lemma =>
        have H' := Aside0.mk H
        clear H
        go_wp2_with (first | (go_at_call 13; (with_reducible refine (nat_BitLen.calls k _ _ l0_3 t462 _ ?side1 ?side2 A12.out).mono ?_); (case side1 => exact cS (Kd.C_below HR0_3.out HB.out)); (case side2 => exact HC0_3.out); rintro e w' ⟨rfl, ⟨nd, rfl⟩⟩))
        go_meet
        case rel => exact ⟨_, ((t462 == 0)), (by first | rfl | (simp; done) | (simp [*]; done)), H', ⟨by first | omega | exact Nat.le_refl _⟩, ⟨by exact bkS BK460.out⟩, ⟨by repeat (first | (with_reducible first | exact HB.out | apply below_alloc | apply pw_below_drewN | apply below_drew1 | refine below_set ?_ GE460.out) | exact HB.out)⟩⟩
  case rest =>
   clear HC4
   try clear c1
   try clear p2
   try clear c3
   try clear c8
   try clear c8b0
   try clear c8b1
   try clear c9
   try clear c9b0
   try clear c9b1
   try clear c10
   try clear c10b0
   try clear c11
   try clear c11b0
   try clear c12
   try clear hcz7_0
   try clear hcz7_1
   try clear hcz7_2
   try clear hcz7_3
   try clear hcz7_4
   try clear hcz7_5
   try clear hfz7_0
   try clear hfz7_1
   try clear hfz7_2
   try clear hfz7_3
   try clear hfz7_4
   try clear hfz7_5
   obtain ⟨kq, x53_3, rfl, HA, HJ3, BK460, HB⟩ := hcut
   cases kq with
   | zero => exact absurd HA.out (by simp [abacuslaw04_IeeeScaled.j0])
   | succ kj3 =>
    have H := HA.out
    clear HA
    simp only [abacuslaw04_IeeeScaled.j0] at H
    by_cases c13 : x53_3 = true
    ·subst c13
     have H1 : (some true) = some r := by rw [if_pos rfl] at H; exact H
     clear H
     have H := H1
     clear H1
     as_aux_lemma =>
      obtain rfl := Option.some.inj H
      go_wp2
      go_ret
      exact ⟨by first | rfl | (simp [errW_none, errW_some] <;> rfl) | (simp [*, errW_none, errW_some] <;> rfl), by repeat (first | (with_reducible first | exact HB.out | apply below_alloc | apply pw_below_drewN | apply below_drew1 | refine below_set ?_ GE460.out) | exact HB.out)⟩
    ·replace c13 := Bool.eq_false_iff.mpr c13
     subst c13
     have H1 : ((nat_Shl.f kj3 l0_1 (wrap64 (a0_5))).bind fun bt463 => ((ieee_Round.f kj3 false l0_1 a0_4 false).bind fun bt467 => ((ieee_Round.f kj3 false bt463.1 (wrap64 (a0_4 - (wrap64 (a0_5)))) false).bind fun bt469 => ((ieee_RoundRatio.f kj3 false l0_1 (([1] : List Int)) a0_4).bind fun bt474 => ((ieee_Round.f kj3 true l0_1 a0_4 false).bind fun bt476 => (if bt463.2 = 0 then (if bt467.2 = 0 then (if bt469.2 = 0 then (if bt474.2 = 0 then (if bt476.2 = 0 then (if bt467.1 = bt469.1 then (if bt467.1 = bt474.1 then (abacuslaw04_IeeeScaled.j1 kj3 l0_1 l0_3 a0_4 bt467.1 (bt476.1 != (IntKind.u64.wrap (bt467.1 + 9223372036854775808))) a0_0 l0_1 l0_2 l0_3 a0_4 a0_5) else (abacuslaw04_IeeeScaled.j1 kj3 l0_1 l0_3 a0_4 bt467.1 true a0_0 l0_1 l0_2 l0_3 a0_4 a0_5)) else (abacuslaw04_IeeeScaled.j1 kj3 l0_1 l0_3 a0_4 bt467.1 true a0_0 l0_1 l0_2 l0_3 a0_4 a0_5)) else (abacuslaw04_IeeeScaled.j1 kj3 l0_1 l0_3 a0_4 bt467.1 true a0_0 l0_1 l0_2 l0_3 a0_4 a0_5)) else (abacuslaw04_IeeeScaled.j1 kj3 l0_1 l0_3 a0_4 bt467.1 true a0_0 l0_1 l0_2 l0_3 a0_4 a0_5)) else (abacuslaw04_IeeeScaled.j1 kj3 l0_1 l0_3 a0_4 bt467.1 true a0_0 l0_1 l0_2 l0_3 a0_4 a0_5)) else (abacuslaw04_IeeeScaled.j1 kj3 l0_1 l0_3 a0_4 bt467.1 true a0_0 l0_1 l0_2 l0_3 a0_4 a0_5)) else (abacuslaw04_IeeeScaled.j1 kj3 l0_1 l0_3 a0_4 bt467.1 true a0_0 l0_1 l0_2 l0_3 a0_4 a0_5))))))) = some r := by rw [if_neg (show ¬ (false = true) by decide)] at H; exact H
     clear H
     have H := H1
     clear H1
     replace H := Option.bind_eq_some_iff.mp H
     obtain ⟨⟨t463, t466⟩, A140, H⟩ := H
     replace H : ((ieee_Round.f kj3 false l0_1 a0_4 false).bind fun bt467 => ((ieee_Round.f kj3 false t463 (wrap64 (a0_4 - (wrap64 (a0_5)))) false).bind fun bt469 => ((ieee_RoundRatio.f kj3 false l0_1 (([1] : List Int)) a0_4).bind fun bt474 => ((ieee_Round.f kj3 true l0_1 a0_4 false).bind fun bt476 => (if t466 = 0 then (if bt467.2 = 0 then (if bt469.2 = 0 then (if bt474.2 = 0 then (if bt476.2 = 0 then (if bt467.1 = bt469.1 then (if bt467.1 = bt474.1 then (abacuslaw04_IeeeScaled.j1 kj3 l0_1 l0_3 a0_4 bt467.1 (bt476.1 != (IntKind.u64.wrap (bt467.1 + 9223372036854775808))) a0_0 l0_1 l0_2 l0_3 a0_4 a0_5) else (abacuslaw04_IeeeScaled.j1 kj3 l0_1 l0_3 a0_4 bt467.1 true a0_0 l0_1 l0_2 l0_3 a0_4 a0_5)) else (abacuslaw04_IeeeScaled.j1 kj3 l0_1 l0_3 a0_4 bt467.1 true a0_0 l0_1 l0_2 l0_3 a0_4 a0_5)) else (abacuslaw04_IeeeScaled.j1 kj3 l0_1 l0_3 a0_4 bt467.1 true a0_0 l0_1 l0_2 l0_3 a0_4 a0_5)) else (abacuslaw04_IeeeScaled.j1 kj3 l0_1 l0_3 a0_4 bt467.1 true a0_0 l0_1 l0_2 l0_3 a0_4 a0_5)) else (abacuslaw04_IeeeScaled.j1 kj3 l0_1 l0_3 a0_4 bt467.1 true a0_0 l0_1 l0_2 l0_3 a0_4 a0_5)) else (abacuslaw04_IeeeScaled.j1 kj3 l0_1 l0_3 a0_4 bt467.1 true a0_0 l0_1 l0_2 l0_3 a0_4 a0_5)) else (abacuslaw04_IeeeScaled.j1 kj3 l0_1 l0_3 a0_4 bt467.1 true a0_0 l0_1 l0_2 l0_3 a0_4 a0_5)))))) = some r := H
     have A14 := Aside0.mk A140
     clear A140
     replace H := Option.bind_eq_some_iff.mp H
     obtain ⟨⟨t467, t468⟩, A150, H⟩ := H
     replace H : ((ieee_Round.f kj3 false t463 (wrap64 (a0_4 - (wrap64 (a0_5)))) false).bind fun bt469 => ((ieee_RoundRatio.f kj3 false l0_1 (([1] : List Int)) a0_4).bind fun bt474 => ((ieee_Round.f kj3 true l0_1 a0_4 false).bind fun bt476 => (if t466 = 0 then (if t468 = 0 then (if bt469.2 = 0 then (if bt474.2 = 0 then (if bt476.2 = 0 then (if t467 = bt469.1 then (if t467 = bt474.1 then (abacuslaw04_IeeeScaled.j1 kj3 l0_1 l0_3 a0_4 t467 (bt476.1 != (IntKind.u64.wrap (t467 + 9223372036854775808))) a0_0 l0_1 l0_2 l0_3 a0_4 a0_5) else (abacuslaw04_IeeeScaled.j1 kj3 l0_1 l0_3 a0_4 t467 true a0_0 l0_1 l0_2 l0_3 a0_4 a0_5)) else (abacuslaw04_IeeeScaled.j1 kj3 l0_1 l0_3 a0_4 t467 true a0_0 l0_1 l0_2 l0_3 a0_4 a0_5)) else (abacuslaw04_IeeeScaled.j1 kj3 l0_1 l0_3 a0_4 t467 true a0_0 l0_1 l0_2 l0_3 a0_4 a0_5)) else (abacuslaw04_IeeeScaled.j1 kj3 l0_1 l0_3 a0_4 t467 true a0_0 l0_1 l0_2 l0_3 a0_4 a0_5)) else (abacuslaw04_IeeeScaled.j1 kj3 l0_1 l0_3 a0_4 t467 true a0_0 l0_1 l0_2 l0_3 a0_4 a0_5)) else (abacuslaw04_IeeeScaled.j1 kj3 l0_1 l0_3 a0_4 t467 true a0_0 l0_1 l0_2 l0_3 a0_4 a0_5)) else (abacuslaw04_IeeeScaled.j1 kj3 l0_1 l0_3 a0_4 t467 true a0_0 l0_1 l0_2 l0_3 a0_4 a0_5))))) = some r := H
     have A15 := Aside0.mk A150
     clear A150
     replace H := Option.bind_eq_some_iff.mp H
     obtain ⟨⟨t469, t470⟩, A160, H⟩ := H
     replace H : ((ieee_RoundRatio.f kj3 false l0_1 (([1] : List Int)) a0_4).bind fun bt474 => ((ieee_Round.f kj3 true l0_1 a0_4 false).bind fun bt476 => (if t466 = 0 then (if t468 = 0 then (if t470 = 0 then (if bt474.2 = 0 then (if bt476.2 = 0 then (if t467 = t469 then (if t467 = bt474.1 then (abacuslaw04_IeeeScaled.j1 kj3 l0_1 l0_3 a0_4 t467 (bt476.1 != (IntKind.u64.wrap (t467 + 9223372036854775808))) a0_0 l0_1 l0_2 l0_3 a0_4 a0_5) else (abacuslaw04_IeeeScaled.j1 kj3 l0_1 l0_3 a0_4 t467 true a0_0 l0_1 l0_2 l0_3 a0_4 a0_5)) else (abacuslaw04_IeeeScaled.j1 kj3 l0_1 l0_3 a0_4 t467 true a0_0 l0_1 l0_2 l0_3 a0_4 a0_5)) else (abacuslaw04_IeeeScaled.j1 kj3 l0_1 l0_3 a0_4 t467 true a0_0 l0_1 l0_2 l0_3 a0_4 a0_5)) else (abacuslaw04_IeeeScaled.j1 kj3 l0_1 l0_3 a0_4 t467 true a0_0 l0_1 l0_2 l0_3 a0_4 a0_5)) else (abacuslaw04_IeeeScaled.j1 kj3 l0_1 l0_3 a0_4 t467 true a0_0 l0_1 l0_2 l0_3 a0_4 a0_5)) else (abacuslaw04_IeeeScaled.j1 kj3 l0_1 l0_3 a0_4 t467 true a0_0 l0_1 l0_2 l0_3 a0_4 a0_5)) else (abacuslaw04_IeeeScaled.j1 kj3 l0_1 l0_3 a0_4 t467 true a0_0 l0_1 l0_2 l0_3 a0_4 a0_5)))) = some r := H
     have A16 := Aside0.mk A160
     clear A160
     obtain ⟨y471, hy471⟩ : ∃ y_ : List Int, y_ = (([1] : List Int)) := ⟨_, rfl⟩
     replace H : ((ieee_RoundRatio.f kj3 false l0_1 y471 a0_4).bind fun bt474 => ((ieee_Round.f kj3 true l0_1 a0_4 false).bind fun bt476 => (if t466 = 0 then (if t468 = 0 then (if t470 = 0 then (if bt474.2 = 0 then (if bt476.2 = 0 then (if t467 = t469 then (if t467 = bt474.1 then (abacuslaw04_IeeeScaled.j1 kj3 l0_1 l0_3 a0_4 t467 (bt476.1 != (IntKind.u64.wrap (t467 + 9223372036854775808))) a0_0 l0_1 l0_2 l0_3 a0_4 a0_5) else (abacuslaw04_IeeeScaled.j1 kj3 l0_1 l0_3 a0_4 t467 true a0_0 l0_1 l0_2 l0_3 a0_4 a0_5)) else (abacuslaw04_IeeeScaled.j1 kj3 l0_1 l0_3 a0_4 t467 true a0_0 l0_1 l0_2 l0_3 a0_4 a0_5)) else (abacuslaw04_IeeeScaled.j1 kj3 l0_1 l0_3 a0_4 t467 true a0_0 l0_1 l0_2 l0_3 a0_4 a0_5)) else (abacuslaw04_IeeeScaled.j1 kj3 l0_1 l0_3 a0_4 t467 true a0_0 l0_1 l0_2 l0_3 a0_4 a0_5)) else (abacuslaw04_IeeeScaled.j1 kj3 l0_1 l0_3 a0_4 t467 true a0_0 l0_1 l0_2 l0_3 a0_4 a0_5)) else (abacuslaw04_IeeeScaled.j1 kj3 l0_1 l0_3 a0_4 t467 true a0_0 l0_1 l0_2 l0_3 a0_4 a0_5)) else (abacuslaw04_IeeeScaled.j1 kj3 l0_1 l0_3 a0_4 t467 true a0_0 l0_1 l0_2 l0_3 a0_4 a0_5)))) = some r := by first | (rw [hy471]; with_reducible exact H) | (have H2_ := (Option.bind_some _ _).symm.trans H; rw [hy471]; with_reducible exact H2_) | (have H2_ := (Option.bind_some _ _).symm.trans H; with_reducible exact H2_) | with_reducible exact H | (rw [hy471]; exact H) | exact H
     have Ny471 := Aside0.mk hy471
     clear hy471
     replace H := Option.bind_eq_some_iff.mp H
     obtain ⟨⟨t474, t475⟩, A170, H⟩ := H
     replace H : ((ieee_Round.f kj3 true l0_1 a0_4 false).bind fun bt476 => (if t466 = 0 then (if t468 = 0 then (if t470 = 0 then (if t475 = 0 then (if bt476.2 = 0 then (if t467 = t469 then (if t467 = t474 then (abacuslaw04_IeeeScaled.j1 kj3 l0_1 l0_3 a0_4 t467 (bt476.1 != (IntKind.u64.wrap (t467 + 9223372036854775808))) a0_0 l0_1 l0_2 l0_3 a0_4 a0_5) else (abacuslaw04_IeeeScaled.j1 kj3 l0_1 l0_3 a0_4 t467 true a0_0 l0_1 l0_2 l0_3 a0_4 a0_5)) else (abacuslaw04_IeeeScaled.j1 kj3 l0_1 l0_3 a0_4 t467 true a0_0 l0_1 l0_2 l0_3 a0_4 a0_5)) else (abacuslaw04_IeeeScaled.j1 kj3 l0_1 l0_3 a0_4 t467 true a0_0 l0_1 l0_2 l0_3 a0_4 a0_5)) else (abacuslaw04_IeeeScaled.j1 kj3 l0_1 l0_3 a0_4 t467 true a0_0 l0_1 l0_2 l0_3 a0_4 a0_5)) else (abacuslaw04_IeeeScaled.j1 kj3 l0_1 l0_3 a0_4 t467 true a0_0 l0_1 l0_2 l0_3 a0_4 a0_5)) else (abacuslaw04_IeeeScaled.j1 kj3 l0_1 l0_3 a0_4 t467 true a0_0 l0_1 l0_2 l0_3 a0_4 a0_5)) else (abacuslaw04_IeeeScaled.j1 kj3 l0_1 l0_3 a0_4 t467 true a0_0 l0_1 l0_2 l0_3 a0_4 a0_5))) = some r := H
     have A17 := Aside0.mk A170
     clear A170
     replace H := Option.bind_eq_some_iff.mp H
     obtain ⟨⟨t476, t477⟩, A180, H⟩ := H
     replace H : (if t466 = 0 then (if t468 = 0 then (if t470 = 0 then (if t475 = 0 then (if t477 = 0 then (if t467 = t469 then (if t467 = t474 then (abacuslaw04_IeeeScaled.j1 kj3 l0_1 l0_3 a0_4 t467 (t476 != (IntKind.u64.wrap (t467 + 9223372036854775808))) a0_0 l0_1 l0_2 l0_3 a0_4 a0_5) else (abacuslaw04_IeeeScaled.j1 kj3 l0_1 l0_3 a0_4 t467 true a0_0 l0_1 l0_2 l0_3 a0_4 a0_5)) else (abacuslaw04_IeeeScaled.j1 kj3 l0_1 l0_3 a0_4 t467 true a0_0 l0_1 l0_2 l0_3 a0_4 a0_5)) else (abacuslaw04_IeeeScaled.j1 kj3 l0_1 l0_3 a0_4 t467 true a0_0 l0_1 l0_2 l0_3 a0_4 a0_5)) else (abacuslaw04_IeeeScaled.j1 kj3 l0_1 l0_3 a0_4 t467 true a0_0 l0_1 l0_2 l0_3 a0_4 a0_5)) else (abacuslaw04_IeeeScaled.j1 kj3 l0_1 l0_3 a0_4 t467 true a0_0 l0_1 l0_2 l0_3 a0_4 a0_5)) else (abacuslaw04_IeeeScaled.j1 kj3 l0_1 l0_3 a0_4 t467 true a0_0 l0_1 l0_2 l0_3 a0_4 a0_5)) else (abacuslaw04_IeeeScaled.j1 kj3 l0_1 l0_3 a0_4 t467 true a0_0 l0_1 l0_2 l0_3 a0_4 a0_5)) = some r := H
     have A18 := Aside0.mk A180
     clear A180
     have HC19 := Aside0.mk H
     clear H
     have hcz20_0 : wc.cell? ⟨gb460, 0, none⟩ = some (.bool a0_0) := (blk_cell BK460.out 0).trans rfl
     have hcz20_1 : wc.cell? ⟨gb460, 1, none⟩ = some (.slice A0_1 l0_1.length c0_1) := (blk_cell BK460.out 1).trans rfl
     have hcz20_2 : wc.cell? ⟨gb460, 2, none⟩ = some (.slice A0_2 l0_2.length c0_2) := (blk_cell BK460.out 2).trans rfl
     have hcz20_3 : wc.cell? ⟨gb460, 3, none⟩ = some (.slice A0_3 l0_3.length c0_3) := (blk_cell BK460.out 3).trans rfl
     have hcz20_4 : wc.cell? ⟨gb460, 4, none⟩ = some (.int .i64 a0_4) := (blk_cell BK460.out 4).trans rfl
     have hcz20_5 : wc.cell? ⟨gb460, 5, none⟩ = some (.int .u8 a0_5) := (blk_cell BK460.out 5).trans rfl
     have hfz20_0 := blk_frozen BK460.out 0
     have hfz20_1 := blk_frozen BK460.out 1
     have hfz20_2 := blk_frozen BK460.out 2
     have hfz20_3 := blk_frozen BK460.out 3
     have hfz20_4 := blk_frozen BK460.out 4
     have hfz20_5 := blk_frozen BK460.out 5
     go_upto_region 14 with (first | ((with_reducible refine gate_callee (f := 29) rfl ?_); refine goesL_ (some 60) rfl rfl Tryd.func29 (by kernel_rfl) rfl #[.slice A0_1 l0_1.length c0_1, .int .i64 (wrap64 (a0_5))] rfl (by (try simp only [List.map_toArray, List.map_cons, List.map_nil]); first | done | rfl | (simp only [List.length_drop, List.length_take]; rfl) | (simp only [gt_iff_lt, Int.natCast_pos]; done) | (simp only [gt_iff_lt, Int.natCast_pos]; rfl)) ?_; (with_reducible refine (nat_Shl.calls kj3 _ _ l0_1 (wrap64 (a0_5)) t463 t466 _ ?side1 ?side2 A14.out).mono ?_); (case side1 => exact cS (Kd.C_below HR0_1.out HB.out)); (case side2 => exact HC0_1.out); rintro e w21 ⟨v464, rfl, ho0, hb⟩; refine ⟨_, rfl, ?_⟩; have n0_ := Aside0.mk (Kd.V_lower (Kd.V_mono (ok' := fun k_ => k_ ≠ gb460) ho0 (fun k_ hk_ => (Kd.freshB (g := gb460) (o := .cells #[.bool a0_0, .slice A0_1 l0_1.length c0_1, .slice A0_2 l0_2.length c0_2, .slice A0_3 l0_3.length c0_3, .int .i64 a0_4, .int .u8 a0_5] 24 (0, 0)) (by exact bkS BK460.out) k_ hk_))) (below_size (by repeat (first | (with_reducible first | exact HB.out | apply below_alloc | apply pw_below_drewN | apply below_drew1 | refine below_set ?_ GE460.out) | exact HB.out)))); have n1_ := Aside0.mk (blk_below (g := gb460) (o := .cells #[.bool a0_0, .slice A0_1 l0_1.length c0_1, .slice A0_2 l0_2.length c0_2, .slice A0_3 l0_3.length c0_3, .int .i64 a0_4, .int .u8 a0_5] 24 (0, 0)) (by exact bkS BK460.out) hb); have n2_ := Aside0.mk (below_step (by repeat (first | (with_reducible first | exact HB.out | apply below_alloc | apply pw_below_drewN | apply below_drew1 | refine below_set ?_ GE460.out) | exact HB.out)) hb); clear BK460; clear HB; have HO465 := n0_; have BK460 := n1_; have HB := n2_; clear n0_ n1_ n2_; (try clear hb); (try clear hb2); (try clear hk); (try clear hi); (try clear ho0)) | ((with_reducible refine gate_callee (f := 15) rfl ?_); refine goesL_ (some 66) rfl rfl Tryd.func15 (by kernel_rfl) rfl #[.bool false, .slice A0_1 l0_1.length c0_1, .int .i64 a0_4, .bool false] rfl (by (try simp only [List.map_toArray, List.map_cons, List.map_nil]); first | done | rfl | (simp only [List.length_drop, List.length_take]; rfl) | (simp only [gt_iff_lt, Int.natCast_pos]; done) | (simp only [gt_iff_lt, Int.natCast_pos]; rfl)) ?_; (with_reducible refine (ieee_Round.calls kj3 false _ _ l0_1 a0_4 false t467 t468 _ ?side3 ?side1 ?side2 A15.out).mono ?_); (case side1 => exact cS (Kd.C_below HR0_1.out HB.out)); (case side2 => exact HC0_1.out); (case side3 => exact cS (Kd.C_below HT.out HB.out)); rintro e w22 ⟨rfl, hb⟩; refine ⟨_, rfl, ?_⟩; have n0_ := Aside0.mk (Kd.V_below (vS <| HO465.out) hb); have n1_ := Aside0.mk (blk_below (g := gb460) (o := .cells #[.bool a0_0, .slice A0_1 l0_1.length c0_1, .slice A0_2 l0_2.length c0_2, .slice A0_3 l0_3.length c0_3, .int .i64 a0_4, .int .u8 a0_5] 24 (0, 0)) (by exact bkS BK460.out) hb); have n2_ := Aside0.mk (below_step (by repeat (first | (with_reducible first | exact HB.out | apply below_alloc | apply pw_below_drewN | apply below_drew1 | refine below_set ?_ GE460.out) | exact HB.out)) hb); clear HO465; clear BK460; clear HB; have HO465 := n0_; have BK460 := n1_; have HB := n2_; clear n0_ n1_ n2_; (try clear hb); (try clear hb2); (try clear hk); (try clear hi); obtain ⟨Ao23, co23, eo23⟩ := Kd.V_slice HO465.out; subst eo23) | ((with_reducible refine gate_callee (f := 15) rfl ?_); refine goesL_ (some 74) rfl rfl Tryd.func15 (by kernel_rfl) rfl #[.bool false, .slice Ao23 t463.length co23, .int .i64 (wrap64 (a0_4 - (wrap64 (a0_5)))), .bool false] rfl (by (try simp only [List.map_toArray, List.map_cons, List.map_nil]); first | done | rfl | (simp only [List.length_drop, List.length_take]; rfl) | (simp only [gt_iff_lt, Int.natCast_pos]; done) | (simp only [gt_iff_lt, Int.natCast_pos]; rfl)) ?_; (with_reducible refine (ieee_Round.calls kj3 false _ _ t463 (wrap64 (a0_4 - (wrap64 (a0_5)))) false t469 t470 _ ?side3 ?side1 ?side2 A16.out).mono ?_); (case side1 => exact cS (Kd.V_reads' HO465.out).2.2); (case side2 => exact (Kd.V_reads' HO465.out).2.1); (case side3 => exact cS (Kd.C_below HT.out HB.out)); rintro e w24 ⟨rfl, hb⟩; refine ⟨_, rfl, ?_⟩; have n0_ := Aside0.mk (Kd.V_below (vS <| HO465.out) hb); have n1_ := Aside0.mk (blk_below (g := gb460) (o := .cells #[.bool a0_0, .slice A0_1 l0_1.length c0_1, .slice A0_2 l0_2.length c0_2, .slice A0_3 l0_3.length c0_3, .int .i64 a0_4, .int .u8 a0_5] 24 (0, 0)) (by exact bkS BK460.out) hb); have n2_ := Aside0.mk (below_step (by repeat (first | (with_reducible first | exact HB.out | apply below_alloc | apply pw_below_drewN | apply below_drew1 | refine below_set ?_ GE460.out) | exact HB.out)) hb); clear HO465; clear BK460; clear HB; have HO465 := n0_; have BK460 := n1_; have HB := n2_; clear n0_ n1_ n2_; (try clear hb); (try clear hb2); (try clear hk); (try clear hi)) | ((with_reducible refine gate_dst (N := 79) rfl ?_); (try (refine gate_guard (by rfl) ?_; dsimp only)); refine Kd.R_lit (Kd.int .u64) _ 28 ?hg (N := 79) ?hd (xs := ([1] : List Int)) (inner := [.int .u64 1]) (ok := fun _ => True) (okp := fun _ => True) ?hr ?hp (fun _ hk => hk) trivial (Below.refl _ _) (Nat.le_refl _) (by simp) ?_; (case hd => rfl); (case hg => rfl); (case hr => first | (go_simp; done) | (go_simp; rfl)); (case hp => exact (Reps.one (show Kd.M (Kd.int .u64) _ _ _ 1 [.int .u64 1] from rfl) (Reps.none _ _))); intro v472 w25 ho26 hb hg_ hnew_; clear hg_ hnew_; (first | rw [← Ny471.out] at ho26 | (simp only [Int.reduceToNat] at ho26; rw [← Ny471.out] at ho26)); have n0_ := Aside0.mk (Kd.V_elder' (vS <| HO465.out) (Kd.R_base ho26) hb); have n1_ := Aside0.mk (Kd.R_lower ho26 (below_size (by repeat (first | (with_reducible first | exact HB.out | apply below_alloc | apply pw_below_drewN | apply below_drew1 | refine below_set ?_ GE460.out) | exact HB.out)))); have n2_ := Aside0.mk (blk_below (g := gb460) (o := .cells #[.bool a0_0, .slice A0_1 l0_1.length c0_1, .slice A0_2 l0_2.length c0_2, .slice A0_3 l0_3.length c0_3, .int .i64 a0_4, .int .u8 a0_5] 24 (0, 0)) (by exact bkS BK460.out) hb); have n3_ := Aside0.mk (below_step (by repeat (first | (with_reducible first | exact HB.out | apply below_alloc | apply pw_below_drewN | apply below_drew1 | refine below_set ?_ GE460.out) | exact HB.out)) hb); clear HO465; clear BK460; clear HB; have HO465 := n0_; have HO473 := n1_; have BK460 := n2_; have HB := n3_; clear n0_ n1_ n2_ n3_; clear hb ho26; obtain ⟨Ao27, co27, eo27⟩ := Kd.R_slice HO473.out; subst eo27) | ((with_reducible refine gate_callee (f := 16) rfl ?_); refine goesL_ (some 81) rfl rfl Tryd.func16 (by kernel_rfl) rfl #[.bool false, .slice A0_1 l0_1.length c0_1, .slice Ao27 y471.length co27, .int .i64 a0_4] rfl (by (try simp only [List.map_toArray, List.map_cons, List.map_nil]); first | done | rfl | (simp only [List.length_drop, List.length_take]; rfl) | (simp only [gt_iff_lt, Int.natCast_pos]; done) | (simp only [gt_iff_lt, Int.natCast_pos]; rfl)) ?_; (with_reducible refine (ieee_RoundRatio.calls kj3 false _ _ l0_1 _ _ y471 a0_4 t474 t475 _ ?side5 ?side1 ?side2 ?side3 ?side4 A17.out).mono ?_); (case side1 => exact cS (Kd.C_below HR0_1.out HB.out)); (case side2 => exact HC0_1.out); (case side3 => exact cS (Kd.R_reads' HO473.out).2.2); (case side4 => exact (Kd.R_reads' HO473.out).2.1); (case side5 => exact cS (Kd.C_below HT.out HB.out)); rintro e w28 ⟨rfl, hb⟩; refine ⟨_, rfl, ?_⟩; have n0_ := Aside0.mk (Kd.V_below (vS <| HO465.out) hb); have n1_ := Aside0.mk (Kd.R_below (rS <| HO473.out) hb); have n2_ := Aside0.mk (blk_below (g := gb460) (o := .cells #[.bool a0_0, .slice A0_1 l0_1.length c0_1, .slice A0_2 l0_2.length c0_2, .slice A0_3 l0_3.length c0_3, .int .i64 a0_4, .int .u8 a0_5] 24 (0, 0)) (by exact bkS BK460.out) hb); have n3_ := Aside0.mk (below_step (by repeat (first | (with_reducible first | exact HB.out | apply below_alloc | apply pw_below_drewN | apply below_drew1 | refine below_set ?_ GE460.out) | exact HB.out)) hb); clear HO465; clear HO473; clear BK460; clear HB; have HO465 := n0_; have HO473 := n1_; have BK460 := n2_; have HB := n3_; clear n0_ n1_ n2_ n3_; (try clear hb); (try clear hb2); (try clear hk); (try clear hi)) | ((with_reducible refine gate_callee (f := 15) rfl ?_); refine goesL_ (some 87) rfl rfl Tryd.func15 (by kernel_rfl) rfl #[.bool true, .slice A0_1 l0_1.length c0_1, .int .i64 a0_4, .bool false] rfl (by (try simp only [List.map_toArray, List.map_cons, List.map_nil]); first | done | rfl | (simp only [List.length_drop, List.length_take]; rfl) | (simp only [gt_iff_lt, Int.natCast_pos]; done) | (simp only [gt_iff_lt, Int.natCast_pos]; rfl)) ?_; (with_reducible refine (ieee_Round.calls kj3 true _ _ l0_1 a0_4 false t476 t477 _ ?side3 ?side1 ?side2 A18.out).mono ?_); (case side1 => exact cS (Kd.C_below HR0_1.out HB.out)); (case side2 => exact HC0_1.out); (case side3 => exact cS (Kd.C_below HT.out HB.out)); rintro e w29 ⟨rfl, hb⟩; refine ⟨_, rfl, ?_⟩; have n0_ := Aside0.mk (Kd.V_below (vS <| HO465.out) hb); have n1_ := Aside0.mk (Kd.R_below (rS <| HO473.out) hb); have n2_ := Aside0.mk (blk_below (g := gb460) (o := .cells #[.bool a0_0, .slice A0_1 l0_1.length c0_1, .slice A0_2 l0_2.length c0_2, .slice A0_3 l0_3.length c0_3, .int .i64 a0_4, .int .u8 a0_5] 24 (0, 0)) (by exact bkS BK460.out) hb); have n3_ := Aside0.mk (below_step (by repeat (first | (with_reducible first | exact HB.out | apply below_alloc | apply pw_below_drewN | apply below_drew1 | refine below_set ?_ GE460.out) | exact HB.out)) hb); clear HO465; clear HO473; clear BK460; clear HB; have HO465 := n0_; have HO473 := n1_; have BK460 := n2_; have HB := n3_; clear n0_ n1_ n2_ n3_; (try clear hb); (try clear hb2); (try clear hk); (try clear hi)))
     (try simp only [Act.put, List.setIfInBounds_toArray, List.set_cons_zero, List.set_cons_succ])
     go_cut [123] (fun v123 wc => ∃ (kq : Nat) (x123_18 : Bool), v123 = .bool x123_18 ∧ Aside0 (abacuslaw04_IeeeScaled.j1 kq l0_1 l0_3 a0_4 t467 x123_18 a0_0 l0_1 l0_2 l0_3 a0_4 a0_5 = some r) ∧ Aside0 (kq ≤ kj3) ∧ Aside0 (wc.heap[gb460]? = some (.cells #[.bool a0_0, (.slice A0_1 l0_1.length c0_1), (.slice A0_2 l0_2.length c0_2), (.slice A0_3 l0_3.length c0_3), .int .i64 a0_4, .int .u8 a0_5] 24 (0, 0))) ∧ Aside0 (Below w.heap.size w wc))
     case first =>
      have H := HC19.out
      clear HC19
      by_cases c30 : t466 = 0
      ·rw [if_pos c30] at H
       have c30b0 : (t466 == 0) = true := beq_iff_eq.mpr c30
       have c30b1 : (t466 != 0) = false := bne_eq_false_iff_eq.mpr c30
       clear c30
       (first | rw [c30b0] | (simp only [i64_w, i32_w]; rw [c30b0]) | rw [c30b1] | skip)
       by_cases c31 : t468 = 0
       ·rw [if_pos c31] at H
        have c31b0 : (t468 == 0) = true := beq_iff_eq.mpr c31
        have c31b1 : (t468 != 0) = false := bne_eq_false_iff_eq.mpr c31
        clear c31
        by_cases c32 : t470 = 0
        ·rw [if_pos c32] at H
         have c32b0 : (t470 == 0) = true := beq_iff_eq.mpr c32
         have c32b1 : (t470 != 0) = false := bne_eq_false_iff_eq.mpr c32
         clear c32
         by_cases c33 : t475 = 0
         ·rw [if_pos c33] at H
          have c33b0 : (t475 == 0) = true := beq_iff_eq.mpr c33
          have c33b1 : (t475 != 0) = false := bne_eq_false_iff_eq.mpr c33
          clear c33
          by_cases c34 : t477 = 0
          ·rw [if_pos c34] at H
           have c34b0 : (t477 == 0) = true := beq_iff_eq.mpr c34
           have c34b1 : (t477 != 0) = false := bne_eq_false_iff_eq.mpr c34
           clear c34
           by_cases c35 : t467 = t469
           ·rw [if_pos c35] at H
            have c35b0 : (t467 == t469) = true := beq_iff_eq.mpr c35
            have c35b1 : (t467 != t469) = false := bne_eq_false_iff_eq.mpr c35
            clear c35
            by_cases c36 : t467 = t474
            ·rw [if_pos c36] at H
             have c36b0 : (t467 == t474) = true := beq_iff_eq.mpr c36
             have c36b1 : (t467 != t474) = false := bne_eq_false_iff_eq.mpr c36
             clear c36
             as_aux_lemma =>
              have H' := Aside0.mk H
              clear H
              go_wp2
              go_meet
              case rel => exact ⟨_, ((t476 != (IntKind.u64.wrap (t467 + 9223372036854775808)))), (by first | rfl | (simp; done) | (simp [*]; done)), H', ⟨by have := HJ3.out; first | omega | exact Nat.le_refl _⟩, ⟨by exact bkS BK460.out⟩, ⟨by repeat (first | (with_reducible first | exact HB.out | apply below_alloc | apply pw_below_drewN | apply below_drew1 | refine below_set ?_ GE460.out) | exact HB.out)⟩⟩
            ·rw [if_neg c36] at H
             have c36b0 : (t467 == t474) = false := beq_eq_false_iff_ne.mpr c36
             have c36b1 : (t467 != t474) = true := bne_iff_ne.mpr c36
             as_aux_lemma =>
              have H' := Aside0.mk H
              clear H
              go_wp2
              go_meet
              case rel => exact ⟨_, (true), (by first | rfl | (simp; done) | (simp [*]; done)), H', ⟨by have := HJ3.out; first | omega | exact Nat.le_refl _⟩, ⟨by exact bkS BK460.out⟩, ⟨by repeat (first | (with_reducible first | exact HB.out | apply below_alloc | apply pw_below_drewN | apply below_drew1 | refine below_set ?_ GE460.out) | exact HB.out)⟩⟩
           ·rw [if_neg c35] at H
            have c35b0 : (t467 == t469) = false := beq_eq_false_iff_ne.mpr c35
            have c35b1 : (t467 != t469) = true := bne_iff_ne.mpr c35
            as_aux_lemma =>
             have H' := Aside0.mk H
             clear H
             go_wp2
             go_meet
             case rel => exact ⟨_, (true), (by first | rfl | (simp; done) | (simp [*]; done)), H', ⟨by have := HJ3.out; first | omega | exact Nat.le_refl _⟩, ⟨by exact bkS BK460.out⟩, ⟨by repeat (first | (with_reducible first | exact HB.out | apply below_alloc | apply pw_below_drewN | apply below_drew1 | refine below_set ?_ GE460.out) | exact HB.out)⟩⟩
          ·rw [if_neg c34] at H
           have c34b0 : (t477 == 0) = false := beq_eq_false_iff_ne.mpr c34
           have c34b1 : (t477 != 0) = true := bne_iff_ne.mpr c34
           as_aux_lemma =>
            have H' := Aside0.mk H
            clear H
            go_wp2
            go_meet
            case rel => exact ⟨_, (true), (by first | rfl | (simp; done) | (simp [*]; done)), H', ⟨by have := HJ3.out; first | omega | exact Nat.le_refl _⟩, ⟨by exact bkS BK460.out⟩, ⟨by repeat (first | (with_reducible first | exact HB.out | apply below_alloc | apply pw_below_drewN | apply below_drew1 | refine below_set ?_ GE460.out) | exact HB.out)⟩⟩
         ·rw [if_neg c33] at H
          have c33b0 : (t475 == 0) = false := beq_eq_false_iff_ne.mpr c33
          have c33b1 : (t475 != 0) = true := bne_iff_ne.mpr c33
          as_aux_lemma =>
           have H' := Aside0.mk H
           clear H
           go_wp2
           go_meet
           case rel => exact ⟨_, (true), (by first | rfl | (simp; done) | (simp [*]; done)), H', ⟨by have := HJ3.out; first | omega | exact Nat.le_refl _⟩, ⟨by exact bkS BK460.out⟩, ⟨by repeat (first | (with_reducible first | exact HB.out | apply below_alloc | apply pw_below_drewN | apply below_drew1 | refine below_set ?_ GE460.out) | exact HB.out)⟩⟩
        ·rw [if_neg c32] at H
         have c32b0 : (t470 == 0) = false := beq_eq_false_iff_ne.mpr c32
         have c32b1 : (t470 != 0) = true := bne_iff_ne.mpr c32
         as_aux_lemma =>
          have H' := Aside0.mk H
          clear H
          go_wp2
          go_meet
          case rel => exact ⟨_, (true), (by first | rfl | (simp; done) | (simp [*]; done)), H', ⟨by have := HJ3.out; first | omega | exact Nat.le_refl _⟩, ⟨by exact bkS BK460.out⟩, ⟨by repeat (first | (with_reducible first | exact HB.out | apply below_alloc | apply pw_below_drewN | apply below_drew1 | refine below_set ?_ GE460.out) | exact HB.out)⟩⟩
       ·rw [if_neg c31] at H
        have c31b0 : (t468 == 0) = false := beq_eq_false_iff_ne.mpr c31
        have c31b1 : (t468 != 0) = true := bne_iff_ne.mpr c31
        as_aux_lemma =>
         have H' := Aside0.mk H
         clear H
         go_wp2
         go_meet
         case rel => exact ⟨_, (true), (by first | rfl | (simp; done) | (simp [*]; done)), H', ⟨by have := HJ3.out; first | omega | exact Nat.le_refl _⟩, ⟨by exact bkS BK460.out⟩, ⟨by repeat (first | (with_reducible first | exact HB.out | apply below_alloc | apply pw_below_drewN | apply below_drew1 | refine below_set ?_ GE460.out) | exact HB.out)⟩⟩
      ·rw [if_neg c30] at H
       have c30b0 : (t466 == 0) = false := beq_eq_false_iff_ne.mpr c30
       have c30b1 : (t466 != 0) = true := bne_iff_ne.mpr c30
       (first | rw [c30b0] | (simp only [i64_w, i32_w]; rw [c30b0]) | rw [c30b1] | skip)
       as_aux_lemma =>
        have H' := Aside0.mk H
        clear H
        go_wp2
        go_meet
        case rel => exact ⟨_, (true), (by first | rfl | (simp; done) | (simp [*]; done)), H', ⟨by have := HJ3.out; first | omega | exact Nat.le_refl _⟩, ⟨by exact bkS BK460.out⟩, ⟨by repeat (first | (with_reducible first | exact HB.out | apply below_alloc | apply pw_below_drewN | apply below_drew1 | refine below_set ?_ GE460.out) | exact HB.out)⟩⟩
     case rest =>
      clear HC19
      try clear c1
      try clear c2
      try clear p2
      try clear c3
      try clear p6
      try clear c8
      try clear c8b0
      try clear c8b1
      try clear c9
      try clear c9b0
      try clear c9b1
      try clear c10
      try clear c10b0
      try clear c11
      try clear c11b0
      try clear c12
      try clear c13
      try clear c15
      try clear c16
      try clear c29
      try clear c30
      try clear c30b0
      try clear c30b1
      try clear c31
      try clear c31b0
      try clear c31b1
      try clear c32
      try clear c32b0
      try clear c32b1
      try clear c33
      try clear c33b0
      try clear c33b1
      try clear c34
      try clear c34b0
      try clear c34b1
      try clear c35
      try clear c35b0
      try clear c35b1
      try clear c36
      try clear c36b0
      try clear c36b1
      try clear hcz20_0
      try clear hcz20_1
      try clear hcz20_2
      try clear hcz20_3
      try clear hcz20_4
      try clear hcz20_5
      try clear hcz7_0
      try clear hcz7_1
      try clear hcz7_2
      try clear hcz7_3
      try clear hcz7_4
      try clear hcz7_5
      try clear hfz20_0
      try clear hfz20_1
      try clear hfz20_2
      try clear hfz20_3
      try clear hfz20_4
      try clear hfz20_5
      try clear hfz7_0
      try clear hfz7_1
      try clear hfz7_2
      try clear hfz7_3
      try clear hfz7_4
      try clear hfz7_5
      try clear p2
      obtain ⟨kq, x123_18, rfl, HA, HJ18, BK460, HB⟩ := hcut
      cases kq with
      | zero => exact absurd HA.out (by simp [abacuslaw04_IeeeScaled.j1])
      | succ kj18 =>
       have H := HA.out
       clear HA
       simp only [abacuslaw04_IeeeScaled.j1] at H
       by_cases c37 : x123_18 = true
       ·subst c37
        have H1 : (some false) = some r := by rw [if_pos rfl] at H; exact H
        clear H
        have H := H1
        clear H1
        as_aux_lemma =>
         obtain rfl := Option.some.inj H
         go_wp2
         go_ret
         exact ⟨by first | rfl | (simp [errW_none, errW_some] <;> rfl) | (simp [*, errW_none, errW_some] <;> rfl), by repeat (first | (with_reducible first | exact HB.out | apply below_alloc | apply pw_below_drewN | apply below_drew1 | refine below_set ?_ GE460.out) | exact HB.out)⟩
       ·replace c37 := Bool.eq_false_iff.mpr c37
        subst c37
        have H1 : ((nat_Mul.f kj18 l0_1 (([IntKind.u64.wrap ((IntKind.u64.wrap (a0_5)) + 1)] : List Int))).bind fun bt481 => ((nat_Mul.f kj18 l0_3 (([IntKind.u64.wrap ((IntKind.u64.wrap (a0_5)) + 1)] : List Int))).bind fun bt488 => ((ieee_RoundRatio.f kj18 true l0_1 l0_3 a0_4).bind fun bt492 => ((ieee_RoundRatio.f kj18 true bt481.1 bt488.1 a0_4).bind fun bt494 => (if bt481.2 = 0 then (if bt488.2 = 0 then (if bt492.2 = 0 then (if bt494.2 = 0 then (abacuslaw04_IeeeScaled.j2 kj18 l0_1 a0_4 t467 (bt492.1 != bt494.1)) else (abacuslaw04_IeeeScaled.j2 kj18 l0_1 a0_4 t467 true)) else (abacuslaw04_IeeeScaled.j2 kj18 l0_1 a0_4 t467 true)) else (abacuslaw04_IeeeScaled.j2 kj18 l0_1 a0_4 t467 true)) else (abacuslaw04_IeeeScaled.j2 kj18 l0_1 a0_4 t467 true)))))) = some r := by rw [if_neg (show ¬ (false = true) by decide)] at H; exact H
        clear H
        have H := H1
        clear H1
        obtain ⟨y478, hy478⟩ : ∃ y_ : List Int, y_ = (([IntKind.u64.wrap ((IntKind.u64.wrap (a0_5)) + 1)] : List Int)) := ⟨_, rfl⟩
        replace H : ((nat_Mul.f kj18 l0_1 y478).bind fun bt481 => ((nat_Mul.f kj18 l0_3 (([IntKind.u64.wrap ((IntKind.u64.wrap (a0_5)) + 1)] : List Int))).bind fun bt488 => ((ieee_RoundRatio.f kj18 true l0_1 l0_3 a0_4).bind fun bt492 => ((ieee_RoundRatio.f kj18 true bt481.1 bt488.1 a0_4).bind fun bt494 => (if bt481.2 = 0 then (if bt488.2 = 0 then (if bt492.2 = 0 then (if bt494.2 = 0 then (abacuslaw04_IeeeScaled.j2 kj18 l0_1 a0_4 t467 (bt492.1 != bt494.1)) else (abacuslaw04_IeeeScaled.j2 kj18 l0_1 a0_4 t467 true)) else (abacuslaw04_IeeeScaled.j2 kj18 l0_1 a0_4 t467 true)) else (abacuslaw04_IeeeScaled.j2 kj18 l0_1 a0_4 t467 true)) else (abacuslaw04_IeeeScaled.j2 kj18 l0_1 a0_4 t467 true)))))) = some r := by first | (rw [hy478]; with_reducible exact H) | (have H2_ := (Option.bind_some _ _).symm.trans H; rw [hy478]; with_reducible exact H2_) | (have H2_ := (Option.bind_some _ _).symm.trans H; with_reducible exact H2_) | with_reducible exact H | (rw [hy478]; exact H) | exact H
        have Ny478 := Aside0.mk hy478
        clear hy478
        replace H := Option.bind_eq_some_iff.mp H
        obtain ⟨⟨t481, t484⟩, A380, H⟩ := H
        replace H : ((nat_Mul.f kj18 l0_3 (([IntKind.u64.wrap ((IntKind.u64.wrap (a0_5)) + 1)] : List Int))).bind fun bt488 => ((ieee_RoundRatio.f kj18 true l0_1 l0_3 a0_4).bind fun bt492 => ((ieee_RoundRatio.f kj18 true t481 bt488.1 a0_4).bind fun bt494 => (if t484 = 0 then (if bt488.2 = 0 then (if bt492.2 = 0 then (if bt494.2 = 0 then (abacuslaw04_IeeeScaled.j2 kj18 l0_1 a0_4 t467 (bt492.1 != bt494.1)) else (abacuslaw04_IeeeScaled.j2 kj18 l0_1 a0_4 t467 true)) else (abacuslaw04_IeeeScaled.j2 kj18 l0_1 a0_4 t467 true)) else (abacuslaw04_IeeeScaled.j2 kj18 l0_1 a0_4 t467 true)) else (abacuslaw04_IeeeScaled.j2 kj18 l0_1 a0_4 t467 true))))) = some r := H
        have A38 := Aside0.mk A380
        clear A380
        obtain ⟨y485, hy485⟩ : ∃ y_ : List Int, y_ = (([IntKind.u64.wrap ((IntKind.u64.wrap (a0_5)) + 1)] : List Int)) := ⟨_, rfl⟩
        replace H : ((nat_Mul.f kj18 l0_3 y485).bind fun bt488 => ((ieee_RoundRatio.f kj18 true l0_1 l0_3 a0_4).bind fun bt492 => ((ieee_RoundRatio.f kj18 true t481 bt488.1 a0_4).bind fun bt494 => (if t484 = 0 then (if bt488.2 = 0 then (if bt492.2 = 0 then (if bt494.2 = 0 then (abacuslaw04_IeeeScaled.j2 kj18 l0_1 a0_4 t467 (bt492.1 != bt494.1)) else (abacuslaw04_IeeeScaled.j2 kj18 l0_1 a0_4 t467 true)) else (abacuslaw04_IeeeScaled.j2 kj18 l0_1 a0_4 t467 true)) else (abacuslaw04_IeeeScaled.j2 kj18 l0_1 a0_4 t467 true)) else (abacuslaw04_IeeeScaled.j2 kj18 l0_1 a0_4 t467 true))))) = some r := by first | (rw [hy485]; with_reducible exact H) | (have H2_ := (Option.bind_some _ _).symm.trans H; rw [hy485]; with_reducible exact H2_) | (have H2_ := (Option.bind_some _ _).symm.trans H; with_reducible exact H2_) | with_reducible exact H | (rw [hy485]; exact H) | exact H
        have Ny485 := Aside0.mk hy485
        clear hy485
        replace H := Option.bind_eq_some_iff.mp H
        obtain ⟨⟨t488, t491⟩, A390, H⟩ := H
        replace H : ((ieee_RoundRatio.f kj18 true l0_1 l0_3 a0_4).bind fun bt492 => ((ieee_RoundRatio.f kj18 true t481 t488 a0_4).bind fun bt494 => (if t484 = 0 then (if t491 = 0 then (if bt492.2 = 0 then (if bt494.2 = 0 then (abacuslaw04_IeeeScaled.j2 kj18 l0_1 a0_4 t467 (bt492.1 != bt494.1)) else (abacuslaw04_IeeeScaled.j2 kj18 l0_1 a0_4 t467 true)) else (abacuslaw04_IeeeScaled.j2 kj18 l0_1 a0_4 t467 true)) else (abacuslaw04_IeeeScaled.j2 kj18 l0_1 a0_4 t467 true)) else (abacuslaw04_IeeeScaled.j2 kj18 l0_1 a0_4 t467 true)))) = some r := H
        have A39 := Aside0.mk A390
        clear A390
        replace H := Option.bind_eq_some_iff.mp H
        obtain ⟨⟨t492, t493⟩, A400, H⟩ := H
        replace H : ((ieee_RoundRatio.f kj18 true t481 t488 a0_4).bind fun bt494 => (if t484 = 0 then (if t491 = 0 then (if t493 = 0 then (if bt494.2 = 0 then (abacuslaw04_IeeeScaled.j2 kj18 l0_1 a0_4 t467 (t492 != bt494.1)) else (abacuslaw04_IeeeScaled.j2 kj18 l0_1 a0_4 t467 true)) else (abacuslaw04_IeeeScaled.j2 kj18 l0_1 a0_4 t467 true)) else (abacuslaw04_IeeeScaled.j2 kj18 l0_1 a0_4 t467 true)) else (abacuslaw04_IeeeScaled.j2 kj18 l0_1 a0_4 t467 true))) = some r := H
        have A40 := Aside0.mk A400
        clear A400
        replace H := Option.bind_eq_some_iff.mp H
        obtain ⟨⟨t494, t495⟩, A410, H⟩ := H
        replace H : (if t484 = 0 then (if t491 = 0 then (if t493 = 0 then (if t495 = 0 then (abacuslaw04_IeeeScaled.j2 kj18 l0_1 a0_4 t467 (t492 != t494)) else (abacuslaw04_IeeeScaled.j2 kj18 l0_1 a0_4 t467 true)) else (abacuslaw04_IeeeScaled.j2 kj18 l0_1 a0_4 t467 true)) else (abacuslaw04_IeeeScaled.j2 kj18 l0_1 a0_4 t467 true)) else (abacuslaw04_IeeeScaled.j2 kj18 l0_1 a0_4 t467 true)) = some r := H
        have A41 := Aside0.mk A410
        clear A410
        have HC42 := Aside0.mk H
        clear H
        have hcz43_0 : wc.cell? ⟨gb460, 0, none⟩ = some (.bool a0_0) := (blk_cell BK460.out 0).trans rfl
        have hcz43_1 : wc.cell? ⟨gb460, 1, none⟩ = some (.slice A0_1 l0_1.length c0_1) := (blk_cell BK460.out 1).trans rfl
        have hcz43_2 : wc.cell? ⟨gb460, 2, none⟩ = some (.slice A0_2 l0_2.length c0_2) := (blk_cell BK460.out 2).trans rfl
        have hcz43_3 : wc.cell? ⟨gb460, 3, none⟩ = some (.slice A0_3 l0_3.length c0_3) := (blk_cell BK460.out 3).trans rfl
        have hcz43_4 : wc.cell? ⟨gb460, 4, none⟩ = some (.int .i64 a0_4) := (blk_cell BK460.out 4).trans rfl
        have hcz43_5 : wc.cell? ⟨gb460, 5, none⟩ = some (.int .u8 a0_5) := (blk_cell BK460.out 5).trans rfl
        have hfz43_0 := blk_frozen BK460.out 0
        have hfz43_1 := blk_frozen BK460.out 1
        have hfz43_2 := blk_frozen BK460.out 2
        have hfz43_3 := blk_frozen BK460.out 3
        have hfz43_4 := blk_frozen BK460.out 4
        have hfz43_5 := blk_frozen BK460.out 5
        go_upto_region 21 with (first | ((with_reducible refine gate_dst (N := 131) rfl ?_); (try (refine gate_guard (by rfl) ?_; dsimp only)); refine Kd.R_lit (Kd.int .u64) _ 28 ?hg (N := 131) ?hd (xs := ([IntKind.u64.wrap ((IntKind.u64.wrap (a0_5)) + 1)] : List Int)) (inner := [.int .u64 (IntKind.u64.wrap ((IntKind.u64.wrap (a0_5)) + 1))]) (ok := fun _ => True) (okp := fun _ => True) ?hr ?hp (fun _ hk => hk) trivial (Below.refl _ _) (Nat.le_refl _) (by simp) ?_; (case hd => rfl); (case hg => rfl); (case hr => first | (go_simp; done) | (go_simp; rfl)); (case hp => exact (Reps.one (show Kd.M (Kd.int .u64) _ _ _ (IntKind.u64.wrap ((IntKind.u64.wrap (a0_5)) + 1)) [.int .u64 (IntKind.u64.wrap ((IntKind.u64.wrap (a0_5)) + 1))] from rfl) (Reps.none _ _))); intro v479 w44 ho45 hb hg_ hnew_; clear hg_ hnew_; (first | rw [← Ny478.out] at ho45 | (simp only [Int.reduceToNat] at ho45; rw [← Ny478.out] at ho45)); have n0_ := Aside0.mk (Kd.R_lower ho45 (below_size (by repeat (first | (with_reducible first | exact HB.out | apply below_alloc | apply pw_below_drewN | apply below_drew1 | refine below_set ?_ GE460.out) | exact HB.out)))); have n1_ := Aside0.mk (blk_below (g := gb460) (o := .cells #[.bool a0_0, .slice A0_1 l0_1.length c0_1, .slice A0_2 l0_2.length c0_2, .slice A0_3 l0_3.length c0_3, .int .i64 a0_4, .int .u8 a0_5] 24 (0, 0)) (by exact bkS BK460.out) hb); have n2_ := Aside0.mk (below_step (by repeat (first | (with_reducible first | exact HB.out | apply below_alloc | apply pw_below_drewN | apply below_drew1 | refine below_set ?_ GE460.out) | exact HB.out)) hb); clear BK460; clear HB; have HO480 := n0_; have BK460 := n1_; have HB := n2_; clear n0_ n1_ n2_; clear hb ho45; obtain ⟨Ao46, co46, eo46⟩ := Kd.R_slice HO480.out; subst eo46) | ((with_reducible refine gate_callee (f := 30) rfl ?_); refine goesL_ (some 132) rfl rfl Tryd.func30 (by kernel_rfl) rfl #[.slice A0_1 l0_1.length c0_1, .slice Ao46 y478.length co46] rfl (by (try simp only [List.map_toArray, List.map_cons, List.map_nil]); first | done | rfl | (simp only [List.length_drop, List.length_take]; rfl) | (simp only [gt_iff_lt, Int.natCast_pos]; done) | (simp only [gt_iff_lt, Int.natCast_pos]; rfl)) ?_; (with_reducible refine (nat_Mul.calls kj18 _ _ l0_1 _ _ y478 t481 t484 _ ?side1 ?side2 ?side3 ?side4 A38.out).mono ?_); (case side1 => exact cS (Kd.C_below HR0_1.out HB.out)); (case side2 => exact HC0_1.out); (case side3 => exact cS (Kd.R_reads' HO480.out).2.2); (case side4 => exact (Kd.R_reads' HO480.out).2.1); rintro e w47 ⟨v482, rfl, ho0, hb⟩; refine ⟨_, rfl, ?_⟩; have n0_ := Aside0.mk (Kd.R_below (rS <| HO480.out) hb); have n1_ := Aside0.mk (Kd.V_lower (Kd.V_mono (ok' := fun k_ => some k_ ≠ (.slice Ao46 y478.length co46 : Value).ownBlock ∧ k_ ≠ gb460) ho0 (fun k_ hk_ => ⟨(Kd.fresh' (Kd.R_lt (rS <| HO480.out)) k_ hk_), (Kd.freshB (g := gb460) (o := .cells #[.bool a0_0, .slice A0_1 l0_1.length c0_1, .slice A0_2 l0_2.length c0_2, .slice A0_3 l0_3.length c0_3, .int .i64 a0_4, .int .u8 a0_5] 24 (0, 0)) (by exact bkS BK460.out) k_ hk_)⟩)) (below_size (by repeat (first | (with_reducible first | exact HB.out | apply below_alloc | apply pw_below_drewN | apply below_drew1 | refine below_set ?_ GE460.out) | exact HB.out)))); have n2_ := Aside0.mk (blk_below (g := gb460) (o := .cells #[.bool a0_0, .slice A0_1 l0_1.length c0_1, .slice A0_2 l0_2.length c0_2, .slice A0_3 l0_3.length c0_3, .int .i64 a0_4, .int .u8 a0_5] 24 (0, 0)) (by exact bkS BK460.out) hb); have n3_ := Aside0.mk (below_step (by repeat (first | (with_reducible first | exact HB.out | apply below_alloc | apply pw_below_drewN | apply below_drew1 | refine below_set ?_ GE460.out) | exact HB.out)) hb); clear HO480; clear BK460; clear HB; have HO480 := n0_; have HO483 := n1_; have BK460 := n2_; have HB := n3_; clear n0_ n1_ n2_ n3_; (try clear hb); (try clear hb2); (try clear hk); (try clear hi); (try clear ho0)) | ((with_reducible refine gate_dst (N := 138) rfl ?_); (try (refine gate_guard (by rfl) ?_; dsimp only)); refine Kd.R_lit (Kd.int .u64) _ 28 ?hg (N := 138) ?hd (xs := ([IntKind.u64.wrap ((IntKind.u64.wrap (a0_5)) + 1)] : List Int)) (inner := [.int .u64 (IntKind.u64.wrap ((IntKind.u64.wrap (a0_5)) + 1))]) (ok := fun _ => True) (okp := fun _ => True) ?hr ?hp (fun _ hk => hk) trivial (Below.refl _ _) (Nat.le_refl _) (by simp) ?_; (case hd => rfl); (case hg => rfl); (case hr => first | (go_simp; done) | (go_simp; rfl)); (case hp => exact (Reps.one (show Kd.M (Kd.int .u64) _ _ _ (IntKind.u64.wrap ((IntKind.u64.wrap (a0_5)) + 1)) [.int .u64 (IntKind.u64.wrap ((IntKind.u64.wrap (a0_5)) + 1))] from rfl) (Reps.none _ _))); intro v486 w48 ho49 hb hg_ hnew_; clear hg_ hnew_; (first | rw [← Ny485.out] at ho49 | (simp only [Int.reduceToNat] at ho49; rw [← Ny485.out] at ho49)); have n0_ := Aside0.mk (Kd.R_elder' (rS <| HO480.out) (Kd.R_base ho49) hb); have n1_ := Aside0.mk (Kd.V_elder' (vS <| HO483.out) (Kd.R_base ho49) hb); have n2_ := Aside0.mk (Kd.R_lower (Kd.R_new' ho49 (Kd.R_lt (rS <| HO480.out))) (below_size (by repeat (first | (with_reducible first | exact HB.out | apply below_alloc | apply pw_below_drewN | apply below_drew1 | refine below_set ?_ GE460.out) | exact HB.out)))); have n3_ := Aside0.mk (blk_below (g := gb460) (o := .cells #[.bool a0_0, .slice A0_1 l0_1.length c0_1, .slice A0_2 l0_2.length c0_2, .slice A0_3 l0_3.length c0_3, .int .i64 a0_4, .int .u8 a0_5] 24 (0, 0)) (by exact bkS BK460.out) hb); have n4_ := Aside0.mk (below_step (by repeat (first | (with_reducible first | exact HB.out | apply below_alloc | apply pw_below_drewN | apply below_drew1 | refine below_set ?_ GE460.out) | exact HB.out)) hb); clear HO480; clear HO483; clear BK460; clear HB; have HO480 := n0_; have HO483 := n1_; have HO487 := n2_; have BK460 := n3_; have HB := n4_; clear n0_ n1_ n2_ n3_ n4_; clear hb ho49; obtain ⟨Ao50, co50, eo50⟩ := Kd.R_slice HO487.out; subst eo50) | ((with_reducible refine gate_callee (f := 30) rfl ?_); refine goesL_ (some 139) rfl rfl Tryd.func30 (by kernel_rfl) rfl #[.slice A0_3 l0_3.length c0_3, .slice Ao50 y485.length co50] rfl (by (try simp only [List.map_toArray, List.map_cons, List.map_nil]); first | done | rfl | (simp only [List.length_drop, List.length_take]; rfl) | (simp only [gt_iff_lt, Int.natCast_pos]; done) | (simp only [gt_iff_lt, Int.natCast_pos]; rfl)) ?_; (with_reducible refine (nat_Mul.calls kj18 _ _ l0_3 _ _ y485 t488 t491 _ ?side1 ?side2 ?side3 ?side4 A39.out).mono ?_); (case side1 => exact cS (Kd.C_below HR0_3.out HB.out)); (case side2 => exact HC0_3.out); (case side3 => exact cS (Kd.R_reads' HO487.out).2.2); (case side4 => exact (Kd.R_reads' HO487.out).2.1); rintro e w51 ⟨v489, rfl, ho0, hb⟩; refine ⟨_, rfl, ?_⟩; have n0_ := Aside0.mk (Kd.R_below (rS <| HO480.out) hb); have n1_ := Aside0.mk (Kd.V_below (vS <| HO483.out) hb); have n2_ := Aside0.mk (Kd.R_below (rS <| HO487.out) hb); have n3_ := Aside0.mk (Kd.V_lower (Kd.V_mono (ok' := fun k_ => some k_ ≠ (.slice Ao46 y478.length co46 : Value).ownBlock ∧ some k_ ≠ (.slice Ao50 y485.length co50 : Value).ownBlock ∧ k_ ≠ gb460) ho0 (fun k_ hk_ => ⟨(Kd.fresh' (Kd.R_lt (rS <| HO480.out)) k_ hk_), (Kd.fresh' (Kd.R_lt (rS <| HO487.out)) k_ hk_), (Kd.freshB (g := gb460) (o := .cells #[.bool a0_0, .slice A0_1 l0_1.length c0_1, .slice A0_2 l0_2.length c0_2, .slice A0_3 l0_3.length c0_3, .int .i64 a0_4, .int .u8 a0_5] 24 (0, 0)) (by exact bkS BK460.out) k_ hk_)⟩)) (below_size (by repeat (first | (with_reducible first | exact HB.out | apply below_alloc | apply pw_below_drewN | apply below_drew1 | refine below_set ?_ GE460.out) | exact HB.out)))); have n4_ := Aside0.mk (blk_below (g := gb460) (o := .cells #[.bool a0_0, .slice A0_1 l0_1.length c0_1, .slice A0_2 l0_2.length c0_2, .slice A0_3 l0_3.length c0_3, .int .i64 a0_4, .int .u8 a0_5] 24 (0, 0)) (by exact bkS BK460.out) hb); have n5_ := Aside0.mk (below_step (by repeat (first | (with_reducible first | exact HB.out | apply below_alloc | apply pw_below_drewN | apply below_drew1 | refine below_set ?_ GE460.out) | exact HB.out)) hb); clear HO480; clear HO483; clear HO487; clear BK460; clear HB; have HO480 := n0_; have HO483 := n1_; have HO487 := n2_; have HO490 := n3_; have BK460 := n4_; have HB := n5_; clear n0_ n1_ n2_ n3_ n4_ n5_; (try clear hb); (try clear hb2); (try clear hk); (try clear hi); (try clear ho0)) | ((with_reducible refine gate_callee (f := 16) rfl ?_); refine goesL_ (some 146) rfl rfl Tryd.func16 (by kernel_rfl) rfl #[.bool true, .slice A0_1 l0_1.length c0_1, .slice A0_3 l0_3.length c0_3, .int .i64 a0_4] rfl (by (try simp only [List.map_toArray, List.map_cons, List.map_nil]); first | done | rfl | (simp only [List.length_drop, List.length_take]; rfl) | (simp only [gt_iff_lt, Int.natCast_pos]; done) | (simp only [gt_iff_lt, Int.natCast_pos]; rfl)) ?_; (with_reducible refine (ieee_RoundRatio.calls kj18 true _ _ l0_1 _ _ l0_3 a0_4 t492 t493 _ ?side5 ?side1 ?side2 ?side3 ?side4 A40.out).mono ?_); (case side1 => exact cS (Kd.C_below HR0_1.out HB.out)); (case side2 => exact HC0_1.out); (case side3 => exact cS (Kd.C_below HR0_3.out HB.out)); (case side4 => exact HC0_3.out); (case side5 => exact cS (Kd.C_below HT.out HB.out)); rintro e w52 ⟨rfl, hb⟩; refine ⟨_, rfl, ?_⟩; have n0_ := Aside0.mk (Kd.R_below (rS <| HO480.out) hb); have n1_ := Aside0.mk (Kd.V_below (vS <| HO483.out) hb); have n2_ := Aside0.mk (Kd.R_below (rS <| HO487.out) hb); have n3_ := Aside0.mk (Kd.V_below (vS <| HO490.out) hb); have n4_ := Aside0.mk (blk_below (g := gb460) (o := .cells #[.bool a0_0, .slice A0_1 l0_1.length c0_1, .slice A0_2 l0_2.length c0_2, .slice A0_3 l0_3.length c0_3, .int .i64 a0_4, .int .u8 a0_5] 24 (0, 0)) (by exact bkS BK460.out) hb); have n5_ := Aside0.mk (below_step (by repeat (first | (with_reducible first | exact HB.out | apply below_alloc | apply pw_below_drewN | apply below_drew1 | refine below_set ?_ GE460.out) | exact HB.out)) hb); clear HO480; clear HO483; clear HO487; clear HO490; clear BK460; clear HB; have HO480 := n0_; have HO483 := n1_; have HO487 := n2_; have HO490 := n3_; have BK460 := n4_; have HB := n5_; clear n0_ n1_ n2_ n3_ n4_ n5_; (try clear hb); (try clear hb2); (try clear hk); (try clear hi); obtain ⟨Ao53, co53, eo53⟩ := Kd.V_slice HO483.out; subst eo53; obtain ⟨Ao54, co54, eo54⟩ := Kd.V_slice HO490.out; subst eo54) | ((with_reducible refine gate_callee (f := 16) rfl ?_); refine goesL_ (some 153) rfl rfl Tryd.func16 (by kernel_rfl) rfl #[.bool true, .slice Ao53 t481.length co53, .slice Ao54 t488.length co54, .int .i64 a0_4] rfl (by (try simp only [List.map_toArray, List.map_cons, List.map_nil]); first | done | rfl | (simp only [List.length_drop, List.length_take]; rfl) | (simp only [gt_iff_lt, Int.natCast_pos]; done) | (simp only [gt_iff_lt, Int.natCast_pos]; rfl)) ?_; (with_reducible refine (ieee_RoundRatio.calls kj18 true _ _ t481 _ _ t488 a0_4 t494 t495 _ ?side5 ?side1 ?side2 ?side3 ?side4 A41.out).mono ?_); (case side1 => exact cS (Kd.V_reads' HO483.out).2.2); (case side2 => exact (Kd.V_reads' HO483.out).2.1); (case side3 => exact cS (Kd.V_reads' HO490.out).2.2); (case side4 => exact (Kd.V_reads' HO490.out).2.1); (case side5 => exact cS (Kd.C_below HT.out HB.out)); rintro e w55 ⟨rfl, hb⟩; refine ⟨_, rfl, ?_⟩; have n0_ := Aside0.mk (Kd.R_below (rS <| HO480.out) hb); have n1_ := Aside0.mk (Kd.V_below (vS <| HO483.out) hb); have n2_ := Aside0.mk (Kd.R_below (rS <| HO487.out) hb); have n3_ := Aside0.mk (Kd.V_below (vS <| HO490.out) hb); have n4_ := Aside0.mk (blk_below (g := gb460) (o := .cells #[.bool a0_0, .slice A0_1 l0_1.length c0_1, .slice A0_2 l0_2.length c0_2, .slice A0_3 l0_3.length c0_3, .int .i64 a0_4, .int .u8 a0_5] 24 (0, 0)) (by exact bkS BK460.out) hb); have n5_ := Aside0.mk (below_step (by repeat (first | (with_reducible first | exact HB.out | apply below_alloc | apply pw_below_drewN | apply below_drew1 | refine below_set ?_ GE460.out) | exact HB.out)) hb); clear HO480; clear HO483; clear HO487; clear HO490; clear BK460; clear HB; have HO480 := n0_; have HO483 := n1_; have HO487 := n2_; have HO490 := n3_; have BK460 := n4_; have HB := n5_; clear n0_ n1_ n2_ n3_ n4_ n5_; (try clear hb); (try clear hb2); (try clear hk); (try clear hi)))
        (try simp only [Act.put, List.setIfInBounds_toArray, List.set_cons_zero, List.set_cons_succ])
        go_cut [174] (fun v174 wc => ∃ (kq : Nat) (x174_41 : Bool), v174 = .bool x174_41 ∧ Aside0 (abacuslaw04_IeeeScaled.j2 kq l0_1 a0_4 t467 x174_41 = some r) ∧ Aside0 (kq ≤ kj18) ∧ Aside0 (wc.heap[gb460]? = some (.cells #[.bool a0_0, (.slice A0_1 l0_1.length c0_1), (.slice A0_2 l0_2.length c0_2), (.slice A0_3 l0_3.length c0_3), .int .i64 a0_4, .int .u8 a0_5] 24 (0, 0))) ∧ Aside0 (Below w.heap.size w wc))
        case first =>
         have H := HC42.out
         clear HC42
         by_cases c56 : t484 = 0
         ·rw [if_pos c56] at H
          have c56b0 : (t484 == 0) = true := beq_iff_eq.mpr c56
          have c56b1 : (t484 != 0) = false := bne_eq_false_iff_eq.mpr c56
          clear c56
          (first | rw [c56b0] | (simp only [i64_w, i32_w]; rw [c56b0]) | rw [c56b1] | skip)
          by_cases c57 : t491 = 0
          ·rw [if_pos c57] at H
           have c57b0 : (t491 == 0) = true := beq_iff_eq.mpr c57
           have c57b1 : (t491 != 0) = false := bne_eq_false_iff_eq.mpr c57
           clear c57
           by_cases c58 : t493 = 0
           ·rw [if_pos c58] at H
            have c58b0 : (t493 == 0) = true := beq_iff_eq.mpr c58
            have c58b1 : (t493 != 0) = false := bne_eq_false_iff_eq.mpr c58
            clear c58
            by_cases c59 : t495 = 0
            ·rw [if_pos c59] at H
             have c59b0 : (t495 == 0) = true := beq_iff_eq.mpr c59
             have c59b1 : (t495 != 0) = false := bne_eq_false_iff_eq.mpr c59
             clear c59
             as_aux_lemma =>
              have H' := Aside0.mk H
              clear H
              go_wp2
              go_meet
              case rel => exact ⟨_, ((t492 != t494)), (by first | rfl | (simp; done) | (simp [*]; done)), H', ⟨by have := HJ3.out; have := HJ18.out; first | omega | exact Nat.le_refl _⟩, ⟨by exact bkS BK460.out⟩, ⟨by repeat (first | (with_reducible first | exact HB.out | apply below_alloc | apply pw_below_drewN | apply below_drew1 | refine below_set ?_ GE460.out) | exact HB.out)⟩⟩
            ·rw [if_neg c59] at H
             have c59b0 : (t495 == 0) = false := beq_eq_false_iff_ne.mpr c59
             have c59b1 : (t495 != 0) = true := bne_iff_ne.mpr c59
             as_aux_lemma =>
              have H' := Aside0.mk H
              clear H
              go_wp2
              go_meet
              case rel => exact ⟨_, (true), (by first | rfl | (simp; done) | (simp [*]; done)), H', ⟨by have := HJ3.out; have := HJ18.out; first | omega | exact Nat.le_refl _⟩, ⟨by exact bkS BK460.out⟩, ⟨by repeat (first | (with_reducible first | exact HB.out | apply below_alloc | apply pw_below_drewN | apply below_drew1 | refine below_set ?_ GE460.out) | exact HB.out)⟩⟩
           ·rw [if_neg c58] at H
            have c58b0 : (t493 == 0) = false := beq_eq_false_iff_ne.mpr c58
            have c58b1 : (t493 != 0) = true := bne_iff_ne.mpr c58
            as_aux_lemma =>
             have H' := Aside0.mk H
             clear H
             go_wp2
             go_meet
             case rel => exact ⟨_, (true), (by first | rfl | (simp; done) | (simp [*]; done)), H', ⟨by have := HJ3.out; have := HJ18.out; first | omega | exact Nat.le_refl _⟩, ⟨by exact bkS BK460.out⟩, ⟨by repeat (first | (with_reducible first | exact HB.out | apply below_alloc | apply pw_below_drewN | apply below_drew1 | refine below_set ?_ GE460.out) | exact HB.out)⟩⟩
          ·rw [if_neg c57] at H
           have c57b0 : (t491 == 0) = false := beq_eq_false_iff_ne.mpr c57
           have c57b1 : (t491 != 0) = true := bne_iff_ne.mpr c57
           as_aux_lemma =>
            have H' := Aside0.mk H
            clear H
            go_wp2
            go_meet
            case rel => exact ⟨_, (true), (by first | rfl | (simp; done) | (simp [*]; done)), H', ⟨by have := HJ3.out; have := HJ18.out; first | omega | exact Nat.le_refl _⟩, ⟨by exact bkS BK460.out⟩, ⟨by repeat (first | (with_reducible first | exact HB.out | apply below_alloc | apply pw_below_drewN | apply below_drew1 | refine below_set ?_ GE460.out) | exact HB.out)⟩⟩
         ·rw [if_neg c56] at H
          have c56b0 : (t484 == 0) = false := beq_eq_false_iff_ne.mpr c56
          have c56b1 : (t484 != 0) = true := bne_iff_ne.mpr c56
          (first | rw [c56b0] | (simp only [i64_w, i32_w]; rw [c56b0]) | rw [c56b1] | skip)
          as_aux_lemma =>
           have H' := Aside0.mk H
           clear H
           go_wp2
           go_meet
           case rel => exact ⟨_, (true), (by first | rfl | (simp; done) | (simp [*]; done)), H', ⟨by have := HJ3.out; have := HJ18.out; first | omega | exact Nat.le_refl _⟩, ⟨by exact bkS BK460.out⟩, ⟨by repeat (first | (with_reducible first | exact HB.out | apply below_alloc | apply pw_below_drewN | apply below_drew1 | refine below_set ?_ GE460.out) | exact HB.out)⟩⟩
        case rest =>
         clear HC42
         try clear c1
         try clear c2
         try clear p2
         try clear c3
         try clear c5
         try clear p6
         try clear c8
         try clear c8b0
         try clear c8b1
         try clear c9
         try clear c9b0
         try clear c9b1
         try clear c10
         try clear c10b0
         try clear c11
         try clear c11b0
         try clear c12
         try clear c13
         try clear c15
         try clear c16
         try clear c29
         try clear c30
         try clear c30b0
         try clear c30b1
         try clear c31
         try clear c31b0
         try clear c31b1
         try clear c32
         try clear c32b0
         try clear c32b1
         try clear c33
         try clear c33b0
         try clear c33b1
         try clear c34
         try clear c34b0
         try clear c34b1
         try clear c35
         try clear c35b0
         try clear c35b1
         try clear c36
         try clear c36b0
         try clear c36b1
         try clear c37
         try clear c56
         try clear c56b0
         try clear c56b1
         try clear c57
         try clear c57b0
         try clear c57b1
         try clear c58
         try clear c58b0
         try clear c58b1
         try clear c59
         try clear c59b0
         try clear c59b1
         try clear hcz20_0
         try clear hcz20_1
         try clear hcz20_2
         try clear hcz20_3
         try clear hcz20_4
         try clear hcz20_5
         try clear hcz43_0
         try clear hcz43_1
         try clear hcz43_2
         try clear hcz43_3
         try clear hcz43_4
         try clear hcz43_5
         try clear hcz7_0
         try clear hcz7_1
         try clear hcz7_2
         try clear hcz7_3
         try clear hcz7_4
         try clear hcz7_5
         try clear hfz20_0
         try clear hfz20_1
         try clear hfz20_2
         try clear hfz20_3
         try clear hfz20_4
         try clear hfz20_5
         try clear hfz43_0
         try clear hfz43_1
         try clear hfz43_2
         try clear hfz43_3
         try clear hfz43_4
         try clear hfz43_5
         try clear hfz7_0
         try clear hfz7_1
         try clear hfz7_2
         try clear hfz7_3
         try clear hfz7_4
         try clear hfz7_5
         try clear p2
         try clear p6
         obtain ⟨kq, x174_41, rfl, HA, HJ41, BK460, HB⟩ := hcut
         cases kq with
         | zero => exact absurd HA.out (by simp [abacuslaw04_IeeeScaled.j2])
         | succ kj41 =>
          have H := HA.out
          clear HA
          simp only [abacuslaw04_IeeeScaled.j2] at H
          by_cases c60 : x174_41 = true
          ·subst c60
           have H1 : (some false) = some r := by rw [if_pos rfl] at H; exact H
           clear H
           have H := H1
           clear H1
           as_aux_lemma =>
            obtain rfl := Option.some.inj H
            go_wp2
            go_ret
            exact ⟨by first | rfl | (simp [errW_none, errW_some] <;> rfl) | (simp [*, errW_none, errW_some] <;> rfl), by repeat (first | (with_reducible first | exact HB.out | apply below_alloc | apply pw_below_drewN | apply below_drew1 | refine below_set ?_ GE460.out) | exact HB.out)⟩
          ·replace c60 := Bool.eq_false_iff.mpr c60
           subst c60
           have H1 : ((nat_BitLen.f kj41 l0_1).bind fun t496 => (if t496 = 0 then (some (t467 == 0)) else ((nat_Shl.f kj41 l0_1 64).bind fun bt497 => ((nat_MulAdd.f kj41 bt497.1 1 1).bind fun bt501 => ((ieee_Round.f kj41 false l0_1 a0_4 true).bind fun bt505 => ((ieee_Round.f kj41 false bt501.1 (wrap64 (a0_4 - 64)) false).bind fun bt507 => (if bt497.2 = 0 then (if bt501.2 = 0 then (if bt505.2 = 0 then (if bt507.2 = 0 then (if bt505.1 = bt507.1 then (if bt505.1 = t467 then (some true) else (some (bt505.1 == (IntKind.u64.wrap (t467 + 1))))) else (some false)) else (some false)) else (some false)) else (some false)) else (some false)))))))) = some r := by rw [if_neg (show ¬ (false = true) by decide)] at H; exact H
           clear H
           have H := H1
           clear H1
           replace H := Option.bind_eq_some_iff.mp H
           obtain ⟨t496, A610, H⟩ := H
           replace H : (if t496 = 0 then (some (t467 == 0)) else ((nat_Shl.f kj41 l0_1 64).bind fun bt497 => ((nat_MulAdd.f kj41 bt497.1 1 1).bind fun bt501 => ((ieee_Round.f kj41 false l0_1 a0_4 true).bind fun bt505 => ((ieee_Round.f kj41 false bt501.1 (wrap64 (a0_4 - 64)) false).bind fun bt507 => (if bt497.2 = 0 then (if bt501.2 = 0 then (if bt505.2 = 0 then (if bt507.2 = 0 then (if bt505.1 = bt507.1 then (if bt505.1 = t467 then (some true) else (some (bt505.1 == (IntKind.u64.wrap (t467 + 1))))) else (some false)) else (some false)) else (some false)) else (some false)) else (some false))))))) = some r := H
           have A61 := Aside0.mk A610
           clear A610
           by_cases c62 : t496 = 0
           ·rw [if_pos c62] at H
            have c62b0 : (t496 == 0) = true := beq_iff_eq.mpr c62
            have c62b1 : (t496 != 0) = false := bne_eq_false_iff_eq.mpr c62
            clear c62
            as_aux_lemma =>
             obtain rfl := Option.some.inj H
             go_wp2_with (first | ((with_reducible refine gate_callee (f := 13) rfl ?_); refine goesL_ (some 176) rfl rfl Tryd.func13 (by kernel_rfl) rfl #[.slice A0_1 l0_1.length c0_1] rfl (by (try simp only [List.map_toArray, List.map_cons, List.map_nil]); first | done | rfl | (simp only [List.length_drop, List.length_take]; rfl) | (simp only [gt_iff_lt, Int.natCast_pos]; done) | (simp only [gt_iff_lt, Int.natCast_pos]; rfl)) ?_; (with_reducible refine (nat_BitLen.calls kj41 _ _ l0_1 t496 _ ?side1 ?side2 A61.out).mono ?_); (case side1 => exact cS (Kd.C_below HR0_1.out HB.out)); (case side2 => exact HC0_1.out); rintro e w' ⟨rfl, ⟨nd, rfl⟩⟩; refine ⟨_, rfl, ?_⟩))
             go_ret
             exact ⟨by first | rfl | (simp [errW_none, errW_some] <;> rfl) | (simp [*, errW_none, errW_some] <;> rfl), by repeat (first | (with_reducible first | exact HB.out | apply below_alloc | apply pw_below_drewN | apply below_drew1 | refine below_set ?_ GE460.out) | exact HB.out)⟩
           ·rw [if_neg c62] at H
            have c62b0 : (t496 == 0) = false := beq_eq_false_iff_ne.mpr c62
            have c62b1 : (t496 != 0) = true := bne_iff_ne.mpr c62
            replace H := Option.bind_eq_some_iff.mp H
            obtain ⟨⟨t497, t500⟩, A630, H⟩ := H
            replace H : ((nat_MulAdd.f kj41 t497 1 1).bind fun bt501 => ((ieee_Round.f kj41 false l0_1 a0_4 true).bind fun bt505 => ((ieee_Round.f kj41 false bt501.1 (wrap64 (a0_4 - 64)) false).bind fun bt507 => (if t500 = 0 then (if bt501.2 = 0 then (if bt505.2 = 0 then (if bt507.2 = 0 then (if bt505.1 = bt507.1 then (if bt505.1 = t467 then (some true) else (some (bt505.1 == (IntKind.u64.wrap (t467 + 1))))) else (some false)) else (some false)) else (some false)) else (some false)) else (some false))))) = some r := H
            have A63 := Aside0.mk A630
            clear A630
            replace H := Option.bind_eq_some_iff.mp H
            obtain ⟨⟨t501, t504⟩, A640, H⟩ := H
            replace H : ((ieee_Round.f kj41 false l0_1 a0_4 true).bind fun bt505 => ((ieee_Round.f kj41 false t501 (wrap64 (a0_4 - 64)) false).bind fun bt507 => (if t500 = 0 then (if t504 = 0 then (if bt505.2 = 0 then (if bt507.2 = 0 then (if bt505.1 = bt507.1 then (if bt505.1 = t467 then (some true) else (some (bt505.1 == (IntKind.u64.wrap (t467 + 1))))) else (some false)) else (some false)) else (some false)) else (some false)) else (some false)))) = some r := H
            have A64 := Aside0.mk A640
            clear A640
            replace H := Option.bind_eq_some_iff.mp H
            obtain ⟨⟨t505, t506⟩, A650, H⟩ := H
            replace H : ((ieee_Round.f kj41 false t501 (wrap64 (a0_4 - 64)) false).bind fun bt507 => (if t500 = 0 then (if t504 = 0 then (if t506 = 0 then (if bt507.2 = 0 then (if t505 = bt507.1 then (if t505 = t467 then (some true) else (some (t505 == (IntKind.u64.wrap (t467 + 1))))) else (some false)) else (some false)) else (some false)) else (some false)) else (some false))) = some r := H
            have A65 := Aside0.mk A650
            clear A650
            replace H := Option.bind_eq_some_iff.mp H
            obtain ⟨⟨t507, t508⟩, A660, H⟩ := H
            replace H : (if t500 = 0 then (if t504 = 0 then (if t506 = 0 then (if t508 = 0 then (if t505 = t507 then (if t505 = t467 then (some true) else (some (t505 == (IntKind.u64.wrap (t467 + 1))))) else (some false)) else (some false)) else (some false)) else (some false)) else (some false)) = some r := H
            have A66 := Aside0.mk A660
            clear A660
            by_cases c67 : t500 = 0
            ·rw [if_pos c67] at H
             have c67b0 : (t500 == 0) = true := beq_iff_eq.mpr c67
             have c67b1 : (t500 != 0) = false := bne_eq_false_iff_eq.mpr c67
             clear c67
             by_cases c68 : t504 = 0
             ·rw [if_pos c68] at H
              have c68b0 : (t504 == 0) = true := beq_iff_eq.mpr c68
              have c68b1 : (t504 != 0) = false := bne_eq_false_iff_eq.mpr c68
              clear c68
              by_cases c69 : t506 = 0
              ·rw [if_pos c69] at H
               have c69b0 : (t506 == 0) = true := beq_iff_eq.mpr c69
               have c69b1 : (t506 != 0) = false := bne_eq_false_iff_eq.mpr c69
               clear c69
               by_cases c70 : t508 = 0
               ·rw [if_pos c70] at H
                have c70b0 : (t508 == 0) = true := beq_iff_eq.mpr c70
                have c70b1 : (t508 != 0) = false := bne_eq_false_iff_eq.mpr c70
                clear c70
                by_cases c71 : t505 = t507
                ·rw [if_pos c71] at H
                 have c71b0 : (t505 == t507) = true := beq_iff_eq.mpr c71
                 have c71b1 : (t505 != t507) = false := bne_eq_false_iff_eq.mpr c71
                 clear c71
                 by_cases c72 : t505 = t467
                 ·rw [if_pos c72] at H
                  have c72b0 : (t505 == t467) = true := beq_iff_eq.mpr c72
                  have c72b1 : (t505 != t467) = false := bne_eq_false_iff_eq.mpr c72
                  clear c72
                  as_aux_lemma =>
                   obtain rfl := Option.some.inj H
                   go_wp2_with (first | ((with_reducible refine gate_callee (f := 13) rfl ?_); refine goesL_ (some 176) rfl rfl Tryd.func13 (by kernel_rfl) rfl #[.slice A0_1 l0_1.length c0_1] rfl (by (try simp only [List.map_toArray, List.map_cons, List.map_nil]); first | done | rfl | (simp only [List.length_drop, List.length_take]; rfl) | (simp only [gt_iff_lt, Int.natCast_pos]; done) | (simp only [gt_iff_lt, Int.natCast_pos]; rfl)) ?_; (with_reducible refine (nat_BitLen.calls kj41 _ _ l0_1 t496 _ ?side1 ?side2 A61.out).mono ?_); (case side1 => exact cS (Kd.C_below HR0_1.out HB.out)); (case side2 => exact HC0_1.out); rintro e w' ⟨rfl, ⟨nd, rfl⟩⟩; refine ⟨_, rfl, ?_⟩) | ((with_reducible refine gate_callee (f := 29) rfl ?_); refine goesL_ (some 182) rfl rfl Tryd.func29 (by kernel_rfl) rfl #[.slice A0_1 l0_1.length c0_1, .int .i64 64] rfl (by (try simp only [List.map_toArray, List.map_cons, List.map_nil]); first | done | rfl | (simp only [List.length_drop, List.length_take]; rfl) | (simp only [gt_iff_lt, Int.natCast_pos]; done) | (simp only [gt_iff_lt, Int.natCast_pos]; rfl)) ?_; (with_reducible refine (nat_Shl.calls kj41 _ _ l0_1 64 t497 t500 _ ?side1 ?side2 A63.out).mono ?_); (case side1 => repeat (first | exact (Kd.C_below HR0_1.out (by repeat (first | (with_reducible first | exact HB.out | apply below_alloc | apply pw_below_drewN | apply below_drew1 | refine below_set ?_ GE460.out) | exact HB.out))) | (with_reducible refine Kd.C_alloc ?_ _) | (with_reducible refine Kd.C_drewN ?_ _) | (with_reducible refine Kd.C_drew ?_))); (case side2 => exact HC0_1.out); rintro e w73 ⟨v498, rfl, ho0, hb⟩; refine ⟨_, rfl, ?_⟩; have n0_ := Aside0.mk (Kd.V_lower (Kd.V_mono (ok' := fun k_ => k_ ≠ gb460) ho0 (fun k_ hk_ => (Kd.freshB (g := gb460) (o := .cells #[.bool a0_0, .slice A0_1 l0_1.length c0_1, .slice A0_2 l0_2.length c0_2, .slice A0_3 l0_3.length c0_3, .int .i64 a0_4, .int .u8 a0_5] 24 (0, 0)) (by exact bkS BK460.out) k_ hk_))) (below_size (by repeat (first | (with_reducible first | exact HB.out | apply below_alloc | apply pw_below_drewN | apply below_drew1 | refine below_set ?_ GE460.out) | exact HB.out)))); have n1_ := Aside0.mk (blk_below (g := gb460) (o := .cells #[.bool a0_0, .slice A0_1 l0_1.length c0_1, .slice A0_2 l0_2.length c0_2, .slice A0_3 l0_3.length c0_3, .int .i64 a0_4, .int .u8 a0_5] 24 (0, 0)) (by exact bkS BK460.out) hb); have n2_ := Aside0.mk (below_step (by repeat (first | (with_reducible first | exact HB.out | apply below_alloc | apply pw_below_drewN | apply below_drew1 | refine below_set ?_ GE460.out) | exact HB.out)) hb); clear BK460; clear HB; have HO499 := n0_; have BK460 := n1_; have HB := n2_; clear n0_ n1_ n2_; (try clear hb); (try clear hb2); (try clear hk); (try clear hi); (try clear ho0); obtain ⟨Ao74, co74, eo74⟩ := Kd.V_slice HO499.out; subst eo74) | ((with_reducible refine gate_callee (f := 31) rfl ?_); refine goesL_ (some 187) rfl rfl Tryd.func31 (by kernel_rfl) rfl #[.slice Ao74 t497.length co74, .int .u64 1, .int .u64 1] rfl (by (try simp only [List.map_toArray, List.map_cons, List.map_nil]); first | done | rfl | (simp only [List.length_drop, List.length_take]; rfl) | (simp only [gt_iff_lt, Int.natCast_pos]; done) | (simp only [gt_iff_lt, Int.natCast_pos]; rfl)) ?_; (with_reducible refine (nat_MulAdd.calls kj41 _ _ t497 1 1 t501 t504 _ ?side1 ?side2 A64.out).mono ?_); (case side1 => exact cS (Kd.V_reads' HO499.out).2.2); (case side2 => exact (Kd.V_reads' HO499.out).2.1); rintro e w75 ⟨v502, rfl, ho0, hb⟩; refine ⟨_, rfl, ?_⟩; have n0_ := Aside0.mk (Kd.V_below (vS <| HO499.out) hb); have n1_ := Aside0.mk (Kd.V_lower (Kd.V_mono (ok' := fun k_ => k_ ≠ gb460) ho0 (fun k_ hk_ => (Kd.freshB (g := gb460) (o := .cells #[.bool a0_0, .slice A0_1 l0_1.length c0_1, .slice A0_2 l0_2.length c0_2, .slice A0_3 l0_3.length c0_3, .int .i64 a0_4, .int .u8 a0_5] 24 (0, 0)) (by exact bkS BK460.out) k_ hk_))) (below_size (by repeat (first | (with_reducible first | exact HB.out | apply below_alloc | apply pw_below_drewN | apply below_drew1 | refine below_set ?_ GE460.out) | exact HB.out)))); have n2_ := Aside0.mk (blk_below (g := gb460) (o := .cells #[.bool a0_0, .slice A0_1 l0_1.length c0_1, .slice A0_2 l0_2.length c0_2, .slice A0_3 l0_3.length c0_3, .int .i64 a0_4, .int .u8 a0_5] 24 (0, 0)) (by exact bkS BK460.out) hb); have n3_ := Aside0.mk (below_step (by repeat (first | (with_reducible first | exact HB.out | apply below_alloc | apply pw_below_drewN | apply below_drew1 | refine below_set ?_ GE460.out) | exact HB.out)) hb); clear HO499; clear BK460; clear HB; have HO499 := n0_; have HO503 := n1_; have BK460 := n2_; have HB := n3_; clear n0_ n1_ n2_ n3_; (try clear hb); (try clear hb2); (try clear hk); (try clear hi); (try clear ho0)) | ((with_reducible refine gate_callee (f := 15) rfl ?_); refine goesL_ (some 193) rfl rfl Tryd.func15 (by kernel_rfl) rfl #[.bool false, .slice A0_1 l0_1.length c0_1, .int .i64 a0_4, .bool true] rfl (by (try simp only [List.map_toArray, List.map_cons, List.map_nil]); first | done | rfl | (simp only [List.length_drop, List.length_take]; rfl) | (simp only [gt_iff_lt, Int.natCast_pos]; done) | (simp only [gt_iff_lt, Int.natCast_pos]; rfl)) ?_; (with_reducible refine (ieee_Round.calls kj41 false _ _ l0_1 a0_4 true t505 t506 _ ?side3 ?side1 ?side2 A65.out).mono ?_); (case side1 => exact cS (Kd.C_below HR0_1.out HB.out)); (case side2 => exact HC0_1.out); (case side3 => exact cS (Kd.C_below HT.out HB.out)); rintro e w76 ⟨rfl, hb⟩; refine ⟨_, rfl, ?_⟩; have n0_ := Aside0.mk (Kd.V_below (vS <| HO499.out) hb); have n1_ := Aside0.mk (Kd.V_below (vS <| HO503.out) hb); have n2_ := Aside0.mk (blk_below (g := gb460) (o := .cells #[.bool a0_0, .slice A0_1 l0_1.length c0_1, .slice A0_2 l0_2.length c0_2, .slice A0_3 l0_3.length c0_3, .int .i64 a0_4, .int .u8 a0_5] 24 (0, 0)) (by exact bkS BK460.out) hb); have n3_ := Aside0.mk (below_step (by repeat (first | (with_reducible first | exact HB.out | apply below_alloc | apply pw_below_drewN | apply below_drew1 | refine below_set ?_ GE460.out) | exact HB.out)) hb); clear HO499; clear HO503; clear BK460; clear HB; have HO499 := n0_; have HO503 := n1_; have BK460 := n2_; have HB := n3_; clear n0_ n1_ n2_ n3_; (try clear hb); (try clear hb2); (try clear hk); (try clear hi); obtain ⟨Ao77, co77, eo77⟩ := Kd.V_slice HO503.out; subst eo77) | ((with_reducible refine gate_callee (f := 15) rfl ?_); refine goesL_ (some 200) rfl rfl Tryd.func15 (by kernel_rfl) rfl #[.bool false, .slice Ao77 t501.length co77, .int .i64 (wrap64 (a0_4 - 64)), .bool false] rfl (by (try simp only [List.map_toArray, List.map_cons, List.map_nil]); first | done | rfl | (simp only [List.length_drop, List.length_take]; rfl) | (simp only [gt_iff_lt, Int.natCast_pos]; done) | (simp only [gt_iff_lt, Int.natCast_pos]; rfl)) ?_; (with_reducible refine (ieee_Round.calls kj41 false _ _ t501 (wrap64 (a0_4 - 64)) false t507 t508 _ ?side3 ?side1 ?side2 A66.out).mono ?_); (case side1 => exact cS (Kd.V_reads' HO503.out).2.2); (case side2 => exact (Kd.V_reads' HO503.out).2.1); (case side3 => exact cS (Kd.C_below HT.out HB.out)); rintro e w78 ⟨rfl, hb⟩; refine ⟨_, rfl, ?_⟩; have n0_ := Aside0.mk (Kd.V_below (vS <| HO499.out) hb); have n1_ := Aside0.mk (Kd.V_below (vS <| HO503.out) hb); have n2_ := Aside0.mk (blk_below (g := gb460) (o := .cells #[.bool a0_0, .slice A0_1 l0_1.length c0_1, .slice A0_2 l0_2.length c0_2, .slice A0_3 l0_3.length c0_3, .int .i64 a0_4, .int .u8 a0_5] 24 (0, 0)) (by exact bkS BK460.out) hb); have n3_ := Aside0.mk (below_step (by repeat (first | (with_reducible first | exact HB.out | apply below_alloc | apply pw_below_drewN | apply below_drew1 | refine below_set ?_ GE460.out) | exact HB.out)) hb); clear HO499; clear HO503; clear BK460; clear HB; have HO499 := n0_; have HO503 := n1_; have BK460 := n2_; have HB := n3_; clear n0_ n1_ n2_ n3_; (try clear hb); (try clear hb2); (try clear hk); (try clear hi)))
                   go_ret
                   exact ⟨by first | rfl | (simp [errW_none, errW_some] <;> rfl) | (simp [*, errW_none, errW_some] <;> rfl), by repeat (first | (with_reducible first | exact HB.out | apply below_alloc | apply pw_below_drewN | apply below_drew1 | refine below_set ?_ GE460.out) | exact HB.out)⟩
                 ·rw [if_neg c72] at H
                  have c72b0 : (t505 == t467) = false := beq_eq_false_iff_ne.mpr c72
                  have c72b1 : (t505 != t467) = true := bne_iff_ne.mpr c72
                  as_aux_lemma =>
                   obtain rfl := Option.some.inj H
                   go_wp2_with (first | ((with_reducible refine gate_callee (f := 13) rfl ?_); refine goesL_ (some 176) rfl rfl Tryd.func13 (by kernel_rfl) rfl #[.slice A0_1 l0_1.length c0_1] rfl (by (try simp only [List.map_toArray, List.map_cons, List.map_nil]); first | done | rfl | (simp only [List.length_drop, List.length_take]; rfl) | (simp only [gt_iff_lt, Int.natCast_pos]; done) | (simp only [gt_iff_lt, Int.natCast_pos]; rfl)) ?_; (with_reducible refine (nat_BitLen.calls kj41 _ _ l0_1 t496 _ ?side1 ?side2 A61.out).mono ?_); (case side1 => exact cS (Kd.C_below HR0_1.out HB.out)); (case side2 => exact HC0_1.out); rintro e w' ⟨rfl, ⟨nd, rfl⟩⟩; refine ⟨_, rfl, ?_⟩) | ((with_reducible refine gate_callee (f := 29) rfl ?_); refine goesL_ (some 182) rfl rfl Tryd.func29 (by kernel_rfl) rfl #[.slice A0_1 l0_1.length c0_1, .int .i64 64] rfl (by (try simp only [List.map_toArray, List.map_cons, List.map_nil]); first | done | rfl | (simp only [List.length_drop, List.length_take]; rfl) | (simp only [gt_iff_lt, Int.natCast_pos]; done) | (simp only [gt_iff_lt, Int.natCast_pos]; rfl)) ?_; (with_reducible refine (nat_Shl.calls kj41 _ _ l0_1 64 t497 t500 _ ?side1 ?side2 A63.out).mono ?_); (case side1 => repeat (first | exact (Kd.C_below HR0_1.out (by repeat (first | (with_reducible first | exact HB.out | apply below_alloc | apply pw_below_drewN | apply below_drew1 | refine below_set ?_ GE460.out) | exact HB.out))) | (with_reducible refine Kd.C_alloc ?_ _) | (with_reducible refine Kd.C_drewN ?_ _) | (with_reducible refine Kd.C_drew ?_))); (case side2 => exact HC0_1.out); rintro e w79 ⟨v498, rfl, ho0, hb⟩; refine ⟨_, rfl, ?_⟩; have n0_ := Aside0.mk (Kd.V_lower (Kd.V_mono (ok' := fun k_ => k_ ≠ gb460) ho0 (fun k_ hk_ => (Kd.freshB (g := gb460) (o := .cells #[.bool a0_0, .slice A0_1 l0_1.length c0_1, .slice A0_2 l0_2.length c0_2, .slice A0_3 l0_3.length c0_3, .int .i64 a0_4, .int .u8 a0_5] 24 (0, 0)) (by exact bkS BK460.out) k_ hk_))) (below_size (by repeat (first | (with_reducible first | exact HB.out | apply below_alloc | apply pw_below_drewN | apply below_drew1 | refine below_set ?_ GE460.out) | exact HB.out)))); have n1_ := Aside0.mk (blk_below (g := gb460) (o := .cells #[.bool a0_0, .slice A0_1 l0_1.length c0_1, .slice A0_2 l0_2.length c0_2, .slice A0_3 l0_3.length c0_3, .int .i64 a0_4, .int .u8 a0_5] 24 (0, 0)) (by exact bkS BK460.out) hb); have n2_ := Aside0.mk (below_step (by repeat (first | (with_reducible first | exact HB.out | apply below_alloc | apply pw_below_drewN | apply below_drew1 | refine below_set ?_ GE460.out) | exact HB.out)) hb); clear BK460; clear HB; have HO499 := n0_; have BK460 := n1_; have HB := n2_; clear n0_ n1_ n2_; (try clear hb); (try clear hb2); (try clear hk); (try clear hi); (try clear ho0); obtain ⟨Ao80, co80, eo80⟩ := Kd.V_slice HO499.out; subst eo80) | ((with_reducible refine gate_callee (f := 31) rfl ?_); refine goesL_ (some 187) rfl rfl Tryd.func31 (by kernel_rfl) rfl #[.slice Ao80 t497.length co80, .int .u64 1, .int .u64 1] rfl (by (try simp only [List.map_toArray, List.map_cons, List.map_nil]); first | done | rfl | (simp only [List.length_drop, List.length_take]; rfl) | (simp only [gt_iff_lt, Int.natCast_pos]; done) | (simp only [gt_iff_lt, Int.natCast_pos]; rfl)) ?_; (with_reducible refine (nat_MulAdd.calls kj41 _ _ t497 1 1 t501 t504 _ ?side1 ?side2 A64.out).mono ?_); (case side1 => exact cS (Kd.V_reads' HO499.out).2.2); (case side2 => exact (Kd.V_reads' HO499.out).2.1); rintro e w81 ⟨v502, rfl, ho0, hb⟩; refine ⟨_, rfl, ?_⟩; have n0_ := Aside0.mk (Kd.V_below (vS <| HO499.out) hb); have n1_ := Aside0.mk (Kd.V_lower (Kd.V_mono (ok' := fun k_ => k_ ≠ gb460) ho0 (fun k_ hk_ => (Kd.freshB (g := gb460) (o := .cells #[.bool a0_0, .slice A0_1 l0_1.length c0_1, .slice A0_2 l0_2.length c0_2, .slice A0_3 l0_3.length c0_3, .int .i64 a0_4, .int .u8 a0_5] 24 (0, 0)) (by exact bkS BK460.out) k_ hk_))) (below_size (by repeat (first | (with_reducible first | exact HB.out | apply below_alloc | apply pw_below_drewN | apply below_drew1 | refine below_set ?_ GE460.out) | exact HB.out)))); have n2_ := Aside0.mk (blk_below (g := gb460) (o := .cells #[.bool a0_0, .slice A0_1 l0_1.length c0_1, .slice A0_2 l0_2.length c0_2, .slice A0_3 l0_3.length c0_3, .int .i64 a0_4, .int .u8 a0_5] 24 (0, 0)) (by exact bkS BK460.out) hb); have n3_ := Aside0.mk (below_step (by repeat (first | (with_reducible first | exact HB.out | apply below_alloc | apply pw_below_drewN | apply below_drew1 | refine below_set ?_ GE460.out) | exact HB.out)) hb); clear HO499; clear BK460; clear HB; have HO499 := n0_; have HO503 := n1_; have BK460 := n2_; have HB := n3_; clear n0_ n1_ n2_ n3_; (try clear hb); (try clear hb2); (try clear hk); (try clear hi); (try clear ho0)) | ((with_reducible refine gate_callee (f := 15) rfl ?_); refine goesL_ (some 193) rfl rfl Tryd.func15 (by kernel_rfl) rfl #[.bool false, .slice A0_1 l0_1.length c0_1, .int .i64 a0_4, .bool true] rfl (by (try simp only [List.map_toArray, List.map_cons, List.map_nil]); first | done | rfl | (simp only [List.length_drop, List.length_take]; rfl) | (simp only [gt_iff_lt, Int.natCast_pos]; done) | (simp only [gt_iff_lt, Int.natCast_pos]; rfl)) ?_; (with_reducible refine (ieee_Round.calls kj41 false _ _ l0_1 a0_4 true t505 t506 _ ?side3 ?side1 ?side2 A65.out).mono ?_); (case side1 => exact cS (Kd.C_below HR0_1.out HB.out)); (case side2 => exact HC0_1.out); (case side3 => exact cS (Kd.C_below HT.out HB.out)); rintro e w82 ⟨rfl, hb⟩; refine ⟨_, rfl, ?_⟩; have n0_ := Aside0.mk (Kd.V_below (vS <| HO499.out) hb); have n1_ := Aside0.mk (Kd.V_below (vS <| HO503.out) hb); have n2_ := Aside0.mk (blk_below (g := gb460) (o := .cells #[.bool a0_0, .slice A0_1 l0_1.length c0_1, .slice A0_2 l0_2.length c0_2, .slice A0_3 l0_3.length c0_3, .int .i64 a0_4, .int .u8 a0_5] 24 (0, 0)) (by exact bkS BK460.out) hb); have n3_ := Aside0.mk (below_step (by repeat (first | (with_reducible first | exact HB.out | apply below_alloc | apply pw_below_drewN | apply below_drew1 | refine below_set ?_ GE460.out) | exact HB.out)) hb); clear HO499; clear HO503; clear BK460; clear HB; have HO499 := n0_; have HO503 := n1_; have BK460 := n2_; have HB := n3_; clear n0_ n1_ n2_ n3_; (try clear hb); (try clear hb2); (try clear hk); (try clear hi); obtain ⟨Ao83, co83, eo83⟩ := Kd.V_slice HO503.out; subst eo83) | ((with_reducible refine gate_callee (f := 15) rfl ?_); refine goesL_ (some 200) rfl rfl Tryd.func15 (by kernel_rfl) rfl #[.bool false, .slice Ao83 t501.length co83, .int .i64 (wrap64 (a0_4 - 64)), .bool false] rfl (by (try simp only [List.map_toArray, List.map_cons, List.map_nil]); first | done | rfl | (simp only [List.length_drop, List.length_take]; rfl) | (simp only [gt_iff_lt, Int.natCast_pos]; done) | (simp only [gt_iff_lt, Int.natCast_pos]; rfl)) ?_; (with_reducible refine (ieee_Round.calls kj41 false _ _ t501 (wrap64 (a0_4 - 64)) false t507 t508 _ ?side3 ?side1 ?side2 A66.out).mono ?_); (case side1 => exact cS (Kd.V_reads' HO503.out).2.2); (case side2 => exact (Kd.V_reads' HO503.out).2.1); (case side3 => exact cS (Kd.C_below HT.out HB.out)); rintro e w84 ⟨rfl, hb⟩; refine ⟨_, rfl, ?_⟩; have n0_ := Aside0.mk (Kd.V_below (vS <| HO499.out) hb); have n1_ := Aside0.mk (Kd.V_below (vS <| HO503.out) hb); have n2_ := Aside0.mk (blk_below (g := gb460) (o := .cells #[.bool a0_0, .slice A0_1 l0_1.length c0_1, .slice A0_2 l0_2.length c0_2, .slice A0_3 l0_3.length c0_3, .int .i64 a0_4, .int .u8 a0_5] 24 (0, 0)) (by exact bkS BK460.out) hb); have n3_ := Aside0.mk (below_step (by repeat (first | (with_reducible first | exact HB.out | apply below_alloc | apply pw_below_drewN | apply below_drew1 | refine below_set ?_ GE460.out) | exact HB.out)) hb); clear HO499; clear HO503; clear BK460; clear HB; have HO499 := n0_; have HO503 := n1_; have BK460 := n2_; have HB := n3_; clear n0_ n1_ n2_ n3_; (try clear hb); (try clear hb2); (try clear hk); (try clear hi)))
                   go_ret
                   exact ⟨by first | rfl | (simp [errW_none, errW_some] <;> rfl) | (simp [*, errW_none, errW_some] <;> rfl), by repeat (first | (with_reducible first | exact HB.out | apply below_alloc | apply pw_below_drewN | apply below_drew1 | refine below_set ?_ GE460.out) | exact HB.out)⟩
                ·rw [if_neg c71] at H
                 have c71b0 : (t505 == t507) = false := beq_eq_false_iff_ne.mpr c71
                 have c71b1 : (t505 != t507) = true := bne_iff_ne.mpr c71
                 as_aux_lemma =>
                  obtain rfl := Option.some.inj H
                  go_wp2_with (first | ((with_reducible refine gate_callee (f := 13) rfl ?_); refine goesL_ (some 176) rfl rfl Tryd.func13 (by kernel_rfl) rfl #[.slice A0_1 l0_1.length c0_1] rfl (by (try simp only [List.map_toArray, List.map_cons, List.map_nil]); first | done | rfl | (simp only [List.length_drop, List.length_take]; rfl) | (simp only [gt_iff_lt, Int.natCast_pos]; done) | (simp only [gt_iff_lt, Int.natCast_pos]; rfl)) ?_; (with_reducible refine (nat_BitLen.calls kj41 _ _ l0_1 t496 _ ?side1 ?side2 A61.out).mono ?_); (case side1 => exact cS (Kd.C_below HR0_1.out HB.out)); (case side2 => exact HC0_1.out); rintro e w' ⟨rfl, ⟨nd, rfl⟩⟩; refine ⟨_, rfl, ?_⟩) | ((with_reducible refine gate_callee (f := 29) rfl ?_); refine goesL_ (some 182) rfl rfl Tryd.func29 (by kernel_rfl) rfl #[.slice A0_1 l0_1.length c0_1, .int .i64 64] rfl (by (try simp only [List.map_toArray, List.map_cons, List.map_nil]); first | done | rfl | (simp only [List.length_drop, List.length_take]; rfl) | (simp only [gt_iff_lt, Int.natCast_pos]; done) | (simp only [gt_iff_lt, Int.natCast_pos]; rfl)) ?_; (with_reducible refine (nat_Shl.calls kj41 _ _ l0_1 64 t497 t500 _ ?side1 ?side2 A63.out).mono ?_); (case side1 => repeat (first | exact (Kd.C_below HR0_1.out (by repeat (first | (with_reducible first | exact HB.out | apply below_alloc | apply pw_below_drewN | apply below_drew1 | refine below_set ?_ GE460.out) | exact HB.out))) | (with_reducible refine Kd.C_alloc ?_ _) | (with_reducible refine Kd.C_drewN ?_ _) | (with_reducible refine Kd.C_drew ?_))); (case side2 => exact HC0_1.out); rintro e w85 ⟨v498, rfl, ho0, hb⟩; refine ⟨_, rfl, ?_⟩; have n0_ := Aside0.mk (Kd.V_lower (Kd.V_mono (ok' := fun k_ => k_ ≠ gb460) ho0 (fun k_ hk_ => (Kd.freshB (g := gb460) (o := .cells #[.bool a0_0, .slice A0_1 l0_1.length c0_1, .slice A0_2 l0_2.length c0_2, .slice A0_3 l0_3.length c0_3, .int .i64 a0_4, .int .u8 a0_5] 24 (0, 0)) (by exact bkS BK460.out) k_ hk_))) (below_size (by repeat (first | (with_reducible first | exact HB.out | apply below_alloc | apply pw_below_drewN | apply below_drew1 | refine below_set ?_ GE460.out) | exact HB.out)))); have n1_ := Aside0.mk (blk_below (g := gb460) (o := .cells #[.bool a0_0, .slice A0_1 l0_1.length c0_1, .slice A0_2 l0_2.length c0_2, .slice A0_3 l0_3.length c0_3, .int .i64 a0_4, .int .u8 a0_5] 24 (0, 0)) (by exact bkS BK460.out) hb); have n2_ := Aside0.mk (below_step (by repeat (first | (with_reducible first | exact HB.out | apply below_alloc | apply pw_below_drewN | apply below_drew1 | refine below_set ?_ GE460.out) | exact HB.out)) hb); clear BK460; clear HB; have HO499 := n0_; have BK460 := n1_; have HB := n2_; clear n0_ n1_ n2_; (try clear hb); (try clear hb2); (try clear hk); (try clear hi); (try clear ho0); obtain ⟨Ao86, co86, eo86⟩ := Kd.V_slice HO499.out; subst eo86) | ((with_reducible refine gate_callee (f := 31) rfl ?_); refine goesL_ (some 187) rfl rfl Tryd.func31 (by kernel_rfl) rfl #[.slice Ao86 t497.length co86, .int .u64 1, .int .u64 1] rfl (by (try simp only [List.map_toArray, List.map_cons, List.map_nil]); first | done | rfl | (simp only [List.length_drop, List.length_take]; rfl) | (simp only [gt_iff_lt, Int.natCast_pos]; done) | (simp only [gt_iff_lt, Int.natCast_pos]; rfl)) ?_; (with_reducible refine (nat_MulAdd.calls kj41 _ _ t497 1 1 t501 t504 _ ?side1 ?side2 A64.out).mono ?_); (case side1 => exact cS (Kd.V_reads' HO499.out).2.2); (case side2 => exact (Kd.V_reads' HO499.out).2.1); rintro e w87 ⟨v502, rfl, ho0, hb⟩; refine ⟨_, rfl, ?_⟩; have n0_ := Aside0.mk (Kd.V_below (vS <| HO499.out) hb); have n1_ := Aside0.mk (Kd.V_lower (Kd.V_mono (ok' := fun k_ => k_ ≠ gb460) ho0 (fun k_ hk_ => (Kd.freshB (g := gb460) (o := .cells #[.bool a0_0, .slice A0_1 l0_1.length c0_1, .slice A0_2 l0_2.length c0_2, .slice A0_3 l0_3.length c0_3, .int .i64 a0_4, .int .u8 a0_5] 24 (0, 0)) (by exact bkS BK460.out) k_ hk_))) (below_size (by repeat (first | (with_reducible first | exact HB.out | apply below_alloc | apply pw_below_drewN | apply below_drew1 | refine below_set ?_ GE460.out) | exact HB.out)))); have n2_ := Aside0.mk (blk_below (g := gb460) (o := .cells #[.bool a0_0, .slice A0_1 l0_1.length c0_1, .slice A0_2 l0_2.length c0_2, .slice A0_3 l0_3.length c0_3, .int .i64 a0_4, .int .u8 a0_5] 24 (0, 0)) (by exact bkS BK460.out) hb); have n3_ := Aside0.mk (below_step (by repeat (first | (with_reducible first | exact HB.out | apply below_alloc | apply pw_below_drewN | apply below_drew1 | refine below_set ?_ GE460.out) | exact HB.out)) hb); clear HO499; clear BK460; clear HB; have HO499 := n0_; have HO503 := n1_; have BK460 := n2_; have HB := n3_; clear n0_ n1_ n2_ n3_; (try clear hb); (try clear hb2); (try clear hk); (try clear hi); (try clear ho0)) | ((with_reducible refine gate_callee (f := 15) rfl ?_); refine goesL_ (some 193) rfl rfl Tryd.func15 (by kernel_rfl) rfl #[.bool false, .slice A0_1 l0_1.length c0_1, .int .i64 a0_4, .bool true] rfl (by (try simp only [List.map_toArray, List.map_cons, List.map_nil]); first | done | rfl | (simp only [List.length_drop, List.length_take]; rfl) | (simp only [gt_iff_lt, Int.natCast_pos]; done) | (simp only [gt_iff_lt, Int.natCast_pos]; rfl)) ?_; (with_reducible refine (ieee_Round.calls kj41 false _ _ l0_1 a0_4 true t505 t506 _ ?side3 ?side1 ?side2 A65.out).mono ?_); (case side1 => exact cS (Kd.C_below HR0_1.out HB.out)); (case side2 => exact HC0_1.out); (case side3 => exact cS (Kd.C_below HT.out HB.out)); rintro e w88 ⟨rfl, hb⟩; refine ⟨_, rfl, ?_⟩; have n0_ := Aside0.mk (Kd.V_below (vS <| HO499.out) hb); have n1_ := Aside0.mk (Kd.V_below (vS <| HO503.out) hb); have n2_ := Aside0.mk (blk_below (g := gb460) (o := .cells #[.bool a0_0, .slice A0_1 l0_1.length c0_1, .slice A0_2 l0_2.length c0_2, .slice A0_3 l0_3.length c0_3, .int .i64 a0_4, .int .u8 a0_5] 24 (0, 0)) (by exact bkS BK460.out) hb); have n3_ := Aside0.mk (below_step (by repeat (first | (with_reducible first | exact HB.out | apply below_alloc | apply pw_below_drewN | apply below_drew1 | refine below_set ?_ GE460.out) | exact HB.out)) hb); clear HO499; clear HO503; clear BK460; clear HB; have HO499 := n0_; have HO503 := n1_; have BK460 := n2_; have HB := n3_; clear n0_ n1_ n2_ n3_; (try clear hb); (try clear hb2); (try clear hk); (try clear hi); obtain ⟨Ao89, co89, eo89⟩ := Kd.V_slice HO503.out; subst eo89) | ((with_reducible refine gate_callee (f := 15) rfl ?_); refine goesL_ (some 200) rfl rfl Tryd.func15 (by kernel_rfl) rfl #[.bool false, .slice Ao89 t501.length co89, .int .i64 (wrap64 (a0_4 - 64)), .bool false] rfl (by (try simp only [List.map_toArray, List.map_cons, List.map_nil]); first | done | rfl | (simp only [List.length_drop, List.length_take]; rfl) | (simp only [gt_iff_lt, Int.natCast_pos]; done) | (simp only [gt_iff_lt, Int.natCast_pos]; rfl)) ?_; (with_reducible refine (ieee_Round.calls kj41 false _ _ t501 (wrap64 (a0_4 - 64)) false t507 t508 _ ?side3 ?side1 ?side2 A66.out).mono ?_); (case side1 => exact cS (Kd.V_reads' HO503.out).2.2); (case side2 => exact (Kd.V_reads' HO503.out).2.1); (case side3 => exact cS (Kd.C_below HT.out HB.out)); rintro e w90 ⟨rfl, hb⟩; refine ⟨_, rfl, ?_⟩; have n0_ := Aside0.mk (Kd.V_below (vS <| HO499.out) hb); have n1_ := Aside0.mk (Kd.V_below (vS <| HO503.out) hb); have n2_ := Aside0.mk (blk_below (g := gb460) (o := .cells #[.bool a0_0, .slice A0_1 l0_1.length c0_1, .slice A0_2 l0_2.length c0_2, .slice A0_3 l0_3.length c0_3, .int .i64 a0_4, .int .u8 a0_5] 24 (0, 0)) (by exact bkS BK460.out) hb); have n3_ := Aside0.mk (below_step (by repeat (first | (with_reducible first | exact HB.out | apply below_alloc | apply pw_below_drewN | apply below_drew1 | refine below_set ?_ GE460.out) | exact HB.out)) hb); clear HO499; clear HO503; clear BK460; clear HB; have HO499 := n0_; have HO503 := n1_; have BK460 := n2_; have HB := n3_; clear n0_ n1_ n2_ n3_; (try clear hb); (try clear hb2); (try clear hk); (try clear hi)))
                  go_ret
                  exact ⟨by first | rfl | (simp [errW_none, errW_some] <;> rfl) | (simp [*, errW_none, errW_some] <;> rfl), by repeat (first | (with_reducible first | exact HB.out | apply below_alloc | apply pw_below_drewN | apply below_drew1 | refine below_set ?_ GE460.out) | exact HB.out)⟩
               ·rw [if_neg c70] at H
                have c70b0 : (t508 == 0) = false := beq_eq_false_iff_ne.mpr c70
                have c70b1 : (t508 != 0) = true := bne_iff_ne.mpr c70
                as_aux_lemma =>
                 obtain rfl := Option.some.inj H
                 go_wp2_with (first | ((with_reducible refine gate_callee (f := 13) rfl ?_); refine goesL_ (some 176) rfl rfl Tryd.func13 (by kernel_rfl) rfl #[.slice A0_1 l0_1.length c0_1] rfl (by (try simp only [List.map_toArray, List.map_cons, List.map_nil]); first | done | rfl | (simp only [List.length_drop, List.length_take]; rfl) | (simp only [gt_iff_lt, Int.natCast_pos]; done) | (simp only [gt_iff_lt, Int.natCast_pos]; rfl)) ?_; (with_reducible refine (nat_BitLen.calls kj41 _ _ l0_1 t496 _ ?side1 ?side2 A61.out).mono ?_); (case side1 => exact cS (Kd.C_below HR0_1.out HB.out)); (case side2 => exact HC0_1.out); rintro e w' ⟨rfl, ⟨nd, rfl⟩⟩; refine ⟨_, rfl, ?_⟩) | ((with_reducible refine gate_callee (f := 29) rfl ?_); refine goesL_ (some 182) rfl rfl Tryd.func29 (by kernel_rfl) rfl #[.slice A0_1 l0_1.length c0_1, .int .i64 64] rfl (by (try simp only [List.map_toArray, List.map_cons, List.map_nil]); first | done | rfl | (simp only [List.length_drop, List.length_take]; rfl) | (simp only [gt_iff_lt, Int.natCast_pos]; done) | (simp only [gt_iff_lt, Int.natCast_pos]; rfl)) ?_; (with_reducible refine (nat_Shl.calls kj41 _ _ l0_1 64 t497 t500 _ ?side1 ?side2 A63.out).mono ?_); (case side1 => repeat (first | exact (Kd.C_below HR0_1.out (by repeat (first | (with_reducible first | exact HB.out | apply below_alloc | apply pw_below_drewN | apply below_drew1 | refine below_set ?_ GE460.out) | exact HB.out))) | (with_reducible refine Kd.C_alloc ?_ _) | (with_reducible refine Kd.C_drewN ?_ _) | (with_reducible refine Kd.C_drew ?_))); (case side2 => exact HC0_1.out); rintro e w91 ⟨v498, rfl, ho0, hb⟩; refine ⟨_, rfl, ?_⟩; have n0_ := Aside0.mk (Kd.V_lower (Kd.V_mono (ok' := fun k_ => k_ ≠ gb460) ho0 (fun k_ hk_ => (Kd.freshB (g := gb460) (o := .cells #[.bool a0_0, .slice A0_1 l0_1.length c0_1, .slice A0_2 l0_2.length c0_2, .slice A0_3 l0_3.length c0_3, .int .i64 a0_4, .int .u8 a0_5] 24 (0, 0)) (by exact bkS BK460.out) k_ hk_))) (below_size (by repeat (first | (with_reducible first | exact HB.out | apply below_alloc | apply pw_below_drewN | apply below_drew1 | refine below_set ?_ GE460.out) | exact HB.out)))); have n1_ := Aside0.mk (blk_below (g := gb460) (o := .cells #[.bool a0_0, .slice A0_1 l0_1.length c0_1, .slice A0_2 l0_2.length c0_2, .slice A0_3 l0_3.length c0_3, .int .i64 a0_4, .int .u8 a0_5] 24 (0, 0)) (by exact bkS BK460.out) hb); have n2_ := Aside0.mk (below_step (by repeat (first | (with_reducible first | exact HB.out | apply below_alloc | apply pw_below_drewN | apply below_drew1 | refine below_set ?_ GE460.out) | exact HB.out)) hb); clear BK460; clear HB; have HO499 := n0_; have BK460 := n1_; have HB := n2_; clear n0_ n1_ n2_; (try clear hb); (try clear hb2); (try clear hk); (try clear hi); (try clear ho0); obtain ⟨Ao92, co92, eo92⟩ := Kd.V_slice HO499.out; subst eo92) | ((with_reducible refine gate_callee (f := 31) rfl ?_); refine goesL_ (some 187) rfl rfl Tryd.func31 (by kernel_rfl) rfl #[.slice Ao92 t497.length co92, .int .u64 1, .int .u64 1] rfl (by (try simp only [List.map_toArray, List.map_cons, List.map_nil]); first | done | rfl | (simp only [List.length_drop, List.length_take]; rfl) | (simp only [gt_iff_lt, Int.natCast_pos]; done) | (simp only [gt_iff_lt, Int.natCast_pos]; rfl)) ?_; (with_reducible refine (nat_MulAdd.calls kj41 _ _ t497 1 1 t501 t504 _ ?side1 ?side2 A64.out).mono ?_); (case side1 => exact cS (Kd.V_reads' HO499.out).2.2); (case side2 => exact (Kd.V_reads' HO499.out).2.1); rintro e w93 ⟨v502, rfl, ho0, hb⟩; refine ⟨_, rfl, ?_⟩; have n0_ := Aside0.mk (Kd.V_below (vS <| HO499.out) hb); have n1_ := Aside0.mk (Kd.V_lower (Kd.V_mono (ok' := fun k_ => k_ ≠ gb460) ho0 (fun k_ hk_ => (Kd.freshB (g := gb460) (o := .cells #[.bool a0_0, .slice A0_1 l0_1.length c0_1, .slice A0_2 l0_2.length c0_2, .slice A0_3 l0_3.length c0_3, .int .i64 a0_4, .int .u8 a0_5] 24 (0, 0)) (by exact bkS BK460.out) k_ hk_))) (below_size (by repeat (first | (with_reducible first | exact HB.out | apply below_alloc | apply pw_below_drewN | apply below_drew1 | refine below_set ?_ GE460.out) | exact HB.out)))); have n2_ := Aside0.mk (blk_below (g := gb460) (o := .cells #[.bool a0_0, .slice A0_1 l0_1.length c0_1, .slice A0_2 l0_2.length c0_2, .slice A0_3 l0_3.length c0_3, .int .i64 a0_4, .int .u8 a0_5] 24 (0, 0)) (by exact bkS BK460.out) hb); have n3_ := Aside0.mk (below_step (by repeat (first | (with_reducible first | exact HB.out | apply below_alloc | apply pw_below_drewN | apply below_drew1 | refine below_set ?_ GE460.out) | exact HB.out)) hb); clear HO499; clear BK460; clear HB; have HO499 := n0_; have HO503 := n1_; have BK460 := n2_; have HB := n3_; clear n0_ n1_ n2_ n3_; (try clear hb); (try clear hb2); (try clear hk); (try clear hi); (try clear ho0)) | ((with_reducible refine gate_callee (f := 15) rfl ?_); refine goesL_ (some 193) rfl rfl Tryd.func15 (by kernel_rfl) rfl #[.bool false, .slice A0_1 l0_1.length c0_1, .int .i64 a0_4, .bool true] rfl (by (try simp only [List.map_toArray, List.map_cons, List.map_nil]); first | done | rfl | (simp only [List.length_drop, List.length_take]; rfl) | (simp only [gt_iff_lt, Int.natCast_pos]; done) | (simp only [gt_iff_lt, Int.natCast_pos]; rfl)) ?_; (with_reducible refine (ieee_Round.calls kj41 false _ _ l0_1 a0_4 true t505 t506 _ ?side3 ?side1 ?side2 A65.out).mono ?_); (case side1 => exact cS (Kd.C_below HR0_1.out HB.out)); (case side2 => exact HC0_1.out); (case side3 => exact cS (Kd.C_below HT.out HB.out)); rintro e w94 ⟨rfl, hb⟩; refine ⟨_, rfl, ?_⟩; have n0_ := Aside0.mk (Kd.V_below (vS <| HO499.out) hb); have n1_ := Aside0.mk (Kd.V_below (vS <| HO503.out) hb); have n2_ := Aside0.mk (blk_below (g := gb460) (o := .cells #[.bool a0_0, .slice A0_1 l0_1.length c0_1, .slice A0_2 l0_2.length c0_2, .slice A0_3 l0_3.length c0_3, .int .i64 a0_4, .int .u8 a0_5] 24 (0, 0)) (by exact bkS BK460.out) hb); have n3_ := Aside0.mk (below_step (by repeat (first | (with_reducible first | exact HB.out | apply below_alloc | apply pw_below_drewN | apply below_drew1 | refine below_set ?_ GE460.out) | exact HB.out)) hb); clear HO499; clear HO503; clear BK460; clear HB; have HO499 := n0_; have HO503 := n1_; have BK460 := n2_; have HB := n3_; clear n0_ n1_ n2_ n3_; (try clear hb); (try clear hb2); (try clear hk); (try clear hi); obtain ⟨Ao95, co95, eo95⟩ := Kd.V_slice HO503.out; subst eo95) | ((with_reducible refine gate_callee (f := 15) rfl ?_); refine goesL_ (some 200) rfl rfl Tryd.func15 (by kernel_rfl) rfl #[.bool false, .slice Ao95 t501.length co95, .int .i64 (wrap64 (a0_4 - 64)), .bool false] rfl (by (try simp only [List.map_toArray, List.map_cons, List.map_nil]); first | done | rfl | (simp only [List.length_drop, List.length_take]; rfl) | (simp only [gt_iff_lt, Int.natCast_pos]; done) | (simp only [gt_iff_lt, Int.natCast_pos]; rfl)) ?_; (with_reducible refine (ieee_Round.calls kj41 false _ _ t501 (wrap64 (a0_4 - 64)) false t507 t508 _ ?side3 ?side1 ?side2 A66.out).mono ?_); (case side1 => exact cS (Kd.V_reads' HO503.out).2.2); (case side2 => exact (Kd.V_reads' HO503.out).2.1); (case side3 => exact cS (Kd.C_below HT.out HB.out)); rintro e w96 ⟨rfl, hb⟩; refine ⟨_, rfl, ?_⟩; have n0_ := Aside0.mk (Kd.V_below (vS <| HO499.out) hb); have n1_ := Aside0.mk (Kd.V_below (vS <| HO503.out) hb); have n2_ := Aside0.mk (blk_below (g := gb460) (o := .cells #[.bool a0_0, .slice A0_1 l0_1.length c0_1, .slice A0_2 l0_2.length c0_2, .slice A0_3 l0_3.length c0_3, .int .i64 a0_4, .int .u8 a0_5] 24 (0, 0)) (by exact bkS BK460.out) hb); have n3_ := Aside0.mk (below_step (by repeat (first | (with_reducible first | exact HB.out | apply below_alloc | apply pw_below_drewN | apply below_drew1 | refine below_set ?_ GE460.out) | exact HB.out)) hb); clear HO499; clear HO503; clear BK460; clear HB; have HO499 := n0_; have HO503 := n1_; have BK460 := n2_; have HB := n3_; clear n0_ n1_ n2_ n3_; (try clear hb); (try clear hb2); (try clear hk); (try clear hi)))
                 go_ret
                 exact ⟨by first | rfl | (simp [errW_none, errW_some] <;> rfl) | (simp [*, errW_none, errW_some] <;> rfl), by repeat (first | (with_reducible first | exact HB.out | apply below_alloc | apply pw_below_drewN | apply below_drew1 | refine below_set ?_ GE460.out) | exact HB.out)⟩
              ·rw [if_neg c69] at H
               have c69b0 : (t506 == 0) = false := beq_eq_false_iff_ne.mpr c69
               have c69b1 : (t506 != 0) = true := bne_iff_ne.mpr c69
               as_aux_lemma =>
                obtain rfl := Option.some.inj H
                go_wp2_with (first | ((with_reducible refine gate_callee (f := 13) rfl ?_); refine goesL_ (some 176) rfl rfl Tryd.func13 (by kernel_rfl) rfl #[.slice A0_1 l0_1.length c0_1] rfl (by (try simp only [List.map_toArray, List.map_cons, List.map_nil]); first | done | rfl | (simp only [List.length_drop, List.length_take]; rfl) | (simp only [gt_iff_lt, Int.natCast_pos]; done) | (simp only [gt_iff_lt, Int.natCast_pos]; rfl)) ?_; (with_reducible refine (nat_BitLen.calls kj41 _ _ l0_1 t496 _ ?side1 ?side2 A61.out).mono ?_); (case side1 => exact cS (Kd.C_below HR0_1.out HB.out)); (case side2 => exact HC0_1.out); rintro e w' ⟨rfl, ⟨nd, rfl⟩⟩; refine ⟨_, rfl, ?_⟩) | ((with_reducible refine gate_callee (f := 29) rfl ?_); refine goesL_ (some 182) rfl rfl Tryd.func29 (by kernel_rfl) rfl #[.slice A0_1 l0_1.length c0_1, .int .i64 64] rfl (by (try simp only [List.map_toArray, List.map_cons, List.map_nil]); first | done | rfl | (simp only [List.length_drop, List.length_take]; rfl) | (simp only [gt_iff_lt, Int.natCast_pos]; done) | (simp only [gt_iff_lt, Int.natCast_pos]; rfl)) ?_; (with_reducible refine (nat_Shl.calls kj41 _ _ l0_1 64 t497 t500 _ ?side1 ?side2 A63.out).mono ?_); (case side1 => repeat (first | exact (Kd.C_below HR0_1.out (by repeat (first | (with_reducible first | exact HB.out | apply below_alloc | apply pw_below_drewN | apply below_drew1 | refine below_set ?_ GE460.out) | exact HB.out))) | (with_reducible refine Kd.C_alloc ?_ _) | (with_reducible refine Kd.C_drewN ?_ _) | (with_reducible refine Kd.C_drew ?_))); (case side2 => exact HC0_1.out); rintro e w97 ⟨v498, rfl, ho0, hb⟩; refine ⟨_, rfl, ?_⟩; have n0_ := Aside0.mk (Kd.V_lower (Kd.V_mono (ok' := fun k_ => k_ ≠ gb460) ho0 (fun k_ hk_ => (Kd.freshB (g := gb460) (o := .cells #[.bool a0_0, .slice A0_1 l0_1.length c0_1, .slice A0_2 l0_2.length c0_2, .slice A0_3 l0_3.length c0_3, .int .i64 a0_4, .int .u8 a0_5] 24 (0, 0)) (by exact bkS BK460.out) k_ hk_))) (below_size (by repeat (first | (with_reducible first | exact HB.out | apply below_alloc | apply pw_below_drewN | apply below_drew1 | refine below_set ?_ GE460.out) | exact HB.out)))); have n1_ := Aside0.mk (blk_below (g := gb460) (o := .cells #[.bool a0_0, .slice A0_1 l0_1.length c0_1, .slice A0_2 l0_2.length c0_2, .slice A0_3 l0_3.length c0_3, .int .i64 a0_4, .int .u8 a0_5] 24 (0, 0)) (by exact bkS BK460.out) hb); have n2_ := Aside0.mk (below_step (by repeat (first | (with_reducible first | exact HB.out | apply below_alloc | apply pw_below_drewN | apply below_drew1 | refine below_set ?_ GE460.out) | exact HB.out)) hb); clear BK460; clear HB; have HO499 := n0_; have BK460 := n1_; have HB := n2_; clear n0_ n1_ n2_; (try clear hb); (try clear hb2); (try clear hk); (try clear hi); (try clear ho0); obtain ⟨Ao98, co98, eo98⟩ := Kd.V_slice HO499.out; subst eo98) | ((with_reducible refine gate_callee (f := 31) rfl ?_); refine goesL_ (some 187) rfl rfl Tryd.func31 (by kernel_rfl) rfl #[.slice Ao98 t497.length co98, .int .u64 1, .int .u64 1] rfl (by (try simp only [List.map_toArray, List.map_cons, List.map_nil]); first | done | rfl | (simp only [List.length_drop, List.length_take]; rfl) | (simp only [gt_iff_lt, Int.natCast_pos]; done) | (simp only [gt_iff_lt, Int.natCast_pos]; rfl)) ?_; (with_reducible refine (nat_MulAdd.calls kj41 _ _ t497 1 1 t501 t504 _ ?side1 ?side2 A64.out).mono ?_); (case side1 => exact cS (Kd.V_reads' HO499.out).2.2); (case side2 => exact (Kd.V_reads' HO499.out).2.1); rintro e w99 ⟨v502, rfl, ho0, hb⟩; refine ⟨_, rfl, ?_⟩; have n0_ := Aside0.mk (Kd.V_below (vS <| HO499.out) hb); have n1_ := Aside0.mk (Kd.V_lower (Kd.V_mono (ok' := fun k_ => k_ ≠ gb460) ho0 (fun k_ hk_ => (Kd.freshB (g := gb460) (o := .cells #[.bool a0_0, .slice A0_1 l0_1.length c0_1, .slice A0_2 l0_2.length c0_2, .slice A0_3 l0_3.length c0_3, .int .i64 a0_4, .int .u8 a0_5] 24 (0, 0)) (by exact bkS BK460.out) k_ hk_))) (below_size (by repeat (first | (with_reducible first | exact HB.out | apply below_alloc | apply pw_below_drewN | apply below_drew1 | refine below_set ?_ GE460.out) | exact HB.out)))); have n2_ := Aside0.mk (blk_below (g := gb460) (o := .cells #[.bool a0_0, .slice A0_1 l0_1.length c0_1, .slice A0_2 l0_2.length c0_2, .slice A0_3 l0_3.length c0_3, .int .i64 a0_4, .int .u8 a0_5] 24 (0, 0)) (by exact bkS BK460.out) hb); have n3_ := Aside0.mk (below_step (by repeat (first | (with_reducible first | exact HB.out | apply below_alloc | apply pw_below_drewN | apply below_drew1 | refine below_set ?_ GE460.out) | exact HB.out)) hb); clear HO499; clear BK460; clear HB; have HO499 := n0_; have HO503 := n1_; have BK460 := n2_; have HB := n3_; clear n0_ n1_ n2_ n3_; (try clear hb); (try clear hb2); (try clear hk); (try clear hi); (try clear ho0)) | ((with_reducible refine gate_callee (f := 15) rfl ?_); refine goesL_ (some 193) rfl rfl Tryd.func15 (by kernel_rfl) rfl #[.bool false, .slice A0_1 l0_1.length c0_1, .int .i64 a0_4, .bool true] rfl (by (try simp only [List.map_toArray, List.map_cons, List.map_nil]); first | done | rfl | (simp only [List.length_drop, List.length_take]; rfl) | (simp only [gt_iff_lt, Int.natCast_pos]; done) | (simp only [gt_iff_lt, Int.natCast_pos]; rfl)) ?_; (with_reducible refine (ieee_Round.calls kj41 false _ _ l0_1 a0_4 true t505 t506 _ ?side3 ?side1 ?side2 A65.out).mono ?_); (case side1 => exact cS (Kd.C_below HR0_1.out HB.out)); (case side2 => exact HC0_1.out); (case side3 => exact cS (Kd.C_below HT.out HB.out)); rintro e w100 ⟨rfl, hb⟩; refine ⟨_, rfl, ?_⟩; have n0_ := Aside0.mk (Kd.V_below (vS <| HO499.out) hb); have n1_ := Aside0.mk (Kd.V_below (vS <| HO503.out) hb); have n2_ := Aside0.mk (blk_below (g := gb460) (o := .cells #[.bool a0_0, .slice A0_1 l0_1.length c0_1, .slice A0_2 l0_2.length c0_2, .slice A0_3 l0_3.length c0_3, .int .i64 a0_4, .int .u8 a0_5] 24 (0, 0)) (by exact bkS BK460.out) hb); have n3_ := Aside0.mk (below_step (by repeat (first | (with_reducible first | exact HB.out | apply below_alloc | apply pw_below_drewN | apply below_drew1 | refine below_set ?_ GE460.out) | exact HB.out)) hb); clear HO499; clear HO503; clear BK460; clear HB; have HO499 := n0_; have HO503 := n1_; have BK460 := n2_; have HB := n3_; clear n0_ n1_ n2_ n3_; (try clear hb); (try clear hb2); (try clear hk); (try clear hi); obtain ⟨Ao101, co101, eo101⟩ := Kd.V_slice HO503.out; subst eo101) | ((with_reducible refine gate_callee (f := 15) rfl ?_); refine goesL_ (some 200) rfl rfl Tryd.func15 (by kernel_rfl) rfl #[.bool false, .slice Ao101 t501.length co101, .int .i64 (wrap64 (a0_4 - 64)), .bool false] rfl (by (try simp only [List.map_toArray, List.map_cons, List.map_nil]); first | done | rfl | (simp only [List.length_drop, List.length_take]; rfl) | (simp only [gt_iff_lt, Int.natCast_pos]; done) | (simp only [gt_iff_lt, Int.natCast_pos]; rfl)) ?_; (with_reducible refine (ieee_Round.calls kj41 false _ _ t501 (wrap64 (a0_4 - 64)) false t507 t508 _ ?side3 ?side1 ?side2 A66.out).mono ?_); (case side1 => exact cS (Kd.V_reads' HO503.out).2.2); (case side2 => exact (Kd.V_reads' HO503.out).2.1); (case side3 => exact cS (Kd.C_below HT.out HB.out)); rintro e w102 ⟨rfl, hb⟩; refine ⟨_, rfl, ?_⟩; have n0_ := Aside0.mk (Kd.V_below (vS <| HO499.out) hb); have n1_ := Aside0.mk (Kd.V_below (vS <| HO503.out) hb); have n2_ := Aside0.mk (blk_below (g := gb460) (o := .cells #[.bool a0_0, .slice A0_1 l0_1.length c0_1, .slice A0_2 l0_2.length c0_2, .slice A0_3 l0_3.length c0_3, .int .i64 a0_4, .int .u8 a0_5] 24 (0, 0)) (by exact bkS BK460.out) hb); have n3_ := Aside0.mk (below_step (by repeat (first | (with_reducible first | exact HB.out | apply below_alloc | apply pw_below_drewN | apply below_drew1 | refine below_set ?_ GE460.out) | exact HB.out)) hb); clear HO499; clear HO503; clear BK460; clear HB; have HO499 := n0_; have HO503 := n1_; have BK460 := n2_; have HB := n3_; clear n0_ n1_ n2_ n3_; (try clear hb); (try clear hb2); (try clear hk); (try clear hi)))
                go_ret
                exact ⟨by first | rfl | (simp [errW_none, errW_some] <;> rfl) | (simp [*, errW_none, errW_some] <;> rfl), by repeat (first | (with_reducible first | exact HB.out | apply below_alloc | apply pw_below_drewN | apply below_drew1 | refine below_set ?_ GE460.out) | exact HB.out)⟩
             ·rw [if_neg c68] at H
              have c68b0 : (t504 == 0) = false := beq_eq_false_iff_ne.mpr c68
              have c68b1 : (t504 != 0) = true := bne_iff_ne.mpr c68
              as_aux_lemma =>
               obtain rfl := Option.some.inj H
               go_wp2_with (first | ((with_reducible refine gate_callee (f := 13) rfl ?_); refine goesL_ (some 176) rfl rfl Tryd.func13 (by kernel_rfl) rfl #[.slice A0_1 l0_1.length c0_1] rfl (by (try simp only [List.map_toArray, List.map_cons, List.map_nil]); first | done | rfl | (simp only [List.length_drop, List.length_take]; rfl) | (simp only [gt_iff_lt, Int.natCast_pos]; done) | (simp only [gt_iff_lt, Int.natCast_pos]; rfl)) ?_; (with_reducible refine (nat_BitLen.calls kj41 _ _ l0_1 t496 _ ?side1 ?side2 A61.out).mono ?_); (case side1 => exact cS (Kd.C_below HR0_1.out HB.out)); (case side2 => exact HC0_1.out); rintro e w' ⟨rfl, ⟨nd, rfl⟩⟩; refine ⟨_, rfl, ?_⟩) | ((with_reducible refine gate_callee (f := 29) rfl ?_); refine goesL_ (some 182) rfl rfl Tryd.func29 (by kernel_rfl) rfl #[.slice A0_1 l0_1.length c0_1, .int .i64 64] rfl (by (try simp only [List.map_toArray, List.map_cons, List.map_nil]); first | done | rfl | (simp only [List.length_drop, List.length_take]; rfl) | (simp only [gt_iff_lt, Int.natCast_pos]; done) | (simp only [gt_iff_lt, Int.natCast_pos]; rfl)) ?_; (with_reducible refine (nat_Shl.calls kj41 _ _ l0_1 64 t497 t500 _ ?side1 ?side2 A63.out).mono ?_); (case side1 => repeat (first | exact (Kd.C_below HR0_1.out (by repeat (first | (with_reducible first | exact HB.out | apply below_alloc | apply pw_below_drewN | apply below_drew1 | refine below_set ?_ GE460.out) | exact HB.out))) | (with_reducible refine Kd.C_alloc ?_ _) | (with_reducible refine Kd.C_drewN ?_ _) | (with_reducible refine Kd.C_drew ?_))); (case side2 => exact HC0_1.out); rintro e w103 ⟨v498, rfl, ho0, hb⟩; refine ⟨_, rfl, ?_⟩; have n0_ := Aside0.mk (Kd.V_lower (Kd.V_mono (ok' := fun k_ => k_ ≠ gb460) ho0 (fun k_ hk_ => (Kd.freshB (g := gb460) (o := .cells #[.bool a0_0, .slice A0_1 l0_1.length c0_1, .slice A0_2 l0_2.length c0_2, .slice A0_3 l0_3.length c0_3, .int .i64 a0_4, .int .u8 a0_5] 24 (0, 0)) (by exact bkS BK460.out) k_ hk_))) (below_size (by repeat (first | (with_reducible first | exact HB.out | apply below_alloc | apply pw_below_drewN | apply below_drew1 | refine below_set ?_ GE460.out) | exact HB.out)))); have n1_ := Aside0.mk (blk_below (g := gb460) (o := .cells #[.bool a0_0, .slice A0_1 l0_1.length c0_1, .slice A0_2 l0_2.length c0_2, .slice A0_3 l0_3.length c0_3, .int .i64 a0_4, .int .u8 a0_5] 24 (0, 0)) (by exact bkS BK460.out) hb); have n2_ := Aside0.mk (below_step (by repeat (first | (with_reducible first | exact HB.out | apply below_alloc | apply pw_below_drewN | apply below_drew1 | refine below_set ?_ GE460.out) | exact HB.out)) hb); clear BK460; clear HB; have HO499 := n0_; have BK460 := n1_; have HB := n2_; clear n0_ n1_ n2_; (try clear hb); (try clear hb2); (try clear hk); (try clear hi); (try clear ho0); obtain ⟨Ao104, co104, eo104⟩ := Kd.V_slice HO499.out; subst eo104) | ((with_reducible refine gate_callee (f := 31) rfl ?_); refine goesL_ (some 187) rfl rfl Tryd.func31 (by kernel_rfl) rfl #[.slice Ao104 t497.length co104, .int .u64 1, .int .u64 1] rfl (by (try simp only [List.map_toArray, List.map_cons, List.map_nil]); first | done | rfl | (simp only [List.length_drop, List.length_take]; rfl) | (simp only [gt_iff_lt, Int.natCast_pos]; done) | (simp only [gt_iff_lt, Int.natCast_pos]; rfl)) ?_; (with_reducible refine (nat_MulAdd.calls kj41 _ _ t497 1 1 t501 t504 _ ?side1 ?side2 A64.out).mono ?_); (case side1 => exact cS (Kd.V_reads' HO499.out).2.2); (case side2 => exact (Kd.V_reads' HO499.out).2.1); rintro e w105 ⟨v502, rfl, ho0, hb⟩; refine ⟨_, rfl, ?_⟩; have n0_ := Aside0.mk (Kd.V_below (vS <| HO499.out) hb); have n1_ := Aside0.mk (Kd.V_lower (Kd.V_mono (ok' := fun k_ => k_ ≠ gb460) ho0 (fun k_ hk_ => (Kd.freshB (g := gb460) (o := .cells #[.bool a0_0, .slice A0_1 l0_1.length c0_1, .slice A0_2 l0_2.length c0_2, .slice A0_3 l0_3.length c0_3, .int .i64 a0_4, .int .u8 a0_5] 24 (0, 0)) (by exact bkS BK460.out) k_ hk_))) (below_size (by repeat (first | (with_reducible first | exact HB.out | apply below_alloc | apply pw_below_drewN | apply below_drew1 | refine below_set ?_ GE460.out) | exact HB.out)))); have n2_ := Aside0.mk (blk_below (g := gb460) (o := .cells #[.bool a0_0, .slice A0_1 l0_1.length c0_1, .slice A0_2 l0_2.length c0_2, .slice A0_3 l0_3.length c0_3, .int .i64 a0_4, .int .u8 a0_5] 24 (0, 0)) (by exact bkS BK460.out) hb); have n3_ := Aside0.mk (below_step (by repeat (first | (with_reducible first | exact HB.out | apply below_alloc | apply pw_below_drewN | apply below_drew1 | refine below_set ?_ GE460.out) | exact HB.out)) hb); clear HO499; clear BK460; clear HB; have HO499 := n0_; have HO503 := n1_; have BK460 := n2_; have HB := n3_; clear n0_ n1_ n2_ n3_; (try clear hb); (try clear hb2); (try clear hk); (try clear hi); (try clear ho0)) | ((with_reducible refine gate_callee (f := 15) rfl ?_); refine goesL_ (some 193) rfl rfl Tryd.func15 (by kernel_rfl) rfl #[.bool false, .slice A0_1 l0_1.length c0_1, .int .i64 a0_4, .bool true] rfl (by (try simp only [List.map_toArray, List.map_cons, List.map_nil]); first | done | rfl | (simp only [List.length_drop, List.length_take]; rfl) | (simp only [gt_iff_lt, Int.natCast_pos]; done) | (simp only [gt_iff_lt, Int.natCast_pos]; rfl)) ?_; (with_reducible refine (ieee_Round.calls kj41 false _ _ l0_1 a0_4 true t505 t506 _ ?side3 ?side1 ?side2 A65.out).mono ?_); (case side1 => exact cS (Kd.C_below HR0_1.out HB.out)); (case side2 => exact HC0_1.out); (case side3 => exact cS (Kd.C_below HT.out HB.out)); rintro e w106 ⟨rfl, hb⟩; refine ⟨_, rfl, ?_⟩; have n0_ := Aside0.mk (Kd.V_below (vS <| HO499.out) hb); have n1_ := Aside0.mk (Kd.V_below (vS <| HO503.out) hb); have n2_ := Aside0.mk (blk_below (g := gb460) (o := .cells #[.bool a0_0, .slice A0_1 l0_1.length c0_1, .slice A0_2 l0_2.length c0_2, .slice A0_3 l0_3.length c0_3, .int .i64 a0_4, .int .u8 a0_5] 24 (0, 0)) (by exact bkS BK460.out) hb); have n3_ := Aside0.mk (below_step (by repeat (first | (with_reducible first | exact HB.out | apply below_alloc | apply pw_below_drewN | apply below_drew1 | refine below_set ?_ GE460.out) | exact HB.out)) hb); clear HO499; clear HO503; clear BK460; clear HB; have HO499 := n0_; have HO503 := n1_; have BK460 := n2_; have HB := n3_; clear n0_ n1_ n2_ n3_; (try clear hb); (try clear hb2); (try clear hk); (try clear hi); obtain ⟨Ao107, co107, eo107⟩ := Kd.V_slice HO503.out; subst eo107) | ((with_reducible refine gate_callee (f := 15) rfl ?_); refine goesL_ (some 200) rfl rfl Tryd.func15 (by kernel_rfl) rfl #[.bool false, .slice Ao107 t501.length co107, .int .i64 (wrap64 (a0_4 - 64)), .bool false] rfl (by (try simp only [List.map_toArray, List.map_cons, List.map_nil]); first | done | rfl | (simp only [List.length_drop, List.length_take]; rfl) | (simp only [gt_iff_lt, Int.natCast_pos]; done) | (simp only [gt_iff_lt, Int.natCast_pos]; rfl)) ?_; (with_reducible refine (ieee_Round.calls kj41 false _ _ t501 (wrap64 (a0_4 - 64)) false t507 t508 _ ?side3 ?side1 ?side2 A66.out).mono ?_); (case side1 => exact cS (Kd.V_reads' HO503.out).2.2); (case side2 => exact (Kd.V_reads' HO503.out).2.1); (case side3 => exact cS (Kd.C_below HT.out HB.out)); rintro e w108 ⟨rfl, hb⟩; refine ⟨_, rfl, ?_⟩; have n0_ := Aside0.mk (Kd.V_below (vS <| HO499.out) hb); have n1_ := Aside0.mk (Kd.V_below (vS <| HO503.out) hb); have n2_ := Aside0.mk (blk_below (g := gb460) (o := .cells #[.bool a0_0, .slice A0_1 l0_1.length c0_1, .slice A0_2 l0_2.length c0_2, .slice A0_3 l0_3.length c0_3, .int .i64 a0_4, .int .u8 a0_5] 24 (0, 0)) (by exact bkS BK460.out) hb); have n3_ := Aside0.mk (below_step (by repeat (first | (with_reducible first | exact HB.out | apply below_alloc | apply pw_below_drewN | apply below_drew1 | refine below_set ?_ GE460.out) | exact HB.out)) hb); clear HO499; clear HO503; clear BK460; clear HB; have HO499 := n0_; have HO503 := n1_; have BK460 := n2_; have HB := n3_; clear n0_ n1_ n2_ n3_; (try clear hb); (try clear hb2); (try clear hk); (try clear hi)))
               go_ret
               exact ⟨by first | rfl | (simp [errW_none, errW_some] <;> rfl) | (simp [*, errW_none, errW_some] <;> rfl), by repeat (first | (with_reducible first | exact HB.out | apply below_alloc | apply pw_below_drewN | apply below_drew1 | refine below_set ?_ GE460.out) | exact HB.out)⟩
            ·rw [if_neg c67] at H
             have c67b0 : (t500 == 0) = false := beq_eq_false_iff_ne.mpr c67
             have c67b1 : (t500 != 0) = true := bne_iff_ne.mpr c67
             as_aux_lemma =>
              obtain rfl := Option.some.inj H
              go_wp2_with (first | ((with_reducible refine gate_callee (f := 13) rfl ?_); refine goesL_ (some 176) rfl rfl Tryd.func13 (by kernel_rfl) rfl #[.slice A0_1 l0_1.length c0_1] rfl (by (try simp only [List.map_toArray, List.map_cons, List.map_nil]); first | done | rfl | (simp only [List.length_drop, List.length_take]; rfl) | (simp only [gt_iff_lt, Int.natCast_pos]; done) | (simp only [gt_iff_lt, Int.natCast_pos]; rfl)) ?_; (with_reducible refine (nat_BitLen.calls kj41 _ _ l0_1 t496 _ ?side1 ?side2 A61.out).mono ?_); (case side1 => exact cS (Kd.C_below HR0_1.out HB.out)); (case side2 => exact HC0_1.out); rintro e w' ⟨rfl, ⟨nd, rfl⟩⟩; refine ⟨_, rfl, ?_⟩) | ((with_reducible refine gate_callee (f := 29) rfl ?_); refine goesL_ (some 182) rfl rfl Tryd.func29 (by kernel_rfl) rfl #[.slice A0_1 l0_1.length c0_1, .int .i64 64] rfl (by (try simp only [List.map_toArray, List.map_cons, List.map_nil]); first | done | rfl | (simp only [List.length_drop, List.length_take]; rfl) | (simp only [gt_iff_lt, Int.natCast_pos]; done) | (simp only [gt_iff_lt, Int.natCast_pos]; rfl)) ?_; (with_reducible refine (nat_Shl.calls kj41 _ _ l0_1 64 t497 t500 _ ?side1 ?side2 A63.out).mono ?_); (case side1 => repeat (first | exact (Kd.C_below HR0_1.out (by repeat (first | (with_reducible first | exact HB.out | apply below_alloc | apply pw_below_drewN | apply below_drew1 | refine below_set ?_ GE460.out) | exact HB.out))) | (with_reducible refine Kd.C_alloc ?_ _) | (with_reducible refine Kd.C_drewN ?_ _) | (with_reducible refine Kd.C_drew ?_))); (case side2 => exact HC0_1.out); rintro e w109 ⟨v498, rfl, ho0, hb⟩; refine ⟨_, rfl, ?_⟩; have n0_ := Aside0.mk (Kd.V_lower (Kd.V_mono (ok' := fun k_ => k_ ≠ gb460) ho0 (fun k_ hk_ => (Kd.freshB (g := gb460) (o := .cells #[.bool a0_0, .slice A0_1 l0_1.length c0_1, .slice A0_2 l0_2.length c0_2, .slice A0_3 l0_3.length c0_3, .int .i64 a0_4, .int .u8 a0_5] 24 (0, 0)) (by exact bkS BK460.out) k_ hk_))) (below_size (by repeat (first | (with_reducible first | exact HB.out | apply below_alloc | apply pw_below_drewN | apply below_drew1 | refine below_set ?_ GE460.out) | exact HB.out)))); have n1_ := Aside0.mk (blk_below (g := gb460) (o := .cells #[.bool a0_0, .slice A0_1 l0_1.length c0_1, .slice A0_2 l0_2.length c0_2, .slice A0_3 l0_3.length c0_3, .int .i64 a0_4, .int .u8 a0_5] 24 (0, 0)) (by exact bkS BK460.out) hb); have n2_ := Aside0.mk (below_step (by repeat (first | (with_reducible first | exact HB.out | apply below_alloc | apply pw_below_drewN | apply below_drew1 | refine below_set ?_ GE460.out) | exact HB.out)) hb); clear BK460; clear HB; have HO499 := n0_; have BK460 := n1_; have HB := n2_; clear n0_ n1_ n2_; (try clear hb); (try clear hb2); (try clear hk); (try clear hi); (try clear ho0); obtain ⟨Ao110, co110, eo110⟩ := Kd.V_slice HO499.out; subst eo110) | ((with_reducible refine gate_callee (f := 31) rfl ?_); refine goesL_ (some 187) rfl rfl Tryd.func31 (by kernel_rfl) rfl #[.slice Ao110 t497.length co110, .int .u64 1, .int .u64 1] rfl (by (try simp only [List.map_toArray, List.map_cons, List.map_nil]); first | done | rfl | (simp only [List.length_drop, List.length_take]; rfl) | (simp only [gt_iff_lt, Int.natCast_pos]; done) | (simp only [gt_iff_lt, Int.natCast_pos]; rfl)) ?_; (with_reducible refine (nat_MulAdd.calls kj41 _ _ t497 1 1 t501 t504 _ ?side1 ?side2 A64.out).mono ?_); (case side1 => exact cS (Kd.V_reads' HO499.out).2.2); (case side2 => exact (Kd.V_reads' HO499.out).2.1); rintro e w111 ⟨v502, rfl, ho0, hb⟩; refine ⟨_, rfl, ?_⟩; have n0_ := Aside0.mk (Kd.V_below (vS <| HO499.out) hb); have n1_ := Aside0.mk (Kd.V_lower (Kd.V_mono (ok' := fun k_ => k_ ≠ gb460) ho0 (fun k_ hk_ => (Kd.freshB (g := gb460) (o := .cells #[.bool a0_0, .slice A0_1 l0_1.length c0_1, .slice A0_2 l0_2.length c0_2, .slice A0_3 l0_3.length c0_3, .int .i64 a0_4, .int .u8 a0_5] 24 (0, 0)) (by exact bkS BK460.out) k_ hk_))) (below_size (by repeat (first | (with_reducible first | exact HB.out | apply below_alloc | apply pw_below_drewN | apply below_drew1 | refine below_set ?_ GE460.out) | exact HB.out)))); have n2_ := Aside0.mk (blk_below (g := gb460) (o := .cells #[.bool a0_0, .slice A0_1 l0_1.length c0_1, .slice A0_2 l0_2.length c0_2, .slice A0_3 l0_3.length c0_3, .int .i64 a0_4, .int .u8 a0_5] 24 (0, 0)) (by exact bkS BK460.out) hb); have n3_ := Aside0.mk (below_step (by repeat (first | (with_reducible first | exact HB.out | apply below_alloc | apply pw_below_drewN | apply below_drew1 | refine below_set ?_ GE460.out) | exact HB.out)) hb); clear HO499; clear BK460; clear HB; have HO499 := n0_; have HO503 := n1_; have BK460 := n2_; have HB := n3_; clear n0_ n1_ n2_ n3_; (try clear hb); (try clear hb2); (try clear hk); (try clear hi); (try clear ho0)) | ((with_reducible refine gate_callee (f := 15) rfl ?_); refine goesL_ (some 193) rfl rfl Tryd.func15 (by kernel_rfl) rfl #[.bool false, .slice A0_1 l0_1.length c0_1, .int .i64 a0_4, .bool true] rfl (by (try simp only [List.map_toArray, List.map_cons, List.map_nil]); first | done | rfl | (simp only [List.length_drop, List.length_take]; rfl) | (simp only [gt_iff_lt, Int.natCast_pos]; done) | (simp only [gt_iff_lt, Int.natCast_pos]; rfl)) ?_; (with_reducible refine (ieee_Round.calls kj41 false _ _ l0_1 a0_4 true t505 t506 _ ?side3 ?side1 ?side2 A65.out).mono ?_); (case side1 => exact cS (Kd.C_below HR0_1.out HB.out)); (case side2 => exact HC0_1.out); (case side3 => exact cS (Kd.C_below HT.out HB.out)); rintro e w112 ⟨rfl, hb⟩; refine ⟨_, rfl, ?_⟩; have n0_ := Aside0.mk (Kd.V_below (vS <| HO499.out) hb); have n1_ := Aside0.mk (Kd.V_below (vS <| HO503.out) hb); have n2_ := Aside0.mk (blk_below (g := gb460) (o := .cells #[.bool a0_0, .slice A0_1 l0_1.length c0_1, .slice A0_2 l0_2.length c0_2, .slice A0_3 l0_3.length c0_3, .int .i64 a0_4, .int .u8 a0_5] 24 (0, 0)) (by exact bkS BK460.out) hb); have n3_ := Aside0.mk (below_step (by repeat (first | (with_reducible first | exact HB.out | apply below_alloc | apply pw_below_drewN | apply below_drew1 | refine below_set ?_ GE460.out) | exact HB.out)) hb); clear HO499; clear HO503; clear BK460; clear HB; have HO499 := n0_; have HO503 := n1_; have BK460 := n2_; have HB := n3_; clear n0_ n1_ n2_ n3_; (try clear hb); (try clear hb2); (try clear hk); (try clear hi); obtain ⟨Ao113, co113, eo113⟩ := Kd.V_slice HO503.out; subst eo113) | ((with_reducible refine gate_callee (f := 15) rfl ?_); refine goesL_ (some 200) rfl rfl Tryd.func15 (by kernel_rfl) rfl #[.bool false, .slice Ao113 t501.length co113, .int .i64 (wrap64 (a0_4 - 64)), .bool false] rfl (by (try simp only [List.map_toArray, List.map_cons, List.map_nil]); first | done | rfl | (simp only [List.length_drop, List.length_take]; rfl) | (simp only [gt_iff_lt, Int.natCast_pos]; done) | (simp only [gt_iff_lt, Int.natCast_pos]; rfl)) ?_; (with_reducible refine (ieee_Round.calls kj41 false _ _ t501 (wrap64 (a0_4 - 64)) false t507 t508 _ ?side3 ?side1 ?side2 A66.out).mono ?_); (case side1 => exact cS (Kd.V_reads' HO503.out).2.2); (case side2 => exact (Kd.V_reads' HO503.out).2.1); (case side3 => exact cS (Kd.C_below HT.out HB.out)); rintro e w114 ⟨rfl, hb⟩; refine ⟨_, rfl, ?_⟩; have n0_ := Aside0.mk (Kd.V_below (vS <| HO499.out) hb); have n1_ := Aside0.mk (Kd.V_below (vS <| HO503.out) hb); have n2_ := Aside0.mk (blk_below (g := gb460) (o := .cells #[.bool a0_0, .slice A0_1 l0_1.length c0_1, .slice A0_2 l0_2.length c0_2, .slice A0_3 l0_3.length c0_3, .int .i64 a0_4, .int .u8 a0_5] 24 (0, 0)) (by exact bkS BK460.out) hb); have n3_ := Aside0.mk (below_step (by repeat (first | (with_reducible first | exact HB.out | apply below_alloc | apply pw_below_drewN | apply below_drew1 | refine below_set ?_ GE460.out) | exact HB.out)) hb); clear HO499; clear HO503; clear BK460; clear HB; have HO499 := n0_; have HO503 := n1_; have BK460 := n2_; have HB := n3_; clear n0_ n1_ n2_ n3_; (try clear hb); (try clear hb2); (try clear hk); (try clear hi)))
              go_ret
              exact ⟨by first | rfl | (simp [errW_none, errW_some] <;> rfl) | (simp [*, errW_none, errW_some] <;> rfl), by repeat (first | (with_reducible first | exact HB.out | apply below_alloc | apply pw_below_drewN | apply below_drew1 | refine below_set ?_ GE460.out) | exact HB.out)⟩
 ·replace c3 := Bool.eq_false_iff.mpr c3
  subst c3
  have H1 : (some false) = some r := by rw [if_neg (show ¬ (false = true) by decide)] at H; exact H
  clear H
  have H := H1
  clear H1
  as_aux_lemma =>
   obtain rfl := Option.some.inj H
   go_enter Tryd.func8, Tryd.ntmps8
   go_wp2_with (first | ((with_reducible refine gate_dst (N := 1) rfl ?_); (try (refine gate_guard (by rfl) ?_; dsimp only)); refine box_event ?hg (N := 1) ?hd (cs := #[.bool a0_0, .slice A0_1 l0_1.length c0_1, .slice A0_2 l0_2.length c0_2, .slice A0_3 l0_3.length c0_3, .int .i64 a0_4, .int .u8 a0_5]) (t := 24) ?hr ?_; (case hd => rfl); (case hg => rfl); (case hr => first | (go_simp; done) | (go_simp; rfl)); intro gb460 hg w115 hbox hb; have n0_ := Aside0.mk (below_step (bS HB.out) hb); have n1_ := Aside0.mk (hbox); have n2_ := Aside0.mk ((by rw [hg]; exact (below_size (bS HB.out)) : w.heap.size ≤ gb460)); have n3_ := Aside0.mk ((by rw [hg]; exact (below_size (bS HB.out)) : w.heap.size ≤ gb460)); clear HB; have HB := n0_; have BK460 := n1_; have GW460 := n2_; have GE460 := n3_; clear n0_ n1_ n2_ n3_; clear hb hbox hg) | ((with_reducible refine gate_callee (f := 12) rfl ?_); refine goesL_ (some 25) rfl rfl Tryd.func12 (by kernel_rfl) rfl #[] rfl (by (try simp only [List.map_toArray, List.map_cons, List.map_nil]); first | done | rfl | (simp only [List.length_drop, List.length_take]; rfl) | (simp only [gt_iff_lt, Int.natCast_pos]; done) | (simp only [gt_iff_lt, Int.natCast_pos]; rfl)) ?_; (with_reducible refine (abacuslaw04_awake.calls k  false _ ?side1 A2.out).mono ?_); (case side1 => exact cS (Kd.C_below HT.out HB.out)); rintro e w116 ⟨rfl, hb⟩; refine ⟨_, rfl, ?_⟩; have n0_ := Aside0.mk (blk_below (g := gb460) (o := .cells #[.bool a0_0, .slice A0_1 l0_1.length c0_1, .slice A0_2 l0_2.length c0_2, .slice A0_3 l0_3.length c0_3, .int .i64 a0_4, .int .u8 a0_5] 24 (0, 0)) (by exact bkS BK460.out) hb); have n1_ := Aside0.mk (below_step (by repeat (first | (with_reducible first | exact HB.out | apply below_alloc | apply pw_below_drewN | apply below_drew1 | refine below_set ?_ GE460.out) | exact HB.out)) hb); clear BK460; clear HB; have BK460 := n0_; have HB := n1_; clear n0_ n1_; (try clear hb); (try clear hb2); (try clear hk); (try clear hi)))
   go_ret
   exact ⟨by first | rfl | (simp [errW_none, errW_some] <;> rfl) | (simp [*, errW_none, errW_some] <;> rfl), by repeat (first | (with_reducible first | exact HB.out | apply below_alloc | apply pw_below_drewN | apply below_drew1 | refine below_set ?_ GE460.out) | exact HB.out)⟩

/-- THE ONE PURE STATEMENT of abacuslaw04_IeeeScaled. -/
def abacuslaw04_IeeeScaled.Pure : Prop := ∀ (a0_0 : Bool) (l0_1 : List Int) (l0_2 : List Int) (l0_3 : List Int) (a0_4 : Int) (a0_5 : Int), l0_1.length ≤ maxLen → l0_1.length * 8 ≤ 140737488351232 → (∀ x ∈ l0_1, (Lit.int .u64 x).wf = true) → l0_2.length ≤ maxLen → l0_2.length * 8 ≤ 140737488351232 → (∀ x ∈ l0_2, (Lit.int .u64 x).wf = true) → l0_3.length ≤ maxLen → l0_3.length * 8 ≤ 140737488351232 → (∀ x ∈ l0_3, (Lit.int .u64 x).wf = true) → (Lit.int .i64 a0_4).wf = true → (Lit.int .u8 a0_5).wf = true → ∃ k, abacuslaw04_IeeeScaled.f k a0_0 l0_1 l0_2 l0_3 a0_4 a0_5 = some true
theorem abacuslaw04_IeeeScaled.walk (P : abacuslaw04_IeeeScaled.Pure) (a0_0 : Bool) (a0_1 : Option Addr) (len0_1 cap0_1 : Nat) (z0_1 : List Int) (a0_2 : Option Addr) (len0_2 cap0_2 : Nat) (z0_2 : List Int) (a0_3 : Option Addr) (len0_3 cap0_3 : Nat) (z0_3 : List Int) (a0_4 : Int) (a0_5 : Int) (w : World) (hT : Kd.C (Kd.int .u8) w (some ⟨0, 0, none⟩) 64 tabL) (w0_1 : (a0_1 = none ∧ len0_1 = 0 ∧ cap0_1 = 0 ∧ z0_1 = []) ∨ ∃ x, a0_1 = some x ∧ len0_1 ≤ cap0_1 ∧ cap0_1 ≤ maxLen ∧ z0_1.length = cap0_1 ∧ (∀ i, i < z0_1.length → w.cell? (x.add i) = some (.int .u64 (z0_1.getD i 0))) ∧ ∀ n ∈ z0_1, (Lit.int .u64 n).wf = true) (y0_1 : len0_1 * 8 ≤ 140737488351232) (w0_2 : (a0_2 = none ∧ len0_2 = 0 ∧ cap0_2 = 0 ∧ z0_2 = []) ∨ ∃ x, a0_2 = some x ∧ len0_2 ≤ cap0_2 ∧ cap0_2 ≤ maxLen ∧ z0_2.length = cap0_2 ∧ (∀ i, i < z0_2.length → w.cell? (x.add i) = some (.int .u64 (z0_2.getD i 0))) ∧ ∀ n ∈ z0_2, (Lit.int .u64 n).wf = true) (y0_2 : len0_2 * 8 ≤ 140737488351232) (w0_3 : (a0_3 = none ∧ len0_3 = 0 ∧ cap0_3 = 0 ∧ z0_3 = []) ∨ ∃ x, a0_3 = some x ∧ len0_3 ≤ cap0_3 ∧ cap0_3 ≤ maxLen ∧ z0_3.length = cap0_3 ∧ (∀ i, i < z0_3.length → w.cell? (x.add i) = some (.int .u64 (z0_3.getD i 0))) ∧ ∀ n ∈ z0_3, (Lit.int .u64 n).wf = true) (y0_3 : len0_3 * 8 ≤ 140737488351232) (w0_4 : (Lit.int .i64 a0_4).wf = true) (w0_5 : (Lit.int .u8 a0_5).wf = true) :
  Calls Tryd.prog 8 #[.agg #[.bool a0_0, .slice a0_1 len0_1 cap0_1, .slice a0_2 len0_2 cap0_2, .slice a0_3 len0_3 cap0_3, .int .i64 a0_4, .int .u8 a0_5]] w fun e w' => e = .returned (.bool true) ∧ Below w.heap.size w w' := by
 obtain ⟨l0_1, rfl, hr0_1, hm0_1, hw0_1, hc0_1⟩ := ReadsInt.ofRowC w0_1
 obtain ⟨l0_2, rfl, hr0_2, hm0_2, hw0_2, hc0_2⟩ := ReadsInt.ofRowC w0_2
 obtain ⟨l0_3, rfl, hr0_3, hm0_3, hw0_3, hc0_3⟩ := ReadsInt.ofRowC w0_3
 obtain ⟨k, h⟩ := P a0_0 l0_1 l0_2 l0_3 a0_4 a0_5 hm0_1 y0_1 hw0_1 hm0_2 y0_2 hw0_2 hm0_3 y0_3 hw0_3 w0_4 w0_5
 refine (abacuslaw04_IeeeScaled.calls k a0_0 _ _ l0_1 _ _ l0_2 _ _ l0_3 a0_4 a0_5 true w hT (Kd.C_of_reads (d := (0 : Int)) (h1 := fun _ => rfl) hr0_1) hc0_1 (Kd.C_of_reads (d := (0 : Int)) (h1 := fun _ => rfl) hr0_2) hc0_2 (Kd.C_of_reads (d := (0 : Int)) (h1 := fun _ => rfl) hr0_3) hc0_3 h).mono ?_
 rintro e w' ⟨rfl, hd⟩
 exact ⟨rfl, hd⟩

end Go.Proofs.YtiigfmmflicdpaaDoor.PN
