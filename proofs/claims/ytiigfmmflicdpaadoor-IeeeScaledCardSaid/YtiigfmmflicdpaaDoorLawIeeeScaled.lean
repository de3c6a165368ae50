-- printed by a program
import Derived.Test.YtiigfmmflicdpaaDoorRows
import Derived.Test.YtiigfmmflicdpaaDoorCards
import Derived.Test.YtiigfmmflicdpaaDoorTie
import Derived.Test.YtiigfmmflicdpaaDoorX
import Derived.Lib.LaidTab
import Derived.Deep.DeepHandedRow
import Derived.Test.YtiigfmmflicdpaaDoorPNx12
import Derived.Test.YtiigfmmflicdpaaDoorPureIeeeScaled
import Derived.Test.YtiigfmmflicdpaaDoorS
import Derived.WalkKit
import Derived.ProofKit
import Derived.OpenShut
import Derived.ShutString
import Derived.ChangeOld
import Derived.Below
import Derived.SizedLaws
import Derived.Test.YtiigfmmflicdpaaDoorWSized
namespace Go.Proofs.YtiigfmmflicdpaaDoor.ieeeScaled
open Go.ChangeShapes Go.WideShapes Go.ChangeAt Go.RowKit Go.Proofs.YtiigfmmflicdpaaDoorS
open Go.ChangeMaps (open_string shut_string)
set_option linter.unusedVariables false
theorem own : ownKnob Tryd.prog.godebug = none := by kernel_rfl
theorem laidOut : laidOutB Tryd.prog = true := by kernel_rfl
def IsRow (k : IntKind) (w : World) (a : Option Addr) (len cap : Nat) (zs : List Int) : Prop :=
  (a = none ∧ len = 0 ∧ cap = 0 ∧ zs = []) ∨
  ∃ x, a = some x ∧ len ≤ cap ∧ cap ≤ maxLen ∧ zs.length = cap ∧ (∀ i, i < zs.length → w.cell? (x.add i) = some (.int k (zs.getD i 0))) ∧ ∀ n ∈ zs, (Lit.int k n).wf = true
theorem gTab : Tryd.prog.globalNamed "math/bits.deBruijn64tab" = some 0 := by kernel_rfl
theorem gTabType : (Tryd.prog.globals[0]?).map (·.type) = some 97 := by kernel_rfl
theorem cellsT : Tryd.prog.cellsOf 97 = 64 := by kernel_rfl
theorem cellsE : Tryd.prog.cellsOf 5 = 1 := by kernel_rfl
theorem undT : Tryd.prog.underlying 97 = some (.array 64 5) := by kernel_rfl
theorem undE : Tryd.prog.underlying 5 = some (.int .u8) := by kernel_rfl
theorem table {W : World} (h : laidMetH Tryd.prog Rows.ieeeScaledRow.laid W) : Go.Proofs.YtiigfmmflicdpaaDoorW.PrintWords.Kd.C (Go.Proofs.YtiigfmmflicdpaaDoorW.PrintWords.Kd.int .u8) W (some ⟨0, 0, none⟩) 64 Go.Proofs.YtiigfmmflicdpaaDoorX.tabL := by
  have hT : Lib.TabIs Tryd.prog W "math/bits.deBruijn64tab" .u8 Go.Proofs.YtiigfmmflicdpaaDoorX.tabL := Lib.tabIs_of_head (rest := []) gTab gTabType undT undE cellsE cellsT h
  exact Go.Proofs.YtiigfmmflicdpaaDoorX.tabL_of fun j hj => hT.cell gTab j (by rw [show Go.Proofs.YtiigfmmflicdpaaDoorX.tabL.length = 64 from rfl]; exact hj)
set_option maxRecDepth 100000 in
theorem contract (H : Type) (enc : TypeId × Value → H) (W : World) (base : Nat) (args : Array Value) (ds gs : List (DataW H)) (before : List MemPlace)
    (hval0 : ∀ (j : Nat) t v, Tryd.f8.params[j]? = some t → args[j]? = some v → Value.okWide Tryd.prog W .any base t v)
    (hW : DataW.Whole enc Tryd.prog Tryd.f8.params.toList Rows.ieeeScaledSpec.vars false W args.toList ds gs before)
    (hsz0 : (DataW.weightsEach Tryd.prog (Tryd.f8.params.toList ++ Rows.ieeeScaledSpec.plain.varTypes Tryd.prog) (ds ++ gs)).all (· ≤ reachBytes) = true)
    (hL : laidMetH Tryd.prog Rows.ieeeScaledRow.laid W) :
    Calls Tryd.prog 8 args W fun e W' => ∃ v, e = .returned v ∧ Rows.ieeeScaledSpec.post enc Tryd.prog Tryd.f8 false true false false W args v W' := by
  have hT := table hL
  have hsz : (DataW.weightsEach Tryd.prog (Tryd.f8.params.toList ++ Rows.ieeeScaledSpec.plain.varTypes Tryd.prog) (ds ++ gs)).all (· ≤ reachBytes) = true := hsz0
  have hval : ∀ (j : Nat) t v, Tryd.f8.params[j]? = some t → args[j]? = some v → Value.okWide Tryd.prog W .any base t v := hval0
  have hW' := hW
  obtain ⟨p, q, hA0, hV, rfl, hfz, hnd⟩ := hW
  have hA : DataW.TrodAll enc Tryd.prog W 0 (fun _ => true) true Tryd.f8.params.toList args.toList ds p := hA0
  rw [Tryd.params8] at hA hval hsz
  obtain ⟨v0, vs0, d0, ds0, p0, q0, hargs, rfl, rfl, h0, r0⟩ := trodAll_cons hA
  obtain ⟨rfl, rfl, rfl⟩ := trodAll_nil r0
  obtain rfl : args = #[v0] := by cases args; simp_all
  obtain ⟨rfl, rfl⟩ := trodVars_none hV
  have k0 := h0
  have lt0 : ∀ x ∈ p0, x.block < W.heap.size := by obtain ⟨m, hm⟩ := k0; exact DataW.trod_lt m _ _ _ hm
  obtain ⟨u0_0, u0_1, u0_2, u0_3, u0_4, u0_5, e0_0, e0_1, e0_2, e0_3, e0_4, e0_5, n0, rfl, rfl, rfl, g0_0, g0_1, g0_2, g0_3, g0_4, g0_5⟩ := open_agg6' Tryd.underlying24 (by kernel_rfl) (by kernel_rfl) (hval 0 24 v0 rfl rfl) h0
  have hz0 := sized_agg hsz (j := 0) rfl rfl Tryd.underlying24
  obtain ⟨a0_0, hu0_0, he0_0⟩ := DataW.trod_bool Tryd.underlying4 g0_0
  obtain rfl : u0_0 = .bool a0_0 := by simpa using hu0_0
  have q0_1 := g0_1
  obtain ⟨a0_1, len0_1, cap0_1, z0_1, rfl, w0_1⟩ := field_ints Tryd.underlying22 Tryd.underlying28 (by kernel_rfl) g0_1
  simp only [if_true] at w0_1
  have y0_1 : len0_1 * 8 ≤ 140737488351232 := Go.Proofs.YtiigfmmflicdpaaDoorW.PrintWords.sized_ints hz0 (j := 1) (t := 22) rfl rfl Tryd.underlying22 Tryd.underlying28 (by kernel_rfl) (by kernel_rfl) ⟨n0, q0_1⟩
  have q0_2 := g0_2
  obtain ⟨a0_2, len0_2, cap0_2, z0_2, rfl, w0_2⟩ := field_ints Tryd.underlying22 Tryd.underlying28 (by kernel_rfl) g0_2
  simp only [if_true] at w0_2
  have y0_2 : len0_2 * 8 ≤ 140737488351232 := Go.Proofs.YtiigfmmflicdpaaDoorW.PrintWords.sized_ints hz0 (j := 2) (t := 22) rfl rfl Tryd.underlying22 Tryd.underlying28 (by kernel_rfl) (by kernel_rfl) ⟨n0, q0_2⟩
  have q0_3 := g0_3
  obtain ⟨a0_3, len0_3, cap0_3, z0_3, rfl, w0_3⟩ := field_ints Tryd.underlying22 Tryd.underlying28 (by kernel_rfl) g0_3
  simp only [if_true] at w0_3
  have y0_3 : len0_3 * 8 ≤ 140737488351232 := Go.Proofs.YtiigfmmflicdpaaDoorW.PrintWords.sized_ints hz0 (j := 3) (t := 22) rfl rfl Tryd.underlying22 Tryd.underlying28 (by kernel_rfl) (by kernel_rfl) ⟨n0, q0_3⟩
  obtain ⟨a0_4, hu0_4, he0_4, w0_4⟩ := DataW.trod_int Tryd.underlying3 g0_4
  obtain rfl : u0_4 = .int .i64 a0_4 := by simpa using hu0_4
  obtain ⟨a0_5, hu0_5, he0_5, w0_5⟩ := DataW.trod_int Tryd.underlying5 g0_5
  obtain rfl : u0_5 = .int .u8 a0_5 := by simpa using hu0_5
  clear hA0 hval0 hsz0
  refine (PN.abacuslaw04_IeeeScaled.walk Pure.IeeeScaled a0_0 a0_1 len0_1 cap0_1 z0_1 a0_2 len0_2 cap0_2 z0_2 a0_3 len0_3 cap0_3 z0_3 a0_4 a0_5 W hT w0_1 y0_1 w0_2 y0_2 w0_3 y0_3 w0_4 w0_5).mono fun e W' ⟨he, bel⟩ => ?_
  subst he
  exact ⟨_, rfl, _, _, _, [], _, [], hW', trodAll_mk1 (shut_bool Tryd.underlying4 _), (trodAll_cons_mk (Below.trod laidOut (by kernel_rfl) (of_decide_eq_true (by kernel_rfl)) k0 bel lt0) trodAll_mk0), rfl, bel.frame _, fun h => by cases h⟩
/-- A WORLD FOR THE WITNESS: the settled one, the table holding what its initialiser lays. -/
noncomputable def laidWorld (os : Os) : World :=
  { World.holding Tryd.prog os ⟨#[], #[.agg #[.bool false, .slice none 0 0, .slice none 0 0, .slice none 0 0, .int .i64 0, .int .u8 0]], []⟩ with heap := (World.holding Tryd.prog os ⟨#[], #[.agg #[.bool false, .slice none 0 0, .slice none 0 0, .slice none 0 0, .int .i64 0, .int .u8 0]], []⟩).heap.modify 0 fun
      | .cells _ t frozen => .cells (Go.Proofs.YtiigfmmflicdpaaDoorX.tabL.map fun z => Value.int .u8 z).toArray t frozen
      | o => o }
theorem laid_met (os : Os) : laidMet Tryd.prog Rows.ieeeScaledRow.laid ((laidWorld os).forCall (fun _ _ => 0) ⟨#[], #[.agg #[.bool false, .slice none 0 0, .slice none 0 0, .slice none 0 0, .int .i64 0, .int .u8 0]], []⟩).memory :=
  laidMet_of_run' 8 (by kernel_rfl) (by kernel_rfl)
theorem reads (os : Os) {H : Type} (enc : TypeId × Value → H) : ∃ places, DataW.whole enc Tryd.prog ((laidWorld os).forCall (fun _ _ => 0) ⟨#[], #[.agg #[.bool false, .slice none 0 0, .slice none 0 0, .slice none 0 0, .int .i64 0, .int .u8 0]], []⟩).memory Tryd.f8.params.toList Rows.ieeeScaledSpec.vars false (#[.agg #[.bool false, .slice none 0 0, .slice none 0 0, .slice none 0 0, .int .i64 0, .int .u8 0]] : Array Value).toList 8 = some ([.agg [.lit (.bool false), .nil, .nil, .nil, .lit (.int .i64 0), .lit (.int .u8 0)]], [], places) :=
  ⟨[], by kernel_rfl⟩
set_option maxRecDepth 100000 in
theorem lifted (os : Os) (started : os.Started) (H : Type) (enc : TypeId × Value → H) (F : Stop.Interp) :
    ReturnsInHanded {} Tryd.checked os 8 .any ((OpenSpec.ofChange Rows.ieeeScaledSpec).preRow enc Tryd.prog Tryd.f8 Rows.ieeeScaledRow.domain false Rows.ieeeScaledRow.laid) (((OpenSpec.ofChange Rows.ieeeScaledSpec).at F).post enc Tryd.prog Tryd.f8 false true false false) := by
  obtain ⟨places, hx⟩ := reads os enc
  refine returnsInHanded_of_row (C := Tryd.checked) (s := OpenSpec.ofChange Rows.ieeeScaledSpec) own started (by kernel_rfl) Tryd.func8
    (witness_row_at (enc := enc) (C := Tryd.checked) false (laidWorld os) #[.agg #[.bool false, .slice none 0 0, .slice none 0 0, .slice none 0 0, .int .i64 0, .int .u8 0]] rfl (by kernel_rfl) (by kernel_rfl) (by kernel_rfl)
      (OpenSpec.preRow_of_cond 8 hx (by kernel_rfl) (fun k hk => by cases hk) (by kernel_rfl) (laid_met os))) ?_
  intro W base args ds gs before hval hW _ _ hsz hL _ _
  exact contract H enc W base args ds gs before hval hW hsz hL
theorem said : Rows.IeeeScaledSaid :=
  OpenClaim.holds_of_cond 8 Tryd.f8 rfl rfl rfl rfl rfl rfl rfl ⟨rfl, rfl, rfl, rfl, rfl⟩ rfl rfl rfl rfl rfl (by kernel_rfl) Tryd.func8 (by kernel_rfl)
    (of_decide_eq_true (by kernel_rfl)) (by unfold Func.isWrapper; first | (rw [if_pos (by decide +kernel)]; kernel_rfl) | (rw [if_neg (by decide +kernel)]; exact ⟨rfl, rfl⟩))
    (fun os started H enc _ F => by rw [OpenClaim.pre_eq_preRow]; exact lifted os started H enc F)
/-- No parameter wants a stand-in; the program's own looks are off. -/
theorem plain (f : FuncId) (fn : Func) (hf : Tryd.pinned.checked.prog.funcNamed "abacus/abacuslaw04.IeeeScaled" = some f) (hfn : Tryd.pinned.checked.prog.funcs[f]? = some fn) :
    false = Tryd.pinned.checked.prog.looks [] ∧ ∀ (j : Nat) t, fn.params[j]? = some t → Tryd.pinned.checked.prog.wantsStandIn t = false := by
  obtain rfl : f = 8 := Option.some.inj ((show Tryd.prog.funcNamed "abacus/abacuslaw04.IeeeScaled" = some 8 by kernel_rfl).symm.trans hf) |>.symm
  obtain rfl : fn = Tryd.f8 := (Option.some.inj (Tryd.func8.symm.trans hfn)).symm
  refine ⟨by kernel_rfl, fun j t ht => ?_⟩
  have all : (Tryd.f8.params.toList.all fun t => !Tryd.prog.wantsStandIn t) = true := by kernel_rfl
  have hm : t ∈ Tryd.f8.params.toList := Array.mem_toList_iff.2 (Array.mem_of_getElem? ht)
  have h1 := List.all_eq_true.1 all t hm
  have h2 : Tryd.prog.wantsStandIn t = false := by simpa using h1
  exact h2
theorem card : Rows.IeeeScaledCardSaid :=
  Claim7.holds_tied_plain_at .later [] _ _ _ _ said (fun _ h => by cases h) (by kernel_rfl) (fun _ h => by cases h) ieeeScaled_row_tie rfl ⟨rfl, rfl⟩ (by kernel_rfl) rfl plain (by kernel_rfl)
#print axioms card
end Go.Proofs.YtiigfmmflicdpaaDoor.ieeeScaled
namespace Go.Proofs.YtiigfmmflicdpaaDoor
/-- The card, under a short name, for the claim. -/
theorem ieeeScaled_holds : Rows.IeeeScaledCardSaid := ieeeScaled.card
end Go.Proofs.YtiigfmmflicdpaaDoor
