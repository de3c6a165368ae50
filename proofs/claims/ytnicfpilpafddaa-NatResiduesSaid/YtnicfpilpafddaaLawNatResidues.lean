-- printed by a program
import Derived.Test.YtnicfpilpafddaaRows
import Derived.Test.YtnicfpilpafddaaPRx5
import Derived.Test.YtnicfpilpafddaaPureNatResidues
import Derived.Test.YtnicfpilpafddaaS
import Derived.WalkKit
import Derived.ProofKit
import Derived.OpenShut
import Derived.ShutString
import Derived.ChangeOld
import Derived.Below
import Derived.SizedLaws
import Derived.Test.YtnicfpilpafddaaWSized
namespace Go.Proofs.Ytnicfpilpafddaa.natResidues
open Go.ChangeShapes Go.WideShapes Go.ChangeAt Go.RowKit Go.Proofs.YtnicfpilpafddaaS
open Go.ChangeMaps (open_string shut_string)
set_option linter.unusedVariables false
theorem own : ownKnob Try.prog.godebug = none := by kernel_rfl
theorem laidOut : laidOutB Try.prog = true := by kernel_rfl
def IsRow (k : IntKind) (w : World) (a : Option Addr) (len cap : Nat) (zs : List Int) : Prop :=
  (a = none ∧ len = 0 ∧ cap = 0 ∧ zs = []) ∨
  ∃ x, a = some x ∧ len ≤ cap ∧ cap ≤ maxLen ∧ zs.length = cap ∧ (∀ i, i < zs.length → w.cell? (x.add i) = some (.int k (zs.getD i 0))) ∧ ∀ n ∈ zs, (Lit.int k n).wf = true
set_option maxRecDepth 100000 in
theorem lifted (os : Os) (started : os.Started) (H : Type) (enc : TypeId × Value → H) :
    ReturnsInHanded {} Try.checked os 7 .any (Rows.natResiduesSpec.pre6 enc Try.prog Try.f7 Rows.natResiduesRow.domain false) (Rows.natResiduesSpec.post enc Try.prog Try.f7 false true false false) := by
  refine returnsInHanded_of_change_sized (C := Try.checked) own started (by kernel_rfl) Try.func7
    (ChangeSpec.witness6 (enc := enc) (C := Try.checked) false ⟨#[], #[.agg #[.int .i64 0, .slice none 0 0, .slice none 0 0, .int .u64 0, .int .u64 0, .int .i64 0]], []⟩ 8 (by kernel_rfl) (by kernel_rfl) (by kernel_rfl) (by kernel_rfl)) ?_
  intro W base args ds gs before hval0 hW hcnd hsz0 _
  have hsz : (DataW.weightsEach Try.prog (Try.f7.params.toList ++ Rows.natResiduesSpec.plain.varTypes Try.prog) (ds ++ gs)).all (· ≤ reachBytes) = true := hsz0
  have hval : ∀ (j : Nat) t v, Try.f7.params[j]? = some t → args[j]? = some v → Value.okWide Try.prog W .any base t v := hval0
  have hW' := hW
  obtain ⟨p, q, hA0, hV, rfl, hfz, hnd⟩ := hW
  have hA : DataW.TrodAll enc Try.prog W 0 (fun _ => true) true Try.f7.params.toList args.toList ds p := hA0
  rw [Try.params7] at hA hval hsz
  obtain ⟨v0, vs0, d0, ds0, p0, q0, hargs, rfl, rfl, h0, r0⟩ := trodAll_cons hA
  obtain ⟨rfl, rfl, rfl⟩ := trodAll_nil r0
  obtain rfl : args = #[v0] := by cases args; simp_all
  obtain ⟨rfl, rfl⟩ := trodVars_none hV
  have k0 := h0
  have lt0 : ∀ x ∈ p0, x.block < W.heap.size := by obtain ⟨m, hm⟩ := k0; exact DataW.trod_lt m _ _ _ hm
  obtain ⟨u0_0, u0_1, u0_2, u0_3, u0_4, u0_5, e0_0, e0_1, e0_2, e0_3, e0_4, e0_5, n0, rfl, rfl, rfl, g0_0, g0_1, g0_2, g0_3, g0_4, g0_5⟩ := open_agg6' Try.underlying37 (by kernel_rfl) (by kernel_rfl) (hval 0 37 v0 rfl rfl) h0
  have hz0 := sized_agg hsz (j := 0) rfl rfl Try.underlying37
  obtain ⟨a0_0, hu0_0, he0_0, w0_0⟩ := DataW.trod_int Try.underlying3 g0_0
  obtain rfl : u0_0 = .int .i64 a0_0 := by simpa using hu0_0
  have q0_1 := g0_1
  obtain ⟨a0_1, len0_1, cap0_1, z0_1, rfl, w0_1⟩ := field_ints Try.underlying22 Try.underlying33 (by kernel_rfl) g0_1
  simp only [if_true] at w0_1
  have y0_1 : len0_1 * 8 ≤ 140737488351232 := Go.Proofs.YtnicfpilpafddaaW.PrintWords.sized_ints hz0 (j := 1) (t := 22) rfl rfl Try.underlying22 Try.underlying33 (by kernel_rfl) (by kernel_rfl) ⟨n0, q0_1⟩
  have q0_2 := g0_2
  obtain ⟨a0_2, len0_2, cap0_2, z0_2, rfl, w0_2⟩ := field_ints Try.underlying22 Try.underlying33 (by kernel_rfl) g0_2
  simp only [if_true] at w0_2
  have y0_2 : len0_2 * 8 ≤ 140737488351232 := Go.Proofs.YtnicfpilpafddaaW.PrintWords.sized_ints hz0 (j := 2) (t := 22) rfl rfl Try.underlying22 Try.underlying33 (by kernel_rfl) (by kernel_rfl) ⟨n0, q0_2⟩
  obtain ⟨a0_3, hu0_3, he0_3, w0_3⟩ := DataW.trod_int Try.underlying33 g0_3
  obtain rfl : u0_3 = .int .u64 a0_3 := by simpa using hu0_3
  obtain ⟨a0_4, hu0_4, he0_4, w0_4⟩ := DataW.trod_int Try.underlying33 g0_4
  obtain rfl : u0_4 = .int .u64 a0_4 := by simpa using hu0_4
  obtain ⟨a0_5, hu0_5, he0_5, w0_5⟩ := DataW.trod_int Try.underlying3 g0_5
  obtain rfl : u0_5 = .int .i64 a0_5 := by simpa using hu0_5
  clear hA0 hval0 hsz0
  refine (PR.abacuslaw01_NatResidues.walk Pure.NatResidues a0_0 a0_1 len0_1 cap0_1 z0_1 a0_2 len0_2 cap0_2 z0_2 a0_3 a0_4 a0_5 W w0_0 w0_1 y0_1 w0_2 y0_2 w0_3 w0_4 w0_5).mono fun e W' ⟨he, bel⟩ => ?_
  subst he
  exact ⟨_, rfl, _, _, _, [], _, [], hW', trodAll_mk1 (shut_bool Try.underlying4 _), (trodAll_cons_mk (Below.trod laidOut (by kernel_rfl) (of_decide_eq_true (by kernel_rfl)) k0 bel lt0) trodAll_mk0), rfl, bel.frame _, fun h => by cases h⟩
theorem over : Rows.natResiduesRow.holds Try.pinned (OpenSpec.ofChange Rows.natResiduesSpec) :=
  OpenClaim.holds_of_wide 7 Try.f7 rfl rfl rfl rfl rfl rfl rfl ⟨rfl, rfl, rfl, rfl, rfl⟩ rfl rfl rfl rfl rfl (by kernel_rfl) Try.func7 (by kernel_rfl)
    (of_decide_eq_true (by kernel_rfl)) (by unfold Func.isWrapper; first | (rw [if_pos (by decide +kernel)]; kernel_rfl) | (rw [if_neg (by decide +kernel)]; exact ⟨rfl, rfl⟩))
    (fun os started H enc _ => lifted os started H enc)
theorem proved : Rows.NatResiduesSaid := over
#print axioms proved
end Go.Proofs.Ytnicfpilpafddaa.natResidues
namespace Go.Proofs.Ytnicfpilpafddaa
/-- The row, under a short name, for the claim. -/
theorem natResidues_holds : Rows.NatResiduesSaid := natResidues.proved
end Go.Proofs.Ytnicfpilpafddaa
