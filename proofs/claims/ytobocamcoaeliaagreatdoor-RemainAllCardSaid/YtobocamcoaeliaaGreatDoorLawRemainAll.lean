-- printed by a program
import Derived.Test.YtobocamcoaeliaaGreatDoorRows
import Derived.Test.YtobocamcoaeliaaGreatDoorCards
import Derived.Test.YtobocamcoaeliaaGreatDoorTie
import Derived.Lib.LaidTab
import Derived.Deep.DeepHandedRow
import Derived.Test.YtobocamcoaeliaaGreatDoorF2
import Derived.Test.YtobocamcoaeliaaGreatDoorQRemainAll
import Derived.WalkKit
import Derived.ProofKit
import Derived.OpenShut
import Derived.ShutString
import Derived.ChangeOld
import Derived.Below
import Derived.SizedLaws
import Derived.Carry
import Derived.Test.YtobocamcoaeliaaGreatDoorA18
namespace Go.Proofs.YtobocamcoaeliaaGreatDoor.remainAll
open Go.ChangeShapes Go.WideShapes Go.ChangeAt Go.RowKit
open Go.ChangeMaps (open_string shut_string)
open Go.Proofs.YtobocamcoaeliaaGreatDoorA (arg_agg arg_recs arg_row kds_cons kds_nil cell_int cell_bool cell_row col_int col_bool col_row row_u64 one_cell)
set_option linter.unusedVariables false
theorem own : ownKnob Tryz.prog.godebug = none := by kernel_rfl
theorem laidOut : laidOutB Tryz.prog = true := by kernel_rfl
theorem gTab : Tryz.prog.globalNamed "math/bits.deBruijn64tab" = some 0 := by kernel_rfl
theorem gTabType : (Tryz.prog.globals[0]?).map (·.type) = some 110 := by kernel_rfl
theorem cellsT : Tryz.prog.cellsOf 110 = 64 := by kernel_rfl
theorem cellsE : Tryz.prog.cellsOf 5 = 1 := by kernel_rfl
theorem undT : Tryz.prog.underlying 110 = some (.array 64 5) := by kernel_rfl
theorem undE : Tryz.prog.underlying 5 = some (.int .u8) := by kernel_rfl
theorem table {W : World} (h : laidMetH Tryz.prog Rows.remainAllRow.laid W) : F.HW W := by
  have hT : Lib.TabIs Tryz.prog W "math/bits.deBruijn64tab" .u8 Go.Proofs.YtobocamcoaeliaaGreatDoorA.tabL := Lib.tabIs_of_head (rest := []) gTab gTabType undT undE cellsE cellsT h
  exact Go.Proofs.YtobocamcoaeliaaGreatDoorA.tabL_at fun j hj => hT.cell gTab j (by rw [show Go.Proofs.YtobocamcoaeliaaGreatDoorA.tabL.length = 64 from rfl]; exact hj)
theorem u64_of {x : Int} (w : (Lit.int .u64 x).wf = true) : 0 ≤ x ∧ x < 18446744073709551616 := by
  simp [Lit.wf] at w
  have h1 : IntKind.u64.min = 0 := rfl
  have h2 : IntKind.u64.max = 18446744073709551615 := rfl
  omega
theorem i64_of {x : Int} (w : (Lit.int .i64 x).wf = true) : -9223372036854775808 ≤ x ∧ x < 9223372036854775808 := by
  simp [Lit.wf] at w
  have h1 : IntKind.i64.min = -9223372036854775808 := rfl
  have h2 : IntKind.i64.max = 9223372036854775807 := rfl
  omega
set_option maxRecDepth 100000 in
theorem contract (H : Type) (enc : TypeId × Value → H) (W : World) (base : Nat) (args : Array Value) (ds gs : List (DataW H)) (before : List MemPlace)
    (hval0 : ∀ (j : Nat) t v, Tryz.f4.params[j]? = some t → args[j]? = some v → Value.okWide Tryz.prog W .any base t v)
    (hW : DataW.Whole enc Tryz.prog Tryz.f4.params.toList Rows.remainAllSpec.vars false W args.toList ds gs before)
    (hsz0 : (DataW.weightsEach Tryz.prog (Tryz.f4.params.toList ++ Rows.remainAllSpec.plain.varTypes Tryz.prog) (ds ++ gs)).all (· ≤ reachBytes) = true)
    (hL : laidMetH Tryz.prog Rows.remainAllRow.laid W) :
    Calls Tryz.prog 4 args W fun e W' => ∃ v, e = .returned v ∧ Rows.remainAllSpec.post enc Tryz.prog Tryz.f4 false true false false W args v W' := by
  have hT := table hL
  have hsz : (DataW.weightsEach Tryz.prog (Tryz.f4.params.toList ++ Rows.remainAllSpec.plain.varTypes Tryz.prog) (ds ++ gs)).all (· ≤ reachBytes) = true := hsz0
  have hval : ∀ (j : Nat) t v, Tryz.f4.params[j]? = some t → args[j]? = some v → Value.okWide Tryz.prog W .any base t v := hval0
  have hW' := hW
  obtain ⟨p, q, hA0, hV, rfl, hfz, hnd⟩ := hW
  have hA : DataW.TrodAll enc Tryz.prog W 0 (fun _ => true) true Tryz.f4.params.toList args.toList ds p := hA0
  rw [Tryz.params4] at hA hval hsz
  obtain ⟨v0, vs0, d0, ds0, p0, q0, hargs, rfl, rfl, h0, r0⟩ := trodAll_cons hA
  obtain ⟨rfl, rfl, rfl⟩ := trodAll_nil r0
  obtain rfl : args = #[v0] := by cases args; simp_all
  obtain ⟨rfl, rfl⟩ := trodVars_none hV
  have k0 := h0
  have lt0 : ∀ x ∈ p0, x.block < W.heap.size := by obtain ⟨m, hm⟩ := k0; exact DataW.trod_lt m _ _ _ hm
  have wt0 : (d0.weights Tryz.prog 28).all (· ≤ reachBytes) = true := List.all_eq_true.2 fun n hn => List.all_eq_true.1 hsz n (DataW.weights_mem_each (j := 0) (t := 28) rfl rfl n hn)
  obtain ⟨A0, len0, cap0, rfl⟩ := okWide_slice Tryz.underlying28 (hval 0 28 v0 rfl rfl)
  obtain ⟨m0, cols0, e0, vr0, b0, f0⟩ := arg_recs Tryz.underlying28 (n := 9) (ks := [.int .i64, .int .u64, .int .u64, .int .i64]) (by kernel_rfl) (by kernel_rfl) (by simp) h0 wt0 (Nat.le_of_ble_eq_true (by kernel_rfl)) (fun x hx => one_cell hx)
  obtain ⟨c_x0_0, r_x0_0, rfl, t_x0_0, s_x0_0⟩ := kds_cons e0
  obtain ⟨x0_0, rfl⟩ := col_int t_x0_0
  obtain ⟨c_x0_1, r_x0_1, rfl, t_x0_1, s_x0_1⟩ := kds_cons s_x0_0
  obtain ⟨x0_1, rfl⟩ := col_int t_x0_1
  obtain ⟨c_x0_2, r_x0_2, rfl, t_x0_2, s_x0_2⟩ := kds_cons s_x0_1
  obtain ⟨x0_2, rfl⟩ := col_int t_x0_2
  obtain ⟨c_x0_3, r_x0_3, rfl, t_x0_3, s_x0_3⟩ := kds_cons s_x0_2
  obtain ⟨x0_3, rfl⟩ := col_int t_x0_3
  obtain rfl := kds_nil s_x0_3
  clear hA0 hval0 hsz0 hsz
  obtain ⟨k, hk⟩ := Pure.RemainAll b0 (fun i h0 h1 => ⟨(i64_of (f0 i h0 h1 _ (List.mem_cons_self ..))), (u64_of (f0 i h0 h1 _ (List.mem_cons_of_mem _ (List.mem_cons_self ..)))), (u64_of (f0 i h0 h1 _ (List.mem_cons_of_mem _ (List.mem_cons_of_mem _ (List.mem_cons_self ..))))), (i64_of (f0 i h0 h1 _ (List.mem_cons_of_mem _ (List.mem_cons_of_mem _ (List.mem_cons_of_mem _ (List.mem_cons_self ..))))))⟩)
  refine (F.abacuslaw06_RemainAll.walk hk hT (hv := ⟨_, _, rfl, vr0, rfl⟩)).mono fun e W' ⟨he, bel⟩ => ?_
  subst he
  exact ⟨_, rfl, _, _, _, [], _, [], hW', trodAll_mk1 (shut_bool Tryz.underlying4 _), (trodAll_cons_mk (Below.trod laidOut (by kernel_rfl) (of_decide_eq_true (by kernel_rfl)) k0 bel lt0) trodAll_mk0), rfl, bel.frame _, fun h => by cases h⟩
/-- A WORLD FOR THE WITNESS: the settled one, the table holding what its initialiser lays. -/
noncomputable def laidWorld (os : Os) : World :=
  { World.holding Tryz.prog os ⟨#[], #[.slice none 0 0], []⟩ with heap := (World.holding Tryz.prog os ⟨#[], #[.slice none 0 0], []⟩).heap.modify 0 fun
      | .cells _ t frozen => .cells (Go.Proofs.YtobocamcoaeliaaGreatDoorA.tabL.map fun z => Value.int .u8 z).toArray t frozen
      | o => o }
theorem laid_met (os : Os) : laidMet Tryz.prog Rows.remainAllRow.laid ((laidWorld os).forCall (fun _ _ => 0) ⟨#[], #[.slice none 0 0], []⟩).memory :=
  laidMet_of_run' 8 (by kernel_rfl) (by kernel_rfl)
theorem reads (os : Os) {H : Type} (enc : TypeId × Value → H) : ∃ places, DataW.whole enc Tryz.prog ((laidWorld os).forCall (fun _ _ => 0) ⟨#[], #[.slice none 0 0], []⟩).memory Tryz.f4.params.toList Rows.remainAllSpec.vars false (#[.slice none 0 0] : Array Value).toList 8 = some ([.nil], [], places) :=
  ⟨[], by kernel_rfl⟩
set_option maxRecDepth 100000 in
theorem lifted (os : Os) (started : os.Started) (H : Type) (enc : TypeId × Value → H) (F : Stop.Interp) :
    ReturnsInHanded {} Tryz.checked os 4 .any ((OpenSpec.ofChange Rows.remainAllSpec).preRow enc Tryz.prog Tryz.f4 Rows.remainAllRow.domain false Rows.remainAllRow.laid) (((OpenSpec.ofChange Rows.remainAllSpec).at F).post enc Tryz.prog Tryz.f4 false true false false) := by
  obtain ⟨places, hx⟩ := reads os enc
  refine returnsInHanded_of_row (C := Tryz.checked) (s := OpenSpec.ofChange Rows.remainAllSpec) own started (by kernel_rfl) Tryz.func4
    (witness_row_at (enc := enc) (C := Tryz.checked) false (laidWorld os) #[.slice none 0 0] rfl (by kernel_rfl) (by kernel_rfl) (by kernel_rfl)
      (OpenSpec.preRow_of_cond 8 hx (by kernel_rfl) (fun k hk => by cases hk) (by kernel_rfl) (laid_met os))) ?_
  intro W base args ds gs before hval hW _ _ hsz hL _ _
  exact contract H enc W base args ds gs before hval hW hsz hL
theorem said : Rows.RemainAllSaid :=
  OpenClaim.holds_of_cond 4 Tryz.f4 rfl rfl rfl rfl rfl rfl rfl ⟨rfl, rfl, rfl, rfl, rfl⟩ rfl rfl rfl rfl rfl (by kernel_rfl) Tryz.func4 (by kernel_rfl)
    (of_decide_eq_true (by kernel_rfl)) (by unfold Func.isWrapper; first | (rw [if_pos (by decide +kernel)]; kernel_rfl) | (rw [if_neg (by decide +kernel)]; exact ⟨rfl, rfl⟩))
    (fun os started H enc _ F => by rw [OpenClaim.pre_eq_preRow]; exact lifted os started H enc F)
/-- No parameter wants a stand-in; the program's own looks are off. -/
theorem plain (f : FuncId) (fn : Func) (hf : Tryz.pinned.checked.prog.funcNamed "abacus/abacuslaw06.RemainAll" = some f) (hfn : Tryz.pinned.checked.prog.funcs[f]? = some fn) :
    false = Tryz.pinned.checked.prog.looks [] ∧ ∀ (j : Nat) t, fn.params[j]? = some t → Tryz.pinned.checked.prog.wantsStandIn t = false := by
  obtain rfl : f = 4 := Option.some.inj ((show Tryz.prog.funcNamed "abacus/abacuslaw06.RemainAll" = some 4 by kernel_rfl).symm.trans hf) |>.symm
  obtain rfl : fn = Tryz.f4 := (Option.some.inj (Tryz.func4.symm.trans hfn)).symm
  refine ⟨by kernel_rfl, fun j t ht => ?_⟩
  have all : (Tryz.f4.params.toList.all fun t => !Tryz.prog.wantsStandIn t) = true := by kernel_rfl
  have hm : t ∈ Tryz.f4.params.toList := Array.mem_toList_iff.2 (Array.mem_of_getElem? ht)
  have h1 := List.all_eq_true.1 all t hm
  have h2 : Tryz.prog.wantsStandIn t = false := by simpa using h1
  exact h2
theorem card : Rows.RemainAllCardSaid :=
  Claim7.holds_tied_plain_at .later [] _ _ _ _ said (fun _ h => by cases h) (by kernel_rfl) (fun _ h => by cases h) remainAll_row_tie rfl ⟨rfl, rfl⟩ (by kernel_rfl) rfl plain (by kernel_rfl)
#print axioms card
end Go.Proofs.YtobocamcoaeliaaGreatDoor.remainAll
namespace Go.Proofs.YtobocamcoaeliaaGreatDoor
/-- The card, under a short name, for the claim. -/
theorem remainAll_holds : Rows.RemainAllCardSaid := remainAll.card
end Go.Proofs.YtobocamcoaeliaaGreatDoor
