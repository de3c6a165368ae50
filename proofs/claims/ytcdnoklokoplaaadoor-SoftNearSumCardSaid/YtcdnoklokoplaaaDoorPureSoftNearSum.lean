/- No double is nearer to a sum or a difference, for every input. No conditions. -/
import Derived.Test.YtcdnoklokoplaaaDoorCSoftNear1
import Derived.Test.YtcdnoklokoplaaaDoorPCx12
import Derived.Test.YtcdnoklokoplaaaDoorPCx2
namespace Go.Proofs.YtcdnoklokoplaaaDoor.Pure
open Go.RowKit Go.Proofs.YtcdnoklokoplaaaDoorW.PrintWords Go.Proofs.YtcdnoklokoplaaaDoorW.PrintLast Go.Proofs.YtcdnoklokoplaaaDoorW.PrintMore Go.Proofs.YtcdnoklokoplaaaDoor.Lib Go.Proofs.YtcdnoklokoplaaaDoor.LibB Go.Proofs.YtcdnoklokoplaaaDoor.PC Go.Proofs.YtcdnoklokoplaaaDoor.CNat1 Go.Proofs.YtcdnoklokoplaaaDoor.CNat2 Go.Proofs.YtcdnoklokoplaaaDoor.CBits Go.Proofs.YtcdnoklokoplaaaDoor.CIeee1 Go.Proofs.YtcdnoklokoplaaaDoor.CMag Go.Proofs.YtcdnoklokoplaaaDoor.CIeee2 Go.Proofs.YtcdnoklokoplaaaDoor.CSoft1 Go.Proofs.YtcdnoklokoplaaaDoor.CSoftNear1 Go.Proofs.YtcdnoklokoplaaaDoor.Rnd
set_option linter.unusedVariables false
theorem works_ev : Ev (fun k => abacuslaw05_works.f k) true := by
  refine Ev_of_at 150 ?_ (fun k => abacuslaw05_works.mono k)
  kernel_rfl
theorem three_ev : Ev (fun k => soft_Add.f k 4607182418800017408 4611686018427387904) 4613937818241073152 := by
  refine Ev_of_at 3000 ?_ (fun k => soft_Add.mono _ _ k)
  kernel_rfl
theorem back_ev : Ev (fun k => soft_Sub.f k 4613937818241073152 4611686018427387904) 4607182418800017408 := by
  refine Ev_of_at 3000 ?_ (fun k => soft_Sub.mono _ _ k)
  kernel_rfl
theorem one_eq : abacuslaw05_one.f = some (false, lim 1) := by
  unfold abacuslaw05_one.f
  rw [lim_one_len (n := 1) (by omega) (by omega)]
  rfl
theorem sum_near {b c : Bool} {x y F : Nat} {d : Int} {z : Bool} (hF : F = 2098) (hx : x < 2 ^ F) (hy : y < 2 ^ F) (h : Rd d (sv b x + sv c y) z) :
    Ev (fun k => abacuslaw05_nearest.f k (pl b x c y).1 (lim (pl b x c y).2) d false (lim 1)) true := by
  obtain ⟨s, p, rfl, h1, h2, h3⟩ := h
  have pv := pl_val b x c y
  have pq := pl_le b x c y
  rw [← pv] at h1 h2
  generalize (pl b x c y).1 = bv at *
  generalize (pl b x c y).2 = V at *
  rw [sv_abs] at h1
  refine nearest_ev h1 (by omega) (fun hV => ?_) ?_
  · have hne : sv bv V ≠ 0 := by unfold sv; cases bv <;> simp <;> omega
    rw [h2 hne]
    unfold sv
    cases bv <;> simp <;> omega
  · have hi : uni inf = 2 ^ F := by
      rw [uni_inf (E := F - 52) (by omega), show (4503599627370496 : Nat) = 2 ^ 52 from rfl, ← Nat.pow_add]
      congr 1; omega
    rw [Nat.mul_one, hi]
    have h4 : V < 2 ^ (F + 1) := Nat.lt_of_le_of_lt pq (Nat.lt_of_lt_of_eq (Nat.add_lt_add hx hy) (twice F))
    have h5 : 2 ^ F < 2 ^ (F + 1) := Nat.pow_lt_pow_right (by omega) (by omega)
    exact pow_B (n := F + 1 + 1) (Nat.lt_of_lt_of_eq (Nat.add_lt_add h4 h5) (twice (F + 1))) (by omega)
theorem nearsum_j1 {a b : Int} (ha : U a) (hb : U b) (fa : fin a) (fb : fin b) : Ev (fun k => abacuslaw05_SoftNearSum.j1 k a b false) true := by
  obtain ⟨F, hF⟩ : ∃ F, F = 2098 := ⟨_, rfl⟩
  have ua := uni_lt_pow hF (plc_fin.1 fa)
  have ub := uni_lt_pow hF (plc_fin.1 fb)
  have hB : uni (plc a) + uni (plc b) < B 4096 := pow_B (n := F + 1) (Nat.lt_of_lt_of_eq (Nat.add_lt_add ua ub) (twice F)) (by omega)
  obtain ⟨s, s1, s2⟩ := Add_ev ha hb fa fb
  obtain ⟨d, d1, d2⟩ := Sub_ev ha hb fa fb
  have n1 := sum_near hF ua ub (b := sgn a) (c := sgn b) s2
  have n2 := sum_near hF ua ub (b := sgn a) (c := !sgn b) (d := d) (z := sgn a && !sgn b) (by rw [sv_not, ← Int.sub_eq_add_neg]; exact d2)
  have p1 := plus_ev (b := sgn a) (c := sgn b) hB
  have p2 := plus_ev (b := sgn a) (c := !sgn b) hB
  refine Ev_succ ?_
  simp only [abacuslaw05_SoftNearSum.j1]
  exact Ev_neg (by simp) (Ev.bind (units_ev ha fa) (Ev.bind (units_ev hb fb) (Ev.bind p1 (Ev.bind s1 (Ev_bind_eq one_eq (Ev.bind n1 (Ev_pos (by first | rfl | trivial) (Ev.bind p2 (Ev.bind d1 (Ev_bind_eq one_eq (Ev.bind n2 (Ev_some rfl))))))))))))
theorem SoftNearSum : abacuslaw05_SoftNearSum.Pure := by
  intro a b w0 w1
  suffices h : Ev (fun k => abacuslaw05_SoftNearSum.f k a b) true by
    obtain ⟨K, hK⟩ := h
    exact ⟨K, hK K (Nat.le_refl _)⟩
  have hU : ∀ x : Int, (Lit.int .u64 x).wf = true → U x := by
    intro x w
    simp [Lit.wf] at w
    have h1 : IntKind.u64.min = 0 := rfl
    have h2 : IntKind.u64.max = 18446744073709551615 := rfl
    unfold U; omega
  have ha := hU a w0
  have hb := hU b w1
  have out1 : Ev (fun k => abacuslaw05_SoftNearSum.j1 k a b true) true := by
    refine Ev_succ ?_
    simp only [abacuslaw05_SoftNearSum.j1]
    exact Ev_pos (by first | rfl | trivial) (Ev_some rfl)
  simp only [abacuslaw05_SoftNearSum.f]
  refine Ev.bind works_ev (Ev_pos (by first | rfl | trivial) (Ev.bind three_ev (Ev_pos (by first | rfl | trivial) (Ev.bind back_ev (Ev_succ ?_)))))
  simp only [abacuslaw05_SoftNearSum.j0]
  refine Ev_neg (by simp) (Ev_bind_eq (finite_eq ha) ?_)
  by_cases fa : fin a
  · refine Ev_pos (decide_eq_true fa) (Ev_bind_eq (finite_eq hb) ?_)
    by_cases fb : fin b
    · rw [decide_eq_true fb]
      exact nearsum_j1 ha hb fa fb
    · rw [decide_eq_false fb]
      exact out1
  · exact Ev_neg (by simp [fa]) out1
end Go.Proofs.YtcdnoklokoplaaaDoor.Pure
