/- Knuth's six additions give sum and rest, for every input. No conditions. -/
import Derived.Test.YtcdnoklokoplaaaDoorASoft1
import Derived.Test.YtcdnoklokoplaaaDoorRn
import Derived.Test.YtcdnoklokoplaaaDoorPAx11
import Derived.Test.YtcdnoklokoplaaaDoorPAx2
import Derived.Test.YtcdnoklokoplaaaDoorPAx9
namespace Go.Proofs.YtcdnoklokoplaaaDoor.Pure
open Go.RowKit Go.Proofs.YtcdnoklokoplaaaDoorW.PrintWords Go.Proofs.YtcdnoklokoplaaaDoorW.PrintLast Go.Proofs.YtcdnoklokoplaaaDoorW.PrintMore Go.Proofs.YtcdnoklokoplaaaDoor.Lib Go.Proofs.YtcdnoklokoplaaaDoor.LibB Go.Proofs.YtcdnoklokoplaaaDoor.PA Go.Proofs.YtcdnoklokoplaaaDoor.ANat1 Go.Proofs.YtcdnoklokoplaaaDoor.ANat2 Go.Proofs.YtcdnoklokoplaaaDoor.ABits Go.Proofs.YtcdnoklokoplaaaDoor.AIeee1 Go.Proofs.YtcdnoklokoplaaaDoor.AMag Go.Proofs.YtcdnoklokoplaaaDoor.AIeee2 Go.Proofs.YtcdnoklokoplaaaDoor.ASoft1 Go.Proofs.YtcdnoklokoplaaaDoor.Rnd Go.Proofs.YtcdnoklokoplaaaDoor.Rn
set_option linter.unusedVariables false
theorem rd_rn {d v : Int} {z : Bool} {M : Nat} (h : Rd d v z) (hM : M = 2097) (hv : v.natAbs ≤ 2 ^ M) : U d ∧ fin d ∧ Rn v (sval d) := by
  obtain ⟨s, p, rfl, h1, h2, h3⟩ := h
  have hp := near_fin h1 hM hv
  obtain ⟨u1, u2, u3⟩ := put_U (s := s) (Nat.le_of_lt hp)
  refine ⟨u1, plc_fin.2 (by rw [u2]; exact hp), rn_of h1 hp ?_⟩
  unfold sval
  rw [u2, u3]
  by_cases h0 : v = 0
  · have hz : p = 0 := near_unique (by omega) (by omega) h1 (near_zero (X := 0) (Y := 1) (by omega)) (by rw [h0]; rfl)
    rw [h0, hz, uni_zero, sv_zero]
    rfl
  · rw [h2 h0]
    unfold sv
    by_cases hn : v < 0
    · rw [decide_eq_true hn, if_pos rfl, if_pos hn]
    · rw [decide_eq_false hn, if_neg (by simp), if_neg hn]
theorem sval_ff {a : Int} (fa : fin a) : FF (sval a) := ⟨plc a, plc_fin.1 fa, by unfold sval; rw [sv_abs]⟩
theorem modest_eq {d : Int} (h : U d) : abacuslaw05_modest.f d = some (decide (plc d < 9209861237972664320)) := by
  unfold abacuslaw05_modest.f
  rw [bit_abs h]
  refine congrArg some (decide_eq_decide.2 ?_)
  unfold plc
  omega
theorem modest_le {d : Int} {M : Nat} (hM : M = 2096) (h : plc d < 9209861237972664320) : fin d ∧ (sval d).natAbs ≤ 2 ^ M := by
  refine ⟨plc_fin.2 (by unfold inf; omega), ?_⟩
  unfold sval
  rw [sv_abs]
  obtain ⟨K, hK⟩ : ∃ K, K = 2044 := ⟨_, rfl⟩
  have h1 := uni_mono (show plc d ≤ K * 4503599627370496 + 4503599627370496 by omega)
  rw [uni_at (k := K) (c := 4503599627370496) (by omega) (by omega), show (4503599627370496 : Nat) = 2 ^ 52 from rfl, ← Nat.pow_add, show 52 + K = M by omega] at h1
  exact h1
theorem works_ev : Ev (fun k => abacuslaw05_works.f k) true := by
  refine Ev_of_at 150 ?_ (fun k => abacuslaw05_works.mono k)
  kernel_rfl
theorem adds_ev : Ev (fun k => abacuslaw05_adds.f k) true := by
  refine Ev_of_at 3000 ?_ (fun k => abacuslaw05_adds.mono k)
  kernel_rfl
theorem sum_B {x y F : Nat} (hF : F = 2098) (hx : x < 2 ^ F) (hy : y < 2 ^ F) : x + y < 2 ^ (F + 1) := Nat.lt_of_lt_of_eq (Nat.add_lt_add hx hy) (twice F)
theorem twosum_j1 {a b : Int} (ha : U a) (hb : U b) (ma : plc a < 9209861237972664320) (mb : plc b < 9209861237972664320) : Ev (fun k => abacuslaw05_SoftTwoSum.j1 k a b false) true := by
  obtain ⟨M, hM⟩ : ∃ M, M = 2096 := ⟨_, rfl⟩
  have hM1 : M + 1 = 2097 := by omega
  have hpow : 2 ^ (M + 1) = 2 * 2 ^ M := by rw [Nat.pow_succ, Nat.mul_comm]
  obtain ⟨fa, la⟩ := modest_le hM ma
  obtain ⟨fb, lb⟩ := modest_le hM mb
  have ga := sval_ff fa
  have gb := sval_ff fb
  obtain ⟨s, s1, s2⟩ := Add_ev ha hb fa fb
  obtain ⟨us, fs, r1⟩ := rd_rn s2 hM1 (by rw [hpow]; omega)
  have c1 := r1.cand _ ga
  have c1' := r1.cand _ gb
  obtain ⟨bb, b1, b2⟩ := Sub_ev us ha fs fa
  obtain ⟨ub, fbb, r2⟩ := rd_rn b2 hM1 (by rw [hpow]; omega)
  have c2 := r2.cand _ gb
  obtain ⟨t, t1, t2⟩ := Sub_ev us ub fs fbb
  obtain ⟨ut, ft, r3⟩ := rd_rn t2 hM1 (by rw [hpow]; omega)
  have c3 := r3.cand _ ga
  obtain ⟨da, d1, d2⟩ := Sub_ev ha ut fa ft
  obtain ⟨ud, fd, r4⟩ := rd_rn d2 hM1 (by rw [hpow]; omega)
  obtain ⟨db, e1, e2⟩ := Sub_ev hb ub fb fbb
  obtain ⟨ue, fe, r5⟩ := rd_rn e2 hM1 (by rw [hpow]; omega)
  have h5 := five hM ga gb la lb r1 r2 r3 r4 r5
  obtain ⟨e, f1, f2⟩ := Add_ev ud ue fd fe
  rw [h5] at f2
  obtain ⟨uf, ff, r6⟩ := rd_rn f2 hM1 (by rw [hpow]; omega)
  have h6 := six ga gb r1 rfl r6
  clear r1 r2 r3 r4 r5 r6 c1 c1' c2 c3
  obtain ⟨F, hF⟩ : ∃ F, F = 2098 := ⟨_, rfl⟩
  have va := uni_lt_pow hF (plc_fin.1 fa)
  have vb := uni_lt_pow hF (plc_fin.1 fb)
  have vs := uni_lt_pow hF (plc_fin.1 fs)
  have vf := uni_lt_pow hF (plc_fin.1 ff)
  have w1 := sum_B hF va vb
  have w2 := sum_B hF vs vf
  have p1 := pl_val (sgn a) (uni (plc a)) (sgn b) (uni (plc b))
  have p2 := pl_val (sgn s) (uni (plc s)) (sgn e) (uni (plc e))
  have q1 := pl_le (sgn a) (uni (plc a)) (sgn b) (uni (plc b))
  have q2 := pl_le (sgn s) (uni (plc s)) (sgn e) (uni (plc e))
  have hB : (pl (sgn a) (uni (plc a)) (sgn b) (uni (plc b))).2 + (pl (sgn s) (uni (plc s)) (sgn e) (uni (plc e))).2 < B 4096 :=
    pow_B (n := F + 1 + 1) (Nat.lt_of_lt_of_eq (Nat.add_lt_add (Nat.lt_of_le_of_lt q1 w1) (Nat.lt_of_le_of_lt q2 w2)) (twice (F + 1))) (by omega)
  have x1 := plus_ev (b := sgn a) (c := sgn b) (pow_B (n := F + 1) w1 (by omega))
  have x2 := plus_ev (b := sgn s) (c := sgn e) (pow_B (n := F + 1) w2 (by omega))
  have x3 := same_ev (b := (pl (sgn a) (uni (plc a)) (sgn b) (uni (plc b))).1) (c := (pl (sgn s) (uni (plc s)) (sgn e) (uni (plc e))).1) hB
  rw [p1, p2, decide_eq_true (show sv (sgn a) (uni (plc a)) + sv (sgn b) (uni (plc b)) = sv (sgn s) (uni (plc s)) + sv (sgn e) (uni (plc e)) from h6.symm)] at x3
  refine Ev_succ ?_
  simp only [abacuslaw05_SoftTwoSum.j1]
  exact Ev_neg (by simp) (Ev.bind s1 (Ev.bind b1 (Ev.bind t1 (Ev.bind d1 (Ev.bind e1 (Ev.bind f1 (Ev_bind_eq (finite_eq us) (Ev_pos (decide_eq_true fs) (Ev_bind_eq (finite_eq uf) (Ev_pos (decide_eq_true ff)
    (Ev.bind (units_ev ha fa) (Ev.bind (units_ev hb fb) (Ev.bind x1 (Ev.bind (units_ev us fs) (Ev.bind (units_ev uf ff) (Ev.bind x2 (Ev.bind x3 (Ev_some rfl))))))))))))))))))
theorem SoftTwoSum : abacuslaw05_SoftTwoSum.Pure := by
  intro a b w0 w1
  suffices h : Ev (fun k => abacuslaw05_SoftTwoSum.f k a b) true by
    obtain ⟨K, hK⟩ := h
    exact ⟨K, hK K (Nat.le_refl _)⟩
  have hU : ∀ x : Int, (Lit.int .u64 x).wf = true → U x := by
    intro x w
    simp [Lit.wf] at w
    have h1 : IntKind.u64.min = 0 := rfl
    have h2 : IntKind.u64.max = 18446744073709551615 := rfl
    unfold U; omega
  have ha := hU a w0
  have hb := hU b w1
  have out1 : Ev (fun k => abacuslaw05_SoftTwoSum.j1 k a b true) true := by
    refine Ev_succ ?_
    simp only [abacuslaw05_SoftTwoSum.j1]
    exact Ev_pos (by first | rfl | trivial) (Ev_some rfl)
  simp only [abacuslaw05_SoftTwoSum.f]
  refine Ev.bind works_ev (Ev_pos (by first | rfl | trivial) (Ev.bind adds_ev (Ev_succ ?_)))
  simp only [abacuslaw05_SoftTwoSum.j0]
  refine Ev_neg (by simp) (Ev_bind_eq (modest_eq ha) ?_)
  by_cases ma : plc a < 9209861237972664320
  · refine Ev_pos (decide_eq_true ma) (Ev_bind_eq (modest_eq hb) ?_)
    by_cases mb : plc b < 9209861237972664320
    · rw [decide_eq_true mb]
      exact twosum_j1 ha hb ma mb
    · rw [decide_eq_false mb]
      exact out1
  · exact Ev_neg (by simp [ma]) out1
end Go.Proofs.YtcdnoklokoplaaaDoor.Pure
