/- No double is nearer to a product, or to a product and a sum, for every input. No conditions. -/
import Derived.Test.YtcdnoklokoplaaaDoorQSoft2
import Derived.Test.YtcdnoklokoplaaaDoorQSoftNear1
namespace Go.Proofs.YtcdnoklokoplaaaDoor.Pure
open Go.RowKit Go.Proofs.YtcdnoklokoplaaaDoor.Lib Go.Proofs.YtcdnoklokoplaaaDoor.LibB Go.Proofs.YtcdnoklokoplaaaDoor.F Go.Proofs.YtcdnoklokoplaaaDoor.Nat1 Go.Proofs.YtcdnoklokoplaaaDoor.Nat2 Go.Proofs.YtcdnoklokoplaaaDoor.Bits Go.Proofs.YtcdnoklokoplaaaDoor.Ieee1 Go.Proofs.YtcdnoklokoplaaaDoor.Mag Go.Proofs.YtcdnoklokoplaaaDoor.Ieee2 Go.Proofs.YtcdnoklokoplaaaDoor.Soft1 Go.Proofs.YtcdnoklokoplaaaDoor.Soft2 Go.Proofs.YtcdnoklokoplaaaDoor.SoftNear1 Go.Proofs.YtcdnoklokoplaaaDoor.Rnd
set_option linter.unusedVariables false
set_option linter.unusedSimpArgs false
theorem works_ev : Ev (fun k _ _ => abacuslaw05_works.f k) true := Ev_at 150 fun d => by kernel_rfl
theorem six_ev : Ev (fun k _ _ => soft_Mul.f k 4613937818241073152 4611686018427387904) 4618441417868443648 := Ev_at 3000 fun d => by kernel_rfl
theorem nine_ev : Ev (fun k _ _ => soft_Fma.f k 4611686018427387904 4613937818241073152 4613937818241073152) 4621256167635550208 := Ev_at 3000 fun d => by kernel_rfl
theorem one_eq : abacuslaw05_one.f = some (false, lim 1) := by
  unfold abacuslaw05_one.f abacuslaw05_one.b0
  rw [lim_one_len (n := 1) (by omega) (by omega)]
  rfl
theorem unit_ev {K : Nat} (hK : K = 1074) : Ev (fun k _ _ => abacuslaw05_unit.f k) (false, lim (2 ^ K)) := by
  have h := lifted_ev (b := false) (x := 1) (n := K) (small_limit (by omega)) (by rw [Nat.one_mul]; exact pow_B (n := K + 1) (Nat.pow_lt_pow_right (by omega) (by omega)) (by omega)) (by omega)
  rw [Nat.one_mul, show ((K : Nat) : Int) = 1074 by omega] at h
  simp only [abacuslaw05_unit.f, abacuslaw05_unit.b0]
  exact Ev_bind_eq one_eq (Ev.bind h (Ev_some rfl))
theorem rdm_nearest {bv z : Bool} {V K : Nat} {d : Int} (h : RdM d (sv bv V) (2 ^ K) z) (hB : V + uni inf * 2 ^ K < B 4096) : Ev (fun k _ _ => abacuslaw05_nearest.f k bv (lim V) d false (lim (2 ^ K))) true := by
  obtain ⟨s, p, rfl, h1, h2, h3⟩ := h
  rw [sv_abs] at h1
  refine nearest_ev h1 (Nat.pow_pos (by omega)) (fun hV => ?_) hB
  have hne : sv bv V ≠ 0 := by unfold sv; cases bv <;> simp <;> omega
  rw [h2 hne]
  unfold sv
  cases bv <;> simp <;> omega
theorem product_l {a b c : Int} (ha : U a) (hb : U b) (hc : U c) (fa : fin a) (fb : fin b) (fc : fin c) {K : Nat} (hK : K = 1074) :
    Ev (fun k _ _ => abacuslaw05_SoftNearProduct.l63 k a b c (sgn a != sgn b) (lim (uni (plc a) * uni (plc b))) (pl (sgn a != sgn b) (uni (plc a) * uni (plc b)) (sgn c) (uni (plc c) * 2 ^ K)).1 (lim (pl (sgn a != sgn b) (uni (plc a) * uni (plc b)) (sgn c) (uni (plc c) * 2 ^ K)).2)) true := by
  obtain ⟨F, hF⟩ : ∃ F, F = 2098 := ⟨_, rfl⟩
  have ua := uni_lt_pow hF (plc_fin.1 fa)
  have ub := uni_lt_pow hF (plc_fin.1 fb)
  have uc := uni_lt_pow hF (plc_fin.1 fc)
  have hi : uni inf = 2 ^ F := by
    rw [uni_inf (E := F - 52) (by omega), show (4503599627370496 : Nat) = 2 ^ 52 from rfl, ← Nat.pow_add]
    congr 1; omega
  have hp := Nat.mul_lt_mul'' ua ub
  have hq := Nat.mul_lt_mul_of_pos_right uc (show 0 < 2 ^ K from Nat.pow_pos (by omega))
  rw [← Nat.pow_add] at hp hq
  have hq2 : uni (plc c) * 2 ^ K < 2 ^ (F + F) := Nat.lt_of_lt_of_le hq (Nat.pow_le_pow_right (by omega) (by omega))
  have hr : uni inf * 2 ^ K ≤ 2 ^ (F + F) := by rw [hi, ← Nat.pow_add]; exact Nat.pow_le_pow_right (by omega) (by omega)
  have hV := pl_le (sgn a != sgn b) (uni (plc a) * uni (plc b)) (sgn c) (uni (plc c) * 2 ^ K)
  have hval := pl_val (sgn a != sgn b) (uni (plc a) * uni (plc b)) (sgn c) (uni (plc c) * 2 ^ K)
  obtain ⟨d, d1, d2⟩ := Mul_ev hK ha hb fa fb
  obtain ⟨e, e1, e2⟩ := Fma_ev hK ha hb hc fa fb fc
  rw [show sval a * sval b = sv (sgn a != sgn b) (uni (plc a) * uni (plc b)) from sv_prod _ _ _ _] at d2 e2
  rw [show sval c * ((2 ^ K : Nat) : Int) = sv (sgn c) (uni (plc c) * 2 ^ K) from (sv_mul _ _ _).symm, ← hval] at e2
  have t1 := twice (F + F)
  have t2 := twice (F + F + 1)
  have n1 := rdm_nearest d2 (pow_B (n := F + F + 1 + 1) (by omega) (by omega))
  have n2 := rdm_nearest e2 (pow_B (n := F + F + 1 + 1) (by omega) (by omega))
  clear hV hval ua ub uc hp hq hq2 hr t1 t2 hi
  simp only [abacuslaw05_SoftNearProduct.l63, abacuslaw05_SoftNearProduct.b63]
  exact Ev.bind d1 (Ev.bind (unit_ev hK) (Ev.bind n1 (Ev_pos rfl (Ev.bind e1 (Ev.bind (unit_ev hK) (Ev.bind n2 (Ev_some rfl)))))))
theorem SoftNearProduct {a b c : Int} (ha : U a) (hb : U b) (hc : U c) : ∃ n, abacuslaw05_SoftNearProduct.f n a b c = some true := by
  refine Ev.rounds (g := fun n => abacuslaw05_SoftNearProduct.f n a b c) ?_
  simp only [abacuslaw05_SoftNearProduct.f, abacuslaw05_SoftNearProduct.b0]
  refine Ev.bind works_ev (Ev_neg (by simp) (Ev.bind six_ev (Ev_neg (by simp) (Ev.bind nine_ev (Ev_neg (by simp) (Ev_bind_eq (finite_eq ha) ?_))))))
  by_cases fa : fin a
  · refine Ev_neg (by simp [fa]) (Ev_bind_eq (finite_eq hb) ?_)
    by_cases fb : fin b
    · refine Ev_neg (by simp [fb]) (Ev_bind_eq (finite_eq hc) ?_)
      by_cases fc : fin c
      · refine Ev_neg (by simp [fc]) ?_
        obtain ⟨K, hK⟩ : ∃ K, K = 1074 := ⟨_, rfl⟩
        obtain ⟨F, hF⟩ : ∃ F, F = 2098 := ⟨_, rfl⟩
        have ua := uni_lt_pow hF (plc_fin.1 fa)
        have ub := uni_lt_pow hF (plc_fin.1 fb)
        have uc := uni_lt_pow hF (plc_fin.1 fc)
        have hp := Nat.mul_lt_mul'' ua ub
        have hq := Nat.mul_lt_mul_of_pos_right uc (show 0 < 2 ^ K from Nat.pow_pos (by omega))
        rw [← Nat.pow_add] at hp hq
        have hq2 : uni (plc c) * 2 ^ K < 2 ^ (F + F) := Nat.lt_of_lt_of_le hq (Nat.pow_le_pow_right (by omega) (by omega))
        have t1 := twice (F + F)
        have x1 := times_ev (b := sgn a) (c := sgn b) (pow_B hp (by omega)) (pow_B ua (by omega)) (pow_B ub (by omega))
        have x2 := lifted_ev (b := sgn c) (n := K) (pow_B uc (by omega)) (pow_B hq2 (by omega)) (by omega)
        have x3 := plus_ev (b := (sgn a != sgn b)) (c := sgn c) (pow_B (x := uni (plc a) * uni (plc b) + uni (plc c) * 2 ^ K) (n := F + F + 1) (by omega) (by omega))
        rw [show ((K : Nat) : Int) = 1074 by omega] at x2
        clear ua ub uc hp hq hq2 t1
        exact Ev.bind (units_ev ha fa) (Ev.bind (units_ev hb fb) (Ev.bind x1 (Ev.bind (units_ev hc fc) (Ev.bind x2 (Ev.bind x3 (product_l ha hb hc fa fb fc hK))))))
      · exact Ev_pos (by simp [fc]) (Ev_some rfl)
    · exact Ev_pos (by simp [fb]) (Ev_some rfl)
  · exact Ev_pos (by simp [fa]) (Ev_some rfl)
end Go.Proofs.YtcdnoklokoplaaaDoor.Pure
