/- No double is nearer to a quotient, for every input. No conditions. -/
import Derived.Test.YtcdnoklokoplaaaDoorQSoftDiv
import Derived.Test.YtcdnoklokoplaaaDoorQSoftNear1
namespace Go.Proofs.YtcdnoklokoplaaaDoor.Pure
open Go.RowKit Go.Proofs.YtcdnoklokoplaaaDoor.Lib Go.Proofs.YtcdnoklokoplaaaDoor.LibB Go.Proofs.YtcdnoklokoplaaaDoor.F Go.Proofs.YtcdnoklokoplaaaDoor.Nat1 Go.Proofs.YtcdnoklokoplaaaDoor.Nat2 Go.Proofs.YtcdnoklokoplaaaDoor.Bits Go.Proofs.YtcdnoklokoplaaaDoor.Ieee1 Go.Proofs.YtcdnoklokoplaaaDoor.Mag Go.Proofs.YtcdnoklokoplaaaDoor.Ieee2 Go.Proofs.YtcdnoklokoplaaaDoor.Soft1 Go.Proofs.YtcdnoklokoplaaaDoor.Soft2 Go.Proofs.YtcdnoklokoplaaaDoor.SoftDiv Go.Proofs.YtcdnoklokoplaaaDoor.SoftNear1 Go.Proofs.YtcdnoklokoplaaaDoor.Rnd
set_option linter.unusedVariables false
set_option linter.unusedSimpArgs false
theorem works_ev : Ev (fun k _ _ => abacuslaw05_works.f k) true := Ev_at 150 fun d => by kernel_rfl
theorem six_ev : Ev (fun k _ _ => soft_Div.f k 4618441417868443648 4611686018427387904) 4613937818241073152 := Ev_at 6000 fun d => by kernel_rfl
theorem some_eq {d : Int} (h : U d) : abacuslaw05_some.f d = some (decide (fin d ∧ plc d ≠ 0)) := by
  unfold abacuslaw05_some.f abacuslaw05_some.b0
  rw [finite_eq h, Option.bind_some, bit_abs h]
  by_cases hf : fin d
  · rw [if_pos (decide_eq_true hf)]
    congr 1
    refine decide_eq_decide.2 ?_
    unfold plc
    constructor
    · intro h1; exact ⟨hf, by omega⟩
    · rintro ⟨_, h1⟩; omega
  · rw [if_neg (by simp [hf]), decide_eq_false (fun h1 => hf h1.1)]
theorem SoftNearQuotient {a b : Int} (ha : U a) (hb : U b) : ∃ n, abacuslaw05_SoftNearQuotient.f n a b = some true := by
  refine Ev.rounds (g := fun n => abacuslaw05_SoftNearQuotient.f n a b) ?_
  simp only [abacuslaw05_SoftNearQuotient.f, abacuslaw05_SoftNearQuotient.b0]
  refine Ev.bind works_ev (Ev_neg (by simp) (Ev.bind six_ev (Ev_neg (by simp) (Ev_bind_eq (finite_eq ha) ?_))))
  by_cases fa : fin a
  · refine Ev_neg (by simp [fa]) (Ev_bind_eq (some_eq hb) ?_)
    by_cases fb : fin b ∧ plc b ≠ 0
    · refine Ev_neg (by simp [fb]) ?_
      obtain ⟨fb, b0⟩ := fb
      obtain ⟨K, hK⟩ : ∃ K, K = 1074 := ⟨_, rfl⟩
      obtain ⟨F, hF⟩ : ∃ F, F = 2098 := ⟨_, rfl⟩
      have ua := uni_lt_pow hF (plc_fin.1 fa)
      have ub := uni_lt_pow hF (plc_fin.1 fb)
      have hq := Nat.mul_lt_mul_of_pos_right ua (show 0 < 2 ^ K from Nat.pow_pos (by omega))
      rw [← Nat.pow_add] at hq
      have hq2 : uni (plc a) * 2 ^ K < 2 ^ (F + F) := Nat.lt_of_lt_of_le hq (Nat.pow_le_pow_right (by omega) (by omega))
      have hi : uni inf = 2 ^ F := by
        rw [uni_inf (E := F - 52) (by omega), show (4503599627370496 : Nat) = 2 ^ 52 from rfl, ← Nat.pow_add]
        congr 1; omega
      have hr : uni inf * uni (plc b) < 2 ^ (F + F) := by
        rw [hi, Nat.pow_add]
        exact Nat.mul_lt_mul_of_pos_left ub (Nat.pow_pos (by omega))
      have t1 := twice (F + F)
      have hB0 : 0 < uni (plc b) := by
        have := uni_smono (show 0 < plc b by omega)
        rw [uni_zero] at this; exact this
      have x2 := lifted_ev (b := sgn a) (n := K) (pow_B ua (by omega)) (pow_B hq2 (by omega)) (by omega)
      rw [show ((K : Nat) : Int) = 1074 by omega] at x2
      obtain ⟨p, d1, d2⟩ := Div_ev hK ha hb fa fb b0
      have n1 := nearest_ev (bv := sgn a) (bm := sgn b) (s := (sgn a != sgn b)) d2 hB0 (fun _ => by cases sgn a <;> cases sgn b <;> rfl) (pow_B (n := F + F + 1) (by omega) (by omega))
      clear ua ub hq hq2 hi hr t1 d2
      exact Ev.bind (units_ev ha fa) (Ev.bind x2 (Ev.bind d1 (Ev.bind (units_ev hb fb) (Ev.bind n1 (Ev_some rfl)))))
    · exact Ev_pos (by simp [fb]) (Ev_some rfl)
  · exact Ev_pos (by simp [fa]) (Ev_some rfl)
end Go.Proofs.YtcdnoklokoplaaaDoor.Pure
