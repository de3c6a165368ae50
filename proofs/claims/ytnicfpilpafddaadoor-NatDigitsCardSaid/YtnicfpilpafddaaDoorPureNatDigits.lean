/- The law of the digits of nat holds for every input. No conditions. -/
import Derived.Test.YtnicfpilpafddaaDoorTNat3
import Derived.Test.YtnicfpilpafddaaDoorTBits
import Derived.Test.YtnicfpilpafddaaDoorTMad
import Derived.Test.YtnicfpilpafddaaDoorPTx4
namespace Go.Proofs.YtnicfpilpafddaaDoor.Pure
open Go.RowKit Go.Proofs.YtnicfpilpafddaaDoorW.PrintWords Go.Proofs.YtnicfpilpafddaaDoorW.PrintLast Go.Proofs.YtnicfpilpafddaaDoorW.PrintMore Go.Proofs.YtnicfpilpafddaaDoor.Lib Go.Proofs.YtnicfpilpafddaaDoor.LibB Go.Proofs.YtnicfpilpafddaaDoor.PT Go.Proofs.YtnicfpilpafddaaDoor.TNat1 Go.Proofs.YtnicfpilpafddaaDoor.TNat2 Go.Proofs.YtnicfpilpafddaaDoor.TNat3 Go.Proofs.YtnicfpilpafddaaDoor.TBits Go.Proofs.YtnicfpilpafddaaDoor.TMad
set_option linter.unusedVariables false
/-- The lowest bit of v that stands at j or above. -/
def lowOf (v j : Nat) : Nat := if v / 2 ^ j = 0 then 0 else j + tz (v / 2 ^ j)
theorem half (v j : Nat) : v / 2 ^ j = v / 2 ^ (j + 1) * 2 + v / 2 ^ j % 2 := by
  rw [Nat.pow_succ, ← Nat.div_div_eq_div_mul]
  omega
theorem lowOf_odd {v j : Nat} (h : v / 2 ^ j % 2 = 1) : lowOf v j = j := by
  unfold lowOf
  have h1 : tz (v / 2 ^ j) = 0 := tz_eq (m := v / 2 ^ j / 2) (by rw [Nat.pow_zero, Nat.one_mul]; omega)
  rw [if_neg (by omega), h1]; rfl
theorem lowOf_even {v j : Nat} (h : v / 2 ^ j % 2 = 0) : lowOf v j = lowOf v (j + 1) := by
  have h1 := half v j
  unfold lowOf
  rw [h, Nat.add_zero] at h1
  by_cases h2 : v / 2 ^ (j + 1) = 0
  · rw [if_pos h2, if_pos (by omega)]
  · rw [if_neg h2, if_neg (by omega)]
    have h3 := tz_mul_pow h2 1
    rw [Nat.pow_one, ← h1] at h3
    rw [h3]
    omega
theorem top_bit {v i : Nat} (h : i + 1 = blen v) : v / 2 ^ i % 2 = 1 := by
  have h0 : v ≠ 0 := blen_pos.1 (by omega)
  have h1 := blen_ge h0
  have h2 := blen_lt v
  rw [← h] at h1 h2
  rw [Nat.add_sub_cancel] at h1
  rw [Nat.pow_succ] at h2
  have h3 : v / 2 ^ i < 2 := Nat.div_lt_of_lt_mul h2
  have h4 : 1 ≤ v / 2 ^ i := (Nat.le_div_iff_mul_le (Nat.pow_pos (by omega))).2 (by rw [Nat.one_mul]; exact h1)
  omega
theorem wrap_pred {j : Nat} (h : j ≤ 9223372036854775807) : wrap64 ((j : Int) - 1) = (j : Int) - 1 := by unfold wrap64; omega
theorem blen_le_of {v : Nat} (h : v < B 4096) : blen v ≤ 262144 := by
  obtain ⟨N, hN⟩ : ∃ N, N = 64 * 4096 := ⟨_, rfl⟩
  rw [B_two, ← hN, ← blen_le] at h
  omega
theorem digits_wraps {m b : Nat} (hm : m ≤ 300) (h3 : b ≤ 64 * m) (h4 : m = 0 ∨ 64 * (m - 1) < b) : ¬ (b : Int) > wrap64 (64 * (m : Int)) ∧ ¬ (b : Int) < wrap64 (wrap64 (64 * (m : Int)) - 63) := by
  unfold wrap64
  omega
theorem digits_l {a : List Int} (ha : ok a) (hla : a.length ≤ 35184372088832) (hv : Aside0 (val a < B 4096)) (hb : blen (val a) ≤ 262144) (j : Nat) : j ≤ blen (val a) →
    Ev (fun k => abacuslaw01_NatDigits.l0 k a ((blen (val a) : Nat) : Int) ((lowOf (val a) j : Nat) : Int) (lim (val a / 2 ^ j)) ((j : Int) - 1)) true := by
  induction j with
  | zero =>
    intro _
    refine Ev_succ ?_
    simp only [abacuslaw01_NatDigits.l0]
    refine Ev_neg (by omega) ?_
    rw [Nat.pow_zero, Nat.div_one]
    have h1 := nat_Cmp_ev (ok_lim (val a)) ha (by have := len_limit hv.out (by omega); omega) (by omega)
    rw [val_lim, cmp_self] at h1
    refine Ev.bind h1 (Ev_pos rfl (Ev.bind (nat_Trail_ev ha hla) (Ev_pos ?_ ?_)))
    · unfold lowOf
      rw [Nat.pow_zero, Nat.div_one]
      by_cases h0 : val a = 0
      · rw [if_pos h0, h0]; rfl
      · rw [if_neg h0, Nat.zero_add]
    · have h2 := nat_Bit_eq ha hla ((blen (val a) : Nat) : Int) (by omega)
      rw [if_neg (by omega), Int.toNat_natCast, Nat.div_eq_of_lt (blen_lt _)] at h2
      refine Ev_bind_eq h2 (Ev_pos rfl (Ev_bind_eq (nat_Bit_eq ha hla (-1) (by omega)) (Ev_some rfl)))
  | succ j ih =>
    intro hj
    have e : ((j + 1 : Nat) : Int) - 1 = (j : Int) := by omega
    have h1 := nat_Bit_eq ha hla (j : Int) (by omega)
    rw [if_neg (by omega), Int.toNat_natCast] at h1
    have sl : val a / 2 ^ (j + 1) < B 4096 := Nat.lt_of_le_of_lt (Nat.div_le_self _ _) hv.out
    have sj : val a / 2 ^ j < B 4096 := Nat.lt_of_le_of_lt (Nat.div_le_self _ _) hv.out
    have hh := half (val a) j
    refine Ev_succ ?_
    simp only [abacuslaw01_NatDigits.l0, e]
    refine Ev_pos (by omega) (Ev_bind_eq h1 ?_)
    rw [wrap_pred (by omega)]
    have j2f : ∀ c : Nat, val a / 2 ^ j % 2 = c → Ev (fun k => abacuslaw01_NatDigits.j2 k a ((blen (val a) : Nat) : Int) ((lowOf (val a) (j + 1) : Nat) : Int) (lim (val a / 2 ^ (j + 1))) (j : Int) (c : Int) false) true := by
      intro c hc
      have hc2 : c < 2 := by rw [← hc]; exact Nat.mod_lt _ (by omega)
      have hm := nat_MulAdd_ev (a := lim (val a / 2 ^ (j + 1))) (m := 2) (c := (c : Int)) (ok_lim _) (by have := len_limit sl (by omega); omega) (by omega) (by omega)
      rw [val_lim, mulAddAns, if_pos sl, Int.toNat_natCast, show (2 : Int).toNat = 2 from rfl, ← hc, ← hh, ans, if_pos sj, hc] at hm
      have i1 := ih (by omega)
      refine Ev_succ ?_
      simp only [abacuslaw01_NatDigits.j2]
      rw [wrapU64 (n := (c : Int)) (by omega) (by omega), wrap_pred (by omega)]
      refine Ev_neg (by simp) ?_
      by_cases hc1 : c = 1
      · subst hc1
        rw [lowOf_odd hc] at i1
        exact Ev_pos rfl (Ev.bind hm (Ev_pos rfl i1))
      · rw [lowOf_even (by omega)] at i1
        exact Ev_neg (by omega) (Ev.bind hm (Ev_pos rfl i1))
    rcases Nat.mod_two_eq_zero_or_one (val a / 2 ^ j) with hc | hc
    · rw [hc]
      refine Ev_pos rfl (Ev_neg ?_ (j2f 0 hc))
      intro he
      have := top_bit (v := val a) (i := j) (by omega)
      omega
    · rw [hc]
      refine Ev_neg (by decide) (Ev_pos rfl ?_)
      by_cases he : (j : Int) = ((blen (val a) : Nat) : Int) - 1
      · exact Ev_pos he (j2f 1 hc)
      · exact Ev_neg he (j2f 1 hc)
theorem NatDigits : abacuslaw01_NatDigits.Pure := by
  intro a la ya wa
  refine Ev.rounds ?_
  have ha := ok_of_wf wa
  have la' : a.length ≤ 35184372088832 := by omega
  simp only [abacuslaw01_NatDigits.f]
  refine Ev.bind awake_ev (Ev_pos rfl ?_)
  refine Ev.bind (abacuslaw01_size_ev ha (by omega)) ?_
  by_cases h1 : (lim (val a)).length > 300
  · exact Ev_pos (by omega) (Ev_some rfl)
  · have h2 := (lim_len_le (val a) 300).1 (by omega)
    have hv := lt_limit h2 (by omega)
    have hb := blen_le_of hv
    refine Ev_neg (by omega) (Ev.bind (nat_BitLen_ev ha la') (Ev.bind (abacuslaw01_size_ev ha (by omega)) ?_))
    have h3 : blen (val a) ≤ 64 * (lim (val a)).length := (blen_le _ _).2 (by rw [← B_two]; exact (lim_len_le _ _).1 (Nat.le_refl _))
    have h4 : (lim (val a)).length = 0 ∨ 64 * ((lim (val a)).length - 1) < blen (val a) := by
      have hz := @lim_len_zero (val a)
      by_cases h0 : val a = 0
      · exact .inl (hz.2 h0)
      · have h5 := lim_len_ge (val a) h0
        have h7 := blen_le (val a) (64 * ((lim (val a)).length - 1))
        rw [← B_two] at h7
        right
        rcases Nat.lt_or_ge (64 * ((lim (val a)).length - 1)) (blen (val a)) with h8 | h8
        · exact h8
        · exact absurd (Nat.lt_of_lt_of_le (h7.1 h8) h5) (Nat.lt_irrefl _)
    obtain ⟨h5, h4⟩ := digits_wraps (by omega) h3 h4
    refine Ev_neg h5 (Ev.bind (abacuslaw01_size_ev ha (by omega)) (Ev_neg h4 ?_))
    refine Ev_succ ?_
    simp only [abacuslaw01_NatDigits.j0]
    refine Ev_neg (by simp) ?_
    have := digits_l ha la' ⟨hv⟩ hb (blen (val a)) (Nat.le_refl _)
    rw [lowOf, Nat.div_eq_of_lt (blen_lt _), if_pos rfl, lim_zero] at this
    rw [wrap_pred (by omega)]
    exact this
end Go.Proofs.YtnicfpilpafddaaDoor.Pure
