/- The law of the limit of nat holds for every input. No conditions. -/
import Derived.Test.YtnicfpilpafddaaDoorTNat3
import Derived.Test.YtnicfpilpafddaaDoorTBits
import Derived.Test.YtnicfpilpafddaaDoorTMad
import Derived.Test.YtnicfpilpafddaaDoorPTx7
namespace Go.Proofs.YtnicfpilpafddaaDoor.Pure
open Go.RowKit Go.Proofs.YtnicfpilpafddaaDoorW.PrintWords Go.Proofs.YtnicfpilpafddaaDoorW.PrintLast Go.Proofs.YtnicfpilpafddaaDoorW.PrintMore Go.Proofs.YtnicfpilpafddaaDoor.Lib Go.Proofs.YtnicfpilpafddaaDoor.LibB Go.Proofs.YtnicfpilpafddaaDoor.PT Go.Proofs.YtnicfpilpafddaaDoor.TNat1 Go.Proofs.YtnicfpilpafddaaDoor.TNat2 Go.Proofs.YtnicfpilpafddaaDoor.TNat3 Go.Proofs.YtnicfpilpafddaaDoor.TBits Go.Proofs.YtnicfpilpafddaaDoor.TMad
set_option linter.unusedVariables false
theorem lim_len_pow (k : Nat) : (lim (2 ^ k)).length = k / 64 + 1 := by
  have h : ∀ m, (lim (2 ^ k)).length ≤ m ↔ k < 64 * m := fun m => by
    rw [lim_len_le, B_two]
    exact Nat.pow_lt_pow_iff_right (by omega)
  have h1 := h (k / 64 + 1)
  have h2 := h (k / 64)
  omega
theorem pow_limit (k : Nat) : 2 ^ k < B 4096 ↔ k < 262144 := by
  obtain ⟨N, hN⟩ : ∃ N, N = 64 * 4096 := ⟨_, rfl⟩
  rw [B_two, ← hN, Nat.pow_lt_pow_iff_right (by omega)]
  omega
theorem blen_div (n k : Nat) : blen (n / 2 ^ k) = blen n - k := by
  have h : ∀ m, blen (n / 2 ^ k) ≤ m ↔ blen n ≤ m + k := fun m => by
    rw [blen_le, blen_le, Nat.pow_add, Nat.div_lt_iff_lt_mul (Nat.pow_pos (by omega))]
  have h1 := h (blen n - k)
  have h2 := h (blen (n / 2 ^ k))
  omega
theorem wrap_small {n : Int} (h0 : -4611686018427387904 ≤ n) (h1 : n < 4611686018427387904) : wrap64 n = n := by unfold wrap64; omega
theorem half_of {k : Nat} (h : k < 262144) : wrap64 (Int.tdiv (k : Int) 2) = ((k / 2 : Nat) : Int) := by
  rw [Int.tdiv_eq_ediv_of_nonneg (by omega), wrap_small (by omega) (by omega)]
  omega
theorem limit_j2 {k : Nat} {x : List Int} (hk : k < 262144) (hx : x = lim (2 ^ k - 1)) : Ev (fun r => abacuslaw01_NatLimit.j2 r (k : Int) x false) true := by
  subst hx
  have h1 := (pow_limit k).2 hk
  have hp := Nat.pow_pos (n := k) (show 0 < 2 by omega)
  have h2 : 2 ^ k - 1 < B 4096 := by omega
  have hl := (lim_len_le (2 ^ k - 1) 4096).2 h2
  refine Ev_succ ?_
  simp only [abacuslaw01_NatLimit.j2]
  rw [half_of hk]
  refine Ev_neg (by simp) ?_
  have hs := nat_Shr_ev (a := lim (2 ^ k - 1)) (n := ((k / 2 : Nat) : Int)) (ok_lim _) (by omega) (by omega)
  rw [val_lim, shrAns, if_pos h2, if_neg (by omega), Int.toNat_natCast] at hs
  have h3 : (2 ^ k - 1) / 2 ^ (k / 2) < B 4096 := Nat.lt_of_le_of_lt (Nat.div_le_self _ _) h2
  have hl3 := (lim_len_le ((2 ^ k - 1) / 2 ^ (k / 2)) 4096).2 h3
  have hb := nat_BitLen_ev (l := lim ((2 ^ k - 1) / 2 ^ (k / 2))) (ok_lim _) (by omega)
  rw [val_lim, blen_div, blen_two_pow_pred] at hb
  have e : wrap64 ((k : Int) - ((k / 2 : Nat) : Int)) = ((k - k / 2 : Nat) : Int) := by rw [wrap_small (by omega) (by omega)]; omega
  rw [e]
  refine Ev.bind hs (Ev_pos rfl ?_)
  by_cases h4 : 2 ≤ k
  · have h5 : 2 ^ k - 1 ≠ 0 := by
      have := Nat.pow_le_pow_right (n := 2) (by omega) h4
      omega
    have h6 : tz (2 ^ k - 1) = 0 := by
      obtain ⟨j, rfl⟩ : ∃ j, k = j + 1 := ⟨k - 1, by omega⟩
      refine tz_eq (m := 2 ^ j - 1) ?_
      have := Nat.pow_pos (n := j) (show 0 < 2 by omega)
      rw [Nat.pow_succ, Nat.pow_zero]
      omega
    rw [decide_eq_true (⟨h5, by rw [h6]; omega⟩ : 2 ^ k - 1 ≠ 0 ∧ ((tz (2 ^ k - 1) : Nat) : Int) < ((k / 2 : Nat) : Int)), decide_eq_true (show (k : Int) > 0 by omega)]
    exact Ev_pos (by omega) (Ev_pos rfl (Ev.bind hb (Ev_some (by simp))))
  · rw [decide_eq_false (fun h : 2 ^ k - 1 ≠ 0 ∧ ((tz (2 ^ k - 1) : Nat) : Int) < ((k / 2 : Nat) : Int) => by have := h.2; omega)]
    exact Ev_neg (by omega) (Ev_pos rfl (Ev.bind hb (Ev_some (by simp))))
theorem val_one : val [1] = 1 := by simp [val_cons, val_nil]
theorem val_two : val [2] = 2 := by simp [val_cons, val_nil]
theorem limit_j1 {k : Nat} {x p : List Int} (hk : k < 262144) (hx : x = [1]) (hp : p = lim (2 ^ k)) : Ev (fun r => abacuslaw01_NatLimit.j1 r (k : Int) x p) true := by
  subst hx hp
  have h1 := (pow_limit k).2 hk
  have hp := Nat.pow_pos (n := k) (show 0 < 2 by omega)
  have hl := (lim_len_le (2 ^ k) 4096).2 h1
  have h2 : 2 ^ k - 1 < B 4096 := by omega
  have hl2 := (lim_len_le (2 ^ k - 1) 4096).2 h2
  refine Ev_succ ?_
  simp only [abacuslaw01_NatLimit.j1]
  have hs := nat_Sub_ev (a := lim (2 ^ k)) (b := [1]) (ok_lim _) (ok_of_list (by decide)) (by omega) (by simp)
  rw [val_lim, val_one, sub_ok h1 (by omega)] at hs
  have hb := nat_BitLen_ev (l := lim (2 ^ k - 1)) (ok_lim _) (by omega)
  rw [val_lim, blen_two_pow_pred] at hb
  refine Ev.bind hs (Ev_pos rfl (Ev.bind hb ?_))
  rw [show ((k : Int) != (k : Int)) = false by simp]
  exact limit_j2 hk rfl
theorem limit_j0 {k : Nat} {x p : List Int} (hk : k < 262144) (hx : x = [1]) (hp : p = lim (2 ^ k)) : Ev (fun r => abacuslaw01_NatLimit.j0 r (k : Int) x p false) true := by
  have j1 := limit_j1 hk hx hp
  subst hx hp
  have h1 := (pow_limit k).2 hk
  have hl := (lim_len_le (2 ^ k) 4096).2 h1
  have hlp := lim_len_pow k
  have hpp := Nat.pow_pos (n := k) (show 0 < 2 by omega)
  refine Ev_succ ?_
  simp only [abacuslaw01_NatLimit.j0]
  refine Ev_neg (by simp) ?_
  have e1 := nat_Add_ev (ok_lim (2 ^ k)) (ok_lim (2 ^ k)) (by omega) (by omega)
  rw [val_lim, ans2, if_pos ⟨h1, h1⟩, show 2 ^ k + 2 ^ k = 2 ^ (k + 1) by rw [Nat.pow_succ]; omega] at e1
  have e2 := nat_Mul_ev (a := [2]) (ok_of_list (by decide)) (ok_lim (2 ^ k)) (by simp) (by omega)
  have l2 : (lim 2).length = 1 := by rw [lim_one_len (by omega) (by omega)]; rfl
  rw [val_lim, val_two, mulAns, ans2, if_pos ⟨small_limit (by omega), h1⟩, if_neg (by omega), l2, hlp, if_neg (by omega), show 2 * 2 ^ k = 2 ^ (k + 1) by rw [Nat.pow_succ]; omega] at e2
  have e3 := nat_MulAdd_ev (a := lim (2 ^ k)) (m := 2) (c := 0) (ok_lim _) (by omega) (by omega) (by omega)
  rw [val_lim, mulAddAns, if_pos h1, show 2 ^ k * (2 : Int).toNat + (0 : Int).toNat = 2 ^ (k + 1) by rw [Nat.pow_succ]; rfl] at e3
  have e4 := nat_Shl_ev (a := lim (2 ^ k)) (n := 1) (ok_lim _) (by omega) (by omega)
  rw [val_lim, shlAns, if_pos h1, if_neg (by omega), if_neg (by omega), if_neg (by omega), show 2 ^ k * 2 ^ (1 : Int).toNat = 2 ^ (k + 1) by rw [Nat.pow_succ]; rfl] at e4
  have ha : ans (2 ^ (k + 1)) = if k = 262143 then ([], 2) else (lim (2 ^ (k + 1)), 0) := by
    have := pow_limit (k + 1)
    rw [ans]
    by_cases h : k = 262143
    · rw [if_pos h, if_neg (by omega)]
    · rw [if_neg h, if_pos (by omega)]
  rw [ha] at e1 e2 e3 e4
  refine Ev.bind e1 (Ev.bind e2 (Ev.bind e3 (Ev.bind e4 ?_)))
  by_cases h : k = 262143
  · simp only [if_pos h]
    exact Ev_pos (by omega) (Ev_pos trivial (Ev_pos trivial (Ev_pos trivial (Ev_pos trivial j1))))
  · simp only [if_neg h]
    have hl1 := (lim_len_le (2 ^ (k + 1)) 4096).2 ((pow_limit (k + 1)).2 (by omega))
    have hb := nat_BitLen_ev (l := lim (2 ^ (k + 1))) (ok_lim _) (by omega)
    rw [val_lim, blen_two_pow] at hb
    have sm := abacuslaw01_same_ev (a := lim (2 ^ (k + 1))) (b := lim (2 ^ (k + 1))) (by omega)
    rw [decide_eq_true rfl] at sm
    refine Ev_neg (by omega) (Ev_pos trivial (Ev_pos trivial (Ev_pos trivial (Ev_pos trivial ?_))))
    refine Ev.bind sm (Ev_pos rfl (Ev.bind sm (Ev_pos rfl (Ev.bind sm (Ev_pos rfl (Ev.bind hb (Ev_pos ?_ j1)))))))
    rw [wrap_small (by omega) (by omega)]
    omega
theorem NatLimit : abacuslaw01_NatLimit.Pure := by
  intro a wa
  have h1 : IntKind.i64.min = -9223372036854775808 := rfl
  have h2 : IntKind.i64.max = 9223372036854775807 := rfl
  have hk : a ≤ 9223372036854775807 := by
    simp [Lit.wf] at wa
    omega
  refine Ev.rounds ?_
  simp only [abacuslaw01_NatLimit.f]
  refine Ev.bind awake_ev (Ev_pos rfl (Ev_bind_some ?_))
  have e1 := nat_Shl_ev (a := [1]) (n := a) (ok_of_list (by decide)) (by simp) (by omega)
  rw [val_one, shlAns, if_pos (small_limit (by omega))] at e1
  by_cases h3 : a < 0
  · rw [if_pos h3] at e1
    exact Ev.bind e1 (Ev_pos h3 (Ev_pos rfl (Ev_some rfl)))
  · obtain ⟨k, rfl⟩ := Int.eq_ofNat_of_zero_le (show 0 ≤ a by omega)
    rw [if_neg h3, if_neg (by omega), Nat.one_mul, Int.toNat_natCast] at e1
    have hlim := pow_limit k
    by_cases h4 : k ≥ 262144
    · have e2 : (if (k : Int) > 262144 then (([], 2) : List Int × Int) else ans (2 ^ k)) = ([], 2) := by
        by_cases h5 : (k : Int) > 262144
        · rw [if_pos h5]
        · rw [if_neg h5, ans, if_neg (by omega)]
      rw [e2] at e1
      exact Ev.bind e1 (Ev_neg h3 (Ev_pos (by omega) (Ev_pos rfl (Ev_some rfl))))
    · have hk2 : k < 262144 := by omega
      have hl := hlim.2 hk2
      rw [if_neg (by omega), ans, if_pos hl] at e1
      have hll := (lim_len_le (2 ^ k) 4096).2 hl
      have hb := nat_BitLen_ev (l := lim (2 ^ k)) (ok_lim _) (by omega)
      rw [val_lim, blen_two_pow] at hb
      have ht := nat_Trail_ev (l := lim (2 ^ k)) (ok_lim _) (by omega)
      rw [val_lim, tz_two_pow] at ht
      have hlp := lim_len_pow k
      refine Ev.bind e1 (Ev_neg h3 (Ev_neg (by omega) (Ev_pos rfl (Ev.bind hb (Ev_pos ?_ (Ev.bind ht (Ev_pos rfl ?_)))))))
      · rw [wrap_small (by omega) (by omega)]; omega
      · have e3 : wrap64 (wrap64 (Int.tdiv (k : Int) 64) + 1) = ((k / 64 + 1 : Nat) : Int) := by
          rw [Int.tdiv_eq_ediv_of_nonneg (by omega), wrap_small (n := (k : Int) / 64) (by omega) (by omega), wrap_small (by omega) (by omega)]
          omega
        simp only [e3, hlp]
        rw [show (((k / 64 + 1 : Nat) : Int) != ((k / 64 + 1 : Nat) : Int)) = false by simp]
        exact limit_j0 hk2 rfl rfl
end Go.Proofs.YtnicfpilpafddaaDoor.Pure
