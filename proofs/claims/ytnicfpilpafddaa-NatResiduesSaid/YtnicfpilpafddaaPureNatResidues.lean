/- Remainders of products go by the factors' remainders, for every input. No conditions. -/
import Derived.Test.YtnicfpilpafddaaRNat3
import Derived.Test.YtnicfpilpafddaaRDiv
import Derived.Test.YtnicfpilpafddaaPRx2
import Derived.Test.YtnicfpilpafddaaPRx4
import Derived.Test.YtnicfpilpafddaaPRx5
namespace Go.Proofs.Ytnicfpilpafddaa.Pure
open Go.RowKit Go.Proofs.YtnicfpilpafddaaW.PrintWords Go.Proofs.YtnicfpilpafddaaW.PrintLast Go.Proofs.YtnicfpilpafddaaW.PrintMore Go.Proofs.Ytnicfpilpafddaa.Lib Go.Proofs.Ytnicfpilpafddaa.PR Go.Proofs.Ytnicfpilpafddaa.RNat1 Go.Proofs.Ytnicfpilpafddaa.RNat2 Go.Proofs.Ytnicfpilpafddaa.RMad Go.Proofs.Ytnicfpilpafddaa.RNat3 Go.Proofs.Ytnicfpilpafddaa.RDiv
set_option linter.unusedVariables false
theorem wf_u64 {x : Int} (h : (Lit.int .u64 x).wf = true) : 0 ≤ x ∧ x < 18446744073709551616 := by
  simp [Lit.wf] at h
  have h1 : IntKind.u64.min = 0 := rfl
  have h2 : IntKind.u64.max = 18446744073709551615 := rfl
  omega
theorem ans_in {n : Nat} (h : n < B 4096) : ans n = (lim n, 0) := by rw [ans, if_pos h]
theorem mul_fit {a b : Nat} (h : (lim a).length + (lim b).length ≤ 4096) : mulAns a b = (lim (a * b), 0) ∧ a < B 4096 ∧ b < B 4096 ∧ a * b < B 4096 := by
  have ha := (lim_len_le a (lim a).length).1 (Nat.le_refl _)
  have hb := (lim_len_le b (lim b).length).1 (Nat.le_refl _)
  have hA : a < B 4096 := Nat.lt_of_lt_of_le ha (B_mono (by omega))
  have hB : b < B 4096 := Nat.lt_of_lt_of_le hb (B_mono (by omega))
  have hp : a * b < B 4096 := by
    have h1 : a * b < B (lim a).length * B (lim b).length := Nat.mul_lt_mul'' ha hb
    rw [← B_add] at h1
    exact Nat.lt_of_lt_of_le h1 (B_mono h)
  refine ⟨?_, hA, hB, hp⟩
  rw [mulAns, ans2, if_pos ⟨hA, hB⟩]
  by_cases h0 : a = 0 ∨ b = 0
  · rw [if_pos h0]
    have : a * b = 0 := by rcases h0 with rfl | rfl <;> simp
    rw [this, lim_zero]
  · rw [if_neg h0, if_neg (by omega), ans_in hp]
theorem mad_fit {a m c : Nat} (ha : a < B 4095) (hm : m < 18446744073709551616) (hc : c < 18446744073709551616) : a * m + c < B 4096 := by
  have h1 : a * m ≤ a * 18446744073709551615 := Nat.mul_le_mul_left _ (by omega)
  have h2 : (a + 1) * 18446744073709551616 ≤ B 4095 * 18446744073709551616 := Nat.mul_le_mul_right _ ha
  have h3 : B 4095 * 18446744073709551616 = B 4096 := by rw [B_succ 4095, Nat.mul_comm]
  rw [h3] at h2
  refine Nat.lt_of_lt_of_le ?_ h2
  clear h2 h3 ha
  omega
theorem mod_row (a d c : Nat) (hd : 0 < d) : (a * (d - 1) + c) % d = ((a % d) * (d - 1) % d + c % d) % d := by
  have h : a * (d - 1) % d = (a % d) * (d - 1) % d := by
    rw [Nat.mul_mod a (d - 1) d, Nat.mod_eq_of_lt (show d - 1 < d by omega)]
  rw [Nat.add_mod, h]
theorem residues_j1 {a : List Int} {c : Int} {d : Nat} (ha : ok a) (la : a.length ≤ 9223372036854775807) (hA : val a < B 4096) (hc : 0 ≤ c ∧ c < 18446744073709551616) (hd : 0 < d ∧ d < 4294967296) :
    Ev (fun k => abacuslaw01_NatResidues.j1 k a c (d : Int) ((val a % d : Nat) : Int) false) true := by
  refine Ev_succ ?_
  simp only [abacuslaw01_NatResidues.j1]
  refine Ev_neg (by simp) (Ev.bind (abacuslaw01_size_ev ha la) ?_)
  by_cases h : (lim (val a)).length = 4096
  · exact Ev_pos (by omega) (Ev_some rfl)
  have h1 := (lim_len_le (val a) 4096).2 hA
  have hA1 : val a < B 4095 := (lim_len_le (val a) 4095).1 (by omega)
  refine Ev_neg (by omega) ?_
  obtain ⟨c, rfl⟩ : ∃ n : Nat, c = (n : Int) := ⟨c.toNat, by omega⟩
  have hm := mad_fit (a := val a) (m := d - 1) (c := c) hA1 (by omega) (by omega)
  have w1 : IntKind.u64.wrap ((d : Int) - 1) = ((d - 1 : Nat) : Int) := by rw [IntKind.wrap_u64]; omega
  have e1 := nat_MulAdd_ev (a := a) (m := ((d - 1 : Nat) : Int)) (c := (c : Int)) ha la (by omega) (by omega)
  rw [mulAddAns, if_pos hA, Int.toNat_natCast, Int.toNat_natCast, ans_in hm] at e1
  have e2 := nat_DivSmall_ev (a := lim (val a * (d - 1) + c)) (d := (d : Int)) (ok_lim _) (by have := (lim_len_le _ 4096).2 hm; omega) (by omega)
  rw [val_lim, divAns, if_pos hm, if_neg (by omega), Int.toNat_natCast, mod_row _ _ _ hd.1] at e2
  rw [w1]
  refine Ev.bind e1 (Ev.bind e2 (Ev_pos (by first | rfl | trivial) (Ev_pos (by first | rfl | trivial) (Ev_neg (by omega) (Ev_some ?_)))))
  have hx := Nat.mod_lt (val a) hd.1
  have hb : val a % d * (d - 1) ≤ 4294967296 * 4294967296 := Nat.mul_le_mul (by omega) (by omega)
  have hy := Nat.mod_lt (val a % d * (d - 1)) hd.1
  have hz := Nat.mod_lt c hd.1
  have w2 : IntKind.u64.wrap (((val a % d : Nat) : Int) * ((d - 1 : Nat) : Int)) = ((val a % d * (d - 1) : Nat) : Int) := by
    rw [IntKind.wrap_u64, ← Int.natCast_mul]
    have hb2 : val a % d * (d - 1) ≤ 4294967296 * 4294967295 := Nat.mul_le_mul (by omega) (by omega)
    generalize val a % d * (d - 1) = q at *
    omega
  have w3 : Int.tmod (((val a % d * (d - 1) : Nat) : Int)) (d : Int) = ((val a % d * (d - 1) % d : Nat) : Int) := rfl
  have w4 : Int.tmod (c : Int) (d : Int) = ((c % d : Nat) : Int) := rfl
  have w5 : IntKind.u64.wrap (((val a % d * (d - 1) % d : Nat) : Int) + ((c % d : Nat) : Int)) = ((val a % d * (d - 1) % d + c % d : Nat) : Int) := by
    rw [IntKind.wrap_u64]
    generalize val a % d * (d - 1) % d = q at *
    generalize c % d = r at *
    omega
  have w6 : Int.tmod ((val a % d * (d - 1) % d + c % d : Nat) : Int) (d : Int) = (((val a % d * (d - 1) % d + c % d) % d : Nat) : Int) := rfl
  dsimp only
  rw [w2, w3, w4, w5, w6]
  exact beq_self_eq_true _
theorem NatResidues : abacuslaw01_NatResidues.Pure := by
  intro o a b m c y wo la _ wa lb _ wb wm wc wy
  refine Ev.rounds ?_
  have ha := ok_of_wf wa
  have hb := ok_of_wf wb
  have hm := wf_u64 wm
  have hc := wf_u64 wc
  unfold maxLen at la lb
  have la' : a.length ≤ 9223372036854775807 := by omega
  have lb' : b.length ≤ 9223372036854775807 := by omega
  have out : ∀ x, Ev (fun k => abacuslaw01_NatResidues.j0 k a b c x true) true := by
    intro x
    refine Ev_succ ?_
    simp only [abacuslaw01_NatResidues.j0]
    exact Ev_pos (by first | rfl | trivial) (Ev_some rfl)
  have sa := lim_len_val_le ha
  have sb := lim_len_val_le hb
  simp only [abacuslaw01_NatResidues.f]
  refine Ev.bind awake_ev (Ev_pos rfl (Ev.bind (abacuslaw01_size_ev ha la') (Ev.bind (abacuslaw01_size_ev hb lb') ?_)))
  have hw : wrap64 (((lim (val a)).length : Int) + ((lim (val b)).length : Int)) = (((lim (val a)).length + (lim (val b)).length : Nat) : Int) := by unfold wrap64; omega
  rw [hw]
  by_cases hs : (lim (val a)).length + (lim (val b)).length > 4096
  · exact Ev_pos (by omega) (out _)
  refine Ev_neg (by omega) ?_
  obtain ⟨d, hd, hd2⟩ : ∃ d : Nat, Int.tmod m 4294967296 = (d : Int) ∧ d < 4294967296 := by
    rw [Int.tmod_eq_emod_of_nonneg hm.1]
    exact ⟨(m % 4294967296).toNat, by omega, by omega⟩
  rw [hd]
  by_cases h0 : d = 0
  · rw [show ((d : Int) == 0) = true by rw [h0]; rfl]
    exact out _
  rw [show ((d : Int) == 0) = false by simp; omega]
  obtain ⟨m1, hA, hB, hP⟩ := mul_fit (a := val a) (b := val b) (by omega)
  have e0 := nat_Mul_ev ha hb la' lb'
  rw [m1] at e0
  have e1 := nat_DivSmall_ev (d := (d : Int)) ha la' (by omega)
  rw [divAns, if_pos hA, if_neg (by omega), Int.toNat_natCast] at e1
  have e2 := nat_DivSmall_ev (d := (d : Int)) hb lb' (by omega)
  rw [divAns, if_pos hB, if_neg (by omega), Int.toNat_natCast] at e2
  have e3 := nat_DivSmall_ev (a := lim (val a * val b)) (d := (d : Int)) (ok_lim _) (by have := (lim_len_le _ 4096).2 hP; omega) (by omega)
  rw [val_lim, divAns, if_pos hP, if_neg (by omega), Int.toNat_natCast] at e3
  have hx := Nat.mod_lt (val a) (show d > 0 by omega)
  have hy := Nat.mod_lt (val b) (show d > 0 by omega)
  refine Ev_succ ?_
  simp only [abacuslaw01_NatResidues.j0]
  refine Ev_neg (by simp) (Ev.bind e0 (Ev_pos (by first | rfl | trivial) (Ev.bind e1 (Ev.bind e2 (Ev.bind e3 (Ev_pos (by first | rfl | trivial) (Ev_pos (by first | rfl | trivial) (Ev_pos (by first | rfl | trivial) (Ev_neg (by dsimp only; omega) (Ev_neg (by dsimp only; omega) (Ev_neg (by omega) ?_)))))))))))
  have w2 : IntKind.u64.wrap (((val a % d : Nat) : Int) * ((val b % d : Nat) : Int)) = ((val a % d * (val b % d) : Nat) : Int) := by
    rw [IntKind.wrap_u64, ← Int.natCast_mul]
    have hb2 : val a % d * (val b % d) ≤ 4294967295 * 4294967295 := Nat.mul_le_mul (by omega) (by omega)
    generalize val a % d * (val b % d) = q at *
    omega
  have w3 : Int.tmod ((val a % d * (val b % d) : Nat) : Int) (d : Int) = ((val a % d * (val b % d) % d : Nat) : Int) := rfl
  dsimp only
  rw [w2, w3, Nat.mul_mod (val a) (val b) d, show (((val a % d * (val b % d) % d : Nat) : Int) != ((val a % d * (val b % d) % d : Nat) : Int)) = false by simp]
  exact residues_j1 ha la' hA hc ⟨by omega, hd2⟩
end Go.Proofs.Ytnicfpilpafddaa.Pure
