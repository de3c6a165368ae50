/- The law of the exponents of quot's powers holds for every input. No conditions. -/
import Derived.Test.YtegollbojafekaaAPow
import Derived.Test.YtegollbojafekaaPAx5
namespace Go.Proofs.Ytegollbojafekaa.Pure
open Go.RowKit Go.Proofs.YtegollbojafekaaW.PrintWords Go.Proofs.YtegollbojafekaaW.PrintLast Go.Proofs.YtegollbojafekaaW.PrintMore Go.Proofs.Ytegollbojafekaa.Lib Go.Proofs.Ytegollbojafekaa.LibB Go.Proofs.Ytegollbojafekaa.PA Go.Proofs.Ytegollbojafekaa.ANat1 Go.Proofs.Ytegollbojafekaa.ABits Go.Proofs.Ytegollbojafekaa.APow
set_option linter.unusedVariables false
theorem val_limb (n : Nat) : val [(n : Int)] = n := by simp [val_cons, val_nil]
theorem ok_limb {n : Nat} (h : n < 18446744073709551616) : ok [(n : Int)] := fun x hx => by
  have : x = (n : Int) := by simpa using hx
  omega
theorem len_of_ans {n : Nat} (h : n < B 4096) : (lim n).length ≤ 4096 := (lim_len_le n 4096).2 h
theorem ans_two {n : Nat} : (ans n).2 = 0 ∧ n < B 4096 ∧ ans n = (lim n, 0) ∨ (ans n).2 = 2 ∧ ¬ n < B 4096 ∧ ans n = ([], 2) := by
  by_cases h : n < B 4096
  · left; rw [ans_ok h]; exact ⟨rfl, h, rfl⟩
  · right; rw [ans_big h]; exact ⟨rfl, h, rfl⟩
theorem adds_big {v m n : Nat} (h : ¬ v ^ m < B 4096) : ¬ v ^ (m + n) < B 4096 := by
  intro h2
  have hv : v ≠ 0 := by
    rintro rfl
    rcases Nat.eq_zero_or_pos m with rfl | hm
    · rw [Nat.pow_zero] at h; exact h one_limit
    · rw [Nat.zero_pow hm] at h; exact h (B_pos _)
  have := Nat.pow_le_pow_right (n := v) (by omega) (Nat.le_add_right m n)
  omega
theorem adds_j3t {x9 x11 x7 : List Int} {e8 e10 e12 : Int} (h1 : e8 = 0 ∨ e8 = 2) (h2 : e10 = 0 ∨ e10 = 2) (h3 : e12 = 2) : Ev (fun k => abacuslaw02_QuotAdds.j3 k x7 e8 x9 e10 x11 e12 true) true := by
  subst h3
  refine Ev_succ ?_
  simp only [abacuslaw02_QuotAdds.j3]
  refine Ev_pos (by simp) ?_
  rcases h1 with rfl | rfl
  · refine Ev_pos (by first | rfl | trivial) ?_
    rcases h2 with rfl | rfl
    · exact Ev_pos (by first | rfl | trivial) (Ev_some (by simp))
    · exact Ev_neg (by simp) (Ev_pos (by first | rfl | trivial) (Ev_some (by simp)))
  · refine Ev_neg (by simp) (Ev_pos (by first | rfl | trivial) ?_)
    rcases h2 with rfl | rfl
    · exact Ev_pos (by first | rfl | trivial) (Ev_some (by simp))
    · exact Ev_neg (by simp) (Ev_pos (by first | rfl | trivial) (Ev_some (by simp)))
theorem adds_j2 (v m n : Nat) : Ev (fun k => abacuslaw02_QuotAdds.j2 k (ans (v ^ m)).1 (ans (v ^ m)).2 (ans (v ^ n)).1 (ans (v ^ n)).2 (ans (v ^ (m + n))).1 (ans (v ^ (m + n))).2) true := by
  have hcomm : v ^ (m + n) = v ^ (n + m) := by rw [Nat.add_comm]
  refine Ev_succ ?_
  simp only [abacuslaw02_QuotAdds.j2]
  rcases @ans_two (v ^ m) with ⟨e1, h1, a1⟩ | ⟨e1, h1, a1⟩
  · rw [a1]
    refine Ev_pos (by first | rfl | trivial) ?_
    rcases @ans_two (v ^ n) with ⟨e2, h2, a2⟩ | ⟨e2, h2, a2⟩
    · rw [a2]
      have hm := nat_Mul_ev (ok_lim (v ^ m)) (ok_lim (v ^ n)) (by have := len_of_ans h1; omega) (by have := len_of_ans h2; omega)
      rw [val_lim, val_lim, mulAns_eq h1 h2, ← Nat.pow_add] at hm
      refine Ev_succ ?_
      simp only [abacuslaw02_QuotAdds.j3]
      refine Ev_neg (by simp) (Ev.bind hm (Ev_pos (by first | rfl | trivial) ?_))
      rcases @ans_two (v ^ (m + n)) with ⟨e3, h3, a3⟩ | ⟨e3, h3, a3⟩
      · rw [a3]
        have hs := abacuslaw02_alike_ev (a := lim (v ^ (m + n))) (b := lim (v ^ (m + n))) (by have := len_of_ans h3; omega)
        rw [decide_eq_true rfl] at hs
        exact Ev_pos (by first | rfl | trivial) (Ev.bind hs (Ev_some rfl))
      · rw [a3]
        exact Ev_neg (by simp) (Ev_some rfl)
    · rw [a2]
      have h3 : ¬ v ^ (m + n) < B 4096 := by rw [hcomm]; exact adds_big h2
      rw [ans_big h3]
      exact adds_j3t (.inl rfl) (.inr rfl) rfl
  · rw [a1]
    have h3 : ¬ v ^ (m + n) < B 4096 := adds_big h1
    rw [ans_big h3]
    refine Ev_neg (by simp) (adds_j3t (.inr rfl) ?_ rfl)
    rcases @ans_two (v ^ n) with ⟨e2, h2, a2⟩ | ⟨e2, h2, a2⟩
    · exact .inl e2
    · exact .inr e2
theorem adds_j1t (a : List Int) (m n : Int) : Ev (fun k => abacuslaw02_QuotAdds.j1 k a m n true) true := by
  refine Ev_succ ?_
  simp only [abacuslaw02_QuotAdds.j1]
  exact Ev_pos (by simp) (Ev_some rfl)
theorem small_pow {n : Nat} (h : n < 18446744073709551616) : n < B 4096 := by
  have := B_mono (show 1 ≤ 4096 by omega)
  rw [B_one] at this
  omega
theorem pow_of {v : Nat} {n : Nat} (h : v < B 4096) : powAns v (n : Int) = ans (v ^ n) := by
  rw [powAns, if_pos h, if_neg (by omega), Int.toNat_natCast]
theorem adds_j1 {a : List Int} {m n : Nat} (ha : ok a) (hla : a.length ≤ 35184372088832) (hv : val a < B 4096) (hm : m ≤ 2305843009213693952) (hn : n ≤ 2305843009213693952) : Ev (fun k => abacuslaw02_QuotAdds.j1 k a (m : Int) (n : Int) false) true := by
  have j2 := adds_j2 (val a) m n
  have e : wrap64 ((m : Int) + (n : Int)) = ((m + n : Nat) : Int) := by unfold wrap64; omega
  have p1 := quot_Pow_ev (n := (m : Int)) ha hla (by omega)
  have p2 := quot_Pow_ev (n := (n : Int)) ha hla (by omega)
  have p3 := quot_Pow_ev (n := ((m + n : Nat) : Int)) ha hla (by omega)
  have p4 := quot_Pow_ev (a := [10]) (n := (n : Int)) (ok_limb (n := 10) (by omega)) (by simp) (by omega)
  have p5 := quot_Pow_ev (a := [5]) (n := (n : Int)) (ok_limb (n := 5) (by omega)) (by simp) (by omega)
  rw [pow_of hv] at p1 p2 p3
  rw [show val [10] = 10 from val_limb 10, pow_of (small_pow (by omega))] at p4
  rw [show val [5] = 5 from val_limb 5, pow_of (small_pow (by omega))] at p5
  have q4 : Ev (fun k => quot_Pow10.f k (n : Int)) (ans (10 ^ n)) := by
    simp only [quot_Pow10.f]
    exact Ev.bind p4 (Ev_some rfl)
  have q5 : Ev (fun k => quot_Pow5.f k (n : Int)) (ans (5 ^ n)) := by
    simp only [quot_Pow5.f]
    exact Ev.bind p5 (Ev_some rfl)
  have ht : 10 ^ n = 5 ^ n * 2 ^ n := by rw [← Nat.mul_pow]
  have hp5 : 0 < 5 ^ n := Nat.pow_pos (by omega)
  have hp2 : 0 < 2 ^ n := Nat.pow_pos (by omega)
  refine Ev_succ ?_
  simp only [abacuslaw02_QuotAdds.j1, e]
  refine Ev_neg (by simp) (Ev.bind p1 (Ev.bind p2 (Ev.bind p3 (Ev.bind q4 (Ev.bind q5 ?_)))))
  rcases @ans_two (5 ^ n) with ⟨e5, h5, a5⟩ | ⟨e5, h5, a5⟩
  · have hn2 : n < 262144 := by
      rcases Nat.lt_or_ge n 262144 with h | h
      · exact h
      · have h1 := two_pow_limit h
        have h2 : 2 ^ n ≤ 5 ^ n := Nat.pow_le_pow_left (by omega) n
        omega
    have hs := nat_Shl_ev (a := lim (5 ^ n)) (n := (n : Int)) (ok_lim _) (by have := len_of_ans h5; omega) (by omega)
    rw [val_lim, shlAns, if_pos h5, if_neg (by omega), if_neg (by omega), if_neg (by omega), Int.toNat_natCast, ← ht] at hs
    rw [a5]
    refine Ev_pos (by first | rfl | trivial) (Ev.bind hs (Ev_pos (by first | rfl | trivial) ?_))
    rcases @ans_two (10 ^ n) with ⟨e4, h4, a4⟩ | ⟨e4, h4, a4⟩
    · have hk := abacuslaw02_alike_ev (a := lim (10 ^ n)) (b := lim (10 ^ n)) (by have := len_of_ans h4; omega)
      rw [decide_eq_true rfl] at hk
      rw [a4]
      exact Ev_pos (by first | rfl | trivial) (Ev.bind hk (Ev_pos (by first | rfl | trivial) j2))
    · rw [a4]
      exact Ev_neg (by simp) j2
  · have h4 : ¬ 10 ^ n < B 4096 := by
      rw [ht]
      have := Nat.le_mul_of_pos_right (5 ^ n) hp2
      omega
    rw [a5, ans_big h4]
    exact Ev_neg (by simp) (Ev_pos (by first | rfl | trivial) (Ev_pos (by first | rfl | trivial) j2))
theorem QuotAdds : abacuslaw02_QuotAdds.Pure := by
  intro a m n la ya wa wm wn
  refine Ev.rounds ?_
  have ha := ok_of_wf wa
  have hla : a.length ≤ 35184372088832 := by omega
  have p := quot_Pow_ev (a := [3]) (n := 5) (ok_limb (n := 3) (by omega)) (by simp) (by omega)
  rw [show val [3] = 3 from val_limb 3, powAns, if_pos (small_pow (by omega)), if_neg (by omega), show 3 ^ (5 : Int).toNat = 243 from rfl, ans_ok (small_pow (by omega)), lim_one_len (by omega) (by omega)] at p
  have s := abacuslaw02_alike_ev (a := [((243 : Nat) : Int)]) (b := [243]) (by simp)
  rw [decide_eq_true (by rfl)] at s
  simp only [abacuslaw02_QuotAdds.f]
  refine Ev_bind_eq (a := [3]) rfl (Ev.bind p (Ev_pos (by first | rfl | trivial) (Ev_bind_eq (a := [243]) rfl (Ev.bind s ?_))))
  refine Ev_succ ?_
  simp only [abacuslaw02_QuotAdds.j0]
  refine Ev_neg (by simp) ?_
  by_cases h1 : m < 0
  · exact Ev_pos h1 (adds_j1t a m n)
  · refine Ev_neg h1 ?_
    by_cases h2 : n < 0
    · exact Ev_pos h2 (adds_j1t a m n)
    · refine Ev_neg h2 ?_
      by_cases h3 : m > 2305843009213693952
      · exact Ev_pos h3 (adds_j1t a m n)
      · refine Ev_neg h3 ?_
        by_cases h4 : n > 2305843009213693952
        · exact Ev_pos h4 (adds_j1t a m n)
        · refine Ev_neg h4 (Ev.bind (abacusref02_Top_ev ha (by omega)) ?_)
          have hs := lim_len_le (val a) 4096
          by_cases h5 : ((lim (val a)).length : Int) > 4096
          · rw [decide_eq_true h5]
            exact adds_j1t a m n
          · rw [decide_eq_false h5]
            obtain ⟨m', rfl⟩ := Int.eq_ofNat_of_zero_le (show 0 ≤ m by omega)
            obtain ⟨n', rfl⟩ := Int.eq_ofNat_of_zero_le (show 0 ≤ n by omega)
            exact adds_j1 ha hla (hs.1 (by omega)) (by omega) (by omega)
end Go.Proofs.Ytegollbojafekaa.Pure
