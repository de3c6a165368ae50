/- The first reference's calls over naturals: each answers as the program's does. Conditions: lists as a call gets them. -/
import Derived.Test.YtlnfgcnagfdliaaDoorQR1t
import Derived.Test.YtlnfgcnagfdliaaDoorQMad
namespace Go.Proofs.YtlnfgcnagfdliaaDoor.R1
open Go.RowKit Go.Proofs.YtlnfgcnagfdliaaDoor.Lib Go.Proofs.YtlnfgcnagfdliaaDoor.LibB Go.Proofs.YtlnfgcnagfdliaaDoor.F Go.Proofs.YtlnfgcnagfdliaaDoor.Nat1 Go.Proofs.YtlnfgcnagfdliaaDoor.Nat2 Go.Proofs.YtlnfgcnagfdliaaDoor.Bits Go.Proofs.YtlnfgcnagfdliaaDoor.R4
open Go.Proofs.YtlnfgcnagfdliaaDoor.Mad (nat_MulAdd_ev mulAddAns)
open Go.Proofs.YtlnfgcnagfdliaaDoorA (rd rdb rdr ln ln_eq lnr lnr_eq mx mn shl shr wr wr_eq)
set_option linter.unusedVariables false
set_option linter.unusedSimpArgs false
/-- A list as a call gets it. -/
structure Arg (l : List Int) : Prop where
  ok : ok l
  len : l.length ≤ 17592186044000
theorem Arg.lt {l : List Int} (h : Arg l) {n : Nat} (hn : 17592186044000 ≤ n) : l.length ≤ n := Nat.le_trans h.len hn
theorem Arg.sz {l : List Int} (h : Arg l) (hB : val l < B 4096) : Sz l := ⟨h.lt (by decide), Nat.lt_of_lt_of_le hB (B_mono (by decide))⟩
theorem big_ev {l : List Int} (h : ok l) (hl : l.length ≤ 9223372036854775807) : Ev (fun n _ _ => abacusref01_Big.f n l) (decide (¬ val l < B 4096)) := by
  have lb := lim_len_le (val l) 4096
  simp only [abacusref01_Big.f, abacusref01_Big.b0]
  refine Ev.bind (abacusref01_Size_ev h hl) (Ev_some (decide_eq_decide.2 ?_))
  rw [← lb]
  omega
theorem big_no {l : List Int} (h : Arg l) (hB : val l < B 4096) : Ev (fun n _ _ => abacusref01_Big.f n l) false := by
  have := big_ev h.ok (h.lt (by decide))
  rwa [decide_eq_false (fun k => k hB)] at this
theorem big_yes {l : List Int} (h : Arg l) (hB : ¬ val l < B 4096) : Ev (fun n _ _ => abacusref01_Big.f n l) true := by
  have := big_ev h.ok (h.lt (by decide))
  rwa [decide_eq_true hB] at this
/-- What is answered of a sum or product: it, or the error. -/
theorem big_lim {n : Nat} (hn : n < B 17592186044000) : Ev (fun k _ _ => abacusref01_Big.f k (lim n)) (decide (¬ n < B 4096)) := by
  have := big_ev (ok_lim n) (by have := (lim_len_le n _).2 hn; omega)
  rwa [val_lim] at this
theorem ans_ite (n : Nat) : ans n = if decide (¬ n < B 4096) = true then ([], 2) else (lim n, 0) := by
  unfold ans
  by_cases h : n < B 4096
  · rw [if_pos h, if_neg (by simp [h])]
  · rw [if_neg h, if_pos (by simp [h])]
theorem ev_ans {n : Nat} : Ev (fun _ _ _ => if decide (¬ n < B 4096) = true then some (([] : List Int), (2 : Int)) else some (lim n, 0)) (ans n) := by
  rw [ans_ite]
  split <;> exact Ev.now _
theorem two_lt {m n : Nat} (hm : m < B 4096) (hn : n < B 4096) : m + n < B 4097 := by
  have : B 4097 = 18446744073709551616 * B 4096 := B_succ 4096
  omega
theorem B_big {n m : Nat} (h : n < B m) (hm : m ≤ 17592186044000) : n < B 17592186044000 := Nat.lt_of_lt_of_le h (B_mono hm)
theorem rAdd_ev {a b : List Int} (ha : Arg a) (hb : Arg b) : Ev (fun k _ _ => abacusref01_Add.f k a b) (ans2 (val a) (val b) (ans (val a + val b))) := by
  simp only [abacusref01_Add.f, abacusref01_Add.b0]
  unfold ans2
  by_cases h1 : val a < B 4096
  · by_cases h2 : val b < B 4096
    · rw [if_pos ⟨h1, h2⟩]
      exact Ev.bind (big_no ha h1) (Ev_neg (by simp) (Ev.bind (big_no hb h2) (Ev_neg (by simp) (Ev.bind (Plus_evS ha.ok hb.ok (ha.sz h1) (hb.sz h2)) (Ev.bind (big_lim (B_big (two_lt h1 h2) (by decide))) ev_ans)))))
    · rw [if_neg (fun h => h2 h.2)]
      exact Ev.bind (big_no ha h1) (Ev_neg (by simp) (Ev.bind (big_yes hb h2) (Ev_pos rfl (Ev.now _))))
  · rw [if_neg (fun h => h1 h.1)]
    exact Ev.bind (big_yes ha h1) (Ev_pos rfl (Ev.now _))
theorem rSub_ev {a b : List Int} (ha : Arg a) (hb : Arg b) : Ev (fun k _ _ => abacusref01_Sub.f k a b) (subAns (val a) (val b)) := by
  simp only [abacusref01_Sub.f, abacusref01_Sub.b0]
  unfold subAns ans2
  by_cases h1 : val a < B 4096
  · by_cases h2 : val b < B 4096
    · rw [if_pos ⟨h1, h2⟩]
      refine Ev.bind (big_no ha h1) (Ev_neg (by simp) (Ev.bind (big_no hb h2) (Ev_neg (by simp) (Ev.bind (rCmp_ev ha.ok hb.ok (ha.lt (by decide)) (hb.lt (by decide))) ?_))))
      by_cases h3 : val a < val b
      · rw [if_pos h3]
        exact Ev_pos ((cmp_neg _ _).2 h3) (Ev.now _)
      · rw [if_neg h3]
        exact Ev_neg (fun h => h3 ((cmp_neg _ _).1 h)) (Ev.bind (Less_evS ha.ok hb.ok (ha.sz h1) (hb.sz h2) (by omega)) (Ev.now _))
    · rw [if_neg (fun h => h2 h.2)]
      exact Ev.bind (big_no ha h1) (Ev_neg (by simp) (Ev.bind (big_yes hb h2) (Ev_pos rfl (Ev.now _))))
  · rw [if_neg (fun h => h1 h.1)]
    exact Ev.bind (big_yes ha h1) (Ev_pos rfl (Ev.now _))
theorem B_eq2 {K : Nat} (hK : 64 * 4096 = K) : B 4096 = 2 ^ K := hK ▸ B_two 4096
theorem mul_len {a b : Nat} (ha : a ≠ 0) (hb : b ≠ 0) (h : (lim a).length + (lim b).length - 1 > 4096) : ¬ a * b < B 4096 := by
  have h1 := lim_len_ge a ha
  have h2 := lim_len_ge b hb
  have h3 := Nat.mul_le_mul h1 h2
  rw [← B_add] at h3
  have h4 := B_mono (show 4096 ≤ (lim a).length - 1 + ((lim b).length - 1) by omega)
  omega
theorem mul_bits {a b : Nat} (h : blen a + blen b > 262145) (ha : blen a ≤ 262144) (hb : blen b ≤ 262144) : ¬ a * b < B 4096 := by
  obtain ⟨K, hK⟩ : ∃ K, K = 262144 := ⟨_, rfl⟩
  rw [B_eq2 (show 64 * 4096 = K by omega)]
  have a0 : a ≠ 0 := blen_pos.1 (by omega)
  have b0 : b ≠ 0 := blen_pos.1 (by omega)
  have h3 := Nat.mul_le_mul (blen_ge a0) (blen_ge b0)
  rw [← Nat.pow_add] at h3
  have h4 : 2 ^ K ≤ 2 ^ (blen a - 1 + (blen b - 1)) := Nat.pow_le_pow_right (by omega) (by omega)
  exact Nat.not_lt.2 (Nat.le_trans h4 h3)
theorem blen_4096 {n : Nat} (h : n < B 4096) : blen n ≤ 262144 := by
  obtain ⟨K, hK⟩ : ∃ K, K = 262144 := ⟨_, rfl⟩
  rw [B_eq2 (show 64 * 4096 = K by omega)] at h
  rw [← hK]
  exact (blen_le _ _).2 h
theorem rMul_ev {a b : List Int} (ha : Arg a) (hb : Arg b) : Ev (fun k _ _ => abacusref01_Mul.f k a b) (mulAns (val a) (val b)) := by
  simp only [abacusref01_Mul.f, abacusref01_Mul.b0]
  unfold mulAns ans2
  by_cases h1 : val a < B 4096
  · by_cases h2 : val b < B 4096
    · rw [if_pos ⟨h1, h2⟩]
      have la := blen_4096 h1
      have lb := blen_4096 h2
      have w : wrap64 (((blen (val a) : Nat) : Int) + ((blen (val b) : Nat) : Int)) = ((blen (val a) + blen (val b) : Nat) : Int) := by unfold wrap64; omega
      refine Ev.bind (big_no ha h1) (Ev_neg (by simp) (Ev.bind (big_no hb h2) (Ev_neg (by simp) (Ev.bind (rBitLen_ev ha.ok (ha.lt (by decide))) (Ev.bind (rBitLen_ev hb.ok (hb.lt (by decide))) ?_)))))
      rw [w]
      have hp : val a * val b < B 8192 := by
        have := Nat.mul_lt_mul_of_lt_of_le h1 (Nat.le_of_lt h2) (B_pos _)
        rwa [← B_add] at this
      have tm := Times_evS ha.ok hb.ok (ha.sz h1) (hb.sz h2)
      by_cases h3 : blen (val a) + blen (val b) > 262145
      · have := mul_bits h3 la lb
        have z1 : ¬ (val a = 0 ∨ val b = 0) := fun h => by rcases h with h | h <;> rw [h] at this <;> exact this (by simp; exact B_pos _)
        rw [if_neg z1]
        have e : ans (val a * val b) = ([], 2) := by unfold ans; rw [if_neg this]
        rw [e, ite_self]
        exact Ev_pos (by omega) (Ev.now _)
      · refine Ev_neg (by omega) (Ev.bind tm (Ev.bind (big_lim (B_big hp (by decide))) ?_))
        have e : ans (val a * val b) = if val a = 0 ∨ val b = 0 then ([], 0) else if (lim (val a)).length + (lim (val b)).length - 1 > 4096 then ([], 2) else ans (val a * val b) := by
          by_cases z1 : val a = 0 ∨ val b = 0
          · rw [if_pos z1]
            have : val a * val b = 0 := by rcases z1 with h | h <;> rw [h] <;> simp
            rw [this]
            unfold ans
            rw [if_pos (B_pos _), lim_zero]
          · rw [if_neg z1]
            by_cases h4 : (lim (val a)).length + (lim (val b)).length - 1 > 4096
            · rw [if_pos h4]
              unfold ans
              rw [if_neg (mul_len (fun h => z1 (.inl h)) (fun h => z1 (.inr h)) h4)]
            · rw [if_neg h4]
        rw [← e]
        exact ev_ans
    · rw [if_neg (fun h => h2 h.2)]
      exact Ev.bind (big_no ha h1) (Ev_neg (by simp) (Ev.bind (big_yes hb h2) (Ev_pos rfl (Ev.now _))))
  · rw [if_neg (fun h => h1 h.1)]
    exact Ev.bind (big_yes ha h1) (Ev_pos rfl (Ev.now _))
theorem limb1 {m : Int} (h : 0 ≤ m ∧ m < 18446744073709551616) : ok [m] := by intro y hy; simp only [List.mem_singleton] at hy; subst hy; exact h
theorem limbv (m : Int) : val [m] = m.toNat := by rw [val_cons, val_nil]; simp
theorem rMulAdd_ev {a : List Int} {m c : Int} (ha : Arg a) (hm : 0 ≤ m ∧ m < 18446744073709551616) (hc : 0 ≤ c ∧ c < 18446744073709551616) : Ev (fun k _ _ => abacusref01_MulAdd.f k a m c) (mulAddAns (val a) m c) := by
  simp only [abacusref01_MulAdd.f, abacusref01_MulAdd.b0]
  unfold mulAddAns
  by_cases h1 : val a < B 4096
  · rw [if_pos h1]
    have t1 := Times_evS ha.ok (limb1 hm) (ha.sz h1) (Sz_len (limb1 hm) (by simp))
    rw [limbv] at t1
    have hp : val a * m.toNat < B 4097 := by
      have := Nat.mul_lt_mul_of_lt_of_le h1 (show m.toNat ≤ B 1 by rw [B_one]; omega) (B_pos _)
      rwa [← B_add] at this
    have hl : (lim (val a * m.toNat)).length ≤ 4097 := (lim_len_le _ _).2 hp
    have t2 := Plus_ev (ok_lim (val a * m.toNat)) (limb1 hc) (by omega) (by simp)
    rw [limbv, val_lim] at t2
    have hs : val a * m.toNat + c.toNat < B 4098 := by
      have e1 : B 4098 = 18446744073709551616 * B 4097 := B_succ 4097
      have e2 : c.toNat < 18446744073709551616 := by omega
      have e3 := B_pos 4097
      omega
    exact Ev.bind (big_no ha h1) (Ev_neg (by simp) (Ev.bind t1 (Ev.bind t2 (Ev.bind (big_lim (B_big hs (by decide))) ev_ans))))
  · rw [if_neg h1]
    exact Ev.bind (big_yes ha h1) (Ev_pos rfl (Ev.now _))
theorem rShl_ev {a : List Int} {n : Int} (ha : Arg a) (hn : n < 9223372036854775808) : Ev (fun k _ _ => abacusref01_Shl.f k a n) (shlAns (val a) n) := by
  simp only [abacusref01_Shl.f, abacusref01_Shl.b0]
  unfold shlAns
  by_cases h1 : val a < B 4096
  · rw [if_pos h1]
    refine Ev.bind (big_no ha h1) (Ev_neg (by simp) ?_)
    by_cases h2 : n < 0
    · rw [if_pos h2]
      exact Ev_pos h2 (Ev.now _)
    rw [if_neg h2]
    refine Ev_neg h2 (Ev.bind (rBitLen_ev ha.ok (ha.lt (by decide))) ?_)
    have hb := blen_4096 h1
    have hp := @blen_pos (val a)
    by_cases h3 : val a = 0
    · rw [if_pos h3]
      exact Ev_pos (by omega) (Ev.now _)
    rw [if_neg h3]
    have w : wrap64 (262144 - ((blen (val a) : Nat) : Int)) = 262144 - ((blen (val a) : Nat) : Int) := by unfold wrap64; omega
    rw [w]
    refine Ev_neg (by omega) ?_
    obtain ⟨k, rfl⟩ := nat_of (show 0 ≤ n by omega)
    obtain ⟨K, hK⟩ : ∃ K, K = 262144 := ⟨_, rfl⟩
    have hbl := blen_mul_pow h3 k
    have e := blen_le (val a * 2 ^ k) K
    rw [hbl, ← B_eq2 (show 64 * 4096 = K by omega)] at e
    rw [Int.toNat_natCast]
    by_cases h4 : (k : Int) > 262144 - ((blen (val a) : Nat) : Int)
    · have : ¬ val a * 2 ^ k < B 4096 := fun h => by have := e.2 h; omega
      have e2 : ans (val a * 2 ^ k) = ([], 2) := by unfold ans; rw [if_neg this]
      rw [e2, ite_self]
      exact Ev_pos h4 (Ev.now _)
    · have : val a * 2 ^ k < B 4096 := e.1 (by omega)
      rw [if_neg (by omega)]
      unfold ans
      rw [if_pos this]
      exact Ev_neg h4 (Ev.bind (Lift_evS ha.ok (ha.sz h1) (by omega)) (Ev.now _))
  · rw [if_neg h1]
    exact Ev.bind (big_yes ha h1) (Ev_pos rfl (Ev.now _))
theorem rShr_ev {a : List Int} {n : Int} (ha : Arg a) (hn : n < 9223372036854775808) : Ev (fun k _ _ => abacusref01_Shr.f k a n) (shrAns (val a) n) := by
  simp only [abacusref01_Shr.f, abacusref01_Shr.b0]
  unfold shrAns
  by_cases h1 : val a < B 4096
  · rw [if_pos h1]
    refine Ev.bind (big_no ha h1) (Ev_neg (by simp) ?_)
    by_cases h2 : n < 0
    · rw [if_pos h2]
      exact Ev_pos h2 (Ev.now _)
    rw [if_neg h2]
    refine Ev_neg h2 (Ev.bind (rBitLen_ev ha.ok (ha.lt (by decide))) ?_)
    have hb := blen_4096 h1
    have hp := @blen_pos (val a)
    obtain ⟨k, rfl⟩ := nat_of (show 0 ≤ n by omega)
    rw [Int.toNat_natCast]
    by_cases h3 : (k : Int) ≥ ((blen (val a) : Nat) : Int)
    · refine Ev_pos h3 (Ev_some ?_)
      have h4 : val a < 2 ^ k := (blen_le _ _).1 (by omega)
      rw [Nat.div_eq_of_lt h4, lim_zero]
      congr 2
      refine decide_eq_decide.2 ⟨fun h => ?_, fun h => by have := hp.2 h.1; omega⟩
      have a0 : val a ≠ 0 := hp.1 (by omega)
      refine ⟨a0, ?_⟩
      obtain ⟨m, hm⟩ := tz_spec a0
      have h5 : 2 ^ tz (val a) ≤ val a := by
        have := Nat.le_mul_of_pos_right (2 ^ tz (val a)) (show 0 < 2 * m + 1 by omega)
        omega
      have h6 : 2 ^ tz (val a) < 2 ^ k := Nat.lt_of_le_of_lt h5 h4
      have := (Nat.pow_lt_pow_iff_right (show 1 < 2 by omega)).1 h6
      omega
    · have a0 : val a ≠ 0 := hp.1 (by omega)
      refine Ev_neg h3 (Ev.bind (Drop_evS ha.ok (ha.sz h1) (by omega)) (Ev.bind (rTrail_ev ha.ok (ha.lt (by decide))) (Ev_some ?_)))
      congr 2
      exact decide_eq_decide.2 ⟨fun h => ⟨a0, h⟩, fun h => h.2⟩
  · rw [if_neg h1]
    exact Ev.bind (big_yes ha h1) (Ev_pos rfl (Ev.now _))
end Go.Proofs.YtlnfgcnagfdliaaDoor.R1
