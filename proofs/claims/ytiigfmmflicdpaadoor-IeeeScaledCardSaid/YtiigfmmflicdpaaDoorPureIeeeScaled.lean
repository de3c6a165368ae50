/- The law of scaled roundings holds for every input. No conditions. -/
import Derived.Test.YtiigfmmflicdpaaDoorNRatio
import Derived.Test.YtiigfmmflicdpaaDoorPNx12
import Derived.Test.YtiigfmmflicdpaaDoorPNx3
import Derived.Test.YtiigfmmflicdpaaDoorPNx8
namespace Go.Proofs.YtiigfmmflicdpaaDoor.Pure
open Go.RowKit Go.Proofs.YtiigfmmflicdpaaDoorW.PrintWords Go.Proofs.YtiigfmmflicdpaaDoorW.PrintLast Go.Proofs.YtiigfmmflicdpaaDoorW.PrintMore Go.Proofs.YtiigfmmflicdpaaDoor.Lib Go.Proofs.YtiigfmmflicdpaaDoor.LibB Go.Proofs.YtiigfmmflicdpaaDoor.PN Go.Proofs.YtiigfmmflicdpaaDoor.NNat1 Go.Proofs.YtiigfmmflicdpaaDoor.NNat2 Go.Proofs.YtiigfmmflicdpaaDoor.NBits Go.Proofs.YtiigfmmflicdpaaDoor.NMad Go.Proofs.YtiigfmmflicdpaaDoor.NIeee1 Go.Proofs.YtiigfmmflicdpaaDoor.NMag Go.Proofs.YtiigfmmflicdpaaDoor.NIeee2 Go.Proofs.YtiigfmmflicdpaaDoor.Rnd Go.Proofs.YtiigfmmflicdpaaDoor.NRatio
open Go.Proofs.YtiigfmmflicdpaaDoor.NQuot1 (shlAns_ok len_lim val_limb ok_limb)
open Go.Proofs.YtiigfmmflicdpaaDoor.NPow (ans_ok mulAns_eq)
set_option linter.unusedVariables false
theorem pow_pos2 (a : Nat) : 0 < 2 ^ a := Nat.pow_pos (by omega)
theorem rnd_shift (n k : Nat) (e : Int) : rnd (n * 2 ^ k) (e - k) false = rnd n e false := by
  obtain ⟨a, b, hab⟩ : ∃ a b : Nat, (a : Int) - b = e - k + 1074 := ⟨(e - k + 1074).toNat, (-(e - k + 1074)).toNat, by omega⟩
  have n1 := rnd_near (n * 2 ^ k) (e - k) hab
  have n2 := rnd_near n e (a := a + k) (b := b) (by omega)
  exact near_unique (pow_pos2 b) (pow_pos2 b) n1 n2 (by rw [Nat.pow_add, ← Nat.mul_assoc, Nat.mul_right_comm n])
theorem blen_far {n : Nat} (h : n ≠ 0) : blen (n * 18446744073709551616 + 1) = blen n + 64 := by
  have h1 := blen_ge h
  have h2 := blen_lt n
  have h3 := (blen_pos (n := n)).2 h
  have e : (2 : Nat) ^ 64 = 18446744073709551616 := rfl
  obtain ⟨m, hm⟩ : ∃ m, blen n = m + 1 := ⟨blen n - 1, by omega⟩
  rw [hm, Nat.add_sub_cancel] at h1
  rw [hm] at h2
  rw [hm, show m + 1 + 64 = m + 64 + 1 by omega]
  refine blen_eq ?_ ?_
  · rw [Nat.pow_add, e]; omega
  · rw [show m + 64 + 1 = m + 1 + 64 by omega, Nat.pow_add, e]; omega
theorem rnd_far_digit {n : Nat} (h0 : n ≠ 0) (e : Int) : rnd (n * 18446744073709551616 + 1) (e - 64) false = rnd n e true := by
  have e64 : (2 : Nat) ^ 64 = 18446744073709551616 := rfl
  have hbl := blen_far h0
  have hbp := (blen_pos (n := n)).2 h0
  by_cases hu : (blen n : Int) + e > 1024 ∨ e < unitOf n e
  · obtain ⟨a, b, hab⟩ : ∃ a b : Nat, (a : Int) - b = e - 64 + 1074 := ⟨(e - 64 + 1074).toNat, (-(e - 64 + 1074)).toNat, by omega⟩
    have n1 := rnd_near (n * 18446744073709551616 + 1) (e - 64) hab
    have hp := pow_pos2 a
    have hq := pow_pos2 b
    have n2 := rnd_more n e (a := a + 64) (b := b) (X := (n * 18446744073709551616 + 1) * 2 ^ a) (Y := 2 ^ b) (by omega) h0 hq hu ?_ ?_
    · exact near_unique hq hq n1 n2 rfl
    · refine Nat.mul_lt_mul_of_pos_right ?_ hq
      rw [Nat.pow_add, e64, Nat.mul_comm (2 ^ a), ← Nat.mul_assoc]
      exact Nat.mul_lt_mul_of_pos_right (by omega) hp
    · refine Nat.mul_lt_mul_of_pos_right ?_ hq
      rw [Nat.pow_add, e64, Nat.mul_comm (2 ^ a), ← Nat.mul_assoc]
      exact Nat.mul_lt_mul_of_pos_right (by omega) hp
  · have hle : unitOf n e ≤ e := by omega
    obtain ⟨s1, s2, s3⟩ := mag_small hle
    have hun : unitOf (n * 18446744073709551616 + 1) (e - 64) = unitOf n e := by unfold unitOf; rw [hbl]; simp only [Int.natCast_add]; rw [show (blen n : Int) + ((64 : Nat) : Int) + (e - 64) - 53 = (blen n : Int) + e - 53 by omega]
    have hn1 : ¬ (blen n : Int) + e < -1074 := by
      intro h
      unfold unitOf at hle
      split at hle <;> omega
    obtain ⟨j, hj⟩ : ∃ j : Nat, e - unitOf n e = (j : Int) := ⟨(e - unitOf n e).toNat, by omega⟩
    rw [hj, Int.toNat_natCast] at s2
    have hm : unitOf n e - (e - 64) = ((64 - j : Nat) : Int) := by omega
    have k1 : ¬ (n * 18446744073709551616 + 1 = 0 ∨ ((blen n + 64 : Nat) : Int) + (e - 64) < -1074) := by omega
    have k2 : ¬ ((blen n + 64 : Nat) : Int) + (e - 64) > 1024 := by omega
    have k3 : ¬ unitOf n e ≤ e - 64 := by omega
    have k4 : ¬ (n = 0 ∨ (blen n : Int) + e < -1074) := by omega
    have k5 : ¬ (blen n : Int) + e > 1024 := by omega
    unfold rnd
    rw [hun, hbl, if_neg k1, if_neg k2, if_neg k3, if_neg k4, if_neg k5, if_pos hle, hm, hj, Int.toNat_natCast, Int.toNat_natCast]
    have d1 : ∀ i, i ≤ 52 → (n * 18446744073709551616 + 1) / 2 ^ (64 - i) = n * 2 ^ i := by
      intro i hi
      have hq : 1 < 2 ^ (64 - i) := Nat.one_lt_two_pow (by omega)
      rw [← e64, show (2 : Nat) ^ 64 = 2 ^ i * 2 ^ (64 - i) by rw [← Nat.pow_add]; congr 1; omega, ← Nat.mul_assoc, Nat.add_comm, Nat.add_mul_div_right _ _ (by omega), Nat.div_eq_of_lt hq, Nat.zero_add]
    have d2 : ¬ upB (n * 18446744073709551616 + 1) (64 - j) false := by
      unfold upB
      rintro ⟨h1, -⟩
      rcases Nat.lt_or_ge j 52 with hj2 | hj2
      · rw [show 64 - j - 1 = 64 - (j + 1) by omega, d1 (j + 1) (by omega), Nat.pow_succ, ← Nat.mul_assoc] at h1
        omega
      · obtain rfl : j = 52 := by omega
        rw [show 64 - 52 - 1 = 11 from rfl, show (2 : Nat) ^ 11 = 2048 from rfl] at h1
        omega
    rw [d1 j (by omega), if_neg d2, Nat.add_zero]
theorem rnd_step (n : Nat) (e : Int) : rnd n e true = rnd n e false ∨ rnd n e true = rnd n e false + 1 := by
  unfold rnd
  split
  · exact .inl rfl
  split
  · exact .inl rfl
  split
  · exact .inl rfl
  by_cases h : upB n (unitOf n e - e).toNat false
  · have : upB n (unitOf n e - e).toNat true := ⟨h.1, .inl rfl⟩
    rw [if_pos h, if_pos this]
    exact .inl rfl
  · rw [if_neg h]
    split
    · exact .inr rfl
    · exact .inl rfl
theorem far_B {x : Nat} (hx : x < B 60) : x * 18446744073709551616 + 1 < B 4096 := by
  have h1 : x * 18446744073709551616 + 1 < (x + 1) * 18446744073709551616 := by omega
  have h2 : (x + 1) * 18446744073709551616 ≤ B 60 * 18446744073709551616 := Nat.mul_le_mul_right _ hx
  have h3 : B 60 * 18446744073709551616 = B 61 := by rw [B_succ 60, Nat.mul_comm]
  rw [h3] at h2
  exact Nat.lt_of_lt_of_le h1 (Nat.le_trans h2 (B_mono (by decide)))
theorem far_shl {n : List Int} (hn : ok n) (hnl : n.length ≤ 60) (g : val n < B 4096) (h : val n * 2 ^ 64 < B 4096) : Ev (fun k => nat_Shl.f k n 64) (lim (val n * 2 ^ 64), 0) := by
  have hsh := nat_Shl_ev (a := n) (n := ((64 : Nat) : Int)) hn (by omega) (by omega)
  rwa [shlAns_ok g h (by decide)] at hsh
theorem far_mad {x : Nat} (h : x < B 4096) (h1 : x + 1 < B 4096) : Ev (fun k => nat_MulAdd.f k (lim x) 1 1) (lim (x + 1), 0) := by
  have hma := nat_MulAdd_ev (a := lim x) (m := 1) (c := 1) (ok_lim _) (by have := len_lim h; omega) (by omega) (by omega)
  rwa [val_lim, mulAddAns, if_pos h, show (1 : Int).toNat = 1 from rfl, Nat.mul_one, ans_ok h1] at hma
theorem shift_B {x s m : Nat} (hx : x < B m) (h : m * 64 + s ≤ 262144) : x * 2 ^ s < B 4096 := by
  rw [B_two] at hx
  have : x * 2 ^ s < 2 ^ (64 * m) * 2 ^ s := Nat.mul_lt_mul_of_pos_right hx (Nat.pow_pos (by omega))
  rw [← Nat.pow_add] at this
  exact lt_B this (by omega)
theorem wrap_sub {e : Int} {k : Nat} (he : -1099511627776 ≤ e ∧ e ≤ 1099511627776) (hk : 0 ≤ (k : Int) ∧ (k : Int) < 256) : wrap64 (e - (k : Int)) = e - (k : Int) := wrap_id (by omega) (by omega)
theorem scaled_j2 {n : List Int} {e : Int} (hn : ok n) (hnl : n.length ≤ 60) (he : -1099511627776 ≤ e ∧ e ≤ 1099511627776) :
    Ev (fun j => abacuslaw04_IeeeScaled.j2 j n e ((rnd (val n) e false : Nat) : Int) false) true := by
  have hnB : val n < B 60 := Nat.lt_of_lt_of_le (val_lt hn) (B_mono hnl)
  have g3 : val n < B 4096 := Nat.lt_of_lt_of_le hnB (B_mono (by omega))
  refine Ev_succ ?_
  simp only [abacuslaw04_IeeeScaled.j2]
  refine Ev_neg (by simp) (Ev.bind (nat_BitLen_ev hn (by omega)) ?_)
  have hb := blen_pos (n := val n)
  by_cases h0 : val n = 0
  · refine Ev_pos (by omega) (Ev_some ?_)
    rw [h0]
    rfl
  refine Ev_neg (by omega) ?_
  have hX2 := far_B hnB
  have hX := Nat.lt_of_succ_lt hX2
  have e64 : (2 : Nat) ^ 64 = 18446744073709551616 := rfl
  have hsh := far_shl (n := n) hn hnl g3 (by rw [e64]; exact hX)
  rw [e64] at hsh
  have hma := far_mad hX hX2
  have r1 := Round_ev (l := n) (neg := false) (e := e) (more := true) hn (Nat.le_trans hnl (by decide)) g3
  have r2 := limb_ev (neg := false) (e := e - 64) (more := false) hX2
  rw [rnd_far_digit h0 e] at r2
  refine Ev.bind hsh (Ev.bind hma (Ev.bind r1 ?_))
  rw [show wrap64 (e - 64) = e - 64 from wrap_id (by omega) (by omega)]
  refine Ev.bind r2 (Ev_pos (by first | rfl | trivial) (Ev_pos (by first | rfl | trivial) (Ev_pos (by first | rfl | trivial) (Ev_pos (by first | rfl | trivial) (Ev_pos rfl ?_)))))
  have ht := rnd_top (val n) e true
  unfold inf at ht
  have e1 : put false (rnd (val n) e true) = ((rnd (val n) e true : Nat) : Int) := rfl
  dsimp only
  rw [e1]
  rcases rnd_step (val n) e with h | h
  · exact Ev_pos (by omega) (Ev_some rfl)
  · refine Ev_neg (by omega) (Ev_some ?_)
    rw [IntKind.wrap_u64, h]
    refine beq_iff_eq.2 ?_
    omega
theorem scaled_j1 {n d l2 l3 l4 : List Int} {a0 : Bool} {e e2 y : Int} (hn : ok n) (hd : ok d) (hnl : n.length ≤ 60) (hdl : d.length ≤ 60) (hd0 : val d ≠ 0) (he : -1099511627776 ≤ e ∧ e ≤ 1099511627776) (hy : 0 ≤ y ∧ y < 256) :
    Ev (fun j => abacuslaw04_IeeeScaled.j1 j n d e ((rnd (val n) e false : Nat) : Int) false a0 l2 l3 l4 e2 y) true := by
  have hnB : val n < B 60 := Nat.lt_of_lt_of_le (val_lt hn) (B_mono hnl)
  have hdB : val d < B 60 := Nat.lt_of_lt_of_le (val_lt hd) (B_mono hdl)
  have g3 : val n < B 4096 := Nat.lt_of_lt_of_le hnB (B_mono (by omega))
  have g2 : val d < B 4096 := Nat.lt_of_lt_of_le hdB (B_mono (by omega))
  obtain ⟨c, hc⟩ : ∃ c : Nat, y + 1 = (c : Int) := ⟨(y + 1).toNat, by omega⟩
  have hc1 : 0 < c ∧ c ≤ 256 := by omega
  have wc : IntKind.u64.wrap (IntKind.u64.wrap y + 1) = (c : Int) := by rw [IntKind.wrap_u64, IntKind.wrap_u64]; omega
  have big : ∀ x, x < B 60 → x * c < B 4096 := by
    intro x hx
    have h1 := B_add 60 1
    rw [B_one] at h1
    have h2 : x * c ≤ B 60 * 256 := Nat.mul_le_mul (Nat.le_of_lt hx) hc1.2
    have h3 := B_mono (show 60 + 1 ≤ 4096 by omega)
    have h4 := B_pos 60
    omega
  have hcB : c < B 4096 := by
    have := B_mono (show 1 ≤ 4096 by omega)
    rw [B_one] at this
    omega
  have m1 := nat_Mul_ev (a := n) (b := [(c : Int)]) hn (ok_limb (by omega)) (by omega) (by simp)
  rw [val_limb, mulAns_eq g3 hcB, ans_ok (big _ hnB)] at m1
  have m2 := nat_Mul_ev (a := d) (b := [(c : Int)]) hd (ok_limb (by omega)) (by omega) (by simp)
  rw [val_limb, mulAns_eq g2 hcB, ans_ok (big _ hdB)] at m2
  obtain ⟨p, p1, p2⟩ := RoundRatio_ev (neg := true) (e := e) hn hd (by omega) (by omega) g3 g2 hd0
  have hdc : val d * c ≠ 0 := Nat.mul_ne_zero hd0 (by omega)
  obtain ⟨q, q1, q2⟩ := RoundRatio_ev (neg := true) (e := e) (ok_lim (val n * c)) (ok_lim (val d * c)) (by have := len_lim (big _ hnB); omega) (by have := len_lim (big _ hdB); omega) (by rw [val_lim]; exact big _ hnB) (by rw [val_lim]; exact big _ hdB) (by rw [val_lim]; exact hdc)
  rw [val_lim, val_lim] at q2
  have hpq : p = q := by
    obtain ⟨a, b, hab⟩ : ∃ a b : Nat, (a : Int) - b = e + 1074 := ⟨(e + 1074).toNat, (-(e + 1074)).toNat, by omega⟩
    have hcl : (a : Int) - b = clamp e + 1074 := by rw [clamp_in he.1 he.2]; exact hab
    refine near_unique (Nat.mul_pos (by omega) (pow_pos2 b)) (Nat.mul_pos (by omega) (pow_pos2 b)) (p2 a b hcl) (q2 a b hcl) ?_
    rw [Nat.mul_mul_mul_comm, Nat.mul_mul_mul_comm (val n * c), Nat.mul_right_comm (val n) c, Nat.mul_assoc (val n) (val d) c]
  subst hpq
  refine Ev_succ ?_
  simp only [abacuslaw04_IeeeScaled.j1, wc]
  refine Ev_neg (by simp) (Ev.bind m1 (Ev.bind m2 (Ev.bind p1 (Ev.bind q1 (Ev_pos (by first | rfl | trivial) (Ev_pos (by first | rfl | trivial) (Ev_pos (by first | rfl | trivial) (Ev_pos (by first | rfl | trivial) ?_))))))))
  dsimp only
  rw [show (put true p != put true p) = false by simp]
  exact scaled_j2 hn hnl he
theorem IeeeScaled : abacuslaw04_IeeeScaled.Pure := by
  intro a0 n l2 d e y hn1 hn2 hn3 _ _ _ hd1 hd2 hd3 w4 w5
  suffices h : Ev (fun k => abacuslaw04_IeeeScaled.f k a0 n l2 d e y) true by
    obtain ⟨K, hK⟩ := h
    exact ⟨K, hK K (Nat.le_refl _)⟩
  have hn := ok_of_wf hn3
  have hd := ok_of_wf hd3
  have hy : 0 ≤ y ∧ y < 256 := by
    simp [Lit.wf] at w5
    have h1 : IntKind.u8.min = 0 := rfl
    have h2 : IntKind.u8.max = 255 := rfl
    omega
  have out : Ev (fun k => abacuslaw04_IeeeScaled.j0 k n d e true a0 n l2 d e y) true := by
    refine Ev_succ ?_
    simp only [abacuslaw04_IeeeScaled.j0]
    exact Ev_pos (by first | rfl | trivial) (Ev_some rfl)
  simp only [abacuslaw04_IeeeScaled.f]
  refine Ev.bind awake_ev (Ev_pos (by first | rfl | trivial) ?_)
  by_cases h1 : (n.length : Int) > 60
  · exact Ev_pos h1 out
  refine Ev_neg h1 ?_
  by_cases h2 : (d.length : Int) > 60
  · exact Ev_pos h2 out
  refine Ev_neg h2 ?_
  by_cases h3 : e > 1099511627776
  · exact Ev_pos h3 out
  refine Ev_neg h3 ?_
  by_cases h4 : e < -1099511627776
  · exact Ev_pos h4 out
  refine Ev_neg h4 (Ev.bind (nat_BitLen_ev hd (by omega)) ?_)
  have hb := blen_pos (n := val d)
  by_cases h5 : val d = 0
  · rw [h5, blen_zero]
    exact out
  have e5 : (((blen (val d) : Nat) : Int) == 0) = false := by simp; omega
  rw [e5]
  have he : -1099511627776 ≤ e ∧ e ≤ 1099511627776 := by omega
  have hnB : val n < B 60 := Nat.lt_of_lt_of_le (val_lt hn) (B_mono (by omega))
  have g3 : val n < B 4096 := Nat.lt_of_lt_of_le hnB (B_mono (by omega))
  obtain ⟨k, rfl⟩ : ∃ k : Nat, y = (k : Int) := ⟨y.toNat, by omega⟩
  have hup : val n * 2 ^ k < B 4096 := by
    exact shift_B hnB (by omega)
  have hsh := nat_Shl_ev (a := n) (n := (k : Int)) hn (by omega) (by omega)
  rw [shlAns_ok g3 hup (by omega)] at hsh
  have r1 := Round_ev (l := n) (neg := false) (e := e) (more := false) hn (by omega) g3
  have r2 := limb_ev (neg := false) (e := e - (k : Int)) (more := false) hup
  rw [rnd_shift] at r2
  have hone : ok [(1 : Int)] := ok_limb (n := 1) (by omega)
  have hv1 : val [(1 : Int)] = 1 := val_limb 1
  have hB1 : 1 < B 4096 := by
    have := B_mono (show 1 ≤ 4096 by omega)
    rw [B_one] at this
    omega
  obtain ⟨p, p1, p2⟩ := RoundRatio_ev (neg := false) (e := e) hn hone (by omega) (by simp) g3 (by rw [hv1]; exact hB1) (by rw [hv1]; omega)
  have hp : p = rnd (val n) e false := by
    obtain ⟨a, b, hab⟩ : ∃ a b : Nat, (a : Int) - b = e + 1074 := ⟨(e + 1074).toNat, (-(e + 1074)).toNat, by omega⟩
    have N := p2 a b (by rw [clamp_in he.1 he.2]; exact hab)
    rw [hv1, Nat.one_mul] at N
    exact near_unique (pow_pos2 b) (pow_pos2 b) N (rnd_near (val n) e hab) rfl
  subst hp
  have r3 := Round_ev (l := n) (neg := true) (e := e) (more := false) hn (by omega) g3
  have ht := rnd_top (val n) e false
  unfold inf at ht
  have e6 : (put true (rnd (val n) e false) != IntKind.u64.wrap (put false (rnd (val n) e false) + 9223372036854775808)) = false := by
    have : IntKind.u64.wrap (put false (rnd (val n) e false) + 9223372036854775808) = put true (rnd (val n) e false) := by
      rw [IntKind.wrap_u64]; unfold put; simp only [Bool.false_eq_true, if_false, if_true]; omega
    rw [this]; simp
  refine Ev_succ ?_
  have w1 : wrap64 (k : Int) = (k : Int) := wrap_id (by omega) (by omega)
  have w2 := wrap_sub he hy
  simp only [abacuslaw04_IeeeScaled.j0, w1, w2]
  refine Ev_neg (by simp) (Ev.bind hsh (Ev.bind r1 (Ev.bind r2 (Ev.bind p1 (Ev.bind r3 (Ev_pos (by first | rfl | trivial) (Ev_pos (by first | rfl | trivial) (Ev_pos (by first | rfl | trivial) (Ev_pos (by first | rfl | trivial) (Ev_pos (by first | rfl | trivial) (Ev_pos rfl (Ev_pos rfl ?_))))))))))))
  dsimp only
  rw [e6]
  exact scaled_j1 hn hd (by omega) (by omega) h5 he hy
end Go.Proofs.YtiigfmmflicdpaaDoor.Pure
