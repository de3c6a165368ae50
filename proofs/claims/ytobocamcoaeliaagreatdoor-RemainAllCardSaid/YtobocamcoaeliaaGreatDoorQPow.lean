/- What the printed Pow of quot computes, and the looks of the laws of its chapter (alike, Top). Conditions: lists of limbs below 2^64, of lengths that a slice of limbs has. -/
import Derived.Test.YtobocamcoaeliaaGreatDoorQBits
namespace Go.Proofs.YtobocamcoaeliaaGreatDoor.Pow
open Go.RowKit Go.Proofs.YtobocamcoaeliaaGreatDoor.Lib Go.Proofs.YtobocamcoaeliaaGreatDoor.LibB Go.Proofs.YtobocamcoaeliaaGreatDoor.F Go.Proofs.YtobocamcoaeliaaGreatDoor.Nat1 Go.Proofs.YtobocamcoaeliaaGreatDoor.Bits
open Go.Proofs.YtobocamcoaeliaaGreatDoorA (rd ln ln_eq mx mn shl shr wr wr_eq)
set_option linter.unusedVariables false
set_option linter.unusedSimpArgs false

theorem trim_ev {l : List Int} (h : ok l) (hl : l.length ≤ 35184372088832) : Ev (fun k _ _ => nat_Trim.f k l) (lim (val l)) := nat_Trim_ev h hl
theorem quot_small_ev {l : List Int} {m : Int} (h : ok l) (hl : l.length ≤ 35184372088832) : Ev (fun k _ _ => quot_small.f k l m) (lim (val l), decide (((lim (val l)).length : Int) ≤ m)) := by
  simp only [quot_small.f, quot_small.b0, ln_eq]
  exact Ev.bind (trim_ev h hl) (Ev_some rfl)
/-- A product's answer is that of the product. -/
theorem mulAns_eq {a b : Nat} (ha : a < B 4096) (hb : b < B 4096) : mulAns a b = ans (a * b) := by
  rw [mulAns, ans2, if_pos ⟨ha, hb⟩]
  by_cases h : a = 0 ∨ b = 0
  · rw [if_pos h]
    have : a * b = 0 := by rcases h with rfl | rfl <;> simp
    rw [this, ans, if_pos (B_pos _), lim_zero]
  · rw [if_neg h]
    by_cases h2 : (lim a).length + (lim b).length - 1 > 4096
    · rw [if_pos h2, ans, if_neg]
      have h3 := lim_len_ge a (fun h3 => h (.inl h3))
      have h4 := lim_len_ge b (fun h4 => h (.inr h4))
      have h5 := Nat.mul_le_mul h3 h4
      rw [← B_add] at h5
      have h6 := B_mono (show 4096 ≤ (lim a).length - 1 + ((lim b).length - 1) by omega)
      omega
    · rw [if_neg h2]
theorem ans_big {n : Nat} (h : ¬ n < B 4096) : ans n = ([], 2) := by rw [ans, if_neg h]
theorem ans_ok {n : Nat} (h : n < B 4096) : ans n = (lim n, 0) := by rw [ans, if_pos h]
theorem one_limit : (1 : Nat) < B 4096 := by
  have := B_mono (show 1 ≤ 4096 by omega)
  rw [B_one] at this
  omega
/-! ### Pow -/
theorem pow_bit {n i : Nat} : n / 2 ^ i = 2 * (n / 2 ^ (i + 1)) + n / 2 ^ i % 2 := by
  rw [Nat.pow_succ, ← Nat.div_div_eq_div_mul]
  omega
theorem pow_sq (v m : Nat) : v ^ m * v ^ m = v ^ (2 * m) := by rw [← Nat.pow_add]; congr 1; omega
theorem shr_i64 {x : Int} {s : Nat} (hs : s ≤ 64) : shr .i64 x (s : Int) = x / (2 ^ s : Nat) := by
  unfold shr
  rw [Int.toNat_natCast, Nat.min_eq_left (show s ≤ IntKind.i64.bits from hs), Int.natCast_pow]; rfl
theorem and_one_i64 {n : Nat} (h : n < 9223372036854775808) : Go.bits .and .i64 (n : Int) 1 = ((n % 2 : Nat) : Int) := by
  have h1 : (BitVec.ofInt 64 1).toNat = 2 ^ 1 - 1 := by decide
  have key : (BitVec.ofInt 64 (n : Int) &&& BitVec.ofInt 64 1).toNat = ((n : Int) % ((2 ^ 64 : Nat) : Int)).toNat % 2 ^ 1 := by
    rw [BitVec.toNat_and, BitVec.toNat_ofInt, h1, Nat.and_two_pow_sub_one_eq_mod]
  show IntKind.i64.wrap ((BitVec.ofInt 64 (n : Int) &&& BitVec.ofInt 64 1).toNat : Nat) = _
  rw [key, IntKind.wrap_i64]
  omega
theorem pow_le {v a b : Nat} (hv : 2 ≤ v) (h : a ≤ b) : v ^ a ≤ v ^ b := Nat.pow_le_pow_right (by omega) h
theorem pow_l {v n : Nat} (hv : 2 ≤ v) (hb : v < B 4096) (hn : n < 262144) (j : Nat) : j ≤ 64 → v ^ (n / 2 ^ j) < B 4096 →
    Ev (fun k m _ => quot_Pow.l1013 k m (n : Int) (lim v) (lim (v ^ (n / 2 ^ j))) ((j : Int) - 1)) (ans (v ^ n)) := by
  induction j with
  | zero =>
    intro _ hs
    rw [Nat.pow_zero, Nat.div_one] at hs ⊢
    refine Ev_succ ?_
    simp only [quot_Pow.l1013, quot_Pow.b1013]
    exact Ev_neg (by omega) (Ev_some (ans_ok hs).symm)
  | succ j ih =>
    intro hj hs
    have e : ((j + 1 : Nat) : Int) - 1 = (j : Int) := by omega
    have e1 : wrap64 ((j : Int) - 1) = (j : Int) - 1 := by unfold wrap64; omega
    have e2 : IntKind.u64.wrap (j : Int) = (j : Int) := wrapU64 (by omega) (by omega)
    have sl := (lim_len_le (v ^ (n / 2 ^ (j + 1))) 4096).2 hs
    have hbit := @pow_bit n j
    have hle : n / 2 ^ j ≤ n := Nat.div_le_self _ _
    have big : ¬ v ^ (n / 2 ^ j) < B 4096 → ans (v ^ n) = ([], 2) := fun h => ans_big (fun h2 => h (Nat.lt_of_le_of_lt (pow_le hv hle) h2))
    have sv := (lim_len_le v 4096).2 hb
    have hm := nat_Mul_ev (ok_lim (v ^ (n / 2 ^ (j + 1)))) (ok_lim (v ^ (n / 2 ^ (j + 1)))) (by omega) (by omega)
    rw [val_lim, mulAns_eq hs hs, pow_sq] at hm
    refine Ev_succ ?_
    simp only [quot_Pow.l1013, quot_Pow.b1013, e, e2]
    refine Ev_pos (by omega) (Ev.bind hm ?_)
    by_cases h1 : v ^ (2 * (n / 2 ^ (j + 1))) < B 4096
    · have sl1 := (lim_len_le _ 4096).2 h1
      simp only [ans_ok h1]
      have hsh : shr .i64 (n : Int) (j : Int) = ((n / 2 ^ j : Nat) : Int) := by rw [shr_i64 (by omega), ← Int.natCast_ediv]
      rw [hsh, and_one_i64 (by omega)]
      refine Ev_pos trivial (Ev_pos (by omega) ?_)
      have i1 := ih (by omega)
      simp only [quot_Pow.l64807, quot_Pow.b64807, e1]
      rcases Nat.mod_two_eq_zero_or_one (n / 2 ^ j) with h2 | h2
      · rw [h2, Nat.add_zero] at hbit
        rw [← hbit] at h1 ⊢
        rw [h2]
        exact Ev_neg (by decide) (Ev_neg (by simp) (i1 h1))
      · rw [h2] at hbit
        have hm2 := nat_Mul_ev (ok_lim (v ^ (2 * (n / 2 ^ (j + 1))))) (ok_lim v) (by omega) (by omega)
        rw [val_lim, val_lim, mulAns_eq h1 hb, show v ^ (2 * (n / 2 ^ (j + 1))) * v = v ^ (n / 2 ^ j) by rw [hbit]; exact (Nat.pow_succ ..).symm] at hm2
        rw [h2]
        refine Ev_pos (by decide) (Ev.bind hm2 ?_)
        by_cases h3 : v ^ (n / 2 ^ j) < B 4096
        · simp only [ans_ok h3]
          exact Ev_neg (by simp) (i1 h3)
        · simp only [ans_big h3]
          exact Ev_pos (by simp) (Ev_some (big h3).symm)
    · have h4 : ¬ v ^ (n / 2 ^ j) < B 4096 := fun h2 => h1 (Nat.lt_of_le_of_lt (pow_le hv (by omega)) h2)
      simp only [ans_big h1]
      simp only [quot_Pow.l64807, quot_Pow.b64807]
      exact Ev_neg (by simp) (Ev_pos (by simp) (Ev_some (big h4).symm))
def powAns (v : Nat) (n : Int) : List Int × Int := if v < B 4096 then (if n < 0 then ([], 1) else ans (v ^ n.toNat)) else ([], 2)
theorem two_pow_limit {n : Nat} (h : 262144 ≤ n) : B 4096 ≤ 2 ^ n := by
  obtain ⟨N, hN⟩ : ∃ N, N = 64 * 4096 := ⟨_, rfl⟩
  rw [B_two, ← hN]
  exact Nat.pow_le_pow_right (by omega) (by omega)
theorem blen_limit {v : Nat} (h : v < B 4096) : blen v ≤ 262144 := by
  obtain ⟨N, hN⟩ : ∃ N, N = 64 * 4096 := ⟨_, rfl⟩
  rw [B_two, ← hN, ← blen_le] at h
  omega
theorem pow_wrap {b n : Nat} (hb : b ≤ 262144) (hn : n < 262144) : wrap64 (wrap64 ((b : Int) - 1) * (n : Int)) = ((b : Int) - 1) * (n : Int) := by
  have e1 : wrap64 ((b : Int) - 1) = (b : Int) - 1 := by unfold wrap64; omega
  rw [e1]
  rcases Nat.eq_zero_or_pos b with rfl | h
  · unfold wrap64; omega
  · have h1 := Int.mul_le_mul (show (b : Int) - 1 ≤ 262144 by omega) (show (n : Int) ≤ 262144 by omega) (by omega) (by omega)
    have h2 := Int.mul_nonneg (show 0 ≤ (b : Int) - 1 by omega) (show 0 ≤ (n : Int) by omega)
    unfold wrap64
    omega
theorem quot_Pow_ev {a : List Int} {n : Int} (ha : ok a) (hla : a.length ≤ 35184372088832) (hn : n < 9223372036854775808) : Ev (fun k _ _ => quot_Pow.f k a n) (powAns (val a) n) := by
  simp only [quot_Pow.f, quot_Pow.b0, ln_eq]
  refine Ev.bind (quot_small_ev ha hla) ?_
  have hll := lim_len_val_le ha
  have hb := nat_BitLen_ev (l := lim (val a)) (ok_lim _) (by omega)
  rw [val_lim] at hb
  have h4 := lim_len_le (val a) 4096
  refine Ev.bind hb ?_
  generalize val a = v at *
  unfold powAns
  by_cases h1 : v < B 4096
  · rw [if_pos h1, decide_eq_true (show ((lim v).length : Int) ≤ 4096 by omega)]
    refine Ev_neg (by simp) ?_
    by_cases h2 : n < 0
    · exact Ev_pos h2 (Ev_some (by rw [if_pos h2]))
    · rw [if_neg h2]
      obtain ⟨m, rfl⟩ := Int.eq_ofNat_of_zero_le (show 0 ≤ n by omega)
      rw [Int.toNat_natCast]
      refine Ev_neg h2 ?_
      by_cases h3 : m = 0
      · subst h3
        refine Ev_pos rfl (Ev_some ?_)
        rw [Nat.pow_zero, ans_ok one_limit, lim_one_len (by omega) (by omega)]
        rfl
      · refine Ev_neg (by omega) ?_
        have hbl := blen_le v 1
        rw [Nat.pow_one] at hbl
        by_cases h5 : v < 2
        · refine Ev_pos (by omega) (Ev_some ?_)
          have : v ^ m = v := by
            rcases (show v = 0 ∨ v = 1 by omega) with rfl | rfl
            · exact Nat.zero_pow (by omega)
            · exact Nat.one_pow m
          rw [this, ans_ok h1]
        · refine Ev_neg (by omega) ?_
          by_cases h6 : m ≥ 262144
          · refine Ev_pos (by omega) (Ev_some ?_)
            have := two_pow_limit h6
            have h7 : 2 ^ m ≤ v ^ m := Nat.pow_le_pow_left (by omega) m
            rw [ans_big (by omega)]
          · refine Ev_neg (by omega) ?_
            have hbm := blen_limit h1
            rw [pow_wrap hbm (by omega)]
            have hge := blen_ge (n := v) (by omega)
            by_cases h8 : ((blen v : Nat) : Int) - 1 < 0
            · have := blen_pos (n := v); omega
            · have ec : (((blen v : Nat) : Int) - 1) * (m : Int) = (((blen v - 1) * m : Nat) : Int) := by
                rw [Int.natCast_mul]; congr 1; omega
              rw [ec]
              by_cases h9 : (((blen v - 1) * m : Nat) : Int) ≥ 262144
              · refine Ev_pos h9 (Ev_some ?_)
                have h10 := two_pow_limit (n := (blen v - 1) * m) (by omega)
                have h11 := Nat.pow_le_pow_left hge m
                rw [← Nat.pow_mul] at h11
                rw [ans_big (by omega)]
              · refine Ev_neg h9 ?_
                have hl18 : blen m ≤ 18 := (blen_le m 18).2 (by omega)
                have e3 : bits_Len.f (IntKind.u64.wrap (m : Int)) = some ((blen m : Nat) : Int) := by
                  rw [wrapU64 (by omega) (by omega)]
                  unfold bits_Len.f bits_Len.b0
                  rw [len64 (x := (m : Int)) (by omega)]
                  rfl
                refine Ev_bind_eq e3 ?_
                have e4 : wrap64 (((blen m : Nat) : Int) - 1) = ((blen m : Nat) : Int) - 1 := by unfold wrap64; omega
                simp only [e4]
                have hz : m / 2 ^ blen m = 0 := Nat.div_eq_of_lt (blen_lt m)
                have h1p : (1 : Nat) < B 4096 := by
                  have := B_mono (show 1 ≤ 4096 by omega)
                  rw [B_one] at this
                  omega
                have := pow_l (v := v) (n := m) (by omega) h1 (by omega) (blen m) (by omega) (by rw [hz, Nat.pow_zero]; exact h1p)
                rw [hz, Nat.pow_zero, show lim 1 = [1] from lim_one_len (by omega) (by omega)] at this
                exact Ev_in this
  · rw [if_neg h1, decide_eq_false (show ¬ ((lim v).length : Int) ≤ 4096 by omega)]
    exact Ev_pos (by simp) (Ev_some rfl)
end Go.Proofs.YtobocamcoaeliaaGreatDoor.Pow
