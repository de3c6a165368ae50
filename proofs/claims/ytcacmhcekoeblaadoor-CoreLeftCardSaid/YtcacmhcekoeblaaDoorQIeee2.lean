/- What the printed calls of ieee on whole numbers and roundings compute. Conditions: patterns below 2^64. -/
import Derived.Test.YtcacmhcekoeblaaDoorQMag
namespace Go.Proofs.YtcacmhcekoeblaaDoor.Ieee2
open Go.RowKit Go.Proofs.YtcacmhcekoeblaaDoor.Lib Go.Proofs.YtcacmhcekoeblaaDoor.LibB Go.Proofs.YtcacmhcekoeblaaDoor.F Go.Proofs.YtcacmhcekoeblaaDoor.Nat1 Go.Proofs.YtcacmhcekoeblaaDoor.Bits Go.Proofs.YtcacmhcekoeblaaDoor.Ieee1 Go.Proofs.YtcacmhcekoeblaaDoor.Mag Go.Proofs.YtcacmhcekoeblaaDoor.Rnd
open Go.Proofs.YtcacmhcekoeblaaDoorA (rd ln ln_eq mx mn shl shr wr wr_eq)
set_option linter.unusedVariables false
set_option linter.unusedSimpArgs false

/-! ### a double taken apart -/
def sgn (d : Int) : Bool := decide (d ≥ 9223372036854775808)
/-- The place of a double's size. -/
def plc (d : Int) : Nat := (d % 9223372036854775808).toNat
def manOf (d : Int) : Int := if cls d = 1 then d % 9223372036854775808 else if cls d = 2 then 4503599627370496 + d % 4503599627370496 else if cls d = 4 then d % 4503599627370496 else 0
def expOf (d : Int) : Int := if cls d = 1 then -1074 else if cls d = 2 then d % 9223372036854775808 / 4503599627370496 - 1075 else 0
theorem Decode_eq {d : Int} (h : U d) : ieee_Decode.f d = some (sgn d, cls d, manOf d, expOf d) := by
  have h0 := h.1
  have h1 := h.2
  have hs : decide (¬ Go.bits .and .u64 d 9223372036854775808 = 0) = sgn d := by
    rw [bit_sgn h]
    unfold sgn
    by_cases h2 : d < 9223372036854775808
    · rw [if_pos h2]; exact decide_eq_decide.2 (by omega)
    · rw [if_neg h2]; exact decide_eq_decide.2 (by omega)
  have he : Go.bits .and .u64 (d / 4503599627370496) 2047 = d / 4503599627370496 % 2048 := bit_exp ⟨by omega, by omega⟩
  unfold ieee_Decode.f ieee_Decode.b0
  rw [Class_eq h, Option.bind_some, hs, bit_low h, he, bit_hidden (by omega) (by omega)]
  unfold manOf expOf
  have c1 : cls d = 1 ↔ d % 9223372036854775808 ≠ 0 ∧ d % 9223372036854775808 < 4503599627370496 := by unfold cls; repeat' split
                                                                                                       all_goals omega
  by_cases k1 : cls d = 1
  · rw [if_pos k1, if_pos k1, if_pos k1]
    have := c1.1 k1
    rw [show d % 4503599627370496 = d % 9223372036854775808 by omega]
  · rw [if_neg k1, if_neg k1, if_neg k1]
    by_cases k2 : cls d = 2
    · rw [if_pos k2, if_pos k2, if_pos k2]
      rw [show wrap64 (wrap64 (d / 4503599627370496 % 2048) - 1075) = d % 9223372036854775808 / 4503599627370496 - 1075 by unfold wrap64; omega]
    · rw [if_neg k2, if_neg k2, if_neg k2]
      by_cases k4 : cls d = 4
      · rw [if_pos k4, if_pos k4]
      · rw [if_neg k4, if_neg k4]
/-- Finite. -/
def fin (d : Int) : Prop := d % 9223372036854775808 < 9218868437227405312
instance (d : Int) : Decidable (fin d) := inferInstanceAs (Decidable (_ < _))
theorem cls_fin {d : Int} : cls d ≥ 3 ↔ ¬ fin d := by unfold cls fin; repeat' split
                                                      all_goals omega
theorem cls_cases (d : Int) (h : fin d) : (cls d = 0 ∧ d % 9223372036854775808 = 0) ∨ (cls d = 1 ∧ d % 9223372036854775808 ≠ 0 ∧ d % 9223372036854775808 < 4503599627370496) ∨ (cls d = 2 ∧ d % 9223372036854775808 ≥ 4503599627370496) := by
  unfold cls fin at *; repeat' split
  all_goals omega
theorem exp_range {d : Int} (h : fin d) : -1074 ≤ expOf d ∧ expOf d ≤ 971 := by
  unfold expOf
  unfold fin at h
  have h0 : 0 ≤ d % 9223372036854775808 := by omega
  by_cases k1 : cls d = 1
  · rw [if_pos k1]; omega
  · rw [if_neg k1]
    by_cases k2 : cls d = 2
    · rw [if_pos k2]
      have : d % 9223372036854775808 ≥ 4503599627370496 := by
        unfold cls at k2
        repeat' split at k2
        all_goals omega
      omega
    · rw [if_neg k2]; omega
theorem man_range {d : Int} (h : fin d) : 0 ≤ manOf d ∧ manOf d < 9007199254740992 := by
  rcases cls_cases d h with ⟨h1, h2⟩ | ⟨h1, h2, h3⟩ | ⟨h1, h2⟩ <;> unfold manOf <;> rw [h1] <;> simp <;> omega
/-- A finite double's value, counted in 2^-1074, by its parts. -/
theorem uni_parts {d : Int} (h : fin d) : uni (plc d) = (manOf d).toNat * 2 ^ (expOf d + 1074).toNat := by
  unfold plc
  rcases cls_cases d h with ⟨h1, h2⟩ | ⟨h1, h2, h3⟩ | ⟨h1, h2⟩
  · unfold manOf; rw [h1, h2]; simp [uni_zero]
  · unfold manOf expOf
    rw [if_pos h1, if_pos h1, uni_small (by omega)]
    simp
  · unfold manOf expOf
    have n1 : ¬ cls d = 1 := by omega
    rw [if_neg n1, if_neg n1, if_pos h1, if_pos h1]
    unfold fin at h
    have e : (d % 9223372036854775808).toNat = (d % 9223372036854775808 / 4503599627370496 - 1075 + 1074).toNat * 4503599627370496 + (4503599627370496 + d % 4503599627370496).toNat := by omega
    rw [e]
    exact uni_at (.inr (by omega)) (by omega)
theorem plc_fin {d : Int} : fin d ↔ plc d < inf := by unfold plc fin inf; omega

/-! ### the rounding -/
def put (neg : Bool) (p : Nat) : Int := if neg then (p : Int) + 9223372036854775808 else (p : Int)
theorem put_neg {p : Nat} (h : p ≤ inf) : Go.Proofs.YtcacmhcekoeblaaDoor.Ieee1.neg (p : Int) = put true p := by unfold Go.Proofs.YtcacmhcekoeblaaDoor.Ieee1.neg put; unfold inf at h; rw [if_pos (by omega)]; rfl
theorem blen_B {n k : Nat} (h : n < B k) : blen n ≤ 64 * k := (blen_le _ _).2 (by rw [← B_two]; exact h)
theorem blen_limit {n : Nat} (h : n < B 4096) : blen n ≤ 262144 := by
  have := blen_B h
  omega
theorem clamp_range (e : Int) : -1099511627776 ≤ (if (if e < 1099511627776 then e else 1099511627776) < -1099511627776 then -1099511627776 else (if e < 1099511627776 then e else 1099511627776)) ∧ (if (if e < 1099511627776 then e else 1099511627776) < -1099511627776 then -1099511627776 else (if e < 1099511627776 then e else 1099511627776)) ≤ 1099511627776 := by
  repeat' split
  all_goals omega
theorem rnd_top (n : Nat) (e : Int) (more : Bool) : rnd n e more ≤ inf := by
  unfold rnd
  by_cases h0 : n = 0
  · rw [if_pos (.inl h0)]; exact Nat.zero_le _
  by_cases h1 : (blen n : Int) + e < -1074
  · rw [if_pos (.inr h1)]; exact Nat.zero_le _
  rw [if_neg (by omega)]
  by_cases h2 : (blen n : Int) + e > 1024
  · rw [if_pos h2]; exact Nat.le_refl _
  rw [if_neg h2]
  obtain ⟨k, k1, k2, k3, k4, k5⟩ := unit_cases h0 h1 h2
  have bp := (blen_pos (n := n)).2 h0
  rw [k1]
  by_cases h3 : unitOf n e ≤ e
  · rw [if_pos h3]
    obtain ⟨j, hj⟩ : ∃ j : Nat, e - unitOf n e = (j : Int) := ⟨(e - unitOf n e).toNat, by omega⟩
    rw [hj, Int.toNat_natCast]
    have hc : n * 2 ^ j < 9007199254740992 := by
      have := (blen_le (n * 2 ^ j) 53).1 (by rw [blen_mul_pow h0]; omega)
      exact this
    unfold inf; omega
  · rw [if_neg h3]
    obtain ⟨m, hm⟩ : ∃ m : Nat, unitOf n e - e = (m : Int) := ⟨(unitOf n e - e).toNat, by omega⟩
    rw [hm, Int.toNat_natCast]
    obtain ⟨q1, q2⟩ := quot_range (m := m) h0 (by omega) k4 k5
    have := place_top k3 q2 (decide (upB n m more))
    simp only [decide_eq_true_eq] at this
    exact this
theorem near_eq (e : Int) : ieee_near.f e = some (if (if e < 1099511627776 then e else 1099511627776) < -1099511627776 then -1099511627776 else (if e < 1099511627776 then e else 1099511627776)) := by
  unfold ieee_near.f ieee_near.b0 mx mn
  congr 1
  repeat' split
  all_goals omega
theorem Round_ev {l : List Int} {neg : Bool} {e : Int} {more : Bool} (hl : ok l) (hll : l.length ≤ 35184372088832) (h : val l < B 4096) : Ev (fun k _ _ => ieee_Round.f k neg l e more) (put neg (rnd (val l) e more), 0) := by
  have hb := blen_limit h
  simp only [ieee_Round.f, ieee_Round.b0, ln_eq]
  have hs := nat_Shl_ev (a := l) (n := 0) hl (by omega) (by omega)
  have hsa : shlAns (val l) 0 = (lim (val l), 0) := by
    unfold shlAns
    rw [if_pos h, if_neg (by omega)]
    by_cases h0 : val l = 0
    · rw [if_pos h0, h0, lim_zero]
    · rw [if_neg h0, if_neg (by omega), show (0 : Int).toNat = 0 from rfl, Nat.pow_zero, Nat.mul_one, ans, if_pos h]
  rw [hsa] at hs
  refine Ev.bind hs (Ev_neg (by simp) (Ev_bind_eq (near_eq e) ?_))
  have hm := magnitude_ev (more := more) h (clamp_range e) hb
  rw [rnd_far hb] at hm
  refine Ev.bind hm ?_
  have ht := rnd_top (val l) e more
  cases neg with
  | false => exact Ev_neg (by simp) (Ev_some rfl)
  | true => exact Ev_pos (by first | rfl | trivial) (Ev_bind_eq (Neg_eq ⟨by omega, by unfold inf at ht; omega⟩) (Ev_some (by rw [put_neg ht])))
theorem limb_ev {neg : Bool} {n : Nat} {e : Int} {more : Bool} (h : n < B 4096) : Ev (fun k _ _ => ieee_Round.f k neg (lim n) e more) (put neg (rnd n e more), 0) := by
  have := Round_ev (l := lim n) (neg := neg) (e := e) (more := more) (ok_lim n) (by have := (lim_len_le n 4096).2 h; omega) (by rw [val_lim]; exact h)
  rwa [val_lim] at this
theorem FromUint_lim {n : Nat} (h : n < 18446744073709551616) : nat_FromUint.f (n : Int) = some (lim n) := by
  unfold nat_FromUint.f nat_FromUint.b0
  by_cases h0 : n = 0
  · subst h0
    rw [if_pos (show ((0 : Nat) : Int) = 0 from rfl), lim_zero]
  · rw [if_neg (by omega), lim_one_len h h0]
theorem small_limit {n : Nat} (h : n < 18446744073709551616) : n < B 4096 := by
  have := B_mono (show 1 ≤ 4096 by omega)
  rw [B_one] at this
  omega

/-! ### whole parts -/
end Go.Proofs.YtcacmhcekoeblaaDoor.Ieee2
