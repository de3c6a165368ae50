/- What the printed calls of ieee on whole numbers and roundings compute. Conditions: patterns below 2^64. -/
import Derived.Test.YtlnfgcnagfdliaaDoorQMag
namespace Go.Proofs.YtlnfgcnagfdliaaDoor.Ieee2
open Go.RowKit Go.Proofs.YtlnfgcnagfdliaaDoor.Lib Go.Proofs.YtlnfgcnagfdliaaDoor.LibB Go.Proofs.YtlnfgcnagfdliaaDoor.F Go.Proofs.YtlnfgcnagfdliaaDoor.Nat1 Go.Proofs.YtlnfgcnagfdliaaDoor.Bits Go.Proofs.YtlnfgcnagfdliaaDoor.Ieee1 Go.Proofs.YtlnfgcnagfdliaaDoor.Mag Go.Proofs.YtlnfgcnagfdliaaDoor.Rnd
open Go.Proofs.YtlnfgcnagfdliaaDoorA (rd ln ln_eq mx mn shl shr wr wr_eq)
set_option linter.unusedVariables false
set_option linter.unusedSimpArgs false

/-! ### a double taken apart -/
def sgn (d : Int) : Bool := decide (d ≥ 9223372036854775808)
/-- The place of a double's size. -/
def plc (d : Int) : Nat := (d % 9223372036854775808).toNat
def manOf (d : Int) : Int := if cls d = 1 then d % 9223372036854775808 else if cls d = 2 then 4503599627370496 + d % 4503599627370496 else if cls d = 4 then d % 4503599627370496 else 0
def expOf (d : Int) : Int := if cls d = 1 then -1074 else if cls d = 2 then d % 9223372036854775808 / 4503599627370496 - 1075 else 0
theorem Decode_eq {d : Int} (h : U d) : ieee_Decode.f d = some (sgn d, cls d, manOf d, expOf d) := by
  have h0 := h.1
  have h1 := h.2
  have hs : decide (¬ Go.bits .and .u64 d 9223372036854775808 = 0) = sgn d := by
    rw [bit_sgn h]
    unfold sgn
    by_cases h2 : d < 9223372036854775808
    · rw [if_pos h2]; exact decide_eq_decide.2 (by omega)
    · rw [if_neg h2]; exact decide_eq_decide.2 (by omega)
  have he : Go.bits .and .u64 (d / 4503599627370496) 2047 = d / 4503599627370496 % 2048 := bit_exp ⟨by omega, by omega⟩
  unfold ieee_Decode.f ieee_Decode.b0
  rw [Class_eq h, Option.bind_some, hs, bit_low h, he, bit_hidden (by omega) (by omega)]
  unfold manOf expOf
  have c1 : cls d = 1 ↔ d % 9223372036854775808 ≠ 0 ∧ d % 9223372036854775808 < 4503599627370496 := by unfold cls; repeat' split
                                                                                                       all_goals omega
  by_cases k1 : cls d = 1
  · rw [if_pos k1, if_pos k1, if_pos k1]
    have := c1.1 k1
    rw [show d % 4503599627370496 = d % 9223372036854775808 by omega]
  · rw [if_neg k1, if_neg k1, if_neg k1]
    by_cases k2 : cls d = 2
    · rw [if_pos k2, if_pos k2, if_pos k2]
      rw [show wrap64 (wrap64 (d / 4503599627370496 % 2048) - 1075) = d % 9223372036854775808 / 4503599627370496 - 1075 by unfold wrap64; omega]
    · rw [if_neg k2, if_neg k2, if_neg k2]
      by_cases k4 : cls d = 4
      · rw [if_pos k4, if_pos k4]
      · rw [if_neg k4, if_neg k4]
/-- Finite. -/
def fin (d : Int) : Prop := d % 9223372036854775808 < 9218868437227405312
instance (d : Int) : Decidable (fin d) := inferInstanceAs (Decidable (_ < _))
theorem cls_fin {d : Int} : cls d ≥ 3 ↔ ¬ fin d := by unfold cls fin; repeat' split
                                                      all_goals omega
theorem cls_cases (d : Int) (h : fin d) : (cls d = 0 ∧ d % 9223372036854775808 = 0) ∨ (cls d = 1 ∧ d % 9223372036854775808 ≠ 0 ∧ d % 9223372036854775808 < 4503599627370496) ∨ (cls d = 2 ∧ d % 9223372036854775808 ≥ 4503599627370496) := by
  unfold cls fin at *; repeat' split
  all_goals omega
theorem exp_range {d : Int} (h : fin d) : -1074 ≤ expOf d ∧ expOf d ≤ 971 := by
  unfold expOf
  unfold fin at h
  have h0 : 0 ≤ d % 9223372036854775808 := by omega
  by_cases k1 : cls d = 1
  · rw [if_pos k1]; omega
  · rw [if_neg k1]
    by_cases k2 : cls d = 2
    · rw [if_pos k2]
      have : d % 9223372036854775808 ≥ 4503599627370496 := by
        unfold cls at k2
        repeat' split at k2
        all_goals omega
      omega
    · rw [if_neg k2]; omega
theorem man_range {d : Int} (h : fin d) : 0 ≤ manOf d ∧ manOf d < 9007199254740992 := by
  rcases cls_cases d h with ⟨h1, h2⟩ | ⟨h1, h2, h3⟩ | ⟨h1, h2⟩ <;> unfold manOf <;> rw [h1] <;> simp <;> omega
/-- A finite double's value, counted in 2^-1074, by its parts. -/
theorem uni_parts {d : Int} (h : fin d) : uni (plc d) = (manOf d).toNat * 2 ^ (expOf d + 1074).toNat := by
  unfold plc
  rcases cls_cases d h with ⟨h1, h2⟩ | ⟨h1, h2, h3⟩ | ⟨h1, h2⟩
  · unfold manOf; rw [h1, h2]; simp [uni_zero]
  · unfold manOf expOf
    rw [if_pos h1, if_pos h1, uni_small (by omega)]
    simp
  · unfold manOf expOf
    have n1 : ¬ cls d = 1 := by omega
    rw [if_neg n1, if_neg n1, if_pos h1, if_pos h1]
    unfold fin at h
    have e : (d % 9223372036854775808).toNat = (d % 9223372036854775808 / 4503599627370496 - 1075 + 1074).toNat * 4503599627370496 + (4503599627370496 + d % 4503599627370496).toNat := by omega
    rw [e]
    exact uni_at (.inr (by omega)) (by omega)
theorem plc_fin {d : Int} : fin d ↔ plc d < inf := by unfold plc fin inf; omega

/-! ### the rounding -/
def put (neg : Bool) (p : Nat) : Int := if neg then (p : Int) + 9223372036854775808 else (p : Int)
theorem put_neg {p : Nat} (h : p ≤ inf) : Go.Proofs.YtlnfgcnagfdliaaDoor.Ieee1.neg (p : Int) = put true p := by unfold Go.Proofs.YtlnfgcnagfdliaaDoor.Ieee1.neg put; unfold inf at h; rw [if_pos (by omega)]; rfl
theorem blen_B {n k : Nat} (h : n < B k) : blen n ≤ 64 * k := (blen_le _ _).2 (by rw [← B_two]; exact h)
theorem blen_limit {n : Nat} (h : n < B 4096) : blen n ≤ 262144 := by
  have := blen_B h
  omega
theorem clamp_range (e : Int) : -1099511627776 ≤ (if (if e < 1099511627776 then e else 1099511627776) < -1099511627776 then -1099511627776 else (if e < 1099511627776 then e else 1099511627776)) ∧ (if (if e < 1099511627776 then e else 1099511627776) < -1099511627776 then -1099511627776 else (if e < 1099511627776 then e else 1099511627776)) ≤ 1099511627776 := by
  repeat' split
  all_goals omega
theorem rnd_top (n : Nat) (e : Int) (more : Bool) : rnd n e more ≤ inf := by
  unfold rnd
  by_cases h0 : n = 0
  · rw [if_pos (.inl h0)]; exact Nat.zero_le _
  by_cases h1 : (blen n : Int) + e < -1074
  · rw [if_pos (.inr h1)]; exact Nat.zero_le _
  rw [if_neg (by omega)]
  by_cases h2 : (blen n : Int) + e > 1024
  · rw [if_pos h2]; exact Nat.le_refl _
  rw [if_neg h2]
  obtain ⟨k, k1, k2, k3, k4, k5⟩ := unit_cases h0 h1 h2
  have bp := (blen_pos (n := n)).2 h0
  rw [k1]
  by_cases h3 : unitOf n e ≤ e
  · rw [if_pos h3]
    obtain ⟨j, hj⟩ : ∃ j : Nat, e - unitOf n e = (j : Int) := ⟨(e - unitOf n e).toNat, by omega⟩
    rw [hj, Int.toNat_natCast]
    have hc : n * 2 ^ j < 9007199254740992 := by
      have := (blen_le (n * 2 ^ j) 53).1 (by rw [blen_mul_pow h0]; omega)
      exact this
    unfold inf; omega
  · rw [if_neg h3]
    obtain ⟨m, hm⟩ : ∃ m : Nat, unitOf n e - e = (m : Int) := ⟨(unitOf n e - e).toNat, by omega⟩
    rw [hm, Int.toNat_natCast]
    obtain ⟨q1, q2⟩ := quot_range (m := m) h0 (by omega) k4 k5
    have := place_top k3 q2 (decide (upB n m more))
    simp only [decide_eq_true_eq] at this
    exact this
theorem near_eq (e : Int) : ieee_near.f e = some (if (if e < 1099511627776 then e else 1099511627776) < -1099511627776 then -1099511627776 else (if e < 1099511627776 then e else 1099511627776)) := by
  unfold ieee_near.f ieee_near.b0 mx mn
  congr 1
  repeat' split
  all_goals omega
theorem Round_ev {l : List Int} {neg : Bool} {e : Int} {more : Bool} (hl : ok l) (hll : l.length ≤ 35184372088832) (h : val l < B 4096) : Ev (fun k _ _ => ieee_Round.f k neg l e more) (put neg (rnd (val l) e more), 0) := by
  have hb := blen_limit h
  simp only [ieee_Round.f, ieee_Round.b0, ln_eq]
  have hs := nat_Shl_ev (a := l) (n := 0) hl (by omega) (by omega)
  have hsa : shlAns (val l) 0 = (lim (val l), 0) := by
    unfold shlAns
    rw [if_pos h, if_neg (by omega)]
    by_cases h0 : val l = 0
    · rw [if_pos h0, h0, lim_zero]
    · rw [if_neg h0, if_neg (by omega), show (0 : Int).toNat = 0 from rfl, Nat.pow_zero, Nat.mul_one, ans, if_pos h]
  rw [hsa] at hs
  refine Ev.bind hs (Ev_neg (by simp) (Ev_bind_eq (near_eq e) ?_))
  have hm := magnitude_ev (more := more) h (clamp_range e) hb
  rw [rnd_far hb] at hm
  refine Ev.bind hm ?_
  have ht := rnd_top (val l) e more
  cases neg with
  | false => exact Ev_neg (by simp) (Ev_some rfl)
  | true => exact Ev_pos (by first | rfl | trivial) (Ev_bind_eq (Neg_eq ⟨by omega, by unfold inf at ht; omega⟩) (Ev_some (by rw [put_neg ht])))
theorem limb_ev {neg : Bool} {n : Nat} {e : Int} {more : Bool} (h : n < B 4096) : Ev (fun k _ _ => ieee_Round.f k neg (lim n) e more) (put neg (rnd n e more), 0) := by
  have := Round_ev (l := lim n) (neg := neg) (e := e) (more := more) (ok_lim n) (by have := (lim_len_le n 4096).2 h; omega) (by rw [val_lim]; exact h)
  rwa [val_lim] at this
theorem FromUint_lim {n : Nat} (h : n < 18446744073709551616) : nat_FromUint.f (n : Int) = some (lim n) := by
  unfold nat_FromUint.f nat_FromUint.b0
  by_cases h0 : n = 0
  · subst h0
    rw [if_pos (show ((0 : Nat) : Int) = 0 from rfl), lim_zero]
  · rw [if_neg (by omega), lim_one_len h h0]
theorem small_limit {n : Nat} (h : n < 18446744073709551616) : n < B 4096 := by
  have := B_mono (show 1 ≤ 4096 by omega)
  rw [B_one] at this
  omega
theorem FromUint_ev {n : Nat} (h : n < 18446744073709551616) : Ev (fun k _ _ => ieee_FromUint.f k (n : Int)) ((rnd n 0 false : Nat) : Int) := by
  simp only [ieee_FromUint.f, ieee_FromUint.b0, ln_eq]
  exact Ev_bind_eq (FromUint_lim h) (Ev.bind (limb_ev (small_limit h)) (Ev_some rfl))
theorem FromInt_ev {i : Int} (h0 : -9223372036854775808 ≤ i) (h1 : i < 9223372036854775808) : Ev (fun k _ _ => ieee_FromInt.f k i) (put (decide (i < 0)) (rnd i.natAbs 0 false)) := by
  simp only [ieee_FromInt.f, ieee_FromInt.b0, ln_eq]
  have ht := rnd_top i.natAbs 0 false
  by_cases h : i < 0
  · rw [decide_eq_true h]
    have e : IntKind.u64.wrap (-(IntKind.u64.wrap i)) = (i.natAbs : Int) := by rw [IntKind.wrap_u64, IntKind.wrap_u64]; omega
    rw [e]
    refine Ev_pos h (Ev.bind (FromUint_ev (by omega)) (Ev_bind_eq (Neg_eq ⟨by omega, by unfold inf at ht; omega⟩) (Ev_some (put_neg ht))))
  · rw [decide_eq_false h]
    have e : IntKind.u64.wrap i = (i.natAbs : Int) := by rw [IntKind.wrap_u64]; omega
    rw [e]
    exact Ev_neg h (Ev.bind (FromUint_ev (by omega)) (Ev_some rfl))

/-! ### whole parts -/
/-- The whole part of a double's size. -/
def trunc (d : Int) : Nat := uni (plc d) / 2 ^ 1074
theorem trunc_parts {d : Int} {Z : Nat} (hZ : Z = 1074) (h : fin d) : uni (plc d) / 2 ^ Z = (if expOf d ≥ 0 then (manOf d).toNat * 2 ^ (expOf d).toNat else (manOf d).toNat / 2 ^ (-expOf d).toNat) ∧ (uni (plc d) % 2 ^ Z = 0 ↔ expOf d ≥ 0 ∨ (manOf d).toNat % 2 ^ (-expOf d).toNat = 0) := by
  have er := exp_range h
  rw [uni_parts h]
  have hZ0 : 0 < 2 ^ Z := Nat.pow_pos (by omega)
  by_cases he : expOf d ≥ 0
  · rw [if_pos he]
    have e : (expOf d + 1074).toNat = (expOf d).toNat + Z := by omega
    rw [e, Nat.pow_add, ← Nat.mul_assoc]
    exact ⟨Nat.mul_div_cancel _ hZ0, ⟨fun _ => .inl he, fun _ => Nat.mul_mod_left _ _⟩⟩
  · rw [if_neg he]
    have e : Z = (expOf d + 1074).toNat + (-expOf d).toNat := by omega
    have hA : 0 < 2 ^ (expOf d + 1074).toNat := Nat.pow_pos (by omega)
    rw [e, Nat.pow_add, Nat.mul_comm (manOf d).toNat, Nat.mul_div_mul_left _ _ hA, Nat.mul_mod_mul_left]
    refine ⟨rfl, ⟨fun h => .inr ?_, fun h => ?_⟩⟩
    · exact (Nat.mul_eq_zero.1 h).resolve_left (by omega)
    · rcases h with h | h
      · exact absurd h he
      · rw [h, Nat.mul_zero]
theorem man_limit {d : Int} (h : fin d) : (manOf d).toNat < 18446744073709551616 := by have := man_range h; omega
theorem pow_lt_B {e k : Nat} (h : e < 64 * k) : 2 ^ e < B k := by rw [B_two]; exact Nat.pow_lt_pow_right (by omega) h
theorem lift_limit {m k : Nat} (hm : m < 9007199254740992) (hk : k ≤ 971) : m * 2 ^ k < B 4096 := by
  have h1 : m * 2 ^ k < 2 ^ 53 * 2 ^ k := Nat.mul_lt_mul_of_pos_right hm (Nat.pow_pos (by omega))
  rw [← Nat.pow_add] at h1
  exact Nat.lt_trans h1 (pow_lt_B (by omega))
theorem trunc_limit {d : Int} (h : fin d) : trunc d < B 4096 := by
  have er := exp_range h
  have mr := man_range h
  have := (trunc_parts (Z := 1074) rfl h).1
  unfold trunc
  rw [this]
  split
  · exact lift_limit (by omega) (by omega)
  · exact Nat.lt_of_le_of_lt (Nat.div_le_self _ _) (small_limit (man_limit h))
theorem Whole_ev {d : Int} (h : U d) : Ev (fun k _ _ => ieee_Whole.f k d) (if fin d then (sgn d, lim (trunc d), 0) else (false, [], 5)) := by
  simp only [ieee_Whole.f, ieee_Whole.b0, ln_eq]
  refine Ev_bind_eq (Decode_eq h) ?_
  by_cases hf : fin d
  · rw [if_pos hf]
    have er := exp_range hf
    have mr := man_range hf
    have tp := (trunc_parts (Z := 1074) rfl hf).1
    have hm : manOf d = ((manOf d).toNat : Int) := by omega
    refine Ev_neg (fun h3 => cls_fin.1 h3 hf) ?_
    dsimp only
    rw [hm]
    refine Ev_bind_eq (FromUint_lim (man_limit hf)) ?_
    unfold trunc
    rw [tp]
    by_cases he : expOf d ≥ 0
    · rw [if_pos he]
      have hsh := nat_Shl_ev (a := lim (manOf d).toNat) (n := expOf d) (ok_lim _) (by have := (lim_len_le _ 4096).2 (small_limit (man_limit hf)); omega) (by omega)
      have hl := lift_limit (m := (manOf d).toNat) (k := (expOf d).toNat) (by omega) (by omega)
      have hsa : shlAns (manOf d).toNat (expOf d) = (lim ((manOf d).toNat * 2 ^ (expOf d).toNat), 0) := by
        unfold shlAns
        rw [if_pos (small_limit (man_limit hf)), if_neg (by omega)]
        by_cases h0 : (manOf d).toNat = 0
        · rw [if_pos h0, h0, Nat.zero_mul, lim_zero]
        · rw [if_neg h0, if_neg (by omega), ans, if_pos hl]
      rw [val_lim, hsa] at hsh
      exact Ev_pos he (Ev.bind hsh (Ev_some rfl))
    · rw [if_neg he]
      have hw : wrap64 (-expOf d) = -expOf d := by unfold wrap64; omega
      have hsh := nat_Shr_ev (a := lim (manOf d).toNat) (n := -expOf d) (ok_lim _) (by have := (lim_len_le _ 4096).2 (small_limit (man_limit hf)); omega) (by omega)
      rw [val_lim, shrAns, if_pos (small_limit (man_limit hf)), if_neg (by omega)] at hsh
      rw [hw]
      exact Ev_neg he (Ev.bind hsh (Ev_some rfl))
  · rw [if_neg hf]
    exact Ev_pos (cls_fin.2 hf) (Ev_some rfl)
theorem Integral_eq {d : Int} (h : U d) : ieee_Integral.f d = some (decide (fin d ∧ uni (plc d) % 2 ^ 1074 = 0)) := by
  unfold ieee_Integral.f ieee_Integral.b0
  rw [Decode_eq h, Option.bind_some]
  by_cases hf : fin d
  · have er := exp_range hf
    have mr := man_range hf
    have tp := (trunc_parts (Z := 1074) rfl hf).2
    rw [if_neg (fun h3 => cls_fin.1 h3 hf), decide_eq_decide.2 (show (fin d ∧ uni (plc d) % 2 ^ 1074 = 0) ↔ (expOf d ≥ 0 ∨ (manOf d).toNat % 2 ^ (-expOf d).toNat = 0) from ⟨fun h => tp.1 h.2, fun h => ⟨hf, tp.2 h⟩⟩)]
    by_cases h0 : manOf d = 0
    · rw [if_pos h0, decide_eq_true (.inr (by rw [h0]; exact Nat.zero_mod _))]
    · rw [if_neg h0]
      by_cases he : expOf d ≥ 0
      · rw [if_pos he, decide_eq_true (.inl he)]
      · rw [if_neg he]
        have hw : wrap64 (-expOf d) = -expOf d := by unfold wrap64; omega
        rw [hw, ctz64 ⟨mr.1, by omega⟩, Option.bind_some, (tz_limb (x := (manOf d).toNat) (by omega) (by omega)).1]
        congr 1
        have td := tz_dvd (n := (manOf d).toNat) (by omega) (-expOf d).toNat
        refine decide_eq_decide.2 ⟨fun h => .inr (td.2 (by omega)), fun h => ?_⟩
        rcases h with h | h
        · exact absurd h he
        · have := td.1 h; omega
  · rw [if_pos (cls_fin.2 hf), decide_eq_false (fun h => hf h.1)]
def toInt (neg : Bool) (n : Nat) : Int × Int := if (n < 9223372036854775808 ∧ neg = false) then ((n : Int), 0) else if n ≤ 9223372036854775808 ∧ neg = true then (-(n : Int), 0) else (0, 41)
theorem ToInt_ev {d : Int} (h : U d) : Ev (fun k _ _ => ieee_ToInt.f k d) (if fin d then toInt (sgn d) (trunc d) else (0, 5)) := by
  simp only [ieee_ToInt.f, ieee_ToInt.b0, ln_eq]
  refine Ev.bind (Whole_ev h) ?_
  by_cases hf : fin d
  · rw [if_pos hf, if_pos hf]
    have hu := nat_ToUint_ev (trunc_limit hf)
    refine Ev_neg (by simp) (Ev.bind hu ?_)
    dsimp only
    unfold toInt
    generalize trunc d = n at *
    generalize sgn d = s at *
    have j0 : ∀ b u : Int, ∀ f g : Bool, Ev (fun k _ _ => ieee_ToInt.l249 k s u f g) (if g = true then (wrap64 u, 0) else if f = true then (if u ≤ 9223372036854775808 then (if s = true then (wrap64 (-(wrap64 u)), 0) else (0, 41)) else (0, 41)) else (0, 41)) := by
      intro _ u f g
      simp only [ieee_ToInt.l249, ieee_ToInt.b249]
      by_cases hg : g = true
      · exact Ev_pos hg (Ev_some (by rw [if_pos hg]))
      · refine Ev_neg hg ?_
        by_cases hf : f = true
        · refine Ev_pos hf ?_
          by_cases hu : u ≤ 9223372036854775808
          · refine Ev_pos hu ?_
            by_cases hs : s = true
            · exact Ev_pos hs (Ev_some (by rw [if_neg hg, if_pos hf, if_pos hu, if_pos hs]))
            · exact Ev_neg hs (Ev_some (by rw [if_neg hg, if_pos hf, if_pos hu, if_neg hs]))
          · exact Ev_neg hu (Ev_some (by rw [if_neg hg, if_pos hf, if_neg hu]))
        · exact Ev_neg hf (Ev_some (by rw [if_neg hg, if_neg hf]))
    by_cases h64 : n < 18446744073709551616
    · rw [if_pos h64]
      refine Ev_pos (by first | rfl | trivial) ?_
      by_cases h63 : n < 9223372036854775808
      · refine Ev_pos (by dsimp only; omega) ?_
        have e1 : wrap64 (n : Int) = (n : Int) := by unfold wrap64; omega
        have e2 : wrap64 (-(n : Int)) = -(n : Int) := by unfold wrap64; omega
        have := j0 0 (n : Int) true (!s)
        rw [e1, e2] at this
        cases s with
        | false =>
          rw [if_pos ⟨h63, rfl⟩]
          simpa using this
        | true =>
          rw [if_neg (by simp), if_pos ⟨by omega, rfl⟩]
          rw [if_neg (by simp), if_pos rfl, if_pos (by omega), if_pos rfl] at this
          exact this
      · refine Ev_neg (by dsimp only; omega) ?_
        have := j0 0 (n : Int) true false
        rw [if_neg (by simp), if_pos rfl] at this
        rw [if_neg (fun h => h63 h.1)]
        by_cases hle : n ≤ 9223372036854775808
        · have e : n = 9223372036854775808 := by omega
          subst e
          rw [if_pos (by omega)] at this
          cases s with
          | false => rw [if_neg (by simp)]; simpa using this
          | true =>
            rw [if_pos ⟨by omega, rfl⟩]
            rw [if_pos rfl, show wrap64 (-(wrap64 ((9223372036854775808 : Nat) : Int))) = -((9223372036854775808 : Nat) : Int) by unfold wrap64; omega] at this
            exact this
        · rw [if_neg (by omega)] at this
          rw [if_neg (fun h => hle h.1)]
          exact this
    · rw [if_neg h64]
      refine Ev_neg (by simp) ?_
      have := j0 0 0 false false
      rw [if_neg (by simp), if_neg (by simp)] at this
      rw [if_neg (by omega), if_neg (by omega)]
      exact this
  · rw [if_neg hf, if_neg hf]
    exact Ev_pos (by simp) (Ev_some rfl)
end Go.Proofs.YtlnfgcnagfdliaaDoor.Ieee2
