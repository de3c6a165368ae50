/- What the printed rounding of ieee computes (magnitude, Round, FromUint). Conditions: naturals within the limit, exponents as near cuts them. -/
import Derived.Test.YtcdnoklokoplaaaDoorEBits
import Derived.Test.YtcdnoklokoplaaaDoorEIeee1
import Derived.Test.YtcdnoklokoplaaaDoorRnd
import Derived.Test.YtcdnoklokoplaaaDoorPEx1
import Derived.Test.YtcdnoklokoplaaaDoorPEx2
import Derived.Test.YtcdnoklokoplaaaDoorPEx5
import Derived.Test.YtcdnoklokoplaaaDoorPEx6
import Derived.Test.YtcdnoklokoplaaaDoorPEx7
namespace Go.Proofs.YtcdnoklokoplaaaDoor.EMag
open Go.RowKit Go.Proofs.YtcdnoklokoplaaaDoorW.PrintWords Go.Proofs.YtcdnoklokoplaaaDoorW.PrintLast Go.Proofs.YtcdnoklokoplaaaDoorW.PrintMore Go.Proofs.YtcdnoklokoplaaaDoor.Lib Go.Proofs.YtcdnoklokoplaaaDoor.LibB Go.Proofs.YtcdnoklokoplaaaDoor.PE Go.Proofs.YtcdnoklokoplaaaDoor.ENat1 Go.Proofs.YtcdnoklokoplaaaDoor.EBits Go.Proofs.YtcdnoklokoplaaaDoor.EIeee1 Go.Proofs.YtcdnoklokoplaaaDoor.Rnd
set_option linter.unusedVariables false

theorem nat_ToUint_ev {n : Nat} (h : n < B 4096) : Ev (fun k => nat_ToUint.f k (lim n)) (if n < 18446744073709551616 then ((n : Int), true) else (0, false)) := by
  have hl := (lim_len_le n 4096).2 h
  have h1 := lim_len_le n 1
  rw [B_one] at h1
  have hz := @lim_len_zero n
  simp only [nat_ToUint.f]
  have hs := nat_size_ev (ok_lim n) (by omega)
  rw [val_lim] at hs
  refine Ev.bind hs ?_
  by_cases h0 : n = 0
  · subst h0
    exact Ev_pos (by rw [lim_zero]; rfl) (Ev_some rfl)
  · refine Ev_neg (by omega) ?_
    by_cases h2 : n < 18446744073709551616
    · rw [if_pos h2]
      refine Ev_pos (by omega) (Ev_pos (by omega) (Ev_some ?_))
      rw [lim_one_len h2 h0]
      rfl
    · rw [if_neg h2]
      exact Ev_neg (by omega) (Ev_some rfl)
theorem mx_eq (a : Int) : mx a (-1074) = if a < -1074 then -1074 else a := rfl
theorem wrap_id {n : Int} (h0 : -9223372036854775808 ≤ n) (h1 : n < 9223372036854775808) : wrap64 n = n := by unfold wrap64; omega
theorem mag_small {n : Nat} {e : Int} (h : unitOf n e ≤ e) : n < 2 ^ 53 ∧ (e - unitOf n e).toNat ≤ 53 - blen n ∧ blen n ≤ 53 := by
  unfold unitOf at h ⊢
  have := blen_le n 53
  split at h <;> rename_i h2
  · rw [if_pos h2]; omega
  · rw [if_neg h2]; omega
theorem unit_mx {n : Nat} {e : Int} (hb : blen n ≤ 262144) (he : -1099511627776 ≤ e ∧ e ≤ 1099511627776) : mx (wrap64 ((blen n : Int) + e - 53)) (-1074) = unitOf n e := by
  rw [wrap_id (by omega) (by omega), mx_eq]
  rfl
theorem unit_range {n : Nat} {e : Int} (h : (blen n : Int) + e ≤ 1024) : -1074 ≤ unitOf n e ∧ unitOf n e ≤ 971 ∧ (blen n : Int) + e - 53 ≤ unitOf n e := by
  unfold unitOf
  split <;> omega
theorem mag_quot {n m : Nat} (h : blen n ≤ m + 53) : n / 2 ^ m < 9007199254740992 := by
  have h1 := (blen_le n (m + 53)).1 h
  rw [Nat.pow_add] at h1
  exact Nat.div_lt_of_lt_mul h1
theorem mag_word {u c : Int} (hu : -1074 ≤ u ∧ u ≤ 971) (hc : 0 ≤ c ∧ c ≤ 9007199254740992) :
    IntKind.u64.wrap (IntKind.u64.wrap (IntKind.u64.wrap (wrap64 (u - (-1074))) * 4503599627370496) + c) = (u + 1074) * 4503599627370496 + c := by
  have e1 : wrap64 (u - (-1074)) = u + 1074 := by unfold wrap64; omega
  rw [e1]
  simp only [IntKind.wrap_u64]
  omega
theorem magnitude_ev {n : Nat} {e : Int} {more : Bool} (h : n < B 4096) (he : -1099511627776 ≤ e ∧ e ≤ 1099511627776) (hb : blen n ≤ 262144) : Ev (fun k => ieee_magnitude.f k (lim n) e more) ((rnd n e more : Nat) : Int) := by
  have hl := (lim_len_le n 4096).2 h
  have hz := @lim_len_zero n
  have hbl := nat_BitLen_ev (l := lim n) (ok_lim n) (by omega)
  rw [val_lim] at hbl
  have e1 : wrap64 ((blen n : Int) + e) = (blen n : Int) + e := wrap_id (by omega) (by omega)
  simp only [ieee_magnitude.f]
  refine Ev.bind hbl ?_
  rw [e1]
  have j0t : Ev (fun k => ieee_magnitude.j0 k (lim n) e more ((blen n : Int) + e) true) 0 := by
    refine Ev_succ ?_
    simp only [ieee_magnitude.j0]
    exact Ev_pos (by simp) (Ev_some rfl)
  unfold rnd
  by_cases h0 : n = 0
  · rw [if_pos (.inl h0)]
    exact Ev_pos (by omega) j0t
  · refine Ev_neg (by omega) ?_
    by_cases h1 : (blen n : Int) + e < -1074
    · rw [if_pos (.inr h1), decide_eq_true h1]
      exact j0t
    · rw [if_neg (by omega), decide_eq_false h1]
      refine Ev_succ ?_
      simp only [ieee_magnitude.j0]
      refine Ev_neg (by simp) ?_
      by_cases h2 : (blen n : Int) + e > 1024
      · rw [if_pos h2]
        exact Ev_pos h2 (Ev_some rfl)
      · rw [if_neg h2]
        refine Ev_neg h2 ?_
        obtain ⟨u0, u1, u2⟩ := unit_range (n := n) (e := e) (by omega)
        have hsm := @mag_small n e
        rw [unit_mx hb he]
        generalize unitOf n e = u at *
        have w1 : wrap64 (u - e) = u - e := wrap_id (by omega) (by omega)
        simp only [w1]
        by_cases h3 : u ≤ e
        · rw [if_pos h3]
          obtain ⟨s1, s2, s3⟩ := hsm h3
          have w2 : wrap64 (-(u - e)) = (((e - u).toNat : Nat) : Int) := by rw [wrap_id (by omega) (by omega)]; omega
          have w3 : IntKind.u64.wrap (((e - u).toNat : Nat) : Int) = (((e - u).toNat : Nat) : Int) := wrapU64 (by omega) (by omega)
          have hr : rd (lim n) 0 = (n : Int) := by rw [lim_one_len (by omega) h0]; rfl
          simp only [w2, w3, hr]
          refine Ev_pos (by omega) (Ev_pos (by omega) (Ev_pos (by omega) (Ev_some ?_)))
          have hs := blen_le (n * 2 ^ (e - u).toNat) 53
          rw [blen_mul_pow h0] at hs
          have hs2 := hs.1 (by omega)
          have hs3 : n * 2 ^ (e - u).toNat < 9007199254740992 := hs2
          rw [shl_u64 (by omega) (by omega), ← Int.natCast_mul]
          generalize n * 2 ^ (e - u).toNat = c at *
          rw [show (c : Int) % 18446744073709551616 = (c : Int) by omega, mag_word ⟨u0, u1⟩ (by omega)]
          omega
        · rw [if_neg h3]
          refine Ev_neg (by omega) ?_
          obtain ⟨m, hm⟩ : ∃ m : Nat, u - e = (m : Int) := ⟨(u - e).toNat, by omega⟩
          rw [hm]
          have hm0 : 0 < m := by omega
          rw [Int.toNat_natCast]
          have hq := mag_quot (n := n) (m := m) (by omega)
          have hqB : n / 2 ^ m < B 4096 := Nat.lt_of_le_of_lt (Nat.div_le_self _ _) h
          have hsh := nat_Shr_ev (a := lim n) (n := (m : Int)) (ok_lim n) (by omega) (by omega)
          rw [val_lim, shrAns, if_pos h, if_neg (by omega), Int.toNat_natCast] at hsh
          have htu := nat_ToUint_ev hqB
          rw [if_pos (show n / 2 ^ m < 18446744073709551616 by omega)] at htu
          have w4 : wrap64 ((m : Int) - 1) = ((m - 1 : Nat) : Int) := by rw [wrap_id (by omega) (by omega)]; omega
          have hbit := nat_Bit_eq (ok_lim n) (by omega) ((m - 1 : Nat) : Int) (by omega)
          rw [val_lim, if_neg (by omega), Int.toNat_natCast] at hbit
          have htr := nat_Trail_ev (l := lim n) (ok_lim n) (by omega)
          rw [val_lim] at htr
          rw [w4]
          refine Ev.bind hsh (Ev.bind htu (Ev_bind_eq hbit ?_))
          generalize hQ : n / 2 ^ m = q at *
          have a1 : Go.bits .and .u64 (q : Int) 1 = ((q % 2 : Nat) : Int) := by
            rw [show (1 : Int) = ((1 : Nat) : Int) from rfl, u64_and_nat _ _ (by omega) (by omega), Nat.and_one_is_mod]
          have inc : IntKind.u64.wrap ((q : Int) + 1) = ((q + 1 : Nat) : Int) := by rw [wrapU64 (by omega) (by omega)]; omega
          have good : ∀ c : Nat, c ≤ 9007199254740992 → IntKind.u64.wrap (IntKind.u64.wrap (IntKind.u64.wrap (wrap64 (u - (-1074))) * 4503599627370496) + (c : Int)) = (((u + 1074).toNat * 4503599627370496 + c : Nat) : Int) := by
            intro c hc
            rw [mag_word ⟨u0, u1⟩ (by omega)]
            omega
          have g1 := good (q + 1) (by omega)
          have g0 := good q (by omega)
          clear good
          generalize (u + 1074).toNat * 4503599627370496 = A at *
          simp only [a1, inc, g1, g0]
          have hup : upB n m more ↔ (n / 2 ^ (m - 1) % 2 = 1 ∧ (more = true ∨ q % 2 = 1 ∨ tz n + 1 < m)) := by unfold upB; rw [hQ]
          have tU : upB n m more → ((A + q + (if upB n m more then 1 else 0) : Nat) : Int) = ((A + (q + 1) : Nat) : Int) := fun h4 => by rw [if_pos h4, Nat.add_assoc]
          have tD : ¬ upB n m more → ((A + q + (if upB n m more then 1 else 0) : Nat) : Int) = ((A + q : Nat) : Int) := fun h4 => by rw [if_neg h4, Nat.add_zero]
          rcases Nat.mod_two_eq_zero_or_one (n / 2 ^ (m - 1)) with hx | hx
          · rw [tD (fun h4 => by have := (hup.1 h4).1; omega), hx]
            exact Ev_neg (by decide) (Ev_some rfl)
          · rw [hx]
            refine Ev_pos rfl ?_
            cases more with
            | true =>
              rw [tU (hup.2 ⟨hx, .inl rfl⟩)]
              exact Ev_pos rfl (Ev_some rfl)
            | false =>
              refine Ev_neg (by decide) ?_
              rcases Nat.mod_two_eq_zero_or_one q with hy | hy
              · rw [hy]
                refine Ev_neg (by decide) (Ev.bind htr ?_)
                by_cases ht : tz n + 1 < m
                · rw [tU (hup.2 ⟨hx, .inr (.inr ht)⟩)]
                  exact Ev_pos (by omega) (Ev_some rfl)
                · have hno : ¬ upB n m false := fun h4 => by
                    rcases (hup.1 h4).2 with h5 | h5 | h5
                    · cases h5
                    · omega
                    · exact ht h5
                  rw [tD hno]
                  exact Ev_neg (by omega) (Ev_some rfl)
              · rw [hy, tU (hup.2 ⟨hx, .inr (.inl hy)⟩)]
                exact Ev_pos rfl (Ev_some rfl)
end Go.Proofs.YtcdnoklokoplaaaDoor.EMag

/- What the printed calls of ieee on whole numbers and roundings compute. Conditions: patterns below 2^64. -/
namespace Go.Proofs.YtcdnoklokoplaaaDoor.EIeee2
open Go.RowKit Go.Proofs.YtcdnoklokoplaaaDoorW.PrintWords Go.Proofs.YtcdnoklokoplaaaDoorW.PrintLast Go.Proofs.YtcdnoklokoplaaaDoorW.PrintMore Go.Proofs.YtcdnoklokoplaaaDoor.Lib Go.Proofs.YtcdnoklokoplaaaDoor.LibB Go.Proofs.YtcdnoklokoplaaaDoor.PE Go.Proofs.YtcdnoklokoplaaaDoor.ENat1 Go.Proofs.YtcdnoklokoplaaaDoor.EBits Go.Proofs.YtcdnoklokoplaaaDoor.EIeee1 Go.Proofs.YtcdnoklokoplaaaDoor.EMag Go.Proofs.YtcdnoklokoplaaaDoor.Rnd
set_option linter.unusedVariables false

/-! ### a double taken apart -/
def sgn (d : Int) : Bool := decide (d ≥ 9223372036854775808)
/-- The place of a double's size. -/
def plc (d : Int) : Nat := (d % 9223372036854775808).toNat
def manOf (d : Int) : Int := if cls d = 1 then d % 9223372036854775808 else if cls d = 2 then 4503599627370496 + d % 4503599627370496 else if cls d = 4 then d % 4503599627370496 else 0
def expOf (d : Int) : Int := if cls d = 1 then -1074 else if cls d = 2 then d % 9223372036854775808 / 4503599627370496 - 1075 else 0
theorem Decode_eq {d : Int} (h : U d) : ieee_Decode.f d = some (sgn d, cls d, manOf d, expOf d) := by
  have h0 := h.1
  have h1 := h.2
  have hs : (Go.bits .and .u64 d 9223372036854775808 != 0) = sgn d := by
    rw [bit_sgn h]
    unfold sgn
    by_cases h2 : d < 9223372036854775808
    · rw [if_pos h2, decide_eq_false (by omega)]; rfl
    · rw [if_neg h2, decide_eq_true (by omega)]; rfl
  have he : Go.bits .and .u64 (d / 4503599627370496) 2047 = d / 4503599627370496 % 2048 := bit_exp ⟨by omega, by omega⟩
  unfold ieee_Decode.f
  rw [Class_eq h, Option.bind_some, hs, bit_low h, he, bit_hidden (by omega) (by omega)]
  unfold manOf expOf
  have c1 : cls d = 1 ↔ d % 9223372036854775808 ≠ 0 ∧ d % 9223372036854775808 < 4503599627370496 := by unfold cls; repeat' split
                                                                                                       all_goals omega
  by_cases k1 : cls d = 1
  · rw [if_pos k1, if_pos k1, if_pos k1]
    have := c1.1 k1
    rw [show d % 4503599627370496 = d % 9223372036854775808 by omega]
  · rw [if_neg k1, if_neg k1, if_neg k1]
    by_cases k2 : cls d = 2
    · rw [if_pos k2, if_pos k2, if_pos k2]
      rw [show wrap64 (wrap64 (d / 4503599627370496 % 2048) - 1075) = d % 9223372036854775808 / 4503599627370496 - 1075 by unfold wrap64; omega]
    · rw [if_neg k2, if_neg k2, if_neg k2]
      by_cases k4 : cls d = 4
      · rw [if_pos k4, if_pos k4]
      · rw [if_neg k4, if_neg k4]
/-- Finite. -/
def fin (d : Int) : Prop := d % 9223372036854775808 < 9218868437227405312
instance (d : Int) : Decidable (fin d) := inferInstanceAs (Decidable (_ < _))
theorem cls_fin {d : Int} : cls d ≥ 3 ↔ ¬ fin d := by unfold cls fin; repeat' split
                                                      all_goals omega
theorem cls_cases (d : Int) (h : fin d) : (cls d = 0 ∧ d % 9223372036854775808 = 0) ∨ (cls d = 1 ∧ d % 9223372036854775808 ≠ 0 ∧ d % 9223372036854775808 < 4503599627370496) ∨ (cls d = 2 ∧ d % 9223372036854775808 ≥ 4503599627370496) := by
  unfold cls fin at *; repeat' split
  all_goals omega
theorem exp_range {d : Int} (h : fin d) : -1074 ≤ expOf d ∧ expOf d ≤ 971 := by
  unfold expOf
  unfold fin at h
  have h0 : 0 ≤ d % 9223372036854775808 := by omega
  by_cases k1 : cls d = 1
  · rw [if_pos k1]; omega
  · rw [if_neg k1]
    by_cases k2 : cls d = 2
    · rw [if_pos k2]
      have : d % 9223372036854775808 ≥ 4503599627370496 := by
        unfold cls at k2
        repeat' split at k2
        all_goals omega
      omega
    · rw [if_neg k2]; omega
theorem man_range {d : Int} (h : fin d) : 0 ≤ manOf d ∧ manOf d < 9007199254740992 := by
  rcases cls_cases d h with ⟨h1, h2⟩ | ⟨h1, h2, h3⟩ | ⟨h1, h2⟩ <;> unfold manOf <;> rw [h1] <;> simp <;> omega
/-- A finite double's value, counted in 2^-1074, by its parts. -/
theorem uni_parts {d : Int} (h : fin d) : uni (plc d) = (manOf d).toNat * 2 ^ (expOf d + 1074).toNat := by
  unfold plc
  rcases cls_cases d h with ⟨h1, h2⟩ | ⟨h1, h2, h3⟩ | ⟨h1, h2⟩
  · unfold manOf; rw [h1, h2]; simp [uni_zero]
  · unfold manOf expOf
    rw [if_pos h1, if_pos h1, uni_small (by omega)]
    simp
  · unfold manOf expOf
    have n1 : ¬ cls d = 1 := by omega
    rw [if_neg n1, if_neg n1, if_pos h1, if_pos h1]
    unfold fin at h
    have e : (d % 9223372036854775808).toNat = (d % 9223372036854775808 / 4503599627370496 - 1075 + 1074).toNat * 4503599627370496 + (4503599627370496 + d % 4503599627370496).toNat := by omega
    rw [e]
    exact uni_at (.inr (by omega)) (by omega)
theorem plc_lt (d : Int) : plc d < 9223372036854775808 := by unfold plc; omega
theorem plc_fin {d : Int} : fin d ↔ plc d < inf := by unfold plc fin inf; omega

/-! ### the rounding -/
def put (neg : Bool) (p : Nat) : Int := if neg then (p : Int) + 9223372036854775808 else (p : Int)
theorem put_neg {p : Nat} (h : p ≤ inf) : EIeee1.neg (p : Int) = put true p := by unfold EIeee1.neg put; unfold inf at h; rw [if_pos (by omega)]; rfl
theorem blen_B {n k : Nat} (h : n < B k) : blen n ≤ 64 * k := (blen_le _ _).2 (by rw [← B_two]; exact h)
theorem blen_limit {n : Nat} (h : n < B 4096) : blen n ≤ 262144 := by
  have := blen_B h
  omega
theorem clamp_range (e : Int) : -1099511627776 ≤ (if (if e < 1099511627776 then e else 1099511627776) < -1099511627776 then -1099511627776 else (if e < 1099511627776 then e else 1099511627776)) ∧ (if (if e < 1099511627776 then e else 1099511627776) < -1099511627776 then -1099511627776 else (if e < 1099511627776 then e else 1099511627776)) ≤ 1099511627776 := by
  repeat' split
  all_goals omega
theorem rnd_top (n : Nat) (e : Int) (more : Bool) : rnd n e more ≤ inf := by
  unfold rnd
  by_cases h0 : n = 0
  · rw [if_pos (.inl h0)]; exact Nat.zero_le _
  by_cases h1 : (blen n : Int) + e < -1074
  · rw [if_pos (.inr h1)]; exact Nat.zero_le _
  rw [if_neg (by omega)]
  by_cases h2 : (blen n : Int) + e > 1024
  · rw [if_pos h2]; exact Nat.le_refl _
  rw [if_neg h2]
  obtain ⟨k, k1, k2, k3, k4, k5⟩ := unit_cases h0 h1 h2
  have bp := (blen_pos (n := n)).2 h0
  rw [k1]
  by_cases h3 : unitOf n e ≤ e
  · rw [if_pos h3]
    obtain ⟨j, hj⟩ : ∃ j : Nat, e - unitOf n e = (j : Int) := ⟨(e - unitOf n e).toNat, by omega⟩
    rw [hj, Int.toNat_natCast]
    have hc : n * 2 ^ j < 9007199254740992 := by
      have := (blen_le (n * 2 ^ j) 53).1 (by rw [blen_mul_pow h0]; omega)
      exact this
    unfold inf; omega
  · rw [if_neg h3]
    obtain ⟨m, hm⟩ : ∃ m : Nat, unitOf n e - e = (m : Int) := ⟨(unitOf n e - e).toNat, by omega⟩
    rw [hm, Int.toNat_natCast]
    obtain ⟨q1, q2⟩ := quot_range (m := m) h0 (by omega) k4 k5
    have := place_top k3 q2 (decide (upB n m more))
    simp only [decide_eq_true_eq] at this
    exact this
theorem near_eq (e : Int) : ieee_near.f e = some (if (if e < 1099511627776 then e else 1099511627776) < -1099511627776 then -1099511627776 else (if e < 1099511627776 then e else 1099511627776)) := by
  unfold ieee_near.f mx mn
  congr 1
  repeat' split
  all_goals omega
theorem Round_ev {l : List Int} {neg : Bool} {e : Int} {more : Bool} (hl : ok l) (hll : l.length ≤ 35184372088832) (h : val l < B 4096) : Ev (fun k => ieee_Round.f k neg l e more) (put neg (rnd (val l) e more), 0) := by
  have hb := blen_limit h
  simp only [ieee_Round.f]
  have hs := nat_Shl_ev (a := l) (n := 0) hl (by omega) (by omega)
  have hsa : shlAns (val l) 0 = (lim (val l), 0) := by
    unfold shlAns
    rw [if_pos h, if_neg (by omega)]
    by_cases h0 : val l = 0
    · rw [if_pos h0, h0, lim_zero]
    · rw [if_neg h0, if_neg (by omega), show (0 : Int).toNat = 0 from rfl, Nat.pow_zero, Nat.mul_one, ans, if_pos h]
  rw [hsa] at hs
  refine Ev.bind hs (Ev_pos (by first | rfl | trivial) (Ev_bind_eq (near_eq e) ?_))
  have hm := magnitude_ev (more := more) h (clamp_range e) hb
  rw [rnd_far hb] at hm
  refine Ev.bind hm ?_
  have ht := rnd_top (val l) e more
  cases neg with
  | false => exact Ev_neg (by simp) (Ev_some rfl)
  | true => exact Ev_pos (by first | rfl | trivial) (Ev_bind_eq (Neg_eq ⟨by omega, by unfold inf at ht; omega⟩) (Ev_some (by rw [put_neg ht])))
theorem limb_ev {neg : Bool} {n : Nat} {e : Int} {more : Bool} (h : n < B 4096) : Ev (fun k => ieee_Round.f k neg (lim n) e more) (put neg (rnd n e more), 0) := by
  have := Round_ev (l := lim n) (neg := neg) (e := e) (more := more) (ok_lim n) (by have := (lim_len_le n 4096).2 h; omega) (by rw [val_lim]; exact h)
  rwa [val_lim] at this
theorem FromUint_lim {n : Nat} (h : n < 18446744073709551616) : nat_FromUint.f (n : Int) = some (lim n) := by
  unfold nat_FromUint.f
  by_cases h0 : n = 0
  · subst h0
    rw [if_pos (show ((0 : Nat) : Int) = 0 from rfl), lim_zero]
  · rw [if_neg (by omega), lim_one_len h h0]
theorem small_limit {n : Nat} (h : n < 18446744073709551616) : n < B 4096 := by
  have := B_mono (show 1 ≤ 4096 by omega)
  rw [B_one] at this
  omega

/-! ### whole parts -/
/-- The whole part of a double's size. -/
def trunc (d : Int) : Nat := uni (plc d) / 2 ^ 1074
theorem trunc_parts {d : Int} {Z : Nat} (hZ : Z = 1074) (h : fin d) : uni (plc d) / 2 ^ Z = (if expOf d ≥ 0 then (manOf d).toNat * 2 ^ (expOf d).toNat else (manOf d).toNat / 2 ^ (-expOf d).toNat) ∧ (uni (plc d) % 2 ^ Z = 0 ↔ expOf d ≥ 0 ∨ (manOf d).toNat % 2 ^ (-expOf d).toNat = 0) := by
  have er := exp_range h
  rw [uni_parts h]
  have hZ0 : 0 < 2 ^ Z := Nat.pow_pos (by omega)
  by_cases he : expOf d ≥ 0
  · rw [if_pos he]
    have e : (expOf d + 1074).toNat = (expOf d).toNat + Z := by omega
    rw [e, Nat.pow_add, ← Nat.mul_assoc]
    exact ⟨Nat.mul_div_cancel _ hZ0, ⟨fun _ => .inl he, fun _ => Nat.mul_mod_left _ _⟩⟩
  · rw [if_neg he]
    have e : Z = (expOf d + 1074).toNat + (-expOf d).toNat := by omega
    have hA : 0 < 2 ^ (expOf d + 1074).toNat := Nat.pow_pos (by omega)
    rw [e, Nat.pow_add, Nat.mul_comm (manOf d).toNat, Nat.mul_div_mul_left _ _ hA, Nat.mul_mod_mul_left]
    refine ⟨rfl, ⟨fun h => .inr ?_, fun h => ?_⟩⟩
    · exact (Nat.mul_eq_zero.1 h).resolve_left (by omega)
    · rcases h with h | h
      · exact absurd h he
      · rw [h, Nat.mul_zero]
theorem man_limit {d : Int} (h : fin d) : (manOf d).toNat < 18446744073709551616 := by have := man_range h; omega
theorem pow_lt_B {e k : Nat} (h : e < 64 * k) : 2 ^ e < B k := by rw [B_two]; exact Nat.pow_lt_pow_right (by omega) h
theorem lift_limit {m k : Nat} (hm : m < 9007199254740992) (hk : k ≤ 971) : m * 2 ^ k < B 4096 := by
  have h1 : m * 2 ^ k < 2 ^ 53 * 2 ^ k := Nat.mul_lt_mul_of_pos_right hm (Nat.pow_pos (by omega))
  rw [← Nat.pow_add] at h1
  exact Nat.lt_trans h1 (pow_lt_B (by omega))
theorem trunc_limit {d : Int} (h : fin d) : trunc d < B 4096 := by
  have er := exp_range h
  have mr := man_range h
  have := (trunc_parts (Z := 1074) rfl h).1
  unfold trunc
  rw [this]
  split
  · exact lift_limit (by omega) (by omega)
  · exact Nat.lt_of_le_of_lt (Nat.div_le_self _ _) (small_limit (man_limit h))
end Go.Proofs.YtcdnoklokoplaaaDoor.EIeee2
