/- What the printed rounding of ieee computes (magnitude, Round, FromUint). Conditions: naturals within the limit, exponents as near cuts them. -/
import Derived.Test.YtcacmhcekoeblaaDoorQBits
import Derived.Test.YtcacmhcekoeblaaDoorQIeee1
import Derived.Test.YtcacmhcekoeblaaDoorQRnd
namespace Go.Proofs.YtcacmhcekoeblaaDoor.Mag
open Go.RowKit Go.Proofs.YtcacmhcekoeblaaDoor.Lib Go.Proofs.YtcacmhcekoeblaaDoor.LibB Go.Proofs.YtcacmhcekoeblaaDoor.F Go.Proofs.YtcacmhcekoeblaaDoor.Nat1 Go.Proofs.YtcacmhcekoeblaaDoor.Bits Go.Proofs.YtcacmhcekoeblaaDoor.Ieee1 Go.Proofs.YtcacmhcekoeblaaDoor.Rnd
open Go.Proofs.YtcacmhcekoeblaaDoorA (rd ln ln_eq mx mn shl shr wr wr_eq)
set_option linter.unusedVariables false
set_option linter.unusedSimpArgs false

theorem nat_ToUint_ev {n : Nat} (h : n < B 4096) : Ev (fun k _ _ => nat_ToUint.f k (lim n)) (if n < 18446744073709551616 then ((n : Int), true) else (0, false)) := by
  have hl := (lim_len_le n 4096).2 h
  have h1 := lim_len_le n 1
  rw [B_one] at h1
  have hz := @lim_len_zero n
  simp only [nat_ToUint.f, nat_ToUint.b0, ln_eq]
  have hs := nat_size_ev (ok_lim n) (by omega)
  rw [val_lim] at hs
  refine Ev.bind hs ?_
  by_cases h0 : n = 0
  · subst h0
    exact Ev_pos (by rw [lim_zero]; rfl) (Ev_some rfl)
  · refine Ev_neg (by omega) ?_
    by_cases h2 : n < 18446744073709551616
    · rw [if_pos h2]
      refine Ev_pos (by omega) (Ev_pos (by omega) (Ev_some ?_))
      rw [lim_one_len h2 h0]
      rfl
    · rw [if_neg h2]
      exact Ev_neg (by omega) (Ev_some rfl)
theorem mx_eq (a : Int) : mx a (-1074) = if a < -1074 then -1074 else a := rfl
theorem wrap_id {n : Int} (h0 : -9223372036854775808 ≤ n) (h1 : n < 9223372036854775808) : wrap64 n = n := by unfold wrap64; omega
theorem mag_small {n : Nat} {e : Int} (h : unitOf n e ≤ e) : n < 2 ^ 53 ∧ (e - unitOf n e).toNat ≤ 53 - blen n ∧ blen n ≤ 53 := by
  unfold unitOf at h ⊢
  have := blen_le n 53
  split at h <;> rename_i h2
  · rw [if_pos h2]; omega
  · rw [if_neg h2]; omega
theorem unit_mx {n : Nat} {e : Int} (hb : blen n ≤ 262144) (he : -1099511627776 ≤ e ∧ e ≤ 1099511627776) : mx (wrap64 ((blen n : Int) + e - 53)) (-1074) = unitOf n e := by
  rw [wrap_id (by omega) (by omega), mx_eq]
  rfl
theorem unit_range {n : Nat} {e : Int} (h : (blen n : Int) + e ≤ 1024) : -1074 ≤ unitOf n e ∧ unitOf n e ≤ 971 ∧ (blen n : Int) + e - 53 ≤ unitOf n e := by
  unfold unitOf
  split <;> omega
theorem mag_quot {n m : Nat} (h : blen n ≤ m + 53) : n / 2 ^ m < 9007199254740992 := by
  have h1 := (blen_le n (m + 53)).1 h
  rw [Nat.pow_add] at h1
  exact Nat.div_lt_of_lt_mul h1
theorem mag_word {u c : Int} (hu : -1074 ≤ u ∧ u ≤ 971) (hc : 0 ≤ c ∧ c ≤ 9007199254740992) :
    IntKind.u64.wrap (IntKind.u64.wrap (IntKind.u64.wrap (wrap64 (u - (-1074))) * 4503599627370496) + c) = (u + 1074) * 4503599627370496 + c := by
  have e1 : wrap64 (u - (-1074)) = u + 1074 := by unfold wrap64; omega
  rw [e1]
  simp only [IntKind.wrap_u64]
  omega
theorem magnitude_ev {n : Nat} {e : Int} {more : Bool} (h : n < B 4096) (he : -1099511627776 ≤ e ∧ e ≤ 1099511627776) (hb : blen n ≤ 262144) : Ev (fun k _ _ => ieee_magnitude.f k (lim n) e more) ((rnd n e more : Nat) : Int) := by
  have hl := (lim_len_le n 4096).2 h
  have hz := @lim_len_zero n
  have hbl := nat_BitLen_ev (l := lim n) (ok_lim n) (by omega)
  rw [val_lim] at hbl
  have e1 : wrap64 ((blen n : Int) + e) = (blen n : Int) + e := wrap_id (by omega) (by omega)
  simp only [ieee_magnitude.f, ieee_magnitude.b0, ieee_magnitude.l255, ieee_magnitude.b255, ln_eq]
  refine Ev.bind hbl ?_
  rw [e1]
  unfold rnd
  by_cases h0 : n = 0
  · exact Ev_pos (by omega) (Ev_some (by rw [if_pos (.inl h0)]; rfl))
  · refine Ev_neg (by omega) ?_
    by_cases h1 : (blen n : Int) + e < -1074
    · exact Ev_pos h1 (Ev_some (by rw [if_pos (.inr h1)]; rfl))
    · refine Ev_neg h1 ?_
      rw [if_neg (show ¬ (n = 0 ∨ (blen n : Int) + e < -1074) by omega)]
      by_cases h2 : (blen n : Int) + e > 1024
      · exact Ev_pos h2 (Ev_some (by rw [if_pos h2]; rfl))
      · refine Ev_neg h2 ?_
        rw [if_neg h2]
        obtain ⟨u0, u1, u2⟩ := unit_range (n := n) (e := e) (by omega)
        have hsm := @mag_small n e
        rw [unit_mx hb he]
        generalize unitOf n e = u at *
        have w1 : wrap64 (u - e) = u - e := wrap_id (by omega) (by omega)
        simp only [w1]
        by_cases h3 : u ≤ e
        · rw [if_pos h3]
          obtain ⟨s1, s2, s3⟩ := hsm h3
          have w2 : wrap64 (-(u - e)) = (((e - u).toNat : Nat) : Int) := by rw [wrap_id (by omega) (by omega)]; omega
          have w3 : IntKind.u64.wrap (((e - u).toNat : Nat) : Int) = (((e - u).toNat : Nat) : Int) := wrapU64 (by omega) (by omega)
          have hr : rd (lim n) 0 = (n : Int) := by rw [lim_one_len (by omega) h0]; rfl
          simp only [w2, w3, hr]
          refine Ev_pos (by omega) (Ev_pos (by omega) (Ev_pos (by omega) (Ev_some ?_)))
          have hs := blen_le (n * 2 ^ (e - u).toNat) 53
          rw [blen_mul_pow h0] at hs
          have hs2 := hs.1 (by omega)
          have hs3 : n * 2 ^ (e - u).toNat < 9007199254740992 := hs2
          rw [shl_u64 (by omega) (by omega), ← Int.natCast_mul]
          generalize n * 2 ^ (e - u).toNat = c at *
          rw [show (c : Int) % 18446744073709551616 = (c : Int) by omega, mag_word ⟨u0, u1⟩ (by omega)]
          omega
        · rw [if_neg h3]
          refine Ev_neg (by omega) ?_
          obtain ⟨m, hm⟩ : ∃ m : Nat, u - e = (m : Int) := ⟨(u - e).toNat, by omega⟩
          rw [hm]
          have hm0 : 0 < m := by omega
          rw [Int.toNat_natCast]
          have hq := mag_quot (n := n) (m := m) (by omega)
          have hqB : n / 2 ^ m < B 4096 := Nat.lt_of_le_of_lt (Nat.div_le_self _ _) h
          have hsh := nat_Shr_ev (a := lim n) (n := (m : Int)) (ok_lim n) (by omega) (by omega)
          rw [val_lim, shrAns, if_pos h, if_neg (by omega), Int.toNat_natCast] at hsh
          have htu := nat_ToUint_ev hqB
          rw [if_pos (show n / 2 ^ m < 18446744073709551616 by omega)] at htu
          have w4 : wrap64 ((m : Int) - 1) = ((m - 1 : Nat) : Int) := by rw [wrap_id (by omega) (by omega)]; omega
          have hbit := nat_Bit_eq (ok_lim n) (by omega) ((m - 1 : Nat) : Int) (by omega)
          rw [val_lim, if_neg (by omega), Int.toNat_natCast] at hbit
          have htr := nat_Trail_ev (l := lim n) (ok_lim n) (by omega)
          rw [val_lim] at htr
          rw [w4]
          refine Ev.bind hsh (Ev.bind htu (Ev_bind_eq hbit ?_))
          generalize hQ : n / 2 ^ m = q at *
          have a1 : Go.bits .and .u64 (q : Int) 1 = ((q % 2 : Nat) : Int) := by
            rw [show (1 : Int) = ((1 : Nat) : Int) from rfl, u64_and_nat _ _ (by omega) (by omega), Nat.and_one_is_mod]
          have inc : IntKind.u64.wrap ((q : Int) + 1) = ((q + 1 : Nat) : Int) := by rw [wrapU64 (by omega) (by omega)]; omega
          have good : ∀ c : Nat, c ≤ 9007199254740992 → IntKind.u64.wrap (IntKind.u64.wrap (IntKind.u64.wrap (wrap64 (u - (-1074))) * 4503599627370496) + (c : Int)) = (((u + 1074).toNat * 4503599627370496 + c : Nat) : Int) := by
            intro c hc
            rw [mag_word ⟨u0, u1⟩ (by omega)]
            omega
          have g1 := good (q + 1) (by omega)
          have g0 := good q (by omega)
          clear good
          generalize (u + 1074).toNat * 4503599627370496 = A at *
          simp only [a1, inc, g1, g0]
          have hup : upB n m more ↔ (n / 2 ^ (m - 1) % 2 = 1 ∧ (more = true ∨ q % 2 = 1 ∨ tz n + 1 < m)) := by unfold upB; rw [hQ]
          have tU : upB n m more → ((A + q + (if upB n m more then 1 else 0) : Nat) : Int) = ((A + (q + 1) : Nat) : Int) := fun h4 => by rw [if_pos h4, Nat.add_assoc]
          have tD : ¬ upB n m more → ((A + q + (if upB n m more then 1 else 0) : Nat) : Int) = ((A + q : Nat) : Int) := fun h4 => by rw [if_neg h4, Nat.add_zero]
          rcases Nat.mod_two_eq_zero_or_one (n / 2 ^ (m - 1)) with hx | hx
          · rw [tD (fun h4 => by have := (hup.1 h4).1; omega), hx]
            exact Ev_neg (by decide) (Ev_some rfl)
          · rw [hx]
            refine Ev_pos rfl ?_
            cases more with
            | true =>
              rw [tU (hup.2 ⟨hx, .inl rfl⟩)]
              exact Ev_pos rfl (Ev_some rfl)
            | false =>
              refine Ev_neg (by decide) ?_
              rcases Nat.mod_two_eq_zero_or_one q with hy | hy
              · rw [hy]
                refine Ev_neg (by decide) (Ev.bind htr ?_)
                by_cases ht : tz n + 1 < m
                · rw [tU (hup.2 ⟨hx, .inr (.inr ht)⟩)]
                  exact Ev_pos (by omega) (Ev_some rfl)
                · have hno : ¬ upB n m false := fun h4 => by
                    rcases (hup.1 h4).2 with h5 | h5 | h5
                    · cases h5
                    · omega
                    · exact ht h5
                  rw [tD hno]
                  exact Ev_neg (by omega) (Ev_some rfl)
              · rw [hy, tU (hup.2 ⟨hx, .inr (.inl hy)⟩)]
                exact Ev_pos rfl (Ev_some rfl)
end Go.Proofs.YtcacmhcekoeblaaDoor.Mag

