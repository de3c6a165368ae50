/- What the second reference's powers compute. Conditions: lists of limbs below 2^64, of lengths that a slice has. -/
import Derived.Test.YtalkmbmhmbnadaaDoorQR2g
namespace Go.Proofs.YtalkmbmhmbnadaaDoor.R2
open Go.RowKit Go.Proofs.YtalkmbmhmbnadaaDoor.Lib Go.Proofs.YtalkmbmhmbnadaaDoor.LibB Go.Proofs.YtalkmbmhmbnadaaDoor.F Go.Proofs.YtalkmbmhmbnadaaDoor.Nat1 Go.Proofs.YtalkmbmhmbnadaaDoor.Nat2 Go.Proofs.YtalkmbmhmbnadaaDoor.Bits Go.Proofs.YtalkmbmhmbnadaaDoor.Pow Go.Proofs.YtalkmbmhmbnadaaDoor.Quot1
open Go.Proofs.YtalkmbmhmbnadaaDoorA (rd rdr ln ln_eq lnr lnr_eq mx mn shl shr wr wr_eq)
set_option linter.unusedVariables false
set_option linter.unusedSimpArgs false
def pw (v n : Nat) : List Int × Bool := if v ^ n < B 4096 then (lim (v ^ n), true) else ([], false)
theorem pw_ok {v n : Nat} (h : v ^ n < B 4096) : pw v n = (lim (v ^ n), true) := if_pos h
theorem pw_big {v n : Nat} (h : ¬ v ^ n < B 4096) : pw v n = ([], false) := if_neg h
theorem half_n (n : Nat) : n = 2 * (n / 2) + n % 2 := by omega
theorem len_sq {w : Nat} (h0 : w ≠ 0) (h : ¬ 2 * (lim w).length - 1 ≤ 4096) : B 4096 ≤ w * w := by
  have h1 := lim_len_ge w h0
  have h2 := Nat.mul_le_mul h1 h1
  rw [← B_add] at h2
  exact Nat.le_trans (B_mono (by omega)) h2
theorem len_mul {u v : Nat} (hu : u ≠ 0) (hv : v ≠ 0) (h : ¬ (lim u).length + (lim v).length - 1 ≤ 4096) : B 4096 ≤ u * v := by
  have h1 := lim_len_ge u hu
  have h2 := Nat.mul_le_mul h1 (lim_len_ge v hv)
  rw [← B_add] at h2
  exact Nat.le_trans (B_mono (by omega)) h2
theorem w_dbl {L : Nat} (h : L ≤ 4096) (h0 : 0 < L) : wrap64 (wrap64 (2 * (L : Int)) - 1) = ((2 * L - 1 : Nat) : Int) := by unfold wrap64; omega
theorem w_sum {L M : Nat} (h : L ≤ 4096) (h2 : M ≤ 4096) (h0 : 0 < L) : wrap64 (wrap64 ((L : Int) + (M : Int)) - 1) = ((L + M - 1 : Nat) : Int) := by unfold wrap64; omega
theorem w_half {n : Nat} (h : n < 9223372036854775808) : wrap64 (Int.tdiv (n : Int) 2) = ((n / 2 : Nat) : Int) ∧ Int.tmod (n : Int) 2 = ((n % 2 : Nat) : Int) := by
  rw [Int.tdiv_eq_ediv_of_nonneg (by omega), Int.tmod_eq_emod_of_nonneg (by omega)]
  unfold wrap64; omega
theorem gt_of {L : Nat} (h : ¬ L ≤ 4096) : (L : Int) > 4096 := by omega
theorem ngt_of {L : Nat} (h : L ≤ 4096) : ¬ (L : Int) > 4096 := by omega
theorem lim_fits {n : Nat} (h : (lim n).length ≤ 4096) : n < B 4096 := (lim_len_le n 4096).1 h
theorem pw_end {v n m : Nat} (h : m = v ^ n) : Ev (fun k q _ => abacusref02_power.l127 k (abacusref02_power.g k q) (lim m)) (pw v n) := by
  subst h
  simp only [abacusref02_power.l127, abacusref02_power.b127, ln_eq]
  by_cases h : (lim (v ^ n)).length ≤ 4096
  · rw [pw_ok (lim_fits h)]
    exact Ev_neg (ngt_of h) (Ev.now _)
  · rw [pw_big (fun k => h ((lim_len_le _ _).2 k))]
    exact Ev_pos (gt_of h) (Ev.now _)
theorem power_ev {a : List Int} {v : Nat} (ha : ok a) (hla : a.length ≤ 35184372088832) (hv : val a = v) (h2 : 2 ≤ v) (hb : v < B 4096) (D : Nat) : ∀ n : Nat, n ≤ D → n < 9223372036854775808 →
    Ev (fun k m _ => abacusref02_power.g k m a (n : Int)) (pw v n) := by
  induction D with
  | zero =>
    intro n hn _
    obtain rfl : n = 0 := by omega
    refine Ev_succ ?_
    simp only [abacusref02_power.g, abacusref02_power.b0, ln_eq]
    refine Ev_pos rfl (Ev_some ?_)
    rw [pw_ok (by rw [Nat.pow_zero]; exact one_limit), Nat.pow_zero, lim_one_len (by decide) (by decide)]; rfl
  | succ D ih =>
    intro n hn hm
    refine Ev_succ ?_
    simp only [abacusref02_power.g, abacusref02_power.b0, ln_eq]
    by_cases h0 : n = 0
    · subst h0
      refine Ev_pos rfl (Ev_some ?_)
      rw [pw_ok (by rw [Nat.pow_zero]; exact one_limit), Nat.pow_zero, lim_one_len (by decide) (by decide)]; rfl
    obtain ⟨w1, w2⟩ := w_half hm
    have hi := ih (n / 2) (by omega) (by omega)
    have hpos : v ^ (n / 2) ≠ 0 := Nat.ne_of_gt (Nat.pow_pos (by omega))
    have hpos2 : v ≠ 0 := by omega
    have hn0 : ¬ (n : Int) = 0 := by omega
    have hsq : v ^ (n / 2) * v ^ (n / 2) = v ^ (2 * (n / 2)) := pow_sq v _
    have hup : v ^ (2 * (n / 2)) ≤ v ^ n := Nat.pow_le_pow_right (by omega) (by omega)
    have hup2 : v ^ (n / 2) ≤ v ^ n := Nat.pow_le_pow_right (by omega) (by omega)
    have hodd : n % 2 = 1 → v ^ (2 * (n / 2)) * v = v ^ n := fun h => by rw [← Nat.pow_succ]; congr 1; omega
    have heven : ¬ n % 2 = 1 → v ^ (2 * (n / 2)) = v ^ n := fun h => by congr 1; omega
    have htop := abacusref02_Top_ev ha (Nat.le_trans hla (by decide))
    rw [hv] at htop
    rw [w1, w2]
    refine Ev_neg hn0 (Ev.bind hi ?_)
    by_cases hw : v ^ (n / 2) < B 4096
    · rw [pw_ok hw]
      refine Ev_neg (by simp) ?_
      have hL := len_lim hw
      have hL0 : 0 < (lim (v ^ (n / 2))).length := Nat.pos_of_ne_zero fun h => hpos (lim_len_zero.1 h)
      rw [w_dbl hL hL0]
      by_cases h3 : 2 * (lim (v ^ (n / 2))).length - 1 ≤ 4096
      · refine Ev_neg (ngt_of h3) ?_
        have ht := times_lim hw hw
        rw [hsq] at ht
        refine Ev.bind ht ?_
        have hpos3 : v ^ (2 * (n / 2)) ≠ 0 := Nat.ne_of_gt (Nat.pow_pos (by omega))
        by_cases ho : n % 2 = 1
        · refine Ev_pos (by rw [ho]; rfl) ?_
          by_cases h4 : (lim (v ^ (2 * (n / 2)))).length ≤ 4096
          · refine Ev_neg (ngt_of h4) (Ev.bind htop ?_)
            have hV := len_lim hb
            have h5 : 0 < (lim (v ^ (2 * (n / 2)))).length := Nat.pos_of_ne_zero fun h => hpos3 (lim_len_zero.1 h)
            rw [w_sum h4 hV h5]
            by_cases h6 : (lim (v ^ (2 * (n / 2)))).length + (lim v).length - 1 ≤ 4096
            · have ht2 := rTimes_ev (ok_lim (v ^ (2 * (n / 2)))) ha (Nat.le_trans h4 (by decide)) hla (by rw [val_lim]; exact Nat.le_trans h4 (by decide)) (by rw [hv]; exact Nat.le_trans hV (by decide))
              rw [val_lim, hv, hodd ho] at ht2
              exact Ev_neg (ngt_of h6) (Ev.bind ht2 (pw_end rfl))
            · have h7 := len_mul hpos3 hpos2 h6
              rw [hodd ho] at h7
              refine Ev_pos (gt_of h6) (Ev_some ?_)
              rw [pw_big (Nat.not_lt.2 h7)]
          · refine Ev_pos (gt_of h4) (Ev_some ?_)
            rw [pw_big (fun k => h4 ((lim_len_le _ _).2 (Nat.lt_of_le_of_lt hup k)))]
        · exact Ev_neg (fun h => ho (by omega)) (pw_end (heven ho))
      · have h4 := len_sq hpos h3
        rw [hsq] at h4
        refine Ev_pos (gt_of h3) (Ev_some ?_)
        rw [pw_big (fun k => Nat.not_lt.2 (Nat.le_trans h4 hup) k)]
    · rw [pw_big hw]
      refine Ev_pos (by simp) (Ev_some ?_)
      rw [pw_big (fun k => hw (Nat.lt_of_le_of_lt hup2 k))]
theorem rPow_ev {a : List Int} {n : Int} (ha : ok a) (hla : a.length ≤ 35184372088832) (hn : n < 9223372036854775808) : Ev (fun k _ _ => abacusref02_Pow.f k a n) (powAns (val a) n) := by
  simp only [abacusref02_Pow.f, abacusref02_Pow.b0, ln_eq]
  have htop := abacusref02_Top_ev ha (Nat.le_trans hla (by decide))
  have h4 := lim_len_le (val a) 4096
  have hone : ok [1] := ok_cons.2 ⟨by decide, ok_nil⟩
  have hsame := Order_ev ha hone (Nat.le_trans hla (by decide)) (by decide)
  generalize hv : val a = v at *
  unfold powAns
  refine Ev.bind htop ?_
  by_cases h1 : v < B 4096
  · rw [if_pos h1]
    refine Ev_neg (ngt_of (h4.2 h1)) ?_
    by_cases h2 : n < 0
    · rw [if_pos h2]; exact Ev_pos h2 (Ev.now _)
    · rw [if_neg h2]
      refine Ev_neg h2 ?_
      obtain ⟨m, rfl⟩ := Int.eq_ofNat_of_zero_le (show 0 ≤ n by omega)
      rw [Int.toNat_natCast]
      by_cases h3 : m = 0
      · subst h3
        refine Ev_pos rfl (Ev_some ?_)
        rw [Nat.pow_zero, ans_ok one_limit, lim_one_len (by decide) (by decide)]; rfl
      · refine Ev_neg (by omega) ?_
        simp only [abacusref02_Same.f, abacusref02_Same.b0]
        have hv1 : val [1] = 1 := by rw [val_cons, val_nil]; rfl
        rw [hv1] at hsame
        refine Ev.bind (Ev.bind hsame (Ev.now _)) ?_
        by_cases h5 : v = 1
        · subst h5
          refine Ev_pos (by rw [cmp_self]; rfl) (Ev_some ?_)
          rw [Nat.one_pow, ans_ok one_limit, lim_one_len (by decide) (by decide)]; rfl
        · refine Ev_neg ?_ ?_
          · have : cmp v 1 ≠ 0 := by
              rcases Nat.lt_or_gt_of_ne h5 with h | h
              · rw [cmp_lt h]; decide
              · rw [cmp_gt h]; decide
            simp [this]
          · refine Ev.bind htop ?_
            by_cases h6 : v = 0
            · subst h6
              refine Ev_pos (by rw [lim_zero]; rfl) (Ev_some ?_)
              rw [Nat.zero_pow (Nat.pos_of_ne_zero h3), ans_ok (B_pos _), lim_zero]
            · have h7 : ¬ ((lim v).length : Int) = 0 := fun h => h6 (lim_len_zero.1 (by omega))
              have hp := power_ev ha hla hv (by omega) h1 m m (Nat.le_refl _) (by omega)
              refine Ev_neg h7 (Ev.bind (Ev_in (g := fun k q _ => abacusref02_power.g k q a (m : Int)) hp) ?_)
              by_cases h8 : v ^ m < B 4096
              · rw [pw_ok h8, ans_ok h8]
                exact Ev_neg (by simp) (Ev.now _)
              · rw [pw_big h8, ans_big h8]
                exact Ev_pos (by simp) (Ev.now _)
  · rw [if_neg h1]
    exact Ev_pos (gt_of (fun h => h1 (h4.1 h))) (Ev.now _)
theorem ok_five : ok [5] := ok_cons.2 ⟨by decide, ok_nil⟩
theorem ok_ten : ok [10] := ok_cons.2 ⟨by decide, ok_nil⟩
end Go.Proofs.YtalkmbmhmbnadaaDoor.R2
