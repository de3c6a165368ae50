/- A greater number is never rounded to a lesser double, for every input. No conditions. -/
import Derived.Test.YtceihajjpeoloaaDoorQRatio
namespace Go.Proofs.YtceihajjpeoloaaDoor.Pure
open Go.RowKit Go.Proofs.YtceihajjpeoloaaDoor.Lib Go.Proofs.YtceihajjpeoloaaDoor.LibB Go.Proofs.YtceihajjpeoloaaDoor.F Go.Proofs.YtceihajjpeoloaaDoor.Nat1 Go.Proofs.YtceihajjpeoloaaDoor.Bits Go.Proofs.YtceihajjpeoloaaDoor.Ieee1 Go.Proofs.YtceihajjpeoloaaDoor.Mag Go.Proofs.YtceihajjpeoloaaDoor.Ieee2 Go.Proofs.YtceihajjpeoloaaDoor.Rnd Go.Proofs.YtceihajjpeoloaaDoor.Nat2 Go.Proofs.YtceihajjpeoloaaDoor.Ratio
open Go.Proofs.YtceihajjpeoloaaDoorA (rd ln ln_eq mx mn shl shr wr wr_eq)
set_option linter.unusedVariables false
set_option linter.unusedSimpArgs false
theorem awake_ev : Ev (fun k _ _ => abacuslaw04_awake.f k) true := Ev_at 150 fun d => by kernel_rfl
theorem rnd_up (n : Nat) (e : Int) : rnd n e false ≤ rnd n e true := by
  unfold rnd
  split
  · exact Nat.le_refl _
  split
  · exact Nat.le_refl _
  split
  · exact Nat.le_refl _
  · refine Nat.add_le_add_left ?_ _
    by_cases h : upB n (unitOf n e - e).toNat false
    · rw [if_pos h, if_pos ⟨h.1, .inl rfl⟩]; exact Nat.le_refl _
    · rw [if_neg h]; exact Nat.zero_le _
theorem rnd_same {n : Nat} {e : Int} (h1 : ¬ (blen n : Int) + e > 1024) (h2 : ¬ e < unitOf n e) : rnd n e true = rnd n e false := by
  unfold rnd
  split
  · rfl
  rw [if_pos (by omega), if_pos (by omega)]
theorem pows (e : Int) : ∃ a b : Nat, (a : Int) - b = e + 1074 := ⟨(e + 1074).toNat, (-(e + 1074)).toNat, by omega⟩
theorem pow_pos2 (b : Nat) : 0 < 2 ^ b := Nat.pow_pos (by omega)
theorem rnd_mono {n m : Nat} (h : n ≤ m) (e : Int) : rnd n e false ≤ rnd m e false := by
  obtain ⟨a, b, hab⟩ := pows e
  exact near_mono (pow_pos2 b) (pow_pos2 b) (rnd_near n e hab) (rnd_near m e hab) (Nat.mul_le_mul_right _ (Nat.mul_le_mul_right _ h))
theorem mid_lo {n A C : Nat} (hA : 0 < A) (hC : 0 < C) : n * A * (2 * C) < (2 * n + 1) * A * C := by
  have : n * A * (2 * C) = 2 * n * A * C := by ac_rfl
  rw [this]
  exact Nat.mul_lt_mul_of_pos_right (Nat.mul_lt_mul_of_pos_right (by omega) hA) hC
theorem mid_hi {n A C : Nat} (hA : 0 < A) (hC : 0 < C) : (2 * n + 1) * A * C < (n + 1) * A * (2 * C) := by
  have : (n + 1) * A * (2 * C) = (2 * n + 2) * A * C := by rw [show 2 * n + 2 = 2 * (n + 1) by omega]; ac_rfl
  rw [this]
  exact Nat.mul_lt_mul_of_pos_right (Nat.mul_lt_mul_of_pos_right (by omega) hA) hC
theorem mid_le {n m A C : Nat} (h : n < m) : (2 * n + 1) * A * C ≤ m * A * (2 * C) := by
  have : m * A * (2 * C) = 2 * m * A * C := by ac_rfl
  rw [this]
  exact Nat.mul_le_mul_right _ (Nat.mul_le_mul_right _ (by omega))
theorem rnd_next {n m : Nat} (h : n < m) (e : Int) : rnd n e true ≤ rnd m e false := by
  by_cases hu : (blen n : Int) + e > 1024 ∨ e < unitOf n e
  · by_cases h0 : n = 0
    · subst h0
      rw [show rnd 0 e true = 0 from by unfold rnd; rw [if_pos (.inl rfl)]]
      exact Nat.zero_le _
    · obtain ⟨a, b, hab⟩ := pows e
      have hb := pow_pos2 b
      have ha := pow_pos2 a
      have h1 := rnd_more n e (X := (2 * n + 1) * 2 ^ a) (Y := 2 * 2 ^ b) hab h0 (Nat.mul_pos (by decide) hb) hu (mid_lo ha hb) (mid_hi ha hb)
      exact near_mono (Nat.mul_pos (by decide) hb) hb h1 (rnd_near m e hab) (mid_le h)
  · rw [rnd_same (fun g => hu (.inl g)) (fun g => hu (.inr g))]
    exact rnd_mono (Nat.le_of_lt h) e
theorem ratio_mono {p q n m D : Nat} {e : Int} (hD : 0 < D) (h : n ≤ m) (h1 : ∀ a b : Nat, (a : Int) - b = clamp e + 1074 → Near p (n * 2 ^ a) (D * 2 ^ b)) (h2 : ∀ a b : Nat, (a : Int) - b = clamp e + 1074 → Near q (m * 2 ^ a) (D * 2 ^ b)) : p ≤ q := by
  obtain ⟨a, b, hab⟩ := pows (clamp e)
  have hp := Nat.mul_pos hD (pow_pos2 b)
  exact near_mono hp hp (h1 a b hab) (h2 a b hab) (Nat.mul_le_mul_right _ (Nat.mul_le_mul_right _ h))
theorem some_B {l : List Int} (h : ok l) (hl : l.length ≤ 200) : val l < B 4096 := by
  exact Nat.lt_of_lt_of_le (val_lt h) (B_mono (by omega))
theorem cmp_above {a b : Nat} (h : cmp a b > 0) : b ≤ a := by
  rcases Nat.lt_or_ge a b with h1 | h1
  · rw [cmp_lt h1] at h; exact absurd h (by decide)
  · exact h1
theorem cmp_below {a b : Nat} (h : ¬ cmp a b > 0) : a ≤ b := by
  rcases Nat.lt_or_ge b a with h1 | h1
  · rw [cmp_gt h1] at h; exact absurd h (by decide)
  · exact h1
theorem cmp_less {a b : Nat} (h : a ≤ b) (h0 : ¬ cmp a b = 0) : a < b := by
  rcases Nat.lt_or_ge a b with h1 | h1
  · exact h1
  · exact absurd (by rw [Nat.le_antisymm h h1]; exact cmp_self b) h0
theorem put_pos (p : Nat) : put false p = (p : Int) := rfl
theorem le_int {a b : Nat} (h : a ≤ b) : (a : Int) ≤ b := by omega
theorem inf_int {a : Nat} (h : a ≤ inf) : (a : Int) ≤ 9218868437227405312 := by unfold inf at h; omega
theorem two_ev {n m d : List Int} {e : Int} (hn : ok n) (hm : ok m) (hd : ok d) (ln : n.length ≤ 200) (lm : m.length ≤ 200) (ld : d.length ≤ 200) (h0 : val d ≠ 0) (h : val n ≤ val m) :
    Ev (fun k _ _ => abacuslaw04_IeeeRising.l511 k n m d e) true := by
  have bn := some_B hn ln
  have bm := some_B hm lm
  have bd := some_B hd ld
  obtain ⟨p, p1, p2⟩ := RoundRatio_ev (neg := false) (e := e) hn hd (by omega) (by omega) bn bd h0
  obtain ⟨q, q1, q2⟩ := RoundRatio_ev (neg := false) (e := e) hm hd (by omega) (by omega) bm bd h0
  have r1 := Round_ev (neg := false) (e := e) (more := false) hn (by omega) bn
  have r2 := Round_ev (neg := false) (e := e) (more := false) hm (by omega) bm
  have r3 := Round_ev (neg := false) (e := e) (more := true) hn (by omega) bn
  have c := nat_Cmp_ev hn hm (by omega) (by omega)
  have ha := rnd_mono h e
  have hb := ratio_mono (Nat.pos_of_ne_zero h0) h p2 q2
  have hg := rnd_up (val n) e
  have ht : q ≤ inf := by
    obtain ⟨a, b, hab⟩ := pows (clamp e)
    exact (q2 a b hab).top
  have hu := rnd_le_inf (val m) e
  have hx : val n < val m → rnd (val n) e true ≤ rnd (val m) e false := fun k => rnd_next k e
  clear p2 q2 bn bm bd
  rw [put_pos] at p1 q1 r1 r2 r3
  generalize rnd (val n) e false = x1 at *
  generalize rnd (val m) e false = x2 at *
  generalize rnd (val n) e true = x3 at *
  simp only [abacuslaw04_IeeeRising.l511, abacuslaw04_IeeeRising.b511]
  refine Ev.bind r1 (Ev.bind r2 (Ev.bind p1 (Ev.bind q1 (Ev.bind r3 (Ev_neg (by simp) (Ev_neg (by simp) (Ev_neg (by simp) (Ev_neg (by simp) (Ev_neg (by simp) ?_)))))))))
  dsimp only
  refine Ev_pos (le_int ha) (Ev_pos (le_int hb) (Ev_pos (le_int hg) (Ev_pos (inf_int hu) (Ev_pos (inf_int ht) (Ev.bind c ?_)))))
  by_cases he : cmp (val n) (val m) = 0
  · exact Ev_pos he (Ev.now _)
  · refine Ev_neg he (Ev_some ?_)
    exact decide_eq_true (le_int (hx (cmp_less h he)))
theorem IeeeRising (a0 : Bool) {n m d : List Int} {e by_ : Int} (hn : ok n ∧ n.length * 8 ≤ 140737488351232) (hm : ok m ∧ m.length * 8 ≤ 140737488351232) (hd : ok d ∧ d.length * 8 ≤ 140737488351232)
    (he : -9223372036854775808 ≤ e ∧ e < 9223372036854775808) (hb : (Lit.int .u8 by_).wf = true) : ∃ k, abacuslaw04_IeeeRising.f k a0 n m d e by_ = some true := by
  refine Ev.rounds ?_
  simp only [abacuslaw04_IeeeRising.f, abacuslaw04_IeeeRising.b0, ln_eq]
  refine Ev.bind awake_ev (Ev_neg (by simp) ?_)
  by_cases l1 : (n.length : Int) > 200
  · exact Ev_pos l1 (Ev.now _)
  by_cases l2 : (m.length : Int) > 200
  · exact Ev_neg l1 (Ev_pos l2 (Ev.now _))
  by_cases l3 : (d.length : Int) > 200
  · exact Ev_neg l1 (Ev_neg l2 (Ev_pos l3 (Ev.now _)))
  refine Ev_neg l1 (Ev_neg l2 (Ev_neg l3 (Ev.bind (nat_BitLen_ev hd.1 (by omega)) ?_)))
  by_cases h0 : val d = 0
  · exact Ev_pos (by rw [h0]; rfl) (Ev.now _)
  have hbl : ¬ ((blen (val d) : Nat) : Int) = 0 := fun k => absurd (blen_pos.2 h0) (by omega)
  refine Ev_neg hbl (Ev.bind (nat_Cmp_ev hn.1 hm.1 (by omega) (by omega)) ?_)
  by_cases hc : cmp (val n) (val m) > 0
  · exact Ev_pos hc (two_ev hm.1 hn.1 hd.1 (by omega) (by omega) (by omega) h0 (cmp_above hc))
  · exact Ev_neg hc (two_ev hn.1 hm.1 hd.1 (by omega) (by omega) (by omega) h0 (cmp_below hc))
end Go.Proofs.YtceihajjpeoloaaDoor.Pure
