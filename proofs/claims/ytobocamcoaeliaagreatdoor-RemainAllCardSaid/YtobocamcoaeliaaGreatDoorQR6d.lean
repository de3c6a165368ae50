import Derived.Test.YtobocamcoaeliaaGreatDoorQR6
import Derived.Test.YtobocamcoaeliaaGreatDoorQRemPower
import Derived.Test.YtobocamcoaeliaaGreatDoorQSoft1
/- What the sixth reference computes: powers. No conditions. -/
namespace Go.Proofs.YtobocamcoaeliaaGreatDoor.R6
open Go.RowKit Go.Proofs.YtobocamcoaeliaaGreatDoor.Lib Go.Proofs.YtobocamcoaeliaaGreatDoor.LibB Go.Proofs.YtobocamcoaeliaaGreatDoor.F Go.Proofs.YtobocamcoaeliaaGreatDoor.Nat1 Go.Proofs.YtobocamcoaeliaaGreatDoor.Nat2 Go.Proofs.YtobocamcoaeliaaGreatDoor.Bits Go.Proofs.YtobocamcoaeliaaGreatDoor.Ieee1 Go.Proofs.YtobocamcoaeliaaGreatDoor.Mag Go.Proofs.YtobocamcoaeliaaGreatDoor.Ieee2 Go.Proofs.YtobocamcoaeliaaGreatDoor.Rnd Go.Proofs.YtobocamcoaeliaaGreatDoor.R1 Go.Proofs.YtobocamcoaeliaaGreatDoor.R4
open Go.Proofs.YtobocamcoaeliaaGreatDoor.Pure (cls_fin' cls_plc man_nat pow_limit mul_small PowR PowerR)
open Go.Proofs.YtobocamcoaeliaaGreatDoorA (rd ln ln_eq mx mn shl shr wr wr_eq)
set_option linter.unusedVariables false
set_option linter.unusedSimpArgs false
theorem one_lim' : ([1] : List Int) = lim 1 := (lim_one_len (n := 1) (by omega) (by omega)).symm
theorem rTimes_all {m n : Nat} (hm : m < 9007199254740992) (hn : n ≤ 1024) : Ev (fun k _ _ => abacusref06_Times.f k (m : Int) (n : Int)) (lim (m ^ n)) := by
  simp only [abacusref06_Times.f, abacusref06_Times.b0]
  by_cases h1 : m = 1
  · subst h1
    exact Ev_pos rfl (Ev_some (by rw [Nat.one_pow]; exact one_lim'))
  refine Ev_neg (by omega) ?_
  have go (t : Nat) : ∀ i, i + t = n → Ev (fun k j _ => abacusref06_Times.l245 k j (m : Int) (n : Int) (i : Int) (lim (m ^ i))) (lim (m ^ n)) := by
    induction t with
    | zero =>
      intro i hi
      obtain rfl : i = n := by omega
      refine Ev_succ ?_
      simp only [abacusref06_Times.l245, abacusref06_Times.b245]
      exact Ev_neg (by omega) (Ev.now _)
    | succ t ih =>
      intro i hi
      have lm := (lim_len_le (m ^ i) 4096).2 (pow_limit hm (show i ≤ 1024 by omega))
      have tm := Times_ev (a := lim (m ^ i)) (b := [(m : Int)]) (ok_lim _) (limb_ok (by omega)) (by omega) (by simp)
      rw [val_lim, limb_val, ← Nat.pow_succ] at tm
      have e1 : wrap64 ((i : Int) + 1) = ((i + 1 : Nat) : Int) := by unfold wrap64; omega
      have nx := ih (i + 1) (by omega)
      refine Ev_succ ?_
      simp only [abacusref06_Times.l245, abacusref06_Times.b245, e1]
      exact Ev_pos (by omega) (Ev.bind tm nx)
  have := go n 0 (by omega)
  rw [Nat.pow_zero, ← one_lim'] at this
  exact Ev_in (g := fun k j _ => abacusref06_Times.l245 k j (m : Int) (n : Int) 0 [1]) this
theorem strip_ev {x0 : Int} {x1 : Bool} {R : Int × Int} : ∀ (z m : Nat) (e : Int), m % 2 = 1 → m * 2 ^ z < 9007199254740992 → -5000 ≤ e → e + z ≤ 5000 → Ev (fun k _ _ => abacusref06_Power.l1023 k x0 x1 (m : Int) (e + z)) R → Ev (fun k j _ => abacusref06_Power.l4089 k j x0 x1 ((m * 2 ^ z : Nat) : Int) e) R
  | 0, m, e, ho, hm, h1, h2, h => by
    refine Ev_succ ?_
    rw [Nat.pow_zero, Nat.mul_one] at hm ⊢
    have e0 : e + ((0 : Nat) : Int) = e := by omega
    rw [e0] at h
    simp only [abacusref06_Power.l4089, abacusref06_Power.b4089]
    exact Ev_neg (by rw [Int.tmod_eq_emod_of_nonneg (by omega)]; omega) h
  | z + 1, m, e, ho, hm, h1, h2, h => by
    have hs : m * 2 ^ (z + 1) = 2 * (m * 2 ^ z) := by rw [Nat.pow_succ]; ac_rfl
    rw [hs] at hm ⊢
    have nx := strip_ev (x0 := x0) (x1 := x1) (R := R) z m (e + 1) ho (by omega) (by omega) (by omega) (by rw [show e + 1 + (z : Int) = e + ((z + 1 : Nat) : Int) by omega]; exact h)
    generalize m * 2 ^ z = q at *
    have e1 : wrap64 (e + 1) = e + 1 := by unfold wrap64; omega
    have e2 : IntKind.u64.wrap (Int.tdiv ((2 * q : Nat) : Int) 2) = (q : Int) := by rw [Int.tdiv_eq_ediv_of_nonneg (by omega), IntKind.wrap_u64]; omega
    refine Ev_succ ?_
    simp only [abacusref06_Power.l4089, abacusref06_Power.b4089, e1, e2]
    exact Ev_pos (by rw [Int.tmod_eq_emod_of_nonneg (by omega)]; omega) nx
end Go.Proofs.YtobocamcoaeliaaGreatDoor.R6
/- What the sixth reference computes: Power. No conditions. -/
namespace Go.Proofs.YtobocamcoaeliaaGreatDoor.R6
open Go.RowKit Go.Proofs.YtobocamcoaeliaaGreatDoor.Lib Go.Proofs.YtobocamcoaeliaaGreatDoor.LibB Go.Proofs.YtobocamcoaeliaaGreatDoor.F Go.Proofs.YtobocamcoaeliaaGreatDoor.Nat1 Go.Proofs.YtobocamcoaeliaaGreatDoor.Nat2 Go.Proofs.YtobocamcoaeliaaGreatDoor.Bits Go.Proofs.YtobocamcoaeliaaGreatDoor.Ieee1 Go.Proofs.YtobocamcoaeliaaGreatDoor.Mag Go.Proofs.YtobocamcoaeliaaGreatDoor.Ieee2 Go.Proofs.YtobocamcoaeliaaGreatDoor.Rnd Go.Proofs.YtobocamcoaeliaaGreatDoor.R1 Go.Proofs.YtobocamcoaeliaaGreatDoor.R4
open Go.Proofs.YtobocamcoaeliaaGreatDoor.Pure (cls_fin' cls_plc man_nat pow_limit mul_small PowR PowerR)
open Go.Proofs.YtobocamcoaeliaaGreatDoor.Rn (inf_top)
open Go.Proofs.YtobocamcoaeliaaGreatDoorA (rd ln ln_eq mx mn shl shr wr wr_eq)
set_option linter.unusedVariables false
set_option linter.unusedSimpArgs false
theorem RR_far {D G a b : Nat} {s : Bool} {e : Int} (hG : G = 60000) (hD : D < 2 ^ G) (hD4 : D < B 4096) (hD0 : D ≠ 0) (he : 1048576 < e) (hab : (a : Int) - b = e + 1074) :
    Ev (fun n _ _ => abacusref04_RoundRatio.f n s (lim 1) (lim D) e) (put s inf, 0) ∧ Near inf (1 * 2 ^ a) (D * 2 ^ b) := by
  have hN : 1 < B 4096 := limb_small (by decide)
  have lN := rlen hN
  have lD := rlen hD4
  have bN : Ev (fun n _ _ => abacusref01_Big.f n (lim 1)) false := by
    simp only [abacusref01_Big.f, abacusref01_Big.b0]
    refine Ev.bind (abacusref01_Size_ev (ok_lim 1) (by omega)) (Ev_some ?_)
    rw [val_lim]
    exact decide_eq_false (by omega)
  have bD : Ev (fun n _ _ => abacusref01_Big.f n (lim D)) false := by
    simp only [abacusref01_Big.f, abacusref01_Big.b0]
    refine Ev.bind (abacusref01_Size_ev (ok_lim D) (by omega)) (Ev_some ?_)
    rw [val_lim]
    exact decide_eq_false (by omega)
  have sN := abacusref01_Size_ev (ok_lim 1) (by omega)
  have sD := abacusref01_Size_ev (ok_lim D) (by omega)
  rw [val_lim] at sN sD
  have zD := @lim_len_zero D
  have zN := @lim_len_zero 1
  constructor
  · simp only [abacusref04_RoundRatio.f, abacusref04_RoundRatio.b0]
    exact Ev.bind bN (Ev_neg (by simp) (Ev.bind bD (Ev_neg (by simp) (Ev.bind sD (Ev_neg (by omega) (Ev.bind sN (Ev_neg (by omega) (Ev_neg (by omega) (Ev_pos (by omega) (Ev_bind_eq (rput_inf s) (Ev.now _)))))))))))
  · obtain ⟨F, hF⟩ : ∃ F, F = 2098 := ⟨_, rfl⟩
    refine near_inf (Nat.mul_pos (by omega) (Nat.pow_pos (by decide))) ?_
    rw [inf_top hF]
    have h1 : D * 2 ^ b ≤ 2 ^ G * 2 ^ b := Nat.mul_le_mul_right _ (Nat.le_of_lt hD)
    have h2 : 2 ^ F * (D * 2 ^ b) ≤ 2 ^ F * (2 ^ G * 2 ^ b) := Nat.mul_le_mul_left _ h1
    rw [← Nat.pow_add, ← Nat.pow_add] at h2
    rw [Nat.one_mul]
    exact Nat.le_trans h2 (Nat.pow_le_pow_right (by decide) (by omega))
theorem pow_bits {m k G : Nat} (hm : m < 9007199254740992) (hk : k ≤ 1024) (hG : G = 60000) : m ^ k < 2 ^ G := by
  have h53 : m ≤ 2 ^ 53 := by
    have : (2 : Nat) ^ 53 = 9007199254740992 := by decide
    omega
  have h1 : m ^ k ≤ (2 ^ 53) ^ k := Nat.pow_le_pow_left h53 k
  rw [← Nat.pow_mul] at h1
  exact Nat.lt_of_le_of_lt h1 (Nat.pow_lt_pow_right (by decide) (by omega))
/-- The last step: an odd part m to the power n. -/
theorem pow_last {n : Int} {s : Bool} {m k : Nat} {e : Int} (hk : n.natAbs = k) (n0 : n ≠ 0) (hk2 : k ≤ 1024) (hm : m < 9007199254740992) (m0 : m ≠ 0) (he : -1074 ≤ e ∧ e ≤ 1023) {K g : Nat} (hK : K = 1074) (hg : e + 1074 = (g : Int)) :
    ∃ p, Ev (fun j _ _ => abacusref06_Power.l1023 j n s (m : Int) e) (put s p, 0) ∧ p ≤ inf ∧ if n > 0 then Near p ((m * 2 ^ g) ^ k * 2 ^ K) (2 ^ (K * k)) else Near p (2 ^ (K + K * k)) ((m * 2 ^ g) ^ k) := by
  have tm := rTimes_all (n := k) hm hk2
  have lm := pow_limit hm hk2
  have ek : -1099776 ≤ e * (k : Int) ∧ e * (k : Int) ≤ 1047552 := by
    obtain ⟨x, hx⟩ : ∃ x : Nat, e + 1074 = x := ⟨g, hg⟩
    have h1 : (x : Int) * k ≤ 2097 * 1024 := by
      have h7 := Nat.mul_le_mul (show x ≤ 2097 by omega) hk2
      rw [← Int.natCast_mul]
      omega
    have h2 : e * (k : Int) = (x : Int) * k - 1074 * k := by rw [← hx, Int.add_mul]; omega
    have h3 : e * (k : Int) ≤ 1023 * 1024 := by
      rcases Int.le_total e 0 with h | h
      · have := Int.mul_nonpos_of_nonpos_of_nonneg h (show (0 : Int) ≤ k by omega)
        omega
      · have := Int.mul_le_mul he.2 (show (k : Int) ≤ 1024 by omega) (by omega) (by omega)
        omega
    have h4 : 0 ≤ (x : Int) * k := Int.mul_nonneg (by omega) (by omega)
    omega
  have hgk : ((g * k : Nat) : Int) = e * k + 1074 * k := by rw [Int.natCast_mul, ← hg, Int.add_mul]
  have hKk : ((K * k : Nat) : Int) = 1074 * k := by rw [Int.natCast_mul, hK]; rfl
  have w1 : wrap64 (e * (k : Int)) = e * k := by unfold wrap64; omega
  have w2 : wrap64 (wrap64 (-e) * (k : Int)) = -(e * k) := by
    rw [show wrap64 (-e) = -e by unfold wrap64; omega, Int.neg_mul]; unfold wrap64; omega
  have hpow : (m * 2 ^ g) ^ k = m ^ k * 2 ^ (g * k) := by rw [Nat.mul_pow, ← Nat.pow_mul]
  simp only [abacusref06_Power.l1023, abacusref06_Power.b1023, abacusref06_Power.l4095, abacusref06_Power.b4095]
  by_cases hp : n > 0
  · obtain rfl : n = (k : Int) := by omega
    rw [w1]
    refine ⟨rnd (m ^ k) (e * k) false, Ev_neg (by omega) (Ev.bind tm (Ev_pos hp (Ev.bind (round_lim lm (by omega)) (Ev.now _)))), rnd_top _ _ _, ?_⟩
    rw [if_pos hp, hpow, Nat.mul_assoc, ← Nat.pow_add]
    exact rnd_near _ _ (by omega)
  · have hn : wrap64 (-n) = (k : Int) := by unfold wrap64; omega
    rw [hn, w2]
    have D0 : m ^ k ≠ 0 := Nat.pos_iff_ne_zero.1 (Nat.pow_pos (Nat.pos_of_ne_zero m0))
    have hab : (((K + K * k : Nat) : Nat) : Int) - ((g * k : Nat) : Int) = -(e * k) + 1074 := by omega
    have fin' (p : Nat) (h1 : Ev (fun j _ _ => abacusref04_RoundRatio.f j s (lim 1) (lim (m ^ k)) (-(e * k))) (put s p, 0)) (h2 : Near p (1 * 2 ^ (K + K * k)) (m ^ k * 2 ^ (g * k))) : ∃ p, Ev (fun j _ _ => if n < 0 then (abacusref06_Times.f j (m : Int) (k : Int)).bind fun t1 => if n > 0 then (abacusref04_Round.f j s t1 (wrap64 (e * k)) false).bind fun t2 => some (t2.1, t2.2) else (abacusref04_RoundRatio.f j s [1] t1 (-(e * k))).bind fun t3 => some (t3.1, t3.2) else (abacusref06_Times.f j (m : Int) n).bind fun t1 => if n > 0 then (abacusref04_Round.f j s t1 (wrap64 (e * n)) false).bind fun t2 => some (t2.1, t2.2) else (abacusref04_RoundRatio.f j s [1] t1 (wrap64 (wrap64 (-e) * n))).bind fun t3 => some (t3.1, t3.2)) (put s p, (0 : Int)) ∧ p ≤ inf ∧ if n > 0 then Near p ((m * 2 ^ g) ^ k * 2 ^ K) (2 ^ (K * k)) else Near p (2 ^ (K + K * k)) ((m * 2 ^ g) ^ k) := by
      refine ⟨p, Ev_pos (by omega) (Ev.bind tm (Ev_neg hp (Ev.bind (by rw [one_lim']; exact h1) (Ev.now _)))), h2.top, ?_⟩
      rw [if_neg hp, hpow]
      rwa [Nat.one_mul] at h2
    by_cases hf : 1048576 < -(e * (k : Int))
    · obtain ⟨G, hG⟩ : ∃ G, G = 60000 := ⟨_, rfl⟩
      obtain ⟨h1, h2⟩ := RR_far (s := s) hG (pow_bits hm hk2 hG) lm D0 hf hab
      exact fin' inf h1 h2
    · obtain ⟨p, h1, h2⟩ := R4.RoundRatio_ev (s := s) (N := 1) (limb_small (by decide)) lm D0 (e := -(e * k)) (by omega) hab
      exact fin' p h1 h2
end Go.Proofs.YtobocamcoaeliaaGreatDoor.R6
/- What the sixth reference computes: Power, whole. No conditions. -/
namespace Go.Proofs.YtobocamcoaeliaaGreatDoor.R6
open Go.RowKit Go.Proofs.YtobocamcoaeliaaGreatDoor.Lib Go.Proofs.YtobocamcoaeliaaGreatDoor.LibB Go.Proofs.YtobocamcoaeliaaGreatDoor.F Go.Proofs.YtobocamcoaeliaaGreatDoor.Nat1 Go.Proofs.YtobocamcoaeliaaGreatDoor.Nat2 Go.Proofs.YtobocamcoaeliaaGreatDoor.Bits Go.Proofs.YtobocamcoaeliaaGreatDoor.Ieee1 Go.Proofs.YtobocamcoaeliaaGreatDoor.Mag Go.Proofs.YtobocamcoaeliaaGreatDoor.Ieee2 Go.Proofs.YtobocamcoaeliaaGreatDoor.Rnd Go.Proofs.YtobocamcoaeliaaGreatDoor.R1 Go.Proofs.YtobocamcoaeliaaGreatDoor.R4
open Go.Proofs.YtobocamcoaeliaaGreatDoor.Pure (cls_fin' cls_plc man_nat pow_limit mul_small PowR PowerR)
open Go.Proofs.YtobocamcoaeliaaGreatDoorA (rd ln ln_eq mx mn shl shr wr wr_eq)
set_option linter.unusedVariables false
set_option linter.unusedSimpArgs false
theorem signed_top (s : Bool) : abacusref06_signed.f s 9218868437227405312 = some (put s inf) := signed_put s (Nat.le_refl inf)
theorem signed_nil (s : Bool) : abacusref06_signed.f s 0 = some (put s 0) := signed_put s (p := 0) (by decide)
theorem two_small {c z : Nat} (h : (2 * c + 1) * 2 ^ z < 9007199254740992) : z ≤ 52 := by
  rcases Nat.lt_or_ge 52 z with hz | hz
  · have h1 : 2 ^ 53 ≤ 2 ^ z := Nat.pow_le_pow_right (by decide) hz
    have h2 : 1 * 2 ^ z ≤ (2 * c + 1) * 2 ^ z := Nat.mul_le_mul_right _ (by omega)
    have h3 : (2 : Nat) ^ 53 = 9007199254740992 := by decide
    omega
  · exact hz
theorem rPower_ev {x n : Int} (hx : U x) {K : Nat} (hK : K = 1074) : ∃ r, Ev (fun k _ _ => abacusref06_Power.f k x n) r ∧ PowerR K x n r := by
  simp only [abacusref06_Power.f, abacusref06_Power.b0]
  unfold PowerR
  by_cases h1 : n < -1024
  · exact ⟨_, Ev_pos h1 (Ev.now _), by rw [if_pos (.inl h1)]⟩
  by_cases h2 : n > 1024
  · exact ⟨_, Ev_neg h1 (Ev_pos h2 (Ev.now _)), by rw [if_pos (.inr h2)]⟩
  by_cases h0 : n = 0
  · exact ⟨_, Ev_neg h1 (Ev_neg h2 (Ev_pos h0 (Ev.now _))), by rw [if_neg (by omega), if_pos h0]⟩
  have dd := rDecode_eq hx
  suffices hs : ∃ d, Ev (fun k _ _ => abacusref06_Power.l63 k n (sgn x && Go.Proofs.YtobocamcoaeliaaGreatDoor.Pure.odd n) (sgn x) (cls x) (manOf x) (expOf x)) (d, 0) ∧ PowR K x n d by
    obtain ⟨d, e1, e2⟩ := hs
    refine ⟨(d, 0), Ev_neg h1 (Ev_neg h2 (Ev_neg h0 (Ev_bind_eq dd ?_))), by rw [if_neg (by omega), if_neg h0]; exact ⟨rfl, e2⟩⟩
    dsimp only
    cases hs : sgn x with
    | true => rw [hs, Bool.true_and] at e1; exact Ev_pos rfl e1
    | false => rw [hs, Bool.false_and] at e1; exact Ev_neg (by simp) e1
  unfold PowR
  obtain ⟨s, hs⟩ : ∃ s, s = (sgn x && Go.Proofs.YtobocamcoaeliaaGreatDoor.Pure.odd n) := ⟨_, rfl⟩
  rw [← hs]
  simp only [abacusref06_Power.l63, abacusref06_Power.b63]
  by_cases h4 : cls x = 4
  · exact ⟨_, Ev_pos h4 (Ev.now _), by rw [if_pos h4]⟩
  by_cases h3 : cls x = 3
  · by_cases hp : n > 0
    · exact ⟨put s inf, Ev_neg h4 (Ev_pos h3 (Ev_pos hp (Ev_bind_eq (signed_top s) (Ev.now _)))), by rw [if_neg h4, if_pos (.inl h3), decide_eq_true h3, decide_eq_true hp, if_pos rfl]⟩
    · exact ⟨put s 0, Ev_neg h4 (Ev_pos h3 (Ev_neg hp (Ev_bind_eq (signed_nil s) (Ev.now _)))), by rw [if_neg h4, if_pos (.inl h3), decide_eq_true h3, decide_eq_false hp, if_neg (by simp)]⟩
  by_cases z0 : cls x = 0
  · by_cases hp : n > 0
    · exact ⟨put s 0, Ev_neg h4 (Ev_neg h3 (Ev_pos z0 (Ev_pos hp (Ev_bind_eq (signed_nil s) (Ev.now _))))), by rw [if_neg h4, if_pos (.inr z0), decide_eq_false h3, decide_eq_true hp, if_neg (by simp)]⟩
    · exact ⟨put s inf, Ev_neg h4 (Ev_neg h3 (Ev_pos z0 (Ev_neg hp (Ev_bind_eq (signed_top s) (Ev.now _))))), by rw [if_neg h4, if_pos (.inr z0), decide_eq_false h3, decide_eq_false hp, if_pos rfl]⟩
  have hf : fin x := cls_fin' h4 h3
  obtain ⟨e0, e1⟩ := exp_range hf
  obtain ⟨M, am, rM, um⟩ := man_nat hf
  have M0 : M ≠ 0 := fun k => by
    rw [k, Nat.zero_mul] at um
    exact z0 ((@cls_plc x).2.2.1.2 (uni_inj (um.trans uni_zero.symm)))
  obtain ⟨c, hc⟩ := tz_spec M0
  rw [Nat.mul_comm] at hc
  have hz := two_small (c := c) (z := tz M) (by rw [← hc]; exact rM)
  have hle : 2 * c + 1 ≤ M := by
    have := Nat.mul_le_mul_left (2 * c + 1) (Nat.pow_pos (n := tz M) (show 0 < 2 by decide))
    omega
  generalize tz M = z at *
  obtain ⟨g, hg⟩ : ∃ g : Nat, expOf x + z + 1074 = (g : Int) := ⟨(expOf x + z + 1074).toNat, by omega⟩
  obtain ⟨p, p1, p2, p3⟩ := pow_last (n := n) (s := s) (m := 2 * c + 1) (k := n.natAbs) (e := expOf x + z) rfl h0 (by omega) (by omega) (by omega) ⟨by omega, by omega⟩ hK hg
  have hu : uni (plc x) = (2 * c + 1) * 2 ^ g := by
    rw [um]
    conv => lhs; lhs; rw [hc]
    rw [Nat.mul_assoc, ← Nat.pow_add]
    congr 2
    omega
  rw [← hu] at p3
  refine ⟨put s p, Ev_neg h4 (Ev_neg h3 (Ev_neg z0 ?_)), ?_⟩
  · have st := strip_ev (x0 := n) (x1 := s) z (2 * c + 1) (expOf x) (by omega) (by rw [← hc]; exact rM) (by omega) (by omega) p1
    rw [← hc, ← am] at st
    exact Ev_in (g := fun k j _ => abacusref06_Power.l4089 k j n s (manOf x) (expOf x)) st
  · rw [if_neg h4, if_neg (by rintro (k | k); exact h3 k; exact z0 k)]
    exact ⟨p, rfl, p2, p3⟩
end Go.Proofs.YtobocamcoaeliaaGreatDoor.R6
/- Pow of the program and of the sixth reference. No conditions. -/
namespace Go.Proofs.YtobocamcoaeliaaGreatDoor.R6
open Go.RowKit Go.Proofs.YtobocamcoaeliaaGreatDoor.Lib Go.Proofs.YtobocamcoaeliaaGreatDoor.LibB Go.Proofs.YtobocamcoaeliaaGreatDoor.F Go.Proofs.YtobocamcoaeliaaGreatDoor.Nat1 Go.Proofs.YtobocamcoaeliaaGreatDoor.Nat2 Go.Proofs.YtobocamcoaeliaaGreatDoor.Bits Go.Proofs.YtobocamcoaeliaaGreatDoor.Ieee1 Go.Proofs.YtobocamcoaeliaaGreatDoor.Mag Go.Proofs.YtobocamcoaeliaaGreatDoor.Ieee2 Go.Proofs.YtobocamcoaeliaaGreatDoor.Rnd Go.Proofs.YtobocamcoaeliaaGreatDoor.R1 Go.Proofs.YtobocamcoaeliaaGreatDoor.R4
open Go.Proofs.YtobocamcoaeliaaGreatDoor.Pure (cls_fin' cls_plc man_nat PowR PowerR rnd_exact Power_ev)
open Go.Proofs.YtobocamcoaeliaaGreatDoorA (rd ln ln_eq mx mn shl shr wr wr_eq)
set_option linter.unusedVariables false
set_option linter.unusedSimpArgs false
/-- y is a whole number t of at most 1024. -/
def Wh (Z : Nat) (y : Int) (t : Nat) : Prop := fin y ∧ uni (plc y) = t * 2 ^ Z ∧ t ≤ 1024
def PowS (Z : Nat) (x y : Int) (r : Int × Int) : Prop := (∃ t, Wh Z y t ∧ PowerR Z x (if sgn y = true then -(t : Int) else (t : Int)) r) ∨ ((¬ ∃ t, Wh Z y t) ∧ r = (0, 60))
theorem wh_place {Z t : Nat} {y : Int} (hZ : Z = 1074) (ht : t ≤ 1024) : (plc y = rnd t 0 false) ↔ Wh Z y t := by
  obtain ⟨x1, x2⟩ := rnd_exact (n := t) (e := 0) (by omega) (by omega)
  rw [show ((0 : Int) + 1074).toNat = Z by omega] at x1
  constructor
  · intro h
    exact ⟨plc_fin.2 (by rw [h]; exact x2), by rw [h]; exact x1, ht⟩
  · intro h
    exact uni_inj (h.2.1.trans x1.symm)
theorem wh_one {Z t u : Nat} {y : Int} (h : Wh Z y t) (k : Wh Z y u) : t = u := by
  have := h.2.1.symm.trans k.2.1
  exact Nat.eq_of_mul_eq_mul_right (Nat.pow_pos (by decide)) this
theorem rPow_ev {x y : Int} (hx : U x) (hy : U y) {Z : Nat} (hZ : Z = 1074) : ∃ r, Ev (fun k _ _ => abacusref06_Pow.f k x y) r ∧ PowS Z x y r := by
  have dd := rDecode_eq hy
  have tm : Int.tmod y 9223372036854775808 = (plc y : Int) := Go.Proofs.YtobocamcoaeliaaGreatDoor.Pure.tmod_pos hy
  simp only [abacusref06_Pow.f, abacusref06_Pow.b0]
  unfold PowS
  by_cases h4 : cls y = 4
  · exact ⟨(0, 60), Ev_bind_eq dd (Ev_pos h4 (Ev.now _)), .inr ⟨fun ⟨t, h, _⟩ => cls_fin.1 (by omega) h, rfl⟩⟩
  by_cases h3 : cls y = 3
  · exact ⟨(0, 60), Ev_bind_eq dd (Ev_neg h4 (Ev_pos h3 (Ev.now _))), .inr ⟨fun ⟨t, h, _⟩ => cls_fin.1 (by omega) h, rfl⟩⟩
  have wr1 (i : Nat) (hi : i ≤ 1024) : IntKind.u64.wrap (i : Int) = (i : Int) := by rw [IntKind.wrap_u64]; omega
  have wr2 (i : Nat) (hi : i ≤ 1024) : wrap64 ((i : Int) + 1) = ((i + 1 : Nat) : Int) := by unfold wrap64; omega
  have wr3 (i : Nat) (hi : i ≤ 1024) : wrap64 (-(i : Int)) = -(i : Int) := by unfold wrap64; omega
  have nxt {r : Int × Int} (i : Nat) (hi : i ≤ 1024) (hne : ¬ Wh Z y i) (h : Ev (fun k m _ => abacusref06_Pow.l245 k m x y ((i + 1 : Nat) : Int) (sgn y) (cls y) (manOf y) (expOf y)) r) : Ev (fun k m _ => abacusref06_Pow.l245 k m x y (i : Int) (sgn y) (cls y) (manOf y) (expOf y)) r := by
    refine Ev_succ ?_
    simp only [abacusref06_Pow.l245, abacusref06_Pow.b245, wr1 i hi, wr2 i hi, tm]
    refine Ev_pos (by omega) (Ev.bind (FromUint_ev' (by omega)) (Ev_neg (fun k => hne ((wh_place hZ hi).1 (by omega))) h))
  by_cases hw : ∃ t, Wh Z y t
  · obtain ⟨t, ht⟩ := hw
    have ht4 := ht.2.2
    obtain ⟨r, e1, e2⟩ := rPower_ev (n := if sgn y = true then -(t : Int) else (t : Int)) hx hZ
    refine ⟨r, Ev_bind_eq dd (Ev_neg h4 (Ev_neg h3 ?_)), .inl ⟨t, ht, e2⟩⟩
    have go (d : Nat) : ∀ i, i + d = t → Ev (fun k m _ => abacusref06_Pow.l245 k m x y (i : Int) (sgn y) (cls y) (manOf y) (expOf y)) r := by
      induction d with
      | zero =>
        intro i hi
        obtain rfl : i = t := by omega
        have hp := (wh_place hZ ht4).2 ht
        refine Ev_succ ?_
        simp only [abacusref06_Pow.l245, abacusref06_Pow.b245, wr1 i ht4, wr3 i ht4, tm]
        refine Ev_pos (by omega) (Ev.bind (FromUint_ev' (by omega)) (Ev_pos (by rw [hp]) ?_))
        by_cases hs : sgn y = true
        · rw [if_pos hs] at e1
          exact Ev_pos hs (Ev.bind e1 (Ev.now _))
        · rw [if_neg hs] at e1
          exact Ev_neg hs (Ev.bind e1 (Ev.now _))
      | succ d ih =>
        intro i hi
        exact nxt i (by omega) (fun k => by have := wh_one ht k; omega) (ih (i + 1) (by omega))
    exact Ev_in (g := fun k m _ => abacusref06_Pow.l245 k m x y 0 (sgn y) (cls y) (manOf y) (expOf y)) (go t 0 (by omega))
  · refine ⟨(0, 60), Ev_bind_eq dd (Ev_neg h4 (Ev_neg h3 ?_)), .inr ⟨hw, rfl⟩⟩
    have go (d : Nat) : ∀ i, i + d = 1025 → Ev (fun k m _ => abacusref06_Pow.l245 k m x y (i : Int) (sgn y) (cls y) (manOf y) (expOf y)) (0, 60) := by
      induction d with
      | zero =>
        intro i hi
        refine Ev_succ ?_
        simp only [abacusref06_Pow.l245, abacusref06_Pow.b245]
        exact Ev_neg (by omega) (Ev.now _)
      | succ d ih =>
        intro i hi
        exact nxt i (by omega) (fun k => hw ⟨i, k⟩) (ih (i + 1) (by omega))
    exact Ev_in (g := fun k m _ => abacusref06_Pow.l245 k m x y 0 (sgn y) (cls y) (manOf y) (expOf y)) (go 1025 0 (by omega))
end Go.Proofs.YtobocamcoaeliaaGreatDoor.R6
/- Pow of the program, and that the answers are one. No conditions. -/
namespace Go.Proofs.YtobocamcoaeliaaGreatDoor.R6
open Go.RowKit Go.Proofs.YtobocamcoaeliaaGreatDoor.Lib Go.Proofs.YtobocamcoaeliaaGreatDoor.LibB Go.Proofs.YtobocamcoaeliaaGreatDoor.F Go.Proofs.YtobocamcoaeliaaGreatDoor.Nat1 Go.Proofs.YtobocamcoaeliaaGreatDoor.Nat2 Go.Proofs.YtobocamcoaeliaaGreatDoor.Bits Go.Proofs.YtobocamcoaeliaaGreatDoor.Ieee1 Go.Proofs.YtobocamcoaeliaaGreatDoor.Mag Go.Proofs.YtobocamcoaeliaaGreatDoor.Ieee2 Go.Proofs.YtobocamcoaeliaaGreatDoor.Rnd Go.Proofs.YtobocamcoaeliaaGreatDoor.R1 Go.Proofs.YtobocamcoaeliaaGreatDoor.R4
open Go.Proofs.YtobocamcoaeliaaGreatDoor.Pure (cls_fin' cls_plc man_nat PowR PowerR rnd_exact Power_ev odd)
open Go.Proofs.YtobocamcoaeliaaGreatDoorA (rd ln ln_eq mx mn shl shr wr wr_eq)
set_option linter.unusedVariables false
set_option linter.unusedSimpArgs false
theorem powr_same {K : Nat} {x n d d' : Int} (h : PowR K x n d) (k : PowR K x n d') : d = d' := by
  unfold PowR at h k
  split at h
  · rw [if_pos (by assumption)] at k; rw [h, k]
  · rw [if_neg (by assumption)] at k
    split at h
    · rw [if_pos (by assumption)] at k; rw [h, k]
    · rw [if_neg (by assumption)] at k
      obtain ⟨p, rfl, _, h2⟩ := h
      obtain ⟨q, rfl, _, k2⟩ := k
      have pV : 0 < uni (plc x) ^ n.natAbs := by
        refine Nat.pow_pos ?_
        have c0 := (@cls_plc x).2.2.1
        have : 0 < plc x := Nat.pos_of_ne_zero fun h => by have := c0.2 h; omega
        have := uni_smono this
        rwa [uni_zero] at this
      split at h2
      · rw [if_pos (by assumption)] at k2
        rw [near_unique (Nat.pow_pos (by omega)) (Nat.pow_pos (by omega)) h2 k2 rfl]
      · rw [if_neg (by assumption)] at k2
        rw [near_unique pV pV h2 k2 rfl]
theorem toInt_three (s : Bool) (t : Nat) : toInt s t = ((t : Int), 0) ∨ toInt s t = (-(t : Int), 0) ∨ toInt s t = (0, 41) := by
  unfold toInt
  split
  · exact .inl rfl
  · split
    · exact .inr (.inl rfl)
    · exact .inr (.inr rfl)
theorem power_same {K : Nat} {x n : Int} {r r' : Int × Int} (h : PowerR K x n r) (k : PowerR K x n r') : r = r' := by
  unfold PowerR at h k
  by_cases h1 : n < -1024 ∨ n > 1024
  · rw [if_pos h1] at h k; rw [h, k]
  rw [if_neg h1] at h k
  by_cases h2 : n = 0
  · rw [if_pos h2] at h k; rw [h, k]
  rw [if_neg h2] at h k
  exact Prod.ext (powr_same h.2 k.2) (h.1.trans k.1.symm)
theorem pows_same {K : Nat} {x y : Int} {r r' : Int × Int} (h : PowS K x y r) (k : PowS K x y r') : r = r' := by
  rcases h with ⟨t, h1, h2⟩ | ⟨h1, h2⟩
  · rcases k with ⟨u, k1, k2⟩ | ⟨k1, k2⟩
    · obtain rfl := wh_one h1 k1
      exact power_same h2 k2
    · exact absurd ⟨t, h1⟩ k1
  · rcases k with ⟨u, k1, k2⟩ | ⟨k1, k2⟩
    · exact absurd ⟨u, k1⟩ h1
    · rw [h2, k2]
theorem pPow_ev {x y : Int} (hx : U x) (hy : U y) {Z : Nat} (hZ : Z = 1074) : ∃ r, Ev (fun k _ _ => remain_Pow.f k x y) r ∧ PowS Z x y r := by
  simp only [remain_Pow.f, remain_Pow.b0]
  unfold PowS
  have hI := Integral_eq hy
  have hT := ToInt_ev hy
  rw [← hZ] at hI
  by_cases hi : fin y ∧ uni (plc y) % 2 ^ Z = 0
  · rw [decide_eq_true hi] at hI
    rw [if_pos hi.1] at hT
    obtain ⟨t, ht⟩ : ∃ t, t = trunc y := ⟨_, rfl⟩
    have hu : uni (plc y) = t * 2 ^ Z := by
      have := Nat.div_add_mod (uni (plc y)) (2 ^ Z)
      rw [hi.2, Nat.add_zero, Nat.mul_comm] at this
      rw [ht, trunc, ← hZ]
      exact this.symm
    rw [← ht] at hT
    by_cases h10 : t ≤ 1024
    · obtain ⟨r, e1, e2⟩ := Power_ev (n := if sgn y = true then -(t : Int) else (t : Int)) hx hZ
      have hti : toInt (sgn y) t = (if sgn y = true then -(t : Int) else (t : Int), 0) := by
        unfold toInt
        cases hs : sgn y with
        | true => rw [if_neg (by simp), if_pos ⟨by omega, rfl⟩, if_pos rfl]
        | false => rw [if_pos ⟨by omega, rfl⟩, if_neg (by simp)]
      rw [hti] at hT
      have hr : ¬ (if sgn y = true then -(t : Int) else (t : Int)) < -1024 ∧ ¬ (if sgn y = true then -(t : Int) else (t : Int)) > 1024 := by split <;> omega
      exact ⟨r, Ev_bind_eq hI (Ev_neg (by simp) (Ev.bind hT (Ev_neg (fun k => k rfl) (Ev_neg hr.1 (Ev_neg hr.2 (Ev.bind e1 (Ev.now _))))))), .inl ⟨t, ⟨hi.1, hu, h10⟩, e2⟩⟩
    · have no : ¬ ∃ t, Wh Z y t := fun ⟨u, h⟩ => by
        have := Nat.eq_of_mul_eq_mul_right (Nat.pow_pos (by decide)) (hu.symm.trans h.2.1)
        have := h.2.2
        omega
      refine ⟨(0, 60), Ev_bind_eq hI (Ev_neg (by simp) (Ev.bind hT ?_)), .inr ⟨no, rfl⟩⟩
      rcases toInt_three (sgn y) t with h | h | h
      · rw [h]
        exact Ev_neg (fun k => k rfl) (Ev_neg (show ¬ (t : Int) < -1024 by omega) (Ev_pos (show (t : Int) > 1024 by omega) (Ev.now _)))
      · rw [h]
        exact Ev_neg (fun k => k rfl) (Ev_pos (show -(t : Int) < -1024 by omega) (Ev.now _))
      · rw [h]
        exact Ev_pos (show ¬ (41 : Int) = 0 by omega) (Ev.now _)
  · rw [decide_eq_false hi] at hI
    exact ⟨(0, 60), Ev_bind_eq hI (Ev_pos rfl (Ev.now _)), .inr ⟨fun ⟨t, h⟩ => hi ⟨h.1, by rw [h.2.1]; exact Nat.mul_mod_left _ _⟩, rfl⟩⟩
end Go.Proofs.YtobocamcoaeliaaGreatDoor.R6
/- What the sixth reference computes: Split. No conditions. -/
namespace Go.Proofs.YtobocamcoaeliaaGreatDoor.R6
open Go.RowKit Go.Proofs.YtobocamcoaeliaaGreatDoor.Lib Go.Proofs.YtobocamcoaeliaaGreatDoor.LibB Go.Proofs.YtobocamcoaeliaaGreatDoor.F Go.Proofs.YtobocamcoaeliaaGreatDoor.Nat1 Go.Proofs.YtobocamcoaeliaaGreatDoor.Nat2 Go.Proofs.YtobocamcoaeliaaGreatDoor.Bits Go.Proofs.YtobocamcoaeliaaGreatDoor.Ieee1 Go.Proofs.YtobocamcoaeliaaGreatDoor.Mag Go.Proofs.YtobocamcoaeliaaGreatDoor.Ieee2 Go.Proofs.YtobocamcoaeliaaGreatDoor.Rnd Go.Proofs.YtobocamcoaeliaaGreatDoor.R1 Go.Proofs.YtobocamcoaeliaaGreatDoor.R4
open Go.Proofs.YtobocamcoaeliaaGreatDoor.Pure (rst rst_scale up CutR cls_fin' cls_plc man_nat rnd_exact)
open Go.Proofs.YtobocamcoaeliaaGreatDoorA (rd ln ln_eq mx mn shl shr wr wr_eq)
set_option linter.unusedVariables false
set_option linter.unusedSimpArgs false
/-- What Split answers. -/
def SplitR (Z : Nat) (d : Int) (r : Int × Int) : Prop := if cls d = 4 then r = (9221120237041090560, 9221120237041090560) else if cls d = 3 then r = (d, put (sgn d) 0)
  else ∃ pt pf : Nat, r = (put (sgn d) pt, put (sgn d) pf) ∧ uni pt = uni (plc d) / 2 ^ Z * 2 ^ Z ∧ uni pf = uni (plc d) % 2 ^ Z
theorem split_same {Z : Nat} {d : Int} {r r' : Int × Int} (h : SplitR Z d r) (k : SplitR Z d r') : r = r' := by
  unfold SplitR at h k
  by_cases h4 : cls d = 4
  · rw [if_pos h4] at h k; rw [h, k]
  rw [if_neg h4] at h k
  by_cases h3 : cls d = 3
  · rw [if_pos h3] at h k; rw [h, k]
  rw [if_neg h3] at h k
  obtain ⟨p, q, rfl, e1, e2⟩ := h
  obtain ⟨p', q', rfl, e3, e4⟩ := k
  rw [uni_inj (e1.trans e3.symm), uni_inj (e2.trans e4.symm)]
theorem rToUint_ev {n : Nat} (h : n < 18446744073709551616) : ∃ b, Ev (fun k _ _ => abacusref01_ToUint.f k (lim n)) ((n : Int), b) := by
  have hB : n < B 4096 := limb_small h
  have sz := abacusref01_Size_ev (ok_lim n) (by have := (lim_len_le n 4096).2 hB; omega)
  rw [val_lim] at sz
  have zn := @lim_len_zero n
  have l1 : (lim n).length ≤ 1 := (lim_len_le n 1).2 (by rw [B_one]; exact h)
  simp only [abacusref01_ToUint.f, abacusref01_ToUint.b0]
  by_cases n0 : n = 0
  · subst n0
    exact ⟨_, Ev.bind sz (by first | exact Ev_pos (by omega) (Ev.now _) | exact Ev_neg (by omega) (Ev_pos (by omega) (Ev.now _)))⟩
  · have hr : rd (lim n) 0 = (n : Int) := by rw [lim_one_len h n0]; rfl
    have hln : ln (lim n) = 1 := by rw [ln_eq]; omega
    rw [hr] at *
    exact ⟨_, Ev.bind sz (by first | exact Ev_neg (by omega) (Ev_neg (by omega) (Ev_pos (by omega) (Ev_pos (by omega) (Ev.now _)))) | exact Ev_neg (by omega) (Ev_neg (by omega) (Ev_pos (by omega) (Ev.now _))))⟩
theorem rSplit_ev {d : Int} (hd : U d) {Z : Nat} (hZ : Z = 1074) : ∃ r, Ev (fun k _ _ => abacusref06_Split.f k d) r ∧ SplitR Z d r := by
  have dd := rDecode_eq hd
  simp only [abacusref06_Split.f, abacusref06_Split.b0]
  unfold SplitR
  by_cases h4 : cls d = 4
  · exact ⟨_, Ev_bind_eq dd (Ev_pos h4 (Ev.now _)), by rw [if_pos h4]⟩
  by_cases h3 : cls d = 3
  · exact ⟨_, Ev_bind_eq dd (Ev_neg h4 (Ev_pos h3 (Ev_bind_eq (signed_nil (sgn d)) (Ev.now _)))), by rw [if_neg h4, if_pos h3]⟩
  simp only [if_neg h4, if_neg h3]
  have hf : fin d := cls_fin' h4 h3
  have pd := (Go.Proofs.YtobocamcoaeliaaGreatDoor.Pure.plc_put hd h4).1
  obtain ⟨e0, e1⟩ := exp_range hf
  obtain ⟨m, am, rm, um⟩ := man_nat hf
  by_cases he : expOf d ≥ 0
  · refine ⟨_, Ev_bind_eq dd (Ev_neg h4 (Ev_neg h3 (Ev_pos he (Ev_bind_eq (signed_nil (sgn d)) (Ev.now _))))), plc d, 0, by rw [← pd], ?_, ?_⟩
    all_goals
      obtain ⟨j, hj⟩ : ∃ j : Nat, (expOf d + 1074).toNat = j + Z := ⟨(expOf d).toNat, by omega⟩
      rw [um, hj, Nat.pow_add, ← Nat.mul_assoc]
    · rw [Nat.mul_div_cancel _ (Nat.pow_pos (by decide))]
    · rw [Nat.mul_mod_left, uni_zero]
  obtain ⟨k, hk⟩ : ∃ k : Nat, expOf d = -(k : Int) := ⟨(-expOf d).toNat, by omega⟩
  obtain ⟨q, hq⟩ : ∃ q, q = (expOf d + 1074).toNat := ⟨_, rfl⟩
  have hqZ : Z = k + q := by omega
  have pq : 0 < 2 ^ q := Nat.pow_pos (by omega)
  rw [← hq] at um
  have e3 : uni (plc d) % 2 ^ Z = m % 2 ^ k * 2 ^ q := by rw [um, hqZ, Nat.pow_add, Nat.mul_mod_mul_right]
  rw [am] at dd
  have ct := Cut_ev (s := sgn d) (c := cls d) (m := m) hk (by omega) (by omega) rm
  obtain ⟨x, ex, cx⟩ := whole_ev (rule := 0) hd hZ
  unfold CutR at cx
  rw [if_pos hf] at cx
  obtain ⟨pt, rfl, _, ut⟩ := cx
  have hup : up (ruleOf 0) (sgn d) (uni (plc d) / 2 ^ Z) (uni (plc d) % 2 ^ Z) (2 ^ Z) = false := by unfold up ruleOf; exact Bool.and_false _
  rw [hup] at ut
  replace ut : uni pt = uni (plc d) / 2 ^ Z * 2 ^ Z := ut
  obtain ⟨f, hF⟩ : ∃ f, f = m % 2 ^ k := ⟨_, rfl⟩
  have hfm : f ≤ m := by rw [hF]; exact Nat.mod_le _ _
  obtain ⟨x1, x2⟩ := rnd_exact (n := f) (e := expOf d) (by omega) (by omega)
  rw [← hq] at x1
  have last : Ev (fun n _ _ => abacusref06_Split.l255 n d (f : Int) (sgn d) (cls d) (m : Int) (expOf d)) (put (sgn d) pt, put (sgn d) (rnd f (expOf d) false)) := by
    simp only [abacusref06_Split.l255, abacusref06_Split.b255]
    exact Ev.bind (round_one (by omega) (by omega)) (Ev.bind ex (Ev.now _))
  refine ⟨_, ?_, pt, rnd f (expOf d) false, rfl, ut, by rw [x1, e3, hF]⟩
  have w1 : wrap64 (-expOf d) = (k : Int) := by rw [hk]; unfold wrap64; omega
  refine Ev_bind_eq dd (Ev_neg h4 (Ev_neg h3 (Ev_neg he (Ev.bind ct ?_))))
  simp only [w1]
  have hdm := Nat.div_add_mod m (2 ^ k)
  rw [← hF, Nat.mul_comm] at hdm
  obtain ⟨w, hw⟩ : ∃ w, w = m / 2 ^ k := ⟨_, rfl⟩
  have hwm : w ≤ m := by rw [hw]; exact Nat.div_le_self _ _
  rw [← hw] at hdm ⊢
  by_cases w0 : w = 0
  · have hmf : m = f := by rw [w0, Nat.zero_mul] at hdm; omega
    refine Ev_neg (by omega) ?_
    rw [← hmf] at last ⊢
    exact last
  · have L := Lift_ev (a := [(w : Int)]) (n := k) (limb_ok (by omega)) (by simp) (by omega)
    rw [limb_val] at L
    generalize w * 2 ^ k = P at *
    have hP : P < B 4096 := limb_small (by omega)
    have le1 := Less_ev (a := [(m : Int)]) (limb_ok (by omega)) (ok_lim P) (by simp) (by have := (lim_len_le P 4096).2 hP; omega) (by rw [limb_val, val_lim]; omega)
    rw [limb_val, val_lim, show m - P = f by omega] at le1
    obtain ⟨b, tb⟩ := rToUint_ev (n := f) (by omega)
    exact Ev_pos (by omega) (Ev.bind L (Ev.bind le1 (Ev.bind tb last)))
end Go.Proofs.YtobocamcoaeliaaGreatDoor.R6
/- Split of the program, for every double. No conditions. -/
namespace Go.Proofs.YtobocamcoaeliaaGreatDoor.Pure
open Go.RowKit Go.Proofs.YtobocamcoaeliaaGreatDoor.Lib Go.Proofs.YtobocamcoaeliaaGreatDoor.LibB Go.Proofs.YtobocamcoaeliaaGreatDoor.F Go.Proofs.YtobocamcoaeliaaGreatDoor.Nat1 Go.Proofs.YtobocamcoaeliaaGreatDoor.Nat2 Go.Proofs.YtobocamcoaeliaaGreatDoor.Bits Go.Proofs.YtobocamcoaeliaaGreatDoor.Div Go.Proofs.YtobocamcoaeliaaGreatDoor.Quot1 Go.Proofs.YtobocamcoaeliaaGreatDoor.Ieee1 Go.Proofs.YtobocamcoaeliaaGreatDoor.Mag Go.Proofs.YtobocamcoaeliaaGreatDoor.Ieee2 Go.Proofs.YtobocamcoaeliaaGreatDoor.Rnd Go.Proofs.YtobocamcoaeliaaGreatDoor.Rn
open Go.Proofs.YtobocamcoaeliaaGreatDoorA (rd ln ln_eq mx mn shl shr wr wr_eq)
open Go.Proofs.YtobocamcoaeliaaGreatDoor.Soft1 (Rd sv sval Sub_ev rd_exact sv_abs)
set_option linter.unusedVariables false
set_option linter.unusedSimpArgs false
theorem frac_rep2 {d : Int} {Z : Nat} (hZ : Z = 1074) (hf : fin d) : ∃ p, p ≤ inf ∧ uni p = uni (plc d) % 2 ^ Z := by
  have hm := man_range hf
  have he := exp_range hf
  rw [uni_parts hf]
  obtain ⟨k, hk⟩ : ∃ k : Nat, (expOf d + 1074).toNat = k := ⟨_, rfl⟩
  rw [hk]
  by_cases h : Z ≤ k
  · refine ⟨0, by decide, ?_⟩
    obtain ⟨j, rfl⟩ : ∃ j, k = Z + j := ⟨k - Z, by omega⟩
    rw [uni_zero, Nat.pow_add, Nat.mul_left_comm, Nat.mul_mod_right]
  · obtain ⟨j, hj⟩ : ∃ j, Z = k + j := ⟨Z - k, by omega⟩
    obtain ⟨p, h1, h2⟩ := uni_rep k ((manOf d).toNat % 2 ^ j) (Nat.le_trans (Nat.mod_le _ _) (by omega)) (by omega)
    refine ⟨p, h1, ?_⟩
    rw [h2, hj, Nat.pow_add, Nat.mul_comm (2 ^ k), Nat.mul_mod_mul_right]
theorem Split_fin {d : Int} {s : Bool} {Z pd : Nat} (hZ : Z = 1074) (hd : U d) (hf : fin d) (hs : sgn d = s) : ∃ pt pf : Nat, Ev (fun n _ _ => remain_Split.f n d) (put s pt, put s pf) ∧ pt < inf ∧ pf ≤ inf ∧ uni pt = uni (plc d) / 2 ^ Z * 2 ^ Z ∧ uni pf = uni (plc d) % 2 ^ Z := by
  obtain ⟨tr, et, rt⟩ := Trunc_ev hd hZ
  unfold CutR at rt
  rw [if_pos hf, hs] at rt
  obtain ⟨pt, rfl, hpt, ut⟩ := rt
  have hup : up (fun _ _ _ => false) s (uni (plc d) / 2 ^ Z) (uni (plc d) % 2 ^ Z) (2 ^ Z) = false := by unfold up; exact Bool.and_false _
  rw [hup] at ut
  replace ut : uni pt = uni (plc d) / 2 ^ Z * 2 ^ Z := ut
  obtain ⟨pf, hpf, uf⟩ := frac_rep2 hZ hf
  obtain ⟨u1, e1, e2⟩ := put_U (s := s) (Nat.le_of_lt hpt)
  have f1 : fin (put s pt) := plc_fin.2 (by rw [e1]; exact hpt)
  obtain ⟨r, er, hr⟩ := Sub_ev hd u1 hf f1
  have hval : sval d - sval (put s pt) = sv s (uni pf) := by
    unfold sval
    rw [hs, e1, e2, ut, uf]
    have := Nat.div_add_mod (uni (plc d)) (2 ^ Z)
    rw [Nat.mul_comm] at this
    generalize uni (plc d) = V at *
    generalize V / 2 ^ Z * 2 ^ Z = T at *
    generalize V % 2 ^ Z = f at *
    unfold sv
    cases s <;> simp <;> omega
  rw [hval] at hr
  obtain ⟨q1, q2, q3⟩ := rd_exact hr hpf (sv_abs s (uni pf))
  refine ⟨pt, pf, ?_, hpt, hpf, ut, uf⟩
  have c34 := fun h => cls_fin.1 h hf
  simp only [remain_Split.f, remain_Split.b0]
  refine Ev_bind_eq (Decode_eq hd) (Ev.bind et (Ev_neg (fun h => c34 (by dsimp only at h; omega)) (Ev_neg (fun h => c34 (by dsimp only at h; omega)) (Ev.bind er ?_))))
  have hab : Go.bits .andNot .u64 r 9223372036854775808 = (pf : Int) := by
    rw [bit_abs q2]
    unfold plc at q1
    unfold U at q2
    omega
  rw [hab]
  by_cases h0 : pf = 0
  · subst h0
    dsimp only
    rw [hs]
    exact Ev_pos rfl (Ev_bind_eq (signed_zero' s) (Ev.now _))
  · have hu : 0 < uni pf := by
      have := uni_smono (show 0 < pf by omega)
      rw [uni_zero] at this; exact this
    rw [q1] at q3
    have hsr : sgn r = s := by
      generalize uni pf = n at *
      unfold sv at q3
      cases h1 : sgn r <;> cases s <;> rw [h1] at q3 <;> simp at q3 <;> first | rfl | omega
    have hrp : r = put s pf := by
      have hc : cls r ≠ 4 := by
        intro k
        have h2 := cls_nan.1 k
        unfold nan at h2
        unfold plc at q1
        unfold inf at hpf
        omega
      have h2 := (plc_put q2 hc).1
      rwa [q1, hsr] at h2
    rw [hrp]
    exact Ev_neg (by omega) (Ev.now _)
theorem pSplit_ev {d : Int} (hd : U d) {Z : Nat} (hZ : Z = 1074) : ∃ r, Ev (fun k _ _ => remain_Split.f k d) r ∧ Go.Proofs.YtobocamcoaeliaaGreatDoor.R6.SplitR Z d r := by
  unfold Go.Proofs.YtobocamcoaeliaaGreatDoor.R6.SplitR
  obtain ⟨x, ex, _⟩ := Trunc_ev hd hZ
  by_cases h4 : cls d = 4
  · refine ⟨(9221120237041090560, 9221120237041090560), ?_, by rw [if_pos h4]⟩
    simp only [remain_Split.f, remain_Split.b0]
    exact Ev_bind_eq (Decode_eq hd) (Ev.bind ex (Ev_pos h4 (Ev.now _)))
  by_cases h3 : cls d = 3
  · refine ⟨(d, put (sgn d) 0), ?_, by rw [if_neg h4, if_pos h3]⟩
    simp only [remain_Split.f, remain_Split.b0]
    exact Ev_bind_eq (Decode_eq hd) (Ev.bind ex (Ev_neg h4 (Ev_pos h3 (Ev_bind_eq (signed_zero' _) (Ev.now _)))))
  · have hf : fin d := cls_fin' h4 h3
    obtain ⟨pt, pf, e1, _, _, e2, e3⟩ := Split_fin (pd := 0) hZ hd hf rfl
    exact ⟨_, e1, by rw [if_neg h4, if_neg h3]; exact ⟨pt, pf, rfl, e2, e3⟩⟩
end Go.Proofs.YtobocamcoaeliaaGreatDoor.Pure
