/- What the printed RoundRatio of ieee computes: the double nearest to a fraction. Conditions: naturals within the limit. -/
import Derived.Test.YtcacmhcekoeblaaDoorQMag
import Derived.Test.YtcacmhcekoeblaaDoorQMad
import Derived.Test.YtcacmhcekoeblaaDoorQIeee2
import Derived.Test.YtcacmhcekoeblaaDoorQQuot1
namespace Go.Proofs.YtcacmhcekoeblaaDoor.Ratio
open Go.RowKit Go.Proofs.YtcacmhcekoeblaaDoor.Lib Go.Proofs.YtcacmhcekoeblaaDoor.LibB Go.Proofs.YtcacmhcekoeblaaDoor.F Go.Proofs.YtcacmhcekoeblaaDoor.Nat1 Go.Proofs.YtcacmhcekoeblaaDoor.Nat2 Go.Proofs.YtcacmhcekoeblaaDoor.Bits Go.Proofs.YtcacmhcekoeblaaDoor.Mad Go.Proofs.YtcacmhcekoeblaaDoor.Ieee1 Go.Proofs.YtcacmhcekoeblaaDoor.Mag Go.Proofs.YtcacmhcekoeblaaDoor.Rnd
open Go.Proofs.YtcacmhcekoeblaaDoorA (rd ln ln_eq mx mn shl shr wr wr_eq)
set_option linter.unusedVariables false
set_option linter.unusedSimpArgs false
open Go.Proofs.YtcacmhcekoeblaaDoor.Ieee2 (put limb_ev rnd_top near_eq clamp_range blen_limit blen_B)
open Go.Proofs.YtcacmhcekoeblaaDoor.Quot1 (dm_ev add_ev sub_ev cmp_ev len_lim small_limit)
open Go.Proofs.YtcacmhcekoeblaaDoor.Pow (ans_ok)
def clamp (e : Int) : Int := if (if e < 1099511627776 then e else 1099511627776) < -1099511627776 then -1099511627776 else (if e < 1099511627776 then e else 1099511627776)
theorem clamp_in {e : Int} (h0 : -1099511627776 ≤ e) (h1 : e ≤ 1099511627776) : clamp e = e := by unfold clamp; repeat' split
                                                                                                  all_goals omega
/-- The double nearest to q and something (if rest) times 2^e, q of 66 digits at least. -/
theorem ratio_end {q r D X a b t : Nat} {e : Int} (hq : 65 < blen q) (hD : 0 < D) (hr : r < D) (hX : q * D + r = X * 2 ^ t) (hab : (a : Int) - b = e + t + 1074) :
    Near (rnd q e (decide (r ≠ 0))) (X * 2 ^ a) (D * 2 ^ b) := by
  have hq0 : q ≠ 0 := fun h => by rw [h] at hq; simp [blen_zero] at hq
  have hB : 0 < 2 ^ b := Nat.pow_pos (by omega)
  have hT : 0 < 2 ^ t := Nat.pow_pos (by omega)
  -- the same counted by e: 2^(a+?) ...
  obtain ⟨a', b', h1⟩ : ∃ a' b' : Nat, (a' : Int) - b' = e + 1074 := ⟨(e + 1074).toNat, (-(e + 1074)).toNat, by omega⟩
  have hB' : 0 < 2 ^ b' := Nat.pow_pos (by omega)
  have hpow : 2 ^ t * 2 ^ (a' + b) = 2 ^ (a + b') := by rw [← Nat.pow_add]; congr 1; omega
  by_cases h0 : r = 0
  · rw [decide_eq_false (by omega)]
    have n := rnd_near q e h1
    refine near_congr hB' (Nat.mul_pos hD hB) n ?_
    -- q * 2^a' * (D * 2^b) = X * 2^a * 2^b'
    have e1 : q * 2 ^ a' * (D * 2 ^ b) = (q * D) * 2 ^ (a' + b) := by rw [Nat.pow_add, Nat.mul_mul_mul_comm]
    have e2 : X * 2 ^ a * 2 ^ b' = X * 2 ^ t * 2 ^ (a' + b) := by rw [Nat.mul_assoc, ← Nat.pow_add, ← hpow, Nat.mul_assoc]
    rw [e1, e2, ← hX, h0, Nat.add_zero]
  · rw [decide_eq_true h0]
    refine rnd_more q e h1 hq0 (Nat.mul_pos hD hB) ?_ ?_ ?_
    · right
      unfold unitOf
      split <;> omega
    · have e1 : q * 2 ^ a' * (D * 2 ^ b) = (q * D) * 2 ^ (a' + b) := by rw [Nat.pow_add, Nat.mul_mul_mul_comm]
      have e2 : X * 2 ^ a * 2 ^ b' = X * 2 ^ t * 2 ^ (a' + b) := by rw [Nat.mul_assoc, ← Nat.pow_add, ← hpow, Nat.mul_assoc]
      rw [e1, e2, ← hX]
      exact Nat.mul_lt_mul_of_pos_right (by omega) (Nat.pow_pos (by omega))
    · have e1 : (q + 1) * 2 ^ a' * (D * 2 ^ b) = ((q + 1) * D) * 2 ^ (a' + b) := by rw [Nat.pow_add, Nat.mul_mul_mul_comm]
      have e2 : X * 2 ^ a * 2 ^ b' = X * 2 ^ t * 2 ^ (a' + b) := by rw [Nat.mul_assoc, ← Nat.pow_add, ← hpow, Nat.mul_assoc]
      rw [e1, e2, ← hX, Nat.add_mul q 1, Nat.one_mul]
      exact Nat.mul_lt_mul_of_pos_right (by omega) (Nat.pow_pos (by omega))
theorem mad2_ev {q : Nat} {c : Int} (hq : q < 73786976294838206464) (hc : c = 0 ∨ c = 1) : Ev (fun k _ _ => nat_MulAdd.f k (lim q) 2 c) (lim (q * 2 + c.toNat), 0) := by
  have hB : 73786976294838206464 * 2 < B 4096 := by
    have := B_mono (show 2 ≤ 4096 by omega)
    rw [B_succ 1, B_one] at this
    omega
  have := nat_MulAdd_ev (a := lim q) (m := 2) (c := c) (ok_lim q) (by have := len_lim (show q < B 4096 by omega); omega) (by omega) (by omega)
  rwa [val_lim, mulAddAns, if_pos (by omega), show (2 : Int).toNat = 2 from rfl, ans_ok (by omega)] at this
theorem blen_66 {q : Nat} : blen q < 66 ↔ q < 36893488147419103232 := by
  have := blen_le q 65
  have e : (2 : Nat) ^ 65 = 36893488147419103232 := rfl
  rw [e] at this
  omega
/-- The loop that finds a digit more, from t digits on. -/
theorem ratio_l {D X : Nat} {neg : Bool} {e0 : Int} (hD : 0 < D) (hDB : D < B 4096) (he : -4000000000000 ≤ e0 ∧ e0 ≤ 4000000000000) (j : Nat) :
    ∀ (d q r t : Nat), t + j ≤ 600000 → d + j = 67 → q < B 4096 → r < D → q * D + r = X * 2 ^ t → 2 ^ d * D ≤ 2 * (q * D + r) →
      ∃ p, Ev (fun k m _ => ieee_RoundRatio.l4089 k m neg (lim D) (e0 - (t : Int)) (lim q) (lim r)) (put neg p, 0) ∧ ∀ a b : Nat, (a : Int) - b = e0 + 1074 → Near p (X * 2 ^ a) (D * 2 ^ b) := by
  have fin : ∀ (q r t : Nat), q < B 4096 → r < D → q * D + r = X * 2 ^ t → 65 < blen q →
      ∃ p, Ev (fun k m _ => ieee_RoundRatio.l4089 k m neg (lim D) (e0 - (t : Int)) (lim q) (lim r)) (put neg p, 0) ∧ ∀ a b : Nat, (a : Int) - b = e0 + 1074 → Near p (X * 2 ^ a) (D * 2 ^ b) := by
    intro q r t hqB hr hX hq
    refine ⟨rnd q (e0 - (t : Int)) (decide (r ≠ 0)), ?_, fun a b hab => ratio_end hq hD hr hX (by omega)⟩
    refine Ev_succ ?_
    simp only [ieee_RoundRatio.l4089, ieee_RoundRatio.b4089, ieee_RoundRatio.l1023, ieee_RoundRatio.b1023, ln_eq]
    have hbl := nat_BitLen_ev (l := lim q) (ok_lim q) (by have := len_lim hqB; omega)
    rw [val_lim] at hbl
    have hrl : decide (((lim r).length : Int) > 0) = decide (r ≠ 0) := by
      have := @lim_len_zero r
      refine decide_eq_decide.2 ?_
      omega
    rw [hrl]
    exact Ev.bind hbl (Ev_neg (by omega) (Ev.bind (limb_ev hqB) (Ev_some rfl)))
  induction j with
  | zero =>
    intro d q r t ht hd hqB hr hX hs
    refine fin q r t hqB hr hX ?_
    rcases Nat.lt_or_ge 65 (blen q) with h | h
    · exact h
    · exfalso
      have hq := blen_66.1 (show blen q < 66 by omega)
      have e : (2 : Nat) ^ d = 147573952589676412928 := by rw [show d = 67 by omega]
      rw [e] at hs
      have : q * D ≤ 36893488147419103231 * D := Nat.mul_le_mul_right _ (by omega)
      have h2 : (36893488147419103231 : Nat) * D + D = 36893488147419103232 * D := by omega
      omega
  | succ j ih =>
    intro d q r t ht hd hqB hr hX hs
    by_cases hq : blen q < 66
    · have hq2 := blen_66.1 hq
      have hbl := nat_BitLen_ev (l := lim q) (ok_lim q) (by have := len_lim hqB; omega)
      rw [val_lim] at hbl
      have hrB : r < B 4096 := Nat.lt_trans hr hDB
      have hw : wrap64 (e0 - (t : Int) - 1) = e0 - ((t + 1 : Nat) : Int) := by unfold wrap64; omega
      have hsub := sub_ev hDB (Nat.le_of_lt hr)
      have hcmp := cmp_ev hrB (show D - r < B 4096 by omega)
      have cn := cmp_neg r (D - r)
      have hq3 : q * 2 + 1 < B 4096 := by
        have := B_mono (show 2 ≤ 4096 by omega)
        rw [B_succ 1, B_one] at this
        omega
      have hX2 : ∀ q' r' : Nat, q' * D + r' = 2 * (q * D + r) → q' * D + r' = X * 2 ^ (t + 1) := fun q' r' h => by rw [h, hX, Nat.pow_succ, ← Nat.mul_assoc X, Nat.mul_comm 2]
      by_cases hge : D - r ≤ r
      · have hs2 := sub_ev hrB hge
        have e1 : (q * 2 + 1) * D + (r - (D - r)) = 2 * (q * D + r) := by rw [Nat.add_mul, Nat.mul_right_comm, Nat.one_mul]; omega
        obtain ⟨p, hp1, hp2⟩ := ih (d + 1) (q * 2 + 1) (r - (D - r)) (t + 1) (by omega) (by omega) hq3 (by omega) (hX2 _ _ e1) (by rw [e1, Nat.pow_succ, Nat.mul_right_comm]; omega)
        refine ⟨p, Ev_succ ?_, hp2⟩
        simp only [ieee_RoundRatio.l4089, ieee_RoundRatio.b4089, ieee_RoundRatio.l130839, ieee_RoundRatio.b130839, hw]
        refine Ev.bind hbl (Ev_pos (by omega) (Ev.bind hsub (Ev.bind hcmp (Ev_pos ?_ (Ev.bind hs2 (Ev.bind (mad2_ev (by omega) (.inr rfl)) hp1))))))
        rcases Int.lt_or_le (cmp r (D - r)) 0 with h | h
        · exact absurd (cn.1 h) (by omega)
        · exact h
      · have hs2 := add_ev hrB hrB
        rw [ans_ok (by omega)] at hs2
        have e1 : (q * 2 + 0) * D + (r + r) = 2 * (q * D + r) := by rw [Nat.add_zero, Nat.mul_right_comm]; omega
        obtain ⟨p, hp1, hp2⟩ := ih (d + 1) (q * 2 + 0) (r + r) (t + 1) (by omega) (by omega) (by omega) (by omega) (hX2 _ _ e1) (by rw [e1, Nat.pow_succ, Nat.mul_right_comm]; omega)
        refine ⟨p, Ev_succ ?_, hp2⟩
        simp only [ieee_RoundRatio.l4089, ieee_RoundRatio.b4089, ieee_RoundRatio.l130839, ieee_RoundRatio.b130839, hw]
        refine Ev.bind hbl (Ev_pos (by omega) (Ev.bind hsub (Ev.bind hcmp (Ev_neg ?_ (Ev.bind hs2 (Ev.bind (mad2_ev (by omega) (.inl rfl)) hp1))))))
        have := cn.2 (by omega)
        omega
    · exact fin q r t hqB hr hX (by omega)
theorem lt_B {x n k : Nat} (h : x < 2 ^ n) (hn : n ≤ 64 * k) : x < B k := by rw [B_two]; exact Nat.lt_of_lt_of_le h (Nat.pow_le_pow_right (by omega) hn)
/-- RoundRatio of naturals above nothing. -/
theorem ratio_j0 {A D : Nat} {neg : Bool} {e : Int} (hA : A < B 4096) (hD : D < B 4096) (hA0 : A ≠ 0) (hD0 : D ≠ 0) :
    ∃ p, Ev (fun n _ _ => (ieee_near.f e).bind fun t4 => ((nat_BitLen.f n (lim D)).bind fun t5 => ((nat_BitLen.f n (lim A)).bind fun t6 => (if (wrap64 (t5 - t6)) > 0 then ((nat_Shl.f n (lim A) (wrap64 (t5 - t6))).bind fun t7 => ieee_RoundRatio.l127 n neg t7.1 (lim D) (wrap64 (t4 - (wrap64 (t5 - t6))))) else ieee_RoundRatio.l127 n neg (lim A) (lim D) t4)))) (put neg p, 0) ∧ ∀ a b : Nat, (a : Int) - b = clamp e + 1074 → Near p (A * 2 ^ a) (D * 2 ^ b) := by
  have ba := blen_limit hA
  have bd := blen_limit hD
  have cr := clamp_range e
  have hcl : ieee_near.f e = some (clamp e) := near_eq e
  obtain ⟨c, hc⟩ : ∃ c, c = clamp e := ⟨_, rfl⟩
  rw [← hc] at hcl ⊢
  have hcr : -1099511627776 ≤ c ∧ c ≤ 1099511627776 := by rw [hc]; exact cr
  have hza := @lim_len_zero A
  have hzd := @lim_len_zero D
  have ha1 := nat_BitLen_ev (l := lim A) (ok_lim A) (by have := len_lim hA; omega)
  have hd1 := nat_BitLen_ev (l := lim D) (ok_lim D) (by have := len_lim hD; omega)
  rw [val_lim] at ha1 hd1
  have hw : wrap64 ((blen D : Int) - (blen A : Int)) = (blen D : Int) - (blen A : Int) := by unfold wrap64; omega
  have gA := blen_ge hA0
  have lD := blen_lt D
  have bpA := (blen_pos (n := A)).2 hA0
  -- from the division on
  have go : ∀ (N t : Nat), N = A * 2 ^ t → N < B 4096 → t ≤ 262144 → D ≤ 2 * N →
      ∃ p, Ev (fun k _ _ => ieee_RoundRatio.l127 k neg (lim N) (lim D) (c - (t : Int))) (put neg p, 0) ∧ ∀ a b : Nat, (a : Int) - b = c + 1074 → Near p (A * 2 ^ a) (D * 2 ^ b) := by
    intro N t hN hNB ht hDN
    have hdm := Nat.div_add_mod N D
    have hml := Nat.mod_lt N (show 0 < D by omega)
    rw [Nat.mul_comm] at hdm
    obtain ⟨p, h1, h2⟩ := ratio_l (X := A) (neg := neg) (e0 := c) (by omega) hD (by omega) 67 0 (N / D) (N % D) t (by omega) (by omega) (Nat.lt_of_le_of_lt (Nat.div_le_self _ _) hNB) hml (by rw [hdm, hN]) (by rw [hdm]; omega)
    refine ⟨p, ?_, h2⟩
    simp only [ieee_RoundRatio.l127, ieee_RoundRatio.b127]
    exact Ev.bind (dm_ev hNB hD hD0) (Ev_neg (by simp) (Ev_in (g := fun k m _ => ieee_RoundRatio.l4089 k m neg (lim D) (c - (t : Int)) (lim (N / D)) (lim (N % D))) h1))
  by_cases hm : blen A < blen D
  · obtain ⟨m, hmm⟩ : ∃ m : Nat, (blen D : Int) - (blen A : Int) = (m : Int) := ⟨blen D - blen A, by omega⟩
    have hNB : A * 2 ^ m < B 4096 := by
      have h1 := (blen_le (A * 2 ^ m) (blen D)).1 (by rw [blen_mul_pow hA0]; omega)
      exact lt_B h1 (blen_B hD)
    have hsh := nat_Shl_ev (a := lim A) (n := (m : Int)) (ok_lim A) (by have := len_lim hA; omega) (by omega)
    have hsa : shlAns A (m : Int) = (lim (A * 2 ^ m), 0) := by
      unfold shlAns
      rw [if_pos hA, if_neg (by omega), if_neg hA0, if_neg (by omega), Int.toNat_natCast, ans_ok hNB]
    rw [val_lim, hsa] at hsh
    have hDN : D ≤ 2 * (A * 2 ^ m) := by
      have h1 := Nat.mul_le_mul_right (2 ^ (m + 1)) gA
      rw [← Nat.pow_add, show blen A - 1 + (m + 1) = blen D by omega, Nat.pow_succ, ← Nat.mul_assoc] at h1
      omega
    obtain ⟨p, h1, h2⟩ := go (A * 2 ^ m) m rfl hNB (by omega) hDN
    refine ⟨p, ?_, h2⟩
    refine Ev_bind_eq hcl (Ev.bind hd1 (Ev.bind ha1 ?_))
    rw [hw, hmm, show wrap64 (c - (m : Int)) = c - (m : Int) by unfold wrap64; omega]
    exact Ev_pos (by omega) (Ev.bind hsh h1)
  · have hDN : D ≤ 2 * A := by
      have h1 := Nat.pow_le_pow_right (n := 2) (by omega) (show blen D ≤ blen A - 1 + 1 by omega)
      rw [Nat.pow_succ] at h1
      omega
    obtain ⟨p, h1, h2⟩ := go A 0 (by rw [Nat.pow_zero, Nat.mul_one]) hA (by omega) hDN
    rw [Int.natCast_zero, Int.sub_zero] at h1
    refine ⟨p, ?_, h2⟩
    refine Ev_bind_eq hcl (Ev.bind hd1 (Ev.bind ha1 ?_))
    rw [hw]
    exact Ev_neg (by omega) h1
theorem shl0 {l : List Int} (hl : ok l) (hll : l.length ≤ 35184372088832) (h : val l < B 4096) : Ev (fun k _ _ => nat_Shl.f k l 0) (lim (val l), 0) := by
  have hs := nat_Shl_ev (a := l) (n := 0) hl (by omega) (by omega)
  have hsa : shlAns (val l) 0 = (lim (val l), 0) := by
    unfold shlAns
    rw [if_pos h, if_neg (by omega)]
    by_cases h0 : val l = 0
    · rw [if_pos h0, h0, lim_zero]
    · rw [if_neg h0, if_neg (by omega), show (0 : Int).toNat = 0 from rfl, Nat.pow_zero, Nat.mul_one, ans_ok h]
  rwa [hsa] at hs
/-- RoundRatio: the double nearest to the fraction. -/
theorem RoundRatio_ev {n d : List Int} {neg : Bool} {e : Int} (hn : ok n) (hd : ok d) (hnl : n.length ≤ 35184372088832) (hdl : d.length ≤ 35184372088832) (hnB : val n < B 4096) (hdB : val d < B 4096) (hd0 : val d ≠ 0) :
    ∃ p, Ev (fun k _ _ => ieee_RoundRatio.f k neg n d e) (put neg p, 0) ∧ ∀ a b : Nat, (a : Int) - b = clamp e + 1074 → Near p (val n * 2 ^ a) (val d * 2 ^ b) := by
  have s1 := shl0 hn hnl hnB
  have s2 := shl0 hd hdl hdB
  by_cases h0 : val n = 0
  · refine ⟨0, ?_, fun a b hab => by rw [h0, Nat.zero_mul]; exact near_zero (by rw [Nat.mul_zero]; exact Nat.mul_pos (by omega) (Nat.pow_pos (by omega)))⟩
    have hz : (lim (val n)).length = 0 := lim_len_zero.2 h0
    have hzd := @lim_len_zero (val d)
    have hr := limb_ev (n := 0) (neg := neg) (e := 0) (more := false) (B_pos 4096)
    rw [lim_zero, show rnd 0 0 false = 0 from by unfold rnd; rw [if_pos (.inl rfl)]] at hr
    simp only [ieee_RoundRatio.f, ieee_RoundRatio.b0, ln_eq]
    refine Ev.bind s1 (Ev.bind s2 (Ev_neg (by simp) (Ev_neg (by simp) ?_)))
    dsimp only
    exact Ev_neg (by omega) (Ev_pos (by omega) (Ev.bind hr (Ev_some rfl)))
  · obtain ⟨p, h1, h2⟩ := ratio_j0 (neg := neg) (e := e) hnB hdB h0 hd0
    refine ⟨p, ?_, h2⟩
    simp only [ieee_RoundRatio.f, ieee_RoundRatio.b0, ln_eq]
    have hza := @lim_len_zero (val n)
    have hzd := @lim_len_zero (val d)
    refine Ev.bind s1 (Ev.bind s2 (Ev_neg (by simp) (Ev_neg (by simp) ?_)))
    dsimp only
    exact Ev_neg (by omega) (Ev_neg (by omega) h1)
end Go.Proofs.YtcacmhcekoeblaaDoor.Ratio
