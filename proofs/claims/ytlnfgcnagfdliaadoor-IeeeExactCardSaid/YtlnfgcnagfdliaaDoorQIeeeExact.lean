/- Every call of ieee and of its document, one answer. Conditions: numbers that there are, lists as a call gets them. -/
import Derived.Test.YtlnfgcnagfdliaaDoorQR4e
namespace Go.Proofs.YtlnfgcnagfdliaaDoor.Pure
open Go.RowKit Go.Proofs.YtlnfgcnagfdliaaDoor.Lib Go.Proofs.YtlnfgcnagfdliaaDoor.LibB Go.Proofs.YtlnfgcnagfdliaaDoor.F Go.Proofs.YtlnfgcnagfdliaaDoor.Nat1 Go.Proofs.YtlnfgcnagfdliaaDoor.Nat2 Go.Proofs.YtlnfgcnagfdliaaDoor.Bits Go.Proofs.YtlnfgcnagfdliaaDoor.Ieee1 Go.Proofs.YtlnfgcnagfdliaaDoor.Mag Go.Proofs.YtlnfgcnagfdliaaDoor.Ieee2 Go.Proofs.YtlnfgcnagfdliaaDoor.Rnd Go.Proofs.YtlnfgcnagfdliaaDoor.R1 Go.Proofs.YtlnfgcnagfdliaaDoor.R4
open Go.Proofs.YtlnfgcnagfdliaaDoorA (rd rdb rdr ln ln_eq mx mn shl shr wr wr_eq)
set_option linter.unusedVariables false
set_option linter.unusedSimpArgs false
/-- A list as a call gets it. -/
structure Arg (l : List Int) : Prop where
  ok : ok l
  len : l.length ≤ 17592186044416
theorem shl_big {l : List Int} (h : Arg l) (hB : ¬ val l < B 4096) : Ev (fun k _ _ => nat_Shl.f k l 0) ([], 2) := by
  have hs := nat_Shl_ev (a := l) (n := 0) h.ok (Nat.le_trans h.len (by decide)) (by omega)
  have : shlAns (val l) 0 = ([], 2) := by unfold shlAns; rw [if_neg hB]
  rwa [this] at hs
/-- Round: both. -/
theorem round_same {l : List Int} (h : Arg l) (s more : Bool) {e : Int} (he : -9223372036854775808 ≤ e ∧ e < 9223372036854775808) :
    ∃ r, Ev (fun k _ _ => ieee_Round.f k s l e more) r ∧ Ev (fun k _ _ => abacusref04_Round.f k s l e more) r := by
  have hr := rRound_ev (s := s) (more := more) h.ok (Nat.le_trans h.len (by decide)) he
  by_cases hB : val l < B 4096
  · rw [if_pos hB] at hr
    exact ⟨_, Round_ev h.ok (Nat.le_trans h.len (by decide)) hB, hr⟩
  · rw [if_neg hB] at hr
    refine ⟨_, ?_, hr⟩
    simp only [ieee_Round.f, ieee_Round.b0]
    exact Ev.bind (shl_big h hB) (Ev_pos (by simp) (Ev_some rfl))
theorem big_ev {l : List Int} (h : Arg l) : Ev (fun n _ _ => abacusref01_Big.f n l) (decide (¬ val l < B 4096)) := by
  have lb := lim_len_le (val l) 4096
  simp only [abacusref01_Big.f, abacusref01_Big.b0]
  refine Ev.bind (abacusref01_Size_ev h.ok (Nat.le_trans h.len (by decide))) (Ev_some (decide_eq_decide.2 ?_))
  rw [← lb]
  omega
theorem size_ev {l : List Int} (h : Arg l) : Ev (fun n _ _ => abacusref01_Size.f n l) (((lim (val l)).length : Nat) : Int) := abacusref01_Size_ev h.ok (Nat.le_trans h.len (by decide))
theorem near_low {N D a b K : Nat} {e : Int} (hK : K = 262144) (hN : N < 2 ^ K) (hD : 0 < D) (he : e < -1048576) (hab : (a : Int) - b = e + 1074) : Near 0 (N * 2 ^ a) (D * 2 ^ b) := by
  refine near_zero ?_
  have h1 : K + 1 + a ≤ b := by omega
  have h2 : 2 * (N * 2 ^ a) < 2 * (2 ^ K * 2 ^ a) := by
    have := Nat.mul_lt_mul_of_pos_right hN (Nat.pow_pos (n := a) (show 0 < 2 by omega))
    omega
  have h3 : 2 * (2 ^ K * 2 ^ a) = 2 ^ (K + 1 + a) := by rw [Nat.pow_add, Nat.pow_succ, ← Nat.mul_assoc, Nat.mul_comm 2]
  have h4 : 2 ^ (K + 1 + a) ≤ 2 ^ b := Nat.pow_le_pow_right (by omega) h1
  have h5 : 2 ^ b ≤ D * 2 ^ b := Nat.le_mul_of_pos_left _ hD
  rw [h3] at h2
  exact Nat.lt_of_lt_of_le h2 (Nat.le_trans h4 h5)
theorem near_high {N D a b E K : Nat} {e : Int} (hK : K = 262144) (hE : E = 2046) (hN : 0 < N) (hD0 : 0 < D) (hD : D < 2 ^ K) (he : e > 1048576) (hab : (a : Int) - b = e + 1074) : Near inf (N * 2 ^ a) (D * 2 ^ b) := by
  refine near_inf (Nat.mul_pos hD0 (Nat.pow_pos (by omega))) ?_
  rw [uni_inf hE]
  have h0 : 4503599627370496 = 2 ^ 52 := rfl
  have h1 : 52 + E + K + b ≤ a := by omega
  have h2 : 2 ^ (52 + E + K + b) ≤ 2 ^ a := Nat.pow_le_pow_right (by omega) h1
  have h3 : 4503599627370496 * 2 ^ E * (D * 2 ^ b) ≤ 4503599627370496 * 2 ^ E * (2 ^ K * 2 ^ b) := Nat.mul_le_mul_left _ (Nat.mul_le_mul_right _ (Nat.le_of_lt hD))
  have h4 : 4503599627370496 * 2 ^ E * (2 ^ K * 2 ^ b) = 2 ^ (52 + E + K + b) := by rw [h0, Nat.pow_add, Nat.pow_add, Nat.pow_add]; simp only [Nat.mul_assoc]
  have h5 : 2 ^ a ≤ N * 2 ^ a := Nat.le_mul_of_pos_left _ hN
  rw [h4] at h3
  exact Nat.le_trans h3 (Nat.le_trans h2 h5)
theorem clamp_lt {e : Int} (h : e < -1048576) : Go.Proofs.YtlnfgcnagfdliaaDoor.Ratio.clamp e < -1048576 := by unfold Go.Proofs.YtlnfgcnagfdliaaDoor.Ratio.clamp; (repeat' split) <;> omega
theorem clamp_gt {e : Int} (h : e > 1048576) : Go.Proofs.YtlnfgcnagfdliaaDoor.Ratio.clamp e > 1048576 := by unfold Go.Proofs.YtlnfgcnagfdliaaDoor.Ratio.clamp; (repeat' split) <;> omega
theorem clamp_sub (e : Int) : ∃ a b : Nat, (a : Int) - b = Go.Proofs.YtlnfgcnagfdliaaDoor.Ratio.clamp e + 1074 := ⟨(Go.Proofs.YtlnfgcnagfdliaaDoor.Ratio.clamp e + 1074).toNat, (-(Go.Proofs.YtlnfgcnagfdliaaDoor.Ratio.clamp e + 1074)).toNat, by omega⟩
/-- RoundRatio: both. -/
theorem ratio_same {n d : List Int} (hn : Arg n) (hd : Arg d) (s : Bool) {e : Int} (he : -9223372036854775808 ≤ e ∧ e < 9223372036854775808) :
    ∃ r, Ev (fun k _ _ => ieee_RoundRatio.f k s n d e) r ∧ Ev (fun k _ _ => abacusref04_RoundRatio.f k s n d e) r := by
  have bn := big_ev hn
  have bd := big_ev hd
  have sn := size_ev hn
  have sd := size_ev hd
  have zn := @lim_len_zero (val n)
  have zd := @lim_len_zero (val d)
  by_cases hnB : val n < B 4096
  · rw [decide_eq_false (fun h => h hnB)] at bn
    have pn := Go.Proofs.YtlnfgcnagfdliaaDoor.Ratio.shl0 hn.ok (Nat.le_trans hn.len (by decide)) hnB
    by_cases hdB : val d < B 4096
    · rw [decide_eq_false (fun h => h hdB)] at bd
      have pd := Go.Proofs.YtlnfgcnagfdliaaDoor.Ratio.shl0 hd.ok (Nat.le_trans hd.len (by decide)) hdB
      by_cases hd0 : val d = 0
      · refine ⟨(0, 4), ?_, ?_⟩
        · simp only [ieee_RoundRatio.f, ieee_RoundRatio.b0, ln_eq]
          exact Ev.bind pn (Ev.bind pd (Ev_neg (by simp) (Ev_neg (by simp) (Ev_pos (by dsimp only; omega) (Ev.now _)))))
        · simp only [abacusref04_RoundRatio.f, abacusref04_RoundRatio.b0]
          exact Ev.bind bn (Ev_neg (by simp) (Ev.bind bd (Ev_neg (by simp) (Ev.bind sd (Ev_pos (by omega) (Ev.now _))))))
      · obtain ⟨p, h1, h2⟩ := Go.Proofs.YtlnfgcnagfdliaaDoor.Ratio.RoundRatio_ev (neg := s) (e := e) hn.ok hd.ok (Nat.le_trans hn.len (by decide)) (Nat.le_trans hd.len (by decide)) hnB hdB hd0
        refine ⟨_, h1, ?_⟩
        obtain ⟨a, b, hab⟩ := clamp_sub e
        have hp := h2 a b hab
        have pY : 0 < val d * 2 ^ b := Nat.mul_pos (by omega) (Nat.pow_pos (by omega))
        have uq {q : Nat} (hq : Near q (val n * 2 ^ a) (val d * 2 ^ b)) : p = q := near_unique pY pY hp hq rfl
        obtain ⟨K, hK⟩ : ∃ K, K = 64 * 4096 := ⟨_, rfl⟩
        have two : B 4096 = 2 ^ K := by rw [hK, B_two]
        have nf : Ev (fun k _ _ => abacusref04_RoundRatio.f k s n d e) (put s p, 0) := by
          by_cases e1 : -1048576 ≤ e ∧ e ≤ 1048576
          · have hc : Go.Proofs.YtlnfgcnagfdliaaDoor.Ratio.clamp e = e := Go.Proofs.YtlnfgcnagfdliaaDoor.Ratio.clamp_in (by omega) (by omega)
            rw [hc] at hab
            obtain ⟨q, h3, h4⟩ := RoundRatio_evS (s := s) ⟨hn.ok, hn.len, rfl, hnB⟩ ⟨hd.ok, hd.len, rfl, hdB⟩ hd0 e1 hab
            rw [uq h4]
            exact h3
          · simp only [abacusref04_RoundRatio.f, abacusref04_RoundRatio.b0]
            refine Ev.bind bn (Ev_neg (by simp) (Ev.bind bd (Ev_neg (by simp) (Ev.bind sd (Ev_neg (by omega) (Ev.bind sn ?_))))))
            by_cases n0 : val n = 0
            · have : p = 0 := uq (by rw [n0, Nat.zero_mul]; exact near_zero (by omega))
              rw [this]
              exact Ev_pos (by omega) (Ev_bind_eq (rput_zero s) (Ev.now _))
            refine Ev_neg (by omega) ?_
            by_cases e2 : e < -1048576
            · have : p = 0 := uq (near_low (by omega) (by rw [← two]; exact hnB) (by omega) (clamp_lt e2) hab)
              rw [this]
              exact Ev_pos e2 (Ev_bind_eq (rput_zero s) (Ev.now _))
            · have : p = inf := uq (near_high (by omega) rfl (by omega) (by omega) (by rw [← two]; exact hdB) (clamp_gt (by omega)) hab)
              rw [this]
              exact Ev_neg e2 (Ev_pos (by omega) (Ev_bind_eq (rput_inf s) (Ev.now _)))
        exact nf
    · rw [decide_eq_true hdB] at bd
      refine ⟨(0, 2), ?_, ?_⟩
      · simp only [ieee_RoundRatio.f, ieee_RoundRatio.b0, ln_eq]
        exact Ev.bind pn (Ev.bind (shl_big hd hdB) (Ev_neg (by simp) (Ev_pos (by simp) (Ev.now _))))
      · simp only [abacusref04_RoundRatio.f, abacusref04_RoundRatio.b0]
        exact Ev.bind bn (Ev_neg (by simp) (Ev.bind bd (Ev_pos rfl (Ev.now _))))
  · rw [decide_eq_true hnB] at bn
    refine ⟨(0, 2), ?_, ?_⟩
    · have pd : ∃ x, Ev (fun k _ _ => nat_Shl.f k d 0) x := ⟨_, nat_Shl_ev (a := d) (n := 0) hd.ok (Nat.le_trans hd.len (by decide)) (by omega)⟩
      obtain ⟨x, pd⟩ := pd
      simp only [ieee_RoundRatio.f, ieee_RoundRatio.b0, ln_eq]
      exact Ev.bind (shl_big hn hnB) (Ev.bind pd (Ev_pos (by simp) (Ev.now _)))
    · simp only [abacusref04_RoundRatio.f, abacusref04_RoundRatio.b0]
      exact Ev.bind bn (Ev_pos rfl (Ev.now _))
theorem copied_eq {l : List Int} (h : Arg l) : abacuslaw04_copied.f l = some l := by
  have := h.len
  simp only [abacuslaw04_copied.f, abacuslaw04_copied.b0, ln_eq]
  rw [if_pos (by omega), if_pos (by omega), if_pos (by simp; omega)]
  simp
theorem same_self (l : List Int) (h : l.length ≤ 17592186044416) : Ev (fun k _ _ => abacusref01_Same.f k l l) true := by
  have go (d : Nat) : ∀ i : Nat, i + d = l.length → Ev (fun k m _ => abacusref01_Same.l117 k m l l (i : Int)) true := by
    induction d with
    | zero =>
      intro i hi
      refine Ev_succ ?_
      simp only [abacusref01_Same.l117, abacusref01_Same.b117, ln_eq]
      exact Ev_neg (by omega) (Ev.now _)
    | succ d ih =>
      intro i hi
      have e1 : wrap64 ((i : Int) + 1) = ((i + 1 : Nat) : Int) := by unfold wrap64; omega
      refine Ev_succ ?_
      simp only [abacusref01_Same.l117, abacusref01_Same.b117, ln_eq, e1]
      exact Ev_pos (by omega) (Ev_pos (by omega) (Ev_pos (by omega) (Ev_pos (by omega) (Ev_pos (by omega) (Ev_neg (by simp) (ih (i + 1) (by omega)))))))
  simp only [abacusref01_Same.f, abacusref01_Same.b0, ln_eq]
  exact Ev_neg (by simp) (Ev_in (go l.length 0 (by omega)))
section
variable {α β : Type} {L : β → Prop}
/-- Both of two computations come to one answer. -/
def Both (L : β → Prop) (f g : Nat → Nat → Nat → Option β) : Prop := ∃ r, Ev f r ∧ Ev g r ∧ L r
theorem both_neg {c : Prop} [Decidable c] {a b a' b' : Nat → Nat → Nat → Option β} (hc : ¬ c) (h : Both L b b') : Both L (fun n m p => if c then a n m p else b n m p) (fun n m p => if c then a' n m p else b' n m p) := by
  obtain ⟨r, h1, h2, h3⟩ := h
  exact ⟨r, Ev_neg hc h1, Ev_neg hc h2, h3⟩
theorem both_pos {c : Prop} [Decidable c] {a b a' b' : Nat → Nat → Nat → Option β} (hc : c) (h : Both L a a') : Both L (fun n m p => if c then a n m p else b n m p) (fun n m p => if c then a' n m p else b' n m p) := by
  obtain ⟨r, h1, h2, h3⟩ := h
  exact ⟨r, Ev_pos hc h1, Ev_pos hc h2, h3⟩
theorem both_bind {f g : Nat → Nat → Nat → Option α} {F : α → β} (h : ∃ a, Ev f a ∧ Ev g a ∧ L (F a)) : Both L (fun n m p => (f n m p).bind fun t => some (F t)) (fun n m p => (g n m p).bind fun t => some (F t)) := by
  obtain ⟨a, h1, h2, h3⟩ := h
  exact ⟨F a, Ev.bind h1 (Ev.now _), Ev.bind h2 (Ev.now _), h3⟩
theorem both_eq {f g : Option α} {a : α} {F : α → β} (hf : f = some a) (hg : g = some a) (h3 : L (F a)) : Both L (fun _ _ _ => f.bind fun t => some (F t)) (fun _ _ _ => g.bind fun t => some (F t)) := by
  subst hf; subst hg
  exact ⟨F a, Ev.now _, Ev.now _, h3⟩
theorem both_now (r : β) (h : L r) : Both L (fun _ _ _ => some r) (fun _ _ _ => some r) := ⟨r, Ev.now _, Ev.now _, h⟩
end
theorem ev_eq {α : Type} {f : Option α} {a : α} (h : f = some a) : Ev (fun _ _ _ => f) a := by subst h; exact Ev.now _
/-- One call: both answers. -/
theorem op_same {kind x y i pc pm pe ex : Int} {pn ng more : Bool} {nl dl : List Int} (hx : U x) (hy : U y) (hi : -9223372036854775808 ≤ i ∧ i < 9223372036854775808) (hN : Arg nl) (hD : Arg dl) (he : -9223372036854775808 ≤ ex ∧ ex < 9223372036854775808) :
    Both (fun r : Int × Int × Int × Bool × Bool × Int × Int × Int × List Int × Int => r.2.2.2.2.2.2.2.2.1.length ≤ 17592186044416) (fun k _ _ => abacuslaw04_wanted.f k kind x y i pn pc pm pe ng nl dl ex more) (fun k _ _ => abacuslaw04_asked.f k kind x y i pn pc pm pe ng nl dl ex more) := by
  simp only [abacuslaw04_wanted.f, abacuslaw04_wanted.b0, abacuslaw04_asked.f, abacuslaw04_asked.b0]
  by_cases h1 : kind = 1
  · exact both_pos h1 (both_eq (rDecode_eq hx) (Decode_eq hx) (by simp))
  refine both_neg h1 ?_
  by_cases h2 : kind = 2
  · refine both_pos h2 (both_bind ?_)
    by_cases hp : ∃ d, IsParts pn pc pm pe d
    · obtain ⟨d, hd⟩ := hp
      refine ⟨_, ev_eq (rEncode_yes hd), ?_, by simp⟩
      obtain ⟨hU, rfl, rfl, rfl, rfl⟩ := hd
      exact Encode_ev hU
    · exact ⟨_, ev_eq (rEncode_no fun d hd => hp ⟨d, hd⟩), pEncode_no fun d hd => hp ⟨d, hd⟩, by simp⟩
  refine both_neg h2 ?_
  by_cases h3 : kind = 3
  · exact both_pos h3 (both_eq (rClass_eq hx) (Class_eq hx) (by simp))
  refine both_neg h3 ?_
  by_cases h4 : kind = 4
  · exact both_pos h4 (both_eq (rNeg_eq hx) (Neg_eq hx) (by simp))
  refine both_neg h4 ?_
  by_cases h5 : kind = 5
  · refine both_pos h5 (both_eq (rAbs_eq hx) ?_ (by simp))
    rw [Abs_eq hx]
    have := hx.1
    unfold plc
    congr 1
    omega
  refine both_neg h5 ?_
  by_cases h6 : kind = 6
  · exact both_pos h6 (both_eq (rCompare_eq hx hy) (Compare_eq hx hy) (by simp))
  refine both_neg h6 ?_
  by_cases h7 : kind = 7
  · exact both_pos h7 (both_eq (rTotal_eq hx hy) (Total_eq hx hy) (by simp))
  refine both_neg h7 ?_
  by_cases h8 : kind = 8
  · exact both_pos h8 (both_eq (rRank_eq hx) (Rank_eq hx) (by simp))
  refine both_neg h8 ?_
  by_cases h9 : kind = 9
  · exact both_pos h9 (both_bind ⟨_, ev_eq (rAtRank_eq hi.1 hi.2), AtRank_ev hi.1 hi.2, by simp⟩)
  refine both_neg h9 ?_
  by_cases h10 : kind = 10
  · exact both_pos h10 (both_bind ⟨_, ev_eq (rUp_eq hx), Up_ev hx, by simp⟩)
  refine both_neg h10 ?_
  by_cases h11 : kind = 11
  · exact both_pos h11 (both_bind ⟨_, ev_eq (rDown_eq hx), Down_ev hx, by simp⟩)
  refine both_neg h11 ?_
  by_cases h12 : kind = 12
  · exact both_pos h12 (both_bind ⟨_, rIntegral_ev hx, ev_eq (Integral_eq hx), by simp⟩)
  refine both_neg h12 ?_
  by_cases h13 : kind = 13
  · exact both_pos h13 (both_bind ⟨_, rFromInt_ev hi.1 hi.2, FromInt_ev hi.1 hi.2, by simp⟩)
  refine both_neg h13 ?_
  by_cases h14 : kind = 14
  · obtain ⟨n, rfl⟩ := nat_of hx.1
    have hl := hx.2
    exact both_pos h14 (both_bind ⟨_, rFromUint_ev (by omega), FromUint_ev (by omega), by simp⟩)
  refine both_neg h14 ?_
  by_cases h15 : kind = 15
  · exact both_pos h15 (both_bind ⟨_, rToInt_ev hx, ToInt_ev hx, by simp⟩)
  refine both_neg h15 ?_
  by_cases h16 : kind = 16
  · refine both_pos h16 (both_bind ⟨_, rWhole_ev hx, Whole_ev hx, ?_⟩)
    split
    · rename_i hf
      have := (lim_len_le (trunc x) 4096).2 (trunc_limit hf)
      exact Nat.le_trans this (by decide)
    · simp
  refine both_neg h16 ?_
  by_cases h17 : kind = 17
  · obtain ⟨r, r1, r2⟩ := round_same hN ng more he
    exact both_pos h17 (both_bind ⟨r, r2, r1, by simp⟩)
  refine both_neg h17 ?_
  by_cases h18 : kind = 18
  · obtain ⟨r, r1, r2⟩ := ratio_same hN hD ng he
    exact both_pos h18 (both_bind ⟨r, r2, r1, by simp⟩)
  exact both_neg h18 (both_now _ (by simp))
theorem alike_self {a0 a1 a2 a5 a6 a7 a9 : Int} {a3 a4 : Bool} {l8 : List Int} (h : l8.length ≤ 17592186044416) : Ev (fun k _ _ => abacuslaw04_alike.f k a0 a1 a2 a3 a4 a5 a6 a7 l8 a9 a0 a1 a2 a3 a4 a5 a6 a7 l8 a9) true := by
  simp only [abacuslaw04_alike.f, abacuslaw04_alike.b0]
  exact Ev_pos trivial (Ev_pos trivial (Ev_pos trivial (Ev_pos (by simp) (Ev_pos (by simp) (Ev_pos trivial (Ev.bind (same_self l8 h) (Ev.now _)))))))
theorem IeeeExact {n : Int} {K X Y I C M E Ex : List Int} {Nl Dl : List (List Int)} (Pn Ng Mo : List Bool) (hn : 0 ≤ n ∧ n ≤ 140737488351232)
    (h : ∀ j, 0 ≤ j → j < n → (-9223372036854775808 ≤ rd K j ∧ rd K j < 9223372036854775808) ∧ U (rd X j) ∧ U (rd Y j) ∧ (-9223372036854775808 ≤ rd I j ∧ rd I j < 9223372036854775808) ∧ (-9223372036854775808 ≤ rd C j ∧ rd C j < 9223372036854775808) ∧ U (rd M j) ∧ (-9223372036854775808 ≤ rd E j ∧ rd E j < 9223372036854775808) ∧ (ok (rdr Nl j) ∧ (rdr Nl j).length * 8 ≤ 140737488351232) ∧ (ok (rdr Dl j) ∧ (rdr Dl j).length * 8 ≤ 140737488351232) ∧ (-9223372036854775808 ≤ rd Ex j ∧ rd Ex j < 9223372036854775808)) :
    ∃ k, abacuslaw04_IeeeExact.f k n K X Y I Pn C M E Ng Nl Dl Ex Mo = some true := by
  refine Ev.rounds ?_
  simp only [abacuslaw04_IeeeExact.f, abacuslaw04_IeeeExact.b0]
  obtain ⟨N, rfl⟩ := Int.eq_ofNat_of_zero_le hn.1
  refine Ev.bind awake_ev (Ev_neg (by simp) (Ev_in (g := fun k m _ => abacuslaw04_IeeeExact.l117 k m (N : Int) K X Y I Pn C M E Ng Nl Dl Ex Mo 0) ?_))
  have go (d : Nat) : ∀ i : Nat, i + d = N → Ev (fun k m _ => abacuslaw04_IeeeExact.l117 k m (N : Int) K X Y I Pn C M E Ng Nl Dl Ex Mo (i : Int)) true := by
    induction d with
    | zero =>
      intro i hi
      refine Ev_succ ?_
      simp only [abacuslaw04_IeeeExact.l117, abacuslaw04_IeeeExact.b117]
      exact Ev_neg (by omega) (Ev.now _)
    | succ d ih =>
      intro i hi
      have hiN : i < N := by omega
      obtain ⟨_, hx, hy, hI, _, _, _, hN, hD, he⟩ := h i (n0 i) (nlt hiN)
      have e1 : wrap64 ((i : Int) + 1) = ((i + 1 : Nat) : Int) := by unfold wrap64; omega
      have aN : Arg (rdr Nl (i : Int)) := ⟨hN.1, by omega⟩
      have aD : Arg (rdr Dl (i : Int)) := ⟨hD.1, by omega⟩
      obtain ⟨r, h1, h2, h3⟩ := op_same (kind := rd K i) (pc := rd C i) (pm := rd M i) (pe := rd E i) (pn := rdb Pn i) (ng := rdb Ng i) (more := rdb Mo i) hx hy hI aN aD he
      have next := ih (i + 1) (by omega)
      refine Ev_succ ?_
      simp only [abacuslaw04_IeeeExact.l117, abacuslaw04_IeeeExact.b117, e1]
      exact Ev_pos (nlt hiN) (Ev_pos (n0 i) (Ev_pos (nlt hiN) (Ev.bind h1 (Ev_bind_eq (copied_eq aN) (Ev_bind_eq (copied_eq aD) (Ev.bind h2 (Ev.bind (alike_self h3) (Ev_neg (by simp) next))))))))
  exact go N 0 (by omega)
end Go.Proofs.YtlnfgcnagfdliaaDoor.Pure
