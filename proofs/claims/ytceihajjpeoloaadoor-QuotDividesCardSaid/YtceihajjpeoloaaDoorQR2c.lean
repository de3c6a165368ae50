/- The second reference's division, bit by bit. Conditions: lists of limbs below 2^64, of lengths that a slice has; the divisor above nothing, both below 2^262144. -/
import Derived.Test.YtceihajjpeoloaaDoorQR2
namespace Go.Proofs.YtceihajjpeoloaaDoor.R2
open Go.RowKit Go.Proofs.YtceihajjpeoloaaDoor.Lib Go.Proofs.YtceihajjpeoloaaDoor.LibB Go.Proofs.YtceihajjpeoloaaDoor.F Go.Proofs.YtceihajjpeoloaaDoor.Nat1 Go.Proofs.YtceihajjpeoloaaDoor.Nat2 Go.Proofs.YtceihajjpeoloaaDoor.Bits Go.Proofs.YtceihajjpeoloaaDoor.LongL
open Go.Proofs.YtceihajjpeoloaaDoorA (rd rdr ln ln_eq lnr lnr_eq mx mn shl shr wr wr_eq)
set_option linter.unusedVariables false
set_option linter.unusedSimpArgs false
/-! ### holds -/
theorem win_part {us : List Int} {j n : Nat} : win us j n = val ((us.drop j).take n) := rfl
theorem part_rd {us : List Int} {j n i : Nat} (h : i < n) : rd ((us.drop j).take n) (i : Int) = rd us ((j + i : Nat) : Int) := by rw [rd_take h, rd_drop]
theorem holds_l {us vs : List Int} {j : Nat} (hu : ok us) (hv : ok vs) (hj : j + vs.length ≤ us.length) (hl : us.length ≤ 35184372088832) (i : Nat) : i ≤ vs.length → val (((us.drop j).take vs.length).drop i) = val (vs.drop i) →
    Ev (fun k m _ => abacusref02_holds.l53 k m us (j : Int) vs ((i : Int) - 1)) (decide (val vs ≤ win us j vs.length)) := by
  have hP : ok ((us.drop j).take vs.length) := ok_take (ok_drop hu _) _
  have lP : ((us.drop j).take vs.length).length = vs.length := by rw [List.length_take, List.length_drop]; omega
  induction i with
  | zero =>
    intro _ hz
    refine Ev_succ ?_
    simp only [abacusref02_holds.l53, abacusref02_holds.b53]
    rw [List.drop_zero, List.drop_zero] at hz
    refine Ev_neg (by decide) (Ev_some ?_)
    rw [win_part, hz]
    exact (decide_eq_true (Nat.le_refl _)).symm
  | succ i ih =>
    intro hi hz
    have iv : i < vs.length := hi
    have ju : j + i < us.length := by omega
    have jl : j + i ≤ 35184372088832 := by omega
    have e0 : ((i + 1 : Nat) : Int) - 1 = (i : Int) := by omega
    have e1 : wrap64 ((i : Int) - 1) = (i : Int) - 1 := by unfold wrap64; omega
    have wj := wadd2 jl
    have hr := part_rd (us := us) (j := j) iv
    refine Ev_succ ?_
    simp only [abacusref02_holds.l53, abacusref02_holds.b53, ln_eq, e0, e1, wj]
    refine Ev_pos (Int.natCast_nonneg _) (Ev_pos (Int.natCast_nonneg _) (Ev_pos (nlt2 ju) (Ev_pos (Int.natCast_nonneg _) (Ev_pos (nlt2 iv) ?_))))
    by_cases h2 : rd us ((j + i : Nat) : Int) > rd vs (i : Int)
    · refine Ev_pos h2 (Ev_some ?_)
      have := val_cmp_at hv hP iv (by rw [lP]; exact iv) hz.symm (by rw [hr]; exact h2)
      exact (decide_eq_true (Nat.le_of_lt this)).symm
    · refine Ev_neg h2 (Ev_pos (Int.natCast_nonneg _) (Ev_pos (nlt2 ju) (Ev_pos (Int.natCast_nonneg _) (Ev_pos (nlt2 iv) ?_))))
      by_cases h3 : rd us ((j + i : Nat) : Int) < rd vs (i : Int)
      · refine Ev_pos h3 (Ev_some ?_)
        have := val_cmp_at hP hv (by rw [lP]; exact iv) iv hz (by rw [hr]; exact h3)
        exact (decide_eq_false (Nat.not_le.2 this)).symm
      · refine Ev_neg h3 (ih (Nat.le_of_lt iv) ?_)
        rw [val_drop_cons _ i (by rw [lP]; exact iv), val_drop_cons vs i iv, hr, show rd us ((j + i : Nat) : Int) = rd vs (i : Int) from Int.le_antisymm (Int.not_lt.1 h2) (Int.not_lt.1 h3), hz]
theorem holds_ev {us vs : List Int} {j : Nat} (hu : ok us) (hv : ok vs) (hj : j + vs.length ≤ us.length) (hl : us.length ≤ 35184372088832) : Ev (fun k _ _ => abacusref02_holds.f k us (j : Int) vs) (decide (val vs ≤ win us j vs.length)) := by
  simp only [abacusref02_holds.f, abacusref02_holds.b0, ln_eq]
  have e : wrap64 ((vs.length : Int) - 1) = (vs.length : Int) - 1 := by unfold wrap64; omega
  rw [e]
  have lP : ((us.drop j).take vs.length).length = vs.length := by rw [List.length_take, List.length_drop]; omega
  exact Ev_in (g := fun k m _ => abacusref02_holds.l53 k m us (j : Int) vs ((vs.length : Int) - 1)) (holds_l hu hv hj hl vs.length (Nat.le_refl _) (by rw [List.drop_eq_nil_of_le (Nat.le_of_eq lP), List.drop_length]))
/-! ### the multiples -/
/-- The divisor's multiples by powers of two. -/
def Mv (b n : Nat) (ms : List (List Int)) : Prop := ∀ j, j < ms.length → ok (rdr ms (j : Int)) ∧ (rdr ms (j : Int)).length = n + 1 ∧ val (rdr ms (j : Int)) = b * 2 ^ j
theorem rdr_nat (ms : List (List Int)) (j : Nat) : rdr ms (j : Int) = ms.getD j [] := by simp [rdr]
theorem Mv.snoc {b n : Nat} {ms : List (List Int)} {m : List Int} (h : Mv b n ms) (ho : ok m) (hl : m.length = n + 1) (hv : val m = b * 2 ^ ms.length) : Mv b n (ms ++ [m]) := by
  intro j hj
  rw [List.length_append, List.length_singleton] at hj
  by_cases h1 : j < ms.length
  · have := h j h1
    rw [rdr_nat] at this ⊢
    rw [List.getD_eq_getElem?_getD, List.getElem?_append_left h1, ← List.getD_eq_getElem?_getD]
    exact this
  · have hj' : j = ms.length := by omega
    subst hj'
    rw [rdr_nat, List.getD_eq_getElem?_getD, List.getElem?_append_right (Nat.le_refl _), Nat.sub_self]
    exact ⟨ho, hl, hv⟩
theorem val_take_small {l : List Int} {j : Nat} (h : ok l) (hj : j ≤ l.length) (hv : val l < B j) : val (l.take j) = val l := by
  have h1 := val_split l j
  rw [Nat.min_eq_left hj] at h1
  have h2 : val (l.drop j) = 0 := by
    rcases Nat.eq_zero_or_pos (val (l.drop j)) with h3 | h3
    · exact h3
    · have := Nat.le_mul_of_pos_right (B j) h3
      omega
  rw [h2, Nat.mul_zero, Nat.add_zero] at h1
  exact h1.symm
theorem two64 (k : Nat) (h : k ≤ 64) : 2 ^ k ≤ 18446744073709551616 := Nat.pow_le_pow_right (show 0 < 2 by decide) h
theorem mult_lt {b n k : Nat} (hb : b < B n) (hk : k ≤ 64) : b * 2 ^ k < B (n + 1) := by
  rw [B_succ, Nat.mul_comm _ (B n)]
  exact Nat.mul_lt_mul_of_lt_of_le hb (two64 k hk) (by decide)
theorem step_idx {i d : Nat} (h : i + (d + 1) = 64) : i < 64 ∧ i + 1 ≤ 64 ∧ i + 1 + d = 64 ∧ i ≤ 35184372088832 ∧ i + 1 ≤ 5864062014805 := by omega
theorem small1 {n : Nat} (h : n ≤ 4096) : n + 1 ≤ 17592186044416 ∧ wrap64 ((n : Int) + 1) = ((n + 1 : Nat) : Int) := by
  refine ⟨by omega, ?_⟩
  unfold wrap64; omega
theorem dbl_pow (b i : Nat) : 2 * (b * 2 ^ i) + 0 = b * 2 ^ (i + 1) := by rw [Nat.add_zero, Nat.pow_succ, Nat.mul_comm (2 ^ i), Nat.mul_left_comm]
theorem moved_l {a x y : List Int} {b n : Nat} {R : List Int × List Int} (hb : b < B n) (hy : y.length = n) (hn : n ≤ 4096)
    (cont : ∀ ms, Mv b n ms → ms.length = 64 → Ev (fun k _ _ => abacusref02_Divide.l255 k a x y ms) R) (d : Nat) : ∀ (i : Nat) (m : List Int) (ms : List (List Int)), i + d = 64 → ms.length = i → Mv b n ms → ok m → m.length = n + 1 → val m = b * 2 ^ i →
    Ev (fun k w _ => abacusref02_Divide.l2037 k w a m (i : Int) x y ms) R := by
  induction d with
  | zero =>
    intro i m ms hi hl hm ho hml hv
    refine Ev_succ ?_
    simp only [abacusref02_Divide.l2037, abacusref02_Divide.b2037]
    have i64 : i = 64 := hi
    rw [i64] at hl ⊢
    exact Ev_neg (by decide) (cont ms hm hl)
  | succ d ih =>
    intro i m ms hi hl hm ho hml hv
    obtain ⟨i64, i1, i2, i3, i4⟩ := step_idx hi
    obtain ⟨n1, w1⟩ := small1 hn
    obtain ⟨t, e1, o1, l1, v1⟩ := doubled_ev (x := 0) (b := 0) rfl (by decide) ho (by rw [hml]; exact n1)
    rw [hv, dbl_pow] at v1
    have hlt : val t < B (n + 1) := by rw [v1]; exact mult_lt hb i1
    have tl : n + 1 ≤ t.length := by rw [l1, hml]; exact Nat.le_succ _
    have vt := val_take_small o1 tl hlt
    have tt : (t.take (n + 1)).length = n + 1 := by rw [List.length_take]; exact Nat.min_eq_left tl
    have nx := ih (i + 1) (t.take (n + 1)) (ms ++ [m]) i2 (by rw [List.length_append, hl]; rfl) (hm.snoc ho hml (by rw [hl]; exact hv)) (ok_take o1 _) tt (vt.trans v1)
    have w2 : wrap64 ((i : Int) + 1) = ((i + 1 : Nat) : Int) := next i i3
    rw [← hy] at w1 tl nx
    refine Ev_succ ?_
    simp only [abacusref02_Divide.l2037, abacusref02_Divide.b2037, ln_eq, w1, w2, Int.toNat_natCast]
    exact Ev_pos (nlt2 (b := 64) i64) (Ev_pos (by rw [hl]; exact i4) (Ev.bind e1 (Ev_pos (Int.natCast_nonneg _) (Ev_pos (Int.ofNat_le.2 tl) (Ev_bind_some nx)))))
end Go.Proofs.YtceihajjpeoloaaDoor.R2
