/- What the printed Cmp and Sub of nat and the comparison of lists compute. Conditions: lists of limbs below 2^64, of lengths that a slice has. -/
import Derived.Test.YtcacmhcekoeblaaDoorQNat1
namespace Go.Proofs.YtcacmhcekoeblaaDoor.Nat2
open Go.RowKit Go.Proofs.YtcacmhcekoeblaaDoor.Lib Go.Proofs.YtcacmhcekoeblaaDoor.F Go.Proofs.YtcacmhcekoeblaaDoor.Nat1
open Go.Proofs.YtcacmhcekoeblaaDoorA (rd ln ln_eq mx mn shl shr wr wr_eq)
set_option linter.unusedVariables false
set_option linter.unusedSimpArgs false

/-- -1, 0 or 1. -/
def cmp (a b : Nat) : Int := if a < b then -1 else if b < a then 1 else 0
theorem cmp_self (a : Nat) : cmp a a = 0 := by unfold cmp; rw [if_neg (Nat.lt_irrefl a), if_neg (Nat.lt_irrefl a)]
theorem cmp_lt {a b : Nat} (h : a < b) : cmp a b = -1 := by unfold cmp; rw [if_pos h]
theorem cmp_gt {a b : Nat} (h : b < a) : cmp a b = 1 := by unfold cmp; rw [if_neg (by omega), if_pos h]
theorem high_lt {P p q x y V : Nat} (hp : p < P) (h : x < y) : p + P * x + P * 0 < q + P * y := by
  have : P * (x + 1) ≤ P * y := Nat.mul_le_mul_left _ h
  rw [Nat.mul_add] at this
  omega
/-- The order is that of the highest limb in which two lists differ. -/
theorem val_cmp_at {a b : List Int} (ha : ok a) (hb : ok b) {i : Nat} (hia : i < a.length) (hib : i < b.length) (hz : val (a.drop (i + 1)) = val (b.drop (i + 1))) (h : rd a (i : Int) < rd b (i : Int)) : val a < val b := by
  have ra := ok_rd ha (i : Int)
  have h1 := val_split a i
  have h2 := val_split b i
  rw [Nat.min_eq_left (by omega), val_drop_cons a i hia] at h1
  rw [Nat.min_eq_left (by omega), val_drop_cons b i hib, ← hz] at h2
  have h3 := val_lt (ok_take ha i)
  rw [List.length_take, Nat.min_eq_left (by omega)] at h3
  rw [h1, h2, Nat.mul_add, Nat.mul_add]
  have h4 := high_lt (V := 0) (q := val (b.take i)) h3 (show (rd a (i : Int)).toNat < (rd b (i : Int)).toNat by omega)
  rw [Nat.mul_zero] at h4
  omega
theorem nat_Cmp_l {a b : List Int} (ha : ok a) (hb : ok b) (hl : a.length ≤ 9223372036854775807) (i : Nat) : i ≤ a.length → i ≤ b.length → val (a.drop i) = val (b.drop i) →
    Ev (fun n m _ => nat_Cmp.l245 n m a b ((i : Int) - 1)) (cmp (val a) (val b)) := by
  induction i with
  | zero =>
    intro _ _ hz
    refine Ev_succ ?_
    simp only [nat_Cmp.l245, nat_Cmp.b245, ln_eq]
    refine Ev_neg (by omega) (Ev_some ?_)
    rw [List.drop_zero, List.drop_zero] at hz
    rw [hz, cmp_self]
  | succ i ih =>
    intro hia hib hz
    have e0 : ((i + 1 : Nat) : Int) - 1 = (i : Int) := by omega
    have e1 : wrap64 ((i : Int) - 1) = (i : Int) - 1 := by unfold wrap64; omega
    refine Ev_succ ?_
    simp only [nat_Cmp.l245, nat_Cmp.b245, ln_eq, e0, e1]
    refine Ev_pos (by omega) (Ev_pos (by omega) (Ev_pos (by omega) (Ev_pos (by omega) (Ev_pos (by omega) ?_))))
    by_cases h : rd a (i : Int) = rd b (i : Int)
    · refine Ev_neg (fun hn => hn h) (ih (by omega) (by omega) ?_)
      rw [val_drop_cons a i (by omega), val_drop_cons b i (by omega), h, hz]
    · refine Ev_pos h (Ev_pos (by omega) (Ev_pos (by omega) (Ev_pos (by omega) (Ev_pos (by omega) ?_))))
      by_cases h2 : rd a (i : Int) < rd b (i : Int)
      · refine Ev_pos h2 (Ev_some ?_)
        rw [cmp_lt (val_cmp_at ha hb (by omega) (by omega) hz h2)]
      · refine Ev_neg h2 (Ev_some ?_)
        rw [cmp_gt (val_cmp_at hb ha (by omega) (by omega) hz.symm (by omega))]
theorem lim_len_lt {m n : Nat} (h : (lim m).length < (lim n).length) : m < n := by
  have h1 := (lim_len_le m (lim m).length).1 (Nat.le_refl _)
  have h2 := lim_len_le n (lim m).length
  omega
theorem val_drop_lim {l : List Int} (h : ok l) : val (l.drop (lim (val l)).length) = 0 := by
  have h1 := val_split l (lim (val l)).length
  rw [take_lim h, val_lim] at h1
  have h2 := B_pos (min (lim (val l)).length l.length)
  rcases Nat.eq_zero_or_pos (val (l.drop (lim (val l)).length)) with h3 | h3
  · exact h3
  · have := Nat.mul_le_mul h2 h3
    omega
theorem nat_Cmp_ev {a b : List Int} (ha : ok a) (hb : ok b) (hla : a.length ≤ 9223372036854775807) (hlb : b.length ≤ 9223372036854775807) : Ev (fun n _ _ => nat_Cmp.f n a b) (cmp (val a) (val b)) := by
  simp only [nat_Cmp.f, nat_Cmp.b0]
  have sa := lim_len_val_le ha
  have sb := lim_len_val_le hb
  refine Ev.bind (nat_size_ev ha hla) (Ev.bind (nat_size_ev hb hlb) ?_)
  by_cases h : (lim (val a)).length = (lim (val b)).length
  · refine Ev_neg (by omega) ?_
    have e : wrap64 (((lim (val a)).length : Int) - 1) = ((lim (val a)).length : Int) - 1 := by unfold wrap64; omega
    rw [e]
    refine Ev_in (g := fun n m _ => nat_Cmp.l245 n m a b (((lim (val a)).length : Int) - 1)) ?_
    exact nat_Cmp_l ha hb hla _ sa (by omega) (by rw [val_drop_lim ha, h, val_drop_lim hb])
  · refine Ev_pos (by omega) ?_
    by_cases h2 : (lim (val a)).length < (lim (val b)).length
    · exact Ev_pos (by omega) (Ev_some (cmp_lt (lim_len_lt h2)).symm)
    · exact Ev_neg (by omega) (Ev_some (cmp_gt (lim_len_lt (by omega))).symm)
theorem cmp_neg (a b : Nat) : cmp a b < 0 ↔ a < b := by unfold cmp; split <;> (try split) <;> omega
theorem cmp_pos (a b : Nat) : cmp a b > 0 ↔ b < a := by unfold cmp; split <;> (try split) <;> omega
theorem cmp_zero (a b : Nat) : cmp a b = 0 ↔ a = b := by unfold cmp; split <;> (try split) <;> omega
/-! ### Sub -/
theorem sub64 {a b c : Int} (ha : 0 ≤ a ∧ a < 18446744073709551616) (hb : 0 ≤ b ∧ b < 18446744073709551616) (hc : 0 ≤ c ∧ c ≤ 1) :
    ∃ d e : Int, bits_Sub64.f a b c = some (d, e) ∧ (0 ≤ d ∧ d < 18446744073709551616) ∧ (0 ≤ e ∧ e ≤ 1) ∧ d.toNat + b.toNat + c.toNat = a.toNat + 18446744073709551616 * e.toNat := by
  unfold bits_Sub64.f
  rw [if_pos ⟨ha.1, hb.1, hb.2, hc.1, hc.2⟩]
  refine ⟨_, _, rfl, ?_⟩
  split <;> omega
theorem sub_row {P V T1 T2 c d e x y : Nat} (h1 : V + T2 = T1 + P * c) (h2 : d + y + c = x + 18446744073709551616 * e) : V + P * d + (T2 + P * y) = T1 + P * x + (18446744073709551616 * P) * e := by
  have h4 : P * (d + y + c) = P * (x + 18446744073709551616 * e) := by rw [h2]
  rw [Nat.mul_add, Nat.mul_add, Nat.mul_add, ← Nat.mul_assoc] at h4
  rw [Nat.mul_comm 18446744073709551616 P]
  omega
theorem sub_inv {a b x6 : List Int} {i : Nat} {c d e : Int} (h6 : i < x6.length) (hv : val (x6.take i) + val (b.take i) = val (a.take i) + B i * c.toNat)
    (hd : d.toNat + (rd b (i : Int)).toNat + c.toNat = (rd a (i : Int)).toNat + 18446744073709551616 * e.toNat) :
    val ((x6.set i d).take (i + 1)) + val (b.take (i + 1)) = val (a.take (i + 1)) + B (i + 1) * e.toNat := by
  rw [val_take_set _ _ _ h6, B_succ, val_take_succ a, val_take_succ b]
  exact sub_row hv hd
theorem nat_Sub_l {a b : List Int} (ha : ok a) (hb : ok b) (hab : b.length ≤ a.length) (hle : val b ≤ val a) (hl : a.length ≤ 35184372088000) (d : Nat) :
    ∀ (i : Nat) (x6 : List Int) (c : Int), i + d = a.length → x6.length = a.length → ok x6 → 0 ≤ c ∧ c ≤ 1 → Aside0 (val (x6.take i) + val (b.take i) = val (a.take i) + B i * c.toNat) →
      Ev (fun n m _ => nat_Sub.l2037 n m b c i a a.length x6) (ans (val a - val b)) := by
  induction d with
  | zero =>
    intro i x6 c hi hx h6 hc hv
    obtain rfl : i = a.length := by omega
    refine Ev_succ ?_
    simp only [nat_Sub.l2037, nat_Sub.b2037, nat_Sub.l255, nat_Sub.b255]
    refine Ev_neg (by omega) ?_
    have h1 := hv.out
    rw [val_take_all a (Nat.le_refl _), val_take_all b hab, val_take_all x6 (by omega)] at h1
    have h2 := val_lt h6
    rw [hx] at h2
    have h3 : c = 0 ∨ c = 1 := by omega
    have h4 : val x6 = val a - val b := by
      rcases h3 with rfl | rfl
      · simp at h1; omega
      · simp at h1; omega
    refine Ev.bind (nat_cut_ev h6 (by omega)) (Ev_some ?_)
    rw [h4]
  | succ d ih =>
    intro i x6 c hi hx h6 hc hv
    have e : wrap64 ((i : Int) + 1) = ((i + 1 : Nat) : Int) := by unfold wrap64; omega
    have ra := ok_rd ha (i : Int)
    have rb := ok_rd hb (i : Int)
    refine Ev_succ ?_
    simp only [nat_Sub.l2037, nat_Sub.b2037, nat_Sub.l260711, nat_Sub.b260711, ln_eq, e, Int.toNat_natCast]
    refine Ev_pos (by omega) (Ev_pos (by omega) (Ev_pos (by omega) ?_))
    have go : ∀ y : Int, y = rd b (i : Int) → Ev (fun n m _ => (bits_Sub64.f (rd a (i : Int)) y c).bind fun bt => if 0 ≤ (i : Int) then if (i : Int) < (x6.length : Int) then nat_Sub.l2037 n m b bt.2 ((i + 1 : Nat) : Int) a a.length (x6.set i bt.1) else none else none) (ans (val a - val b)) := by
      rintro y rfl
      obtain ⟨dd, ee, h1, h2, h3, h4⟩ := sub64 ra rb hc
      refine Ev_bind_eq h1 (Ev_pos (by omega) (Ev_pos (by omega) ?_))
      exact ih (i + 1) _ _ (by omega) (by rw [List.length_set]; exact hx) (ok_set h6 _ h2.1 h2.2) h3 ⟨sub_inv (by omega) hv.out h4⟩
    by_cases hib : i < b.length
    · exact Ev_pos (by omega) (Ev_pos (by omega) (Ev_pos (by omega) (go _ rfl)))
    · exact Ev_neg (by omega) (go 0 (rd_over (by omega)).symm)
/-- What Sub answers. -/
def subAns (a b : Nat) : List Int × Int := ans2 a b (if a < b then ([], 10) else (lim (a - b), 0))
theorem nat_Sub_ev {a b : List Int} (ha : ok a) (hb : ok b) (hla : a.length ≤ 9223372036854775807) (hlb : b.length ≤ 9223372036854775807) : Ev (fun n _ _ => nat_Sub.f n a b) (subAns (val a) (val b)) := by
  simp only [nat_Sub.f, nat_Sub.b0, ln_eq]
  refine Ev.bind (nat_big_ev ha hla) ?_
  unfold subAns ans2
  by_cases h1 : val a < B 4096
  · refine Ev_neg (by simp [h1]) ?_
    refine Ev.bind (nat_big_ev hb hlb) ?_
    by_cases h2 : val b < B 4096
    · rw [if_pos ⟨h1, h2⟩, decide_eq_false (by simp [h2])]
      refine Ev_neg (by simp) ?_
      refine Ev.bind (nat_Cmp_ev ha hb hla hlb) ?_
      have hc := cmp_neg (val a) (val b)
      by_cases h3 : val a < val b
      · rw [if_pos h3]
        exact Ev_pos (hc.2 h3) (Ev_some rfl)
      · rw [if_neg h3]
        refine Ev_neg (fun h => h3 (hc.1 h)) ?_
        have sa := lim_len_val_le ha
        have sb := lim_len_val_le hb
        have ta := (lim_len_le (val a) 4096).2 h1
        have tb := (lim_len_le (val b) 4096).2 h2
        have tc : (lim (val b)).length ≤ (lim (val a)).length := by
          rcases Nat.lt_or_ge (lim (val a)).length (lim (val b)).length with h | h
          · exact absurd (lim_len_lt h) h3
          · exact h
        refine Ev.bind (nat_size_ev ha hla) (Ev_pos (by omega) (Ev_pos (by omega) (Ev_bind_some ?_)))
        refine Ev.bind (nat_size_ev hb hlb) (Ev_pos (by omega) (Ev_pos (by omega) (Ev_bind_some ?_)))
        simp only [Int.toNat_natCast, take_lim ha, take_lim hb]
        refine Ev_pos (by omega) (Ev_pos (by omega) ?_)
        have := nat_Sub_l (ok_lim (val a)) (ok_lim (val b)) tc (by rw [val_lim, val_lim]; omega) (by omega) (lim (val a)).length 0 (List.replicate (lim (val a)).length 0) 0 (by omega) (by simp) (ok_replicate _) (by omega) ⟨by simp [val_nil]⟩
        rw [val_lim, val_lim, ans, if_pos (by omega)] at this
        exact Ev_in this
    · rw [if_neg (fun h => h2 h.2), decide_eq_true (by simp [h2])]
      exact Ev_pos rfl (Ev_some rfl)
  · rw [if_neg (fun h => h1 h.1)]
    exact Ev_pos (by simp [h1]) (Ev_some rfl)

/-! ### lists held against each other one by one -/
--TEMPLATE same abacuslaw01_same abacusref01_Same
end Go.Proofs.YtcacmhcekoeblaaDoor.Nat2

