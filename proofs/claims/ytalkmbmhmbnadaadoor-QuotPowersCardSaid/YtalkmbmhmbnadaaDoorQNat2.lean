/- What the printed Cmp and Sub of nat and the comparison of lists compute. Conditions: lists of limbs below 2^64, of lengths that a slice has. -/
import Derived.Test.YtalkmbmhmbnadaaDoorQNat1
namespace Go.Proofs.YtalkmbmhmbnadaaDoor.Nat2
open Go.RowKit Go.Proofs.YtalkmbmhmbnadaaDoor.Lib Go.Proofs.YtalkmbmhmbnadaaDoor.F Go.Proofs.YtalkmbmhmbnadaaDoor.Nat1
open Go.Proofs.YtalkmbmhmbnadaaDoorA (rd ln ln_eq mx mn shl shr wr wr_eq)
set_option linter.unusedVariables false
set_option linter.unusedSimpArgs false

/-- -1, 0 or 1. -/
def cmp (a b : Nat) : Int := if a < b then -1 else if b < a then 1 else 0
theorem cmp_self (a : Nat) : cmp a a = 0 := by unfold cmp; rw [if_neg (Nat.lt_irrefl a), if_neg (Nat.lt_irrefl a)]
theorem cmp_lt {a b : Nat} (h : a < b) : cmp a b = -1 := by unfold cmp; rw [if_pos h]
theorem cmp_gt {a b : Nat} (h : b < a) : cmp a b = 1 := by unfold cmp; rw [if_neg (by omega), if_pos h]
theorem high_lt {P p q x y V : Nat} (hp : p < P) (h : x < y) : p + P * x + P * 0 < q + P * y := by
  have : P * (x + 1) ≤ P * y := Nat.mul_le_mul_left _ h
  rw [Nat.mul_add] at this
  omega
/-- The order is that of the highest limb in which two lists differ. -/
theorem val_cmp_at {a b : List Int} (ha : ok a) (hb : ok b) {i : Nat} (hia : i < a.length) (hib : i < b.length) (hz : val (a.drop (i + 1)) = val (b.drop (i + 1))) (h : rd a (i : Int) < rd b (i : Int)) : val a < val b := by
  have ra := ok_rd ha (i : Int)
  have h1 := val_split a i
  have h2 := val_split b i
  rw [Nat.min_eq_left (by omega), val_drop_cons a i hia] at h1
  rw [Nat.min_eq_left (by omega), val_drop_cons b i hib, ← hz] at h2
  have h3 := val_lt (ok_take ha i)
  rw [List.length_take, Nat.min_eq_left (by omega)] at h3
  rw [h1, h2, Nat.mul_add, Nat.mul_add]
  have h4 := high_lt (V := 0) (q := val (b.take i)) h3 (show (rd a (i : Int)).toNat < (rd b (i : Int)).toNat by omega)
  rw [Nat.mul_zero] at h4
  omega
theorem nat_Cmp_l {a b : List Int} (ha : ok a) (hb : ok b) (hl : a.length ≤ 9223372036854775807) (i : Nat) : i ≤ a.length → i ≤ b.length → val (a.drop i) = val (b.drop i) →
    Ev (fun n m _ => nat_Cmp.l245 n m a b ((i : Int) - 1)) (cmp (val a) (val b)) := by
  induction i with
  | zero =>
    intro _ _ hz
    refine Ev_succ ?_
    simp only [nat_Cmp.l245, nat_Cmp.b245, ln_eq]
    refine Ev_neg (by omega) (Ev_some ?_)
    rw [List.drop_zero, List.drop_zero] at hz
    rw [hz, cmp_self]
  | succ i ih =>
    intro hia hib hz
    have e0 : ((i + 1 : Nat) : Int) - 1 = (i : Int) := by omega
    have e1 : wrap64 ((i : Int) - 1) = (i : Int) - 1 := by unfold wrap64; omega
    refine Ev_succ ?_
    simp only [nat_Cmp.l245, nat_Cmp.b245, ln_eq, e0, e1]
    refine Ev_pos (by omega) (Ev_pos (by omega) (Ev_pos (by omega) (Ev_pos (by omega) (Ev_pos (by omega) ?_))))
    by_cases h : rd a (i : Int) = rd b (i : Int)
    · refine Ev_neg (fun hn => hn h) (ih (by omega) (by omega) ?_)
      rw [val_drop_cons a i (by omega), val_drop_cons b i (by omega), h, hz]
    · refine Ev_pos h (Ev_pos (by omega) (Ev_pos (by omega) (Ev_pos (by omega) (Ev_pos (by omega) ?_))))
      by_cases h2 : rd a (i : Int) < rd b (i : Int)
      · refine Ev_pos h2 (Ev_some ?_)
        rw [cmp_lt (val_cmp_at ha hb (by omega) (by omega) hz h2)]
      · refine Ev_neg h2 (Ev_some ?_)
        rw [cmp_gt (val_cmp_at hb ha (by omega) (by omega) hz.symm (by omega))]
theorem lim_len_lt {m n : Nat} (h : (lim m).length < (lim n).length) : m < n := by
  have h1 := (lim_len_le m (lim m).length).1 (Nat.le_refl _)
  have h2 := lim_len_le n (lim m).length
  omega
theorem val_drop_lim {l : List Int} (h : ok l) : val (l.drop (lim (val l)).length) = 0 := by
  have h1 := val_split l (lim (val l)).length
  rw [take_lim h, val_lim] at h1
  have h2 := B_pos (min (lim (val l)).length l.length)
  rcases Nat.eq_zero_or_pos (val (l.drop (lim (val l)).length)) with h3 | h3
  · exact h3
  · have := Nat.mul_le_mul h2 h3
    omega
theorem nat_Cmp_ev {a b : List Int} (ha : ok a) (hb : ok b) (hla : a.length ≤ 9223372036854775807) (hlb : b.length ≤ 9223372036854775807) : Ev (fun n _ _ => nat_Cmp.f n a b) (cmp (val a) (val b)) := by
  simp only [nat_Cmp.f, nat_Cmp.b0]
  have sa := lim_len_val_le ha
  have sb := lim_len_val_le hb
  refine Ev.bind (nat_size_ev ha hla) (Ev.bind (nat_size_ev hb hlb) ?_)
  by_cases h : (lim (val a)).length = (lim (val b)).length
  · refine Ev_neg (by omega) ?_
    have e : wrap64 (((lim (val a)).length : Int) - 1) = ((lim (val a)).length : Int) - 1 := by unfold wrap64; omega
    rw [e]
    refine Ev_in (g := fun n m _ => nat_Cmp.l245 n m a b (((lim (val a)).length : Int) - 1)) ?_
    exact nat_Cmp_l ha hb hla _ sa (by omega) (by rw [val_drop_lim ha, h, val_drop_lim hb])
  · refine Ev_pos (by omega) ?_
    by_cases h2 : (lim (val a)).length < (lim (val b)).length
    · exact Ev_pos (by omega) (Ev_some (cmp_lt (lim_len_lt h2)).symm)
    · exact Ev_neg (by omega) (Ev_some (cmp_gt (lim_len_lt (by omega))).symm)
theorem cmp_neg (a b : Nat) : cmp a b < 0 ↔ a < b := by unfold cmp; split <;> (try split) <;> omega
theorem cmp_pos (a b : Nat) : cmp a b > 0 ↔ b < a := by unfold cmp; split <;> (try split) <;> omega
theorem cmp_zero (a b : Nat) : cmp a b = 0 ↔ a = b := by unfold cmp; split <;> (try split) <;> omega
/-! ### lists held against each other one by one -/
end Go.Proofs.YtalkmbmhmbnadaaDoor.Nat2

