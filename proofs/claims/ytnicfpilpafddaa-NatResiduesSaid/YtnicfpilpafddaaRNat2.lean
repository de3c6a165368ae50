/- What the printed Cmp and Sub of nat and the comparison of lists compute. Conditions: lists of limbs below 2^64, of lengths that a slice has. -/
import Derived.Test.YtnicfpilpafddaaRNat1
import Derived.Test.YtnicfpilpafddaaPRx1
import Derived.Test.YtnicfpilpafddaaPRx4
namespace Go.Proofs.Ytnicfpilpafddaa.RNat2
open Go.RowKit Go.Proofs.YtnicfpilpafddaaW.PrintWords Go.Proofs.YtnicfpilpafddaaW.PrintLast Go.Proofs.YtnicfpilpafddaaW.PrintMore Go.Proofs.Ytnicfpilpafddaa.Lib Go.Proofs.Ytnicfpilpafddaa.PR Go.Proofs.Ytnicfpilpafddaa.RNat1
set_option linter.unusedVariables false

/-- -1, 0 or 1. -/
def cmp (a b : Nat) : Int := if a < b then -1 else if b < a then 1 else 0
theorem cmp_self (a : Nat) : cmp a a = 0 := by unfold cmp; rw [if_neg (Nat.lt_irrefl a), if_neg (Nat.lt_irrefl a)]
theorem cmp_lt {a b : Nat} (h : a < b) : cmp a b = -1 := by unfold cmp; rw [if_pos h]
theorem cmp_gt {a b : Nat} (h : b < a) : cmp a b = 1 := by unfold cmp; rw [if_neg (by omega), if_pos h]
theorem high_lt {P p q x y V : Nat} (hp : p < P) (h : x < y) : p + P * x + P * 0 < q + P * y := by
  have : P * (x + 1) ≤ P * y := Nat.mul_le_mul_left _ h
  rw [Nat.mul_add] at this
  omega
/-- The order is that of the highest limb in which two lists differ. -/
theorem val_cmp_at {a b : List Int} (ha : ok a) (hb : ok b) {i : Nat} (hia : i < a.length) (hib : i < b.length) (hz : val (a.drop (i + 1)) = val (b.drop (i + 1))) (h : rd a (i : Int) < rd b (i : Int)) : val a < val b := by
  have ra := ok_rd ha (i : Int)
  have h1 := val_split a i
  have h2 := val_split b i
  rw [Nat.min_eq_left (by omega), val_drop_cons a i hia] at h1
  rw [Nat.min_eq_left (by omega), val_drop_cons b i hib, ← hz] at h2
  have h3 := val_lt (ok_take ha i)
  rw [List.length_take, Nat.min_eq_left (by omega)] at h3
  rw [h1, h2, Nat.mul_add, Nat.mul_add]
  have h4 := high_lt (V := 0) (q := val (b.take i)) h3 (show (rd a (i : Int)).toNat < (rd b (i : Int)).toNat by omega)
  rw [Nat.mul_zero] at h4
  omega
theorem lim_len_lt {m n : Nat} (h : (lim m).length < (lim n).length) : m < n := by
  have h1 := (lim_len_le m (lim m).length).1 (Nat.le_refl _)
  have h2 := lim_len_le n (lim m).length
  omega
theorem val_drop_lim {l : List Int} (h : ok l) : val (l.drop (lim (val l)).length) = 0 := by
  have h1 := val_split l (lim (val l)).length
  rw [take_lim h, val_lim] at h1
  have h2 := B_pos (min (lim (val l)).length l.length)
  rcases Nat.eq_zero_or_pos (val (l.drop (lim (val l)).length)) with h3 | h3
  · exact h3
  · have := Nat.mul_le_mul h2 h3
    omega
theorem cmp_neg (a b : Nat) : cmp a b < 0 ↔ a < b := by unfold cmp; split <;> (try split) <;> omega
theorem cmp_pos (a b : Nat) : cmp a b > 0 ↔ b < a := by unfold cmp; split <;> (try split) <;> omega
theorem cmp_zero (a b : Nat) : cmp a b = 0 ↔ a = b := by unfold cmp; split <;> (try split) <;> omega
/-! ### lists held against each other one by one -/
end Go.Proofs.Ytnicfpilpafddaa.RNat2

/- What the printed MulAdd of nat computes. Conditions: lists of limbs below 2^64. -/
namespace Go.Proofs.Ytnicfpilpafddaa.RMad
open Go.RowKit Go.Proofs.YtnicfpilpafddaaW.PrintWords Go.Proofs.YtnicfpilpafddaaW.PrintLast Go.Proofs.YtnicfpilpafddaaW.PrintMore Go.Proofs.Ytnicfpilpafddaa.Lib Go.Proofs.Ytnicfpilpafddaa.PR Go.Proofs.Ytnicfpilpafddaa.RNat1
set_option linter.unusedVariables false
theorem nat_MulAdd_l {a : List Int} {m : Int} (ha : ok a) (hm : 0 ≤ m ∧ m < 18446744073709551616) (hl : a.length ≤ 35184372088000) (c0 : Nat) (d : Nat) :
    ∀ (i : Nat) (out : List Int) (c : Int), i + d = a.length → out.length = a.length + 1 → ok out → 0 ≤ c ∧ c < 18446744073709551616 → Aside0 (val (out.take i) + B i * c.toNat = val (a.take i) * m.toNat + c0) →
      Ev (fun k => nat_MulAdd.l0 k a m out c a a.length (i : Int)) (ans (val a * m.toNat + c0)) := by
  induction d with
  | zero =>
    intro i out c hi ho h6 hc hv
    obtain rfl : i = a.length := by omega
    refine Ev_succ ?_
    simp only [nat_MulAdd.l0]
    refine Ev_neg (by omega) (Ev_pos (by omega) (Ev_pos (by omega) ?_))
    rw [Int.toNat_natCast]
    refine Ev.bind (nat_cut_ev (ok_set h6 _ hc.1 hc.2) (by rw [List.length_set]; omega)) (Ev_some ?_)
    have h2 := val_take_set out a.length c (by omega)
    rw [val_take_all _ (by rw [List.length_set]; omega), hv.out, val_take_all a (Nat.le_refl _)] at h2
    rw [h2]
  | succ d ih =>
    intro i out c hi ho h6 hc hv
    have e : wrap64 ((i : Int) + 1) = ((i + 1 : Nat) : Int) := by unfold wrap64; omega
    have ra := ok_rd ha (i : Int)
    refine Ev_succ ?_
    simp only [nat_MulAdd.l0, e, Int.toNat_natCast]
    refine Ev_pos (by omega) (Ev_pos (by omega) (Ev_pos (by omega) ?_))
    have pm := mul_full ra hm
    refine Ev_bind_eq (mul64 ra hm) (Ev_bind_eq (add64 (by omega) hc (by omega)) (Ev_pos (by omega) ?_))
    have nat1 : ((rd a (i : Int) * m % 18446744073709551616 + c + 0) % 18446744073709551616).toNat + 18446744073709551616 * (IntKind.u64.wrap (rd a (i : Int) * m / 18446744073709551616 + (rd a (i : Int) * m % 18446744073709551616 + c + 0) / 18446744073709551616)).toNat = (rd a (i : Int)).toNat * m.toNat + 0 + c.toNat := by
      rw [← Int.toNat_mul ra.1 hm.1, IntKind.wrap_u64]
      clear hv
      generalize rd a (i : Int) * m = p at *
      omega
    have w0 : 0 ≤ IntKind.u64.wrap (rd a (i : Int) * m / 18446744073709551616 + (rd a (i : Int) * m % 18446744073709551616 + c + 0) / 18446744073709551616) ∧ IntKind.u64.wrap (rd a (i : Int) * m / 18446744073709551616 + (rd a (i : Int) * m % 18446744073709551616 + c + 0) / 18446744073709551616) < 18446744073709551616 := by rw [IntKind.wrap_u64]; omega
    refine ih (i + 1) _ _ (by omega) (by rw [List.length_set]; exact ho) (ok_set h6 _ (by omega) (by omega)) w0 ⟨?_⟩
    dsimp only
    generalize hx : (rd a (i : Int) * m % 18446744073709551616 + c + 0) % 18446744073709551616 = x at *
    generalize hy : IntKind.u64.wrap (rd a (i : Int) * m / 18446744073709551616 + (rd a (i : Int) * m % 18446744073709551616 + c + 0) / 18446744073709551616) = y at *
    rw [val_take_set _ _ _ (by omega), B_succ, val_take_succ a, Nat.add_mul, Nat.mul_assoc (B i)]
    have := mul_row (o := 0) (V := val (out.take i)) (V' := val (out.take i) + B i * x.toNat) (by omega) hv.out nat1
    rw [this]
    omega
def mulAddAns (a : Nat) (m c : Int) : List Int × Int := if a < B 4096 then ans (a * m.toNat + c.toNat) else ([], 2)
theorem nat_MulAdd_ev {a : List Int} {m c : Int} (ha : ok a) (hla : a.length ≤ 9223372036854775807) (hm : 0 ≤ m ∧ m < 18446744073709551616) (hc : 0 ≤ c ∧ c < 18446744073709551616) : Ev (fun k => nat_MulAdd.f k a m c) (mulAddAns (val a) m c) := by
  simp only [nat_MulAdd.f]
  refine Ev.bind (nat_big_ev ha hla) ?_
  unfold mulAddAns
  by_cases h1 : val a < B 4096
  · rw [if_pos h1]
    refine Ev_neg (by simp [h1]) ?_
    have sa := lim_len_val_le ha
    have ta := (lim_len_le (val a) 4096).2 h1
    refine Ev.bind (nat_size_ev ha hla) (Ev_pos (by omega) (Ev_pos (by omega) (Ev_bind_some ?_)))
    simp only [Int.toNat_natCast, take_lim ha]
    have e : wrap64 (((lim (val a)).length : Int) + 1) = (((lim (val a)).length + 1 : Nat) : Int) := by unfold wrap64; omega
    rw [e]
    refine Ev_pos (by omega) (Ev_pos (by omega) ?_)
    rw [Int.toNat_natCast]
    have := nat_MulAdd_l (ok_lim (val a)) hm (by omega) c.toNat (lim (val a)).length 0 (List.replicate ((lim (val a)).length + 1) 0) c (by omega) (by simp) (ok_replicate _) hc ⟨by simp [val_nil, B_zero]⟩
    rw [val_lim] at this
    exact this
  · rw [if_neg h1]
    exact Ev_pos (by simp [h1]) (Ev_some rfl)
end Go.Proofs.Ytnicfpilpafddaa.RMad
