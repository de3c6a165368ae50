/- What the printed MulAdd of nat computes. Conditions: lists of limbs below 2^64. -/
import Derived.Test.YtcacmhcekoeblaaDoorQNat1
namespace Go.Proofs.YtcacmhcekoeblaaDoor.Mad
open Go.RowKit Go.Proofs.YtcacmhcekoeblaaDoor.Lib Go.Proofs.YtcacmhcekoeblaaDoor.F Go.Proofs.YtcacmhcekoeblaaDoor.Nat1
open Go.Proofs.YtcacmhcekoeblaaDoorA (rd ln ln_eq mx mn shl shr wr wr_eq)
set_option linter.unusedVariables false
set_option linter.unusedSimpArgs false
theorem nat_MulAdd_l {a : List Int} {m : Int} (ha : ok a) (hm : 0 ≤ m ∧ m < 18446744073709551616) (hl : a.length ≤ 35184372088000) (c0 : Nat) (d : Nat) :
    ∀ (i : Nat) (out : List Int) (c : Int), i + d = a.length → out.length = a.length + 1 → ok out → 0 ≤ c ∧ c < 18446744073709551616 → Aside0 (val (out.take i) + B i * c.toNat = val (a.take i) * m.toNat + c0) →
      Ev (fun k j _ => nat_MulAdd.l1013 k j a m c a.length (i : Int) out) (ans (val a * m.toNat + c0)) := by
  induction d with
  | zero =>
    intro i out c hi ho h6 hc hv
    obtain rfl : i = a.length := by omega
    refine Ev_succ ?_
    simp only [nat_MulAdd.l1013, nat_MulAdd.b1013, nat_MulAdd.l127, nat_MulAdd.b127, ln_eq]
    refine Ev_neg (by omega) (Ev_pos (by omega) (Ev_pos (by omega) ?_))
    rw [Int.toNat_natCast]
    refine Ev.bind (nat_cut_ev (ok_set h6 _ hc.1 hc.2) (by rw [List.length_set]; omega)) (Ev_some ?_)
    have h2 := val_take_set out a.length c (by omega)
    rw [val_take_all _ (by rw [List.length_set]; omega), hv.out, val_take_all a (Nat.le_refl _)] at h2
    rw [h2]
  | succ d ih =>
    intro i out c hi ho h6 hc hv
    have e : wrap64 ((i : Int) + 1) = ((i + 1 : Nat) : Int) := by unfold wrap64; omega
    have ra := ok_rd ha (i : Int)
    refine Ev_succ ?_
    simp only [nat_MulAdd.l1013, nat_MulAdd.b1013, ln_eq, e, Int.toNat_natCast]
    refine Ev_pos (by omega) (Ev_pos (by omega) (Ev_pos (by omega) ?_))
    have pm := mul_full ra hm
    refine Ev_bind_eq (mul64 ra hm) (Ev_bind_eq (add64 (by omega) hc (by omega)) (Ev_pos (by omega) (Ev_pos (by omega) ?_)))
    have nat1 : ((rd a (i : Int) * m % 18446744073709551616 + c + 0) % 18446744073709551616).toNat + 18446744073709551616 * (IntKind.u64.wrap (rd a (i : Int) * m / 18446744073709551616 + (rd a (i : Int) * m % 18446744073709551616 + c + 0) / 18446744073709551616)).toNat = (rd a (i : Int)).toNat * m.toNat + 0 + c.toNat := by
      rw [← Int.toNat_mul ra.1 hm.1, IntKind.wrap_u64]
      clear hv
      generalize rd a (i : Int) * m = p at *
      omega
    have w0 : 0 ≤ IntKind.u64.wrap (rd a (i : Int) * m / 18446744073709551616 + (rd a (i : Int) * m % 18446744073709551616 + c + 0) / 18446744073709551616) ∧ IntKind.u64.wrap (rd a (i : Int) * m / 18446744073709551616 + (rd a (i : Int) * m % 18446744073709551616 + c + 0) / 18446744073709551616) < 18446744073709551616 := by rw [IntKind.wrap_u64]; omega
    refine ih (i + 1) _ _ (by omega) (by rw [List.length_set]; exact ho) (ok_set h6 _ (by omega) (by omega)) w0 ⟨?_⟩
    dsimp only
    generalize hx : (rd a (i : Int) * m % 18446744073709551616 + c + 0) % 18446744073709551616 = x at *
    generalize hy : IntKind.u64.wrap (rd a (i : Int) * m / 18446744073709551616 + (rd a (i : Int) * m % 18446744073709551616 + c + 0) / 18446744073709551616) = y at *
    rw [val_take_set _ _ _ (by omega), B_succ, val_take_succ a, Nat.add_mul, Nat.mul_assoc (B i)]
    have := mul_row (o := 0) (V := val (out.take i)) (V' := val (out.take i) + B i * x.toNat) (by omega) hv.out nat1
    rw [this]
    omega
def mulAddAns (a : Nat) (m c : Int) : List Int × Int := if a < B 4096 then ans (a * m.toNat + c.toNat) else ([], 2)
theorem nat_MulAdd_ev {a : List Int} {m c : Int} (ha : ok a) (hla : a.length ≤ 9223372036854775807) (hm : 0 ≤ m ∧ m < 18446744073709551616) (hc : 0 ≤ c ∧ c < 18446744073709551616) : Ev (fun k _ _ => nat_MulAdd.f k a m c) (mulAddAns (val a) m c) := by
  simp only [nat_MulAdd.f, nat_MulAdd.b0, ln_eq]
  refine Ev.bind (nat_big_ev ha hla) ?_
  unfold mulAddAns
  by_cases h1 : val a < B 4096
  · rw [if_pos h1]
    refine Ev_neg (by simp [h1]) ?_
    have sa := lim_len_val_le ha
    have ta := (lim_len_le (val a) 4096).2 h1
    refine Ev.bind (nat_size_ev ha hla) (Ev_pos (by omega) (Ev_pos (by omega) (Ev_bind_some ?_)))
    simp only [Int.toNat_natCast, take_lim ha]
    have e : wrap64 (((lim (val a)).length : Int) + 1) = (((lim (val a)).length + 1 : Nat) : Int) := by unfold wrap64; omega
    rw [e]
    refine Ev_pos (by omega) (Ev_pos (by omega) ?_)
    rw [Int.toNat_natCast]
    have := nat_MulAdd_l (ok_lim (val a)) hm (by omega) c.toNat (lim (val a)).length 0 (List.replicate ((lim (val a)).length + 1) 0) c (by omega) (by simp) (ok_replicate _) hc ⟨by simp [val_nil, B_zero]⟩
    rw [val_lim] at this
    exact Ev_in (g := fun k j _ => nat_MulAdd.l1013 k j (lim (val a)) m c (lim (val a)).length 0 (List.replicate ((lim (val a)).length + 1) 0)) this
  · rw [if_neg h1]
    exact Ev_pos (by simp [h1]) (Ev_some rfl)
end Go.Proofs.YtcacmhcekoeblaaDoor.Mad
