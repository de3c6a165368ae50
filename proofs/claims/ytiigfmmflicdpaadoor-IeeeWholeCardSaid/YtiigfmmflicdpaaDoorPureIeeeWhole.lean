/- The law of whole numbers through doubles holds for every input. No conditions. -/
import Derived.Test.YtiigfmmflicdpaaDoorBIeee2
import Derived.Test.YtiigfmmflicdpaaDoorPBx4
import Derived.Test.YtiigfmmflicdpaaDoorPBx6
import Derived.Test.YtiigfmmflicdpaaDoorPBx8
namespace Go.Proofs.YtiigfmmflicdpaaDoor.Pure
open Go.RowKit Go.Proofs.YtiigfmmflicdpaaDoorW.PrintWords Go.Proofs.YtiigfmmflicdpaaDoorW.PrintLast Go.Proofs.YtiigfmmflicdpaaDoorW.PrintMore Go.Proofs.YtiigfmmflicdpaaDoor.Lib Go.Proofs.YtiigfmmflicdpaaDoor.LibB Go.Proofs.YtiigfmmflicdpaaDoor.PB Go.Proofs.YtiigfmmflicdpaaDoor.BNat1 Go.Proofs.YtiigfmmflicdpaaDoor.BBits Go.Proofs.YtiigfmmflicdpaaDoor.BIeee1 Go.Proofs.YtiigfmmflicdpaaDoor.BMag Go.Proofs.YtiigfmmflicdpaaDoor.BIeee2 Go.Proofs.YtiigfmmflicdpaaDoor.Rnd
set_option linter.unusedVariables false
/-- The double of a whole number of at most 53 digits. -/
theorem whole_exact {n Z : Nat} (hZ : Z = 1074) (h : n ≤ 9007199254740992) : ∃ p, rnd n 0 false = p ∧ p ≤ 1074 * 4503599627370496 + 9007199254740992 ∧ uni p = n * 2 ^ Z := by
  obtain ⟨p, hp, hu⟩ := uni_rep Z n h (by omega)
  refine ⟨p, rnd_exact (a := Z) (b := 0) (by omega) hp (by rw [hu, Nat.pow_zero, Nat.mul_one]), ?_, hu⟩
  have ht := uni_at (k := Z) (c := 9007199254740992) (.inr (by omega)) (by omega)
  have h2 : p ≤ Z * 4503599627370496 + 9007199254740992 := by
    refine uni_le_iff.1 ?_
    rw [ht, hu]
    exact Nat.mul_le_mul_right _ h
  rw [hZ] at h2
  exact h2
theorem plc_put {neg : Bool} {p : Nat} (h : p ≤ inf) : plc (put neg p) = p ∧ U (put neg p) ∧ sgn (put neg p) = neg := by
  unfold inf at h
  unfold plc put U sgn
  cases neg with
  | false => simp only [Bool.false_eq_true, if_false]; exact ⟨by omega, by omega, decide_eq_false (by omega)⟩
  | true => simp only [if_true]; exact ⟨by omega, by omega, decide_eq_true (by omega)⟩
theorem whole_tail {n : Nat} {neg : Bool} (h : n < B 4096) : Ev (fun k => (nat_ToUint.f k (lim n)).bind fun bt425 => (if bt425.2 = true then (if bt425.1 > 9223372036854775808 then (if (toInt neg n).2 = 41 then (some ((toInt neg n).1 == 0)) else (some false)) else (if bt425.1 = 9223372036854775808 then (if neg = true then (if (toInt neg n).2 = 0 then (if (IntKind.u64.wrap ((toInt neg n).1)) = (IntKind.u64.wrap (-bt425.1)) then (some true) else (some false)) else (some false)) else (if (toInt neg n).2 = 41 then (some ((toInt neg n).1 == 0)) else (some false))) else (if (toInt neg n).2 = 0 then (if neg = true then (if (IntKind.u64.wrap ((toInt neg n).1)) = (IntKind.u64.wrap (-bt425.1)) then (some true) else (some false)) else (some ((IntKind.u64.wrap ((toInt neg n).1)) == bt425.1))) else (some false)))) else (if (toInt neg n).2 = 41 then (some ((toInt neg n).1 == 0)) else (some false)))) true := by
  refine Ev.bind (nat_ToUint_ev h) ?_
  by_cases h64 : n < 18446744073709551616
  · rw [if_pos h64]
    refine Ev_pos (by first | rfl | trivial) ?_
    by_cases h1 : n > 9223372036854775808
    · have e : toInt neg n = (0, 41) := by unfold toInt; rw [if_neg (by omega), if_neg (by omega)]
      rw [e]
      exact Ev_pos (by dsimp only; omega) (Ev_pos (by first | rfl | trivial) (Ev_some rfl))
    · refine Ev_neg (by dsimp only; omega) ?_
      by_cases h2 : n = 9223372036854775808
      · subst h2
        refine Ev_pos (by first | rfl | trivial) ?_
        cases neg with
        | true =>
          have e : toInt true 9223372036854775808 = (-9223372036854775808, 0) := rfl
          rw [e]
          exact Ev_pos (by first | rfl | trivial) (Ev_pos (by first | rfl | trivial) (Ev_pos (by first | rfl | trivial) (Ev_some rfl)))
        | false =>
          have e : toInt false 9223372036854775808 = (0, 41) := rfl
          rw [e]
          exact Ev_neg (by simp) (Ev_pos (by first | rfl | trivial) (Ev_some rfl))
      · refine Ev_neg (by dsimp only; omega) ?_
        cases neg with
        | true =>
          have e : toInt true n = (-(n : Int), 0) := by unfold toInt; rw [if_neg (by simp), if_pos ⟨by omega, rfl⟩]
          rw [e]
          exact Ev_pos (by first | rfl | trivial) (Ev_pos (by first | rfl | trivial) (Ev_pos (by first | rfl | trivial) (Ev_some rfl)))
        | false =>
          have e : toInt false n = ((n : Int), 0) := by unfold toInt; rw [if_pos ⟨by omega, rfl⟩]
          rw [e]
          refine Ev_pos (by first | rfl | trivial) (Ev_neg (by simp) (Ev_some ?_))
          rw [show IntKind.u64.wrap ((n : Int), (0 : Int)).1 = (n : Int) by rw [IntKind.wrap_u64]; dsimp only; omega]
          exact beq_self_eq_true _
  · have e : toInt neg n = (0, 41) := by unfold toInt; rw [if_neg (by omega), if_neg (by omega)]
    rw [if_neg h64, e]
    exact Ev_neg (by simp) (Ev_pos (by first | rfl | trivial) (Ev_some rfl))
theorem comp_lt {a b : Nat} (ha : a ≤ inf) (hb : b ≤ inf) (h : a < b) : comp (a : Int) (b : Int) = (-1, true) := by
  unfold inf at ha hb
  unfold comp
  rw [if_neg (by unfold nan; omega), if_neg (by unfold nan; omega)]
  have e1 : rk (a : Int) = (a : Int) := by unfold rk; rw [if_pos (by omega)]
  have e2 : rk (b : Int) = (b : Int) := by unfold rk; rw [if_pos (by omega)]
  rw [e1, e2]
  unfold ord
  rw [if_pos (by omega)]
theorem whole_j3 {d : Int} (h : U d) (hf : fin d) : Ev (fun k => abacuslaw04_IeeeWhole.j3 k d (sgn d) (lim (trunc d)) (toInt (sgn d) (trunc d)).1 (toInt (sgn d) (trunc d)).2 false) true := by
  have hp := plc_fin.1 hf
  have hl := trunc_limit hf
  have habs : ieee_Abs.f d = some ((plc d : Nat) : Int) := by rw [Abs_eq h]; unfold plc; congr 1; omega
  obtain ⟨Z, hZ⟩ : ∃ Z, Z = 1074 := ⟨_, rfl⟩
  have hZ0 : 0 < 2 ^ Z := Nat.pow_pos (by omega)
  have ht : trunc d = uni (plc d) / 2 ^ Z := by rw [hZ]; rfl
  have hdm := Nat.div_add_mod (uni (plc d)) (2 ^ Z)
  rw [← ht] at hdm
  have hint := Integral_eq h
  rw [← hZ] at hint
  have hi : decide (fin d ∧ uni (plc d) % 2 ^ Z = 0) = decide (uni (plc d) % 2 ^ Z = 0) := decide_eq_decide.2 ⟨fun h => h.2, fun h => ⟨hf, h⟩⟩
  rw [hi] at hint
  have tp := trunc_parts hZ hf
  have er := exp_range hf
  have mr := man_range hf
  have small : uni (plc d) % 2 ^ Z ≠ 0 → trunc d + 1 ≤ 9007199254740992 := by
    intro hne
    have he : ¬ expOf d ≥ 0 := fun h => hne (tp.2.2 (.inl h))
    rw [ht, tp.1, if_neg he]
    have := Nat.div_le_self (manOf d).toNat (2 ^ (-expOf d).toNat)
    omega
  have key : rnd (trunc d) 0 false = plc d ↔ uni (plc d) % 2 ^ Z = 0 := by
    constructor
    · intro hx
      rcases Nat.eq_zero_or_pos (uni (plc d) % 2 ^ Z) with h0 | h0
      · exact h0
      · exfalso
        obtain ⟨p, h1, h2, h3⟩ := whole_exact (n := trunc d) hZ (by have := small (by omega); omega)
        rw [← h1, hx] at h3
        rw [Nat.mul_comm] at h3
        omega
    · intro h0
      refine rnd_exact (a := Z) (b := 0) (by omega) (Nat.le_of_lt hp) ?_
      rw [Nat.pow_zero, Nat.mul_one, Nat.mul_comm]
      omega
  refine Ev_succ ?_
  simp only [abacuslaw04_IeeeWhole.j3]
  refine Ev_neg (by simp) (Ev.bind (limb_ev hl) (Ev_bind_eq hint (Ev_bind_eq habs ?_)))
  have hx : put false (rnd (trunc d) 0 false) = ((rnd (trunc d) 0 false : Nat) : Int) := rfl
  rw [hx]
  by_cases h0 : uni (plc d) % 2 ^ Z = 0
  · have e := key.2 h0
    rw [e, decide_eq_true h0]
    refine Ev_neg (by simp) (Ev_bind_eq habs (Ev_pos rfl ?_))
    exact whole_tail hl
  · have hne : rnd (trunc d) 0 false ≠ plc d := fun h => h0 (key.1 h)
    have hs := small h0
    obtain ⟨p, h1, h2, h3⟩ := whole_exact (n := trunc d) hZ (by omega)
    obtain ⟨q, g1, g2, g3⟩ := whole_exact (n := trunc d + 1) hZ hs
    rw [h1] at hne ⊢
    have hml := Nat.mod_lt (uni (plc d)) hZ0
    have lt1 : p < plc d := by
      refine uni_lt_iff.1 ?_
      rw [h3, Nat.mul_comm]
      omega
    have lt2 : plc d < q := by
      refine uni_lt_iff.1 ?_
      rw [g3, Nat.add_mul, Nat.one_mul, Nat.mul_comm]
      omega
    have hpi : p ≤ inf := by unfold inf; omega
    have hqi : q ≤ inf := by unfold inf; omega
    have hone : ([1] : List Int) = lim 1 := by rw [lim_one_len (by omega) (by omega)]; rfl
    have ha := nat_Add_ev (a := lim (trunc d)) (b := lim 1) (ok_lim _) (ok_lim _) (by have := (lim_len_le _ 4096).2 hl; omega) (by have := (lim_len_le _ 4096).2 (small_limit (n := 1) (by omega)); omega)
    have hB1 : trunc d + 1 < B 4096 := small_limit (by omega)
    rw [val_lim, val_lim, ans2, if_pos ⟨hl, small_limit (by omega)⟩, ans, if_pos hB1] at ha
    have c1 := Compare_eq (a := (p : Int)) (b := ((plc d : Nat) : Int)) ⟨by omega, by unfold inf at hpi; omega⟩ ⟨by omega, by have := plc_lt d; omega⟩
    rw [comp_lt hpi (Nat.le_of_lt hp) lt1] at c1
    have c2 := Compare_eq (a := ((plc d : Nat) : Int)) (b := (q : Int)) ⟨by omega, by have := plc_lt d; omega⟩ ⟨by omega, by unfold inf at hqi; omega⟩
    rw [comp_lt (Nat.le_of_lt hp) hqi lt2] at c2
    have hr := limb_ev (neg := false) (e := 0) (more := false) hB1
    rw [show put false (rnd (trunc d + 1) 0 false) = (q : Int) by rw [g1]; rfl] at hr
    have hpe : ((p : Int) == ((plc d : Nat) : Int)) = false := by simp; omega
    rw [decide_eq_false h0, hone]
    refine Ev_neg (by simp; omega) (Ev_bind_eq habs (Ev_neg (by dsimp only; omega) (Ev.bind ha (Ev.bind hr (Ev_bind_eq habs (Ev_bind_eq c1 (Ev_bind_eq habs (Ev_bind_eq c2 (Ev_pos (by first | rfl | trivial) (Ev_pos (by first | rfl | trivial) ?_))))))))))
    refine Ev_succ ?_
    simp only [abacuslaw04_IeeeWhole.j4]
    refine Ev_neg (by simp) ?_
    exact whole_tail hl
theorem whole_j2 {d : Int} (h : U d) : Ev (fun k => abacuslaw04_IeeeWhole.j2 k d false) true := by
  refine Ev_succ ?_
  simp only [abacuslaw04_IeeeWhole.j2]
  refine Ev_neg (by simp) (Ev.bind (Whole_ev h) (Ev.bind (ToInt_ev h) ?_))
  have h0 := h.1
  have hm : Int.tmod d 9223372036854775808 = d % 9223372036854775808 := Int.tmod_eq_emod_of_nonneg h0
  by_cases hf : fin d
  · rw [if_pos hf, if_pos hf, hm]
    have hs : (sgn d != decide (d ≥ 9223372036854775808)) = false := by unfold sgn; simp
    refine Ev_neg (by unfold fin at hf; omega) (Ev_pos (by first | rfl | trivial) ?_)
    dsimp only
    rw [hs]
    exact whole_j3 h hf
  · rw [if_neg hf, if_neg hf, hm]
    have hint := Integral_eq h
    rw [decide_eq_false (fun h => hf h.1)] at hint
    refine Ev_pos (by unfold fin at hf; omega) (Ev_pos (by first | rfl | trivial) (Ev_pos (by first | rfl | trivial) (Ev_neg (by simp) (Ev_pos (by first | rfl | trivial) (Ev_pos (by first | rfl | trivial) (Ev_bind_eq hint (Ev_some rfl)))))))
theorem whole_j1 {d i : Int} (h : U d) (i0 : -9223372036854775808 ≤ i) (i1 : i < 9223372036854775808) : Ev (fun k => abacuslaw04_IeeeWhole.j1 k d i) true := by
  refine Ev_succ ?_
  simp only [abacuslaw04_IeeeWhole.j1]
  have hfi := FromInt_ev i0 i1
  have hfu := FromUint_ev (n := i.natAbs) (by omega)
  have ht := rnd_top i.natAbs 0 false
  unfold inf at ht
  by_cases hi : i ≥ 0
  · have e : IntKind.u64.wrap i = (i.natAbs : Int) := by rw [IntKind.wrap_u64]; omega
    rw [decide_eq_false (by omega)] at hfi
    rw [e]
    exact Ev_pos hi (Ev.bind hfi (Ev.bind hfu (Ev_pos rfl (Ev_neg (by omega) (whole_j2 h)))))
  · have e : IntKind.u64.wrap (-(IntKind.u64.wrap i)) = (i.natAbs : Int) := by rw [IntKind.wrap_u64, IntKind.wrap_u64]; omega
    rw [decide_eq_true (by omega)] at hfi
    rw [e]
    refine Ev_neg hi (Ev_pos (by omega) (Ev.bind hfi (Ev.bind hfu ?_)))
    have e2 : (put true (rnd i.natAbs 0 false) != IntKind.u64.wrap (((rnd i.natAbs 0 false : Nat) : Int) + 9223372036854775808)) = false := by
      have : IntKind.u64.wrap (((rnd i.natAbs 0 false : Nat) : Int) + 9223372036854775808) = put true (rnd i.natAbs 0 false) := by
        rw [IntKind.wrap_u64]; unfold put; rw [if_pos rfl]; omega
      rw [this]; simp
    rw [e2]
    exact whole_j2 h
theorem whole_j0 {d i : Int} (h : U d) (i0 : -9007199254740992 ≤ i) (i1 : i ≤ 9007199254740992) : Ev (fun k => abacuslaw04_IeeeWhole.j0 k d i true) true := by
  refine Ev_succ ?_
  simp only [abacuslaw04_IeeeWhole.j0]
  have hfi := FromInt_ev (i := i) (by omega) (by omega)
  obtain ⟨Z, hZ⟩ : ∃ Z, Z = 1074 := ⟨_, rfl⟩
  obtain ⟨p, h1, h2, h3⟩ := whole_exact (n := i.natAbs) hZ (by omega)
  rw [h1] at hfi
  have hpi : p ≤ inf := by unfold inf; omega
  obtain ⟨q1, q2, q3⟩ := plc_put (neg := decide (i < 0)) hpi
  have hfin : fin (put (decide (i < 0)) p) := plc_fin.2 (by rw [q1]; unfold inf; omega)
  have hZ0 : 0 < 2 ^ Z := Nat.pow_pos (by omega)
  have htr : trunc (put (decide (i < 0)) p) = i.natAbs := by
    unfold trunc
    rw [← hZ, q1, h3, Nat.mul_div_cancel _ hZ0]
  have hti := ToInt_ev q2
  have hto : toInt (decide (i < 0)) i.natAbs = (i, 0) := by
    unfold toInt
    by_cases hn : i < 0
    · rw [decide_eq_true hn, if_neg (by simp), if_pos ⟨by omega, rfl⟩]
      congr 1; omega
    · rw [decide_eq_false hn, if_pos ⟨by omega, rfl⟩]
      congr 1; omega
  rw [if_pos hfin, q3, htr, hto] at hti
  have hint := Integral_eq q2
  rw [← hZ, decide_eq_true (show fin (put (decide (i < 0)) p) ∧ uni (plc (put (decide (i < 0)) p)) % 2 ^ Z = 0 from ⟨hfin, by rw [q1, h3]; exact Nat.mul_mod_left _ _⟩)] at hint
  exact Ev_pos (by simp) (Ev.bind hfi (Ev.bind hti (Ev_pos (by first | rfl | trivial) (Ev_pos (by first | rfl | trivial) (Ev.bind hfi (Ev_bind_eq hint (Ev_pos (by first | rfl | trivial) (whole_j1 h (by omega) (by omega)))))))))
theorem IeeeWhole : abacuslaw04_IeeeWhole.Pure := by
  intro a0 a1 w0 w1
  suffices h : Ev (fun k => abacuslaw04_IeeeWhole.f k a0 a1) true by
    obtain ⟨K, hK⟩ := h
    exact ⟨K, hK K (Nat.le_refl _)⟩
  have hU : U a0 := by
    simp [Lit.wf] at w0
    have h1 : IntKind.u64.min = 0 := rfl
    have h2 : IntKind.u64.max = 18446744073709551615 := rfl
    unfold U; omega
  have hI : -9223372036854775808 ≤ a1 ∧ a1 < 9223372036854775808 := by
    simp [Lit.wf] at w1
    have h1 : IntKind.i64.min = -9223372036854775808 := rfl
    have h2 : IntKind.i64.max = 9223372036854775807 := rfl
    omega
  simp only [abacuslaw04_IeeeWhole.f]
  have j0f : Ev (fun k => abacuslaw04_IeeeWhole.j0 k a0 a1 false) true := by
    refine Ev_succ ?_
    simp only [abacuslaw04_IeeeWhole.j0]
    exact Ev_neg (by simp) (whole_j1 hU hI.1 hI.2)
  refine Ev.bind awake_ev (Ev_pos (by first | rfl | trivial) ?_)
  by_cases h1 : a1 ≤ 9007199254740992
  · refine Ev_pos h1 ?_
    by_cases h2 : a1 ≥ -9007199254740992
    · rw [decide_eq_true h2]
      exact whole_j0 hU h2 h1
    · rw [decide_eq_false h2]
      exact j0f
  · exact Ev_neg h1 j0f
end Go.Proofs.YtiigfmmflicdpaaDoor.Pure
