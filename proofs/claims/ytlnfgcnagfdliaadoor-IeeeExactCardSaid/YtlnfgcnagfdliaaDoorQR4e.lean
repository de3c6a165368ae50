/- The fourth reference and the program: whole numbers, parts, fractions: one answer. Conditions: doubles below 2^64, lists as a call gets them. -/
import Derived.Test.YtlnfgcnagfdliaaDoorQR4
import Derived.Test.YtlnfgcnagfdliaaDoorQRatio
import Derived.Test.YtlnfgcnagfdliaaDoorQIeeeParts
namespace Go.Proofs.YtlnfgcnagfdliaaDoor.R4
open Go.RowKit Go.Proofs.YtlnfgcnagfdliaaDoor.Lib Go.Proofs.YtlnfgcnagfdliaaDoor.LibB Go.Proofs.YtlnfgcnagfdliaaDoor.F Go.Proofs.YtlnfgcnagfdliaaDoor.Nat1 Go.Proofs.YtlnfgcnagfdliaaDoor.Nat2 Go.Proofs.YtlnfgcnagfdliaaDoor.Bits Go.Proofs.YtlnfgcnagfdliaaDoor.Ieee1 Go.Proofs.YtlnfgcnagfdliaaDoor.Mag Go.Proofs.YtlnfgcnagfdliaaDoor.Ieee2 Go.Proofs.YtlnfgcnagfdliaaDoor.Rnd Go.Proofs.YtlnfgcnagfdliaaDoor.R1
open Go.Proofs.YtlnfgcnagfdliaaDoorA (rd ln ln_eq mx mn shl shr wr wr_eq)
set_option linter.unusedVariables false
set_option linter.unusedSimpArgs false
theorem rWhole_ev {d : Int} (h : U d) : Ev (fun k _ _ => abacusref04_Whole.f k d) (if fin d then (sgn d, lim (trunc d), 0) else (false, [], 5)) := by
  simp only [abacusref04_Whole.f, abacusref04_Whole.b0]
  refine Ev_bind_eq (rFinite_eq h) ?_
  by_cases hf : fin d
  · have hm := man_range hf
    have he := exp_range hf
    have hu := (trunc_parts (Z := 1074) rfl hf).1
    rw [if_pos hf, decide_eq_true hf]
    refine Ev_neg (by simp) (Ev_bind_eq (rDecode_eq h) ?_)
    dsimp only
    unfold trunc
    rw [hu]
    clear hu
    generalize manOf d = m at *
    generalize expOf d = e at *
    obtain ⟨M, rfl⟩ := nat_of hm.1
    rw [Int.toNat_natCast]
    have om := one_ok (m := (M : Int)) ⟨hm.1, by omega⟩
    have sm := Sz_len om (by simp)
    by_cases e0 : e ≥ 0
    · obtain ⟨k, rfl⟩ := nat_of e0
      have := Lift_evS (n := k) om sm (by omega)
      rw [one_val, Int.toNat_natCast] at this
      rw [if_pos e0, Int.toNat_natCast]
      exact Ev_pos e0 (Ev.bind this (Ev_some rfl))
    · obtain ⟨k, hk⟩ := nat_of (show 0 ≤ -e by omega)
      have := Drop_evS (n := k) om sm (by omega)
      rw [one_val, Int.toNat_natCast] at this
      rw [if_neg e0, hk, Int.toNat_natCast, show wrap64 (k : Int) = (k : Int) by unfold wrap64; omega]
      exact Ev_neg e0 (Ev.bind this (Ev_some rfl))
  · rw [if_neg hf, decide_eq_false hf]
    exact Ev_pos rfl (Ev_some rfl)
theorem rToInt_ev {d : Int} (h : U d) : Ev (fun k _ _ => abacusref04_ToInt.f k d) (if fin d then toInt (sgn d) (trunc d) else (0, 5)) := by
  simp only [abacusref04_ToInt.f, abacusref04_ToInt.b0]
  refine Ev.bind (rWhole_ev h) ?_
  by_cases hf : fin d
  · rw [if_pos hf, if_pos hf]
    have hu := rToUint_ev (trunc_limit hf)
    refine Ev_neg (by simp) (Ev.bind hu ?_)
    dsimp only
    unfold toInt
    generalize trunc d = n at *
    generalize sgn d = s at *
    by_cases c1 : n < 18446744073709551616
    · rw [if_pos c1]
      dsimp only
      refine Ev_neg (by simp) ?_
      by_cases c2 : (n : Int) > 9223372036854775808
      · rw [if_neg (by omega), if_neg (by omega)]
        exact Ev_pos c2 (Ev.now _)
      refine Ev_neg c2 ?_
      have b63 (hh : n < 9223372036854775808 ∨ s = true) : Ev (fun k _ _ => abacusref04_ToInt.l63 k s (n : Int)) (if (n < 9223372036854775808 ∧ s = false) then ((n : Int), 0) else if n ≤ 9223372036854775808 ∧ s = true then (-(n : Int), 0) else (0, 41)) := by
        simp only [abacusref04_ToInt.l63, abacusref04_ToInt.b63]
        cases s with
        | false =>
          have : n < 9223372036854775808 := hh.resolve_right (by simp)
          rw [if_pos (show n < 9223372036854775808 ∧ false = false from ⟨this, rfl⟩)]
          exact Ev_pos rfl (Ev_some (by rw [show wrap64 (n : Int) = (n : Int) by unfold wrap64; omega]))
        | true =>
          rw [if_neg (show ¬ (n < 9223372036854775808 ∧ true = false) by simp), if_pos (show n ≤ 9223372036854775808 ∧ true = true from ⟨by omega, rfl⟩)]
          refine Ev_neg (by simp) ?_
          by_cases c3 : (n : Int) = 9223372036854775808
          · exact Ev_pos c3 (Ev_some (by rw [c3]))
          · exact Ev_neg c3 (Ev_some (by rw [show wrap64 (n : Int) = (n : Int) by unfold wrap64; omega, show wrap64 (-(n : Int)) = -(n : Int) by unfold wrap64; omega]))
      by_cases c3 : (n : Int) = 9223372036854775808
      · refine Ev_pos c3 ?_
        cases s with
        | false => rw [if_neg (by omega), if_neg (by simp)]; exact Ev_pos rfl (Ev.now _)
        | true => exact Ev_neg (by simp) (b63 (.inr rfl))
      · exact Ev_neg c3 (b63 (.inl (by omega)))
    · rw [if_neg c1, if_neg (by omega), if_neg (by omega)]
      exact Ev_pos rfl (Ev.now _)
  · rw [if_neg hf, if_neg hf]
    exact Ev_pos (by simp) (Ev.now _)
/-- Parts of a double. -/
def IsParts (s : Bool) (c m e : Int) (d : Int) : Prop := U d ∧ sgn d = s ∧ cls d = c ∧ manOf d = m ∧ expOf d = e
theorem U_wrap (x : Int) : U (IntKind.u64.wrap x) := by rw [IntKind.wrap_u64]; exact ⟨by omega, by omega⟩
theorem rEncode_b63 {s : Bool} {c m e x d : Int} {r : Int × Int} (hd : abacusref04_put.f s x (Int.tmod m 4503599627370496) = some d) (hU : U d) (hr : r = if sgn d = s ∧ cls d = c ∧ manOf d = m ∧ expOf d = e then (d, 0) else (0, 40)) :
    abacusref04_Encode.l63 x s c m e = some r := by
  subst hr
  simp only [abacusref04_Encode.l63, abacusref04_Encode.b63, hd, rDecode_eq hU, Option.bind_some]
  by_cases c1 : sgn d = s
  · by_cases c2 : cls d = c
    · by_cases c3 : manOf d = m
      · by_cases c4 : expOf d = e
        · simp [c1, c2, c3, c4]
        · simp [c1, c2, c3, c4]
      · simp [c1, c2, c3]
    · simp [c1, c2]
  · simp [c1]
theorem put_some (s : Bool) (x y : Int) : ∃ d, abacusref04_put.f s x y = some d ∧ U d := by
  cases s with
  | false => exact ⟨IntKind.u64.wrap (IntKind.u64.wrap (IntKind.u64.wrap x * 4503599627370496) + y), rfl, U_wrap _⟩
  | true => exact ⟨IntKind.u64.wrap (IntKind.u64.wrap (IntKind.u64.wrap (IntKind.u64.wrap x * 4503599627370496) + y) + 9223372036854775808), rfl, U_wrap _⟩
theorem rEncode_no {s : Bool} {c m e : Int} (h : ∀ d, ¬ IsParts s c m e d) : abacusref04_Encode.f s c m e = some (0, 40) := by
  have l63 (x : Int) : abacusref04_Encode.l63 x s c m e = some (0, 40) := by
    obtain ⟨d, h1, h2⟩ := put_some s x (Int.tmod m 4503599627370496)
    exact rEncode_b63 h1 h2 (by rw [if_neg fun hh => h d ⟨h2, hh⟩])
  have l31 (x : Int) : abacusref04_Encode.l31 x s c m e = some (0, 40) := by
    simp only [abacusref04_Encode.l31, abacusref04_Encode.b31, l63]
    split <;> rfl
  simp only [abacusref04_Encode.f, abacusref04_Encode.b0, l31]
  repeat' split
  all_goals rfl
theorem rput_back {d x f : Int} (h : U d) (hx : 0 ≤ x ∧ x ≤ 2047) (hf : 0 ≤ f ∧ f < 4503599627370496) (e : d % 9223372036854775808 = x * 4503599627370496 + f) : abacusref04_put.f (sgn d) x f = some d := by
  have h0 := h.1
  have h1 := h.2
  simp only [abacusref04_put.f, abacusref04_put.b0]
  have w1 : IntKind.u64.wrap x = x := by rw [IntKind.wrap_u64]; omega
  have w2 : IntKind.u64.wrap (x * 4503599627370496) = x * 4503599627370496 := by rw [IntKind.wrap_u64]; omega
  have w3 : IntKind.u64.wrap (x * 4503599627370496 + f) = x * 4503599627370496 + f := by rw [IntKind.wrap_u64]; omega
  rw [w1, w2, w3]
  unfold sgn
  by_cases hs : d ≥ 9223372036854775808
  · rw [decide_eq_true hs, if_pos rfl]
    congr 1
    rw [IntKind.wrap_u64]; omega
  · rw [decide_eq_false hs, if_neg (by simp)]
    congr 1
    omega
open Go.Proofs.YtlnfgcnagfdliaaDoor.Pure (cls_range Encode_ev)
theorem rEncode_yes {s : Bool} {c m e d : Int} (h : IsParts s c m e d) : abacusref04_Encode.f s c m e = some (d, 0) := by
  obtain ⟨hU, rfl, rfl, rfl, rfl⟩ := h
  have h0 := hU.1
  have h1 := hU.2
  have l63 (x : Int) (hx : 0 ≤ x ∧ x ≤ 2047) (hm : 0 ≤ manOf d) (e : d % 9223372036854775808 = x * 4503599627370496 + manOf d % 4503599627370496) : abacusref04_Encode.l63 x (sgn d) (cls d) (manOf d) (expOf d) = some (d, 0) := by
    refine rEncode_b63 ?_ hU (by rw [if_pos ⟨rfl, rfl, rfl, rfl⟩])
    rw [tmodn hm]
    exact rput_back hU hx ⟨by omega, by omega⟩ e
  simp only [abacusref04_Encode.f, abacusref04_Encode.b0]
  have key : cls d ≥ 0 ∧ cls d ≤ 4 ∧ manOf d < 9007199254740992 ∧ expOf d ≥ -1074 ∧ expOf d ≤ 971 ∧ 0 ≤ manOf d ∧
      (cls d = 2 → 0 ≤ expOf d + 1075 ∧ expOf d + 1075 ≤ 2047 ∧ d % 9223372036854775808 = (expOf d + 1075) * 4503599627370496 + manOf d % 4503599627370496) ∧
      (cls d > 2 → d % 9223372036854775808 = 2047 * 4503599627370496 + manOf d % 4503599627370496) ∧ (cls d < 2 → d % 9223372036854775808 = 0 * 4503599627370496 + manOf d % 4503599627370496) := by
    rcases cls_range d with ⟨c, h2⟩ | ⟨c, h2, h3⟩ | ⟨c, h2, h3⟩ | ⟨c, h2⟩ | ⟨c, h2⟩
    · have hm : manOf d = 0 := by unfold manOf; rw [if_neg (by omega), if_neg (by omega), if_neg (by omega)]
      have he : expOf d = 0 := by unfold expOf; rw [if_neg (by omega), if_neg (by omega)]
      omega
    · have hm : manOf d = d % 9223372036854775808 := by unfold manOf; rw [if_pos c]
      have he : expOf d = -1074 := by unfold expOf; rw [if_pos c]
      omega
    · have hm : manOf d = 4503599627370496 + d % 4503599627370496 := by unfold manOf; rw [if_neg (by omega), if_pos c]
      have he : expOf d = d % 9223372036854775808 / 4503599627370496 - 1075 := by unfold expOf; rw [if_neg (by omega), if_pos c]
      omega
    · have hm : manOf d = 0 := by unfold manOf; rw [if_neg (by omega), if_neg (by omega), if_neg (by omega)]
      have he : expOf d = 0 := by unfold expOf; rw [if_neg (by omega), if_neg (by omega)]
      omega
    · have hm : manOf d = d % 4503599627370496 := by unfold manOf; rw [if_neg (by omega), if_neg (by omega), if_pos c]
      have he : expOf d = 0 := by unfold expOf; rw [if_neg (by omega), if_neg (by omega)]
      omega
  obtain ⟨k1, k2, k3, k4, k5, k6, k7, k8, k9⟩ := key
  rw [if_neg (by omega), if_neg (by omega), if_neg (by omega), if_neg (by omega), if_neg (by omega)]
  simp only [abacusref04_Encode.l31, abacusref04_Encode.b31]
  by_cases c2 : cls d = 2
  · obtain ⟨a1, a2, a3⟩ := k7 c2
    rw [if_pos c2, if_neg (by omega), show wrap64 (expOf d + 1075) = expOf d + 1075 by unfold wrap64; omega]
    exact l63 _ ⟨a1, a2⟩ k6 a3
  · rw [if_neg c2]
    by_cases c3 : cls d > 2
    · rw [if_pos c3]; exact l63 _ (by omega) k6 (k8 c3)
    · rw [if_neg c3]; exact l63 _ (by omega) k6 (k9 (by omega))
theorem or_U {x y : Int} : U (Go.bits .or .u64 x y) := by
  unfold Go.bits
  exact U_wrap _
theorem pEncode_no {s : Bool} {c m e : Int} (h : ∀ d, ¬ IsParts s c m e d) : Ev (fun _ _ _ => ieee_Encode.f s c m e) (0, 40) := by
  have l31 (x : Int) (hx : U x) : ieee_Encode.l31 x s c m e = some (0, 40) := by
    simp only [ieee_Encode.l31, ieee_Encode.b31, Decode_eq hx, Option.bind_some]
    rw [if_pos]
    have := h x
    unfold IsParts at this
    cases hh : ((sgn x == s) && ((decide (cls x = c)) && ((decide (manOf x = m)) && ((decide (expOf x = e)) && true)))) with
    | false => rfl
    | true =>
      simp only [Bool.and_eq_true, beq_iff_eq, decide_eq_true_eq] at hh
      exact absurd ⟨hx, hh.1, hh.2.1, hh.2.2.1, hh.2.2.2.1⟩ this
  have l15 (x : Int) (hx : U x) : ieee_Encode.l15 x s c m e = some (0, 40) := by
    simp only [ieee_Encode.l15, ieee_Encode.b15, l31 x hx, l31 _ or_U]
    split <;> rfl
  have and_U : U (Go.bits .and .u64 m 4503599627370495) := by unfold Go.bits; exact U_wrap _
  have hf : ieee_Encode.f s c m e = some (0, 40) := by
    simp only [ieee_Encode.f, ieee_Encode.b0, l15 _ or_U, l15 _ and_U, l15 0 ⟨by omega, by omega⟩]
    repeat' split
    all_goals rfl
  exact ⟨0, fun _ _ _ _ _ _ => hf⟩
end Go.Proofs.YtlnfgcnagfdliaaDoor.R4
