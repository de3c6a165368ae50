/- A double taken apart and put together again, for every input. No conditions. -/
import Derived.Test.YtiigfmmflicdpaaDoorQIeee2
namespace Go.Proofs.YtiigfmmflicdpaaDoor.Pure
open Go.RowKit Go.Proofs.YtiigfmmflicdpaaDoor.Lib Go.Proofs.YtiigfmmflicdpaaDoor.LibB Go.Proofs.YtiigfmmflicdpaaDoor.F Go.Proofs.YtiigfmmflicdpaaDoor.Nat1 Go.Proofs.YtiigfmmflicdpaaDoor.Bits Go.Proofs.YtiigfmmflicdpaaDoor.Ieee1 Go.Proofs.YtiigfmmflicdpaaDoor.Mag Go.Proofs.YtiigfmmflicdpaaDoor.Ieee2 Go.Proofs.YtiigfmmflicdpaaDoor.Rnd
open Go.Proofs.YtiigfmmflicdpaaDoorA (rd ln ln_eq mx mn shl shr wr wr_eq)
set_option linter.unusedVariables false
set_option linter.unusedSimpArgs false
theorem or_high {p x : Int} (h0 : 0 ≤ p) (h1 : 0 ≤ x) (h2 : x < 4503599627370496) (h3 : p * 4503599627370496 + x < 18446744073709551616) : Go.bits .or .u64 (p * 4503599627370496) x = p * 4503599627370496 + x :=
  or_low (s := 52) h0 h1 h2 h3
theorem or_sign {x : Int} (h1 : 0 ≤ x) (h2 : x < 9223372036854775808) : Go.bits .or .u64 x 9223372036854775808 = x + 9223372036854775808 := by
  obtain ⟨n, rfl⟩ := Int.eq_ofNat_of_zero_le h1
  have := or_low' (p := 1) (x := n) (s := 63) (by omega) (by omega)
  rw [show ((1 * 2 ^ 63 : Nat) : Int) = 9223372036854775808 from rfl] at this
  rw [this]
  omega
theorem encode_j0 {d r : Int} (h : U d) (hr : r = d % 9223372036854775808) : Ev (fun _ _ _ => ieee_Encode.l15 r (sgn d) (cls d) (manOf d) (expOf d)) (d, 0) := by
  have h0 := h.1
  have h1 := h.2
  simp only [ieee_Encode.l15, ieee_Encode.b15, ieee_Encode.l31, ieee_Encode.b31]
  by_cases hs : d ≥ 9223372036854775808
  · have e : Go.bits .or .u64 r 9223372036854775808 = d := by rw [or_sign (by omega) (by omega)]; omega
    rw [e]
    exact Ev_pos (decide_eq_true hs) (Ev_bind_eq (Decode_eq h) (Ev_neg (by simp) (Ev_some rfl)))
  · have e : r = d := by omega
    rw [e]
    exact Ev_neg (by simp [sgn]; omega) (Ev_bind_eq (Decode_eq h) (Ev_neg (by simp) (Ev_some rfl)))
theorem cls_range (d : Int) : (cls d = 0 ∧ d % 9223372036854775808 = 0) ∨ (cls d = 1 ∧ d % 9223372036854775808 ≠ 0 ∧ d % 9223372036854775808 < 4503599627370496) ∨
    (cls d = 2 ∧ 4503599627370496 ≤ d % 9223372036854775808 ∧ d % 9223372036854775808 < 9218868437227405312) ∨ (cls d = 3 ∧ d % 9223372036854775808 = 9218868437227405312) ∨ (cls d = 4 ∧ d % 9223372036854775808 > 9218868437227405312) := by
  unfold cls
  repeat' split
  all_goals omega
theorem Encode_ev {d : Int} (h : U d) : Ev (fun _ _ _ => ieee_Encode.f (sgn d) (cls d) (manOf d) (expOf d)) (d, 0) := by
  have h0 := h.1
  have h1 := h.2
  simp only [ieee_Encode.f, ieee_Encode.b0, ln_eq]
  rcases cls_range d with ⟨c, h2⟩ | ⟨c, h2, h3⟩ | ⟨c, h2, h3⟩ | ⟨c, h2⟩ | ⟨c, h2⟩
  · exact Ev_neg (by omega) (Ev_neg (by omega) (Ev_neg (by omega) (Ev_neg (by omega) (encode_j0 h h2.symm))))
  · have hm : manOf d = d % 9223372036854775808 := by unfold manOf; rw [if_pos c]
    refine Ev_pos c ?_
    have e := encode_j0 h (r := Go.bits .and .u64 (manOf d) 4503599627370495) (by rw [hm, bit_low ⟨by omega, by omega⟩]; omega)
    exact e
  · have hm : manOf d = 4503599627370496 + d % 4503599627370496 := by unfold manOf; rw [if_neg (by omega), if_pos c]
    have he : expOf d = d % 9223372036854775808 / 4503599627370496 - 1075 := by unfold expOf; rw [if_neg (by omega), if_pos c]
    refine Ev_neg (by omega) (Ev_pos c (Ev_neg (by omega) (Ev_neg (by omega) ?_)))
    refine encode_j0 h ?_
    have w1 : IntKind.u64.wrap (IntKind.u64.wrap (wrap64 (expOf d + 1075)) * 4503599627370496) = d % 9223372036854775808 / 4503599627370496 * 4503599627370496 := by
      rw [IntKind.wrap_u64, IntKind.wrap_u64, show wrap64 (expOf d + 1075) = expOf d + 1075 from wrap_id (by omega) (by omega)]
      omega
    rw [w1, hm, bit_low ⟨by omega, by omega⟩, or_high (by omega) (by omega) (by omega) (by omega)]
    omega
  · have hm : manOf d = 0 := by unfold manOf; rw [if_neg (by omega), if_neg (by omega), if_neg (by omega)]
    refine Ev_neg (by omega) (Ev_neg (by omega) (Ev_pos c ?_))
    refine encode_j0 h ?_
    rw [hm, bit_low ⟨by omega, by omega⟩]
    have := or_high (p := 2047) (x := 0) (by omega) (by omega) (by omega) (by omega)
    rw [show (2047 : Int) * 4503599627370496 = 9218868437227405312 from rfl] at this
    rw [show (0 : Int) % 4503599627370496 = 0 from rfl, this]
    omega
  · have hm : manOf d = d % 4503599627370496 := by unfold manOf; rw [if_neg (by omega), if_neg (by omega), if_pos c]
    refine Ev_neg (by omega) (Ev_neg (by omega) (Ev_neg (by omega) (Ev_pos c ?_)))
    refine encode_j0 h ?_
    rw [hm, bit_low ⟨by omega, by omega⟩]
    have := or_high (p := 2047) (x := d % 4503599627370496 % 4503599627370496) (by omega) (by omega) (by omega) (by omega)
    rw [show (2047 : Int) * 4503599627370496 = 9218868437227405312 from rfl] at this
    rw [this]
    omega
theorem round_back {d : Int} (h : U d) (hf : fin d) (more : Bool) : Ev (fun k _ _ => ieee_Round.f k (sgn d) [manOf d] (expOf d) more) (d, 0) := by
  have h0 := h.1
  have h1 := h.2
  have hm := man_range hf
  have he := exp_range hf
  have hok : ok [manOf d] := fun x hx => by
    have : x = manOf d := by simpa using hx
    omega
  have hv : val [manOf d] = (manOf d).toNat := by rw [val_cons, val_nil]; omega
  have hB : val [manOf d] < B 4096 := by rw [hv]; exact small_limit (by omega)
  have r := Round_ev (neg := sgn d) (e := expOf d) (more := more) hok (by simp) hB
  rw [hv] at r
  have hb : blen (manOf d).toNat ≤ 53 := (blen_le _ _).2 (by rw [show (2 : Nat) ^ 53 = 9007199254740992 from rfl]; omega)
  have hu : unitOf (manOf d).toNat (expOf d) ≤ expOf d := by unfold unitOf; split <;> omega
  have hsame : rnd (manOf d).toNat (expOf d) more = rnd (manOf d).toNat (expOf d) false := by
    unfold rnd
    rw [if_pos hu, if_pos hu]
  have hx : rnd (manOf d).toNat (expOf d) false = plc d := by
    refine rnd_exact (a := (expOf d + 1074).toNat) (b := 0) (by omega) (Nat.le_of_lt (plc_fin.1 hf)) ?_
    rw [uni_parts hf, Nat.pow_zero, Nat.mul_one]
  have hd : put (sgn d) (plc d) = d := by
    unfold put sgn plc
    by_cases hs : d ≥ 9223372036854775808
    · rw [decide_eq_true hs, if_pos rfl]; omega
    · rw [decide_eq_false hs, if_neg (by simp)]; omega
  rwa [hsame, hx, hd] at r
theorem parts_back {d : Int} (h : U d) (hf : fin d) : Ev (fun k _ _ => abacuslaw04_IeeeParts.l511 k d (sgn d) (cls d) (manOf d) (expOf d)) true := by
  simp only [abacuslaw04_IeeeParts.l511, abacuslaw04_IeeeParts.b511]
  exact Ev.bind (round_back h hf false) (Ev.bind (round_back h hf true) (Ev_pos rfl (Ev_pos rfl (Ev_pos rfl (Ev_some (by simp))))))
theorem parts_j1 {d : Int} (h : U d) : Ev (fun k _ _ => abacuslaw04_IeeeParts.l253 k d false (sgn d) (cls d) (manOf d) (expOf d)) true := by
  have h0 := h.1
  have h1 := h.2
  have ht : Int.tmod d 9223372036854775808 = d % 9223372036854775808 := Int.tmod_eq_emod_of_nonneg h0
  simp only [abacuslaw04_IeeeParts.l253, abacuslaw04_IeeeParts.b253, ht]
  refine Ev_neg (by simp) (Ev_neg (by omega) ?_)
  rcases cls_range d with ⟨c, h2⟩ | ⟨c, h2, h3⟩ | ⟨c, h2, h3⟩ | ⟨c, h2⟩ | ⟨c, h2⟩
  · have hm : manOf d = 0 := by unfold manOf; rw [if_neg (by omega), if_neg (by omega), if_neg (by omega)]
    have he : expOf d = 0 := by unfold expOf; rw [if_neg (by omega), if_neg (by omega)]
    exact Ev_neg (by omega) (Ev_neg (by omega) (Ev_neg (by omega) (Ev_neg (by omega) (Ev_neg (by omega) (Ev_neg (by omega) (Ev_neg (by omega) (parts_back h (by unfold fin; omega))))))))
  · have hm : manOf d = d % 9223372036854775808 := by unfold manOf; rw [if_pos c]
    have he : expOf d = -1074 := by unfold expOf; rw [if_pos c]
    exact Ev_neg (by omega) (Ev_neg (by omega) (Ev_neg (by omega) (Ev_pos (by omega) (Ev_neg (by omega) (Ev_neg (by omega) (Ev_neg (by omega) (parts_back h (by unfold fin; omega))))))))
  · have hm : manOf d = 4503599627370496 + d % 4503599627370496 := by unfold manOf; rw [if_neg (by omega), if_pos c]
    exact Ev_neg (by omega) (Ev_neg (by omega) (Ev_pos (by omega) (Ev_neg (by omega) (Ev_neg (by omega) (Ev_neg (by omega) (parts_back h (by unfold fin; omega)))))))
  · have hm : manOf d = 0 := by unfold manOf; rw [if_neg (by omega), if_neg (by omega), if_neg (by omega)]
    have he : expOf d = 0 := by unfold expOf; rw [if_neg (by omega), if_neg (by omega)]
    exact Ev_neg (by omega) (Ev_pos h2 (Ev_pos c (Ev_pos hm (Ev_some (by rw [he]; rfl)))))
  · have hm : manOf d = d % 4503599627370496 := by unfold manOf; rw [if_neg (by omega), if_neg (by omega), if_pos c]
    have he : expOf d = 0 := by unfold expOf; rw [if_neg (by omega), if_neg (by omega)]
    exact Ev_pos h2 (Ev_pos c (Ev_pos (by rw [hm, IntKind.wrap_u64]; omega) (Ev_some (by rw [he]; rfl))))
theorem awake_ev : Ev (fun k _ _ => abacuslaw04_awake.f k) true := Ev_at 150 fun d => by kernel_rfl
theorem IeeeParts {d : Int} (h : U d) : ∃ n, abacuslaw04_IeeeParts.f n d = some true := by
  refine Ev.rounds (g := fun n => abacuslaw04_IeeeParts.f n d) ?_
  have h0 := h.1
  have h1 := h.2
  have ht : Int.tmod d 9223372036854775808 = d % 9223372036854775808 := Int.tmod_eq_emod_of_nonneg h0
  have hnn : neg (neg d) = d := by unfold neg; repeat' split
                                   all_goals omega
  simp only [abacuslaw04_IeeeParts.f, abacuslaw04_IeeeParts.b0]
  refine Ev.bind awake_ev (Ev_neg (by simp) (Ev_bind_eq (Decode_eq h) (Ev.bind (Encode_ev h) (Ev_neg (by simp) (Ev_neg (by simp) (Ev_bind_eq (Class_eq h) (Ev_neg (by simp) ?_)))))))
  dsimp only
  rw [show (sgn d != decide (d ≥ 9223372036854775808)) = false by unfold sgn; simp]
  simp only [abacuslaw04_IeeeParts.l125, abacuslaw04_IeeeParts.b125]
  refine Ev_neg (by simp) (Ev_bind_eq (Abs_eq h) (Ev_neg (by omega) (Ev_neg (fun hh => hh ht.symm) (Ev_bind_eq (Neg_eq h) (Ev_neg ?_ (Ev_bind_eq (Neg_eq h) (Ev_bind_eq (Neg_eq (U_neg h)) ?_)))))))
  · rw [bit_flip h]
    exact fun hh => hh rfl
  · rw [hnn, show decide (¬ d = d) = false by simp]
    exact parts_j1 h
end Go.Proofs.YtiigfmmflicdpaaDoor.Pure
