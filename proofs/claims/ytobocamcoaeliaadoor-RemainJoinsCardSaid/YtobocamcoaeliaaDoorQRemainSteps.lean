/- Two scalings are one where the first one lost nothing, for every input. No conditions. -/
import Derived.Test.YtobocamcoaeliaaDoorQIeee2
import Derived.Test.YtobocamcoaeliaaDoorQRn
namespace Go.Proofs.YtobocamcoaeliaaDoor.Pure
open Go.RowKit Go.Proofs.YtobocamcoaeliaaDoor.Lib Go.Proofs.YtobocamcoaeliaaDoor.LibB Go.Proofs.YtobocamcoaeliaaDoor.F Go.Proofs.YtobocamcoaeliaaDoor.Nat1 Go.Proofs.YtobocamcoaeliaaDoor.Bits Go.Proofs.YtobocamcoaeliaaDoor.Ieee1 Go.Proofs.YtobocamcoaeliaaDoor.Mag Go.Proofs.YtobocamcoaeliaaDoor.Ieee2 Go.Proofs.YtobocamcoaeliaaDoor.Rnd Go.Proofs.YtobocamcoaeliaaDoor.Rn
open Go.Proofs.YtobocamcoaeliaaDoorA (rd ln ln_eq mx mn shl shr wr wr_eq)
set_option linter.unusedVariables false
set_option linter.unusedSimpArgs false
theorem put_U {s : Bool} {p : Nat} (h : p ≤ inf) : U (put s p) ∧ plc (put s p) = p ∧ sgn (put s p) = s := by
  unfold inf at h
  unfold plc put U sgn
  cases s with
  | false => simp only [Bool.false_eq_true, if_false]; exact ⟨by omega, by omega, decide_eq_false (by omega)⟩
  | true => simp only [if_true]; exact ⟨by omega, by omega, decide_eq_true (by omega)⟩

theorem uni_lt_pow {p F : Nat} (hF : F = 2098) (h : p < inf) : uni p < 2 ^ F := by
  obtain ⟨E, hE⟩ : ∃ E, E = 2046 := ⟨_, rfl⟩
  have h1 := uni_lt_iff.2 h
  rw [uni_inf hE] at h1
  have h2 : 4503599627370496 * 2 ^ E = 2 ^ F := by
    rw [show F = 52 + E by omega, Nat.pow_add]
  rwa [h2] at h1
theorem plc_put {d : Int} (h : U d) (hn : cls d ≠ 4) : d = put (sgn d) (plc d) ∧ plc d ≤ inf := by
  have h1 := h.1
  have h2 := h.2
  have hp : d % 9223372036854775808 ≤ 9218868437227405312 := by
    unfold cls at hn
    repeat' split at hn
    all_goals omega
  constructor
  · unfold put sgn plc
    by_cases hs : d < 9223372036854775808
    · simp [hs]; omega
    · simp [hs]; omega
  · unfold plc inf; omega
theorem awake_ev : Ev (fun k _ _ => abacuslaw06_awake.f k) true := Ev_at 3000 fun d => by kernel_rfl
def clip (n : Int) : Int := if n > 5000 then 5000 else if n < -5000 then -5000 else n
theorem clip_eq (n : Int) : mx (-5000) (mn n 5000) = clip n := by unfold clip mx mn; repeat' split <;> omega
/-- What Scale computes. -/
def ScaleR (d n x : Int) : Prop := if cls d = 4 then x = 9221120237041090560 else if cls d = 3 ∨ cls d = 0 then x = d else
  ∃ p a b : Nat, x = put (sgn d) p ∧ (a : Int) - b = clip n ∧ p ≤ inf ∧ Near p (uni (plc d) * 2 ^ a) (2 ^ b)
theorem Scale_ev {d n : Int} (h : U d) : ∃ x, Ev (fun k _ _ => remain_Scale.f k d n) x ∧ ScaleR d n x := by
  simp only [remain_Scale.f, remain_Scale.b0, clip_eq]
  unfold ScaleR
  have hd := Decode_eq h
  by_cases h4 : cls d = 4
  · exact ⟨_, Ev_bind_eq hd (Ev_pos h4 (Ev.now _)), by rw [if_pos h4]⟩
  by_cases h3 : cls d = 3
  · exact ⟨_, Ev_bind_eq hd (Ev_neg h4 (Ev_pos h3 (Ev.now _))), by rw [if_neg h4, if_pos (.inl h3)]⟩
  by_cases h0 : cls d = 0
  · exact ⟨_, Ev_bind_eq hd (Ev_neg h4 (Ev_neg h3 (Ev_pos h0 (Ev.now _)))), by rw [if_neg h4, if_pos (.inr h0)]⟩
  have hf : fin d := by
    have h5 := @cls_fin d
    have h6 : cls d ≤ 4 := by unfold cls; repeat' split <;> omega
    exact Decidable.byContradiction fun k => by have := h5.2 k; omega
  obtain ⟨e0, e1⟩ := exp_range hf
  obtain ⟨m0, m1⟩ := man_range hf
  have hc : -5000 ≤ clip n ∧ clip n ≤ 5000 := by unfold clip; repeat' split <;> omega
  have hw : wrap64 (expOf d + clip n) = expOf d + clip n := wrap_id (by omega) (by omega)
  have hv : val [manOf d] = (manOf d).toNat := by rw [val_cons, val_nil, Nat.mul_zero, Nat.add_zero]
  have hr := Round_ev (l := [manOf d]) (neg := sgn d) (e := expOf d + clip n) (more := false) (by intro x hx; simp only [List.mem_singleton] at hx; subst hx; omega) (by simp) (by rw [hv]; exact small_limit (by omega))
  rw [hv] at hr
  refine ⟨_, Ev_bind_eq hd (Ev_neg h4 (Ev_neg h3 (Ev_neg h0 (by rw [hw]; exact Ev.bind hr (Ev.now _))))), ?_⟩
  rw [if_neg h4, if_neg (by omega)]
  refine ⟨_, (clip n).toNat, (-clip n).toNat, rfl, by omega, rnd_top _ _ _, ?_⟩
  rw [uni_parts hf, Nat.mul_assoc, ← Nat.pow_add]
  exact rnd_near _ _ (by omega)
theorem step_exact {q p a b M e : Nat} (hM : M < 9007199254740992) (hq : uni q = M * 2 ^ e) (h : Near p (uni q * 2 ^ a) (2 ^ b)) (h1 : 4503599627370496 < p) (h2 : p < inf) : uni p * 2 ^ b = uni q * 2 ^ a := by
  have pb : 0 < 2 ^ b := Nat.pow_pos (by omega)
  have hV : uni q * 2 ^ a = M * 2 ^ (e + a) := by rw [hq, Nat.mul_assoc, ← Nat.pow_add]
  have hlow : 4503599627370496 * 2 ^ b ≤ uni q * 2 ^ a := by
    refine Nat.le_of_not_lt fun k => ?_
    have k1 := near_exact (p := 4503599627370496) pb (by unfold inf; omega)
    rw [uni_small (by omega)] at k1
    have := near_mono pb pb h k1 (Nat.mul_le_mul_right _ (Nat.le_of_lt k))
    omega
  have hba : b ≤ e + a := by
    refine Nat.le_of_not_lt fun k => ?_
    have k1 : 2 ^ (e + a) * 2 ≤ 2 ^ b := by rw [← Nat.pow_succ]; exact Nat.pow_le_pow_right (by omega) k
    have k2 : M * 2 ^ (e + a) ≤ 9007199254740991 * 2 ^ (e + a) := Nat.mul_le_mul_right _ (by omega)
    have k3 : 0 < 2 ^ (e + a) := Nat.pow_pos (by omega)
    rw [hV] at hlow
    omega
  obtain ⟨t, ht⟩ : ∃ t, e + a = b + t := ⟨e + a - b, by omega⟩
  have hN : uni q * 2 ^ a = M * 2 ^ t * 2 ^ b := by rw [hV, ht, Nat.mul_assoc, ← Nat.pow_add, Nat.add_comm b t]
  rw [hN] at h
  have hn : Near p (M * 2 ^ t) 1 := near_congr pb (by omega) h (by rw [Nat.mul_one])
  obtain ⟨r, c, hp, hu, _, hr, _, hc1, hc2⟩ := near_unit hn h2
  have hrt : r ≤ t := by
    rcases hr with rfl | hr
    · omega
    refine Nat.le_of_not_lt fun k => ?_
    have k1 : 2 ^ t * 2 ≤ 2 ^ r := by rw [← Nat.pow_succ]; exact Nat.pow_le_pow_right (by omega) k
    have k2 : M * 2 ^ t ≤ 9007199254740991 * 2 ^ t := Nat.mul_le_mul_right _ (by omega)
    have k3 : 0 < 2 ^ t := Nat.pow_pos (by omega)
    omega
  obtain ⟨w, rfl⟩ : ∃ w, t = w + r := ⟨t - r, by omega⟩
  have hw : M * 2 ^ (w + r) = M * 2 ^ w * 2 ^ r := by rw [Nat.pow_add, Nat.mul_assoc]
  have pr : 0 < 2 ^ r := Nat.pow_pos (by omega)
  rw [hw] at hc1 hc2
  have d1 := Nat.le_of_mul_le_mul_right hc1 pr
  have d2 := Nat.lt_of_mul_lt_mul_right hc2
  have hcw : M * 2 ^ w = c := by omega
  have hx : Near (r * 4503599627370496 + c) (M * 2 ^ (w + r)) 1 := by
    have := near_exact (p := r * 4503599627370496 + c) (Y := 1) (by omega) (by omega)
    have e : uni (r * 4503599627370496 + c) * 1 = M * 2 ^ (w + r) := by rw [hu, Nat.mul_one, ← hcw, ← hw]
    rwa [e] at this
  have hpe := near_unique (by omega) (by omega) hn hx rfl
  rw [hN, hpe, hu, ← hcw, hw]
theorem near_big {p w a b F : Nat} (hF : F = 2098) (hw : 1 ≤ w) (h : Near p (w * 2 ^ a) (2 ^ b)) (hab : b + F ≤ a) : p = inf := by
  refine near_unique (Nat.pow_pos (by omega)) (Nat.pow_pos (by omega)) h (near_inf (X := w * 2 ^ a) (Y := 2 ^ b) (Nat.pow_pos (by omega)) ?_) rfl
  rw [inf_top hF, ← Nat.pow_add]
  calc 2 ^ (F + b) ≤ 2 ^ a := Nat.pow_le_pow_right (by omega) (by omega)
    _ = 1 * 2 ^ a := by omega
    _ ≤ w * 2 ^ a := Nat.mul_le_mul_right _ hw
theorem near_small {p w a b F : Nat} (hw : w < 2 ^ F) (h : Near p (w * 2 ^ a) (2 ^ b)) (hab : a + F + 1 ≤ b) : p = 0 := by
  refine near_unique (Nat.pow_pos (by omega)) (Nat.pow_pos (by omega)) h (near_zero (X := w * 2 ^ a) (Y := 2 ^ b) ?_) rfl
  have k1 : 2 * (2 ^ F * 2 ^ a) ≤ 2 ^ b := by
    rw [← Nat.pow_add, Nat.mul_comm, ← Nat.pow_succ]
    exact Nat.pow_le_pow_right (by omega) (by omega)
  have k2 : w * 2 ^ a < 2 ^ F * 2 ^ a := Nat.mul_lt_mul_of_pos_right hw (Nat.pow_pos (by omega))
  omega
theorem ratio {u v a b F : Nat} (h : u * 2 ^ b = v * 2 ^ a) (hv : 1 ≤ v) (hu : u < 2 ^ F) : a < F + b := by
  refine Nat.lt_of_not_le fun k => ?_
  have k1 : u * 2 ^ b < 2 ^ F * 2 ^ b := Nat.mul_lt_mul_of_pos_right hu (Nat.pow_pos (by omega))
  rw [← Nat.pow_add] at k1
  have k2 : 2 ^ (F + b) ≤ 2 ^ a := Nat.pow_le_pow_right (by omega) k
  have k3 : 1 * 2 ^ a ≤ v * 2 ^ a := Nat.mul_le_mul_right _ hv
  omega
theorem cross {u v a b c d e f : Nat} (h : u * 2 ^ b = v * 2 ^ a) (he : c + f + a = e + d + b) : u * 2 ^ c * 2 ^ f = v * 2 ^ e * 2 ^ d := by
  refine Nat.eq_of_mul_eq_mul_right (Nat.pow_pos (show 0 < 2 by omega) : 0 < 2 ^ b) ?_
  calc u * 2 ^ c * 2 ^ f * 2 ^ b = u * 2 ^ b * (2 ^ c * 2 ^ f) := by simp only [Nat.mul_assoc, Nat.mul_comm, Nat.mul_left_comm]
    _ = v * (2 ^ a * (2 ^ c * 2 ^ f)) := by rw [h, Nat.mul_assoc]
    _ = v * (2 ^ e * 2 ^ d * 2 ^ b) := by rw [← Nat.pow_add, ← Nat.pow_add, ← Nat.pow_add, ← Nat.pow_add, show a + (c + f) = e + d + b by omega]
    _ = v * 2 ^ e * 2 ^ d * 2 ^ b := by simp only [Nat.mul_assoc]
theorem clip_sum {m n c F : Int} (hF : F = 2098) (hm : m < F) (hm' : -F < m) :
    (clip n = n ∧ clip (m + n) = m + n) ∨ (F ≤ clip n ∧ F ≤ clip (m + n)) ∨ (clip n + F + 1 ≤ 0 ∧ clip (m + n) + F + 1 ≤ 0) := by
  subst hF
  unfold clip
  repeat' split
  all_goals omega
theorem tmod_pos {d : Int} (h : U d) : Int.tmod d 9223372036854775808 = (plc d : Int) := by
  have := h.1
  rw [Int.tmod_eq_emod_of_nonneg h.1]
  unfold plc
  omega
theorem top_bit {d : Int} (h : U d) : IntKind.u64.wrap (Int.tdiv d 9223372036854775808) = if sgn d = true then 1 else 0 := by
  have h1 := h.1
  have h2 := h.2
  rw [Int.tdiv_eq_ediv_of_nonneg h.1, IntKind.wrap_u64]
  unfold sgn
  by_cases hs : d ≥ 9223372036854775808
  · rw [decide_eq_true hs, if_pos rfl]; omega
  · rw [decide_eq_false hs, if_neg (by simp)]; omega
theorem cls_plc {d : Int} : (cls d = 4 ↔ plc d > 9218868437227405312) ∧ (cls d = 3 ↔ plc d = 9218868437227405312) ∧ (cls d = 0 ↔ plc d = 0) ∧ (cls d = 2 ↔ 4503599627370496 ≤ plc d ∧ plc d < inf) := by
  unfold cls plc inf
  refine ⟨⟨fun h => ?_, fun h => ?_⟩, ⟨fun h => ?_, fun h => ?_⟩, ⟨fun h => ?_, fun h => ?_⟩, ⟨fun h => ?_, fun h => ?_⟩⟩
  all_goals (repeat' split at h) <;> (repeat' split) <;> omega
theorem back_same {F p q a b a2 b2 : Nat} {m : Int} (h : uni p * 2 ^ b = uni q * 2 ^ a) (hm : (a : Int) - b = m) (h2 : (a2 : Int) - b2 = -m) {r : Nat} (hq : q ≤ inf) (hr : Near r (uni p * 2 ^ a2) (2 ^ b2)) : r = q := by
  refine near_unique (Nat.pow_pos (by omega)) (Y' := 2 ^ 0) (Nat.pow_pos (by omega)) hr (near_exact (Nat.pow_pos (by omega)) hq) ?_
  exact cross h (by omega)
theorem twice_same {F p q a b a3 b3 a4 b4 r s : Nat} {m n : Int} (hF : F = 2098) (h : uni p * 2 ^ b = uni q * 2 ^ a) (hm : (a : Int) - b = m) (hp : 1 ≤ uni p) (hq : 1 ≤ uni q) (hp' : uni p < 2 ^ F) (hq' : uni q < 2 ^ F)
    (h3 : (a3 : Int) - b3 = clip n) (h4 : (a4 : Int) - b4 = clip (m + n)) (k3 : Near r (uni p * 2 ^ a3) (2 ^ b3)) (k4 : Near s (uni q * 2 ^ a4) (2 ^ b4)) : r = s := by
  have r1 := ratio h hq hp'
  have r2 := ratio h.symm hp hq'
  rcases clip_sum (m := m) (n := n) (c := 0) (F := F) (by omega) (by omega) (by omega) with ⟨c1, c2⟩ | ⟨c1, c2⟩ | ⟨c1, c2⟩
  · exact near_unique (Nat.pow_pos (by omega)) (Nat.pow_pos (by omega)) k3 k4 (cross h (by omega))
  · rw [near_big hF hp k3 (by omega), near_big hF hq k4 (by omega)]
  · rw [near_small hp' k3 (by omega), near_small hq' k4 (by omega)]
end Go.Proofs.YtobocamcoaeliaaDoor.Pure
