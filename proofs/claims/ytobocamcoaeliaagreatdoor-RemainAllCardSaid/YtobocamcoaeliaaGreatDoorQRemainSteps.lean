/- Two scalings are one where the first one lost nothing, for every input. No conditions. -/
import Derived.Test.YtobocamcoaeliaaGreatDoorQIeee2
import Derived.Test.YtobocamcoaeliaaGreatDoorQRn
namespace Go.Proofs.YtobocamcoaeliaaGreatDoor.Pure
open Go.RowKit Go.Proofs.YtobocamcoaeliaaGreatDoor.Lib Go.Proofs.YtobocamcoaeliaaGreatDoor.LibB Go.Proofs.YtobocamcoaeliaaGreatDoor.F Go.Proofs.YtobocamcoaeliaaGreatDoor.Nat1 Go.Proofs.YtobocamcoaeliaaGreatDoor.Bits Go.Proofs.YtobocamcoaeliaaGreatDoor.Ieee1 Go.Proofs.YtobocamcoaeliaaGreatDoor.Mag Go.Proofs.YtobocamcoaeliaaGreatDoor.Ieee2 Go.Proofs.YtobocamcoaeliaaGreatDoor.Rnd Go.Proofs.YtobocamcoaeliaaGreatDoor.Rn
open Go.Proofs.YtobocamcoaeliaaGreatDoorA (rd ln ln_eq mx mn shl shr wr wr_eq)
set_option linter.unusedVariables false
set_option linter.unusedSimpArgs false
theorem put_U {s : Bool} {p : Nat} (h : p ≤ inf) : U (put s p) ∧ plc (put s p) = p ∧ sgn (put s p) = s := by
  unfold inf at h
  unfold plc put U sgn
  cases s with
  | false => simp only [Bool.false_eq_true, if_false]; exact ⟨by omega, by omega, decide_eq_false (by omega)⟩
  | true => simp only [if_true]; exact ⟨by omega, by omega, decide_eq_true (by omega)⟩

theorem plc_put {d : Int} (h : U d) (hn : cls d ≠ 4) : d = put (sgn d) (plc d) ∧ plc d ≤ inf := by
  have h1 := h.1
  have h2 := h.2
  have hp : d % 9223372036854775808 ≤ 9218868437227405312 := by
    unfold cls at hn
    repeat' split at hn
    all_goals omega
  constructor
  · unfold put sgn plc
    by_cases hs : d < 9223372036854775808
    · simp [hs]; omega
    · simp [hs]; omega
  · unfold plc inf; omega
theorem awake_ev : Ev (fun k _ _ => abacuslaw06_awake.f k) true := Ev_at 3000 fun d => by kernel_rfl
def clip (n : Int) : Int := if n > 5000 then 5000 else if n < -5000 then -5000 else n
theorem clip_eq (n : Int) : mx (-5000) (mn n 5000) = clip n := by unfold clip mx mn; repeat' split <;> omega
/-- What Scale computes. -/
def ScaleR (d n x : Int) : Prop := if cls d = 4 then x = 9221120237041090560 else if cls d = 3 ∨ cls d = 0 then x = d else
  ∃ p a b : Nat, x = put (sgn d) p ∧ (a : Int) - b = clip n ∧ p ≤ inf ∧ Near p (uni (plc d) * 2 ^ a) (2 ^ b)
theorem Scale_ev {d n : Int} (h : U d) : ∃ x, Ev (fun k _ _ => remain_Scale.f k d n) x ∧ ScaleR d n x := by
  simp only [remain_Scale.f, remain_Scale.b0, clip_eq]
  unfold ScaleR
  have hd := Decode_eq h
  by_cases h4 : cls d = 4
  · exact ⟨_, Ev_bind_eq hd (Ev_pos h4 (Ev.now _)), by rw [if_pos h4]⟩
  by_cases h3 : cls d = 3
  · exact ⟨_, Ev_bind_eq hd (Ev_neg h4 (Ev_pos h3 (Ev.now _))), by rw [if_neg h4, if_pos (.inl h3)]⟩
  by_cases h0 : cls d = 0
  · exact ⟨_, Ev_bind_eq hd (Ev_neg h4 (Ev_neg h3 (Ev_pos h0 (Ev.now _)))), by rw [if_neg h4, if_pos (.inr h0)]⟩
  have hf : fin d := by
    have h5 := @cls_fin d
    have h6 : cls d ≤ 4 := by unfold cls; repeat' split <;> omega
    exact Decidable.byContradiction fun k => by have := h5.2 k; omega
  obtain ⟨e0, e1⟩ := exp_range hf
  obtain ⟨m0, m1⟩ := man_range hf
  have hc : -5000 ≤ clip n ∧ clip n ≤ 5000 := by unfold clip; repeat' split <;> omega
  have hw : wrap64 (expOf d + clip n) = expOf d + clip n := wrap_id (by omega) (by omega)
  have hv : val [manOf d] = (manOf d).toNat := by rw [val_cons, val_nil, Nat.mul_zero, Nat.add_zero]
  have hr := Round_ev (l := [manOf d]) (neg := sgn d) (e := expOf d + clip n) (more := false) (by intro x hx; simp only [List.mem_singleton] at hx; subst hx; omega) (by simp) (by rw [hv]; exact small_limit (by omega))
  rw [hv] at hr
  refine ⟨_, Ev_bind_eq hd (Ev_neg h4 (Ev_neg h3 (Ev_neg h0 (by rw [hw]; exact Ev.bind hr (Ev.now _))))), ?_⟩
  rw [if_neg h4, if_neg (by omega)]
  refine ⟨_, (clip n).toNat, (-clip n).toNat, rfl, by omega, rnd_top _ _ _, ?_⟩
  rw [uni_parts hf, Nat.mul_assoc, ← Nat.pow_add]
  exact rnd_near _ _ (by omega)
theorem tmod_pos {d : Int} (h : U d) : Int.tmod d 9223372036854775808 = (plc d : Int) := by
  have := h.1
  rw [Int.tmod_eq_emod_of_nonneg h.1]
  unfold plc
  omega
theorem cls_plc {d : Int} : (cls d = 4 ↔ plc d > 9218868437227405312) ∧ (cls d = 3 ↔ plc d = 9218868437227405312) ∧ (cls d = 0 ↔ plc d = 0) ∧ (cls d = 2 ↔ 4503599627370496 ≤ plc d ∧ plc d < inf) := by
  unfold cls plc inf
  refine ⟨⟨fun h => ?_, fun h => ?_⟩, ⟨fun h => ?_, fun h => ?_⟩, ⟨fun h => ?_, fun h => ?_⟩, ⟨fun h => ?_, fun h => ?_⟩⟩
  all_goals (repeat' split at h) <;> (repeat' split) <;> omega
end Go.Proofs.YtobocamcoaeliaaGreatDoor.Pure
