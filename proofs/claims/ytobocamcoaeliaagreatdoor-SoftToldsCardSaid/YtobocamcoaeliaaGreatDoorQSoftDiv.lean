/- What Div and Sqrt of soft answer of finite doubles: the double nearest to the quotient, and the one whose neighbours' middles hold the root between them. No conditions. -/
import Derived.Test.YtobocamcoaeliaaGreatDoorQSoft2
import Derived.Test.YtobocamcoaeliaaGreatDoorQQuot1
import Derived.Test.YtobocamcoaeliaaGreatDoorQRatio
namespace Go.Proofs.YtobocamcoaeliaaGreatDoor.SoftDiv
open Go.RowKit Go.Proofs.YtobocamcoaeliaaGreatDoor.Lib Go.Proofs.YtobocamcoaeliaaGreatDoor.LibB Go.Proofs.YtobocamcoaeliaaGreatDoor.F Go.Proofs.YtobocamcoaeliaaGreatDoor.Nat1 Go.Proofs.YtobocamcoaeliaaGreatDoor.Nat2 Go.Proofs.YtobocamcoaeliaaGreatDoor.Bits Go.Proofs.YtobocamcoaeliaaGreatDoor.Ieee1 Go.Proofs.YtobocamcoaeliaaGreatDoor.Mag Go.Proofs.YtobocamcoaeliaaGreatDoor.Ieee2 Go.Proofs.YtobocamcoaeliaaGreatDoor.Soft1 Go.Proofs.YtobocamcoaeliaaGreatDoor.Soft2 Go.Proofs.YtobocamcoaeliaaGreatDoor.Rnd
open Go.Proofs.YtobocamcoaeliaaGreatDoorA (rd ln ln_eq mx mn shl shr wr wr_eq)
set_option linter.unusedVariables false
set_option linter.unusedSimpArgs false
theorem cls_zero {d : Int} : cls d = 0 ↔ plc d = 0 := by
  unfold cls plc; repeat' split
  all_goals omega
theorem man_pos {d : Int} (h : fin d) (h0 : plc d ≠ 0) : (manOf d).toNat ≠ 0 := by
  intro hm
  have := uni_parts h
  rw [hm, Nat.zero_mul] at this
  exact h0 (uni_inj (by rw [this, uni_zero]))
theorem cls_small {d : Int} (h : fin d) (h0 : plc d ≠ 0) : cls d ≠ 0 ∧ cls d ≠ 3 ∧ cls d ≠ 4 := ⟨fun h1 => h0 (cls_zero.1 h1), (cls_lt h).1, (cls_lt h).2⟩
theorem div_ev {a b c : Int} {K : Nat} (hK : K = 1074) (ha : U a) (hb : U b) (fa : fin a) (fb : fin b) (b0 : plc b ≠ 0) :
    ∃ p f, Ev (fun k _ _ => soft_div.f k a b c) (put (sgn a != sgn b) p, f) ∧ Near p (uni (plc a) * 2 ^ K) (uni (plc b)) := by
  have na := cls_lt fa
  have nb := cls_small fb b0
  have ea := exp_range fa
  have eb := exp_range fb
  have ma := man_any a
  have mb := man_any b
  have mb0 := man_pos fb b0
  have hB : 0 < uni (plc b) := by
    have := uni_smono (show 0 < plc b by omega)
    rw [uni_zero] at this; exact this
  simp only [soft_div.f, soft_div.b0]
  have core : cls a ≠ 0 → ∃ p f, Ev (fun k _ _ => soft_div.l31 k (sgn a != sgn b) (sgn a) (cls a) (manOf a) (expOf a) (sgn b) (cls b) (manOf b) (expOf b)) (put (sgn a != sgn b) p, f) ∧ Near p (uni (plc a) * 2 ^ K) (uni (plc b)) := by
    intro ha0
    have sa := small_limit (n := (manOf a).toNat) (by omega)
    have sb := small_limit (n := (manOf b).toNat) (by omega)
    have hw : wrap64 (expOf a - expOf b) = expOf a - expOf b := by unfold wrap64; omega
    have la := len_lim' sa
    have lb := len_lim' sb
    obtain ⟨p, h1, h2⟩ := Go.Proofs.YtobocamcoaeliaaGreatDoor.Ratio.RoundRatio_ev (n := lim (manOf a).toNat) (d := lim (manOf b).toNat) (neg := (sgn a != sgn b)) (e := expOf a - expOf b) (ok_lim _) (ok_lim _) (by omega) (by omega) (by rw [val_lim]; exact sa) (by rw [val_lim]; exact sb) (by rw [val_lim]; exact mb0)
    rw [val_lim, val_lim, Go.Proofs.YtobocamcoaeliaaGreatDoor.Ratio.clamp_in (by omega) (by omega)] at h2
    have hn := h2 ((expOf a + 1074).toNat + K) (expOf b + 1074).toNat (by omega)
    rw [Nat.pow_add, ← Nat.mul_assoc, ← uni_parts fa, ← uni_parts fb] at hn
    obtain ⟨f, hf⟩ := flags_tot (b := (sgn a != sgn b)) (e := expOf a - expOf b) (d := put (sgn a != sgn b) p) (ok_lim (manOf a).toNat) (by omega) (ok_lim (manOf b).toNat) (by omega) (put_U hn.top).1
    refine ⟨p, f, ?_, hn⟩
    clear hn h2 sa sb
    simp only [soft_div.l31, soft_div.b31, hw]
    exact Ev_bind_eq (FromUint_man a) (Ev_bind_eq (FromUint_man b) (Ev.bind h1 (Ev.bind hf (Ev_some rfl))))
  by_cases hab : cls a = cls b
  · obtain ⟨p, f, h1, h2⟩ := core (by omega)
    refine ⟨p, f, ?_, h2⟩
    exact Ev_bind_eq (Decode_eq ha) (Ev_bind_eq (Decode_eq hb) (Ev_neg na.2 (Ev_neg nb.2.2 (Ev_pos hab (Ev_neg na.1 (Ev_neg (by dsimp only; omega) (Ev_neg na.1 (Ev_neg nb.1 (Ev_neg (by dsimp only; omega) (Ev_neg nb.2.1 h1))))))))))
  · by_cases h0 : cls a = 0
    · refine ⟨0, 0, ?_, ?_⟩
      · exact Ev_bind_eq (Decode_eq ha) (Ev_bind_eq (Decode_eq hb) (Ev_neg na.2 (Ev_neg nb.2.2 (Ev_neg hab (Ev_neg na.1 (Ev_neg nb.1 (Ev_pos h0 (Ev_bind_eq (withSign_zero _) (Ev_some rfl)))))))))
      · rw [cls_zero.1 h0, uni_zero, Nat.zero_mul]
        exact near_zero (by omega)
    · obtain ⟨p, f, h1, h2⟩ := core h0
      refine ⟨p, f, ?_, h2⟩
      exact Ev_bind_eq (Decode_eq ha) (Ev_bind_eq (Decode_eq hb) (Ev_neg na.2 (Ev_neg nb.2.2 (Ev_neg hab (Ev_neg na.1 (Ev_neg nb.1 (Ev_neg h0 (Ev_neg nb.2.1 h1))))))))
/-- The root of V: its square lies between those of the middles beside p. -/
structure RootNear (p V : Nat) : Prop where
  pos : p ≠ 0
  top : p < inf
  lo : (uni (p - 1) + uni p) * (uni (p - 1) + uni p) ≤ 4 * V
  loe : (uni (p - 1) + uni p) * (uni (p - 1) + uni p) = 4 * V → p % 2 = 0
  hi : 4 * V ≤ (uni p + uni (p + 1)) * (uni p + uni (p + 1))
  hie : 4 * V = (uni p + uni (p + 1)) * (uni p + uni (p + 1)) → p % 2 = 0
theorem sq_lt {a b : Nat} (h : a < b) : a * a < b * b := Nat.mul_lt_mul'' h h
theorem sq_le {a b : Nat} (h : a ≤ b) : a * a ≤ b * b := Nat.mul_le_mul h h
theorem of_sq_le {a b : Nat} (h : a * a ≤ b * b) : a ≤ b := by
  rcases Nat.lt_or_ge b a with h1 | h1
  · have := sq_lt h1; omega
  · exact h1
theorem of_sq_eq {a b : Nat} (h : a * a = b * b) : a = b := Nat.le_antisymm (of_sq_le (Nat.le_of_eq h)) (of_sq_le (Nat.le_of_eq h.symm))
theorem mul_sq (a b : Nat) : a * b * (a * b) = a * a * (b * b) := Nat.mul_mul_mul_comm a b a b
/-- Held against a square: the root is exact. -/
theorem root_exact {p r A B' V : Nat} (hB : 0 < B') (h : Near p (r * A) B') (hV : r * A * (r * A) = V * (B' * B')) (p0 : p ≠ 0) (pt : p < inf) : RootNear p V := by
  have hBB : 0 < B' * B' := Nat.mul_pos hB hB
  have e4 : 2 * (r * A) * (2 * (r * A)) = 4 * V * (B' * B') := by
    have : 2 * (r * A) * (2 * (r * A)) = 4 * (r * A * (r * A)) := mul_sq 2 (r * A)
    rw [this, hV, Nat.mul_assoc]
  refine ⟨p0, pt, ?_, fun he => ?_, ?_, fun he => ?_⟩
  · have := sq_le (h.lo p0)
    rw [mul_sq, e4] at this
    exact Nat.le_of_mul_le_mul_right this hBB
  · refine h.loe p0 (of_sq_eq ?_)
    rw [mul_sq, e4, he]
  · have := sq_le (h.hi pt)
    rw [mul_sq (uni p + uni (p + 1)), e4] at this
    exact Nat.le_of_mul_le_mul_right this hBB
  · refine h.hie pt (of_sq_eq ?_)
    rw [mul_sq (uni p + uni (p + 1)), e4, he]
/-- Or it lies between two whole numbers. -/
theorem root_between {p r A B' V n : Nat} (hA : 0 < A) (hB : 0 < B') (h : ∀ X Y, 0 < Y → r * A * Y < X * B' → X * B' < (r + 1) * A * Y → Near p X Y) (h1 : r * r < n) (h2 : n < (r + 1) * (r + 1)) (hV : n * (A * A) = V * (B' * B')) (p0 : p ≠ 0) (pt : p < inf) : RootNear p V := by
  have hBB : 0 < B' * B' := Nat.mul_pos hB hB
  -- W: so many parts that what is left out is less than a whole
  obtain ⟨W, hW⟩ : ∃ W, W = 2 * A + 2 := ⟨_, rfl⟩
  have hAW : 2 * A < W := by omega
  have hlow : (uni (p - 1) + uni p) * B' ≤ 2 * (r * A) := by
    have := (h ((r * W + 1) * A) (B' * W) (Nat.mul_pos hB (by omega)) (by
      rw [show r * A * (B' * W) = r * W * A * B' by simp only [Nat.mul_comm, Nat.mul_left_comm, Nat.mul_assoc]]
      exact Nat.mul_lt_mul_of_pos_right (Nat.mul_lt_mul_of_pos_right (Nat.lt_succ_self _) hA) hB) (by
      rw [show (r + 1) * A * (B' * W) = (r + 1) * W * A * B' by simp only [Nat.mul_comm, Nat.mul_left_comm, Nat.mul_assoc]]
      refine Nat.mul_lt_mul_of_pos_right (Nat.mul_lt_mul_of_pos_right ?_ hA) hB
      rw [Nat.add_mul, Nat.one_mul]; omega)).lo p0
    generalize uni (p - 1) + uni p = M at *
    rw [← Nat.mul_assoc M, Nat.add_mul (r * W), Nat.one_mul, Nat.mul_add 2, show 2 * (r * W * A) = 2 * (r * A) * W by simp only [Nat.mul_comm, Nat.mul_left_comm, Nat.mul_assoc]] at this
    rcases Nat.lt_or_ge (2 * (r * A)) (M * B') with h3 | h3
    · have h4 := Nat.mul_le_mul_right W (show 2 * (r * A) + 1 ≤ M * B' from h3)
      rw [Nat.add_mul, Nat.one_mul] at h4
      omega
    · exact h3
  have hhigh : 2 * ((r + 1) * A) ≤ (uni p + uni (p + 1)) * B' := by
    have hW1 : (r + 1) * W - 1 + 1 = (r + 1) * W := Nat.sub_add_cancel (Nat.mul_pos (by omega) (by omega))
    obtain ⟨Z, hZ⟩ : ∃ Z, Z = (r + 1) * W - 1 := ⟨_, rfl⟩
    rw [← hZ] at hW1
    have hrW : r * W < Z := by
      have : (r + 1) * W = r * W + W := by rw [Nat.add_mul, Nat.one_mul]
      omega
    have := (h (Z * A) (B' * W) (Nat.mul_pos hB (by omega)) (by
      rw [show r * A * (B' * W) = r * W * A * B' by simp only [Nat.mul_comm, Nat.mul_left_comm, Nat.mul_assoc]]
      exact Nat.mul_lt_mul_of_pos_right (Nat.mul_lt_mul_of_pos_right hrW hA) hB) (by
      rw [show (r + 1) * A * (B' * W) = (r + 1) * W * A * B' by simp only [Nat.mul_comm, Nat.mul_left_comm, Nat.mul_assoc]]
      exact Nat.mul_lt_mul_of_pos_right (Nat.mul_lt_mul_of_pos_right (by omega) hA) hB)).hi pt
    generalize uni p + uni (p + 1) = M at *
    rw [← Nat.mul_assoc M] at this
    have e : 2 * (Z * A) + 2 * A = 2 * ((r + 1) * A) * W := by
      rw [← Nat.mul_add, show Z * A + A = (Z + 1) * A by rw [Nat.add_mul, Nat.one_mul], hW1]
      simp only [Nat.mul_comm, Nat.mul_left_comm, Nat.mul_assoc]
    rcases Nat.lt_or_ge (M * B') (2 * ((r + 1) * A)) with h3 | h3
    · have h4 := Nat.mul_le_mul_right W (show M * B' + 1 ≤ 2 * ((r + 1) * A) from h3)
      rw [Nat.add_mul, Nat.one_mul] at h4
      omega
    · exact h3
  have e4 : ∀ x, 2 * (x * A) * (2 * (x * A)) = 4 * (x * x * (A * A)) := fun x => by
    have : 2 * (x * A) * (2 * (x * A)) = 4 * (x * A * (x * A)) := mul_sq 2 (x * A)
    rw [this, mul_sq x]
  have hAA : 0 < A * A := Nat.mul_pos hA hA
  have l1 : (uni (p - 1) + uni p) * (uni (p - 1) + uni p) * (B' * B') < 4 * V * (B' * B') := by
    have k1 := sq_le hlow
    rw [mul_sq, e4] at k1
    have k2 := Nat.mul_lt_mul_of_pos_right h1 hAA
    rw [hV] at k2
    rw [Nat.mul_assoc 4]
    omega
  have l2 : 4 * V * (B' * B') < (uni p + uni (p + 1)) * (uni p + uni (p + 1)) * (B' * B') := by
    have k1 := sq_le hhigh
    rw [mul_sq (uni p + uni (p + 1)), e4] at k1
    have k2 := Nat.mul_lt_mul_of_pos_right h2 hAA
    rw [hV] at k2
    rw [Nat.mul_assoc 4]
    omega
  have m1 := Nat.lt_of_mul_lt_mul_right l1
  have m2 := Nat.lt_of_mul_lt_mul_right l2
  exact ⟨p0, pt, Nat.le_of_lt m1, fun he => by omega, Nat.le_of_lt m2, fun he => by omega⟩
end Go.Proofs.YtobocamcoaeliaaGreatDoor.SoftDiv
