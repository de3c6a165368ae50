/- What Div and Sqrt of soft answer of finite doubles: the double nearest to the quotient, and the one whose neighbours' middles hold the root between them. No conditions. -/
import Derived.Test.YtcacmhcekoeblaaDoorQSoft2
import Derived.Test.YtcacmhcekoeblaaDoorQQuot1
import Derived.Test.YtcacmhcekoeblaaDoorQRatio
namespace Go.Proofs.YtcacmhcekoeblaaDoor.SoftDiv
open Go.RowKit Go.Proofs.YtcacmhcekoeblaaDoor.Lib Go.Proofs.YtcacmhcekoeblaaDoor.LibB Go.Proofs.YtcacmhcekoeblaaDoor.F Go.Proofs.YtcacmhcekoeblaaDoor.Nat1 Go.Proofs.YtcacmhcekoeblaaDoor.Nat2 Go.Proofs.YtcacmhcekoeblaaDoor.Bits Go.Proofs.YtcacmhcekoeblaaDoor.Ieee1 Go.Proofs.YtcacmhcekoeblaaDoor.Mag Go.Proofs.YtcacmhcekoeblaaDoor.Ieee2 Go.Proofs.YtcacmhcekoeblaaDoor.Soft1 Go.Proofs.YtcacmhcekoeblaaDoor.Soft2 Go.Proofs.YtcacmhcekoeblaaDoor.Rnd
open Go.Proofs.YtcacmhcekoeblaaDoorA (rd ln ln_eq mx mn shl shr wr wr_eq)
set_option linter.unusedVariables false
set_option linter.unusedSimpArgs false
theorem cls_zero {d : Int} : cls d = 0 ↔ plc d = 0 := by
  unfold cls plc; repeat' split
  all_goals omega
theorem man_pos {d : Int} (h : fin d) (h0 : plc d ≠ 0) : (manOf d).toNat ≠ 0 := by
  intro hm
  have := uni_parts h
  rw [hm, Nat.zero_mul] at this
  exact h0 (uni_inj (by rw [this, uni_zero]))
theorem cls_small {d : Int} (h : fin d) (h0 : plc d ≠ 0) : cls d ≠ 0 ∧ cls d ≠ 3 ∧ cls d ≠ 4 := ⟨fun h1 => h0 (cls_zero.1 h1), (cls_lt h).1, (cls_lt h).2⟩
/-- The root of V: its square lies between those of the middles beside p. -/
structure RootNear (p V : Nat) : Prop where
  pos : p ≠ 0
  top : p < inf
  lo : (uni (p - 1) + uni p) * (uni (p - 1) + uni p) ≤ 4 * V
  loe : (uni (p - 1) + uni p) * (uni (p - 1) + uni p) = 4 * V → p % 2 = 0
  hi : 4 * V ≤ (uni p + uni (p + 1)) * (uni p + uni (p + 1))
  hie : 4 * V = (uni p + uni (p + 1)) * (uni p + uni (p + 1)) → p % 2 = 0
theorem sq_lt {a b : Nat} (h : a < b) : a * a < b * b := Nat.mul_lt_mul'' h h
theorem sq_le {a b : Nat} (h : a ≤ b) : a * a ≤ b * b := Nat.mul_le_mul h h
theorem of_sq_le {a b : Nat} (h : a * a ≤ b * b) : a ≤ b := by
  rcases Nat.lt_or_ge b a with h1 | h1
  · have := sq_lt h1; omega
  · exact h1
theorem of_sq_eq {a b : Nat} (h : a * a = b * b) : a = b := Nat.le_antisymm (of_sq_le (Nat.le_of_eq h)) (of_sq_le (Nat.le_of_eq h.symm))
theorem mul_sq (a b : Nat) : a * b * (a * b) = a * a * (b * b) := Nat.mul_mul_mul_comm a b a b
/-- Held against a square: the root is exact. -/
theorem root_exact {p r A B' V : Nat} (hB : 0 < B') (h : Near p (r * A) B') (hV : r * A * (r * A) = V * (B' * B')) (p0 : p ≠ 0) (pt : p < inf) : RootNear p V := by
  have hBB : 0 < B' * B' := Nat.mul_pos hB hB
  have e4 : 2 * (r * A) * (2 * (r * A)) = 4 * V * (B' * B') := by
    have : 2 * (r * A) * (2 * (r * A)) = 4 * (r * A * (r * A)) := mul_sq 2 (r * A)
    rw [this, hV, Nat.mul_assoc]
  refine ⟨p0, pt, ?_, fun he => ?_, ?_, fun he => ?_⟩
  · have := sq_le (h.lo p0)
    rw [mul_sq, e4] at this
    exact Nat.le_of_mul_le_mul_right this hBB
  · refine h.loe p0 (of_sq_eq ?_)
    rw [mul_sq, e4, he]
  · have := sq_le (h.hi pt)
    rw [mul_sq (uni p + uni (p + 1)), e4] at this
    exact Nat.le_of_mul_le_mul_right this hBB
  · refine h.hie pt (of_sq_eq ?_)
    rw [mul_sq (uni p + uni (p + 1)), e4, he]
/-- Or it lies between two whole numbers. -/
theorem root_between {p r A B' V n : Nat} (hA : 0 < A) (hB : 0 < B') (h : ∀ X Y, 0 < Y → r * A * Y < X * B' → X * B' < (r + 1) * A * Y → Near p X Y) (h1 : r * r < n) (h2 : n < (r + 1) * (r + 1)) (hV : n * (A * A) = V * (B' * B')) (p0 : p ≠ 0) (pt : p < inf) : RootNear p V := by
  have hBB : 0 < B' * B' := Nat.mul_pos hB hB
  -- W: so many parts that what is left out is less than a whole
  obtain ⟨W, hW⟩ : ∃ W, W = 2 * A + 2 := ⟨_, rfl⟩
  have hAW : 2 * A < W := by omega
  have hlow : (uni (p - 1) + uni p) * B' ≤ 2 * (r * A) := by
    have := (h ((r * W + 1) * A) (B' * W) (Nat.mul_pos hB (by omega)) (by
      rw [show r * A * (B' * W) = r * W * A * B' by simp only [Nat.mul_comm, Nat.mul_left_comm, Nat.mul_assoc]]
      exact Nat.mul_lt_mul_of_pos_right (Nat.mul_lt_mul_of_pos_right (Nat.lt_succ_self _) hA) hB) (by
      rw [show (r + 1) * A * (B' * W) = (r + 1) * W * A * B' by simp only [Nat.mul_comm, Nat.mul_left_comm, Nat.mul_assoc]]
      refine Nat.mul_lt_mul_of_pos_right (Nat.mul_lt_mul_of_pos_right ?_ hA) hB
      rw [Nat.add_mul, Nat.one_mul]; omega)).lo p0
    generalize uni (p - 1) + uni p = M at *
    rw [← Nat.mul_assoc M, Nat.add_mul (r * W), Nat.one_mul, Nat.mul_add 2, show 2 * (r * W * A) = 2 * (r * A) * W by simp only [Nat.mul_comm, Nat.mul_left_comm, Nat.mul_assoc]] at this
    rcases Nat.lt_or_ge (2 * (r * A)) (M * B') with h3 | h3
    · have h4 := Nat.mul_le_mul_right W (show 2 * (r * A) + 1 ≤ M * B' from h3)
      rw [Nat.add_mul, Nat.one_mul] at h4
      omega
    · exact h3
  have hhigh : 2 * ((r + 1) * A) ≤ (uni p + uni (p + 1)) * B' := by
    have hW1 : (r + 1) * W - 1 + 1 = (r + 1) * W := Nat.sub_add_cancel (Nat.mul_pos (by omega) (by omega))
    obtain ⟨Z, hZ⟩ : ∃ Z, Z = (r + 1) * W - 1 := ⟨_, rfl⟩
    rw [← hZ] at hW1
    have hrW : r * W < Z := by
      have : (r + 1) * W = r * W + W := by rw [Nat.add_mul, Nat.one_mul]
      omega
    have := (h (Z * A) (B' * W) (Nat.mul_pos hB (by omega)) (by
      rw [show r * A * (B' * W) = r * W * A * B' by simp only [Nat.mul_comm, Nat.mul_left_comm, Nat.mul_assoc]]
      exact Nat.mul_lt_mul_of_pos_right (Nat.mul_lt_mul_of_pos_right hrW hA) hB) (by
      rw [show (r + 1) * A * (B' * W) = (r + 1) * W * A * B' by simp only [Nat.mul_comm, Nat.mul_left_comm, Nat.mul_assoc]]
      exact Nat.mul_lt_mul_of_pos_right (Nat.mul_lt_mul_of_pos_right (by omega) hA) hB)).hi pt
    generalize uni p + uni (p + 1) = M at *
    rw [← Nat.mul_assoc M] at this
    have e : 2 * (Z * A) + 2 * A = 2 * ((r + 1) * A) * W := by
      rw [← Nat.mul_add, show Z * A + A = (Z + 1) * A by rw [Nat.add_mul, Nat.one_mul], hW1]
      simp only [Nat.mul_comm, Nat.mul_left_comm, Nat.mul_assoc]
    rcases Nat.lt_or_ge (M * B') (2 * ((r + 1) * A)) with h3 | h3
    · have h4 := Nat.mul_le_mul_right W (show M * B' + 1 ≤ 2 * ((r + 1) * A) from h3)
      rw [Nat.add_mul, Nat.one_mul] at h4
      omega
    · exact h3
  have e4 : ∀ x, 2 * (x * A) * (2 * (x * A)) = 4 * (x * x * (A * A)) := fun x => by
    have : 2 * (x * A) * (2 * (x * A)) = 4 * (x * A * (x * A)) := mul_sq 2 (x * A)
    rw [this, mul_sq x]
  have hAA : 0 < A * A := Nat.mul_pos hA hA
  have l1 : (uni (p - 1) + uni p) * (uni (p - 1) + uni p) * (B' * B') < 4 * V * (B' * B') := by
    have k1 := sq_le hlow
    rw [mul_sq, e4] at k1
    have k2 := Nat.mul_lt_mul_of_pos_right h1 hAA
    rw [hV] at k2
    rw [Nat.mul_assoc 4]
    omega
  have l2 : 4 * V * (B' * B') < (uni p + uni (p + 1)) * (uni p + uni (p + 1)) * (B' * B') := by
    have k1 := sq_le hhigh
    rw [mul_sq (uni p + uni (p + 1)), e4] at k1
    have k2 := Nat.mul_lt_mul_of_pos_right h2 hAA
    rw [hV] at k2
    rw [Nat.mul_assoc 4]
    omega
  have m1 := Nat.lt_of_mul_lt_mul_right l1
  have m2 := Nat.lt_of_mul_lt_mul_right l2
  exact ⟨p0, pt, Nat.le_of_lt m1, fun he => by omega, Nat.le_of_lt m2, fun he => by omega⟩
end Go.Proofs.YtcacmhcekoeblaaDoor.SoftDiv
