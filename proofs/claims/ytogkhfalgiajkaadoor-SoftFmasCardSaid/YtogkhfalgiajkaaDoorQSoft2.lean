/- What the printed products of soft compute on finite doubles. Conditions: patterns below 2^64. -/
import Derived.Test.YtogkhfalgiajkaaDoorQSoft1
namespace Go.Proofs.YtogkhfalgiajkaaDoor.Soft2
open Go.RowKit Go.Proofs.YtogkhfalgiajkaaDoor.Lib Go.Proofs.YtogkhfalgiajkaaDoor.LibB Go.Proofs.YtogkhfalgiajkaaDoor.F Go.Proofs.YtogkhfalgiajkaaDoor.Nat1 Go.Proofs.YtogkhfalgiajkaaDoor.Nat2 Go.Proofs.YtogkhfalgiajkaaDoor.Bits Go.Proofs.YtogkhfalgiajkaaDoor.Ieee1 Go.Proofs.YtogkhfalgiajkaaDoor.Mag Go.Proofs.YtogkhfalgiajkaaDoor.Ieee2 Go.Proofs.YtogkhfalgiajkaaDoor.Soft1 Go.Proofs.YtogkhfalgiajkaaDoor.Rnd
open Go.Proofs.YtogkhfalgiajkaaDoorA (rd ln ln_eq mx mn shl shr wr wr_eq)
set_option linter.unusedVariables false
set_option linter.unusedSimpArgs false
theorem sv_prod (a b : Bool) (x y : Nat) : sv a x * sv b y = sv (a != b) (x * y) := by
  unfold sv
  cases a <;> cases b <;> simp [Int.neg_mul, Int.mul_neg]
/-- d is the double nearest to v / M (in 2^-1074); nothing's sign is z. -/
def RdM (d v : Int) (M : Nat) (z : Bool) : Prop := ∃ s p, d = put s p ∧ Near p v.natAbs M ∧ (v ≠ 0 → s = decide (v < 0)) ∧ (v = 0 → s = z)
theorem rdm_term {s z : Bool} {Z a0 K : Nat} {e e' v : Int} (hK : K = 1074) (he : e + 2148 = (a0 : Int)) (hv : v = sv s Z * ((2 ^ a0 : Nat) : Int)) (h : e' = e ∨ Z = 0) (hz : Z = 0 → s = z) : RdM (put s (rnd Z e' false)) v (2 ^ K) z := by
  have hp : 0 < 2 ^ a0 := Nat.pow_pos (by omega)
  have hp2 : 0 < 2 ^ K := Nat.pow_pos (by omega)
  have habs : v.natAbs = Z * 2 ^ a0 := by rw [hv, ← sv_mul, sv_abs]
  refine ⟨s, _, rfl, ?_, fun hne => ?_, fun h0 => ?_⟩
  · rw [habs]
    by_cases h0 : Z = 0
    · rw [h0, Nat.zero_mul, show rnd 0 e' false = 0 from by unfold rnd; rw [if_pos (.inl rfl)]]
      exact near_zero (by omega)
    · obtain rfl : e' = e := by rcases h with h | h; exact h; exact absurd h h0
      obtain ⟨x, y, hxy⟩ : ∃ x y : Nat, (x : Int) - y = e' + 1074 := ⟨(e' + 1074).toNat, (-(e' + 1074)).toNat, by omega⟩
      have := rnd_near Z e' hxy
      refine near_congr (Nat.pow_pos (by omega)) hp2 this ?_
      rw [Nat.mul_assoc, Nat.mul_assoc, ← Nat.pow_add, ← Nat.pow_add]
      congr 2
      omega
  · have hZ : 0 < Z * 2 ^ a0 := by omega
    rw [← sv_mul] at hv
    rw [hv]
    generalize Z * 2 ^ a0 = q at *
    unfold sv
    cases s with
    | false => exact (decide_eq_false (by simp)).symm
    | true => exact (decide_eq_true (by simp; omega)).symm
  · refine hz ?_
    rw [h0] at habs
    rcases Nat.eq_zero_or_pos Z with h1 | h1
    · exact h1
    · have := Nat.mul_pos h1 hp
      simp at habs
      omega
theorem man_mul {a b : Int} : (manOf a).toNat * (manOf b).toNat < 2 ^ 106 := by
  have ma := man_any a
  have mb := man_any b
  have h := Nat.mul_lt_mul'' (show (manOf a).toNat < 9007199254740992 by omega) (show (manOf b).toNat < 9007199254740992 by omega)
  exact Nat.lt_of_lt_of_le h (by decide)
theorem product_ev {s t : Bool} {c c' e e' : Int} {a b : Int} (he : -100000 ≤ e ∧ e ≤ 100000) (he' : -100000 ≤ e' ∧ e' ≤ 100000) :
    Ev (fun k _ _ => soft_product.f k s c (manOf a) e t c' (manOf b) e') ((s != t), lim ((manOf a).toNat * (manOf b).toNat), e + e') := by
  have ma := man_any a
  have mb := man_any b
  have hB := pow_B (man_mul (a := a) (b := b)) (by omega)
  have ha : (manOf a).toNat < B 4096 := small_limit (by omega)
  have hb : (manOf b).toNat < B 4096 := small_limit (by omega)
  have hm := nat_Mul_ev (ok_lim (manOf a).toNat) (ok_lim (manOf b).toNat) (by have := len_lim' ha; omega) (by have := len_lim' hb; omega)
  rw [val_lim, val_lim, mul_fits hB ha hb] at hm
  simp only [soft_product.f, soft_product.b0, ln_eq]
  refine Ev_bind_eq (FromUint_man a) (Ev_bind_eq (FromUint_man b) (Ev.bind hm (Ev_some ?_)))
  rw [show wrap64 (e + e') = e + e' from wrap_id (by omega) (by omega)]
theorem fma_ev {a b c : Int} {K : Nat} (hK : K = 1074) (ha : U a) (hb : U b) (hc : U c) (fa : fin a) (fb : fin b) (fc : fin c) :
    ∃ d f, Ev (fun k _ _ => soft_fma.f k a b c) (d, f) ∧ RdM d (sval a * sval b + sval c * ((2 ^ K : Nat) : Int)) (2 ^ K) ((sgn a != sgn b) && sgn c) := by
  have ea := exp_range fa
  have eb := exp_range fb
  have ec := exp_range fc
  have mc := man_any c
  obtain ⟨e, he⟩ : ∃ e, e = if expOf a + expOf b ≤ expOf c then expOf a + expOf b else expOf c := ⟨_, rfl⟩
  obtain ⟨i, j, hi, hj, hij⟩ : ∃ i j : Nat, expOf a + expOf b - e = (i : Int) ∧ expOf c - e = (j : Int) ∧ (i = 0 ∨ j = 0) := by
    refine ⟨(expOf a + expOf b - e).toNat, (expOf c - e).toNat, ?_, ?_, ?_⟩ <;> split at he <;> omega
  obtain ⟨a0, ha0⟩ : ∃ a0 : Nat, e + 2148 = (a0 : Int) := ⟨(e + 2148).toNat, by split at he <;> omega⟩
  have he2 : e ≤ 971 := by split at he <;> omega
  obtain ⟨E, hE⟩ : ∃ E, E = 5000 := ⟨_, rfl⟩
  have hB : (manOf a).toNat * (manOf b).toNat * 2 ^ i + (manOf c).toNat * 2 ^ j < 2 ^ (E + 1) := by
    have p1 : (manOf a).toNat * (manOf b).toNat * 2 ^ i < 2 ^ E := by
      have := Nat.mul_lt_mul_of_pos_right (man_mul (a := a) (b := b)) (show 0 < 2 ^ i from Nat.pow_pos (by omega))
      rw [← Nat.pow_add] at this
      exact Nat.lt_of_lt_of_le this (Nat.pow_le_pow_right (by omega) (by omega))
    have p2 : (manOf c).toNat * 2 ^ j < 2 ^ E := Nat.lt_of_lt_of_le (lift2 (m := (manOf c).toNat) (k := j) (by omega) (by omega)).1 (Nat.pow_le_pow_right (by omega) (by omega))
    exact Nat.lt_of_lt_of_eq (Nat.add_lt_add p1 p2) (twice E)
  have hBB := pow_B hB (by omega)
  clear hB
  obtain ⟨s, Z, e', h1, h2, h3, h4⟩ := tplus_ev (sx := (sgn a != sgn b)) (sy := sgn c) hi hj hij (by omega) (by omega) hBB
  have hZ : Z < B 4096 := by
    have : Z ≤ (manOf a).toNat * (manOf b).toNat * 2 ^ i + (manOf c).toNat * 2 ^ j := by
      have h5 := congrArg Int.natAbs h2
      rw [sv_abs] at h5
      have h6 := Int.natAbs_add_le (sv (sgn a != sgn b) ((manOf a).toNat * (manOf b).toNat * 2 ^ i)) (sv (sgn c) ((manOf c).toNat * 2 ^ j))
      rw [sv_abs, sv_abs] at h6
      rw [h5]
      exact h6
    exact Nat.lt_of_le_of_lt this hBB
  obtain ⟨f, hf⟩ := rounded_ev (s := s) (e := e') hZ
  have n1 := cls_lt fa
  have n2 := cls_lt fb
  have n3 := cls_lt fc
  refine ⟨_, f, ?_, rdm_term hK ha0 ?_ h3 h4⟩
  · have hpr := product_ev (s := sgn a) (t := sgn b) (c := cls a) (c' := cls b) (e := expOf a) (e' := expOf b) (a := a) (b := b) (by omega) (by omega)
    have b3 : decide (cls b = 3) = false := decide_eq_false n2.1
    simp only [soft_fma.f, soft_fma.b0]
    refine Ev_bind_eq (Decode_eq ha) (Ev_bind_eq (Decode_eq hb) (Ev_bind_eq (Decode_eq hc) (Ev_neg n1.1 ?_)))
    dsimp only
    rw [b3]
    simp only [soft_fma.l15, soft_fma.b15]
    refine Ev_neg n1.2 (Ev_neg n2.2 (Ev_neg n3.2 (Ev_neg (by simp) (Ev_neg (by simp) ?_))))
    simp only [soft_fma.l3999, soft_fma.b3999]
    refine Ev_neg (by simp) (Ev_neg (by simp) (Ev_neg n3.1 (Ev.bind hpr ?_)))
    refine Ev_bind_eq (a := (sgn c, lim (manOf c).toNat, expOf c)) (by unfold soft_termOf.f soft_termOf.b0; rw [FromUint_man]; rfl) ?_
    exact Ev.bind h1 (Ev.bind hf (Ev_some rfl))
  · unfold sval
    obtain ⟨x, hx⟩ : ∃ x : Nat, expOf a + 1074 = (x : Int) := ⟨(expOf a + 1074).toNat, by omega⟩
    obtain ⟨y, hy⟩ : ∃ y : Nat, expOf b + 1074 = (y : Int) := ⟨(expOf b + 1074).toNat, by omega⟩
    obtain ⟨z, hz⟩ : ∃ z : Nat, expOf c + 1074 = (z : Int) := ⟨(expOf c + 1074).toNat, by omega⟩
    rw [sv_prod, uni_parts fa, uni_parts fb, uni_parts fc, hx, hy, hz, Int.toNat_natCast, Int.toNat_natCast, Int.toNat_natCast, Nat.mul_mul_mul_comm, ← Nat.pow_add, ← sv_mul (sgn c), Nat.mul_assoc (manOf c).toNat, ← Nat.pow_add,
      show x + y = i + a0 by omega, show z + K = j + a0 by omega, Nat.pow_add, Nat.pow_add, ← Nat.mul_assoc, ← Nat.mul_assoc, sv_mul _ ((manOf a).toNat * (manOf b).toNat * 2 ^ i), sv_mul _ ((manOf c).toNat * 2 ^ j), ← Int.add_mul, h2]
theorem Fma_ev {a b c : Int} {K : Nat} (hK : K = 1074) (ha : U a) (hb : U b) (hc : U c) (fa : fin a) (fb : fin b) (fc : fin c) :
    ∃ d, Ev (fun k _ _ => soft_Fma.f k a b c) d ∧ RdM d (sval a * sval b + sval c * ((2 ^ K : Nat) : Int)) (2 ^ K) ((sgn a != sgn b) && sgn c) := by
  obtain ⟨d, f, h1, h2⟩ := fma_ev hK ha hb hc fa fb fc
  refine ⟨d, ?_, h2⟩
  simp only [soft_Fma.f, soft_Fma.b0, ln_eq]
  exact Ev.bind h1 (Ev_some rfl)
end Go.Proofs.YtogkhfalgiajkaaDoor.Soft2
