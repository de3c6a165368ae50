/- Whole numbers (in 2^-1074) that doubles hold, and sums of two of them rounded: what is lost is a double (plain laws, no program). No conditions. -/
import Derived.Test.YtcacmhcekoeblaaDoorQRnd
namespace Go.Proofs.YtcacmhcekoeblaaDoor.Rn
open Go.RowKit Go.Proofs.YtcacmhcekoeblaaDoor.Lib Go.Proofs.YtcacmhcekoeblaaDoor.LibB Go.Proofs.YtcacmhcekoeblaaDoor.Rnd
open Go.Proofs.YtcacmhcekoeblaaDoorA (rd ln ln_eq mx mn shl shr wr wr_eq)
set_option linter.unusedVariables false
set_option linter.unusedSimpArgs false

/-- v is a finite double's value. -/
def FF (v : Int) : Prop := ∃ p, p < inf ∧ v.natAbs = uni p
theorem two_pos (k : Nat) : 0 < 2 ^ k := Nat.pow_pos (by omega)
theorem inf_top {F : Nat} (hF : F = 2098) : uni inf = 2 ^ F := by
  obtain ⟨E, hE⟩ : ∃ E, E = 2046 := ⟨_, rfl⟩
  rw [uni_inf hE, show (4503599627370496 : Nat) = 2 ^ 52 from rfl, ← Nat.pow_add, show 52 + E = F by omega]
theorem ff_of {k F : Nat} {v : Int} (hF : F = 2098) (hd : ((2 ^ k : Nat) : Int) ∣ v) (hb : v.natAbs ≤ 9007199254740992 * 2 ^ k) (hB : v.natAbs < 2 ^ F) : FF v := by
  obtain ⟨c, hc⟩ := Int.ofNat_dvd_left.1 hd
  have fin' : ∀ {j m : Nat}, m ≤ 9007199254740992 → j ≤ 2045 → v.natAbs = m * 2 ^ j → FF v := by
    intro j m hm hj h
    obtain ⟨p, p1, p2⟩ := uni_rep j m hm hj
    refine ⟨p, uni_lt_iff.1 ?_, by rw [h, p2]⟩
    rw [p2, ← h, inf_top hF]
    exact hB
  rw [Nat.mul_comm] at hc
  by_cases hk : k ≤ 2045
  · refine fin' ?_ hk hc
    rw [hc] at hb
    exact Nat.le_of_mul_le_mul_right hb (two_pos k)
  · obtain ⟨J, hJ⟩ : ∃ J, J = 2045 := ⟨_, rfl⟩
    have e : v.natAbs = c * 2 ^ (k - J) * 2 ^ J := by rw [hc, Nat.mul_assoc, ← Nat.pow_add]; congr 2; omega
    refine fin' (j := J) ?_ (by omega) e
    rw [e, show F = 53 + J by omega, Nat.pow_add] at hB
    have := Nat.lt_of_mul_lt_mul_right hB
    rw [show (2 : Nat) ^ 53 = 9007199254740992 from rfl] at this
    omega
theorem ff_parts {v : Int} (h : FF v) : ∃ k : Nat, ((2 ^ k : Nat) : Int) ∣ v ∧ v.natAbs < 9007199254740992 * 2 ^ k := by
  obtain ⟨p, hp, hv⟩ := h
  obtain ⟨k, c, -, -, hc, hu, -⟩ := place_parts p
  refine ⟨k, Int.ofNat_dvd_left.2 ?_, ?_⟩
  · rw [hv, hu]; exact Nat.dvd_mul_left _ _
  · rw [hv, hu]; exact Nat.mul_lt_mul_of_pos_right hc (two_pos k)
theorem ff_lt {v : Int} {F : Nat} (hF : F = 2098) (h : FF v) : v.natAbs < 2 ^ F := by
  obtain ⟨p, hp, hv⟩ := h
  rw [hv, ← inf_top hF]
  exact uni_lt_iff.2 hp
theorem ff_zero : FF 0 := ⟨0, by unfold inf; omega, by rw [uni_zero]; rfl⟩
theorem pow_dvd {a b : Nat} (h : a ≤ b) {v : Int} (hd : ((2 ^ b : Nat) : Int) ∣ v) : ((2 ^ a : Nat) : Int) ∣ v :=
  Int.dvd_trans (Int.natCast_dvd_natCast.2 (Nat.pow_dvd_pow 2 h)) hd
/-- s is v rounded: no double lies nearer; s and v lie in one row of multiples of 2^q. -/
structure Rn (v s : Int) : Prop where
  ff : FF s
  cand : ∀ f, FF f → (v - s).natAbs ≤ (v - f).natAbs
  unit : ∃ q : Nat, ((2 ^ q : Nat) : Int) ∣ s ∧ 2 * (v - s).natAbs ≤ 2 ^ q ∧ (q = 0 ∨ 4503599627370496 * 2 ^ q ≤ v.natAbs) ∧ v.natAbs < 9007199254740992 * 2 ^ q
theorem Rn.exact {v s : Int} (h : Rn v s) (hv : FF v) : s = v := by
  have := h.cand v hv
  rw [Int.sub_self] at this
  simp at this
  omega
/-! ### what a sum loses -/
theorem rn_lost {x y s : Int} (hx : FF x) (hy : FF y) (h : Rn (x + y) s) : FF (x + y - s) := by
  have key : ∀ {x y : Int}, FF x → FF y → Rn (x + y) s → ∀ k l : Nat, k ≤ l → ((2 ^ k : Nat) : Int) ∣ x → x.natAbs < 9007199254740992 * 2 ^ k → ((2 ^ l : Nat) : Int) ∣ y → FF (x + y - s) := by
    intro x y hx hy h k l hkl dx bx dy
    obtain ⟨F, hF⟩ : ∃ F, F = 2098 := ⟨_, rfl⟩
    obtain ⟨q, q1, q2, q3, q4⟩ := h.unit
    have dv : ((2 ^ k : Nat) : Int) ∣ x + y := Int.dvd_add dx (pow_dvd hkl dy)
    have hc := h.cand y hy
    rw [Int.add_sub_cancel] at hc
    by_cases hq : k ≤ q
    · exact ff_of hF (Int.dvd_sub dv (pow_dvd hq q1)) (Nat.le_of_lt (Nat.lt_of_le_of_lt hc bx)) (Nat.lt_of_le_of_lt hc (ff_lt hF hx))
    · -- the sum itself is a double
      by_cases hb : (x + y).natAbs < 2 ^ F
      · have := h.exact (ff_of hF (pow_dvd (by omega) dv) (Nat.le_of_lt q4) hb)
        rw [this, Int.sub_self]
        exact ff_zero
      · exfalso
        have h1 := ff_lt hF h.ff
        have h2 := two_pos q
        have h3 : 2 ^ q ∣ ((x + y).natAbs) := Int.ofNat_dvd_left.1 (pow_dvd (by omega) dv)
        have h4 : 2 ^ q ∣ s.natAbs := Int.ofNat_dvd_left.1 q1
        have h5 : (x + y - s).natAbs < 2 ^ q := by omega
        have h6 : 2 ^ q ∣ (x + y - s).natAbs := Int.ofNat_dvd_left.1 (Int.dvd_sub (pow_dvd (by omega) dv) q1)
        have h7 := Nat.eq_zero_of_dvd_of_lt h6 h5
        omega
  obtain ⟨k, k1, k2⟩ := ff_parts hx
  obtain ⟨l, l1, l2⟩ := ff_parts hy
  rcases Nat.le_total k l with hkl | hkl
  · exact key hx hy h k l hkl k1 k2 l1
  · rw [Int.add_comm x y] at h ⊢
    exact key hy hx h l k hkl l1 l2 k1
/-! ### six additions -/
theorem six {a b s e z : Int} (ha : FF a) (hb : FF b) (h1 : Rn (a + b) s) (hz : z = a + b - s) (h6 : Rn z e) : s + e = a + b := by
  have lost := rn_lost ha hb h1
  rw [hz] at h6
  have := h6.exact lost
  omega

/-! ### what a product loses -/
end Go.Proofs.YtcacmhcekoeblaaDoor.Rn
