/- The fourth reference's rounding, digit by digit. Conditions: lists of limbs below 2^64, of lengths that a slice has. -/
import Derived.Test.YtobocamcoaeliaaGreatDoorQR4
namespace Go.Proofs.YtobocamcoaeliaaGreatDoor.R4
open Go.RowKit Go.Proofs.YtobocamcoaeliaaGreatDoor.Lib Go.Proofs.YtobocamcoaeliaaGreatDoor.LibB Go.Proofs.YtobocamcoaeliaaGreatDoor.F Go.Proofs.YtobocamcoaeliaaGreatDoor.Nat1 Go.Proofs.YtobocamcoaeliaaGreatDoor.Nat2 Go.Proofs.YtobocamcoaeliaaGreatDoor.Bits Go.Proofs.YtobocamcoaeliaaGreatDoor.Ieee1 Go.Proofs.YtobocamcoaeliaaGreatDoor.Mag Go.Proofs.YtobocamcoaeliaaGreatDoor.Ieee2 Go.Proofs.YtobocamcoaeliaaGreatDoor.Rnd Go.Proofs.YtobocamcoaeliaaGreatDoor.R1
open Go.Proofs.YtobocamcoaeliaaGreatDoorA (rd ln ln_eq mx mn shl shr wr wr_eq)
set_option linter.unusedVariables false
set_option linter.unusedSimpArgs false
theorem limb_of {l : List Int} (h : ok l) (i : Nat) : ∃ p : Nat, rd l (i : Int) = (p : Int) ∧ p < 18446744073709551616 := by
  have := ok_rd h (i : Int)
  exact ⟨(rd l (i : Int)).toNat, by omega, by omega⟩
theorem half_w {x : Nat} (h : x < 18446744073709551616) : IntKind.u64.wrap (Int.tdiv (x : Int) 2) = ((x / 2 : Nat) : Int) := by
  rw [Int.tdiv_eq_ediv_of_nonneg (by omega), IntKind.wrap_u64]; omega
theorem odd_w (x : Nat) : Int.tmod (x : Int) 2 = ((x % 2 : Nat) : Int) := by
  rw [Int.tmod_eq_emod_of_nonneg (by omega)]; omega
theorem up_w {x : Nat} (h : x ≤ 4611686018427387904) : wrap64 ((x : Int) + 1) = ((x + 1 : Nat) : Int) := by unfold wrap64; omega
/-! ### BitLen -/
theorem blen_half {x : Nat} (h : x ≠ 0) : blen x = blen (x / 2) + 1 := by
  refine Nat.le_antisymm ((blen_le _ _).2 ?_) ?_
  · have := blen_lt (x / 2)
    rw [Nat.pow_succ]; omega
  · have h1 := blen_lt x
    have h2 := blen_pos.2 h
    obtain ⟨b, hb⟩ : ∃ b, blen x = b + 1 := ⟨blen x - 1, by omega⟩
    rw [hb, Nat.pow_succ] at h1
    have := (blen_le (x / 2) b).2 (by omega)
    omega
theorem bitlen_l (d : Nat) : ∀ x w : Nat, blen x ≤ d → x < 18446744073709551616 → w + d ≤ 4611686018427387904 → Ev (fun k m _ => abacusref01_BitLen.l501 k m (w : Int) (x : Int)) ((w + blen x : Nat) : Int) := by
  induction d with
  | zero =>
    intro x w h _ _
    have x0 : x = 0 := Decidable.byContradiction fun k => absurd (blen_pos.2 k) (by omega)
    subst x0
    refine Ev_succ ?_
    simp only [abacusref01_BitLen.l501, abacusref01_BitLen.b501]
    exact Ev_neg (by decide) (Ev_some rfl)
  | succ d ih =>
    intro x w h hx hw
    refine Ev_succ ?_
    simp only [abacusref01_BitLen.l501, abacusref01_BitLen.b501]
    by_cases x0 : x = 0
    · subst x0
      exact Ev_neg (by decide) (Ev_some rfl)
    · have hb := blen_half x0
      have := ih (x / 2) (w + 1) (by omega) (by omega) (by omega)
      rw [half_w hx, up_w (by omega)]
      rw [show w + 1 + blen (x / 2) = w + blen x by omega] at this
      exact Ev_pos (by omega) this
theorem rBitLen_ev {l : List Int} (h : ok l) (hl : l.length ≤ 35184372088832) : Ev (fun k _ _ => abacusref01_BitLen.f k l) ((blen (val l) : Nat) : Int) := by
  simp only [abacusref01_BitLen.f, abacusref01_BitLen.b0, ln_eq]
  refine Ev.bind (abacusref01_Size_ev h (by omega)) ?_
  have hz := @lim_len_zero (val l)
  have hn := lim_len_val_le h
  by_cases h0 : val l = 0
  · refine Ev_pos (by omega) (Ev_some ?_)
    rw [h0]; rfl
  · obtain ⟨n, hln⟩ : ∃ n, (lim (val l)).length = n + 1 := ⟨(lim (val l)).length - 1, by omega⟩
    rw [hln]
    have e : wrap64 (((n + 1 : Nat) : Int) - 1) = (n : Int) := by unfold wrap64; omega
    rw [e]
    refine Ev_neg (by omega) (Ev_pos (by omega) (Ev_pos (by omega) ?_))
    have hr := rd_top h (i := n) (by omega)
    have ht := rd_lim_last (val l) h0
    rw [hln, Nat.add_sub_cancel] at ht
    obtain ⟨x, hx, hxl⟩ := limb_of (ok_lim (val l)) n
    rw [hr, hx]
    rw [hx] at ht
    have h1 := val_take_succ (lim (val l)) n
    rw [val_take_all _ (by omega), val_lim, hx, Int.toNat_natCast] at h1
    have h2 := val_lt (ok_take (ok_lim (val l)) n)
    rw [List.length_take, hln, Nat.min_eq_left (by omega)] at h2
    have h3 := blen_high h2 (r := x) (by omega)
    rw [← h1] at h3
    have h5 : blen x ≤ 64 := (blen_le x 64).2 (by omega)
    have h6 : n ≤ 35184372088832 := by omega
    have w : wrap64 (64 * (n : Int)) = ((64 * n : Nat) : Int) := by unfold wrap64; omega
    rw [w, h3]
    exact Ev_in (g := fun k m _ => abacusref01_BitLen.l501 k m ((64 * n : Nat) : Int) (x : Int)) (bitlen_l 64 x (64 * n) h5 hxl (by omega))
/-! ### Bit -/
theorem bit_l {i : Int} {s : Nat} (hs : Int.tmod i 64 = (s : Int)) (d : Nat) : ∀ x j : Nat, j + d = s → x < 18446744073709551616 → s < 64 → Ev (fun k m _ => abacusref01_Bit.l245 k m i (x : Int) (j : Int)) ((x / 2 ^ d % 2 : Nat) : Int) := by
  induction d with
  | zero =>
    intro x j hj hx hs64
    refine Ev_succ ?_
    simp only [abacusref01_Bit.l245, abacusref01_Bit.b245, hs, odd_w]
    refine Ev_neg (by omega) (Ev_some ?_)
    rw [Nat.pow_zero, Nat.div_one]
    unfold wrap64; omega
  | succ d ih =>
    intro x j hj hx hs64
    refine Ev_succ ?_
    simp only [abacusref01_Bit.l245, abacusref01_Bit.b245, hs, half_w hx, up_w (x := j) (by omega)]
    have := ih (x / 2) (j + 1) (by omega) (by omega) hs64
    rw [Nat.div_div_eq_div_mul, ← Nat.pow_succ'] at this
    exact Ev_pos (by omega) this
def bitAt (n : Nat) (i : Int) : Nat := if i < 0 then 0 else n / 2 ^ i.toNat % 2
theorem rBit_ev {l : List Int} (h : ok l) (hl : l.length ≤ 35184372088832) {i : Int} (h1 : i < 9223372036854775808) : Ev (fun k _ _ => abacusref01_Bit.f k l i) ((bitAt (val l) i : Nat) : Int) := by
  simp only [abacusref01_Bit.f, abacusref01_Bit.b0, ln_eq]
  unfold bitAt
  by_cases h0 : i < 0
  · rw [if_pos h0]
    exact Ev_pos h0 (Ev.now _)
  · rw [if_neg h0]
    refine Ev_neg h0 ?_
    have e1 := (nat_parts i (by omega) h1).1
    have e2 : Int.tmod i 64 = ((i.toNat % 64 : Nat) : Int) := by rw [Int.tmod_eq_emod_of_nonneg (by omega)]; omega
    rw [e1]
    have hs : i.toNat % 64 < 64 := Nat.mod_lt _ (by omega)
    have hb := bit_val h (i.toNat / 64) (i.toNat % 64) hs
    rw [Nat.div_add_mod] at hb
    rw [hb]
    by_cases h2 : ((i.toNat / 64 : Nat) : Int) ≥ (l.length : Int)
    · rw [rd_over (by omega)]
      exact Ev_pos h2 (Ev_some (by simp))
    · obtain ⟨x, hx, hxl⟩ := limb_of h (i.toNat / 64)
      rw [hx, Int.toNat_natCast]
      exact Ev_neg h2 (Ev_pos (by omega) (Ev_pos (by omega) (Ev_in (g := fun k m _ => abacusref01_Bit.l245 k m i (x : Int) 0) (bit_l e2 _ x 0 (Nat.zero_add _) hxl hs))))
/-! ### Trail -/
theorem tz_even {x : Nat} (h0 : x ≠ 0) (h : x % 2 = 0) : tz x = tz (x / 2) + 1 := by
  obtain ⟨y, rfl⟩ : ∃ y, x = y * 2 := ⟨x / 2, by omega⟩
  rw [Nat.mul_div_cancel _ (by omega)]
  have := tz_mul_pow (n := y) (by omega) 1
  rwa [Nat.pow_one] at this
theorem tz_odd {x : Nat} (h : x % 2 = 1) : tz x = 0 := tz_eq (m := x / 2) (by rw [Nat.pow_zero]; omega)
theorem trail_in (d : Nat) : ∀ x w : Nat, tz x ≤ d → x ≠ 0 → x < 18446744073709551616 → w + d ≤ 4611686018427387904 → Ev (fun k m p => abacusref01_Trail.l53845 k (abacusref01_Trail.l53 k m) p (w : Int) (x : Int)) ((w + tz x : Nat) : Int) := by
  induction d with
  | zero =>
    intro x w h h0 hx hw
    have hodd : x % 2 = 1 := by
      rcases Nat.mod_two_eq_zero_or_one x with k | k
      · have := tz_even h0 k; omega
      · exact k
    refine Ev_succ2 ?_
    simp only [abacusref01_Trail.l53845, abacusref01_Trail.b53845, odd_w]
    exact Ev_neg (by omega) (Ev_some (by rw [tz_odd hodd, Nat.add_zero]))
  | succ d ih =>
    intro x w h h0 hx hw
    refine Ev_succ2 ?_
    simp only [abacusref01_Trail.l53845, abacusref01_Trail.b53845, odd_w]
    rcases Nat.mod_two_eq_zero_or_one x with k | k
    · have ht := tz_even h0 k
      have := ih (x / 2) (w + 1) (by omega) (by omega) (by omega) (by omega)
      rw [show w + 1 + tz (x / 2) = w + tz x by omega] at this
      rw [half_w hx, up_w (by omega)]
      exact Ev_pos (by omega) this
    · exact Ev_neg (by omega) (Ev_some (by rw [tz_odd k, Nat.add_zero]))
theorem trail_l {l : List Int} (h : ok l) (hl : l.length ≤ 35184372088832) (d : Nat) : ∀ i : Nat, i + d = l.length → val (l.take i) = 0 → Ev (fun k m _ => abacusref01_Trail.l53 k m l (i : Int)) ((tz (val l) : Nat) : Int) := by
  induction d with
  | zero =>
    intro i hi hv
    refine Ev_succ ?_
    simp only [abacusref01_Trail.l53, abacusref01_Trail.b53, ln_eq]
    refine Ev_neg (by omega) (Ev_some ?_)
    rw [val_take_all l (by omega)] at hv
    rw [hv]; rfl
  | succ d ih =>
    intro i hi hv
    have ilt : i < l.length := by omega
    obtain ⟨x, hx, hxl⟩ := limb_of h i
    refine Ev_succ ?_
    simp only [abacusref01_Trail.l53, abacusref01_Trail.b53, ln_eq, up_w (x := i) (by omega), hx]
    refine Ev_pos (by omega) (Ev_pos (by omega) (Ev_pos (by omega) ?_))
    by_cases hr : x = 0
    · refine Ev_neg (fun k => k (by omega)) (ih (i + 1) (by omega) ?_)
      rw [val_take_succ, hv, hx, hr]; rfl
    · have h1 := val_split l i
      rw [hv, Nat.min_eq_left (by omega), val_drop_cons l i ilt, Nat.zero_add, hx, Int.toNat_natCast] at h1
      have h2 := tz_low (i := i) (r := x) (rest := val (l.drop (i + 1))) hr hxl
      obtain ⟨h3, h4⟩ := tz_limb (x := x) hr hxl
      rw [h3] at h2 h4
      rw [← h1] at h2
      clear h1
      have w : wrap64 (64 * (i : Int)) = ((64 * i : Nat) : Int) := by unfold wrap64; omega
      rw [w, h2]
      refine Ev_pos (fun k => hr (Int.ofNat_inj.1 k)) (Ev_pos (Int.natCast_nonneg _) (Ev_pos (Int.ofNat_lt.2 ilt) ?_))
      exact Ev_in2 (g := fun k m p => abacusref01_Trail.l53845 k (abacusref01_Trail.l53 k m) p ((64 * i : Nat) : Int) (x : Int)) (trail_in 64 x (64 * i) (by omega) hr hxl (by omega))
theorem rTrail_ev {l : List Int} (h : ok l) (hl : l.length ≤ 35184372088832) : Ev (fun k _ _ => abacusref01_Trail.f k l) ((tz (val l) : Nat) : Int) := by
  simp only [abacusref01_Trail.f, abacusref01_Trail.b0, ln_eq]
  exact Ev_in (g := fun k q _ => abacusref01_Trail.l53 k q l 0) (trail_l h hl l.length 0 (by omega) (by simp [val_nil]))
/-! ### Round -/
/-- n moved down by j digits (up, if j is below 0). -/
def cutAt (n : Nat) (j : Int) : Nat := if j < 0 then n * 2 ^ (-j).toNat else n / 2 ^ j.toNat
theorem cut_next (n : Nat) (j : Int) : cutAt n j = 2 * cutAt n (j + 1) + bitAt n j := by
  unfold cutAt bitAt
  by_cases h : j < 0
  · rw [if_pos h, if_pos h]
    by_cases h1 : j + 1 < 0
    · rw [if_pos h1, show (-j).toNat = (-(j + 1)).toNat + 1 by omega, Nat.pow_succ]
      simp only [Nat.mul_assoc, Nat.mul_comm, Nat.mul_left_comm, Nat.add_zero]
    · rw [if_neg h1, show (-j).toNat = 1 by omega, show (j + 1).toNat = 0 by omega, Nat.pow_zero, Nat.div_one, Nat.pow_one]
      omega
  · rw [if_neg h, if_neg h, if_neg (by omega), show (j + 1).toNat = j.toNat + 1 by omega, Nat.pow_succ, ← Nat.div_div_eq_div_mul]
    omega
theorem cut_top {n : Nat} {j : Int} (h : (blen n : Int) ≤ j) : cutAt n j = 0 := by
  unfold cutAt
  rw [if_neg (by omega)]
  exact Nat.div_eq_of_lt (Nat.lt_of_lt_of_le (blen_lt n) (Nat.pow_le_pow_right (by omega) (by omega)))
theorem cut_lt {n : Nat} {j : Int} (h : (blen n : Int) - 53 ≤ j) : cutAt n j < 9007199254740992 := by
  unfold cutAt
  by_cases h1 : j < 0
  · rw [if_pos h1]
    have h2 := blen_lt n
    have h3 : n * 2 ^ (-j).toNat < 2 ^ blen n * 2 ^ (-j).toNat := Nat.mul_lt_mul_of_pos_right h2 (Nat.pow_pos (by omega))
    rw [← Nat.pow_add] at h3
    have h4 : 2 ^ (blen n + (-j).toNat) ≤ 2 ^ 53 := Nat.pow_le_pow_right (by omega) (by omega)
    exact Nat.lt_of_lt_of_le h3 h4
  · rw [if_neg h1]
    exact mag_quot (by omega)
theorem cut_ge {n : Nat} {j : Int} (hn : n ≠ 0) (h : (blen n : Int) - 53 = j) : 4503599627370496 ≤ cutAt n j := by
  unfold cutAt
  have h2 := blen_ge hn
  have h0 := blen_pos.2 hn
  by_cases h1 : j < 0
  · rw [if_pos h1]
    have h3 : 2 ^ (blen n - 1) * 2 ^ (-j).toNat ≤ n * 2 ^ (-j).toNat := Nat.mul_le_mul_right _ h2
    rw [← Nat.pow_add, show blen n - 1 + (-j).toNat = 52 by omega] at h3
    exact h3
  · rw [if_neg h1, Nat.le_div_iff_mul_le (Nat.pow_pos (by omega))]
    have h3 : 4503599627370496 * 2 ^ j.toNat = 2 ^ (blen n - 1) := by
      rw [show (4503599627370496 : Nat) = 2 ^ 52 from rfl, ← Nat.pow_add]; congr 1; omega
    rw [h3]
    exact h2
theorem bit_le (n : Nat) (i : Int) : bitAt n i ≤ 1 := by unfold bitAt; split <;> omega
theorem dig_w {m b : Nat} (h : m < 9007199254740992) (hb : b ≤ 1) : IntKind.u64.wrap (IntKind.u64.wrap (2 * (m : Int)) + IntKind.u64.wrap (b : Int)) = ((2 * m + b : Nat) : Int) := by
  rw [IntKind.wrap_u64, IntKind.wrap_u64, IntKind.wrap_u64]; omega
theorem rput_eq (s : Bool) {E f : Nat} {x y : Int} (hx : x = (E : Int)) (hy : y = (f : Int)) (hE : E ≤ 2047) (hf : f ≤ 9007199254740992) (h : E * 4503599627370496 + f ≤ inf) : abacusref04_put.f s x y = some (put s (E * 4503599627370496 + f)) := by
  subst hx hy
  unfold abacusref04_put.f abacusref04_put.b0 put
  have w : IntKind.u64.wrap (IntKind.u64.wrap (IntKind.u64.wrap (E : Int) * 4503599627370496) + (f : Int)) = ((E * 4503599627370496 + f : Nat) : Int) := by
    rw [IntKind.wrap_u64, IntKind.wrap_u64, IntKind.wrap_u64]; omega
  rw [w]
  cases s with
  | true =>
    rw [if_pos rfl, if_pos rfl]
    refine congrArg some ?_
    rw [IntKind.wrap_u64]
    unfold inf at h
    omega
  | false => rw [if_neg (by simp), if_neg (by simp)]
/-- Whether the fourth reference's rounding goes up. -/
def goesUp (n : Nat) (e u : Int) (more : Bool) (m : Nat) : Prop := bitAt n (u - 1 - e) = 1 ∧ (((tz n : Nat) : Int) + e < u - 1 ∨ more = true ∨ m % 2 = 1)
theorem rnd_cut {n : Nat} {e : Int} {more : Bool} (hn : n ≠ 0) (h1 : ¬ (blen n : Int) + e > 1024) :
    ∃ i : Nat, i ≤ 1 ∧ (i = 1 ↔ goesUp n e (unitOf n e) more (cutAt n (unitOf n e - e))) ∧ rnd n e more = (unitOf n e + 1074).toNat * 4503599627370496 + (cutAt n (unitOf n e - e) + i) := by
  have hu : -1074 ≤ unitOf n e := by unfold unitOf; split <;> omega
  by_cases h0 : (blen n : Int) + e < -1074
  · have hu : unitOf n e = -1074 := by unfold unitOf; rw [if_pos (by omega)]
    refine ⟨0, by omega, ⟨fun k => by omega, fun k => ?_⟩, ?_⟩
    · exfalso
      have k1 := k.1
      rw [hu] at k1
      unfold bitAt at k1
      rw [if_neg (by omega), Nat.div_eq_of_lt (Nat.lt_of_lt_of_le (blen_lt n) (Nat.pow_le_pow_right (by omega) (by omega)))] at k1
      omega
    · rw [hu, cut_top (by omega)]
      unfold rnd
      rw [if_pos (.inr h0)]
      rfl
  · by_cases h2 : unitOf n e ≤ e
    · refine ⟨0, by omega, ⟨fun k => by omega, fun k => ?_⟩, ?_⟩
      · exfalso
        have k1 := k.1
        unfold bitAt at k1
        rw [if_pos (by omega)] at k1
        omega
      · unfold rnd cutAt
        rw [if_neg (by omega), if_neg h1, if_pos h2]
        by_cases h3 : unitOf n e - e < 0
        · rw [if_pos h3, show (-(unitOf n e - e)).toNat = (e - unitOf n e).toNat by omega, Nat.add_zero]
        · rw [if_neg h3, show (e - unitOf n e).toNat = 0 by omega, show (unitOf n e - e).toNat = 0 by omega, Nat.pow_zero, Nat.mul_one, Nat.div_one, Nat.add_zero]
    · obtain ⟨m, hm⟩ : ∃ m : Nat, unitOf n e - e = ((m + 1 : Nat) : Int) := ⟨(unitOf n e - e - 1).toNat, by omega⟩
      have hc : cutAt n (unitOf n e - e) = n / 2 ^ (m + 1) := by unfold cutAt; rw [hm, if_neg (by omega), Int.toNat_natCast]
      have hb : bitAt n (unitOf n e - 1 - e) = n / 2 ^ m % 2 := by unfold bitAt; rw [if_neg (by omega), show (unitOf n e - 1 - e).toNat = m by omega]
      have hup : upB n (m + 1) more ↔ goesUp n e (unitOf n e) more (n / 2 ^ (m + 1)) := by
        unfold upB goesUp
        rw [hb, Nat.add_sub_cancel]
        constructor
        · rintro ⟨k1, k2⟩
          refine ⟨k1, ?_⟩
          rcases k2 with k2 | k2 | k2
          · exact .inr (.inl k2)
          · exact .inr (.inr k2)
          · exact .inl (by omega)
        · rintro ⟨k1, k2⟩
          refine ⟨k1, ?_⟩
          rcases k2 with k2 | k2 | k2
          · exact .inr (.inr (by omega))
          · exact .inl k2
          · exact .inr (.inl k2)
      refine ⟨if upB n (m + 1) more then 1 else 0, by split <;> omega, ?_, ?_⟩
      · rw [hc, ← hup]
        constructor
        · intro k
          exact Decidable.byContradiction fun g => by rw [if_neg g] at k; omega
        · intro k; rw [if_pos k]
      · rw [hc]
        unfold rnd
        rw [if_neg (by omega), if_neg h1, if_neg h2, hm, Int.toNat_natCast, Nat.add_assoc]
theorem mant_l {l : List Int} {n : Nat} {s more : Bool} {e u : Int} {R : Int × Int} (h : ok l) (hl : l.length ≤ 35184372088832) (hn : val l = n) (he : -1048576 ≤ e ∧ e ≤ 1048576) (hu : -1074 ≤ u ∧ u ≤ 971) (hb : (blen n : Int) - 53 ≤ u - e)
    (cont : Ev (fun k _ _ => abacusref04_Round.l4095 k s l e more u ((cutAt n (u - e) : Nat) : Int)) R) (d : Nat) : ∀ x : Int, x + 1 = u + (d : Int) → x ≤ 1023 →
    Ev (fun k m _ => abacusref04_Round.l32757 k m s l e more u ((cutAt n (x + 1 - e) : Nat) : Int) x) R := by
  induction d with
  | zero =>
    intro x hx _
    refine Ev_succ ?_
    simp only [abacusref04_Round.l32757, abacusref04_Round.b32757]
    rw [show x + 1 - e = u - e by omega]
    exact Ev_neg (by omega) cont
  | succ d ih =>
    intro x hx hxl
    refine Ev_succ ?_
    have hc := cut_next n (x - e)
    have hlt : cutAt n (x - e) < 9007199254740992 := cut_lt (by omega)
    have hb1 := bit_le n (x - e)
    rw [show x - e + 1 = x + 1 - e by omega] at hc
    have hm : cutAt n (x + 1 - e) < 9007199254740992 := by omega
    have bt := rBit_ev h hl (i := x - e) (by omega)
    rw [hn] at bt
    have w1 : wrap64 (x - e) = x - e := by unfold wrap64; omega
    have w2 : wrap64 (x - 1) = x - 1 := by unfold wrap64; omega
    have nx := ih (x - 1) (by omega) (by omega)
    rw [show x - 1 + 1 - e = x - e by omega, hc] at nx
    simp only [abacusref04_Round.l32757, abacusref04_Round.b32757, w1, w2]
    refine Ev_pos (by omega) (Ev.bind bt ?_)
    rw [dig_w hm hb1]
    exact nx
theorem last_ev {n : Nat} {s : Bool} {u : Int} {m : Nat} (hu : -1074 ≤ u ∧ u ≤ 971) (hm : m ≤ 9007199254740992) (hg : u = -1074 ∨ 4503599627370496 ≤ m) (hp : (u + 1074).toNat * 4503599627370496 + m ≤ inf) :
    Ev (fun k _ _ => abacusref04_Round.l32767 k s u (m : Int)) (put s ((u + 1074).toNat * 4503599627370496 + m), 0) := by
  simp only [abacusref04_Round.l32767, abacusref04_Round.b32767]
  by_cases h : m < 4503599627370496
  · have hu0 : u = -1074 := by omega
    subst hu0
    have := rput_eq s (E := 0) (f := m) (x := 0) (y := (m : Int)) rfl rfl (by omega) hm (by rw [Nat.zero_mul, Nat.zero_add]; unfold inf; omega)
    exact Ev_pos (by omega) (Ev_bind_eq this (Ev.now _))
  · have w : wrap64 (wrap64 (u + 1075) - 1) = ((u + 1074).toNat : Int) := by
      rw [show wrap64 (u + 1075) = u + 1075 by unfold wrap64; omega]; unfold wrap64; omega
    rw [w]
    have := rput_eq s (E := (u + 1074).toNat) (f := m) (x := ((u + 1074).toNat : Int)) (y := (m : Int)) rfl rfl (by omega) hm hp
    exact Ev_neg (by omega) (Ev_bind_eq this (Ev.now _))
theorem inc_w {m : Nat} (h : m < 9007199254740992) : IntKind.u64.wrap ((m : Int) + 1) = ((m + 1 : Nat) : Int) := by rw [IntKind.wrap_u64]; omega
theorem half_ev {l : List Int} {n : Nat} {s more : Bool} {e u : Int} (h : ok l) (hl : l.length ≤ 35184372088832) (hn : val l = n) (n0 : n ≠ 0) (hbl : blen n ≤ 262144) (he : -1048576 ≤ e ∧ e ≤ 1048576) (hu : u = unitOf n e) (hu2 : -1074 ≤ u ∧ u ≤ 971) (h1 : ¬ (blen n : Int) + e > 1024) :
    Ev (fun k _ _ => abacusref04_Round.l4095 k s l e more u ((cutAt n (u - e) : Nat) : Int)) (put s (rnd n e more), 0) := by
  obtain ⟨i, i1, i2, i3⟩ := rnd_cut (more := more) n0 h1
  rw [← hu] at i2 i3
  have hr := rnd_top n e more
  rw [i3] at hr ⊢
  have hcl : cutAt n (u - e) < 9007199254740992 := cut_lt (by rw [hu]; unfold unitOf; split <;> omega)
  have hcg : u = -1074 ∨ 4503599627370496 ≤ cutAt n (u - e) := by
    by_cases h2 : (blen n : Int) + e - 53 < -1074
    · exact .inl (by rw [hu]; unfold unitOf; rw [if_pos h2])
    · exact .inr (cut_ge n0 (by rw [hu]; unfold unitOf; rw [if_neg h2]; omega))
  have bt := rBit_ev h hl (i := u - 1 - e) (by omega)
  have tr := rTrail_ev h hl
  rw [hn] at bt tr
  have ht : tz n ≤ 262144 := by
    obtain ⟨y, hy⟩ := tz_spec n0
    have : 2 ^ tz n ≤ n := by
      have h5 : 2 ^ tz n * 1 ≤ 2 ^ tz n * (2 * y + 1) := Nat.mul_le_mul_left _ (by omega)
      rw [← hy, Nat.mul_one] at h5
      exact h5
    have h6 := blen_mono this
    rw [blen_two_pow] at h6
    omega
  have w1 : wrap64 (wrap64 (u - 1) - e) = u - 1 - e := by
    rw [show wrap64 (u - 1) = u - 1 by unfold wrap64; omega]; unfold wrap64; omega
  have w2 : wrap64 (((tz n : Nat) : Int) + e) = ((tz n : Nat) : Int) + e := by unfold wrap64; omega
  have w3 : wrap64 (u - 1) = u - 1 := by unfold wrap64; omega
  simp only [abacusref04_Round.l4095, abacusref04_Round.b4095, w1]
  refine Ev.bind bt (Ev.bind tr ?_)
  rw [w2, w3, odd_w, inc_w hcl]
  have up (g : goesUp n e u more (cutAt n (u - e))) : Ev (fun k _ _ => abacusref04_Round.l32767 k s u ((cutAt n (u - e) + 1 : Nat) : Int)) (put s ((u + 1074).toNat * 4503599627370496 + (cutAt n (u - e) + i)), 0) := by
    have hi : i = 1 := i2.2 g
    rw [hi] at hr ⊢
    exact last_ev (n := n) hu2 (by omega) (by omega) hr
  have dn (g : ¬ goesUp n e u more (cutAt n (u - e))) : Ev (fun k _ _ => abacusref04_Round.l32767 k s u ((cutAt n (u - e) : Nat) : Int)) (put s ((u + 1074).toNat * 4503599627370496 + (cutAt n (u - e) + i)), 0) := by
    have hi : i = 0 := by
      have : ¬ i = 1 := fun k => g (i2.1 k)
      omega
    rw [hi, Nat.add_zero] at hr ⊢
    exact last_ev (n := n) hu2 (by omega) hcg hr
  clear i2 i3 hr
  by_cases g1 : bitAt n (u - 1 - e) = 1
  · refine Ev_pos (congrArg _ g1) ?_
    by_cases g2 : ((tz n : Nat) : Int) + e < u - 1
    · exact Ev_pos g2 (up ⟨g1, .inl g2⟩)
    · refine Ev_neg g2 ?_
      by_cases g3 : more = true
      · exact Ev_pos g3 (up ⟨g1, .inr (.inl g3)⟩)
      · refine Ev_neg g3 ?_
        by_cases g4 : cutAt n (u - e) % 2 = 1
        · exact Ev_pos (congrArg _ g4) (up ⟨g1, .inr (.inr g4)⟩)
        · exact Ev_neg (fun k => g4 (Int.ofNat_inj.1 k)) (dn (fun g => g.2.elim g2 (fun k => k.elim g3 g4)))
  · exact Ev_neg (fun k => g1 (Int.ofNat_inj.1 k)) (dn (fun g => g1 g.1))
theorem rput_zero (s : Bool) : abacusref04_put.f s 0 0 = some (put s 0) := rput_eq s (E := 0) (f := 0) rfl rfl (by decide) (by decide) (by decide)
theorem rput_inf (s : Bool) : abacusref04_put.f s 2047 0 = some (put s inf) := rput_eq s (E := 2047) (f := 0) rfl rfl (by decide) (by decide) (by decide)
theorem rRound_ev {l : List Int} {s more : Bool} {e : Int} (h : ok l) (hl : l.length ≤ 35184372088832) (he : -9223372036854775808 ≤ e ∧ e < 9223372036854775808) :
    Ev (fun k _ _ => abacusref04_Round.f k s l e more) (if val l < B 4096 then (put s (rnd (val l) e more), 0) else (0, 2)) := by
  have hle := lim_len_val_le h
  have lb := lim_len_le (val l) 4096
  have bg : Ev (fun n _ _ => abacusref01_Big.f n l) (decide ((((lim (val l)).length : Nat) : Int) > 4096)) := by
    simp only [abacusref01_Big.f, abacusref01_Big.b0]
    exact Ev.bind (abacusref01_Size_ev h (by omega)) (Ev.now _)
  simp only [abacusref04_Round.f, abacusref04_Round.b0]
  by_cases hB : val l < B 4096
  · rw [if_pos hB]
    have hlen := lb.2 hB
    rw [decide_eq_false (show ¬ (((lim (val l)).length : Nat) : Int) > 4096 by omega)] at bg
    have hbl : blen (val l) ≤ 262144 := blen_limit hB
    refine Ev.bind bg (Ev_neg (by simp) (Ev.bind (rBitLen_ev h hl) ?_))
    by_cases n0 : val l = 0
    · rw [n0, show rnd 0 e more = 0 from by unfold rnd; rw [if_pos (.inl rfl)]]
      exact Ev_pos rfl (Ev_bind_eq (rput_zero s) (Ev.now _))
    have b0 := blen_pos.2 n0
    refine Ev_neg (by omega) ?_
    by_cases e1 : e < -1048576
    · rw [show rnd (val l) e more = 0 from by unfold rnd; rw [if_pos (.inr (by omega))]]
      exact Ev_pos e1 (Ev_bind_eq (rput_zero s) (Ev.now _))
    refine Ev_neg e1 ?_
    by_cases e2 : e > 1048576
    · rw [show rnd (val l) e more = inf from by unfold rnd; rw [if_neg (by omega), if_pos (by omega)]; rfl]
      exact Ev_pos e2 (Ev_bind_eq (rput_inf s) (Ev.now _))
    refine Ev_neg e2 ?_
    have w1 : wrap64 (wrap64 (((blen (val l) : Nat) : Int) - 1) + e) = ((blen (val l) : Nat) : Int) - 1 + e := by
      rw [show wrap64 (((blen (val l) : Nat) : Int) - 1) = ((blen (val l) : Nat) : Int) - 1 by unfold wrap64; omega]; unfold wrap64; omega
    rw [w1]
    by_cases e3 : ((blen (val l) : Nat) : Int) - 1 + e > 1023
    · rw [show rnd (val l) e more = inf from by unfold rnd; rw [if_neg (by omega), if_pos (by omega)]; rfl]
      exact Ev_pos e3 (Ev_bind_eq (rput_inf s) (Ev.now _))
    refine Ev_neg e3 ?_
    have w2 : wrap64 (((blen (val l) : Nat) : Int) - 1 + e - 52) = ((blen (val l) : Nat) : Int) + e - 53 := by unfold wrap64; omega
    rw [w2]
    have main (u : Int) (hu : u = unitOf (val l) e) (hu2 : -1074 ≤ u ∧ u ≤ 971) : Ev (fun k _ _ => abacusref04_Round.l1023 k s l e more (((blen (val l) : Nat) : Int) - 1 + e) u) (put s (rnd (val l) e more), 0) := by
      have cont := half_ev (s := s) (more := more) h hl rfl n0 hbl (e := e) ⟨by omega, by omega⟩ hu hu2 (by omega)
      have hge : ((blen (val l) : Nat) : Int) - 53 ≤ u - e := by rw [hu]; unfold unitOf; split <;> omega
      simp only [abacusref04_Round.l1023, abacusref04_Round.b1023]
      by_cases ht : u ≤ ((blen (val l) : Nat) : Int) - 1 + e
      · have := mant_l h hl rfl ⟨by omega, by omega⟩ hu2 hge cont (((blen (val l) : Nat) : Int) + e - u).toNat (((blen (val l) : Nat) : Int) - 1 + e) (by omega) (by omega)
        rw [cut_top (show ((blen (val l) : Nat) : Int) ≤ ((blen (val l) : Nat) : Int) - 1 + e + 1 - e by omega)] at this
        exact Ev_in (g := fun k m _ => abacusref04_Round.l32757 k m s l e more u 0 (((blen (val l) : Nat) : Int) - 1 + e)) this
      · have z : cutAt (val l) (u - e) = 0 := cut_top (by omega)
        rw [z] at cont
        refine Ev_in (g := fun k m _ => abacusref04_Round.l32757 k m s l e more u 0 (((blen (val l) : Nat) : Int) - 1 + e)) (Ev_succ ?_)
        simp only [abacusref04_Round.l32757, abacusref04_Round.b32757]
        exact Ev_neg (by omega) cont
    by_cases e4 : ((blen (val l) : Nat) : Int) + e - 53 < -1074
    · exact Ev_pos e4 (main (-1074) (by unfold unitOf; rw [if_pos e4]) (by omega))
    · exact Ev_neg e4 (main _ (by unfold unitOf; rw [if_neg e4]) (by omega))
  · rw [if_neg hB]
    have : ¬ (lim (val l)).length ≤ 4096 := fun k => hB (lb.1 k)
    rw [decide_eq_true (show (((lim (val l)).length : Nat) : Int) > 4096 by omega)] at bg
    exact Ev.bind bg (Ev_pos rfl (Ev.now _))
end Go.Proofs.YtobocamcoaeliaaGreatDoor.R4
