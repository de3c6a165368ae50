/- The first reference: lengths and digits in bits, Drop. Conditions: lists of limbs below 2^64, of lengths that a slice has. -/
import Derived.Test.YtlnfgcnagfdliaaDoorQR1c
namespace Go.Proofs.YtlnfgcnagfdliaaDoor.R4
open Go.RowKit Go.Proofs.YtlnfgcnagfdliaaDoor.Lib Go.Proofs.YtlnfgcnagfdliaaDoor.LibB Go.Proofs.YtlnfgcnagfdliaaDoor.F Go.Proofs.YtlnfgcnagfdliaaDoor.Nat1 Go.Proofs.YtlnfgcnagfdliaaDoor.Nat2 Go.Proofs.YtlnfgcnagfdliaaDoor.Bits Go.Proofs.YtlnfgcnagfdliaaDoor.R1
open Go.Proofs.YtlnfgcnagfdliaaDoorA (rd ln ln_eq mx mn shl shr wr wr_eq)
set_option linter.unusedVariables false
set_option linter.unusedSimpArgs false
theorem limb_of {l : List Int} (h : ok l) (i : Nat) : ∃ p : Nat, rd l (i : Int) = (p : Int) ∧ p < 18446744073709551616 := by
  have := ok_rd h (i : Int)
  exact ⟨(rd l (i : Int)).toNat, by omega, by omega⟩
theorem half_w {x : Nat} (h : x < 18446744073709551616) : IntKind.u64.wrap (Int.tdiv (x : Int) 2) = ((x / 2 : Nat) : Int) := by
  rw [Int.tdiv_eq_ediv_of_nonneg (by omega), IntKind.wrap_u64]; omega
theorem odd_w (x : Nat) : Int.tmod (x : Int) 2 = ((x % 2 : Nat) : Int) := by
  rw [Int.tmod_eq_emod_of_nonneg (by omega)]; omega
theorem up_w {x : Nat} (h : x ≤ 4611686018427387904) : wrap64 ((x : Int) + 1) = ((x + 1 : Nat) : Int) := by unfold wrap64; omega
/-! ### BitLen -/
theorem blen_half {x : Nat} (h : x ≠ 0) : blen x = blen (x / 2) + 1 := by
  refine Nat.le_antisymm ((blen_le _ _).2 ?_) ?_
  · have := blen_lt (x / 2)
    rw [Nat.pow_succ]; omega
  · have h1 := blen_lt x
    have h2 := blen_pos.2 h
    obtain ⟨b, hb⟩ : ∃ b, blen x = b + 1 := ⟨blen x - 1, by omega⟩
    rw [hb, Nat.pow_succ] at h1
    have := (blen_le (x / 2) b).2 (by omega)
    omega
theorem bitlen_l (d : Nat) : ∀ x w : Nat, blen x ≤ d → x < 18446744073709551616 → w + d ≤ 4611686018427387904 → Ev (fun k m _ => abacusref01_BitLen.l501 k m (w : Int) (x : Int)) ((w + blen x : Nat) : Int) := by
  induction d with
  | zero =>
    intro x w h _ _
    have x0 : x = 0 := Decidable.byContradiction fun k => absurd (blen_pos.2 k) (by omega)
    subst x0
    refine Ev_succ ?_
    simp only [abacusref01_BitLen.l501, abacusref01_BitLen.b501]
    exact Ev_neg (by decide) (Ev_some rfl)
  | succ d ih =>
    intro x w h hx hw
    refine Ev_succ ?_
    simp only [abacusref01_BitLen.l501, abacusref01_BitLen.b501]
    by_cases x0 : x = 0
    · subst x0
      exact Ev_neg (by decide) (Ev_some rfl)
    · have hb := blen_half x0
      have := ih (x / 2) (w + 1) (by omega) (by omega) (by omega)
      rw [half_w hx, up_w (by omega)]
      rw [show w + 1 + blen (x / 2) = w + blen x by omega] at this
      exact Ev_pos (by omega) this
theorem rBitLen_ev {l : List Int} (h : ok l) (hl : l.length ≤ 35184372088832) : Ev (fun k _ _ => abacusref01_BitLen.f k l) ((blen (val l) : Nat) : Int) := by
  simp only [abacusref01_BitLen.f, abacusref01_BitLen.b0, ln_eq]
  refine Ev.bind (abacusref01_Size_ev h (by omega)) ?_
  have hz := @lim_len_zero (val l)
  have hn := lim_len_val_le h
  by_cases h0 : val l = 0
  · refine Ev_pos (by omega) (Ev_some ?_)
    rw [h0]; rfl
  · obtain ⟨n, hln⟩ : ∃ n, (lim (val l)).length = n + 1 := ⟨(lim (val l)).length - 1, by omega⟩
    rw [hln]
    have e : wrap64 (((n + 1 : Nat) : Int) - 1) = (n : Int) := by unfold wrap64; omega
    rw [e]
    refine Ev_neg (by omega) (Ev_pos (by omega) (Ev_pos (by omega) ?_))
    have hr := rd_top h (i := n) (by omega)
    have ht := rd_lim_last (val l) h0
    rw [hln, Nat.add_sub_cancel] at ht
    obtain ⟨x, hx, hxl⟩ := limb_of (ok_lim (val l)) n
    rw [hr, hx]
    rw [hx] at ht
    have h1 := val_take_succ (lim (val l)) n
    rw [val_take_all _ (by omega), val_lim, hx, Int.toNat_natCast] at h1
    have h2 := val_lt (ok_take (ok_lim (val l)) n)
    rw [List.length_take, hln, Nat.min_eq_left (by omega)] at h2
    have h3 := blen_high h2 (r := x) (by omega)
    rw [← h1] at h3
    have h5 : blen x ≤ 64 := (blen_le x 64).2 (by omega)
    have h6 : n ≤ 35184372088832 := by omega
    have w : wrap64 (64 * (n : Int)) = ((64 * n : Nat) : Int) := by unfold wrap64; omega
    rw [w, h3]
    exact Ev_in (g := fun k m _ => abacusref01_BitLen.l501 k m ((64 * n : Nat) : Int) (x : Int)) (bitlen_l 64 x (64 * n) h5 hxl (by omega))
/-! ### Bit -/
theorem bit_l {i : Int} {s : Nat} (hs : Int.tmod i 64 = (s : Int)) (d : Nat) : ∀ x j : Nat, j + d = s → x < 18446744073709551616 → s < 64 → Ev (fun k m _ => abacusref01_Bit.l245 k m i (x : Int) (j : Int)) ((x / 2 ^ d % 2 : Nat) : Int) := by
  induction d with
  | zero =>
    intro x j hj hx hs64
    refine Ev_succ ?_
    simp only [abacusref01_Bit.l245, abacusref01_Bit.b245, hs, odd_w]
    refine Ev_neg (by omega) (Ev_some ?_)
    rw [Nat.pow_zero, Nat.div_one]
    unfold wrap64; omega
  | succ d ih =>
    intro x j hj hx hs64
    refine Ev_succ ?_
    simp only [abacusref01_Bit.l245, abacusref01_Bit.b245, hs, half_w hx, up_w (x := j) (by omega)]
    have := ih (x / 2) (j + 1) (by omega) (by omega) hs64
    rw [Nat.div_div_eq_div_mul, ← Nat.pow_succ'] at this
    exact Ev_pos (by omega) this
def bitAt (n : Nat) (i : Int) : Nat := if i < 0 then 0 else n / 2 ^ i.toNat % 2
theorem rBit_ev {l : List Int} (h : ok l) (hl : l.length ≤ 35184372088832) {i : Int} (h1 : i < 9223372036854775808) : Ev (fun k _ _ => abacusref01_Bit.f k l i) ((bitAt (val l) i : Nat) : Int) := by
  simp only [abacusref01_Bit.f, abacusref01_Bit.b0, ln_eq]
  unfold bitAt
  by_cases h0 : i < 0
  · rw [if_pos h0]
    exact Ev_pos h0 (Ev.now _)
  · rw [if_neg h0]
    refine Ev_neg h0 ?_
    have e1 := (nat_parts i (by omega) h1).1
    have e2 : Int.tmod i 64 = ((i.toNat % 64 : Nat) : Int) := by rw [Int.tmod_eq_emod_of_nonneg (by omega)]; omega
    rw [e1]
    have hs : i.toNat % 64 < 64 := Nat.mod_lt _ (by omega)
    have hb := bit_val h (i.toNat / 64) (i.toNat % 64) hs
    rw [Nat.div_add_mod] at hb
    rw [hb]
    by_cases h2 : ((i.toNat / 64 : Nat) : Int) ≥ (l.length : Int)
    · rw [rd_over (by omega)]
      exact Ev_pos h2 (Ev_some (by simp))
    · obtain ⟨x, hx, hxl⟩ := limb_of h (i.toNat / 64)
      rw [hx, Int.toNat_natCast]
      exact Ev_neg h2 (Ev_pos (by omega) (Ev_pos (by omega) (Ev_in (g := fun k m _ => abacusref01_Bit.l245 k m i (x : Int) 0) (bit_l e2 _ x 0 (Nat.zero_add _) hxl hs))))
/-! ### Trail -/
theorem tz_even {x : Nat} (h0 : x ≠ 0) (h : x % 2 = 0) : tz x = tz (x / 2) + 1 := by
  obtain ⟨y, rfl⟩ : ∃ y, x = y * 2 := ⟨x / 2, by omega⟩
  rw [Nat.mul_div_cancel _ (by omega)]
  have := tz_mul_pow (n := y) (by omega) 1
  rwa [Nat.pow_one] at this
theorem tz_odd {x : Nat} (h : x % 2 = 1) : tz x = 0 := tz_eq (m := x / 2) (by rw [Nat.pow_zero]; omega)
theorem trail_in (d : Nat) : ∀ x w : Nat, tz x ≤ d → x ≠ 0 → x < 18446744073709551616 → w + d ≤ 4611686018427387904 → Ev (fun k m p => abacusref01_Trail.l53845 k (abacusref01_Trail.l53 k m) p (w : Int) (x : Int)) ((w + tz x : Nat) : Int) := by
  induction d with
  | zero =>
    intro x w h h0 hx hw
    have hodd : x % 2 = 1 := by
      rcases Nat.mod_two_eq_zero_or_one x with k | k
      · have := tz_even h0 k; omega
      · exact k
    refine Ev_succ2 ?_
    simp only [abacusref01_Trail.l53845, abacusref01_Trail.b53845, odd_w]
    exact Ev_neg (by omega) (Ev_some (by rw [tz_odd hodd, Nat.add_zero]))
  | succ d ih =>
    intro x w h h0 hx hw
    refine Ev_succ2 ?_
    simp only [abacusref01_Trail.l53845, abacusref01_Trail.b53845, odd_w]
    rcases Nat.mod_two_eq_zero_or_one x with k | k
    · have ht := tz_even h0 k
      have := ih (x / 2) (w + 1) (by omega) (by omega) (by omega) (by omega)
      rw [show w + 1 + tz (x / 2) = w + tz x by omega] at this
      rw [half_w hx, up_w (by omega)]
      exact Ev_pos (by omega) this
    · exact Ev_neg (by omega) (Ev_some (by rw [tz_odd k, Nat.add_zero]))
theorem trail_l {l : List Int} (h : ok l) (hl : l.length ≤ 35184372088832) (d : Nat) : ∀ i : Nat, i + d = l.length → val (l.take i) = 0 → Ev (fun k m _ => abacusref01_Trail.l53 k m l (i : Int)) ((tz (val l) : Nat) : Int) := by
  induction d with
  | zero =>
    intro i hi hv
    refine Ev_succ ?_
    simp only [abacusref01_Trail.l53, abacusref01_Trail.b53, ln_eq]
    refine Ev_neg (by omega) (Ev_some ?_)
    rw [val_take_all l (by omega)] at hv
    rw [hv]; rfl
  | succ d ih =>
    intro i hi hv
    have ilt : i < l.length := by omega
    obtain ⟨x, hx, hxl⟩ := limb_of h i
    refine Ev_succ ?_
    simp only [abacusref01_Trail.l53, abacusref01_Trail.b53, ln_eq, up_w (x := i) (by omega), hx]
    refine Ev_pos (by omega) (Ev_pos (by omega) (Ev_pos (by omega) ?_))
    by_cases hr : x = 0
    · refine Ev_neg (fun k => k (by omega)) (ih (i + 1) (by omega) ?_)
      rw [val_take_succ, hv, hx, hr]; rfl
    · have h1 := val_split l i
      rw [hv, Nat.min_eq_left (by omega), val_drop_cons l i ilt, Nat.zero_add, hx, Int.toNat_natCast] at h1
      have h2 := tz_low (i := i) (r := x) (rest := val (l.drop (i + 1))) hr hxl
      obtain ⟨h3, h4⟩ := tz_limb (x := x) hr hxl
      rw [h3] at h2 h4
      rw [← h1] at h2
      clear h1
      have w : wrap64 (64 * (i : Int)) = ((64 * i : Nat) : Int) := by unfold wrap64; omega
      rw [w, h2]
      refine Ev_pos (fun k => hr (Int.ofNat_inj.1 k)) (Ev_pos (Int.natCast_nonneg _) (Ev_pos (Int.ofNat_lt.2 ilt) ?_))
      exact Ev_in2 (g := fun k m p => abacusref01_Trail.l53845 k (abacusref01_Trail.l53 k m) p ((64 * i : Nat) : Int) (x : Int)) (trail_in 64 x (64 * i) (by omega) hr hxl (by omega))
theorem rTrail_ev {l : List Int} (h : ok l) (hl : l.length ≤ 35184372088832) : Ev (fun k _ _ => abacusref01_Trail.f k l) ((tz (val l) : Nat) : Int) := by
  simp only [abacusref01_Trail.f, abacusref01_Trail.b0, ln_eq]
  exact Ev_in (g := fun k q _ => abacusref01_Trail.l53 k q l 0) (trail_l h hl l.length 0 (by omega) (by simp [val_nil]))
/-! ### Round -/
/-- n moved down by j digits (up, if j is below 0). -/
theorem v32_set_drop (s : List Int) (k : Nat) (x : Int) (h : k < s.length) : v32 ((s.set k x).drop k) = x.toNat + 4294967296 * v32 (s.drop (k + 1)) := by
  rw [v32_drop_cons _ _ (by rw [List.length_set]; exact h)]
  have h1 : rd (s.set k x) (k : Int) = x := by
    simp only [rd, Int.toNat_natCast, List.getD_eq_getElem?_getD]
    rw [List.getElem?_set_self h]; rfl
  have h2 : (s.set k x).drop (k + 1) = s.drop (k + 1) := by rw [List.drop_set, if_pos (by omega)]
  rw [h1, h2]
theorem quo_step {V F r g t q r' W : Nat} (h : V * F + r = W) (ht : t = r * 4294967296 + g) (hq : t = F * q + r') : (q + 4294967296 * V) * F + r' = g + 4294967296 * W := by
  subst h
  have e : 4294967296 * (V * F + r) = 4294967296 * V * F + r * 4294967296 := by rw [Nat.mul_add, Nat.mul_assoc, Nat.mul_comm 4294967296 r]
  rw [e, Nat.add_mul, Nat.mul_comm q F]
  omega
theorem quo_lt {F r g : Nat} (hr : r < F) (hg : g < 4294967296) : (r * 4294967296 + g) / F < 4294967296 := by
  refine Nat.div_lt_of_lt_mul ?_
  have : (r + 1) * 4294967296 ≤ F * 4294967296 := Nat.mul_le_mul_right _ hr
  omega
theorem quo_top {A Hq F W V r : Nat} (hA : A < Hq) (hF : 0 < F) (hr : r < F) (h : V * F + r = W) : (A + Hq * W) / (Hq * F) = V := by
  rw [← Nat.div_div_eq_div_mul, Nat.add_mul_div_left _ _ (by omega), Nat.div_eq_of_lt hA, Nat.zero_add, ← h, Nat.mul_comm, Nat.mul_add_div hF, Nat.div_eq_of_lt hr, Nat.add_zero]
theorem Drop_evS {a : List Int} {n : Nat} (ha : ok a) (hla : Sz a) (hn : n ≤ 1099511627776) : Ev (fun k _ _ => abacusref01_Drop.f k a (n : Int)) (lim (val a / 2 ^ n)) := by
  obtain ⟨x, ex, dx, lx⟩ := halves_evS ha hla
  simp only [abacusref01_Drop.f, abacusref01_Drop.b0, ln_eq]
  refine Ev.bind ex ?_
  obtain ⟨q, hq⟩ : ∃ q, q = n / 32 := ⟨_, rfl⟩
  obtain ⟨f, hf⟩ : ∃ f, f = n % 32 := ⟨_, rfl⟩
  have t1 : wrap64 (Int.tdiv (n : Int) 32) = (q : Int) := by rw [Int.tdiv_eq_ediv_of_nonneg (by omega)]; unfold wrap64; omega
  have t2 : Int.tmod (n : Int) 32 = (f : Int) := by rw [Int.tmod_eq_emod_of_nonneg (by omega)]; omega
  have hf32 : f < 32 := by omega
  have bq : q ≤ 34359738368 := by omega
  have hpow : Aside0 (2 ^ n = H q * 2 ^ f) := ⟨by rw [H_two, ← Nat.pow_add]; congr 1; omega⟩
  obtain ⟨F, hF⟩ : ∃ F, F = 2 ^ f := ⟨_, rfl⟩
  have hF1 : F ≤ 2147483648 := by rw [hF]; exact two31 (by omega)
  have hF0 : 0 < F := by rw [hF]; exact Nat.pow_pos (by omega)
  rw [t1]
  clear hq hf hn
  by_cases hge : (q : Int) ≥ (x.length : Int)
  · refine Ev_pos hge (Ev_some ?_)
    have h1 : val a < 2 ^ n := by
      rw [hpow.out, ← dx.v]
      have h2 := v32_lt dx.dig
      have h3 := H_mono (show x.length ≤ q by omega)
      have h4 : H q ≤ H q * 2 ^ f := Nat.le_mul_of_pos_right _ (Nat.pow_pos (by omega))
      omega
    rw [Nat.div_eq_of_lt h1, lim_zero]
  refine Ev_neg hge (Ev_in (g := fun k m _ => abacusref01_Drop.l1013 k m (n : Int) x (q : Int) 1 0) ?_)
  have hqx : q < x.length := by omega
  obtain ⟨L, hL⟩ : ∃ L, x.length = q + L := ⟨x.length - q, by omega⟩
  -- the digits, the highest first
  have go (d : Nat) : ∀ (r : Nat) (s : List Int), d ≤ L → s.length = L → ok32 s → r < F → Aside0 (v32 (s.drop d) * F + r = v32 (x.drop (q + d))) →
      Ev (fun k m _ => abacusref01_Drop.l8181 k m x (q : Int) (F : Int) (r : Int) ((q : Int) + (d : Int) - 1) s) (lim (val a / 2 ^ n)) := by
    induction d with
    | zero =>
      intro r s hd hl hk hr hv
      refine Ev_succ ?_
      simp only [abacusref01_Drop.l8181, abacusref01_Drop.b8181, abacusref01_Drop.l1023, abacusref01_Drop.b1023, ln_eq]
      have := limbs_ev hk (by omega)
      have hv := hv.out
      rw [List.drop_zero, Nat.add_zero] at hv
      have e : val a / 2 ^ n = v32 s := by
        rw [hpow.out, ← hF, ← dx.v, v32_split x q, Nat.min_eq_left (Nat.le_of_lt hqx)]
        refine quo_top ?_ hF0 hr hv
        have := v32_lt (ok32_take dx.dig q)
        rwa [List.length_take, Nat.min_eq_left (Nat.le_of_lt hqx)] at this
      rw [e]
      clear hv e
      exact Ev_neg (by omega) (Ev.bind this (Ev.now _))
    | succ d ih =>
      intro r s hd hl hk hr hv
      have hix : q + d < x.length := by omega
      have hds : d < s.length := by omega
      obtain ⟨g, hg⟩ := nat_of (ok32_rd dx.dig ((q + d : Nat) : Int)).1
      have hgl := (ok32_rd dx.dig ((q + d : Nat) : Int)).2
      rw [hg] at hgl
      obtain ⟨t, ht⟩ : ∃ t, t = r * 4294967296 + g := ⟨_, rfl⟩
      have htl : t < 18446744073709551616 := by clear hv; omega
      have ei : (q : Int) + ((d + 1 : Nat) : Int) - 1 = ((q + d : Nat) : Int) := by omega
      have e1 : wrap64 (((q + d : Nat) : Int) - 1) = (q : Int) + (d : Int) - 1 := by clear hv; unfold wrap64; omega
      have e2 : wrap64 (((q + d : Nat) : Int) - (q : Int)) = (d : Int) := by clear hv; unfold wrap64; omega
      have e3 : IntKind.u64.wrap (IntKind.u64.wrap ((r : Int) * 4294967296) + (g : Int)) = (t : Int) := by
        clear hv
        rw [show (r : Int) * 4294967296 = ((r * 4294967296 : Nat) : Int) by omega, wu (by omega), show ((r * 4294967296 : Nat) : Int) + (g : Int) = (t : Int) by omega, wu htl]
      have e4 : IntKind.u64.wrap (Int.tdiv (t : Int) (F : Int)) = ((t / F : Nat) : Int) := by
        rw [Int.tdiv_eq_ediv_of_nonneg (n0 t), ← Int.natCast_ediv]
        exact wu (Nat.lt_of_le_of_lt (Nat.div_le_self _ _) htl)
      have e5 : Int.tmod (t : Int) (F : Int) = ((t % F : Nat) : Int) := by rw [Int.tmod_eq_emod_of_nonneg (n0 t), ← Int.natCast_emod]
      have q1 : t / F < 4294967296 := by rw [ht]; exact quo_lt hr (Int.ofNat_lt.1 hgl)
      have next := ih (t % F) (s.set d ((t / F : Nat) : Int)) (by omega) (by rw [List.length_set]; exact hl) (ok32_set hk _ (n0 _) (by omega)) (Nat.mod_lt _ hF0) ⟨by
        rw [v32_set_drop _ _ _ hds, Int.toNat_natCast, v32_drop_cons x (q + d) hix, hg, Int.toNat_natCast]
        exact quo_step hv.out ht (Nat.div_add_mod t F).symm⟩
      clear hv q1
      refine Ev_succ ?_
      simp only [abacusref01_Drop.l8181, abacusref01_Drop.b8181, ln_eq, ei, hg, e3, e4, e5, e2, e1, Int.toNat_natCast]
      exact Ev_pos (by omega) (Ev_pos (n0 _) (Ev_pos (nlt hix) (Ev_neg (by omega) (Ev_pos (n0 _) (Ev_pos (by omega) (Ev_neg (by omega) next))))))
  have body : Ev (fun k _ _ => abacusref01_Drop.l127 k x (q : Int) (F : Int)) (lim (val a / 2 ^ n)) := by
    simp only [abacusref01_Drop.l127, abacusref01_Drop.b127, ln_eq]
    have w1 : wrap64 ((x.length : Int) - (q : Int)) = (L : Int) := by unfold wrap64; omega
    have w2 : wrap64 ((x.length : Int) - 1) = (q : Int) + (L : Int) - 1 := by unfold wrap64; omega
    rw [w1, w2, Int.toNat_natCast]
    have := go L 0 (List.replicate L 0) (Nat.le_refl _) (List.length_replicate ..) (ok32_replicate _) hF0 ⟨by
      rw [List.drop_eq_nil_of_le (by rw [List.length_replicate]; exact Nat.le_refl _), List.drop_eq_nil_of_le (by omega), v32_nil]; simp⟩
    exact Ev_pos (n0 _) (Ev_pos (by omega) (Ev_in this))
  -- the factor
  have fac (d : Nat) : ∀ i : Nat, i + d = f → Ev (fun k m _ => abacusref01_Drop.l1013 k m (n : Int) x (q : Int) ((2 ^ i : Nat) : Int) (i : Int)) (lim (val a / 2 ^ n)) := by
    induction d with
    | zero =>
      intro i hi
      obtain rfl : i = f := by omega
      refine Ev_succ ?_
      simp only [abacusref01_Drop.l1013, abacusref01_Drop.b1013, t2, ← hF]
      exact Ev_neg (by omega) body
    | succ d ih =>
      intro i hi
      have h31 := two31 (i := i) (by omega)
      have e1 : wrap64 ((i : Int) + 1) = ((i + 1 : Nat) : Int) := wone (n := 32) (by omega) (by omega)
      have e2 : IntKind.u64.wrap (((2 ^ i : Nat) : Int) * 2) = ((2 ^ (i + 1) : Nat) : Int) := by rw [wmul2 (by omega), Nat.pow_succ]
      refine Ev_succ ?_
      simp only [abacusref01_Drop.l1013, abacusref01_Drop.b1013, t2, e1, e2]
      exact Ev_pos (by omega) (ih (i + 1) (by omega))
  exact fac f 0 (by omega)
end Go.Proofs.YtlnfgcnagfdliaaDoor.R4
