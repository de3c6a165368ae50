/- Whole numbers (in 2^-1074) that doubles hold, and sums of two of them rounded: what is lost is a double (plain laws, no program). No conditions. -/
import Derived.Test.YtobocamcoaeliaaDoorQRnd
namespace Go.Proofs.YtobocamcoaeliaaDoor.Rn
open Go.RowKit Go.Proofs.YtobocamcoaeliaaDoor.Lib Go.Proofs.YtobocamcoaeliaaDoor.LibB Go.Proofs.YtobocamcoaeliaaDoor.Rnd
open Go.Proofs.YtobocamcoaeliaaDoorA (rd ln ln_eq mx mn shl shr wr wr_eq)
set_option linter.unusedVariables false
set_option linter.unusedSimpArgs false

/-- v is a finite double's value. -/
def FF (v : Int) : Prop := ∃ p, p < inf ∧ v.natAbs = uni p
theorem two_pos (k : Nat) : 0 < 2 ^ k := Nat.pow_pos (by omega)
theorem inf_top {F : Nat} (hF : F = 2098) : uni inf = 2 ^ F := by
  obtain ⟨E, hE⟩ : ∃ E, E = 2046 := ⟨_, rfl⟩
  rw [uni_inf hE, show (4503599627370496 : Nat) = 2 ^ 52 from rfl, ← Nat.pow_add, show 52 + E = F by omega]
theorem ff_of {k F : Nat} {v : Int} (hF : F = 2098) (hd : ((2 ^ k : Nat) : Int) ∣ v) (hb : v.natAbs ≤ 9007199254740992 * 2 ^ k) (hB : v.natAbs < 2 ^ F) : FF v := by
  obtain ⟨c, hc⟩ := Int.ofNat_dvd_left.1 hd
  have fin' : ∀ {j m : Nat}, m ≤ 9007199254740992 → j ≤ 2045 → v.natAbs = m * 2 ^ j → FF v := by
    intro j m hm hj h
    obtain ⟨p, p1, p2⟩ := uni_rep j m hm hj
    refine ⟨p, uni_lt_iff.1 ?_, by rw [h, p2]⟩
    rw [p2, ← h, inf_top hF]
    exact hB
  rw [Nat.mul_comm] at hc
  by_cases hk : k ≤ 2045
  · refine fin' ?_ hk hc
    rw [hc] at hb
    exact Nat.le_of_mul_le_mul_right hb (two_pos k)
  · obtain ⟨J, hJ⟩ : ∃ J, J = 2045 := ⟨_, rfl⟩
    have e : v.natAbs = c * 2 ^ (k - J) * 2 ^ J := by rw [hc, Nat.mul_assoc, ← Nat.pow_add]; congr 2; omega
    refine fin' (j := J) ?_ (by omega) e
    rw [e, show F = 53 + J by omega, Nat.pow_add] at hB
    have := Nat.lt_of_mul_lt_mul_right hB
    rw [show (2 : Nat) ^ 53 = 9007199254740992 from rfl] at this
    omega
theorem ff_parts {v : Int} (h : FF v) : ∃ k : Nat, ((2 ^ k : Nat) : Int) ∣ v ∧ v.natAbs < 9007199254740992 * 2 ^ k := by
  obtain ⟨p, hp, hv⟩ := h
  obtain ⟨k, c, -, -, hc, hu, -⟩ := place_parts p
  refine ⟨k, Int.ofNat_dvd_left.2 ?_, ?_⟩
  · rw [hv, hu]; exact Nat.dvd_mul_left _ _
  · rw [hv, hu]; exact Nat.mul_lt_mul_of_pos_right hc (two_pos k)
theorem ff_lt {v : Int} {F : Nat} (hF : F = 2098) (h : FF v) : v.natAbs < 2 ^ F := by
  obtain ⟨p, hp, hv⟩ := h
  rw [hv, ← inf_top hF]
  exact uni_lt_iff.2 hp
theorem ff_zero : FF 0 := ⟨0, by unfold inf; omega, by rw [uni_zero]; rfl⟩
theorem ff_neg {v : Int} (h : FF v) : FF (-v) := by
  obtain ⟨p, hp, hv⟩ := h
  exact ⟨p, hp, by rw [Int.natAbs_neg, hv]⟩
theorem pow_dvd {a b : Nat} (h : a ≤ b) {v : Int} (hd : ((2 ^ b : Nat) : Int) ∣ v) : ((2 ^ a : Nat) : Int) ∣ v :=
  Int.dvd_trans (Int.natCast_dvd_natCast.2 (Nat.pow_dvd_pow 2 h)) hd
/-- The difference of two that lie near each other. -/
theorem ff_sub {x y : Int} (hx : FF x) (hy : FF y) (h1 : (x - y).natAbs ≤ x.natAbs) (h2 : (x - y).natAbs ≤ y.natAbs) : FF (x - y) := by
  obtain ⟨k, k1, k2⟩ := ff_parts hx
  obtain ⟨l, l1, l2⟩ := ff_parts hy
  obtain ⟨F, hF⟩ : ∃ F, F = 2098 := ⟨_, rfl⟩
  have hB := Nat.lt_of_le_of_lt h1 (ff_lt hF hx)
  rcases Nat.le_total k l with h | h
  · exact ff_of hF (Int.dvd_sub k1 (pow_dvd h l1)) (Nat.le_of_lt (Nat.lt_of_le_of_lt h1 k2)) hB
  · exact ff_of hF (Int.dvd_sub (pow_dvd h k1) l1) (Nat.le_of_lt (Nat.lt_of_le_of_lt h2 l2)) hB

/-- s is v rounded: no double lies nearer; s and v lie in one row of multiples of 2^q. -/
structure Rn (v s : Int) : Prop where
  ff : FF s
  cand : ∀ f, FF f → (v - s).natAbs ≤ (v - f).natAbs
  unit : ∃ q : Nat, ((2 ^ q : Nat) : Int) ∣ s ∧ 2 * (v - s).natAbs ≤ 2 ^ q ∧ (q = 0 ∨ 4503599627370496 * 2 ^ q ≤ v.natAbs) ∧ v.natAbs < 9007199254740992 * 2 ^ q
theorem Rn.exact {v s : Int} (h : Rn v s) (hv : FF v) : s = v := by
  have := h.cand v hv
  rw [Int.sub_self] at this
  simp at this
  omega
/-- The place beside a whole number. -/
theorem near_unit {p n : Nat} (h : Near p n 1) (hp : p < inf) : ∃ q c : Nat, (p = q * 4503599627370496 + c ∨ p = q * 4503599627370496 + c + 1) ∧ uni (q * 4503599627370496 + c) = c * 2 ^ q ∧ uni (q * 4503599627370496 + c + 1) = (c + 1) * 2 ^ q ∧
    (q = 0 ∨ 4503599627370496 * 2 ^ q ≤ n) ∧ n < 9007199254740992 * 2 ^ q ∧ c * 2 ^ q ≤ n ∧ n < (c + 1) * 2 ^ q := by
  obtain ⟨q, hq⟩ : ∃ q, q = blen n - 53 := ⟨_, rfl⟩
  have hlt : n < 9007199254740992 * 2 ^ q := by
    have h1 := blen_lt n
    refine Nat.lt_of_lt_of_le h1 ?_
    rw [show (9007199254740992 : Nat) = 2 ^ 53 from rfl, ← Nat.pow_add]
    exact Nat.pow_le_pow_right (by omega) (by omega)
  have hge : q = 0 ∨ 4503599627370496 * 2 ^ q ≤ n := by
    by_cases h0 : q = 0
    · exact .inl h0
    · right
      have hn : n ≠ 0 := fun h => by rw [h, blen_zero] at hq; omega
      have h1 := blen_ge hn
      rw [show (4503599627370496 : Nat) = 2 ^ 52 from rfl, ← Nat.pow_add, show 52 + q = blen n - 1 by omega]
      exact h1
  obtain ⟨c, hc⟩ : ∃ c, c = n / 2 ^ q := ⟨_, rfl⟩
  have hp2 := two_pos q
  have hcl : c < 9007199254740992 := by rw [hc]; exact (Nat.div_lt_iff_lt_mul hp2).2 hlt
  have hcg : q = 0 ∨ 4503599627370496 ≤ c := by
    rcases hge with h0 | h0
    · exact .inl h0
    · right; rw [hc]; exact (Nat.le_div_iff_mul_le hp2).2 h0
  have hdm := Nat.div_add_mod n (2 ^ q)
  have hml := Nat.mod_lt n hp2
  rw [← hc, Nat.mul_comm] at hdm
  have u1 := uni_at (k := q) (c := c) hcg (by omega)
  have u2 := uni_at (k := q) (c := c + 1) (by omega) (by omega)
  rw [← Nat.add_assoc] at u2
  have lo : c * 2 ^ q ≤ n := by omega
  have hi : n < (c + 1) * 2 ^ q := by rw [Nat.add_mul, Nat.one_mul]; omega
  refine ⟨q, c, ?_, u1, u2, hge, hlt, lo, hi⟩
  obtain ⟨P, hP⟩ : ∃ P, P = q * 4503599627370496 + c := ⟨_, rfl⟩
  rw [← hP] at u1 u2 ⊢
  -- n lies from P to P + 1
  have htop : 2 * n ≤ uni p + uni (p + 1) := by have := h.hi hp; omega
  have hPi : P < inf := by
    have m1 := uni_mono (show p + 1 ≤ inf by omega)
    have m2 := uni_smono (show p < inf from hp)
    refine uni_lt_iff.1 ?_
    rw [u1]
    omega
  have e1 := near_exact (p := P) (Y := 1) (by omega) (by omega)
  have e2 := near_exact (p := P + 1) (Y := 1) (by omega) (by omega)
  have a1 := near_mono (by omega) (by omega) e1 h (by rw [u1]; omega)
  have a2 := near_mono (by omega) (by omega) h e2 (by rw [u2]; omega)
  omega
theorem rn_of {p : Nat} {v s : Int} (h : Near p v.natAbs 1) (hp : p < inf) (hs : s = if v < 0 then -(uni p : Int) else (uni p : Int)) : Rn v s := by
  have habs : s.natAbs = uni p := by rw [hs]; split <;> omega
  have hd : (v - s).natAbs = ((v.natAbs : Int) - (uni p : Int)).natAbs := by rw [hs]; split <;> omega
  have lo : p ≠ 0 → uni (p - 1) + uni p ≤ 2 * v.natAbs := fun h0 => by have := h.lo h0; omega
  have hi : 2 * v.natAbs ≤ uni p + uni (p + 1) := by have := h.hi hp; omega
  refine ⟨⟨p, hp, habs⟩, ?_, ?_⟩
  · rintro f ⟨r, hr, hf⟩
    rw [hd]
    have hopp : ((v.natAbs : Int) - (uni p : Int)).natAbs ≤ v.natAbs := by
      rcases Nat.eq_zero_or_pos p with h0 | h0
      · rw [h0, uni_zero]; omega
      · have := lo (by omega); omega
    have hsame : ((v.natAbs : Int) - (uni p : Int)).natAbs ≤ ((v.natAbs : Int) - (uni r : Int)).natAbs := by
      rcases Nat.lt_trichotomy r p with h1 | h1 | h1
      · have m := uni_mono (show r ≤ p - 1 by omega)
        have m2 := uni_smono h1
        have := lo (by omega)
        omega
      · rw [h1]; exact Nat.le_refl _
      · have m := uni_mono (show p + 1 ≤ r by omega)
        have m2 := uni_smono h1
        omega
    by_cases hsgn : (v < 0 ∧ f < 0) ∨ (0 ≤ v ∧ 0 ≤ f)
    · have : (v - f).natAbs = ((v.natAbs : Int) - (uni r : Int)).natAbs := by omega
      rw [this]; exact hsame
    · refine Nat.le_trans hopp ?_
      omega
  · obtain ⟨q, c, h1, u1, u2, hge, hlt, l1, l2⟩ := near_unit h hp
    have hdv : 2 ^ q ∣ s.natAbs := by
      rw [habs]
      rcases h1 with h1 | h1
      · rw [h1, u1]; exact Nat.dvd_mul_left _ _
      · rw [h1, u2]; exact Nat.dvd_mul_left _ _
    refine ⟨q, Int.ofNat_dvd_left.2 hdv, ?_, hge, hlt⟩
    rw [hd]
    rw [Nat.add_mul, Nat.one_mul] at u2 l2
    rcases h1 with h1 | h1
    · rw [← h1] at u1 u2
      omega
    · rw [← h1] at u2
      rw [show q * 4503599627370496 + c = p - 1 by omega] at u1
      have := lo (by omega)
      omega
/-- Not too great: finite. -/
theorem near_fin {p n M : Nat} (h : Near p n 1) (hM : M = 2097) (hn : n ≤ 2 ^ M) : p < inf := by
  have ht := h.top
  rcases Nat.lt_or_ge p inf with h1 | h1
  · exact h1
  · exfalso
    obtain rfl : p = inf := by omega
    have h2 := h.lo (by unfold inf; omega)
    have h3 := inf_top (F := M + 1) (by omega)
    rw [Nat.pow_succ] at h3
    have h4 : 0 < uni (inf - 1) := by
      have := uni_smono (show 0 < inf - 1 by unfold inf; omega)
      rw [uni_zero] at this
      exact this
    omega

/-! ### what a sum loses -/
theorem rn_lost {x y s : Int} (hx : FF x) (hy : FF y) (h : Rn (x + y) s) : FF (x + y - s) := by
  have key : ∀ {x y : Int}, FF x → FF y → Rn (x + y) s → ∀ k l : Nat, k ≤ l → ((2 ^ k : Nat) : Int) ∣ x → x.natAbs < 9007199254740992 * 2 ^ k → ((2 ^ l : Nat) : Int) ∣ y → FF (x + y - s) := by
    intro x y hx hy h k l hkl dx bx dy
    obtain ⟨F, hF⟩ : ∃ F, F = 2098 := ⟨_, rfl⟩
    obtain ⟨q, q1, q2, q3, q4⟩ := h.unit
    have dv : ((2 ^ k : Nat) : Int) ∣ x + y := Int.dvd_add dx (pow_dvd hkl dy)
    have hc := h.cand y hy
    rw [Int.add_sub_cancel] at hc
    by_cases hq : k ≤ q
    · exact ff_of hF (Int.dvd_sub dv (pow_dvd hq q1)) (Nat.le_of_lt (Nat.lt_of_le_of_lt hc bx)) (Nat.lt_of_le_of_lt hc (ff_lt hF hx))
    · -- the sum itself is a double
      by_cases hb : (x + y).natAbs < 2 ^ F
      · have := h.exact (ff_of hF (pow_dvd (by omega) dv) (Nat.le_of_lt q4) hb)
        rw [this, Int.sub_self]
        exact ff_zero
      · exfalso
        have h1 := ff_lt hF h.ff
        have h2 := two_pos q
        have h3 : 2 ^ q ∣ ((x + y).natAbs) := Int.ofNat_dvd_left.1 (pow_dvd (by omega) dv)
        have h4 : 2 ^ q ∣ s.natAbs := Int.ofNat_dvd_left.1 q1
        have h5 : (x + y - s).natAbs < 2 ^ q := by omega
        have h6 : 2 ^ q ∣ (x + y - s).natAbs := Int.ofNat_dvd_left.1 (Int.dvd_sub (pow_dvd (by omega) dv) q1)
        have h7 := Nat.eq_zero_of_dvd_of_lt h6 h5
        omega
  obtain ⟨k, k1, k2⟩ := ff_parts hx
  obtain ⟨l, l1, l2⟩ := ff_parts hy
  rcases Nat.le_total k l with hkl | hkl
  · exact key hx hy h k l hkl k1 k2 l1
  · rw [Int.add_comm x y] at h ⊢
    exact key hy hx h l k hkl l1 l2 k1
theorem dvd_near {q c : Nat} {z : Int} (hd : ((2 ^ q : Nat) : Int) ∣ z) (h : 2 * z.natAbs < (2 * c + 1) * 2 ^ q + 2 ^ q) : z.natAbs ≤ c * 2 ^ q := by
  obtain ⟨m, hm⟩ := Int.ofNat_dvd_left.1 hd
  rw [hm, Nat.mul_comm] 
  refine Nat.mul_le_mul_right _ ?_
  rw [hm, ← Nat.mul_assoc, Nat.mul_right_comm, show (2 * c + 1) * 2 ^ q + 2 ^ q = (2 * c + 2) * 2 ^ q by rw [← Nat.succ_mul]] at h
  have := Nat.lt_of_mul_lt_mul_right h
  omega
/-- The sum less the greater one. -/
theorem rn_fast {x y s : Int} (hx : FF x) (hy : FF y) (hle : y.natAbs ≤ x.natAbs) (h : Rn (x + y) s) (hB : 2 * y.natAbs < 2 ^ 2098) : FF (s - x) := by
  obtain ⟨F, hF⟩ : ∃ F, F = 2098 := ⟨_, rfl⟩
  rw [← hF] at hB
  have hc := h.cand x hx
  rw [show x + y - x = y by omega] at hc
  have hsx : (s - x).natAbs ≤ 2 * y.natAbs := by omega
  have hsB := Nat.lt_of_le_of_lt hsx hB
  by_cases hv : FF (x + y)
  · rw [h.exact hv, show x + y - x = y by omega]; exact hy
  obtain ⟨q, q1, q2, q3, q4⟩ := h.unit
  obtain ⟨k, k1, k2⟩ := ff_parts hx
  obtain ⟨l, l1, l2⟩ := ff_parts hy
  have hvB : (x + y).natAbs < 2 ^ F ∨ True := .inr trivial
  have hq0 : q ≠ 0 ∨ ¬ (x + y).natAbs < 2 ^ F := by
    by_cases h0 : q = 0
    · right
      intro hb
      refine hv (ff_of (k := 0) hF (by simp) ?_ hb)
      rw [h0] at q4
      omega
    · exact .inl h0
  -- a sum in the row of multiples of 2^q is a double
  have inrow : ((2 ^ q : Nat) : Int) ∣ x + y → False := by
    intro hd
    have h5 : (x + y - s).natAbs < 2 ^ q := by have := two_pos q; omega
    have h6 : 2 ^ q ∣ (x + y - s).natAbs := Int.ofNat_dvd_left.1 (Int.dvd_sub hd q1)
    have h7 := Nat.eq_zero_of_dvd_of_lt h6 h5
    have : x + y = s := by omega
    exact hv (this ▸ h.ff)
  by_cases hkq : q ≤ k
  · have hl : l < q := by
      rcases Nat.lt_or_ge l q with h1 | h1
      · exact h1
      · exact absurd (Int.dvd_add (pow_dvd hkq k1) (pow_dvd h1 l1)) inrow
    have hd := Int.dvd_sub q1 (pow_dvd hkq k1)
    refine ff_of hF hd (dvd_near hd ?_) hsB
    have h1 : y.natAbs < 9007199254740992 * 2 ^ q := Nat.lt_of_lt_of_le l2 (Nat.mul_le_mul_left _ (Nat.pow_le_pow_right (by omega) (by omega)))
    omega
  · have hd := Int.dvd_sub (pow_dvd (by omega) q1) k1
    have h3 : q = k + 1 := by
      rcases q3 with h0 | h0
      · omega
      · have h4 : (x + y).natAbs < 2 * (9007199254740992 * 2 ^ k) := by omega
        rcases Nat.lt_or_ge q (k + 2) with h5 | h5
        · omega
        · exfalso
          have h6 := Nat.pow_le_pow_right (n := 2) (by omega) h5
          rw [Nat.pow_succ, Nat.pow_succ] at h6
          omega
    refine ff_of hF hd (dvd_near hd ?_) hsB
    obtain ⟨m, hm⟩ := Int.ofNat_dvd_left.1 k1
    rw [hm, Nat.mul_comm] at k2 hle
    have h6 := Nat.lt_of_mul_lt_mul_right k2
    have h7 : (m + 1) * 2 ^ k ≤ 9007199254740992 * 2 ^ k := Nat.mul_le_mul_right _ h6
    rw [h3, Nat.pow_succ] at q2
    rw [Nat.add_mul, Nat.one_mul] at h7
    omega

/-! ### six additions -/
theorem five {a b s bb t da db : Int} {M : Nat} (hM : M = 2096) (ha : FF a) (hb : FF b) (la : a.natAbs ≤ 2 ^ M) (lb : b.natAbs ≤ 2 ^ M) (h1 : Rn (a + b) s) (h2 : Rn (s - a) bb) (h3 : Rn (s - bb) t) (h4 : Rn (a - t) da) (h5 : Rn (b - bb) db) : da + db = a + b - s := by
  have lost := rn_lost ha hb h1
  have easy : FF (s - a) → da + db = a + b - s := by
    intro hf
    have e2 := h2.exact hf
    rw [e2, show s - (s - a) = a by omega] at h3
    have e3 := h3.exact ha
    rw [e3, Int.sub_self] at h4
    have e4 := h4.exact ff_zero
    rw [e2, show b - (s - a) = a + b - s by omega] at h5
    have e5 := h5.exact lost
    omega
  have hB : ∀ z : Int, z.natAbs ≤ 2 ^ M → 2 * z.natAbs < 2 ^ 2098 := by
    intro z hz
    obtain ⟨F, hF⟩ : ∃ F, F = 2098 := ⟨_, rfl⟩
    rw [← hF, show F = M + 1 + 1 by omega, Nat.pow_succ, Nat.pow_succ]
    have := two_pos M
    omega
  by_cases hle : b.natAbs ≤ a.natAbs
  · exact easy (rn_fast ha hb hle h1 (hB b lb))
  by_cases hv : FF (a + b)
  · refine easy ?_
    rw [h1.exact hv, show a + b - a = b by omega]
    exact hb
  -- the greater one second
  have cb := h1.cand b hb
  rw [Int.add_sub_cancel] at cb
  have ca := h1.cand a ha
  have cm := h1.cand (-a) (ff_neg ha)
  have hsa : a.natAbs ≤ s.natAbs := by
    by_cases hsg : (0 ≤ a ∧ 0 ≤ b) ∨ (a ≤ 0 ∧ b ≤ 0)
    · omega
    · by_cases h2a : b.natAbs ≤ 2 * a.natAbs
      · exfalso
        refine hv ?_
        have := ff_sub hb (ff_neg ha) (by omega) (by omega)
        rwa [show b - -a = a + b by omega] at this
      · omega
  have e3 : t = s - bb := by
    refine h3.exact ?_
    have := rn_fast (s := bb) h1.ff (ff_neg ha) (by omega) (by rw [← Int.sub_eq_add_neg]; exact h2) (by rw [Int.natAbs_neg]; exact hB a la)
    have h7 := ff_neg this
    rwa [show -(bb - s) = s - bb by omega] at h7
  have lost2 := rn_lost (s := bb) h1.ff (ff_neg ha) (by rw [← Int.sub_eq_add_neg]; exact h2)
  have e4 : da = a - t := by
    refine h4.exact ?_
    have h7 := ff_neg lost2
    rwa [show -(s + -a - bb) = a - t by omega] at h7
  have e5 : db = b - bb := by
    refine h5.exact ?_
    have c2 := h2.cand b hb
    obtain ⟨q, q1, q2, q3, q4⟩ := h1.unit
    have hq := two_pos q
    have hbig : 2 * 2 ^ q ≤ b.natAbs ∨ a + b - s = 0 := by
      rcases q3 with h0 | h0
      · right
        rw [h0] at q2
        omega
      · left; omega
    exact ff_sub hb h2.ff (by omega) (by omega)
  omega
theorem six {a b s e z : Int} (ha : FF a) (hb : FF b) (h1 : Rn (a + b) s) (hz : z = a + b - s) (h6 : Rn z e) : s + e = a + b := by
  have lost := rn_lost ha hb h1
  rw [hz] at h6
  have := h6.exact lost
  omega

/-! ### what a product loses -/
theorem rn_prod {w s : Int} {k : Nat} (h : Rn w s) (hd : ((2 ^ k : Nat) : Int) ∣ w) (hb : w.natAbs < 2 ^ 106 * 2 ^ k) : FF (w - s) := by
  obtain ⟨F, hF⟩ : ∃ F, F = 2098 := ⟨_, rfl⟩
  obtain ⟨q, q1, q2, q3, q4⟩ := h.unit
  have hq := two_pos q
  by_cases hqk : q ≤ k
  · have h5 : (w - s).natAbs < 2 ^ q := by omega
    have h6 : 2 ^ q ∣ (w - s).natAbs := Int.ofNat_dvd_left.1 (Int.dvd_sub (pow_dvd hqk hd) q1)
    have h7 := Nat.eq_zero_of_dvd_of_lt h6 h5
    have : w - s = 0 := by omega
    rw [this]
    exact ff_zero
  · have hw : 4503599627370496 * 2 ^ q ≤ w.natAbs := by
      rcases q3 with h0 | h0
      · omega
      · exact h0
    have hlt : 2 ^ (52 + q) < 2 ^ (106 + k) := by
      rw [Nat.pow_add, Nat.pow_add, show (2 : Nat) ^ 52 = 4503599627370496 from rfl]
      exact Nat.lt_of_le_of_lt hw hb
    have h8 : q < 54 + k := by
      have := (Nat.pow_lt_pow_iff_right (show 1 < 2 by omega)).1 hlt
      omega
    have h9 : 2 ^ q ≤ 9007199254740992 * 2 ^ k := by
      rw [show (9007199254740992 : Nat) = 2 ^ 53 from rfl, ← Nat.pow_add]
      exact Nat.pow_le_pow_right (by omega) (by omega)
    have hs := ff_lt hF h.ff
    exact ff_of hF (Int.dvd_sub hd (pow_dvd (by omega) q1)) (by omega) (by omega)
end Go.Proofs.YtobocamcoaeliaaDoor.Rn
