/- math/bits.Div64 divides two limbs by one, as printed: quotient and remainder. Conditions: the high limb is below the divisor. -/
import Derived.Test.YtcacmhcekoeblaaDoorQNat1
import Derived.Test.YtcacmhcekoeblaaDoorQLB
import Derived.Lib.BitFns
namespace Go.Proofs.YtcacmhcekoeblaaDoor.Div
open Go.RowKit Go.Proofs.YtcacmhcekoeblaaDoor.Lib Go.Proofs.YtcacmhcekoeblaaDoor.LibB Go.Proofs.YtcacmhcekoeblaaDoor.F Go.Proofs.YtcacmhcekoeblaaDoor.Nat1
open Go.Proofs.YtcacmhcekoeblaaDoorA (rd ln ln_eq mx mn shl shr wr wr_eq)
set_option linter.unusedVariables false
set_option linter.unusedSimpArgs false

theorem lt_of_mul_lt {p q y : Int} (hy : 0 ≤ y) (h : p * y < q * y) : p < q := by
  rcases Int.lt_or_le p q with h1 | h1
  · exact h1
  · have := Int.mul_le_mul_of_nonneg_right h1 hy
    omega
/-- What a step of long division by two digits knows: u below the divisor y = y1 * 2^32 + y0, the next digit n. -/
structure Step (u n y y1 y0 Q : Int) : Prop where
  hy : y = y1 * 4294967296 + y0
  hy1 : 2147483648 ≤ y1 ∧ y1 < 4294967296
  hy0 : 0 ≤ y0 ∧ y0 < 4294967296
  hn : 0 ≤ n ∧ n < 4294967296
  hu : 0 ≤ u ∧ u < y
  q0 : 0 ≤ Q
  qb : Q < 4294967296
  ql : Q * y ≤ u * 4294967296 + n
  qg : u * 4294967296 + n < (Q + 1) * y
theorem Step.mk' {u n y y1 y0 : Int} (hy : y = y1 * 4294967296 + y0) (hy1 : 2147483648 ≤ y1 ∧ y1 < 4294967296) (hy0 : 0 ≤ y0 ∧ y0 < 4294967296) (hn : 0 ≤ n ∧ n < 4294967296) (hu : 0 ≤ u ∧ u < y) : Step u n y y1 y0 ((u * 4294967296 + n) / y) := by
  have hp : 0 < y := by omega
  have e := Int.mul_ediv_add_emod (u * 4294967296 + n) y
  have m0 := Int.emod_nonneg (u * 4294967296 + n) (show y ≠ 0 by omega)
  have m1 := Int.emod_lt_of_pos (u * 4294967296 + n) hp
  have l : (u * 4294967296 + n) / y * y ≤ u * 4294967296 + n := by rw [Int.mul_comm]; omega
  refine ⟨hy, hy1, hy0, hn, hu, Int.ediv_nonneg (by omega) (by omega), ?_, l, ?_⟩
  · refine lt_of_mul_lt (y := y) (by omega) ?_
    omega
  · rw [Int.add_mul, Int.one_mul]; have := Int.mul_comm ((u * 4294967296 + n) / y) y; omega
section
variable {u n y y1 y0 Q q r : Int}
theorem Step.prod (S : Step u n y y1 y0 Q) (h : q * y1 + r = u) : q * y = (u - r) * 4294967296 + q * y0 := by
  rw [S.hy, Int.mul_add, ← Int.mul_assoc]
  have : q * y1 = u - r := by omega
  rw [this]
/-- The digit is too great. -/
theorem Step.great (S : Step u n y y1 y0 Q) (h : q * y1 + r = u) (hc : 4294967296 ≤ q ∨ 4294967296 * r + n < q * y0) : Q ≤ q - 1 := by
  have := S.qb
  rcases hc with hc | hc
  · omega
  · have h1 := S.prod h
    have h2 := S.ql
    have h3 : Q * y < q * y := by rw [h1]; omega
    have h4 := lt_of_mul_lt (by have := S.hu; omega) h3
    omega
/-- The digit is not too great. -/
theorem Step.small (S : Step u n y y1 y0 Q) (h : q * y1 + r = u) (hc : q * y0 ≤ 4294967296 * r + n) : q ≤ Q := by
  have h1 := S.prod h
  have h2 := S.qg
  have h3 : q * y < (Q + 1) * y := by rw [h1]; omega
  have h4 := lt_of_mul_lt (by have := S.hu; omega) h3
  omega
theorem Step.leave (S : Step u n y y1 y0 Q) (h : q * y1 + r = u) (hq : q ≤ 4294967296) (hr : 4294967296 ≤ r) (h0 : 0 ≤ q) : q ≤ Q := by
  refine S.small h ?_
  have h1 := Int.mul_le_mul hq (show y0 ≤ 4294967295 by have := S.hy0; omega) S.hy0.1 (by omega)
  have := S.hn
  omega
theorem Step.start (S : Step u n y y1 y0 Q) : u / y1 * y1 + u % y1 = u ∧ 0 ≤ u % y1 ∧ u % y1 < y1 ∧ 0 ≤ u / y1 ∧ u / y1 ≤ 4294967297 ∧ Q ≤ u / y1 := by
  have hp : 0 < y1 := by have := S.hy1; omega
  have e := Int.mul_ediv_add_emod u y1
  have m0 := Int.emod_nonneg u (show y1 ≠ 0 by omega)
  have m1 := Int.emod_lt_of_pos u hp
  have e' : u / y1 * y1 + u % y1 = u := by rw [Int.mul_comm]; exact e
  refine ⟨e', m0, m1, Int.ediv_nonneg S.hu.1 (by omega), ?_, ?_⟩
  · have h1 : u / y1 * y1 < 4294967298 * y1 := by
      have := S.hu; have := S.hy; have := S.hy0; have := S.hy1
      omega
    have := lt_of_mul_lt (by omega) h1
    omega
  · -- Q * y1 * 2^32 ≤ Q * y ≤ u * 2^32 + n
    have h1 : Q * y1 ≤ u := by
      have h2 := S.ql
      rw [S.hy, Int.mul_add, ← Int.mul_assoc] at h2
      have h3 := Int.mul_nonneg S.q0 S.hy0.1
      have := S.hn
      omega
    have h2 : Q * y1 < (u / y1 + 1) * y1 := by rw [Int.add_mul, Int.one_mul]; omega
    have := lt_of_mul_lt (by omega) h2
    omega
end
theorem wrapU {n : Int} (h0 : 0 ≤ n) (h1 : n < 18446744073709551616) : IntKind.u64.wrap n = n := by rw [IntKind.wrap_u64]; omega
theorem half_mul {q y0 : Int} (h0 : 0 ≤ q) (h1 : q < 4294967296) (h2 : 0 ≤ y0 ∧ y0 < 4294967296) : 0 ≤ q * y0 ∧ q * y0 < 18446744073709551616 := by
  have := mul_half h0 h1 h2.1 h2.2
  omega
/-- The first loop brings the digit down to what it is. -/
theorem loop0 {u n y y1 y0 Q : Int} (S : Step u n y y1 y0 Q) {s z : Int} {R : Int × Int} (cont : Ev (fun i _ _ => bits_Div64.l65535 i y s y1 y0 u n z Q) R) (m : Nat) :
    ∀ q r : Int, q.toNat ≤ m → q * y1 + r = u → Q ≤ q → q ≤ 4294967297 → 0 ≤ r → r < 4294967296 → Ev (fun i j _ => bits_Div64.l262137 i j y s y1 y0 u n z q r) R := by
  have hQ := S.q0
  have hy1 := S.hy1
  induction m with
  | zero =>
    intro q r hm he h1 h2 h3 h4
    -- q is 0: it is not too great
    obtain rfl : q = 0 := by omega
    obtain rfl : Q = 0 := by omega
    have h5 := S.hn
    refine Ev_succ ?_
    simp only [bits_Div64.l262137, bits_Div64.b262137]
    exact Ev_neg (by omega) (Ev_neg (by rw [Int.zero_mul, wrapU (by omega) (by omega), wrapU (n := 4294967296 * r) (by omega) (by omega), wrapU (by omega) (by omega)]; omega) cont)
  | succ m ih =>
    intro q r hm he h1 h2 h3 h4
    have h5 := S.hn
    have h6 := S.hy0
    have big : (4294967296 ≤ q ∨ 4294967296 * r + n < q * y0) → Ev (fun i j _ => bits_Div64.l524273 i (bits_Div64.l262137 i j) y s y1 y0 u n z q r) R := by
      intro hc
      have g := S.great he hc
      have he' : (q - 1) * y1 + (r + y1) = u := by rw [Int.sub_mul, Int.one_mul]; omega
      simp only [bits_Div64.l524273, bits_Div64.b524273]
      rw [wrapU (n := r + y1) (by omega) (by omega), wrapU (n := q - 1) (by omega) (by omega)]
      by_cases hb : 4294967296 ≤ r + y1
      · have := S.leave he' (by omega) hb (by omega)
        obtain rfl : q - 1 = Q := by omega
        exact Ev_pos hb cont
      · exact Ev_neg (by omega) (ih (q - 1) (r + y1) (by omega) he' g (by omega) (by omega) (by omega))
    refine Ev_succ ?_
    simp only [bits_Div64.l262137, bits_Div64.b262137]
    by_cases hc1 : 4294967296 ≤ q
    · exact Ev_pos hc1 (big (.inl hc1))
    · refine Ev_neg hc1 ?_
      have hm2 := half_mul (q := q) (by omega) (by omega) h6
      rw [wrapU hm2.1 hm2.2, wrapU (n := 4294967296 * r) (by omega) (by omega), wrapU (n := 4294967296 * r + n) (by omega) (by omega)]
      by_cases hc2 : 4294967296 * r + n < q * y0
      · exact Ev_pos hc2 (big (.inr hc2))
      · have := S.small he (by omega)
        obtain rfl : q = Q := by omega
        exact Ev_neg hc2 cont
/-- The second loop: the digit, and with it the answer. -/
theorem loop1 {u n y y1 y0 Q : Int} (S : Step u n y y1 y0 Q) {s z : Int} (hs : 0 ≤ s) (m : Nat) :
    ∀ q r : Int, q.toNat ≤ m → q * y1 + r = u → Q ≤ q → q ≤ 4294967297 → 0 ≤ r → r < 4294967296 → Ev (fun i j _ => bits_Div64.l4194297 i j y s y1 y0 n z r u q)
      (IntKind.u64.wrap (IntKind.u64.wrap (z * 4294967296) + Q), shr .u64 (IntKind.u64.wrap (IntKind.u64.wrap (IntKind.u64.wrap (u * 4294967296) + n) - IntKind.u64.wrap (Q * y))) s) := by
  have hQ := S.q0
  have hy1 := S.hy1
  have cont : Ev (fun i _ _ => bits_Div64.l1048575 i y s n z u Q) (IntKind.u64.wrap (IntKind.u64.wrap (z * 4294967296) + Q), shr .u64 (IntKind.u64.wrap (IntKind.u64.wrap (IntKind.u64.wrap (u * 4294967296) + n) - IntKind.u64.wrap (Q * y))) s) := by
    simp only [bits_Div64.l1048575, bits_Div64.b1048575]
    exact Ev_pos hs (Ev_some rfl)
  generalize (IntKind.u64.wrap (IntKind.u64.wrap (z * 4294967296) + Q), shr .u64 (IntKind.u64.wrap (IntKind.u64.wrap (IntKind.u64.wrap (u * 4294967296) + n) - IntKind.u64.wrap (Q * y))) s) = R at *
  induction m with
  | zero =>
    intro q r hm he h1 h2 h3 h4
    obtain rfl : q = 0 := by omega
    obtain rfl : Q = 0 := by omega
    have h5 := S.hn
    refine Ev_succ ?_
    simp only [bits_Div64.l4194297, bits_Div64.b4194297]
    exact Ev_neg (by omega) (Ev_neg (by rw [Int.zero_mul, wrapU (by omega) (by omega), wrapU (n := 4294967296 * r) (by omega) (by omega), wrapU (by omega) (by omega)]; omega) cont)
  | succ m ih =>
    intro q r hm he h1 h2 h3 h4
    have h5 := S.hn
    have h6 := S.hy0
    have big : (4294967296 ≤ q ∨ 4294967296 * r + n < q * y0) → Ev (fun i j _ => bits_Div64.l8388593 i (bits_Div64.l4194297 i j) y s y1 y0 n z r u q) R := by
      intro hc
      have g := S.great he hc
      have he' : (q - 1) * y1 + (r + y1) = u := by rw [Int.sub_mul, Int.one_mul]; omega
      simp only [bits_Div64.l8388593, bits_Div64.b8388593]
      rw [wrapU (n := r + y1) (by omega) (by omega), wrapU (n := q - 1) (by omega) (by omega)]
      by_cases hb : 4294967296 ≤ r + y1
      · have := S.leave he' (by omega) hb (by omega)
        obtain rfl : q - 1 = Q := by omega
        exact Ev_pos hb cont
      · exact Ev_neg (by omega) (ih (q - 1) (r + y1) (by omega) he' g (by omega) (by omega) (by omega))
    refine Ev_succ ?_
    simp only [bits_Div64.l4194297, bits_Div64.b4194297]
    by_cases hc1 : 4294967296 ≤ q
    · exact Ev_pos hc1 (big (.inl hc1))
    · refine Ev_neg hc1 ?_
      have hm2 := half_mul (q := q) (by omega) (by omega) h6
      rw [wrapU hm2.1 hm2.2, wrapU (n := 4294967296 * r) (by omega) (by omega), wrapU (n := 4294967296 * r + n) (by omega) (by omega)]
      by_cases hc2 : 4294967296 * r + n < q * y0
      · exact Ev_pos hc2 (big (.inr hc2))
      · have := S.small he (by omega)
        obtain rfl : q = Q := by omega
        exact Ev_neg hc2 cont
theorem rest_wrap {u n p R : Int} (hn : 0 ≤ n ∧ n < 4294967296) (h : u * 4294967296 + n - p = R) (h0 : 0 ≤ R) (h1 : R < 18446744073709551616) : IntKind.u64.wrap (IntKind.u64.wrap (IntKind.u64.wrap (u * 4294967296) + n) - IntKind.u64.wrap p) = R := by
  simp only [IntKind.wrap_u64]
  omega
/-- Both digits: what is left of the whole. -/
theorem two_digits {y a1 y1 y0 n1 n0 s : Int} (hy : y = y1 * 4294967296 + y0) (hy1 : 2147483648 ≤ y1 ∧ y1 < 4294967296) (hy0 : 0 ≤ y0 ∧ y0 < 4294967296) (h1 : 0 ≤ n1 ∧ n1 < 4294967296) (h0 : 0 ≤ n0 ∧ n0 < 4294967296) (ha : 0 ≤ a1 ∧ a1 < y) (hs : 0 ≤ s) :
    Ev (fun i j _ => bits_Div64.l262137 i j y s y1 y0 a1 n1 n0 (a1 / y1) (a1 % y1))
      (((a1 * 4294967296 + n1) * 4294967296 + n0) / y, shr .u64 (((a1 * 4294967296 + n1) * 4294967296 + n0) % y) s) := by
  have S := Step.mk' hy hy1 hy0 h1 ha
  generalize hQ : (a1 * 4294967296 + n1) / y = Q at S
  obtain ⟨e1, r0, r1, q0, q1, qQ⟩ := S.start
  have hyW : y < 18446744073709551616 := by omega
  obtain ⟨u, hu⟩ : ∃ u, u = a1 * 4294967296 + n1 - Q * y := ⟨_, rfl⟩
  have hu0 : 0 ≤ u := by have := S.ql; omega
  have hu1 : u < y := by have := S.qg; rw [Int.add_mul, Int.one_mul] at this; omega
  refine loop0 S ?_ (a1 / y1).toNat (a1 / y1) (a1 % y1) (Nat.le_refl _) e1 qQ q1 r0 (by omega)
  have w1 := rest_wrap h1 hu.symm hu0 (by omega)
  have T := Step.mk' hy hy1 hy0 h0 ⟨hu0, hu1⟩
  generalize hP : (u * 4294967296 + n0) / y = P at T
  obtain ⟨f1, s0, s1, p0, p1, pP⟩ := T.start
  simp only [bits_Div64.l65535, bits_Div64.b65535]
  refine Ev_neg (by omega) ?_
  rw [w1, Int.tdiv_eq_ediv_of_nonneg hu0, wrapU (n := u / y1) (by omega) (by omega)]
  have hq : u / y1 * y1 = u - u % y1 := by omega
  have hq0 : 0 ≤ u / y1 * y1 := Int.mul_nonneg p0 (by omega)
  rw [hq, wrapU (n := u - u % y1) (by omega) (by omega), wrapU (n := u - (u - u % y1)) (by omega) (by omega), show u - (u - u % y1) = u % y1 by omega]
  have L := loop1 T (z := Q) hs (u / y1).toNat (u / y1) (u % y1) (Nat.le_refl _) f1 pP p1 s0 (by omega)
  have hQb := S.qb
  have hQ0 := S.q0
  have hPb := T.qb
  have hP0 := T.q0
  rw [wrapU (n := Q * 4294967296) (by omega) (by omega), wrapU (n := Q * 4294967296 + P) (by omega) (by omega)] at L
  obtain ⟨v, hv⟩ : ∃ v, v = u * 4294967296 + n0 - P * y := ⟨_, rfl⟩
  have hv0 : 0 ≤ v := by have := T.ql; omega
  have hv1 : v < y := by have := T.qg; rw [Int.add_mul, Int.one_mul] at this; omega
  rw [rest_wrap h0 hv.symm hv0 (by omega)] at L
  have whole : (a1 * 4294967296 + n1) * 4294967296 + n0 = (Q * 4294967296 + P) * y + v := by
    rw [Int.add_mul (Q * 4294967296), Int.mul_assoc, Int.mul_comm 4294967296 y, ← Int.mul_assoc]
    omega
  have d1 : ((a1 * 4294967296 + n1) * 4294967296 + n0) / y = Q * 4294967296 + P := by
    rw [whole, Int.add_comm, Int.add_mul_ediv_right _ _ (show y ≠ 0 by omega), Int.ediv_eq_zero_of_lt hv0 hv1, Int.zero_add]
  have d2 : ((a1 * 4294967296 + n1) * 4294967296 + n0) % y = v := by
    rw [whole, Int.add_comm, Int.add_mul_emod_self_right, Int.emod_eq_of_lt hv0 hv1]
  rw [d1, d2]
  exact Ev_in (g := fun i j _ => bits_Div64.l4194297 i j y s y1 y0 n0 Q (u % y1) u (u / y1)) L

/-- Div64: two limbs by one. -/
theorem div64_ev {h l y : Int} (hh : 0 ≤ h) (hl : 0 ≤ l ∧ l < 18446744073709551616) (hy : y < 18446744073709551616) (hlt : h < y) :
    Ev (fun k _ _ => bits_Div64.f k h l y) ((h * 18446744073709551616 + l) / y, (h * 18446744073709551616 + l) % y) := by
  simp only [bits_Div64.f, bits_Div64.b0, ln_eq]
  refine Ev_neg (by omega) (Ev_neg (by omega) ?_)
  by_cases h0 : h = 0
  · refine Ev_pos h0 (Ev_neg (by omega) (Ev_neg (by omega) (Ev_some ?_)))
    subst h0
    have q := Int.ediv_nonneg hl.1 (show 0 ≤ y by omega)
    have q1 := Int.ediv_le_self y hl.1
    rw [Int.zero_mul, Int.zero_add, Int.tdiv_eq_ediv_of_nonneg hl.1, Int.tmod_eq_emod_of_nonneg hl.1, wrapU q (by omega)]
  · refine Ev_neg h0 ?_
    have Yne : y.toNat ≠ 0 := by omega
    have Ylt : y.toNat < 18446744073709551616 := by omega
    have b0 := bitLen_pos Yne Ylt
    have b1 := bitLen_le64 Ylt
    have b2 := bitLen_lt Ylt
    have b3 := le_bitLen Yne Ylt
    obtain ⟨s, hs⟩ : ∃ s, s = 64 - Lib.bitLen y.toNat := ⟨_, rfl⟩
    have lz : bits_LeadingZeros64.f y = some (s : Int) := by
      unfold bits_LeadingZeros64.f bits_LeadingZeros64.b0 bits_Len64.f
      rw [if_pos ⟨by omega, by omega⟩, Option.bind_some]
      congr 1
      unfold wrap64
      omega
    refine Ev_bind_eq lz ?_
    rw [wrapU (n := (s : Int)) (by omega) (by omega), wrapU (n := 64 - (s : Int)) (by omega) (by omega), show (64 : Int) - (s : Int) = ((64 - s : Nat) : Int) by omega]
    refine Ev_pos (by omega) (Ev_pos (by omega) (Ev_pos (by omega) (Ev_pos (by omega) ?_)))
    -- the powers
    have pc : 2 ^ (64 - s) * 2 ^ s = 18446744073709551616 := by rw [← Nat.pow_add, show 64 - s + s = 64 by omega]
    have pb : 2 ^ Lib.bitLen y.toNat * 2 ^ s = 18446744073709551616 := by rw [← Nat.pow_add, show Lib.bitLen y.toNat + s = 64 by omega]
    have pb1 : 2 ^ (Lib.bitLen y.toNat - 1) * 2 ^ s = 9223372036854775808 := by rw [← Nat.pow_add, show Lib.bitLen y.toNat - 1 + s = 63 by omega]
    have p0 : 0 < 2 ^ s := Nat.pow_pos (by omega)
    have c0 : 0 < 2 ^ (64 - s) := Nat.pow_pos (by omega)
    have y1N : y.toNat * 2 ^ s < 18446744073709551616 := by rw [← pb]; exact Nat.mul_lt_mul_of_pos_right b2 p0
    have y0N : 9223372036854775808 ≤ y.toNat * 2 ^ s := by rw [← pb1]; exact Nat.mul_le_mul_right _ b3
    rw [shl_u64 (by omega) (by omega), shl_u64 hh (by omega), shl_u64 hl.1 (by omega), shr_u64 (by omega)]
    have key : ∀ p c : Int, p = ((2 ^ s : Nat) : Int) → c = ((2 ^ (64 - s) : Nat) : Int) → 0 < p ∧ 0 < c ∧ c * p = 18446744073709551616 ∧ y * p < 18446744073709551616 ∧ 9223372036854775808 ≤ y * p := by
      rintro p c rfl rfl
      have e : y * ((2 ^ s : Nat) : Int) = ((y.toNat * 2 ^ s : Nat) : Int) := by rw [Int.natCast_mul, Int.toNat_of_nonneg (by omega)]
      refine ⟨by omega, by omega, ?_, by rw [e]; omega, by rw [e]; omega⟩
      rw [← Int.natCast_mul, pc]; rfl
    have orl : ∀ x : Int, 0 ≤ x → x < ((2 ^ s : Nat) : Int) → h * ((2 ^ s : Nat) : Int) + x < 18446744073709551616 → Go.bits .or .u64 (h * ((2 ^ s : Nat) : Int)) x = h * ((2 ^ s : Nat) : Int) + x := fun x x0 x1 x2 => or_low hh x0 x1 x2
    have shrp : ∀ x : Int, shr .u64 x (s : Int) = x / ((2 ^ s : Nat) : Int) := fun x => shr_u64 (by omega)
    obtain ⟨hp, hc, hcp, hy1, hy0⟩ := key _ _ rfl rfl
    clear key pc pb pb1 p0 c0 y1N y0N b2 b3
    generalize ((2 ^ s : Nat) : Int) = p at *
    generalize ((2 ^ (64 - s) : Nat) : Int) = c at *
    have hm : h * p + p ≤ y * p := by
      have := Int.mul_le_mul_of_nonneg_right (show h + 1 ≤ y by omega) (show 0 ≤ p by omega)
      rw [Int.add_mul, Int.one_mul] at this
      exact this
    have hp0 : 0 ≤ h * p := Int.mul_nonneg hh (by omega)
    have lc0 : 0 ≤ l / c := Int.ediv_nonneg hl.1 (by omega)
    have lc1 : l / c < p := by
      refine Int.ediv_lt_of_lt_mul hc ?_
      rw [Int.mul_comm, hcp]; exact hl.2
    have lp0 : 0 ≤ l * p := Int.mul_nonneg hl.1 (by omega)
    have ldiv : l * p / 18446744073709551616 = l / c := by
      rw [← hcp, Int.mul_ediv_mul_of_pos_left _ _ hp]
    rw [Int.emod_eq_of_lt (show 0 ≤ y * p by omega) hy1, Int.emod_eq_of_lt hp0 (show h * p < 18446744073709551616 by omega)]
    rw [orl _ lc0 lc1 (by omega)]
    have hA : 0 ≤ h * p + l / c ∧ h * p + l / c < y * p := by omega
    rw [and32 (by omega) hy1, and32 (Int.emod_nonneg _ (by omega)) (Int.emod_lt_of_pos _ (by omega))]
    have hY1 : 2147483648 ≤ y * p / 4294967296 ∧ y * p / 4294967296 < 4294967296 := by omega
    have q0 : 0 ≤ (h * p + l / c) / (y * p / 4294967296) := Int.ediv_nonneg hA.1 (by omega)
    have q1 := Int.ediv_le_self (y * p / 4294967296) hA.1
    have qm := Int.mul_ediv_add_emod (h * p + l / c) (y * p / 4294967296)
    have qr0 := Int.emod_nonneg (h * p + l / c) (show y * p / 4294967296 ≠ 0 by omega)
    have qr1 := Int.emod_lt_of_pos (h * p + l / c) (show 0 < y * p / 4294967296 by omega)
    rw [Int.tdiv_eq_ediv_of_nonneg hA.1, wrapU q0 (by omega)]
    have qs : (h * p + l / c) / (y * p / 4294967296) * (y * p / 4294967296) = (h * p + l / c) - (h * p + l / c) % (y * p / 4294967296) := by rw [Int.mul_comm]; omega
    have qs0 := Int.mul_nonneg q0 (show 0 ≤ y * p / 4294967296 by omega)
    rw [qs, wrapU (n := (h * p + l / c) - (h * p + l / c) % (y * p / 4294967296)) (by omega) (by omega), wrapU (by omega) (by omega)]
    rw [show (h * p + l / c) - ((h * p + l / c) - (h * p + l / c) % (y * p / 4294967296)) = (h * p + l / c) % (y * p / 4294967296) by omega]
    refine Ev_neg (by omega) ?_
    have T := two_digits (y := y * p) (a1 := h * p + l / c) (y1 := y * p / 4294967296) (y0 := y * p % 4294967296) (n1 := l * p % 18446744073709551616 / 4294967296) (n0 := l * p % 18446744073709551616 % 4294967296) (s := (s : Int)) (by omega) hY1 (by omega) (by omega) (by omega) hA (by omega)
    have whole : ((h * p + l / c) * 4294967296 + l * p % 18446744073709551616 / 4294967296) * 4294967296 + l * p % 18446744073709551616 % 4294967296 = (h * 18446744073709551616 + l) * p := by
      have e := Int.mul_ediv_add_emod (l * p) 18446744073709551616
      rw [ldiv] at e
      rw [Int.add_mul (h * 18446744073709551616), Int.mul_assoc, Int.mul_comm 18446744073709551616 p, ← Int.mul_assoc]
      omega
    have e2 : (h * 18446744073709551616 + l) * p % (y * p) = (h * 18446744073709551616 + l) % y * p := by
      rw [Int.mul_comm (h * 18446744073709551616 + l) p, Int.mul_comm y p, Int.mul_emod_mul_of_pos _ _ hp, Int.mul_comm]
    rw [whole, Int.mul_ediv_mul_of_pos_left _ _ hp, e2, shrp, Int.mul_ediv_cancel _ (by omega)] at T
    exact Ev_in (g := fun i j _ => bits_Div64.l262137 i j (y * p) (s : Int) (y * p / 4294967296) (y * p % 4294967296) (h * p + l / c) (l * p % 18446744073709551616 / 4294967296) (l * p % 18446744073709551616 % 4294967296) ((h * p + l / c) / (y * p / 4294967296)) ((h * p + l / c) % (y * p / 4294967296))) T

/-! ### DivSmall and MulAdd -/
theorem div_row {P H T x q r d : Nat} (h1 : H * 18446744073709551616 + x = q * d + r) (h2 : T = H * 0 + T) : P * x + (18446744073709551616 * P) * H = P * q * d + P * r := by
  have h4 : P * (H * 18446744073709551616 + x) = P * (q * d + r) := by rw [h1]
  rw [Nat.mul_add, Nat.mul_add] at h4
  rw [Nat.mul_assoc P q d, Nat.mul_comm 18446744073709551616 P, Nat.mul_assoc, Nat.mul_comm 18446744073709551616 H]
  omega
/-- From the highest limb down: what lies above is divided, the rest is carried. -/
theorem nat_DivSmall_l {a : List Int} {d : Int} (ha : ok a) (hd : 0 < d ∧ d < 18446744073709551616) (hl : a.length ≤ 35184372088832) (n : Nat) :
    ∀ (out : List Int) (r : Int), n ≤ a.length → out.length = a.length → ok out → 0 ≤ r ∧ r < d → (∀ t : Nat, t < n → rd out (t : Int) = 0) → Aside0 (val a = val out * d.toNat + B n * r.toNat + val (a.take n)) →
      Ev (fun i j _ => nat_DivSmall.l2037 i j a d r ((n : Int) - 1) out) ((ans (val a / d.toNat)).1, ((val a % d.toNat : Nat) : Int), (ans (val a / d.toNat)).2) := by
  induction n with
  | zero =>
    intro out r _ ho h6 hr _ hv
    refine Ev_succ ?_
    simp only [nat_DivSmall.l2037, nat_DivSmall.b2037, nat_DivSmall.l255, nat_DivSmall.b255]
    refine Ev_neg (by omega) ?_
    have h1 := hv.out
    rw [B_zero, Nat.one_mul, List.take_zero, val_nil, Nat.add_zero] at h1
    have hd0 : 0 < d.toNat := by omega
    have hr0 : r.toNat < d.toNat := by omega
    have e1 : val a / d.toNat = val out := by
      rw [h1, Nat.add_comm, Nat.add_mul_div_right _ _ hd0, Nat.div_eq_of_lt hr0, Nat.zero_add]
    have e2 : val a % d.toNat = r.toNat := by
      rw [h1, Nat.add_comm, Nat.add_mul_mod_self_right, Nat.mod_eq_of_lt hr0]
    rw [e1, e2]
    refine Ev.bind (nat_cut_ev h6 (by omega)) (Ev_some ?_)
    rw [Int.toNat_of_nonneg hr.1]
  | succ n ih =>
    intro out r hn ho h6 hr hz hv
    have e0 : ((n + 1 : Nat) : Int) - 1 = (n : Int) := by omega
    have e1 : wrap64 ((n : Int) - 1) = (n : Int) - 1 := by unfold wrap64; omega
    have ra := ok_rd ha (n : Int)
    refine Ev_succ ?_
    simp only [nat_DivSmall.l2037, nat_DivSmall.b2037, ln_eq, e0, e1, Int.toNat_natCast]
    refine Ev_pos (by omega) (Ev_pos (by omega) (Ev_pos (by omega) ?_))
    refine Ev.bind (div64_ev hr.1 ra hd.2 hr.2) ?_
    refine Ev_pos (by omega) (Ev_pos (by omega) ?_)
    have w0 : 0 ≤ r * 18446744073709551616 + rd a (n : Int) := by omega
    have q0 := Int.ediv_nonneg w0 (show 0 ≤ d by omega)
    have qm := Int.mul_ediv_add_emod (r * 18446744073709551616 + rd a (n : Int)) d
    have r0 := Int.emod_nonneg (r * 18446744073709551616 + rd a (n : Int)) (show d ≠ 0 by omega)
    have r1 := Int.emod_lt_of_pos (r * 18446744073709551616 + rd a (n : Int)) hd.1
    have q1 : (r * 18446744073709551616 + rd a (n : Int)) / d < 18446744073709551616 := by
      refine Int.ediv_lt_of_lt_mul hd.1 ?_
      have : 18446744073709551616 * d = d * 18446744073709551616 := Int.mul_comm _ _
      omega
    have nat1 : r.toNat * 18446744073709551616 + (rd a (n : Int)).toNat = ((r * 18446744073709551616 + rd a (n : Int)) / d).toNat * d.toNat + ((r * 18446744073709551616 + rd a (n : Int)) % d).toNat := by
      rw [← Int.toNat_mul q0 (by omega), Int.mul_comm ((r * 18446744073709551616 + rd a (n : Int)) / d) d]
      have := Int.mul_nonneg (show 0 ≤ d by omega) q0
      omega
    generalize (r * 18446744073709551616 + rd a (n : Int)) / d = q at *
    generalize (r * 18446744073709551616 + rd a (n : Int)) % d = r' at *
    refine ih (out.set n q) r' (by omega) (by rw [List.length_set]; exact ho) (ok_set h6 _ q0 q1) ⟨r0, r1⟩ (fun t ht => ?_) ⟨?_⟩
    · rw [rd_set_ne _ _ _ _ (by omega)]
      exact hz t (by omega)
    · have h1 := val_set out n q (by omega)
      rw [hz n (by omega)] at h1
      simp only [Int.toNat_zero, Nat.mul_zero, Nat.add_zero] at h1
      rw [h1, hv.out, B_succ, val_take_succ, Nat.add_mul]
      have := div_row (P := B n) nat1 (T := 0) (by simp)
      omega
/-- What DivSmall answers. -/
def divAns (a : Nat) (d : Int) : List Int × Int × Int := if a < B 4096 then (if d = 0 then ([], 0, 4) else (lim (a / d.toNat), ((a % d.toNat : Nat) : Int), 0)) else ([], 0, 2)
theorem nat_DivSmall_ev {a : List Int} {d : Int} (ha : ok a) (hla : a.length ≤ 9223372036854775807) (hd : 0 ≤ d ∧ d < 18446744073709551616) : Ev (fun k _ _ => nat_DivSmall.f k a d) (divAns (val a) d) := by
  simp only [nat_DivSmall.f, nat_DivSmall.b0, ln_eq]
  refine Ev.bind (nat_big_ev ha hla) ?_
  unfold divAns
  by_cases h1 : val a < B 4096
  · rw [if_pos h1]
    refine Ev_neg (by simp [h1]) ?_
    by_cases h0 : d = 0
    · exact Ev_pos h0 (Ev_some (by rw [if_pos h0]))
    · refine Ev_neg h0 ?_
      rw [if_neg h0]
      have sa := lim_len_val_le ha
      have ta := (lim_len_le (val a) 4096).2 h1
      refine Ev.bind (nat_size_ev ha hla) (Ev_pos (by omega) (Ev_pos (by omega) (Ev_bind_some ?_)))
      simp only [Int.toNat_natCast, take_lim ha]
      refine Ev_pos (by omega) (Ev_pos (by omega) ?_)
      have e : wrap64 (((lim (val a)).length : Int) - 1) = ((lim (val a)).length : Int) - 1 := by unfold wrap64; omega
      rw [e]
      have := nat_DivSmall_l (ok_lim (val a)) (d := d) (by omega) (by omega) (lim (val a)).length (List.replicate (lim (val a)).length 0) 0 (Nat.le_refl _) (by simp) (ok_replicate _) (by omega) (fun t _ => by rw [rd_nat, List.getD_eq_getElem?_getD, List.getElem?_replicate]; split <;> rfl) ⟨by simp [val_replicate, val_lim]⟩
      have hq : val a / d.toNat < B 4096 := Nat.lt_of_le_of_lt (Nat.div_le_self _ _) h1
      rw [val_lim, ans, if_pos hq] at this
      exact Ev_in (g := fun i j _ => nat_DivSmall.l2037 i j _ d 0 _ _) this
  · rw [if_neg h1]
    exact Ev_pos (by simp [h1]) (Ev_some rfl)
end Go.Proofs.YtcacmhcekoeblaaDoor.Div
