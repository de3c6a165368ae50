/- The rounding of binary numbers to doubles: the double that is nearest, the even one of two (plain laws, no program). No conditions. -/
import Derived.Test.YtcacmhcekoeblaaDoorQLB
namespace Go.Proofs.YtcacmhcekoeblaaDoor.Rnd
open Go.RowKit Go.Proofs.YtcacmhcekoeblaaDoor.Lib Go.Proofs.YtcacmhcekoeblaaDoor.LibB
open Go.Proofs.YtcacmhcekoeblaaDoorA (rd ln ln_eq mx mn shl shr wr wr_eq)
set_option linter.unusedVariables false
set_option linter.unusedSimpArgs false

/-- The exponent of the last bit of the double next to n * 2^e. -/
def unitOf (n : Nat) (e : Int) : Int := if (blen n : Int) + e - 53 < -1074 then -1074 else (blen n : Int) + e - 53
/-- Whether n / 2^m is rounded up: to the nearest, to the even one of two; more says that something lies below n. -/
def upB (n m : Nat) (more : Bool) : Prop := n / 2 ^ (m - 1) % 2 = 1 ∧ (more = true ∨ n / 2 ^ m % 2 = 1 ∨ tz n + 1 < m)
instance (n m : Nat) (more : Bool) : Decidable (upB n m more) := inferInstanceAs (Decidable (_ ∧ _))
/-- The place of the double nearest to n * 2^e. -/
def rnd (n : Nat) (e : Int) (more : Bool) : Nat :=
  if n = 0 ∨ (blen n : Int) + e < -1074 then 0
  else if (blen n : Int) + e > 1024 then 9218868437227405312
  else if unitOf n e ≤ e then (unitOf n e + 1074).toNat * 4503599627370496 + n * 2 ^ (e - unitOf n e).toNat
  else (unitOf n e + 1074).toNat * 4503599627370496 + n / 2 ^ (unitOf n e - e).toNat + (if upB n (unitOf n e - e).toNat more then 1 else 0)

/-! ### the values of places -/
/-- So many 2^-1074 is the double of place p (the infinity's as 2^1024). -/
def uni (p : Nat) : Nat := if p < 4503599627370496 then p else (4503599627370496 + p % 4503599627370496) * 2 ^ (p / 4503599627370496 - 1)
theorem uni_at {k c : Nat} (h : k = 0 ∨ 4503599627370496 ≤ c) (hc : c ≤ 9007199254740992) : uni (k * 4503599627370496 + c) = c * 2 ^ k := by
  unfold uni
  by_cases h1 : c < 4503599627370496
  · obtain rfl : k = 0 := by omega
    rw [if_pos (by omega), Nat.pow_zero]; omega
  · rw [if_neg (by omega)]
    by_cases h2 : c = 9007199254740992
    · subst h2
      rw [show (k * 4503599627370496 + 9007199254740992) % 4503599627370496 = 0 by omega, show (k * 4503599627370496 + 9007199254740992) / 4503599627370496 - 1 = k + 1 by omega, Nat.pow_succ]
      omega
    · rw [show (k * 4503599627370496 + c) % 4503599627370496 = c - 4503599627370496 by omega, show (k * 4503599627370496 + c) / 4503599627370496 - 1 = k by omega, show 4503599627370496 + (c - 4503599627370496) = c by omega]
/-- A place taken apart. -/
theorem place_parts (p : Nat) : ∃ k c, p = k * 4503599627370496 + c ∧ (k = 0 ∨ 4503599627370496 ≤ c) ∧ c < 9007199254740992 ∧ uni p = c * 2 ^ k ∧ uni (p + 1) = (c + 1) * 2 ^ k := by
  by_cases h : p < 4503599627370496
  · refine ⟨0, p, by omega, .inl rfl, by omega, ?_, ?_⟩
    · have := uni_at (k := 0) (c := p) (.inl rfl) (by omega)
      rwa [Nat.zero_mul, Nat.zero_add] at this
    · have := uni_at (k := 0) (c := p + 1) (.inl rfl) (by omega)
      rwa [Nat.zero_mul, Nat.zero_add] at this
  · obtain ⟨k, c, hk, hc⟩ : ∃ k c, p = k * 4503599627370496 + c ∧ 4503599627370496 ≤ c ∧ c < 9007199254740992 := ⟨p / 4503599627370496 - 1, 4503599627370496 + p % 4503599627370496, by omega, by omega, by omega⟩
    refine ⟨k, c, hk, .inr hc.1, hc.2, ?_, ?_⟩
    · rw [hk]; exact uni_at (.inr hc.1) (by omega)
    · rw [hk, Nat.add_assoc]; exact uni_at (.inr (by omega)) (by omega)
theorem uni_lt (p : Nat) : uni p < uni (p + 1) := by
  obtain ⟨k, c, _, _, _, h1, h2⟩ := place_parts p
  rw [h1, h2]
  exact Nat.mul_lt_mul_of_pos_right (Nat.lt_succ_self c) (Nat.pow_pos (by omega))
theorem uni_mono {p q : Nat} (h : p ≤ q) : uni p ≤ uni q := by
  induction q with
  | zero => obtain rfl : p = 0 := by omega
            exact Nat.le_refl _
  | succ q ih =>
    rcases Nat.lt_or_ge p (q + 1) with h1 | h1
    · exact Nat.le_trans (ih (by omega)) (Nat.le_of_lt (uni_lt q))
    · obtain rfl : p = q + 1 := by omega
      exact Nat.le_refl _
theorem uni_smono {p q : Nat} (h : p < q) : uni p < uni q := Nat.lt_of_lt_of_le (uni_lt p) (uni_mono h)
theorem uni_lt_iff {p q : Nat} : uni p < uni q ↔ p < q := ⟨fun h => by
  rcases Nat.lt_or_ge p q with h1 | h1
  · exact h1
  · have := uni_mono h1; omega, uni_smono⟩
theorem uni_le_iff {p q : Nat} : uni p ≤ uni q ↔ p ≤ q := ⟨fun h => by
  rcases Nat.lt_or_ge q p with h1 | h1
  · have := uni_smono h1; omega
  · exact h1, uni_mono⟩
theorem uni_inj {p q : Nat} (h : uni p = uni q) : p = q := Nat.le_antisymm (uni_le_iff.1 (by omega)) (uni_le_iff.1 (by omega))
theorem uni_zero : uni 0 = 0 := rfl
theorem uni_one : uni 1 = 1 := rfl
theorem uni_small {c : Nat} (h : c ≤ 9007199254740992) : uni c = c := by
  have := uni_at (k := 0) (c := c) (.inl rfl) h
  rwa [Nat.zero_mul, Nat.zero_add, Nat.pow_zero, Nat.mul_one] at this
theorem uni_pred {p : Nat} (h : p ≠ 0) : uni (p - 1) < uni p := uni_smono (by omega)
/-- The place of the infinity. -/
def inf : Nat := 9218868437227405312
theorem inf_eq : inf = 2046 * 4503599627370496 + 4503599627370496 := rfl
theorem uni_inf {E : Nat} (hE : E = 2046) : uni inf = 4503599627370496 * 2 ^ E := by
  rw [inf_eq, ← hE]
  exact uni_at (.inr (Nat.le_refl _)) (by omega)

/-! ### what is nearest -/
/-- p is the place of the double nearest to X / Y (counted in 2^-1074), the even one of two; the infinity from the middle on. -/
structure Near (p X Y : Nat) : Prop where
  top : p ≤ inf
  lo : p ≠ 0 → (uni (p - 1) + uni p) * Y ≤ 2 * X
  loe : p ≠ 0 → (uni (p - 1) + uni p) * Y = 2 * X → p % 2 = 0
  hi : p < inf → 2 * X ≤ (uni p + uni (p + 1)) * Y
  hie : p < inf → 2 * X = (uni p + uni (p + 1)) * Y → p % 2 = 0
theorem near_mono {p q X Y X' Y' : Nat} (hY : 0 < Y) (hY' : 0 < Y') (h : Near p X Y) (k : Near q X' Y') (hx : X * Y' ≤ X' * Y) : p ≤ q := by
  rcases Nat.lt_or_ge q p with hlt | hge
  · exfalso
    have h1 := h.lo (by omega)
    have h2 := k.hi (by have := h.top; omega)
    have m1 := uni_mono (show q ≤ p - 1 by omega)
    have m2 := uni_mono (show q + 1 ≤ p by omega)
    have a1 : (uni (p - 1) + uni p) * Y * Y' ≤ 2 * X * Y' := Nat.mul_le_mul_right _ h1
    have a2 : 2 * X' * Y ≤ (uni q + uni (q + 1)) * Y' * Y := Nat.mul_le_mul_right _ h2
    have a3 : (uni q + uni (q + 1)) * (Y * Y') ≤ (uni (p - 1) + uni p) * (Y * Y') := Nat.mul_le_mul_right _ (by omega)
    rw [Nat.mul_assoc] at a1 a2
    rw [Nat.mul_assoc, Nat.mul_comm Y' Y] at a2
    rw [Nat.mul_assoc] at a1
    have hpos : 0 < Y * Y' := Nat.mul_pos hY hY'
    have e : (uni q + uni (q + 1)) * (Y * Y') = (uni (p - 1) + uni p) * (Y * Y') := by omega
    have e2 := Nat.eq_of_mul_eq_mul_right hpos e
    have hq : q = p - 1 := by
      rcases Nat.lt_or_ge q (p - 1) with h3 | h3
      · have := uni_smono h3; omega
      · omega
    have b1 : (uni (p - 1) + uni p) * Y = 2 * X := by
      have : (uni (p - 1) + uni p) * Y * Y' = 2 * X * Y' := by rw [Nat.mul_assoc, Nat.mul_assoc]; omega
      exact Nat.eq_of_mul_eq_mul_right hY' this
    have b2 : 2 * X' = (uni q + uni (q + 1)) * Y' := by
      have : 2 * X' * Y = (uni q + uni (q + 1)) * Y' * Y := by rw [Nat.mul_assoc, Nat.mul_assoc, Nat.mul_comm Y' Y]; omega
      exact Nat.eq_of_mul_eq_mul_right hY this
    have c1 := h.loe (by omega) b1
    have c2 := k.hie (by have := h.top; omega) b2
    omega
  · exact hge
theorem near_unique {p q X Y X' Y' : Nat} (hY : 0 < Y) (hY' : 0 < Y') (h : Near p X Y) (k : Near q X' Y') (hx : X * Y' = X' * Y) : p = q :=
  Nat.le_antisymm (near_mono hY hY' h k (Nat.le_of_eq hx)) (near_mono hY' hY k h (Nat.le_of_eq hx.symm))
theorem near_congr {p X Y X' Y' : Nat} (hY : 0 < Y) (hY' : 0 < Y') (h : Near p X Y) (hx : X * Y' = X' * Y) : Near p X' Y' := by
  have t : ∀ s : Nat, s * Y' * Y = s * Y * Y' := fun s => Nat.mul_right_comm s Y' Y
  have tx : 2 * X' * Y = 2 * X * Y' := by rw [Nat.mul_assoc, Nat.mul_assoc, hx]
  refine ⟨h.top, fun hp => ?_, fun hp he => ?_, fun hp => ?_, fun hp he => ?_⟩
  · refine Nat.le_of_mul_le_mul_right ?_ hY
    rw [t, tx]; exact Nat.mul_le_mul_right _ (h.lo hp)
  · refine h.loe hp (Nat.eq_of_mul_eq_mul_right hY' ?_)
    rw [← t, he, tx]
  · refine Nat.le_of_mul_le_mul_right ?_ hY
    rw [t, tx]; exact Nat.mul_le_mul_right _ (h.hi hp)
  · refine h.hie hp (Nat.eq_of_mul_eq_mul_right hY' ?_)
    rw [← t, ← he, tx]
/-- Strictly between the middles. -/
theorem near_strict {p X Y : Nat} (ht : p ≤ inf) (lo : p ≠ 0 → (uni (p - 1) + uni p) * Y < 2 * X) (hi : p < inf → 2 * X < (uni p + uni (p + 1)) * Y) : Near p X Y :=
  ⟨ht, fun h => Nat.le_of_lt (lo h), fun h e => by have := lo h; omega, fun h => Nat.le_of_lt (hi h), fun h e => by have := hi h; omega⟩
theorem near_exact {p Y : Nat} (hY : 0 < Y) (ht : p ≤ inf) : Near p (uni p * Y) Y := by
  refine near_strict ht (fun h => ?_) (fun h => ?_)
  · have := uni_pred h
    rw [← Nat.mul_assoc]
    exact Nat.mul_lt_mul_of_pos_right (by omega) hY
  · have := uni_lt p
    rw [← Nat.mul_assoc]
    exact Nat.mul_lt_mul_of_pos_right (by omega) hY
/-- Below half of the least double. -/
theorem near_zero {X Y : Nat} (h : 2 * X < Y) : Near 0 X Y := by
  refine near_strict (Nat.zero_le _) (fun h => absurd rfl h) (fun _ => ?_)
  rw [uni_zero, uni_one]; omega
/-- From the infinity's own value on. -/
theorem near_inf {X Y : Nat} (hY : 0 < Y) (h : uni inf * Y ≤ X) : Near inf X Y := by
  refine near_strict (Nat.le_refl _) (fun h0 => ?_) (fun h0 => absurd h0 (Nat.lt_irrefl _))
  have h1 := uni_pred h0
  have : (uni (inf - 1) + uni inf) * Y < (2 * uni inf) * Y := Nat.mul_lt_mul_of_pos_right (by omega) hY
  rw [Nat.mul_assoc] at this
  omega

/-! ### the rounding -/
theorem up_iff {n m : Nat} {more : Bool} (hn : n ≠ 0) (hm : 0 < m) : upB n m more ↔ 2 ^ (m - 1) ≤ n % 2 ^ m ∧ (more = true ∨ n / 2 ^ m % 2 = 1 ∨ n % 2 ^ m ≠ 2 ^ (m - 1)) := by
  obtain ⟨j, rfl⟩ : ∃ j, m = j + 1 := ⟨m - 1, by omega⟩
  unfold upB
  rw [Nat.add_sub_cancel]
  have hp : 0 < 2 ^ j := Nat.pow_pos (by omega)
  have e : n % 2 ^ (j + 1) = n % 2 ^ j + 2 ^ j * (n / 2 ^ j % 2) := by rw [Nat.pow_succ, Nat.mod_mul]
  have hl := Nat.mod_lt n hp
  have ht := tz_dvd hn j
  rw [e]
  rcases Nat.mod_two_eq_zero_or_one (n / 2 ^ j) with h | h
  · rw [h, Nat.mul_zero]
    constructor
    · intro h2; omega
    · intro h2; omega
  · rw [h, Nat.mul_one]
    constructor
    · rintro ⟨_, h2⟩
      refine ⟨by omega, h2.imp_right (fun h3 => h3.imp_right (fun h4 h5 => ?_))⟩
      have := ht.1 (by omega)
      omega
    · rintro ⟨_, h2⟩
      refine ⟨rfl, h2.imp_right (fun h3 => h3.imp_right (fun h4 => ?_))⟩
      rcases Nat.lt_or_ge (tz n + 1) (j + 1) with h5 | h5
      · exact h5
      · have := ht.2 (by omega)
        omega
/-- c times 2^k, c one of q and q + 1, against n * 2^k / 2^m, n being q * 2^m and r. -/
theorem near_step {k m n q r : Nat} (hm : 0 < m) (hn : n = q * 2 ^ m + r) (hr : r < 2 ^ m) (hk : k = 0 ∨ 4503599627370496 ≤ q) (hq : q < 9007199254740992) (up : Bool) (ht : k * 4503599627370496 + q + (if up then 1 else 0) ≤ inf)
    (h1 : up = true → 2 ^ (m - 1) ≤ r ∧ (r = 2 ^ (m - 1) → q % 2 = 1)) (h0 : up = false → r ≤ 2 ^ (m - 1) ∧ (r = 2 ^ (m - 1) → q % 2 = 0)) :
    Near (k * 4503599627370496 + q + (if up then 1 else 0)) (n * 2 ^ k) (2 ^ m) := by
  have u0 := uni_at (k := k) (c := q) hk (by omega)
  have u1 := uni_at (k := k) (c := q + 1) (by omega) (by omega)
  have hK : 0 < 2 ^ k := Nat.pow_pos (by omega)
  have hM : 0 < 2 ^ m := Nat.pow_pos (by omega)
  have hh : 2 ^ m = 2 * 2 ^ (m - 1) := by
    obtain ⟨j, rfl⟩ : ∃ j, m = j + 1 := ⟨m - 1, by omega⟩
    rw [Nat.pow_succ, Nat.add_sub_cancel, Nat.mul_comm]
  -- both middles in one: (2q + 1) * 2^k
  have mid : ∀ t : Nat, (q * 2 ^ k + (q + 1) * 2 ^ k) * 2 ^ m = (2 * q * 2 ^ m + 2 ^ m) * 2 ^ k := by
    intro _
    rw [← Nat.add_mul, Nat.mul_right_comm, show q + (q + 1) = 2 * q + 1 by omega, Nat.add_mul (2 * q), Nat.one_mul]
  have two : 2 * (n * 2 ^ k) = (2 * q * 2 ^ m + 2 * r) * 2 ^ k := by
    rw [← Nat.mul_assoc, hn, Nat.mul_add, ← Nat.mul_assoc]
  cases up with
  | true =>
    obtain ⟨g1, g2⟩ := h1 rfl
    simp only [if_true] at ht ⊢
    have e1 : k * 4503599627370496 + q + 1 - 1 = k * 4503599627370496 + q := by omega
    have u1' : uni (k * 4503599627370496 + q + 1) = (q + 1) * 2 ^ k := by rw [Nat.add_assoc]; exact u1
    refine ⟨ht, fun _ => ?_, fun _ he => ?_, fun _ => ?_, fun _ he => ?_⟩
    · rw [e1, u0, u1', mid 0, two]
      exact Nat.mul_le_mul_right _ (by omega)
    · rw [e1, u0, u1', mid 0, two] at he
      have := Nat.eq_of_mul_eq_mul_right hK he
      have := g2 (by omega)
      omega
    · have l := uni_lt (k * 4503599627370496 + q + 1)
      rw [u1'] at l ⊢
      have l2 : (2 * ((q + 1) * 2 ^ k)) * 2 ^ m ≤ ((q + 1) * 2 ^ k + uni (k * 4503599627370496 + q + 1 + 1)) * 2 ^ m := Nat.mul_le_mul_right _ (by omega)
      refine Nat.le_trans ?_ l2
      rw [two, show 2 * ((q + 1) * 2 ^ k) * 2 ^ m = (2 * q * 2 ^ m + 2 * 2 ^ m) * 2 ^ k by rw [← Nat.mul_assoc 2, Nat.mul_right_comm, Nat.mul_add 2, Nat.add_mul (2 * q)]]
      exact Nat.mul_le_mul_right _ (by omega)
    · exfalso
      have l := uni_lt (k * 4503599627370496 + q + 1)
      rw [u1'] at l he
      have l2 : (2 * ((q + 1) * 2 ^ k)) * 2 ^ m ≤ ((q + 1) * 2 ^ k + uni (k * 4503599627370496 + q + 1 + 1)) * 2 ^ m := Nat.mul_le_mul_right _ (by omega)
      rw [← he, two, show 2 * ((q + 1) * 2 ^ k) * 2 ^ m = (2 * q * 2 ^ m + 2 * 2 ^ m) * 2 ^ k by rw [← Nat.mul_assoc 2, Nat.mul_right_comm, Nat.mul_add 2, Nat.add_mul (2 * q)]] at l2
      have := Nat.le_of_mul_le_mul_right l2 hK
      omega
  | false =>
    obtain ⟨g1, g2⟩ := h0 rfl
    simp only [Bool.false_eq_true, if_false, Nat.add_zero] at ht ⊢
    have u1' : uni (k * 4503599627370496 + q + 1) = (q + 1) * 2 ^ k := by rw [Nat.add_assoc]; exact u1
    have low : k * 4503599627370496 + q ≠ 0 → (uni (k * 4503599627370496 + q - 1) + uni (k * 4503599627370496 + q)) * 2 ^ m < 2 * (n * 2 ^ k) := by
      intro h
      have l := uni_pred h
      rw [u0] at l ⊢
      have l2 : (uni (k * 4503599627370496 + q - 1) + q * 2 ^ k) * 2 ^ m < (2 * (q * 2 ^ k)) * 2 ^ m := Nat.mul_lt_mul_of_pos_right (by omega) hM
      refine Nat.lt_of_lt_of_le l2 ?_
      rw [two, ← Nat.mul_assoc 2, Nat.mul_right_comm]
      exact Nat.mul_le_mul_right _ (by omega)
    refine ⟨ht, fun h => Nat.le_of_lt (low h), fun h he => by have := low h; omega, fun _ => ?_, fun _ he => ?_⟩
    · rw [u0, u1', mid 0, two]
      exact Nat.mul_le_mul_right _ (by omega)
    · rw [u0, u1', mid 0, two] at he
      have := Nat.eq_of_mul_eq_mul_right hK he
      have := g2 (by omega)
      omega
theorem unit_cases {n : Nat} {e : Int} (hn : n ≠ 0) (h1 : ¬ (blen n : Int) + e < -1074) (h2 : ¬ (blen n : Int) + e > 1024) :
    ∃ k : Nat, (unitOf n e + 1074).toNat = k ∧ unitOf n e = (k : Int) - 1074 ∧ k ≤ 2045 ∧ (k = 0 ∨ (blen n : Int) + e + 1021 = k) ∧ (blen n : Int) + e + 1021 ≤ k := by
  unfold unitOf
  split
  · exact ⟨0, by omega, by omega, by omega, by omega, by omega⟩
  · exact ⟨((blen n : Int) + e + 1021).toNat, by omega, by omega, by omega, by omega, by omega⟩
theorem pow_swap {n a b k m : Nat} (h : a + m = b + k) : n * 2 ^ k * 2 ^ b = n * 2 ^ a * 2 ^ m := by
  rw [Nat.mul_assoc, Nat.mul_assoc, ← Nat.pow_add, ← Nat.pow_add, h, Nat.add_comm b k]
/-- What rounding comes to, below the infinity and above nothing: q or q + 1 last digits. -/
theorem quot_range {n m k : Nat} {e : Int} (hn : n ≠ 0) (hm : (k : Int) - 1074 - e = (m : Int)) (hk : k = 0 ∨ (blen n : Int) + e + 1021 = k) (hk2 : (blen n : Int) + e + 1021 ≤ k) :
    (k = 0 ∨ 4503599627370496 ≤ n / 2 ^ m) ∧ n / 2 ^ m < 9007199254740992 := by
  have hM : 0 < 2 ^ m := Nat.pow_pos (by omega)
  constructor
  · rcases hk with h | h
    · exact .inl h
    · right
      have h1 := blen_ge hn
      rw [show blen n - 1 = 52 + m by omega, Nat.pow_add] at h1
      exact (Nat.le_div_iff_mul_le hM).2 h1
  · have h1 := (blen_le n (53 + m)).1 (by omega)
    rw [Nat.pow_add] at h1
    exact (Nat.div_lt_iff_lt_mul hM).2 h1
theorem place_top {k q : Nat} (h : k ≤ 2045) (hq : q < 9007199254740992) (up : Bool) : k * 4503599627370496 + q + (if up then 1 else 0) ≤ inf := by
  unfold inf
  split <;> omega
/-- THE ROUNDING IS THE NEAREST. -/
theorem rnd_near (n : Nat) (e : Int) {a b : Nat} (hab : (a : Int) - b = e + 1074) : Near (rnd n e false) (n * 2 ^ a) (2 ^ b) := by
  have hB : 0 < 2 ^ b := Nat.pow_pos (by omega)
  unfold rnd
  by_cases h0 : n = 0
  · rw [if_pos (.inl h0), h0, Nat.zero_mul]
    exact near_zero (by omega)
  by_cases h1 : (blen n : Int) + e < -1074
  · rw [if_pos (.inr h1)]
    refine near_zero ?_
    have l := blen_lt n
    have l2 := Nat.mul_lt_mul_of_pos_right l (show 0 < 2 ^ (a + 1) from Nat.pow_pos (by omega))
    rw [← Nat.pow_add] at l2
    have l3 := Nat.pow_le_pow_right (n := 2) (by omega) (show blen n + (a + 1) ≤ b by omega)
    rw [Nat.pow_succ, ← Nat.mul_assoc] at l2
    omega
  rw [if_neg (by omega)]
  by_cases h2 : (blen n : Int) + e > 1024
  · rw [if_pos h2]
    show Near inf _ _
    refine near_inf hB ?_
    obtain ⟨E, hE⟩ : ∃ E, E = 2046 := ⟨_, rfl⟩
    rw [uni_inf hE]
    have g := blen_ge h0
    have g2 := Nat.mul_le_mul_right (2 ^ a) g
    rw [← Nat.pow_add] at g2
    have g3 := Nat.pow_le_pow_right (n := 2) (by omega) (show 52 + (E + b) ≤ blen n - 1 + a by omega)
    rw [Nat.pow_add, Nat.pow_add] at g3
    have e52 : (2 : Nat) ^ 52 = 4503599627370496 := rfl
    rw [e52, ← Nat.mul_assoc] at g3
    omega
  rw [if_neg h2]
  obtain ⟨k, k1, k2, k3, k4, k5⟩ := unit_cases h0 h1 h2
  have bp := (blen_pos (n := n)).2 h0
  rw [k1]
  have hB2 : 0 < 2 ^ b := hB
  by_cases h3 : unitOf n e ≤ e
  · rw [if_pos h3]
    obtain ⟨j, hj⟩ : ∃ j : Nat, e - unitOf n e = (j : Int) := ⟨(e - unitOf n e).toNat, by omega⟩
    rw [hj, Int.toNat_natCast]
    have hc : n * 2 ^ j < 9007199254740992 := by
      have := (blen_le (n * 2 ^ j) 53).1 (by rw [blen_mul_pow h0]; omega)
      exact this
    have hk : k = 0 ∨ 4503599627370496 ≤ n * 2 ^ j := by
      rcases k4 with h | h
      · exact .inl h
      · right
        have g := blen_ge h0
        have g2 := Nat.mul_le_mul_right (2 ^ j) g
        rw [← Nat.pow_add, show blen n - 1 + j = 52 by omega] at g2
        exact g2
    have hu := uni_at (k := k) (c := n * 2 ^ j) hk (by omega)
    have := near_exact (p := k * 4503599627370496 + n * 2 ^ j) hB (by unfold inf; omega)
    rw [hu, Nat.mul_assoc n, ← Nat.pow_add, Nat.mul_assoc n, ← Nat.pow_add, show j + k + b = a by omega] at this
    exact this
  · rw [if_neg h3]
    obtain ⟨m, hm⟩ : ∃ m : Nat, unitOf n e - e = (m : Int) := ⟨(unitOf n e - e).toNat, by omega⟩
    rw [hm, Int.toNat_natCast]
    have hm0 : 0 < m := by omega
    obtain ⟨q1, q2⟩ := quot_range (m := m) h0 (by omega) k4 k5
    have hup := up_iff (more := false) h0 hm0
    have hM : 0 < 2 ^ m := Nat.pow_pos (by omega)
    have hr := Nat.mod_lt n hM
    have hdm := Nat.div_add_mod n (2 ^ m)
    rw [Nat.mul_comm] at hdm
    have s := near_step (k := k) (m := m) (n := n) (q := n / 2 ^ m) (r := n % 2 ^ m) hm0 hdm.symm hr q1 q2 (decide (upB n m false)) (place_top k3 q2 _)
      (fun h => by
        have h4 := hup.1 (of_decide_eq_true h)
        refine ⟨h4.1, fun h5 => ?_⟩
        rcases h4.2 with h6 | h6 | h6
        · cases h6
        · exact h6
        · exact absurd h5 h6)
      (fun h => by
        have h4 := of_decide_eq_false h
        rw [hup] at h4
        rcases Nat.lt_or_ge (n % 2 ^ m) (2 ^ (m - 1)) with h5 | h5
        · exact ⟨by omega, fun h6 => by omega⟩
        · have h6 : n % 2 ^ m = 2 ^ (m - 1) := by
            rcases Nat.eq_or_lt_of_le h5 with h7 | h7
            · exact h7.symm
            · exact absurd ⟨h5, .inr (.inr (by omega))⟩ h4
          refine ⟨by omega, fun _ => ?_⟩
          rcases Nat.mod_two_eq_zero_or_one (n / 2 ^ m) with h7 | h7
          · exact h7
          · exact absurd ⟨h5, .inr (.inl h7)⟩ h4)
    simp only [decide_eq_true_eq] at s
    exact near_congr hM hB s (pow_swap (by omega))
/-- The rounding of something just above n * 2^e: where digits are cut off, it is nearest to all that lies between n and n + 1. -/
theorem rnd_more (n : Nat) (e : Int) {a b X Y : Nat} (hab : (a : Int) - b = e + 1074) (hn : n ≠ 0) (hY : 0 < Y) (hu : (blen n : Int) + e > 1024 ∨ e < unitOf n e) (h1 : n * 2 ^ a * Y < X * 2 ^ b) (h2 : X * 2 ^ b < (n + 1) * 2 ^ a * Y) :
    Near (rnd n e true) X Y := by
  have hB : 0 < 2 ^ b := Nat.pow_pos (by omega)
  unfold rnd
  by_cases g1 : (blen n : Int) + e < -1074
  · rw [if_pos (.inr g1)]
    refine near_zero ?_
    have l : n + 1 ≤ 2 ^ blen n := blen_lt n
    have l2 := Nat.mul_le_mul_right (2 ^ (a + 1)) l
    rw [← Nat.pow_add] at l2
    have l3 := Nat.pow_le_pow_right (n := 2) (by omega) (show blen n + (a + 1) ≤ b by omega)
    have l4 : (n + 1) * 2 ^ (a + 1) ≤ 2 ^ b := Nat.le_trans l2 l3
    rw [Nat.pow_succ, ← Nat.mul_assoc] at l4
    have l5 := Nat.mul_le_mul_right Y l4
    have l6 : (2 * X) * 2 ^ b < Y * 2 ^ b := by
      rw [Nat.mul_assoc, Nat.mul_comm Y]
      have : (n + 1) * 2 ^ a * 2 * Y = 2 * ((n + 1) * 2 ^ a * Y) := by rw [Nat.mul_right_comm, Nat.mul_comm]
      omega
    exact Nat.lt_of_mul_lt_mul_right l6
  rw [if_neg (by omega)]
  by_cases g2 : (blen n : Int) + e > 1024
  · rw [if_pos g2]
    show Near inf _ _
    refine near_inf hY ?_
    obtain ⟨E, hE⟩ : ∃ E, E = 2046 := ⟨_, rfl⟩
    rw [uni_inf hE]
    have g := blen_ge hn
    have g2 := Nat.mul_le_mul_right (2 ^ a) g
    rw [← Nat.pow_add] at g2
    have g3 := Nat.pow_le_pow_right (n := 2) (by omega) (show 52 + (E + b) ≤ blen n - 1 + a by omega)
    rw [Nat.pow_add, Nat.pow_add] at g3
    have e52 : (2 : Nat) ^ 52 = 4503599627370496 := rfl
    rw [e52, ← Nat.mul_assoc] at g3
    have g4 : 4503599627370496 * 2 ^ E * 2 ^ b * Y ≤ n * 2 ^ a * Y := Nat.mul_le_mul_right _ (by omega)
    refine Nat.le_of_lt (Nat.lt_of_mul_lt_mul_right (a := 2 ^ b) ?_)
    rw [Nat.mul_right_comm _ Y]
    omega
  rw [if_neg g2]
  obtain ⟨k, k1, k2, k3, k4, k5⟩ := unit_cases hn g1 g2
  rw [k1]
  have h3 : ¬ unitOf n e ≤ e := by omega
  rw [if_neg h3]
  obtain ⟨m, hm⟩ : ∃ m : Nat, unitOf n e - e = (m : Int) := ⟨(unitOf n e - e).toNat, by omega⟩
  rw [hm, Int.toNat_natCast]
  have hm0 : 0 < m := by omega
  obtain ⟨q1, q2⟩ := quot_range (m := m) hn (by omega) k4 k5
  have hup := up_iff (more := true) hn hm0
  have hM : 0 < 2 ^ m := Nat.pow_pos (by omega)
  have hK : 0 < 2 ^ k := Nat.pow_pos (by omega)
  have hr := Nat.mod_lt n hM
  have hdm := Nat.div_add_mod n (2 ^ m)
  rw [Nat.mul_comm] at hdm
  have hh : 2 ^ m = 2 * 2 ^ (m - 1) := by
    obtain ⟨j, rfl⟩ : ∃ j, m = j + 1 := ⟨m - 1, by omega⟩
    rw [Nat.pow_succ, Nat.add_sub_cancel, Nat.mul_comm]
  -- the same between n and n + 1, counted by 2^k / 2^m
  have s1 : n * 2 ^ k * Y < X * 2 ^ m := by
    refine Nat.lt_of_mul_lt_mul_right (a := 2 ^ b) ?_
    rw [Nat.mul_right_comm _ Y, pow_swap (n := n) (k := k) (b := b) (a := a) (m := m) (by omega), Nat.mul_right_comm X, Nat.mul_right_comm _ _ Y]
    exact Nat.mul_lt_mul_of_pos_right h1 hM
  have s2 : X * 2 ^ m < (n + 1) * 2 ^ k * Y := by
    refine Nat.lt_of_mul_lt_mul_right (a := 2 ^ b) ?_
    rw [Nat.mul_right_comm _ Y, pow_swap (n := n + 1) (k := k) (b := b) (a := a) (m := m) (by omega), Nat.mul_right_comm X, Nat.mul_right_comm _ _ Y]
    exact Nat.mul_lt_mul_of_pos_right h2 hM
  have u0 := uni_at (k := k) (c := n / 2 ^ m) q1 (by omega)
  have u1 := uni_at (k := k) (c := n / 2 ^ m + 1) (by omega) (by omega)
  have u1' : uni (k * 4503599627370496 + n / 2 ^ m + 1) = (n / 2 ^ m + 1) * 2 ^ k := by rw [Nat.add_assoc]; exact u1
  generalize hq : n / 2 ^ m = q at *
  generalize hrr : n % 2 ^ m = r at *
  have mid : (q * 2 ^ k + (q + 1) * 2 ^ k) * Y * 2 ^ m = (2 * q * 2 ^ m + 2 ^ m) * 2 ^ k * Y := by
    rw [← Nat.add_mul, show q + (q + 1) = 2 * q + 1 by omega, Nat.mul_right_comm _ Y, Nat.mul_right_comm (2 * q + 1), Nat.add_mul (2 * q), Nat.one_mul]
  have t1 : (2 * q * 2 ^ m + 2 * r) * 2 ^ k * Y < 2 * X * 2 ^ m := by
    have : (2 * q * 2 ^ m + 2 * r) * 2 ^ k * Y = 2 * (n * 2 ^ k * Y) := by rw [← hdm, ← Nat.mul_assoc, ← Nat.mul_assoc, Nat.mul_add 2, ← Nat.mul_assoc 2 q]
    rw [this, Nat.mul_assoc 2]
    omega
  have t2 : 2 * X * 2 ^ m < (2 * q * 2 ^ m + 2 * r + 2) * 2 ^ k * Y := by
    have : (2 * q * 2 ^ m + 2 * r + 2) * 2 ^ k * Y = 2 * ((n + 1) * 2 ^ k * Y) := by rw [← hdm, ← Nat.mul_assoc, ← Nat.mul_assoc, Nat.mul_add 2, Nat.mul_add 2 (q * 2 ^ m), ← Nat.mul_assoc 2 q]
    rw [this, Nat.mul_assoc 2]
    omega
  have big : ∀ x y : Nat, x ≤ y → x * 2 ^ k * Y ≤ y * 2 ^ k * Y := fun x y h => Nat.mul_le_mul_right _ (Nat.mul_le_mul_right _ h)
  by_cases hU : upB n m true
  · rw [if_pos hU]
    have g := (hup.1 hU).1
    have ht := place_top k3 q2 true
    simp only [if_true] at ht
    refine near_strict ht (fun _ => ?_) (fun _ => ?_)
    · rw [show k * 4503599627370496 + q + 1 - 1 = k * 4503599627370496 + q by omega, u0, u1']
      refine Nat.lt_of_mul_lt_mul_right (a := 2 ^ m) ?_
      rw [mid]
      exact Nat.lt_of_le_of_lt (big _ _ (by omega)) t1
    · have l := uni_lt (k * 4503599627370496 + q + 1)
      rw [u1'] at l ⊢
      refine Nat.lt_of_mul_lt_mul_right (a := 2 ^ m) ?_
      refine Nat.lt_of_lt_of_le t2 ?_
      have l2 : 2 * ((q + 1) * 2 ^ k) * Y * 2 ^ m ≤ ((q + 1) * 2 ^ k + uni (k * 4503599627370496 + q + 1 + 1)) * Y * 2 ^ m := Nat.mul_le_mul_right _ (Nat.mul_le_mul_right _ (by omega))
      refine Nat.le_trans ?_ l2
      rw [show 2 * ((q + 1) * 2 ^ k) * Y * 2 ^ m = (2 * q * 2 ^ m + 2 * 2 ^ m) * 2 ^ k * Y by rw [← Nat.mul_assoc 2, Nat.mul_right_comm _ Y, Nat.mul_right_comm _ (2 ^ k), Nat.mul_add 2, Nat.add_mul (2 * q)]]
      exact big _ _ (by omega)
  · rw [if_neg hU, Nat.add_zero]
    have g : r < 2 ^ (m - 1) := by
      rcases Nat.lt_or_ge r (2 ^ (m - 1)) with h | h
      · exact h
      · exact absurd (hup.2 ⟨h, .inl rfl⟩) hU
    have ht := place_top k3 q2 false
    simp only [Bool.false_eq_true, if_false, Nat.add_zero] at ht
    refine near_strict ht (fun h => ?_) (fun _ => ?_)
    · have l := uni_pred h
      rw [u0] at l ⊢
      refine Nat.lt_of_mul_lt_mul_right (a := 2 ^ m) ?_
      have l2 : (uni (k * 4503599627370496 + q - 1) + q * 2 ^ k) * Y * 2 ^ m ≤ 2 * (q * 2 ^ k) * Y * 2 ^ m := Nat.mul_le_mul_right _ (Nat.mul_le_mul_right _ (by omega))
      refine Nat.lt_of_le_of_lt l2 (Nat.lt_of_le_of_lt ?_ t1)
      rw [show 2 * (q * 2 ^ k) * Y * 2 ^ m = (2 * q * 2 ^ m) * 2 ^ k * Y by rw [← Nat.mul_assoc 2, Nat.mul_right_comm _ Y, Nat.mul_right_comm _ (2 ^ k)]]
      exact big _ _ (by omega)
    · rw [u0, u1']
      refine Nat.lt_of_mul_lt_mul_right (a := 2 ^ m) ?_
      rw [mid]
      exact Nat.lt_of_lt_of_le t2 (big _ _ (by omega))
/-- Every c * 2^k with c of 53 digits is a double's value. -/
theorem uni_rep (k : Nat) : ∀ c, c ≤ 9007199254740992 → k ≤ 2045 → ∃ p, p ≤ inf ∧ uni p = c * 2 ^ k := by
  induction k with
  | zero => intro c hc _; exact ⟨c, by unfold inf; omega, by rw [uni_small hc, Nat.pow_zero, Nat.mul_one]⟩
  | succ k ih =>
    intro c hc hk
    by_cases h : 4503599627370496 ≤ c
    · exact ⟨(k + 1) * 4503599627370496 + c, by unfold inf; omega, uni_at (.inr h) hc⟩
    · obtain ⟨p, h1, h2⟩ := ih (2 * c) (by omega) (by omega)
      exact ⟨p, h1, by rw [h2, Nat.pow_succ, Nat.mul_comm 2, Nat.mul_assoc, Nat.mul_comm 2]⟩
/-- What is a double's value is rounded to that double. -/
theorem rnd_exact {n p a b : Nat} {e : Int} (hab : (a : Int) - b = e + 1074) (hp : p ≤ inf) (h : n * 2 ^ a = uni p * 2 ^ b) : rnd n e false = p := by
  have hB : 0 < 2 ^ b := Nat.pow_pos (by omega)
  exact near_unique hB hB (rnd_near n e hab) (near_exact hB hp) (by rw [h])
/-- Far exponents decide alone. -/
theorem rnd_far {n : Nat} {e : Int} {more : Bool} (h : blen n ≤ 262144) : rnd n (if (if e < 1099511627776 then e else 1099511627776) < -1099511627776 then -1099511627776 else (if e < 1099511627776 then e else 1099511627776)) more = rnd n e more := by
  by_cases h1 : e < -1099511627776
  · rw [if_pos (show e < 1099511627776 by omega), if_pos h1]
    unfold rnd
    rw [if_pos (.inr (by omega)), if_pos (.inr (by omega))]
  · by_cases h2 : e < 1099511627776
    · rw [if_pos h2, if_neg h1]
    · rw [if_neg h2, if_neg (by omega)]
      by_cases h0 : n = 0
      · unfold rnd; rw [if_pos (.inl h0), if_pos (.inl h0)]
      · have A : ∀ e' : Int, 1099511627776 ≤ e' → rnd n e' more = 9218868437227405312 := by
          intro e' he
          unfold rnd
          rw [if_neg (by omega), if_pos (by omega)]
        rw [A _ (by omega), A _ (by omega)]
end Go.Proofs.YtcacmhcekoeblaaDoor.Rnd
