/- What the fourth reference computes: the parts of a double, and the rounding of a fraction by a search among all doubles. Conditions: naturals of sizes that there are, exponents up to 2^20. -/
import Derived.Test.YtobocamcoaeliaaGreatDoorQR1
import Derived.Test.YtobocamcoaeliaaGreatDoorQIeee2
namespace Go.Proofs.YtobocamcoaeliaaGreatDoor.R4
open Go.RowKit Go.Proofs.YtobocamcoaeliaaGreatDoor.Lib Go.Proofs.YtobocamcoaeliaaGreatDoor.LibB Go.Proofs.YtobocamcoaeliaaGreatDoor.F Go.Proofs.YtobocamcoaeliaaGreatDoor.Nat1 Go.Proofs.YtobocamcoaeliaaGreatDoor.Nat2 Go.Proofs.YtobocamcoaeliaaGreatDoor.Bits Go.Proofs.YtobocamcoaeliaaGreatDoor.Ieee1 Go.Proofs.YtobocamcoaeliaaGreatDoor.Mag Go.Proofs.YtobocamcoaeliaaGreatDoor.Ieee2 Go.Proofs.YtobocamcoaeliaaGreatDoor.Rnd Go.Proofs.YtobocamcoaeliaaGreatDoor.R1
open Go.Proofs.YtobocamcoaeliaaGreatDoorA (rd ln ln_eq mx mn shl shr wr wr_eq)
set_option linter.unusedVariables false
set_option linter.unusedSimpArgs false
theorem tmodn {d : Int} (h : 0 ≤ d) (n : Int) : Int.tmod d n = d % n := Int.tmod_eq_emod_of_nonneg h
theorem tdivn {d : Int} (h : 0 ≤ d) (n : Int) : Int.tdiv d n = d / n := Int.tdiv_eq_ediv_of_nonneg h
theorem rDecode_eq {d : Int} (h : U d) : abacusref04_Decode.f d = some (sgn d, cls d, manOf d, expOf d) := by
  have h1 := h.1
  have h2 := h.2
  unfold abacusref04_Decode.f abacusref04_Decode.b0
  have e1 : IntKind.u64.wrap (Int.tdiv d 4503599627370496) = d / 4503599627370496 := by rw [tdivn h1, IntKind.wrap_u64]; omega
  have e2 : wrap64 (Int.tmod (d / 4503599627370496) 2048) = d / 4503599627370496 % 2048 := by rw [tmodn (by omega)]; unfold wrap64; omega
  have e3 : Int.tmod d 4503599627370496 = d % 4503599627370496 := tmodn h1 _
  have e4 : decide (IntKind.u64.wrap (Int.tdiv d 9223372036854775808) = 1) = sgn d := by
    rw [tdivn h1, IntKind.wrap_u64]; exact decide_eq_decide.2 (by omega)
  rw [e1, e2, e3, e4]
  have e5 : IntKind.u64.wrap (4503599627370496 + d % 4503599627370496) = 4503599627370496 + d % 4503599627370496 := by rw [IntKind.wrap_u64]; omega
  have e6 : wrap64 (d / 4503599627370496 % 2048 - 1075) = d / 4503599627370496 % 2048 - 1075 := by unfold wrap64; omega
  rw [e5, e6]
  by_cases g1 : d / 4503599627370496 % 2048 = 2047
  · rw [if_pos g1]
    by_cases g2 : d % 4503599627370496 = 0
    · have c : cls d = 3 := by unfold cls; rw [if_neg (by omega), if_neg (by omega), if_neg (by omega), if_pos (by omega)]
      rw [if_pos g2, manOf, expOf, c]; rfl
    · have c : cls d = 4 := by unfold cls; rw [if_neg (by omega), if_neg (by omega), if_neg (by omega), if_neg (by omega)]
      rw [if_neg g2, manOf, expOf, c]; rfl
  · rw [if_neg g1]
    by_cases g3 : d / 4503599627370496 % 2048 > 0
    · have c : cls d = 2 := by unfold cls; rw [if_neg (by omega), if_neg (by omega), if_pos (by omega)]
      rw [if_pos g3, manOf, expOf, c]
      congr 5
      omega
    · rw [if_neg g3]
      by_cases g2 : d % 4503599627370496 = 0
      · have c : cls d = 0 := by unfold cls; rw [if_pos (by omega)]
        rw [if_pos g2, manOf, expOf, c]; rfl
      · have c : cls d = 1 := by unfold cls; rw [if_neg (by omega), if_pos (by omega)]
        rw [if_neg g2, manOf, expOf, c]
        congr 4
        show d % 4503599627370496 = d % 9223372036854775808
        omega
/-! ### the search -/
/-- Twice place x's value, or the sum with the next one's, as M * 2^(e - 1075). -/
theorem parts_of (x : Nat) : ∃ k c, uni x = c * 2 ^ k ∧ uni (x + 1) = (c + 1) * 2 ^ k ∧ c < 9007199254740992 ∧ x = k * 4503599627370496 + c ∧ (k = 0 ∨ 4503599627370496 ≤ c) := by
  obtain ⟨k, c, h1, h2, h3, h4, h5⟩ := place_parts x
  exact ⟨k, c, h4, h5, h3, h1, h2⟩
/-- What 'against' holds a fraction against. -/
def wid (x : Nat) (mid : Bool) : Nat := if mid then uni x + uni (x + 1) else 2 * uni x
theorem rlen {n : Nat} (h : n < B 4096) : (lim n).length ≤ 4096 := (lim_len_le n 4096).2 h
theorem lift_len {n k : Nat} (hn : n < B 8192) (hk : k ≤ 4194304) : (lim (n * 2 ^ k)).length ≤ 8388608 := by
  refine (lim_len_le _ _).2 ?_
  obtain ⟨E, hE⟩ : ∃ E, E = 65536 := ⟨_, rfl⟩
  have h1 : 2 ^ k ≤ B E := by rw [B_two]; exact Nat.pow_le_pow_right (by omega) (by omega)
  have h2 := Nat.mul_lt_mul_of_lt_of_le hn h1 (B_pos _)
  rw [← B_add] at h2
  exact Nat.lt_of_lt_of_le h2 (B_mono (by omega))
theorem rcmp_scale {x y c : Nat} (hc : 0 < c) : cmp (x * c) (y * c) = cmp x y := by
  unfold cmp
  have e1 : x * c < y * c ↔ x < y := ⟨fun h => Nat.lt_of_mul_lt_mul_right h, fun h => Nat.mul_lt_mul_of_pos_right h hc⟩
  have e2 : y * c < x * c ↔ y < x := ⟨fun h => Nat.lt_of_mul_lt_mul_right h, fun h => Nat.mul_lt_mul_of_pos_right h hc⟩
  simp only [e1, e2]
theorem B_lt8 {n : Nat} (h : n < B 4096) : n < B 8192 := Nat.lt_of_lt_of_le h (B_mono (by omega))
theorem rcmp {u v : Nat} (hu : (lim u).length ≤ 8388608) (hv : (lim v).length ≤ 8388608) : Ev (fun n _ _ => abacusref01_Cmp.f n (lim u) (lim v)) (cmp u v) := by
  have := rCmp_ev (ok_lim u) (ok_lim v) (by omega) (by omega)
  rwa [val_lim, val_lim] at this
theorem rlift {u j : Nat} (hu : (lim u).length ≤ 8388608) (hj : j ≤ 4194304) : Ev (fun n _ _ => abacusref01_Lift.f n (lim u) (j : Int)) (lim (u * 2 ^ j)) := by
  have := Lift_ev (n := j) (ok_lim u) (by omega) (by omega)
  rwa [val_lim] at this
theorem prod_B {D m : Nat} (hD : D < B 4096) (hm : m < 18446744073709551616) : D * m < B 8192 := by
  have hmB : m ≤ B 1 := by rw [B_one]; omega
  have := Nat.mul_lt_mul_of_lt_of_le hD hmB (B_pos _)
  rw [← B_add] at this
  exact Nat.lt_of_lt_of_le this (B_mono (by omega))
theorem against_tail {N D m k a b j : Nat} {e : Int} (hN : N < B 4096) (hD : D < B 4096) (hm : m < 18446744073709551616) (hk : k ≤ 2046) (he : -1048576 ≤ e ∧ e ≤ 1048576) (hab : (a : Int) - b = e + 1074) :
    Ev (fun n _ _ => abacusref04_against.l255 n (lim N) (lim D) e (m : Int) ((k : Int) - 1075)) (cmp (m * 2 ^ k * (D * 2 ^ b)) (2 * (N * 2 ^ a))) := by
  have tm := Times_ev (a := lim D) (b := [(m : Int)]) (ok_lim D) (by intro y hy; simp only [List.mem_singleton] at hy; subst hy; omega) (by have := rlen hD; omega) (by simp)
  rw [val_lim, show val [(m : Int)] = m by rw [val_cons, val_nil]; simp] at tm
  have hDm := prod_B hD hm
  have lDm : (lim (D * m)).length ≤ 8388608 := Nat.le_trans ((lim_len_le _ 8192).2 hDm) (by omega)
  have lN : (lim N).length ≤ 8388608 := Nat.le_trans (rlen hN) (by omega)
  have two (q : Nat) : 0 < 2 ^ q := Nat.pow_pos (by omega)
  simp only [abacusref04_against.l255, abacusref04_against.b255]
  refine Ev.bind tm ?_
  clear tm hm
  by_cases hg : (k : Int) - 1075 ≥ e
  · obtain ⟨j, hj, hj1, hj2⟩ : ∃ j : Nat, (k : Int) - 1075 - e = (j : Int) ∧ j ≤ 4194304 ∧ k + b = j + (a + 1) := ⟨((k : Int) - 1075 - e).toNat, by omega, by omega, by omega⟩
    have w : wrap64 ((k : Int) - 1075 - e) = (j : Int) := by rw [hj]; unfold wrap64; omega
    rw [w]
    have e1 : m * 2 ^ k * (D * 2 ^ b) = D * m * 2 ^ j * 2 ^ (a + 1) := by
      have : 2 ^ k * 2 ^ b = 2 ^ j * 2 ^ (a + 1) := by rw [← Nat.pow_add, ← Nat.pow_add, hj2]
      rw [Nat.mul_assoc (D * m), ← this]
      simp only [Nat.mul_assoc, Nat.mul_comm, Nat.mul_left_comm]
    have e2 : 2 * (N * 2 ^ a) = N * 2 ^ (a + 1) := by rw [Nat.pow_succ]; simp only [Nat.mul_assoc, Nat.mul_comm, Nat.mul_left_comm]
    rw [e1, e2, rcmp_scale (two _)]
    exact Ev_pos hg (Ev.bind (rlift lDm hj1) (Ev.bind (rcmp (lift_len hDm hj1) lN) (Ev.now _)))
  · obtain ⟨j, hj, hj1, hj2⟩ : ∃ j : Nat, e - ((k : Int) - 1075) = (j : Int) ∧ j ≤ 4194304 ∧ j + (k + b) = a + 1 := ⟨(e - ((k : Int) - 1075)).toNat, by omega, by omega, by omega⟩
    have w : wrap64 (e - ((k : Int) - 1075)) = (j : Int) := by rw [hj]; unfold wrap64; omega
    rw [w]
    have e1 : m * 2 ^ k * (D * 2 ^ b) = D * m * 2 ^ (k + b) := by
      rw [Nat.pow_add]; simp only [Nat.mul_assoc, Nat.mul_comm, Nat.mul_left_comm]
    have e2 : 2 * (N * 2 ^ a) = N * 2 ^ j * 2 ^ (k + b) := by
      rw [Nat.mul_assoc N, ← Nat.pow_add, hj2, Nat.pow_succ]; simp only [Nat.mul_assoc, Nat.mul_comm, Nat.mul_left_comm]
    rw [e1, e2, rcmp_scale (two _)]
    exact Ev_neg hg (Ev.bind (rlift lN hj1) (Ev.bind (rcmp lDm (lift_len (B_lt8 hN) hj1)) (Ev.now _)))
theorem against_mid {N D c k a b : Nat} {mid : Bool} {e kk : Int} (hN : N < B 4096) (hD : D < B 4096) (hc : c < 9007199254740992) (hk : k ≤ 2046) (hkk : kk = (k : Int) - 1074) (he : -1048576 ≤ e ∧ e ≤ 1048576) (hab : (a : Int) - b = e + 1074) :
    Ev (fun n _ _ => abacusref04_against.l31 n mid (lim N) (lim D) e (c : Int) kk) (cmp ((if mid then 2 * c + 1 else 2 * c) * 2 ^ k * (D * 2 ^ b)) (2 * (N * 2 ^ a))) := by
  simp only [abacusref04_against.l31, abacusref04_against.b31]
  have w : wrap64 (kk - 1) = (k : Int) - 1075 := by rw [hkk]; unfold wrap64; omega
  rw [w]
  cases mid with
  | true =>
    have w2 : IntKind.u64.wrap (IntKind.u64.wrap (2 * (c : Int)) + 1) = ((2 * c + 1 : Nat) : Int) := by rw [IntKind.wrap_u64, IntKind.wrap_u64]; omega
    rw [w2]
    exact Ev_pos rfl (against_tail (j := 0) hN hD (by omega) hk he hab)
  | false =>
    have w2 : IntKind.u64.wrap (2 * (c : Int)) = ((2 * c : Nat) : Int) := by rw [IntKind.wrap_u64]; omega
    rw [w2]
    exact Ev_neg (by simp) (against_tail (j := 0) hN hD (by omega) hk he hab)
theorem wid_eq {x k c : Nat} {mid : Bool} (h1 : uni x = c * 2 ^ k) (h2 : uni (x + 1) = (c + 1) * 2 ^ k) : wid x mid = (if mid then 2 * c + 1 else 2 * c) * 2 ^ k := by
  cases mid with
  | true =>
    show uni x + uni (x + 1) = (2 * c + 1) * 2 ^ k
    rw [h1, h2, ← Nat.add_mul]; congr 1; omega
  | false =>
    show 2 * uni x = 2 * c * 2 ^ k
    rw [h1, Nat.mul_assoc]
theorem place_kk {x k c : Nat} (hx : x ≤ 9218868437227405312) (h4 : x = k * 4503599627370496 + c) (h3 : c < 9007199254740992) (h5 : k = 0 ∨ 4503599627370496 ≤ c) : k ≤ 2046 := by omega
theorem place_c {x k c : Nat} (h4 : x = k * 4503599627370496 + c) (h5 : k = 0 ∨ 4503599627370496 ≤ c) (hs : ¬ (x : Int) ≥ 4503599627370496) : k = 0 ∧ c = x := by omega
theorem place_w1 {x k c : Nat} (h4 : x = k * 4503599627370496 + c) (h3 : c < 9007199254740992) (h5 : k = 0 ∨ 4503599627370496 ≤ c) (hs : (x : Int) ≥ 4503599627370496) : IntKind.u64.wrap (Int.tmod (x : Int) 4503599627370496 + 4503599627370496) = (c : Int) := by
  rw [tmodn (by omega), IntKind.wrap_u64]; omega
theorem place_w2 {x k c : Nat} (hx : x ≤ 9218868437227405312) (h4 : x = k * 4503599627370496 + c) (h3 : c < 9007199254740992) (h5 : k = 0 ∨ 4503599627370496 ≤ c) (hs : (x : Int) ≥ 4503599627370496) : wrap64 (wrap64 (IntKind.u64.wrap (Int.tdiv (x : Int) 4503599627370496)) - 1075) = (k : Int) - 1074 := by
  rw [tdivn (by omega), IntKind.wrap_u64]; unfold wrap64; omega
theorem against_ev {x N D : Nat} {mid : Bool} {e : Int} {a b : Nat} (hx : x ≤ inf) (hN : N < B 4096) (hD : D < B 4096) (he : -1048576 ≤ e ∧ e ≤ 1048576) (hab : (a : Int) - b = e + 1074) :
    Ev (fun n _ _ => abacusref04_against.f n (x : Int) mid (lim N) (lim D) e) (cmp (wid x mid * (D * 2 ^ b)) (2 * (N * 2 ^ a))) := by
  obtain ⟨k, c, h1, h2, h3, h4, h5⟩ := parts_of x
  rw [wid_eq h1 h2]
  have hk : k ≤ 2046 := place_kk hx h4 h3 h5
  simp only [abacusref04_against.f, abacusref04_against.b0]
  by_cases hs : (x : Int) ≥ 4503599627370496
  · rw [place_w1 h4 h3 h5 hs, place_w2 hx h4 h3 h5 hs]
    exact Ev_pos hs (against_mid hN hD h3 hk rfl he hab)
  · obtain ⟨k0, c0⟩ := place_c h4 h5 hs
    have := against_mid (mid := mid) (kk := -1074) hN hD h3 hk (by rw [k0]; rfl) he hab
    rw [c0] at this ⊢
    exact Ev_neg hs this
/-- The greatest place that is at most the fraction makes the nearest one. -/
theorem near_of {p X Y : Nat} (hY : 0 < Y) (hp : p ≤ inf) (h1 : 2 * uni p * Y ≤ 2 * X) (h2 : p = inf ∨ 2 * X < 2 * uni (p + 1) * Y) :
    (p < inf → ((uni p + uni (p + 1)) * Y < 2 * X ∨ ((uni p + uni (p + 1)) * Y = 2 * X ∧ p % 2 = 1)) → Near (p + 1) X Y) ∧ ((p < inf → ¬ ((uni p + uni (p + 1)) * Y < 2 * X ∨ ((uni p + uni (p + 1)) * Y = 2 * X ∧ p % 2 = 1))) → Near p X Y) := by
  have lt1 := uni_lt p
  have lt2 := uni_lt (p + 1)
  refine ⟨fun hpi hc => ?_, fun hc => ?_⟩
  · have h2 := h2.resolve_left (by omega)
    have h3 : 2 * uni (p + 1) * Y ≤ (uni (p + 1) + uni (p + 1 + 1)) * Y := Nat.mul_le_mul_right _ (by omega)
    refine ⟨by omega, fun _ => ?_, fun _ he => ?_, fun _ => by omega, fun _ he => by omega⟩
    · rw [Nat.add_sub_cancel]; rcases hc with hc | hc <;> omega
    · rw [Nat.add_sub_cancel] at he; rcases hc with hc | hc <;> omega
  · refine ⟨hp, fun h0 => ?_, fun h0 he => ?_, fun hpi => ?_, fun hpi he => ?_⟩
    · have := uni_pred h0
      have h3 : (uni (p - 1) + uni p) * Y ≤ 2 * uni p * Y := Nat.mul_le_mul_right _ (by omega)
      omega
    · have := uni_pred h0
      have h3 : (uni (p - 1) + uni p) * Y < 2 * uni p * Y := Nat.mul_lt_mul_of_pos_right (by omega) hY
      omega
    · have := hc hpi; omega
    · have := hc hpi; omega
theorem RoundRatio_ev {N D : Nat} {s : Bool} {e : Int} {a b : Nat} (hN : N < B 4096) (hD : D < B 4096) (hD0 : D ≠ 0) (he : -1048576 ≤ e ∧ e ≤ 1048576) (hab : (a : Int) - b = e + 1074) :
    ∃ p, Ev (fun n _ _ => abacusref04_RoundRatio.f n s (lim N) (lim D) e) (put s p, 0) ∧ Near p (N * 2 ^ a) (D * 2 ^ b) := by
  have hi : inf = 9218868437227405312 := rfl
  have pY : 0 < D * 2 ^ b := Nat.mul_pos (by omega) (Nat.pow_pos (by omega))
  have lN := rlen hN
  have lD := rlen hD
  have bN : Ev (fun n _ _ => abacusref01_Big.f n (lim N)) false := by
    simp only [abacusref01_Big.f, abacusref01_Big.b0]
    refine Ev.bind (abacusref01_Size_ev (ok_lim N) (by omega)) (Ev_some ?_)
    rw [val_lim]
    exact decide_eq_false (by omega)
  have bD : Ev (fun n _ _ => abacusref01_Big.f n (lim D)) false := by
    simp only [abacusref01_Big.f, abacusref01_Big.b0]
    refine Ev.bind (abacusref01_Size_ev (ok_lim D) (by omega)) (Ev_some ?_)
    rw [val_lim]
    exact decide_eq_false (by omega)
  have sN := abacusref01_Size_ev (ok_lim N) (by omega)
  have sD := abacusref01_Size_ev (ok_lim D) (by omega)
  rw [val_lim] at sN sD
  have zD := @lim_len_zero D
  have zN := @lim_len_zero N
  simp only [abacusref04_RoundRatio.f, abacusref04_RoundRatio.b0]
  by_cases N0 : N = 0
  · refine ⟨0, Ev.bind bN (Ev_neg (by simp) (Ev.bind bD (Ev_neg (by simp) (Ev.bind sD (Ev_neg (by omega) (Ev.bind sN (Ev_pos (by omega) (Ev_bind_eq (a := put s 0) ?_ (Ev.now _))))))))), ?_⟩
    · cases s <;> rfl
    · have := near_exact (p := 0) pY (by omega)
      rw [uni_zero, Nat.zero_mul] at this
      rw [N0, Nat.zero_mul]; exact this
  -- the end, from the greatest place that is not above
  have fin' (p : Nat) (hp : p ≤ inf) : Ev (fun n _ _ => abacusref04_RoundRatio.l1023 n s (p : Int)) (put s p, 0) := by
    simp only [abacusref04_RoundRatio.l1023, abacusref04_RoundRatio.b1023]
    cases s with
    | true =>
      have w : IntKind.u64.wrap ((p : Int) + 9223372036854775808) = (p : Int) + 9223372036854775808 := by rw [IntKind.wrap_u64]; omega
      rw [w]
      exact Ev_pos rfl (Ev.now _)
    | false => exact Ev_neg (by simp) (Ev.now _)
  have ending (p : Nat) (hp : p ≤ inf) (h1 : 2 * uni p * (D * 2 ^ b) ≤ 2 * (N * 2 ^ a)) (h2 : p = inf ∨ 2 * (N * 2 ^ a) < 2 * uni (p + 1) * (D * 2 ^ b)) :
      ∃ q, Ev (fun n _ _ => abacusref04_RoundRatio.l511 n s (lim N) (lim D) e (p : Int)) (put s q, 0) ∧ Near q (N * 2 ^ a) (D * 2 ^ b) := by
    obtain ⟨n1, n2⟩ := near_of pY hp h1 h2
    simp only [abacusref04_RoundRatio.l511, abacusref04_RoundRatio.b511]
    by_cases hpi : p < inf
    · have ha := against_ev (x := p) (mid := true) hp hN hD he hab
      rw [show wid p true = uni p + uni (p + 1) from rfl] at ha
      have w : IntKind.u64.wrap ((p : Int) + 1) = ((p + 1 : Nat) : Int) := by rw [IntKind.wrap_u64]; omega
      have t2 : Int.tmod (p : Int) 2 = ((p % 2 : Nat) : Int) := by rw [tmodn (by omega)]; omega
      simp only [w, t2]
      generalize (uni p + uni (p + 1)) * (D * 2 ^ b) = L at *
      generalize 2 * (N * 2 ^ a) = R at *
      have c1 := cmp_neg L R
      have c2 := cmp_zero L R
      by_cases g1 : L < R
      · exact ⟨p + 1, Ev_pos (by omega) (Ev.bind ha (Ev_pos (c1.2 g1) (fin' (p + 1) (by omega)))), n1 hpi (.inl g1)⟩
      · by_cases g2 : L = R
        · by_cases g3 : p % 2 = 1
          · exact ⟨p + 1, Ev_pos (by omega) (Ev.bind ha (Ev_neg (fun h => g1 (c1.1 h)) (Ev_pos (c2.2 g2) (Ev_pos (by omega) (fin' (p + 1) (by omega)))))), n1 hpi (.inr ⟨g2, g3⟩)⟩
          · exact ⟨p, Ev_pos (by omega) (Ev.bind ha (Ev_neg (fun h => g1 (c1.1 h)) (Ev_pos (c2.2 g2) (Ev_neg (by omega) (fin' p hp))))), n2 (fun _ h => h.elim g1 (fun h => g3 h.2))⟩
        · exact ⟨p, Ev_pos (by omega) (Ev.bind ha (Ev_neg (fun h => g1 (c1.1 h)) (Ev_neg (fun h => g2 (c2.1 h)) (fin' p hp)))), n2 (fun _ h => h.elim g1 (fun h => g2 h.1))⟩
    · exact ⟨p, Ev_neg (by omega) (fin' p hp), n2 (fun h => absurd h hpi)⟩
  -- the search
  have search (d : Nat) : ∀ lo hi' : Nat, hi' - lo ≤ d → lo ≤ hi' → hi' ≤ inf → Aside0 (2 * uni lo * (D * 2 ^ b) ≤ 2 * (N * 2 ^ a)) → Aside0 (hi' = inf ∨ 2 * (N * 2 ^ a) < 2 * uni (hi' + 1) * (D * 2 ^ b)) →
      ∃ q, Ev (fun n m _ => abacusref04_RoundRatio.l2041 n m s (lim N) (lim D) e (lo : Int) (hi' : Int)) (put s q, 0) ∧ Near q (N * 2 ^ a) (D * 2 ^ b) := by
    induction d using Nat.strongRecOn with
    | _ d ih =>
      intro lo hi' hd hle hinf h1 h2
      by_cases hlt : lo < hi'
      · obtain ⟨mid, hmid, m1, m2⟩ : ∃ mid : Nat, IntKind.u64.wrap ((lo : Int) + IntKind.u64.wrap (Int.tdiv (IntKind.u64.wrap (IntKind.u64.wrap ((hi' : Int) - (lo : Int)) + 1)) 2)) = (mid : Int) ∧ lo < mid ∧ mid ≤ hi' := by
          refine ⟨lo + (hi' - lo + 1) / 2, ?_, by omega, by omega⟩
          have w1 : IntKind.u64.wrap ((hi' : Int) - (lo : Int)) = ((hi' - lo : Nat) : Int) := by rw [IntKind.wrap_u64]; omega
          have w2 : IntKind.u64.wrap (((hi' - lo : Nat) : Int) + 1) = ((hi' - lo + 1 : Nat) : Int) := by rw [IntKind.wrap_u64]; omega
          rw [w1, w2, tdivn (by omega), IntKind.wrap_u64, IntKind.wrap_u64]
          omega
        have ha := against_ev (x := mid) (mid := false) (by omega) hN hD he hab
        rw [show wid mid false = 2 * uni mid from rfl] at ha
        by_cases g : 2 * uni mid * (D * 2 ^ b) ≤ 2 * (N * 2 ^ a)
        · obtain ⟨q, e1, e2⟩ := ih (hi' - mid) (by omega) mid hi' (Nat.le_refl _) m2 hinf ⟨g⟩ h2
          refine ⟨q, Ev_succ ?_, e2⟩
          simp only [abacusref04_RoundRatio.l2041, abacusref04_RoundRatio.b2041, hmid]
          refine Ev_pos (by omega) (Ev.bind ha (Ev_pos ?_ e1))
          have := cmp_pos (2 * uni mid * (D * 2 ^ b)) (2 * (N * 2 ^ a))
          generalize cmp (2 * uni mid * (D * 2 ^ b)) (2 * (N * 2 ^ a)) = c at this ⊢
          have h9 : ¬ 2 * (N * 2 ^ a) < 2 * uni mid * (D * 2 ^ b) := Nat.not_lt.2 g
          exact Int.not_lt.1 (fun h => h9 (this.1 h))
        · have w : IntKind.u64.wrap ((mid : Int) - 1) = ((mid - 1 : Nat) : Int) := by rw [IntKind.wrap_u64]; omega
          obtain ⟨q, e1, e2⟩ := ih (mid - 1 - lo) (by omega) lo (mid - 1) (Nat.le_refl _) (by omega) (by omega) h1 ⟨.inr (by rw [show mid - 1 + 1 = mid by omega]; exact Nat.lt_of_not_le g)⟩
          refine ⟨q, Ev_succ ?_, e2⟩
          simp only [abacusref04_RoundRatio.l2041, abacusref04_RoundRatio.b2041, hmid, w]
          refine Ev_pos (by omega) (Ev.bind ha (Ev_neg ?_ e1))
          have := cmp_pos (2 * uni mid * (D * 2 ^ b)) (2 * (N * 2 ^ a))
          exact Int.not_le.2 (this.2 (Nat.lt_of_not_le g))
      · obtain rfl : lo = hi' := by omega
        obtain ⟨q, e1, e2⟩ := ending lo hinf h1.out h2.out
        refine ⟨q, Ev_succ ?_, e2⟩
        simp only [abacusref04_RoundRatio.l2041, abacusref04_RoundRatio.b2041]
        exact Ev_neg (by omega) e1
  obtain ⟨q, e1, e2⟩ := search (inf - 0) 0 inf (Nat.le_refl _) (Nat.zero_le _) (Nat.le_refl _) ⟨by rw [uni_zero]; simp⟩ ⟨.inl rfl⟩
  exact ⟨q, Ev.bind bN (Ev_neg (by simp) (Ev.bind bD (Ev_neg (by simp) (Ev.bind sD (Ev_neg (by omega) (Ev.bind sN (Ev_neg (by omega) (Ev_neg (by omega) (Ev_neg (by omega) (Ev_in e1)))))))))), e2⟩
end Go.Proofs.YtobocamcoaeliaaGreatDoor.R4
