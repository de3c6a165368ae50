import Derived.Test.YtlnfgcnagfdliaaDoorQR1
import Derived.Test.YtlnfgcnagfdliaaDoorQIeee2
/- What the fourth reference computes: the parts of a double, and the rounding of a fraction by a search among all doubles. Conditions: naturals of sizes that there are, exponents up to 2^20. -/
namespace Go.Proofs.YtlnfgcnagfdliaaDoor.R4
open Go.RowKit Go.Proofs.YtlnfgcnagfdliaaDoor.Lib Go.Proofs.YtlnfgcnagfdliaaDoor.LibB Go.Proofs.YtlnfgcnagfdliaaDoor.F Go.Proofs.YtlnfgcnagfdliaaDoor.Nat1 Go.Proofs.YtlnfgcnagfdliaaDoor.Nat2 Go.Proofs.YtlnfgcnagfdliaaDoor.Bits Go.Proofs.YtlnfgcnagfdliaaDoor.Ieee1 Go.Proofs.YtlnfgcnagfdliaaDoor.Mag Go.Proofs.YtlnfgcnagfdliaaDoor.Ieee2 Go.Proofs.YtlnfgcnagfdliaaDoor.Rnd Go.Proofs.YtlnfgcnagfdliaaDoor.R1
open Go.Proofs.YtlnfgcnagfdliaaDoorA (rd ln ln_eq mx mn shl shr wr wr_eq)
set_option linter.unusedVariables false
set_option linter.unusedSimpArgs false
theorem tmodn {d : Int} (h : 0 ≤ d) (n : Int) : Int.tmod d n = d % n := Int.tmod_eq_emod_of_nonneg h
theorem tdivn {d : Int} (h : 0 ≤ d) (n : Int) : Int.tdiv d n = d / n := Int.tdiv_eq_ediv_of_nonneg h
theorem rDecode_eq {d : Int} (h : U d) : abacusref04_Decode.f d = some (sgn d, cls d, manOf d, expOf d) := by
  have h1 := h.1
  have h2 := h.2
  unfold abacusref04_Decode.f abacusref04_Decode.b0
  have e1 : IntKind.u64.wrap (Int.tdiv d 4503599627370496) = d / 4503599627370496 := by rw [tdivn h1, IntKind.wrap_u64]; omega
  have e2 : wrap64 (Int.tmod (d / 4503599627370496) 2048) = d / 4503599627370496 % 2048 := by rw [tmodn (by omega)]; unfold wrap64; omega
  have e3 : Int.tmod d 4503599627370496 = d % 4503599627370496 := tmodn h1 _
  have e4 : decide (IntKind.u64.wrap (Int.tdiv d 9223372036854775808) = 1) = sgn d := by
    rw [tdivn h1, IntKind.wrap_u64]; exact decide_eq_decide.2 (by omega)
  rw [e1, e2, e3, e4]
  have e5 : IntKind.u64.wrap (4503599627370496 + d % 4503599627370496) = 4503599627370496 + d % 4503599627370496 := by rw [IntKind.wrap_u64]; omega
  have e6 : wrap64 (d / 4503599627370496 % 2048 - 1075) = d / 4503599627370496 % 2048 - 1075 := by unfold wrap64; omega
  rw [e5, e6]
  by_cases g1 : d / 4503599627370496 % 2048 = 2047
  · rw [if_pos g1]
    by_cases g2 : d % 4503599627370496 = 0
    · have c : cls d = 3 := by unfold cls; rw [if_neg (by omega), if_neg (by omega), if_neg (by omega), if_pos (by omega)]
      rw [if_pos g2, manOf, expOf, c]; rfl
    · have c : cls d = 4 := by unfold cls; rw [if_neg (by omega), if_neg (by omega), if_neg (by omega), if_neg (by omega)]
      rw [if_neg g2, manOf, expOf, c]; rfl
  · rw [if_neg g1]
    by_cases g3 : d / 4503599627370496 % 2048 > 0
    · have c : cls d = 2 := by unfold cls; rw [if_neg (by omega), if_neg (by omega), if_pos (by omega)]
      rw [if_pos g3, manOf, expOf, c]
      congr 5
      omega
    · rw [if_neg g3]
      by_cases g2 : d % 4503599627370496 = 0
      · have c : cls d = 0 := by unfold cls; rw [if_pos (by omega)]
        rw [if_pos g2, manOf, expOf, c]; rfl
      · have c : cls d = 1 := by unfold cls; rw [if_neg (by omega), if_pos (by omega)]
        rw [if_neg g2, manOf, expOf, c]
        congr 4
        show d % 4503599627370496 = d % 9223372036854775808
        omega
theorem rAbs_eq {d : Int} (h : U d) : abacusref04_Abs.f d = some (plc d : Int) := by
  unfold abacusref04_Abs.f abacusref04_Abs.b0
  have := h.1
  rw [tmodn h.1]
  congr 1
  unfold plc
  omega
theorem rNeg_eq {d : Int} (h : U d) : abacusref04_Neg.f d = some (neg d) := by
  have h1 := h.1
  have h2 := h.2
  unfold abacusref04_Neg.f abacusref04_Neg.b0 neg
  by_cases g : d ≥ 9223372036854775808
  · rw [if_pos g, if_neg (by omega)]; congr 1; rw [IntKind.wrap_u64]; omega
  · rw [if_neg g, if_pos (by omega)]; congr 1; rw [IntKind.wrap_u64]; omega
theorem rIsNaN_eq {d : Int} (h : U d) : abacusref04_IsNaN.f d = some (decide (cls d = 4)) := by
  unfold abacusref04_IsNaN.f abacusref04_IsNaN.b0
  rw [rAbs_eq h, Option.bind_some]
  refine congrArg some (decide_eq_decide.2 ?_)
  unfold plc cls
  have := Int.emod_nonneg d (show (9223372036854775808 : Int) ≠ 0 by omega)
  repeat' split
  all_goals omega
/-! ### the search -/
/-- Twice place x's value, or the sum with the next one's, as M * 2^(e - 1075). -/
theorem parts_of (x : Nat) : ∃ k c, uni x = c * 2 ^ k ∧ uni (x + 1) = (c + 1) * 2 ^ k ∧ c < 9007199254740992 ∧ x = k * 4503599627370496 + c ∧ (k = 0 ∨ 4503599627370496 ≤ c) := by
  obtain ⟨k, c, h1, h2, h3, h4, h5⟩ := place_parts x
  exact ⟨k, c, h4, h5, h3, h1, h2⟩
/-- What 'against' holds a fraction against. -/
def wid (x : Nat) (mid : Bool) : Nat := if mid then uni x + uni (x + 1) else 2 * uni x
theorem rlen {n : Nat} (h : n < B 4096) : (lim n).length ≤ 4096 := (lim_len_le n 4096).2 h
theorem lift_len {n k : Nat} (hn : n < B 8192) (hk : k ≤ 4194304) : (lim (n * 2 ^ k)).length ≤ 8388608 := by
  refine (lim_len_le _ _).2 ?_
  obtain ⟨E, hE⟩ : ∃ E, E = 65536 := ⟨_, rfl⟩
  have h1 : 2 ^ k ≤ B E := by rw [B_two]; exact Nat.pow_le_pow_right (by omega) (by omega)
  have h2 := Nat.mul_lt_mul_of_lt_of_le hn h1 (B_pos _)
  rw [← B_add] at h2
  exact Nat.lt_of_lt_of_le h2 (B_mono (by omega))
theorem rcmp_scale {x y c : Nat} (hc : 0 < c) : cmp (x * c) (y * c) = cmp x y := by
  unfold cmp
  have e1 : x * c < y * c ↔ x < y := ⟨fun h => Nat.lt_of_mul_lt_mul_right h, fun h => Nat.mul_lt_mul_of_pos_right h hc⟩
  have e2 : y * c < x * c ↔ y < x := ⟨fun h => Nat.lt_of_mul_lt_mul_right h, fun h => Nat.mul_lt_mul_of_pos_right h hc⟩
  simp only [e1, e2]
theorem B_lt8 {n : Nat} (h : n < B 4096) : n < B 8192 := Nat.lt_of_lt_of_le h (B_mono (by omega))
theorem rcmp {u v : Nat} (hu : (lim u).length ≤ 8388608) (hv : (lim v).length ≤ 8388608) : Ev (fun n _ _ => abacusref01_Cmp.f n (lim u) (lim v)) (cmp u v) := by
  have := rCmp_ev (ok_lim u) (ok_lim v) (by omega) (by omega)
  rwa [val_lim, val_lim] at this
theorem rlift {u j : Nat} (hu : (lim u).length ≤ 8388608) (hj : j ≤ 4194304) : Ev (fun n _ _ => abacusref01_Lift.f n (lim u) (j : Int)) (lim (u * 2 ^ j)) := by
  have := Lift_ev (n := j) (ok_lim u) (by omega) (by omega)
  rwa [val_lim] at this
theorem prod_B {D m : Nat} (hD : D < B 4096) (hm : m < 18446744073709551616) : D * m < B 8192 := by
  have hmB : m ≤ B 1 := by rw [B_one]; omega
  have := Nat.mul_lt_mul_of_lt_of_le hD hmB (B_pos _)
  rw [← B_add] at this
  exact Nat.lt_of_lt_of_le this (B_mono (by omega))
/-- A list that stands for N, trimmed or not. -/
structure Nl (l : List Int) (N : Nat) : Prop where
  ok : ok l
  len : l.length ≤ 17592186044416
  v : val l = N
  lt : N < B 4096
theorem Nl.sz {l : List Int} {N : Nat} (h : Nl l N) : Sz l := ⟨h.len, by rw [h.v]; exact Nat.lt_of_lt_of_le h.lt (B_mono (by decide))⟩
theorem Nl_lim {N : Nat} (h : N < B 4096) : Nl (lim N) N := ⟨ok_lim N, Nat.le_trans (rlen h) (by decide), val_lim N, h⟩
theorem Nl.lift {l : List Int} {N j : Nat} (h : Nl l N) (hj : j ≤ 4194304) : Ev (fun n _ _ => abacusref01_Lift.f n l (j : Int)) (lim (N * 2 ^ j)) := by
  have := Lift_evS (n := j) h.ok h.sz (by omega)
  rwa [h.v] at this
theorem Nl.cmpL {l : List Int} {N u : Nat} (h : Nl l N) (hu : (lim u).length ≤ 8388608) : Ev (fun n _ _ => abacusref01_Cmp.f n (lim u) l) (cmp u N) := by
  have := rCmp_ev (ok_lim u) h.ok (by omega) (Nat.le_trans h.len (by omega))
  rwa [val_lim, h.v] at this
theorem against_tail {nl dl : List Int} {N D m k a b j : Nat} {e : Int} (hN : Nl nl N) (hD : Nl dl D) (hm : m < 18446744073709551616) (hk : k ≤ 2046) (he : -1048576 ≤ e ∧ e ≤ 1048576) (hab : (a : Int) - b = e + 1074) :
    Ev (fun n _ _ => abacusref04_against.l255 n nl dl e (m : Int) ((k : Int) - 1075)) (cmp (m * 2 ^ k * (D * 2 ^ b)) (2 * (N * 2 ^ a))) := by
  have om : ok [(m : Int)] := by intro y hy; simp only [List.mem_singleton] at hy; subst hy; omega
  have tm := Times_evS (a := dl) (b := [(m : Int)]) hD.ok om hD.sz (Sz_len om (by simp))
  rw [hD.v, show val [(m : Int)] = m by rw [val_cons, val_nil]; simp] at tm
  have hDm := prod_B hD.lt hm
  have lDm : (lim (D * m)).length ≤ 8388608 := Nat.le_trans ((lim_len_le _ 8192).2 hDm) (by omega)
  have two (q : Nat) : 0 < 2 ^ q := Nat.pow_pos (by omega)
  simp only [abacusref04_against.l255, abacusref04_against.b255]
  refine Ev.bind tm ?_
  clear tm hm om
  by_cases hg : (k : Int) - 1075 ≥ e
  · obtain ⟨j, hj, hj1, hj2⟩ : ∃ j : Nat, (k : Int) - 1075 - e = (j : Int) ∧ j ≤ 4194304 ∧ k + b = j + (a + 1) := ⟨((k : Int) - 1075 - e).toNat, by omega, by omega, by omega⟩
    have w : wrap64 ((k : Int) - 1075 - e) = (j : Int) := by rw [hj]; unfold wrap64; omega
    rw [w]
    have e1 : m * 2 ^ k * (D * 2 ^ b) = D * m * 2 ^ j * 2 ^ (a + 1) := by
      have : 2 ^ k * 2 ^ b = 2 ^ j * 2 ^ (a + 1) := by rw [← Nat.pow_add, ← Nat.pow_add, hj2]
      rw [Nat.mul_assoc (D * m), ← this]
      simp only [Nat.mul_assoc, Nat.mul_comm, Nat.mul_left_comm]
    have e2 : 2 * (N * 2 ^ a) = N * 2 ^ (a + 1) := by rw [Nat.pow_succ]; simp only [Nat.mul_assoc, Nat.mul_comm, Nat.mul_left_comm]
    rw [e1, e2, rcmp_scale (two _)]
    exact Ev_pos hg (Ev.bind (rlift lDm hj1) (Ev.bind (hN.cmpL (lift_len hDm hj1)) (Ev.now _)))
  · obtain ⟨j, hj, hj1, hj2⟩ : ∃ j : Nat, e - ((k : Int) - 1075) = (j : Int) ∧ j ≤ 4194304 ∧ j + (k + b) = a + 1 := ⟨(e - ((k : Int) - 1075)).toNat, by omega, by omega, by omega⟩
    have w : wrap64 (e - ((k : Int) - 1075)) = (j : Int) := by rw [hj]; unfold wrap64; omega
    rw [w]
    have e1 : m * 2 ^ k * (D * 2 ^ b) = D * m * 2 ^ (k + b) := by
      rw [Nat.pow_add]; simp only [Nat.mul_assoc, Nat.mul_comm, Nat.mul_left_comm]
    have e2 : 2 * (N * 2 ^ a) = N * 2 ^ j * 2 ^ (k + b) := by
      rw [Nat.mul_assoc N, ← Nat.pow_add, hj2, Nat.pow_succ]; simp only [Nat.mul_assoc, Nat.mul_comm, Nat.mul_left_comm]
    rw [e1, e2, rcmp_scale (two _)]
    exact Ev_neg hg (Ev.bind (hN.lift hj1) (Ev.bind (rcmp lDm (lift_len (B_lt8 hN.lt) hj1)) (Ev.now _)))
theorem against_mid {nl dl : List Int} {N D c k a b : Nat} {mid : Bool} {e kk : Int} (hN : Nl nl N) (hD : Nl dl D) (hc : c < 9007199254740992) (hk : k ≤ 2046) (hkk : kk = (k : Int) - 1074) (he : -1048576 ≤ e ∧ e ≤ 1048576) (hab : (a : Int) - b = e + 1074) :
    Ev (fun n _ _ => abacusref04_against.l31 n mid nl dl e (c : Int) kk) (cmp ((if mid then 2 * c + 1 else 2 * c) * 2 ^ k * (D * 2 ^ b)) (2 * (N * 2 ^ a))) := by
  simp only [abacusref04_against.l31, abacusref04_against.b31]
  have w : wrap64 (kk - 1) = (k : Int) - 1075 := by rw [hkk]; unfold wrap64; omega
  rw [w]
  cases mid with
  | true =>
    have w2 : IntKind.u64.wrap (IntKind.u64.wrap (2 * (c : Int)) + 1) = ((2 * c + 1 : Nat) : Int) := by rw [IntKind.wrap_u64, IntKind.wrap_u64]; omega
    rw [w2]
    exact Ev_pos rfl (against_tail (j := 0) hN hD (by omega) hk he hab)
  | false =>
    have w2 : IntKind.u64.wrap (2 * (c : Int)) = ((2 * c : Nat) : Int) := by rw [IntKind.wrap_u64]; omega
    rw [w2]
    exact Ev_neg (by simp) (against_tail (j := 0) hN hD (by omega) hk he hab)
theorem wid_eq {x k c : Nat} {mid : Bool} (h1 : uni x = c * 2 ^ k) (h2 : uni (x + 1) = (c + 1) * 2 ^ k) : wid x mid = (if mid then 2 * c + 1 else 2 * c) * 2 ^ k := by
  cases mid with
  | true =>
    show uni x + uni (x + 1) = (2 * c + 1) * 2 ^ k
    rw [h1, h2, ← Nat.add_mul]; congr 1; omega
  | false =>
    show 2 * uni x = 2 * c * 2 ^ k
    rw [h1, Nat.mul_assoc]
theorem place_kk {x k c : Nat} (hx : x ≤ 9218868437227405312) (h4 : x = k * 4503599627370496 + c) (h3 : c < 9007199254740992) (h5 : k = 0 ∨ 4503599627370496 ≤ c) : k ≤ 2046 := by omega
theorem place_c {x k c : Nat} (h4 : x = k * 4503599627370496 + c) (h5 : k = 0 ∨ 4503599627370496 ≤ c) (hs : ¬ (x : Int) ≥ 4503599627370496) : k = 0 ∧ c = x := by omega
theorem place_w1 {x k c : Nat} (h4 : x = k * 4503599627370496 + c) (h3 : c < 9007199254740992) (h5 : k = 0 ∨ 4503599627370496 ≤ c) (hs : (x : Int) ≥ 4503599627370496) : IntKind.u64.wrap (Int.tmod (x : Int) 4503599627370496 + 4503599627370496) = (c : Int) := by
  rw [tmodn (by omega), IntKind.wrap_u64]; omega
theorem place_w2 {x k c : Nat} (hx : x ≤ 9218868437227405312) (h4 : x = k * 4503599627370496 + c) (h3 : c < 9007199254740992) (h5 : k = 0 ∨ 4503599627370496 ≤ c) (hs : (x : Int) ≥ 4503599627370496) : wrap64 (wrap64 (IntKind.u64.wrap (Int.tdiv (x : Int) 4503599627370496)) - 1075) = (k : Int) - 1074 := by
  rw [tdivn (by omega), IntKind.wrap_u64]; unfold wrap64; omega
theorem against_ev {nl dl : List Int} {x N D : Nat} {mid : Bool} {e : Int} {a b : Nat} (hx : x ≤ inf) (hN : Nl nl N) (hD : Nl dl D) (he : -1048576 ≤ e ∧ e ≤ 1048576) (hab : (a : Int) - b = e + 1074) :
    Ev (fun n _ _ => abacusref04_against.f n (x : Int) mid nl dl e) (cmp (wid x mid * (D * 2 ^ b)) (2 * (N * 2 ^ a))) := by
  obtain ⟨k, c, h1, h2, h3, h4, h5⟩ := parts_of x
  rw [wid_eq h1 h2]
  have hk : k ≤ 2046 := place_kk hx h4 h3 h5
  simp only [abacusref04_against.f, abacusref04_against.b0]
  by_cases hs : (x : Int) ≥ 4503599627370496
  · rw [place_w1 h4 h3 h5 hs, place_w2 hx h4 h3 h5 hs]
    exact Ev_pos hs (against_mid hN hD h3 hk rfl he hab)
  · obtain ⟨k0, c0⟩ := place_c h4 h5 hs
    have := against_mid (mid := mid) (kk := -1074) hN hD h3 hk (by rw [k0]; rfl) he hab
    rw [c0] at this ⊢
    exact Ev_neg hs this
/-- The greatest place that is at most the fraction makes the nearest one. -/
theorem near_of {p X Y : Nat} (hY : 0 < Y) (hp : p ≤ inf) (h1 : 2 * uni p * Y ≤ 2 * X) (h2 : p = inf ∨ 2 * X < 2 * uni (p + 1) * Y) :
    (p < inf → ((uni p + uni (p + 1)) * Y < 2 * X ∨ ((uni p + uni (p + 1)) * Y = 2 * X ∧ p % 2 = 1)) → Near (p + 1) X Y) ∧ ((p < inf → ¬ ((uni p + uni (p + 1)) * Y < 2 * X ∨ ((uni p + uni (p + 1)) * Y = 2 * X ∧ p % 2 = 1))) → Near p X Y) := by
  have lt1 := uni_lt p
  have lt2 := uni_lt (p + 1)
  refine ⟨fun hpi hc => ?_, fun hc => ?_⟩
  · have h2 := h2.resolve_left (by omega)
    have h3 : 2 * uni (p + 1) * Y ≤ (uni (p + 1) + uni (p + 1 + 1)) * Y := Nat.mul_le_mul_right _ (by omega)
    refine ⟨by omega, fun _ => ?_, fun _ he => ?_, fun _ => by omega, fun _ he => by omega⟩
    · rw [Nat.add_sub_cancel]; rcases hc with hc | hc <;> omega
    · rw [Nat.add_sub_cancel] at he; rcases hc with hc | hc <;> omega
  · refine ⟨hp, fun h0 => ?_, fun h0 he => ?_, fun hpi => ?_, fun hpi he => ?_⟩
    · have := uni_pred h0
      have h3 : (uni (p - 1) + uni p) * Y ≤ 2 * uni p * Y := Nat.mul_le_mul_right _ (by omega)
      omega
    · have := uni_pred h0
      have h3 : (uni (p - 1) + uni p) * Y < 2 * uni p * Y := Nat.mul_lt_mul_of_pos_right (by omega) hY
      omega
    · have := hc hpi; omega
    · have := hc hpi; omega
theorem RoundRatio_evS {nl dl : List Int} {N D : Nat} {s : Bool} {e : Int} {a b : Nat} (hN : Nl nl N) (hD : Nl dl D) (hD0 : D ≠ 0) (he : -1048576 ≤ e ∧ e ≤ 1048576) (hab : (a : Int) - b = e + 1074) :
    ∃ p, Ev (fun n _ _ => abacusref04_RoundRatio.f n s nl dl e) (put s p, 0) ∧ Near p (N * 2 ^ a) (D * 2 ^ b) := by
  have hi : inf = 9218868437227405312 := rfl
  have pY : 0 < D * 2 ^ b := Nat.mul_pos (by omega) (Nat.pow_pos (by omega))
  have lN := rlen hN.lt
  have lD := rlen hD.lt
  have nN := hN.len
  have nD := hD.len
  have bN : Ev (fun n _ _ => abacusref01_Big.f n nl) false := by
    simp only [abacusref01_Big.f, abacusref01_Big.b0]
    refine Ev.bind (abacusref01_Size_ev hN.ok (by omega)) (Ev_some ?_)
    rw [hN.v]
    exact decide_eq_false (by omega)
  have bD : Ev (fun n _ _ => abacusref01_Big.f n dl) false := by
    simp only [abacusref01_Big.f, abacusref01_Big.b0]
    refine Ev.bind (abacusref01_Size_ev hD.ok (by omega)) (Ev_some ?_)
    rw [hD.v]
    exact decide_eq_false (by omega)
  have sN := abacusref01_Size_ev hN.ok (by omega)
  have sD := abacusref01_Size_ev hD.ok (by omega)
  rw [hN.v] at sN
  rw [hD.v] at sD
  have zD := @lim_len_zero D
  have zN := @lim_len_zero N
  simp only [abacusref04_RoundRatio.f, abacusref04_RoundRatio.b0]
  by_cases N0 : N = 0
  · refine ⟨0, Ev.bind bN (Ev_neg (by simp) (Ev.bind bD (Ev_neg (by simp) (Ev.bind sD (Ev_neg (by omega) (Ev.bind sN (Ev_pos (by omega) (Ev_bind_eq (a := put s 0) ?_ (Ev.now _))))))))), ?_⟩
    · cases s <;> rfl
    · have := near_exact (p := 0) pY (by omega)
      rw [uni_zero, Nat.zero_mul] at this
      rw [N0, Nat.zero_mul]; exact this
  -- the end, from the greatest place that is not above
  have fin' (p : Nat) (hp : p ≤ inf) : Ev (fun n _ _ => abacusref04_RoundRatio.l1023 n s (p : Int)) (put s p, 0) := by
    simp only [abacusref04_RoundRatio.l1023, abacusref04_RoundRatio.b1023]
    cases s with
    | true =>
      have w : IntKind.u64.wrap ((p : Int) + 9223372036854775808) = (p : Int) + 9223372036854775808 := by rw [IntKind.wrap_u64]; omega
      rw [w]
      exact Ev_pos rfl (Ev.now _)
    | false => exact Ev_neg (by simp) (Ev.now _)
  have ending (p : Nat) (hp : p ≤ inf) (h1 : 2 * uni p * (D * 2 ^ b) ≤ 2 * (N * 2 ^ a)) (h2 : p = inf ∨ 2 * (N * 2 ^ a) < 2 * uni (p + 1) * (D * 2 ^ b)) :
      ∃ q, Ev (fun n _ _ => abacusref04_RoundRatio.l511 n s nl dl e (p : Int)) (put s q, 0) ∧ Near q (N * 2 ^ a) (D * 2 ^ b) := by
    obtain ⟨n1, n2⟩ := near_of pY hp h1 h2
    simp only [abacusref04_RoundRatio.l511, abacusref04_RoundRatio.b511]
    by_cases hpi : p < inf
    · have ha := against_ev (x := p) (mid := true) hp hN hD he hab
      rw [show wid p true = uni p + uni (p + 1) from rfl] at ha
      have w : IntKind.u64.wrap ((p : Int) + 1) = ((p + 1 : Nat) : Int) := by rw [IntKind.wrap_u64]; omega
      have t2 : Int.tmod (p : Int) 2 = ((p % 2 : Nat) : Int) := by rw [tmodn (by omega)]; omega
      simp only [w, t2]
      generalize (uni p + uni (p + 1)) * (D * 2 ^ b) = L at *
      generalize 2 * (N * 2 ^ a) = R at *
      have c1 := cmp_neg L R
      have c2 := cmp_zero L R
      by_cases g1 : L < R
      · exact ⟨p + 1, Ev_pos (by omega) (Ev.bind ha (Ev_pos (c1.2 g1) (fin' (p + 1) (by omega)))), n1 hpi (.inl g1)⟩
      · by_cases g2 : L = R
        · by_cases g3 : p % 2 = 1
          · exact ⟨p + 1, Ev_pos (by omega) (Ev.bind ha (Ev_neg (fun h => g1 (c1.1 h)) (Ev_pos (c2.2 g2) (Ev_pos (by omega) (fin' (p + 1) (by omega)))))), n1 hpi (.inr ⟨g2, g3⟩)⟩
          · exact ⟨p, Ev_pos (by omega) (Ev.bind ha (Ev_neg (fun h => g1 (c1.1 h)) (Ev_pos (c2.2 g2) (Ev_neg (by omega) (fin' p hp))))), n2 (fun _ h => h.elim g1 (fun h => g3 h.2))⟩
        · exact ⟨p, Ev_pos (by omega) (Ev.bind ha (Ev_neg (fun h => g1 (c1.1 h)) (Ev_neg (fun h => g2 (c2.1 h)) (fin' p hp)))), n2 (fun _ h => h.elim g1 (fun h => g2 h.1))⟩
    · exact ⟨p, Ev_neg (by omega) (fin' p hp), n2 (fun h => absurd h hpi)⟩
  -- the search
  have search (d : Nat) : ∀ lo hi' : Nat, hi' - lo ≤ d → lo ≤ hi' → hi' ≤ inf → Aside0 (2 * uni lo * (D * 2 ^ b) ≤ 2 * (N * 2 ^ a)) → Aside0 (hi' = inf ∨ 2 * (N * 2 ^ a) < 2 * uni (hi' + 1) * (D * 2 ^ b)) →
      ∃ q, Ev (fun n m _ => abacusref04_RoundRatio.l2041 n m s nl dl e (lo : Int) (hi' : Int)) (put s q, 0) ∧ Near q (N * 2 ^ a) (D * 2 ^ b) := by
    induction d using Nat.strongRecOn with
    | _ d ih =>
      intro lo hi' hd hle hinf h1 h2
      by_cases hlt : lo < hi'
      · obtain ⟨mid, hmid, m1, m2⟩ : ∃ mid : Nat, IntKind.u64.wrap ((lo : Int) + IntKind.u64.wrap (Int.tdiv (IntKind.u64.wrap (IntKind.u64.wrap ((hi' : Int) - (lo : Int)) + 1)) 2)) = (mid : Int) ∧ lo < mid ∧ mid ≤ hi' := by
          refine ⟨lo + (hi' - lo + 1) / 2, ?_, by omega, by omega⟩
          have w1 : IntKind.u64.wrap ((hi' : Int) - (lo : Int)) = ((hi' - lo : Nat) : Int) := by rw [IntKind.wrap_u64]; omega
          have w2 : IntKind.u64.wrap (((hi' - lo : Nat) : Int) + 1) = ((hi' - lo + 1 : Nat) : Int) := by rw [IntKind.wrap_u64]; omega
          rw [w1, w2, tdivn (by omega), IntKind.wrap_u64, IntKind.wrap_u64]
          omega
        have ha := against_ev (x := mid) (mid := false) (by omega) hN hD he hab
        rw [show wid mid false = 2 * uni mid from rfl] at ha
        by_cases g : 2 * uni mid * (D * 2 ^ b) ≤ 2 * (N * 2 ^ a)
        · obtain ⟨q, e1, e2⟩ := ih (hi' - mid) (by omega) mid hi' (Nat.le_refl _) m2 hinf ⟨g⟩ h2
          refine ⟨q, Ev_succ ?_, e2⟩
          simp only [abacusref04_RoundRatio.l2041, abacusref04_RoundRatio.b2041, hmid]
          refine Ev_pos (by omega) (Ev.bind ha (Ev_pos ?_ e1))
          have := cmp_pos (2 * uni mid * (D * 2 ^ b)) (2 * (N * 2 ^ a))
          generalize cmp (2 * uni mid * (D * 2 ^ b)) (2 * (N * 2 ^ a)) = c at this ⊢
          have h9 : ¬ 2 * (N * 2 ^ a) < 2 * uni mid * (D * 2 ^ b) := Nat.not_lt.2 g
          exact Int.not_lt.1 (fun h => h9 (this.1 h))
        · have w : IntKind.u64.wrap ((mid : Int) - 1) = ((mid - 1 : Nat) : Int) := by rw [IntKind.wrap_u64]; omega
          obtain ⟨q, e1, e2⟩ := ih (mid - 1 - lo) (by omega) lo (mid - 1) (Nat.le_refl _) (by omega) (by omega) h1 ⟨.inr (by rw [show mid - 1 + 1 = mid by omega]; exact Nat.lt_of_not_le g)⟩
          refine ⟨q, Ev_succ ?_, e2⟩
          simp only [abacusref04_RoundRatio.l2041, abacusref04_RoundRatio.b2041, hmid, w]
          refine Ev_pos (by omega) (Ev.bind ha (Ev_neg ?_ e1))
          have := cmp_pos (2 * uni mid * (D * 2 ^ b)) (2 * (N * 2 ^ a))
          exact Int.not_le.2 (this.2 (Nat.lt_of_not_le g))
      · obtain rfl : lo = hi' := by omega
        obtain ⟨q, e1, e2⟩ := ending lo hinf h1.out h2.out
        refine ⟨q, Ev_succ ?_, e2⟩
        simp only [abacusref04_RoundRatio.l2041, abacusref04_RoundRatio.b2041]
        exact Ev_neg (by omega) e1
  obtain ⟨q, e1, e2⟩ := search (inf - 0) 0 inf (Nat.le_refl _) (Nat.zero_le _) (Nat.le_refl _) ⟨by rw [uni_zero]; simp⟩ ⟨.inl rfl⟩
  exact ⟨q, Ev.bind bN (Ev_neg (by simp) (Ev.bind bD (Ev_neg (by simp) (Ev.bind sD (Ev_neg (by omega) (Ev.bind sN (Ev_neg (by omega) (Ev_neg (by omega) (Ev_neg (by omega) (Ev_in e1)))))))))), e2⟩
theorem RoundRatio_ev {N D : Nat} {s : Bool} {e : Int} {a b : Nat} (hN : N < B 4096) (hD : D < B 4096) (hD0 : D ≠ 0) (he : -1048576 ≤ e ∧ e ≤ 1048576) (hab : (a : Int) - b = e + 1074) :
    ∃ p, Ev (fun n _ _ => abacusref04_RoundRatio.f n s (lim N) (lim D) e) (put s p, 0) ∧ Near p (N * 2 ^ a) (D * 2 ^ b) := RoundRatio_evS (Nl_lim hN) (Nl_lim hD) hD0 he hab
end Go.Proofs.YtlnfgcnagfdliaaDoor.R4
/- The fourth reference's rounding, digit by digit. Conditions: lists of limbs below 2^64, of lengths that a slice has. -/
namespace Go.Proofs.YtlnfgcnagfdliaaDoor.R4
open Go.RowKit Go.Proofs.YtlnfgcnagfdliaaDoor.Lib Go.Proofs.YtlnfgcnagfdliaaDoor.LibB Go.Proofs.YtlnfgcnagfdliaaDoor.F Go.Proofs.YtlnfgcnagfdliaaDoor.Nat1 Go.Proofs.YtlnfgcnagfdliaaDoor.Nat2 Go.Proofs.YtlnfgcnagfdliaaDoor.Bits Go.Proofs.YtlnfgcnagfdliaaDoor.Ieee1 Go.Proofs.YtlnfgcnagfdliaaDoor.Mag Go.Proofs.YtlnfgcnagfdliaaDoor.Ieee2 Go.Proofs.YtlnfgcnagfdliaaDoor.Rnd Go.Proofs.YtlnfgcnagfdliaaDoor.R1
open Go.Proofs.YtlnfgcnagfdliaaDoorA (rd ln ln_eq mx mn shl shr wr wr_eq)
set_option linter.unusedVariables false
set_option linter.unusedSimpArgs false
theorem limb_of {l : List Int} (h : ok l) (i : Nat) : ∃ p : Nat, rd l (i : Int) = (p : Int) ∧ p < 18446744073709551616 := by
  have := ok_rd h (i : Int)
  exact ⟨(rd l (i : Int)).toNat, by omega, by omega⟩
theorem half_w {x : Nat} (h : x < 18446744073709551616) : IntKind.u64.wrap (Int.tdiv (x : Int) 2) = ((x / 2 : Nat) : Int) := by
  rw [Int.tdiv_eq_ediv_of_nonneg (by omega), IntKind.wrap_u64]; omega
theorem odd_w (x : Nat) : Int.tmod (x : Int) 2 = ((x % 2 : Nat) : Int) := by
  rw [Int.tmod_eq_emod_of_nonneg (by omega)]; omega
theorem up_w {x : Nat} (h : x ≤ 4611686018427387904) : wrap64 ((x : Int) + 1) = ((x + 1 : Nat) : Int) := by unfold wrap64; omega
/-! ### BitLen -/
theorem blen_half {x : Nat} (h : x ≠ 0) : blen x = blen (x / 2) + 1 := by
  refine Nat.le_antisymm ((blen_le _ _).2 ?_) ?_
  · have := blen_lt (x / 2)
    rw [Nat.pow_succ]; omega
  · have h1 := blen_lt x
    have h2 := blen_pos.2 h
    obtain ⟨b, hb⟩ : ∃ b, blen x = b + 1 := ⟨blen x - 1, by omega⟩
    rw [hb, Nat.pow_succ] at h1
    have := (blen_le (x / 2) b).2 (by omega)
    omega
theorem bitlen_l (d : Nat) : ∀ x w : Nat, blen x ≤ d → x < 18446744073709551616 → w + d ≤ 4611686018427387904 → Ev (fun k m _ => abacusref01_BitLen.l501 k m (w : Int) (x : Int)) ((w + blen x : Nat) : Int) := by
  induction d with
  | zero =>
    intro x w h _ _
    have x0 : x = 0 := Decidable.byContradiction fun k => absurd (blen_pos.2 k) (by omega)
    subst x0
    refine Ev_succ ?_
    simp only [abacusref01_BitLen.l501, abacusref01_BitLen.b501]
    exact Ev_neg (by decide) (Ev_some rfl)
  | succ d ih =>
    intro x w h hx hw
    refine Ev_succ ?_
    simp only [abacusref01_BitLen.l501, abacusref01_BitLen.b501]
    by_cases x0 : x = 0
    · subst x0
      exact Ev_neg (by decide) (Ev_some rfl)
    · have hb := blen_half x0
      have := ih (x / 2) (w + 1) (by omega) (by omega) (by omega)
      rw [half_w hx, up_w (by omega)]
      rw [show w + 1 + blen (x / 2) = w + blen x by omega] at this
      exact Ev_pos (by omega) this
theorem rBitLen_ev {l : List Int} (h : ok l) (hl : l.length ≤ 35184372088832) : Ev (fun k _ _ => abacusref01_BitLen.f k l) ((blen (val l) : Nat) : Int) := by
  simp only [abacusref01_BitLen.f, abacusref01_BitLen.b0, ln_eq]
  refine Ev.bind (abacusref01_Size_ev h (by omega)) ?_
  have hz := @lim_len_zero (val l)
  have hn := lim_len_val_le h
  by_cases h0 : val l = 0
  · refine Ev_pos (by omega) (Ev_some ?_)
    rw [h0]; rfl
  · obtain ⟨n, hln⟩ : ∃ n, (lim (val l)).length = n + 1 := ⟨(lim (val l)).length - 1, by omega⟩
    rw [hln]
    have e : wrap64 (((n + 1 : Nat) : Int) - 1) = (n : Int) := by unfold wrap64; omega
    rw [e]
    refine Ev_neg (by omega) (Ev_pos (by omega) (Ev_pos (by omega) ?_))
    have hr := rd_top h (i := n) (by omega)
    have ht := rd_lim_last (val l) h0
    rw [hln, Nat.add_sub_cancel] at ht
    obtain ⟨x, hx, hxl⟩ := limb_of (ok_lim (val l)) n
    rw [hr, hx]
    rw [hx] at ht
    have h1 := val_take_succ (lim (val l)) n
    rw [val_take_all _ (by omega), val_lim, hx, Int.toNat_natCast] at h1
    have h2 := val_lt (ok_take (ok_lim (val l)) n)
    rw [List.length_take, hln, Nat.min_eq_left (by omega)] at h2
    have h3 := blen_high h2 (r := x) (by omega)
    rw [← h1] at h3
    have h5 : blen x ≤ 64 := (blen_le x 64).2 (by omega)
    have h6 : n ≤ 35184372088832 := by omega
    have w : wrap64 (64 * (n : Int)) = ((64 * n : Nat) : Int) := by unfold wrap64; omega
    rw [w, h3]
    exact Ev_in (g := fun k m _ => abacusref01_BitLen.l501 k m ((64 * n : Nat) : Int) (x : Int)) (bitlen_l 64 x (64 * n) h5 hxl (by omega))
/-! ### Bit -/
theorem bit_l {i : Int} {s : Nat} (hs : Int.tmod i 64 = (s : Int)) (d : Nat) : ∀ x j : Nat, j + d = s → x < 18446744073709551616 → s < 64 → Ev (fun k m _ => abacusref01_Bit.l245 k m i (x : Int) (j : Int)) ((x / 2 ^ d % 2 : Nat) : Int) := by
  induction d with
  | zero =>
    intro x j hj hx hs64
    refine Ev_succ ?_
    simp only [abacusref01_Bit.l245, abacusref01_Bit.b245, hs, odd_w]
    refine Ev_neg (by omega) (Ev_some ?_)
    rw [Nat.pow_zero, Nat.div_one]
    unfold wrap64; omega
  | succ d ih =>
    intro x j hj hx hs64
    refine Ev_succ ?_
    simp only [abacusref01_Bit.l245, abacusref01_Bit.b245, hs, half_w hx, up_w (x := j) (by omega)]
    have := ih (x / 2) (j + 1) (by omega) (by omega) hs64
    rw [Nat.div_div_eq_div_mul, ← Nat.pow_succ'] at this
    exact Ev_pos (by omega) this
def bitAt (n : Nat) (i : Int) : Nat := if i < 0 then 0 else n / 2 ^ i.toNat % 2
theorem rBit_ev {l : List Int} (h : ok l) (hl : l.length ≤ 35184372088832) {i : Int} (h1 : i < 9223372036854775808) : Ev (fun k _ _ => abacusref01_Bit.f k l i) ((bitAt (val l) i : Nat) : Int) := by
  simp only [abacusref01_Bit.f, abacusref01_Bit.b0, ln_eq]
  unfold bitAt
  by_cases h0 : i < 0
  · rw [if_pos h0]
    exact Ev_pos h0 (Ev.now _)
  · rw [if_neg h0]
    refine Ev_neg h0 ?_
    have e1 := (nat_parts i (by omega) h1).1
    have e2 : Int.tmod i 64 = ((i.toNat % 64 : Nat) : Int) := by rw [Int.tmod_eq_emod_of_nonneg (by omega)]; omega
    rw [e1]
    have hs : i.toNat % 64 < 64 := Nat.mod_lt _ (by omega)
    have hb := bit_val h (i.toNat / 64) (i.toNat % 64) hs
    rw [Nat.div_add_mod] at hb
    rw [hb]
    by_cases h2 : ((i.toNat / 64 : Nat) : Int) ≥ (l.length : Int)
    · rw [rd_over (by omega)]
      exact Ev_pos h2 (Ev_some (by simp))
    · obtain ⟨x, hx, hxl⟩ := limb_of h (i.toNat / 64)
      rw [hx, Int.toNat_natCast]
      exact Ev_neg h2 (Ev_pos (by omega) (Ev_pos (by omega) (Ev_in (g := fun k m _ => abacusref01_Bit.l245 k m i (x : Int) 0) (bit_l e2 _ x 0 (Nat.zero_add _) hxl hs))))
/-! ### Trail -/
theorem tz_even {x : Nat} (h0 : x ≠ 0) (h : x % 2 = 0) : tz x = tz (x / 2) + 1 := by
  obtain ⟨y, rfl⟩ : ∃ y, x = y * 2 := ⟨x / 2, by omega⟩
  rw [Nat.mul_div_cancel _ (by omega)]
  have := tz_mul_pow (n := y) (by omega) 1
  rwa [Nat.pow_one] at this
theorem tz_odd {x : Nat} (h : x % 2 = 1) : tz x = 0 := tz_eq (m := x / 2) (by rw [Nat.pow_zero]; omega)
theorem trail_in (d : Nat) : ∀ x w : Nat, tz x ≤ d → x ≠ 0 → x < 18446744073709551616 → w + d ≤ 4611686018427387904 → Ev (fun k m p => abacusref01_Trail.l53845 k (abacusref01_Trail.l53 k m) p (w : Int) (x : Int)) ((w + tz x : Nat) : Int) := by
  induction d with
  | zero =>
    intro x w h h0 hx hw
    have hodd : x % 2 = 1 := by
      rcases Nat.mod_two_eq_zero_or_one x with k | k
      · have := tz_even h0 k; omega
      · exact k
    refine Ev_succ2 ?_
    simp only [abacusref01_Trail.l53845, abacusref01_Trail.b53845, odd_w]
    exact Ev_neg (by omega) (Ev_some (by rw [tz_odd hodd, Nat.add_zero]))
  | succ d ih =>
    intro x w h h0 hx hw
    refine Ev_succ2 ?_
    simp only [abacusref01_Trail.l53845, abacusref01_Trail.b53845, odd_w]
    rcases Nat.mod_two_eq_zero_or_one x with k | k
    · have ht := tz_even h0 k
      have := ih (x / 2) (w + 1) (by omega) (by omega) (by omega) (by omega)
      rw [show w + 1 + tz (x / 2) = w + tz x by omega] at this
      rw [half_w hx, up_w (by omega)]
      exact Ev_pos (by omega) this
    · exact Ev_neg (by omega) (Ev_some (by rw [tz_odd k, Nat.add_zero]))
theorem trail_l {l : List Int} (h : ok l) (hl : l.length ≤ 35184372088832) (d : Nat) : ∀ i : Nat, i + d = l.length → val (l.take i) = 0 → Ev (fun k m _ => abacusref01_Trail.l53 k m l (i : Int)) ((tz (val l) : Nat) : Int) := by
  induction d with
  | zero =>
    intro i hi hv
    refine Ev_succ ?_
    simp only [abacusref01_Trail.l53, abacusref01_Trail.b53, ln_eq]
    refine Ev_neg (by omega) (Ev_some ?_)
    rw [val_take_all l (by omega)] at hv
    rw [hv]; rfl
  | succ d ih =>
    intro i hi hv
    have ilt : i < l.length := by omega
    obtain ⟨x, hx, hxl⟩ := limb_of h i
    refine Ev_succ ?_
    simp only [abacusref01_Trail.l53, abacusref01_Trail.b53, ln_eq, up_w (x := i) (by omega), hx]
    refine Ev_pos (by omega) (Ev_pos (by omega) (Ev_pos (by omega) ?_))
    by_cases hr : x = 0
    · refine Ev_neg (fun k => k (by omega)) (ih (i + 1) (by omega) ?_)
      rw [val_take_succ, hv, hx, hr]; rfl
    · have h1 := val_split l i
      rw [hv, Nat.min_eq_left (by omega), val_drop_cons l i ilt, Nat.zero_add, hx, Int.toNat_natCast] at h1
      have h2 := tz_low (i := i) (r := x) (rest := val (l.drop (i + 1))) hr hxl
      obtain ⟨h3, h4⟩ := tz_limb (x := x) hr hxl
      rw [h3] at h2 h4
      rw [← h1] at h2
      clear h1
      have w : wrap64 (64 * (i : Int)) = ((64 * i : Nat) : Int) := by unfold wrap64; omega
      rw [w, h2]
      refine Ev_pos (fun k => hr (Int.ofNat_inj.1 k)) (Ev_pos (Int.natCast_nonneg _) (Ev_pos (Int.ofNat_lt.2 ilt) ?_))
      exact Ev_in2 (g := fun k m p => abacusref01_Trail.l53845 k (abacusref01_Trail.l53 k m) p ((64 * i : Nat) : Int) (x : Int)) (trail_in 64 x (64 * i) (by omega) hr hxl (by omega))
theorem rTrail_ev {l : List Int} (h : ok l) (hl : l.length ≤ 35184372088832) : Ev (fun k _ _ => abacusref01_Trail.f k l) ((tz (val l) : Nat) : Int) := by
  simp only [abacusref01_Trail.f, abacusref01_Trail.b0, ln_eq]
  exact Ev_in (g := fun k q _ => abacusref01_Trail.l53 k q l 0) (trail_l h hl l.length 0 (by omega) (by simp [val_nil]))
/-! ### Round -/
/-- n moved down by j digits (up, if j is below 0). -/
def cutAt (n : Nat) (j : Int) : Nat := if j < 0 then n * 2 ^ (-j).toNat else n / 2 ^ j.toNat
theorem cut_next (n : Nat) (j : Int) : cutAt n j = 2 * cutAt n (j + 1) + bitAt n j := by
  unfold cutAt bitAt
  by_cases h : j < 0
  · rw [if_pos h, if_pos h]
    by_cases h1 : j + 1 < 0
    · rw [if_pos h1, show (-j).toNat = (-(j + 1)).toNat + 1 by omega, Nat.pow_succ]
      simp only [Nat.mul_assoc, Nat.mul_comm, Nat.mul_left_comm, Nat.add_zero]
    · rw [if_neg h1, show (-j).toNat = 1 by omega, show (j + 1).toNat = 0 by omega, Nat.pow_zero, Nat.div_one, Nat.pow_one]
      omega
  · rw [if_neg h, if_neg h, if_neg (by omega), show (j + 1).toNat = j.toNat + 1 by omega, Nat.pow_succ, ← Nat.div_div_eq_div_mul]
    omega
theorem cut_top {n : Nat} {j : Int} (h : (blen n : Int) ≤ j) : cutAt n j = 0 := by
  unfold cutAt
  rw [if_neg (by omega)]
  exact Nat.div_eq_of_lt (Nat.lt_of_lt_of_le (blen_lt n) (Nat.pow_le_pow_right (by omega) (by omega)))
theorem cut_lt {n : Nat} {j : Int} (h : (blen n : Int) - 53 ≤ j) : cutAt n j < 9007199254740992 := by
  unfold cutAt
  by_cases h1 : j < 0
  · rw [if_pos h1]
    have h2 := blen_lt n
    have h3 : n * 2 ^ (-j).toNat < 2 ^ blen n * 2 ^ (-j).toNat := Nat.mul_lt_mul_of_pos_right h2 (Nat.pow_pos (by omega))
    rw [← Nat.pow_add] at h3
    have h4 : 2 ^ (blen n + (-j).toNat) ≤ 2 ^ 53 := Nat.pow_le_pow_right (by omega) (by omega)
    exact Nat.lt_of_lt_of_le h3 h4
  · rw [if_neg h1]
    exact mag_quot (by omega)
theorem cut_ge {n : Nat} {j : Int} (hn : n ≠ 0) (h : (blen n : Int) - 53 = j) : 4503599627370496 ≤ cutAt n j := by
  unfold cutAt
  have h2 := blen_ge hn
  have h0 := blen_pos.2 hn
  by_cases h1 : j < 0
  · rw [if_pos h1]
    have h3 : 2 ^ (blen n - 1) * 2 ^ (-j).toNat ≤ n * 2 ^ (-j).toNat := Nat.mul_le_mul_right _ h2
    rw [← Nat.pow_add, show blen n - 1 + (-j).toNat = 52 by omega] at h3
    exact h3
  · rw [if_neg h1, Nat.le_div_iff_mul_le (Nat.pow_pos (by omega))]
    have h3 : 4503599627370496 * 2 ^ j.toNat = 2 ^ (blen n - 1) := by
      rw [show (4503599627370496 : Nat) = 2 ^ 52 from rfl, ← Nat.pow_add]; congr 1; omega
    rw [h3]
    exact h2
theorem bit_le (n : Nat) (i : Int) : bitAt n i ≤ 1 := by unfold bitAt; split <;> omega
theorem dig_w {m b : Nat} (h : m < 9007199254740992) (hb : b ≤ 1) : IntKind.u64.wrap (IntKind.u64.wrap (2 * (m : Int)) + IntKind.u64.wrap (b : Int)) = ((2 * m + b : Nat) : Int) := by
  rw [IntKind.wrap_u64, IntKind.wrap_u64, IntKind.wrap_u64]; omega
theorem rput_eq (s : Bool) {E f : Nat} {x y : Int} (hx : x = (E : Int)) (hy : y = (f : Int)) (hE : E ≤ 2047) (hf : f ≤ 9007199254740992) (h : E * 4503599627370496 + f ≤ inf) : abacusref04_put.f s x y = some (put s (E * 4503599627370496 + f)) := by
  subst hx hy
  unfold abacusref04_put.f abacusref04_put.b0 put
  have w : IntKind.u64.wrap (IntKind.u64.wrap (IntKind.u64.wrap (E : Int) * 4503599627370496) + (f : Int)) = ((E * 4503599627370496 + f : Nat) : Int) := by
    rw [IntKind.wrap_u64, IntKind.wrap_u64, IntKind.wrap_u64]; omega
  rw [w]
  cases s with
  | true =>
    rw [if_pos rfl, if_pos rfl]
    refine congrArg some ?_
    rw [IntKind.wrap_u64]
    unfold inf at h
    omega
  | false => rw [if_neg (by simp), if_neg (by simp)]
/-- Whether the fourth reference's rounding goes up. -/
def goesUp (n : Nat) (e u : Int) (more : Bool) (m : Nat) : Prop := bitAt n (u - 1 - e) = 1 ∧ (((tz n : Nat) : Int) + e < u - 1 ∨ more = true ∨ m % 2 = 1)
theorem rnd_cut {n : Nat} {e : Int} {more : Bool} (hn : n ≠ 0) (h1 : ¬ (blen n : Int) + e > 1024) :
    ∃ i : Nat, i ≤ 1 ∧ (i = 1 ↔ goesUp n e (unitOf n e) more (cutAt n (unitOf n e - e))) ∧ rnd n e more = (unitOf n e + 1074).toNat * 4503599627370496 + (cutAt n (unitOf n e - e) + i) := by
  have hu : -1074 ≤ unitOf n e := by unfold unitOf; split <;> omega
  by_cases h0 : (blen n : Int) + e < -1074
  · have hu : unitOf n e = -1074 := by unfold unitOf; rw [if_pos (by omega)]
    refine ⟨0, by omega, ⟨fun k => by omega, fun k => ?_⟩, ?_⟩
    · exfalso
      have k1 := k.1
      rw [hu] at k1
      unfold bitAt at k1
      rw [if_neg (by omega), Nat.div_eq_of_lt (Nat.lt_of_lt_of_le (blen_lt n) (Nat.pow_le_pow_right (by omega) (by omega)))] at k1
      omega
    · rw [hu, cut_top (by omega)]
      unfold rnd
      rw [if_pos (.inr h0)]
      rfl
  · by_cases h2 : unitOf n e ≤ e
    · refine ⟨0, by omega, ⟨fun k => by omega, fun k => ?_⟩, ?_⟩
      · exfalso
        have k1 := k.1
        unfold bitAt at k1
        rw [if_pos (by omega)] at k1
        omega
      · unfold rnd cutAt
        rw [if_neg (by omega), if_neg h1, if_pos h2]
        by_cases h3 : unitOf n e - e < 0
        · rw [if_pos h3, show (-(unitOf n e - e)).toNat = (e - unitOf n e).toNat by omega, Nat.add_zero]
        · rw [if_neg h3, show (e - unitOf n e).toNat = 0 by omega, show (unitOf n e - e).toNat = 0 by omega, Nat.pow_zero, Nat.mul_one, Nat.div_one, Nat.add_zero]
    · obtain ⟨m, hm⟩ : ∃ m : Nat, unitOf n e - e = ((m + 1 : Nat) : Int) := ⟨(unitOf n e - e - 1).toNat, by omega⟩
      have hc : cutAt n (unitOf n e - e) = n / 2 ^ (m + 1) := by unfold cutAt; rw [hm, if_neg (by omega), Int.toNat_natCast]
      have hb : bitAt n (unitOf n e - 1 - e) = n / 2 ^ m % 2 := by unfold bitAt; rw [if_neg (by omega), show (unitOf n e - 1 - e).toNat = m by omega]
      have hup : upB n (m + 1) more ↔ goesUp n e (unitOf n e) more (n / 2 ^ (m + 1)) := by
        unfold upB goesUp
        rw [hb, Nat.add_sub_cancel]
        constructor
        · rintro ⟨k1, k2⟩
          refine ⟨k1, ?_⟩
          rcases k2 with k2 | k2 | k2
          · exact .inr (.inl k2)
          · exact .inr (.inr k2)
          · exact .inl (by omega)
        · rintro ⟨k1, k2⟩
          refine ⟨k1, ?_⟩
          rcases k2 with k2 | k2 | k2
          · exact .inr (.inr (by omega))
          · exact .inl k2
          · exact .inr (.inl k2)
      refine ⟨if upB n (m + 1) more then 1 else 0, by split <;> omega, ?_, ?_⟩
      · rw [hc, ← hup]
        constructor
        · intro k
          exact Decidable.byContradiction fun g => by rw [if_neg g] at k; omega
        · intro k; rw [if_pos k]
      · rw [hc]
        unfold rnd
        rw [if_neg (by omega), if_neg h1, if_neg h2, hm, Int.toNat_natCast, Nat.add_assoc]
theorem mant_l {l : List Int} {n : Nat} {s more : Bool} {e u : Int} {R : Int × Int} (h : ok l) (hl : l.length ≤ 35184372088832) (hn : val l = n) (he : -1048576 ≤ e ∧ e ≤ 1048576) (hu : -1074 ≤ u ∧ u ≤ 971) (hb : (blen n : Int) - 53 ≤ u - e)
    (cont : Ev (fun k _ _ => abacusref04_Round.l4095 k s l e more u ((cutAt n (u - e) : Nat) : Int)) R) (d : Nat) : ∀ x : Int, x + 1 = u + (d : Int) → x ≤ 1023 →
    Ev (fun k m _ => abacusref04_Round.l32757 k m s l e more u ((cutAt n (x + 1 - e) : Nat) : Int) x) R := by
  induction d with
  | zero =>
    intro x hx _
    refine Ev_succ ?_
    simp only [abacusref04_Round.l32757, abacusref04_Round.b32757]
    rw [show x + 1 - e = u - e by omega]
    exact Ev_neg (by omega) cont
  | succ d ih =>
    intro x hx hxl
    refine Ev_succ ?_
    have hc := cut_next n (x - e)
    have hlt : cutAt n (x - e) < 9007199254740992 := cut_lt (by omega)
    have hb1 := bit_le n (x - e)
    rw [show x - e + 1 = x + 1 - e by omega] at hc
    have hm : cutAt n (x + 1 - e) < 9007199254740992 := by omega
    have bt := rBit_ev h hl (i := x - e) (by omega)
    rw [hn] at bt
    have w1 : wrap64 (x - e) = x - e := by unfold wrap64; omega
    have w2 : wrap64 (x - 1) = x - 1 := by unfold wrap64; omega
    have nx := ih (x - 1) (by omega) (by omega)
    rw [show x - 1 + 1 - e = x - e by omega, hc] at nx
    simp only [abacusref04_Round.l32757, abacusref04_Round.b32757, w1, w2]
    refine Ev_pos (by omega) (Ev.bind bt ?_)
    rw [dig_w hm hb1]
    exact nx
theorem last_ev {n : Nat} {s : Bool} {u : Int} {m : Nat} (hu : -1074 ≤ u ∧ u ≤ 971) (hm : m ≤ 9007199254740992) (hg : u = -1074 ∨ 4503599627370496 ≤ m) (hp : (u + 1074).toNat * 4503599627370496 + m ≤ inf) :
    Ev (fun k _ _ => abacusref04_Round.l32767 k s u (m : Int)) (put s ((u + 1074).toNat * 4503599627370496 + m), 0) := by
  simp only [abacusref04_Round.l32767, abacusref04_Round.b32767]
  by_cases h : m < 4503599627370496
  · have hu0 : u = -1074 := by omega
    subst hu0
    have := rput_eq s (E := 0) (f := m) (x := 0) (y := (m : Int)) rfl rfl (by omega) hm (by rw [Nat.zero_mul, Nat.zero_add]; unfold inf; omega)
    exact Ev_pos (by omega) (Ev_bind_eq this (Ev.now _))
  · have w : wrap64 (wrap64 (u + 1075) - 1) = ((u + 1074).toNat : Int) := by
      rw [show wrap64 (u + 1075) = u + 1075 by unfold wrap64; omega]; unfold wrap64; omega
    rw [w]
    have := rput_eq s (E := (u + 1074).toNat) (f := m) (x := ((u + 1074).toNat : Int)) (y := (m : Int)) rfl rfl (by omega) hm hp
    exact Ev_neg (by omega) (Ev_bind_eq this (Ev.now _))
theorem inc_w {m : Nat} (h : m < 9007199254740992) : IntKind.u64.wrap ((m : Int) + 1) = ((m + 1 : Nat) : Int) := by rw [IntKind.wrap_u64]; omega
theorem half_ev {l : List Int} {n : Nat} {s more : Bool} {e u : Int} (h : ok l) (hl : l.length ≤ 35184372088832) (hn : val l = n) (n0 : n ≠ 0) (hbl : blen n ≤ 262144) (he : -1048576 ≤ e ∧ e ≤ 1048576) (hu : u = unitOf n e) (hu2 : -1074 ≤ u ∧ u ≤ 971) (h1 : ¬ (blen n : Int) + e > 1024) :
    Ev (fun k _ _ => abacusref04_Round.l4095 k s l e more u ((cutAt n (u - e) : Nat) : Int)) (put s (rnd n e more), 0) := by
  obtain ⟨i, i1, i2, i3⟩ := rnd_cut (more := more) n0 h1
  rw [← hu] at i2 i3
  have hr := rnd_top n e more
  rw [i3] at hr ⊢
  have hcl : cutAt n (u - e) < 9007199254740992 := cut_lt (by rw [hu]; unfold unitOf; split <;> omega)
  have hcg : u = -1074 ∨ 4503599627370496 ≤ cutAt n (u - e) := by
    by_cases h2 : (blen n : Int) + e - 53 < -1074
    · exact .inl (by rw [hu]; unfold unitOf; rw [if_pos h2])
    · exact .inr (cut_ge n0 (by rw [hu]; unfold unitOf; rw [if_neg h2]; omega))
  have bt := rBit_ev h hl (i := u - 1 - e) (by omega)
  have tr := rTrail_ev h hl
  rw [hn] at bt tr
  have ht : tz n ≤ 262144 := by
    obtain ⟨y, hy⟩ := tz_spec n0
    have : 2 ^ tz n ≤ n := by
      have h5 : 2 ^ tz n * 1 ≤ 2 ^ tz n * (2 * y + 1) := Nat.mul_le_mul_left _ (by omega)
      rw [← hy, Nat.mul_one] at h5
      exact h5
    have h6 := blen_mono this
    rw [blen_two_pow] at h6
    omega
  have w1 : wrap64 (wrap64 (u - 1) - e) = u - 1 - e := by
    rw [show wrap64 (u - 1) = u - 1 by unfold wrap64; omega]; unfold wrap64; omega
  have w2 : wrap64 (((tz n : Nat) : Int) + e) = ((tz n : Nat) : Int) + e := by unfold wrap64; omega
  have w3 : wrap64 (u - 1) = u - 1 := by unfold wrap64; omega
  simp only [abacusref04_Round.l4095, abacusref04_Round.b4095, w1]
  refine Ev.bind bt (Ev.bind tr ?_)
  rw [w2, w3, odd_w, inc_w hcl]
  have up (g : goesUp n e u more (cutAt n (u - e))) : Ev (fun k _ _ => abacusref04_Round.l32767 k s u ((cutAt n (u - e) + 1 : Nat) : Int)) (put s ((u + 1074).toNat * 4503599627370496 + (cutAt n (u - e) + i)), 0) := by
    have hi : i = 1 := i2.2 g
    rw [hi] at hr ⊢
    exact last_ev (n := n) hu2 (by omega) (by omega) hr
  have dn (g : ¬ goesUp n e u more (cutAt n (u - e))) : Ev (fun k _ _ => abacusref04_Round.l32767 k s u ((cutAt n (u - e) : Nat) : Int)) (put s ((u + 1074).toNat * 4503599627370496 + (cutAt n (u - e) + i)), 0) := by
    have hi : i = 0 := by
      have : ¬ i = 1 := fun k => g (i2.1 k)
      omega
    rw [hi, Nat.add_zero] at hr ⊢
    exact last_ev (n := n) hu2 (by omega) hcg hr
  clear i2 i3 hr
  by_cases g1 : bitAt n (u - 1 - e) = 1
  · refine Ev_pos (congrArg _ g1) ?_
    by_cases g2 : ((tz n : Nat) : Int) + e < u - 1
    · exact Ev_pos g2 (up ⟨g1, .inl g2⟩)
    · refine Ev_neg g2 ?_
      by_cases g3 : more = true
      · exact Ev_pos g3 (up ⟨g1, .inr (.inl g3)⟩)
      · refine Ev_neg g3 ?_
        by_cases g4 : cutAt n (u - e) % 2 = 1
        · exact Ev_pos (congrArg _ g4) (up ⟨g1, .inr (.inr g4)⟩)
        · exact Ev_neg (fun k => g4 (Int.ofNat_inj.1 k)) (dn (fun g => g.2.elim g2 (fun k => k.elim g3 g4)))
  · exact Ev_neg (fun k => g1 (Int.ofNat_inj.1 k)) (dn (fun g => g1 g.1))
theorem rput_zero (s : Bool) : abacusref04_put.f s 0 0 = some (put s 0) := rput_eq s (E := 0) (f := 0) rfl rfl (by decide) (by decide) (by decide)
theorem rput_inf (s : Bool) : abacusref04_put.f s 2047 0 = some (put s inf) := rput_eq s (E := 2047) (f := 0) rfl rfl (by decide) (by decide) (by decide)
theorem rRound_ev {l : List Int} {s more : Bool} {e : Int} (h : ok l) (hl : l.length ≤ 35184372088832) (he : -9223372036854775808 ≤ e ∧ e < 9223372036854775808) :
    Ev (fun k _ _ => abacusref04_Round.f k s l e more) (if val l < B 4096 then (put s (rnd (val l) e more), 0) else (0, 2)) := by
  have hle := lim_len_val_le h
  have lb := lim_len_le (val l) 4096
  have bg : Ev (fun n _ _ => abacusref01_Big.f n l) (decide ((((lim (val l)).length : Nat) : Int) > 4096)) := by
    simp only [abacusref01_Big.f, abacusref01_Big.b0]
    exact Ev.bind (abacusref01_Size_ev h (by omega)) (Ev.now _)
  simp only [abacusref04_Round.f, abacusref04_Round.b0]
  by_cases hB : val l < B 4096
  · rw [if_pos hB]
    have hlen := lb.2 hB
    rw [decide_eq_false (show ¬ (((lim (val l)).length : Nat) : Int) > 4096 by omega)] at bg
    have hbl : blen (val l) ≤ 262144 := blen_limit hB
    refine Ev.bind bg (Ev_neg (by simp) (Ev.bind (rBitLen_ev h hl) ?_))
    by_cases n0 : val l = 0
    · rw [n0, show rnd 0 e more = 0 from by unfold rnd; rw [if_pos (.inl rfl)]]
      exact Ev_pos rfl (Ev_bind_eq (rput_zero s) (Ev.now _))
    have b0 := blen_pos.2 n0
    refine Ev_neg (by omega) ?_
    by_cases e1 : e < -1048576
    · rw [show rnd (val l) e more = 0 from by unfold rnd; rw [if_pos (.inr (by omega))]]
      exact Ev_pos e1 (Ev_bind_eq (rput_zero s) (Ev.now _))
    refine Ev_neg e1 ?_
    by_cases e2 : e > 1048576
    · rw [show rnd (val l) e more = inf from by unfold rnd; rw [if_neg (by omega), if_pos (by omega)]; rfl]
      exact Ev_pos e2 (Ev_bind_eq (rput_inf s) (Ev.now _))
    refine Ev_neg e2 ?_
    have w1 : wrap64 (wrap64 (((blen (val l) : Nat) : Int) - 1) + e) = ((blen (val l) : Nat) : Int) - 1 + e := by
      rw [show wrap64 (((blen (val l) : Nat) : Int) - 1) = ((blen (val l) : Nat) : Int) - 1 by unfold wrap64; omega]; unfold wrap64; omega
    rw [w1]
    by_cases e3 : ((blen (val l) : Nat) : Int) - 1 + e > 1023
    · rw [show rnd (val l) e more = inf from by unfold rnd; rw [if_neg (by omega), if_pos (by omega)]; rfl]
      exact Ev_pos e3 (Ev_bind_eq (rput_inf s) (Ev.now _))
    refine Ev_neg e3 ?_
    have w2 : wrap64 (((blen (val l) : Nat) : Int) - 1 + e - 52) = ((blen (val l) : Nat) : Int) + e - 53 := by unfold wrap64; omega
    rw [w2]
    have main (u : Int) (hu : u = unitOf (val l) e) (hu2 : -1074 ≤ u ∧ u ≤ 971) : Ev (fun k _ _ => abacusref04_Round.l1023 k s l e more (((blen (val l) : Nat) : Int) - 1 + e) u) (put s (rnd (val l) e more), 0) := by
      have cont := half_ev (s := s) (more := more) h hl rfl n0 hbl (e := e) ⟨by omega, by omega⟩ hu hu2 (by omega)
      have hge : ((blen (val l) : Nat) : Int) - 53 ≤ u - e := by rw [hu]; unfold unitOf; split <;> omega
      simp only [abacusref04_Round.l1023, abacusref04_Round.b1023]
      by_cases ht : u ≤ ((blen (val l) : Nat) : Int) - 1 + e
      · have := mant_l h hl rfl ⟨by omega, by omega⟩ hu2 hge cont (((blen (val l) : Nat) : Int) + e - u).toNat (((blen (val l) : Nat) : Int) - 1 + e) (by omega) (by omega)
        rw [cut_top (show ((blen (val l) : Nat) : Int) ≤ ((blen (val l) : Nat) : Int) - 1 + e + 1 - e by omega)] at this
        exact Ev_in (g := fun k m _ => abacusref04_Round.l32757 k m s l e more u 0 (((blen (val l) : Nat) : Int) - 1 + e)) this
      · have z : cutAt (val l) (u - e) = 0 := cut_top (by omega)
        rw [z] at cont
        refine Ev_in (g := fun k m _ => abacusref04_Round.l32757 k m s l e more u 0 (((blen (val l) : Nat) : Int) - 1 + e)) (Ev_succ ?_)
        simp only [abacusref04_Round.l32757, abacusref04_Round.b32757]
        exact Ev_neg (by omega) cont
    by_cases e4 : ((blen (val l) : Nat) : Int) + e - 53 < -1074
    · exact Ev_pos e4 (main (-1074) (by unfold unitOf; rw [if_pos e4]) (by omega))
    · exact Ev_neg e4 (main _ (by unfold unitOf; rw [if_neg e4]) (by omega))
  · rw [if_neg hB]
    have : ¬ (lim (val l)).length ≤ 4096 := fun k => hB (lb.1 k)
    rw [decide_eq_true (show (((lim (val l)).length : Nat) : Int) > 4096 by omega)] at bg
    exact Ev.bind bg (Ev_pos rfl (Ev.now _))
end Go.Proofs.YtlnfgcnagfdliaaDoor.R4
/- The fourth reference: order, neighbours, whole numbers, parts. Conditions: doubles below 2^64; naturals of sizes that there are. -/
namespace Go.Proofs.YtlnfgcnagfdliaaDoor.R4
open Go.RowKit Go.Proofs.YtlnfgcnagfdliaaDoor.Lib Go.Proofs.YtlnfgcnagfdliaaDoor.LibB Go.Proofs.YtlnfgcnagfdliaaDoor.F Go.Proofs.YtlnfgcnagfdliaaDoor.Nat1 Go.Proofs.YtlnfgcnagfdliaaDoor.Nat2 Go.Proofs.YtlnfgcnagfdliaaDoor.Bits Go.Proofs.YtlnfgcnagfdliaaDoor.Ieee1 Go.Proofs.YtlnfgcnagfdliaaDoor.Mag Go.Proofs.YtlnfgcnagfdliaaDoor.Ieee2 Go.Proofs.YtlnfgcnagfdliaaDoor.Rnd Go.Proofs.YtlnfgcnagfdliaaDoor.R1
open Go.Proofs.YtlnfgcnagfdliaaDoorA (rd ln ln_eq mx mn shl shr wr wr_eq)
set_option linter.unusedVariables false
set_option linter.unusedSimpArgs false
theorem rClass_eq {d : Int} (h : U d) : abacusref04_Class.f d = some (cls d) := by
  simp only [abacusref04_Class.f, abacusref04_Class.b0, rDecode_eq h, Option.bind_some]
theorem rrank_eq {d : Int} (h : U d) : abacusref04_rank.f d = some (rk d) := by
  have h0 := h.1
  have h1 := h.2
  simp only [abacusref04_rank.f, abacusref04_rank.b0, rAbs_eq h, Option.bind_some]
  have hp : (plc d : Int) = d % 9223372036854775808 := by unfold plc; omega
  rw [hp]
  unfold rk
  by_cases hs : d ≥ 9223372036854775808
  · rw [if_pos hs, if_neg (by omega)]
    congr 1
    unfold wrap64; omega
  · rw [if_neg hs, if_pos (by omega)]
    congr 1
    unfold wrap64; omega
theorem dnan (d : Int) : decide (cls d = 4) = decide (nan d) := decide_eq_decide.2 cls_nan
theorem rCompare_eq {a b : Int} (ha : U a) (hb : U b) : abacusref04_Compare.f a b = some (comp a b) := by
  simp only [abacusref04_Compare.f, abacusref04_Compare.b0, rIsNaN_eq ha, rIsNaN_eq hb, rrank_eq ha, rrank_eq hb, Option.bind_some, dnan, decide_eq_true_eq]
  unfold comp ord
  repeat' split
  all_goals rfl
theorem rRank_eq {d : Int} (h : U d) : abacusref04_Rank.f d = some (if nan d then (0, false) else (rk d, true)) := by
  simp only [abacusref04_Rank.f, abacusref04_Rank.b0, rIsNaN_eq h, rrank_eq h, Option.bind_some, dnan, decide_eq_true_eq]
  split <;> rfl
theorem rAtRank_eq {i : Int} (h0 : -9223372036854775808 ≤ i) (h1 : i < 9223372036854775808) : abacusref04_AtRank.f i = some (at' i) := by
  simp only [abacusref04_AtRank.f, abacusref04_AtRank.b0]
  unfold at'
  by_cases c1 : i > 9218868437227405312
  · rw [if_pos c1, if_pos (.inl c1)]
  by_cases c2 : i < -9218868437227405312
  · rw [if_neg c1, if_pos c2, if_pos (.inr c2)]
  rw [if_neg c1, if_neg c2, if_neg (show ¬ (i > 9218868437227405312 ∨ i < -9218868437227405312) by omega)]
  have w : IntKind.u64.wrap (wrap64 (-i)) = if i < 0 then -i else IntKind.u64.wrap (wrap64 (-i)) := by
    split
    · rw [IntKind.wrap_u64]; unfold wrap64; omega
    · rfl
  by_cases c3 : i < 0
  · rw [if_pos c3, if_pos c3, w, if_pos c3]
    have : IntKind.u64.wrap (9223372036854775808 + -i) = 9223372036854775808 - i := by rw [IntKind.wrap_u64]; omega
    rw [this]
  · rw [if_neg c3, if_neg c3]
    have : IntKind.u64.wrap i = i := by rw [IntKind.wrap_u64]; omega
    rw [this]
theorem rUp_eq {d : Int} (h : U d) : abacusref04_Up.f d = some (upd d) := by
  simp only [abacusref04_Up.f, abacusref04_Up.b0, rIsNaN_eq h, rrank_eq h, Option.bind_some, dnan, decide_eq_true_eq]
  unfold upd
  by_cases hn : nan d
  · rw [if_pos hn, if_pos hn]
  rw [if_neg hn, if_neg hn]
  have hr := rk_range h hn
  by_cases c1 : rk d = 9218868437227405312
  · rw [if_pos c1, if_pos c1]
  rw [if_neg c1, if_neg c1]
  by_cases c2 : rk d ≥ 0
  · rw [if_pos c2, if_neg (by omega)]
    unfold at'
    rw [if_neg (by omega), if_neg (by omega)]
    have : IntKind.u64.wrap (wrap64 (rk d + 1)) = rk d + 1 := by rw [IntKind.wrap_u64]; unfold wrap64; omega
    rw [this]
  · rw [if_neg c2]
    have w : IntKind.u64.wrap (9223372036854775808 + IntKind.u64.wrap (wrap64 (wrap64 (-rk d) - 1))) = 9223372036854775808 - rk d - 1 := by
      rw [show wrap64 (-rk d) = -rk d by unfold wrap64; omega, show wrap64 (-rk d - 1) = -rk d - 1 by unfold wrap64; omega, IntKind.wrap_u64, IntKind.wrap_u64]; omega
    rw [w]
    by_cases c3 : rk d = -1
    · rw [if_pos c3, c3]; rfl
    · rw [if_neg c3]
      unfold at'
      rw [if_neg (by omega), if_pos (by omega)]
      congr 1
      omega
theorem rDown_eq {d : Int} (h : U d) : abacusref04_Down.f d = some (down d) := by
  simp only [abacusref04_Down.f, abacusref04_Down.b0, rIsNaN_eq h, rNeg_eq h, rUp_eq (U_neg h), rNeg_eq (U_up (U_neg h)), Option.bind_some, dnan, decide_eq_true_eq]
  unfold down
  split <;> rfl
/-- The patterns in their order. -/
def key (d : Int) : Int := if d < 9223372036854775808 then d else -(d % 9223372036854775808) - 1
theorem key_eq {d : Int} (h : U d) : ieee_key.f d = some (key d) := by
  have h0 := h.1
  have h1 := h.2
  simp only [ieee_key.f, ieee_key.b0, bit_sgn h, Abs_eq h, Option.bind_some]
  unfold key
  by_cases hs : d < 9223372036854775808
  · rw [if_pos hs, if_pos hs, if_neg (by simp)]
    congr 1; unfold wrap64; omega
  · rw [if_neg hs, if_neg hs, if_pos (by simp)]
    congr 1
    rw [show wrap64 (d % 9223372036854775808) = d % 9223372036854775808 by unfold wrap64; omega, show wrap64 (-(d % 9223372036854775808)) = -(d % 9223372036854775808) by unfold wrap64; omega]
    unfold wrap64; omega
theorem Total_eq {a b : Int} (ha : U a) (hb : U b) : ieee_Total.f a b = some (ord (key a) (key b)) := by
  simp only [ieee_Total.f, ieee_Total.b0, key_eq ha, key_eq hb, order_eq, Option.bind_some]
theorem key_at {d : Int} (h : U d) : (if d ≥ 9223372036854775808 then IntKind.u64.wrap (9223372036854775807 - (plc d : Int)) else IntKind.u64.wrap (d + 9223372036854775808)) = key d + 9223372036854775808 := by
  have h0 := h.1
  have h1 := h.2
  have hp : (plc d : Int) = d % 9223372036854775808 := by unfold plc; omega
  rw [hp]
  unfold key
  by_cases hs : d ≥ 9223372036854775808
  · rw [if_pos hs, if_neg (by omega), IntKind.wrap_u64]; omega
  · rw [if_neg hs, if_pos (by omega), IntKind.wrap_u64]; omega
theorem rTotal_eq {a b : Int} (ha : U a) (hb : U b) : abacusref04_Total.f a b = some (ord (key a) (key b)) := by
  have l63 (x y : Int) : abacusref04_Total.l63 (x + 9223372036854775808) (y + 9223372036854775808) = some (ord x y) := by
    simp only [abacusref04_Total.l63, abacusref04_Total.b63]
    unfold ord
    by_cases c1 : x < y
    · rw [if_pos (by omega), if_pos c1]
    · rw [if_neg (by omega), if_neg c1]
      by_cases c2 : x > y
      · rw [if_pos (by omega), if_pos c2]
      · rw [if_neg (by omega), if_neg c2]
  have l15 (x : Int) : abacusref04_Total.l15 b (x + 9223372036854775808) = some (ord x (key b)) := by
    have kb := key_at hb
    simp only [abacusref04_Total.l15, abacusref04_Total.b15, rAbs_eq hb, Option.bind_some]
    by_cases hs : b ≥ 9223372036854775808
    · rw [if_pos hs] at kb ⊢; rw [kb]; exact l63 _ _
    · rw [if_neg hs] at kb ⊢; rw [kb]; exact l63 _ _
  have ka := key_at ha
  simp only [abacusref04_Total.f, abacusref04_Total.b0, rAbs_eq ha, Option.bind_some]
  by_cases hs : a ≥ 9223372036854775808
  · rw [if_pos hs] at ka ⊢; rw [ka]; exact l15 _
  · rw [if_neg hs] at ka ⊢; rw [ka]; exact l15 _
theorem rFinite_eq {d : Int} (h : U d) : abacusref04_Finite.f d = some (decide (fin d)) := by
  simp only [abacusref04_Finite.f, abacusref04_Finite.b0, rAbs_eq h, Option.bind_some]
  refine congrArg some (decide_eq_decide.2 ?_)
  rw [plc_fin]
  unfold inf
  omega
theorem one_ok {m : Int} (h : 0 ≤ m ∧ m < 18446744073709551616) : ok [m] := by intro y hy; simp only [List.mem_singleton] at hy; subst hy; exact h
theorem one_val (m : Int) : val [m] = m.toNat := by rw [val_cons, val_nil]; simp
theorem rIntegral_ev {d : Int} (h : U d) : Ev (fun k _ _ => abacusref04_Integral.f k d) (decide (fin d ∧ uni (plc d) % 2 ^ 1074 = 0)) := by
  simp only [abacusref04_Integral.f, abacusref04_Integral.b0]
  refine Ev_bind_eq (rFinite_eq h) ?_
  by_cases hf : fin d
  · have hm := man_range hf
    have he := exp_range hf
    have hu := (trunc_parts (Z := 1074) rfl hf).2
    rw [decide_eq_true hf]
    refine Ev_neg (by simp) (Ev_bind_eq (rDecode_eq h) ?_)
    have hd : decide (fin d ∧ uni (plc d) % 2 ^ 1074 = 0) = decide (expOf d ≥ 0 ∨ (manOf d).toNat % 2 ^ (-expOf d).toNat = 0) := decide_eq_decide.2 ⟨fun hh => hu.1 hh.2, fun hh => ⟨hf, hu.2 hh⟩⟩
    rw [hd]
    dsimp only
    clear hd hu
    generalize manOf d = m at *
    obtain ⟨M, rfl⟩ := nat_of hm.1
    rw [Int.toNat_natCast]
    by_cases m0 : M = 0
    · subst m0
      refine Ev_pos (by simp) (Ev_some ?_)
      exact (decide_eq_true (.inr (Nat.zero_mod _))).symm
    refine Ev_neg (by omega) ?_
    by_cases e0 : expOf d ≥ 0
    · exact Ev_pos e0 (Ev_some (decide_eq_true (.inl e0)).symm)
    refine Ev_neg e0 ?_
    have tr := rTrail_ev (l := [(M : Int)]) (one_ok (by omega)) (by simp)
    rw [one_val, Int.toNat_natCast] at tr
    refine Ev.bind tr (Ev_some ?_)
    refine decide_eq_decide.2 ?_
    rw [tz_dvd m0, show wrap64 (-expOf d) = -expOf d by unfold wrap64; omega]
    omega
  · rw [decide_eq_false hf]
    exact Ev_pos rfl (Ev_some (decide_eq_false (fun hh => hf hh.1)).symm)
theorem rFromUint_ev {n : Nat} (h : n < 18446744073709551616) : Ev (fun k _ _ => abacusref04_FromUint.f k (n : Int)) ((rnd n 0 false : Nat) : Int) := by
  have := rRound_ev (l := [(n : Int)]) (s := false) (more := false) (e := 0) (one_ok (by omega)) (by simp) (by omega)
  rw [one_val, Int.toNat_natCast, if_pos (small_limit h)] at this
  simp only [abacusref04_FromUint.f, abacusref04_FromUint.b0]
  exact Ev.bind this (Ev_some rfl)
theorem rFromInt_ev {i : Int} (h0 : -9223372036854775808 ≤ i) (h1 : i < 9223372036854775808) : Ev (fun k _ _ => abacusref04_FromInt.f k i) (put (decide (i < 0)) (rnd i.natAbs 0 false)) := by
  simp only [abacusref04_FromInt.f, abacusref04_FromInt.b0]
  by_cases c : i ≥ 0
  · have w : IntKind.u64.wrap i = ((i.natAbs : Nat) : Int) := by rw [IntKind.wrap_u64]; omega
    rw [w, decide_eq_false (by omega)]
    exact Ev_pos c (Ev.bind (rFromUint_ev (by omega)) (Ev_some rfl))
  · have w : IntKind.u64.wrap (IntKind.u64.wrap (wrap64 (-wrap64 (i + 1))) + 1) = ((i.natAbs : Nat) : Int) := by
      rw [show wrap64 (i + 1) = i + 1 by unfold wrap64; omega, show wrap64 (-(i + 1)) = -(i + 1) by unfold wrap64; omega, IntKind.wrap_u64, IntKind.wrap_u64]; omega
    rw [w, decide_eq_true (by omega)]
    have hr := rnd_le_inf i.natAbs 0
    have hi : inf = 9218868437227405312 := rfl
    refine Ev_neg c (Ev.bind (rFromUint_ev (by omega)) (Ev_bind_eq (rNeg_eq ⟨by omega, by omega⟩) (Ev_some ?_)))
    exact put_neg hr
theorem rToUint_ev {n : Nat} (h : n < B 4096) : Ev (fun k _ _ => abacusref01_ToUint.f k (lim n)) (if n < 18446744073709551616 then ((n : Int), true) else (0, false)) := by
  have hs := abacusref01_Size_ev (ok_lim n) (by have := (lim_len_le n 4096).2 h; omega)
  rw [val_lim] at hs
  have hl := lim_len_le n 1
  rw [B_one] at hl
  have hz := @lim_len_zero n
  simp only [abacusref01_ToUint.f, abacusref01_ToUint.b0, ln_eq]
  refine Ev.bind hs ?_
  by_cases n0 : n = 0
  · refine Ev_pos (by omega) (Ev_some ?_)
    rw [if_pos (by omega), n0]; rfl
  refine Ev_neg (by omega) ?_
  by_cases c : n < 18446744073709551616
  · rw [if_pos c]
    have h1 : (lim n).length ≤ 1 := hl.2 (by omega)
    refine Ev_neg (by omega) (Ev_pos (by omega) (Ev_some ?_))
    have hv := val_lim n
    obtain ⟨x, hx⟩ := List.length_eq_one_iff.1 (show (lim n).length = 1 by omega)
    have hk := ok_lim n
    rw [hx] at hv hk ⊢
    rw [one_val] at hv
    have := hk x (by simp)
    show (rd [x] 0, true) = _
    rw [show rd [x] 0 = x from rfl]
    congr 1
    omega
  · rw [if_neg c]
    exact Ev_pos (by have : ¬ (lim n).length ≤ 1 := fun k => c (by have := hl.1 k; omega)
                     omega) (Ev.now _)
end Go.Proofs.YtlnfgcnagfdliaaDoor.R4
/- The first reference's Drop; the fourth's whole numbers. Conditions: doubles below 2^64; naturals of sizes that there are. -/
namespace Go.Proofs.YtlnfgcnagfdliaaDoor.R4
open Go.RowKit Go.Proofs.YtlnfgcnagfdliaaDoor.Lib Go.Proofs.YtlnfgcnagfdliaaDoor.LibB Go.Proofs.YtlnfgcnagfdliaaDoor.F Go.Proofs.YtlnfgcnagfdliaaDoor.Nat1 Go.Proofs.YtlnfgcnagfdliaaDoor.Nat2 Go.Proofs.YtlnfgcnagfdliaaDoor.Bits Go.Proofs.YtlnfgcnagfdliaaDoor.Ieee1 Go.Proofs.YtlnfgcnagfdliaaDoor.Mag Go.Proofs.YtlnfgcnagfdliaaDoor.Ieee2 Go.Proofs.YtlnfgcnagfdliaaDoor.Rnd Go.Proofs.YtlnfgcnagfdliaaDoor.R1
open Go.Proofs.YtlnfgcnagfdliaaDoorA (rd ln ln_eq mx mn shl shr wr wr_eq)
set_option linter.unusedVariables false
set_option linter.unusedSimpArgs false
theorem v32_set_drop (s : List Int) (k : Nat) (x : Int) (h : k < s.length) : v32 ((s.set k x).drop k) = x.toNat + 4294967296 * v32 (s.drop (k + 1)) := by
  rw [v32_drop_cons _ _ (by rw [List.length_set]; exact h)]
  have h1 : rd (s.set k x) (k : Int) = x := by
    simp only [rd, Int.toNat_natCast, List.getD_eq_getElem?_getD]
    rw [List.getElem?_set_self h]; rfl
  have h2 : (s.set k x).drop (k + 1) = s.drop (k + 1) := by rw [List.drop_set, if_pos (by omega)]
  rw [h1, h2]
theorem quo_step {V F r g t q r' W : Nat} (h : V * F + r = W) (ht : t = r * 4294967296 + g) (hq : t = F * q + r') : (q + 4294967296 * V) * F + r' = g + 4294967296 * W := by
  subst h
  have e : 4294967296 * (V * F + r) = 4294967296 * V * F + r * 4294967296 := by rw [Nat.mul_add, Nat.mul_assoc, Nat.mul_comm 4294967296 r]
  rw [e, Nat.add_mul, Nat.mul_comm q F]
  omega
theorem quo_lt {F r g : Nat} (hr : r < F) (hg : g < 4294967296) : (r * 4294967296 + g) / F < 4294967296 := by
  refine Nat.div_lt_of_lt_mul ?_
  have : (r + 1) * 4294967296 ≤ F * 4294967296 := Nat.mul_le_mul_right _ hr
  omega
theorem quo_top {A Hq F W V r : Nat} (hA : A < Hq) (hF : 0 < F) (hr : r < F) (h : V * F + r = W) : (A + Hq * W) / (Hq * F) = V := by
  rw [← Nat.div_div_eq_div_mul, Nat.add_mul_div_left _ _ (by omega), Nat.div_eq_of_lt hA, Nat.zero_add, ← h, Nat.mul_comm, Nat.mul_add_div hF, Nat.div_eq_of_lt hr, Nat.add_zero]
theorem Drop_evS {a : List Int} {n : Nat} (ha : ok a) (hla : Sz a) (hn : n ≤ 1099511627776) : Ev (fun k _ _ => abacusref01_Drop.f k a (n : Int)) (lim (val a / 2 ^ n)) := by
  obtain ⟨x, ex, dx, lx⟩ := halves_evS ha hla
  simp only [abacusref01_Drop.f, abacusref01_Drop.b0, ln_eq]
  refine Ev.bind ex ?_
  obtain ⟨q, hq⟩ : ∃ q, q = n / 32 := ⟨_, rfl⟩
  obtain ⟨f, hf⟩ : ∃ f, f = n % 32 := ⟨_, rfl⟩
  have t1 : wrap64 (Int.tdiv (n : Int) 32) = (q : Int) := by rw [Int.tdiv_eq_ediv_of_nonneg (by omega)]; unfold wrap64; omega
  have t2 : Int.tmod (n : Int) 32 = (f : Int) := by rw [Int.tmod_eq_emod_of_nonneg (by omega)]; omega
  have hf32 : f < 32 := by omega
  have bq : q ≤ 34359738368 := by omega
  have hpow : Aside0 (2 ^ n = H q * 2 ^ f) := ⟨by rw [H_two, ← Nat.pow_add]; congr 1; omega⟩
  obtain ⟨F, hF⟩ : ∃ F, F = 2 ^ f := ⟨_, rfl⟩
  have hF1 : F ≤ 2147483648 := by rw [hF]; exact two31 (by omega)
  have hF0 : 0 < F := by rw [hF]; exact Nat.pow_pos (by omega)
  rw [t1]
  clear hq hf hn
  by_cases hge : (q : Int) ≥ (x.length : Int)
  · refine Ev_pos hge (Ev_some ?_)
    have h1 : val a < 2 ^ n := by
      rw [hpow.out, ← dx.v]
      have h2 := v32_lt dx.dig
      have h3 := H_mono (show x.length ≤ q by omega)
      have h4 : H q ≤ H q * 2 ^ f := Nat.le_mul_of_pos_right _ (Nat.pow_pos (by omega))
      omega
    rw [Nat.div_eq_of_lt h1, lim_zero]
  refine Ev_neg hge (Ev_in (g := fun k m _ => abacusref01_Drop.l1013 k m (n : Int) x (q : Int) 1 0) ?_)
  have hqx : q < x.length := by omega
  obtain ⟨L, hL⟩ : ∃ L, x.length = q + L := ⟨x.length - q, by omega⟩
  -- the digits, the highest first
  have go (d : Nat) : ∀ (r : Nat) (s : List Int), d ≤ L → s.length = L → ok32 s → r < F → Aside0 (v32 (s.drop d) * F + r = v32 (x.drop (q + d))) →
      Ev (fun k m _ => abacusref01_Drop.l8181 k m x (q : Int) (F : Int) (r : Int) ((q : Int) + (d : Int) - 1) s) (lim (val a / 2 ^ n)) := by
    induction d with
    | zero =>
      intro r s hd hl hk hr hv
      refine Ev_succ ?_
      simp only [abacusref01_Drop.l8181, abacusref01_Drop.b8181, abacusref01_Drop.l1023, abacusref01_Drop.b1023, ln_eq]
      have := limbs_ev hk (by omega)
      have hv := hv.out
      rw [List.drop_zero, Nat.add_zero] at hv
      have e : val a / 2 ^ n = v32 s := by
        rw [hpow.out, ← hF, ← dx.v, v32_split x q, Nat.min_eq_left (Nat.le_of_lt hqx)]
        refine quo_top ?_ hF0 hr hv
        have := v32_lt (ok32_take dx.dig q)
        rwa [List.length_take, Nat.min_eq_left (Nat.le_of_lt hqx)] at this
      rw [e]
      clear hv e
      exact Ev_neg (by omega) (Ev.bind this (Ev.now _))
    | succ d ih =>
      intro r s hd hl hk hr hv
      have hix : q + d < x.length := by omega
      have hds : d < s.length := by omega
      obtain ⟨g, hg⟩ := nat_of (ok32_rd dx.dig ((q + d : Nat) : Int)).1
      have hgl := (ok32_rd dx.dig ((q + d : Nat) : Int)).2
      rw [hg] at hgl
      obtain ⟨t, ht⟩ : ∃ t, t = r * 4294967296 + g := ⟨_, rfl⟩
      have htl : t < 18446744073709551616 := by clear hv; omega
      have ei : (q : Int) + ((d + 1 : Nat) : Int) - 1 = ((q + d : Nat) : Int) := by omega
      have e1 : wrap64 (((q + d : Nat) : Int) - 1) = (q : Int) + (d : Int) - 1 := by clear hv; unfold wrap64; omega
      have e2 : wrap64 (((q + d : Nat) : Int) - (q : Int)) = (d : Int) := by clear hv; unfold wrap64; omega
      have e3 : IntKind.u64.wrap (IntKind.u64.wrap ((r : Int) * 4294967296) + (g : Int)) = (t : Int) := by
        clear hv
        rw [show (r : Int) * 4294967296 = ((r * 4294967296 : Nat) : Int) by omega, wu (by omega), show ((r * 4294967296 : Nat) : Int) + (g : Int) = (t : Int) by omega, wu htl]
      have e4 : IntKind.u64.wrap (Int.tdiv (t : Int) (F : Int)) = ((t / F : Nat) : Int) := by
        rw [Int.tdiv_eq_ediv_of_nonneg (n0 t), ← Int.natCast_ediv]
        exact wu (Nat.lt_of_le_of_lt (Nat.div_le_self _ _) htl)
      have e5 : Int.tmod (t : Int) (F : Int) = ((t % F : Nat) : Int) := by rw [Int.tmod_eq_emod_of_nonneg (n0 t), ← Int.natCast_emod]
      have q1 : t / F < 4294967296 := by rw [ht]; exact quo_lt hr (Int.ofNat_lt.1 hgl)
      have next := ih (t % F) (s.set d ((t / F : Nat) : Int)) (by omega) (by rw [List.length_set]; exact hl) (ok32_set hk _ (n0 _) (by omega)) (Nat.mod_lt _ hF0) ⟨by
        rw [v32_set_drop _ _ _ hds, Int.toNat_natCast, v32_drop_cons x (q + d) hix, hg, Int.toNat_natCast]
        exact quo_step hv.out ht (Nat.div_add_mod t F).symm⟩
      clear hv q1
      refine Ev_succ ?_
      simp only [abacusref01_Drop.l8181, abacusref01_Drop.b8181, ln_eq, ei, hg, e3, e4, e5, e2, e1, Int.toNat_natCast]
      exact Ev_pos (by omega) (Ev_pos (n0 _) (Ev_pos (nlt hix) (Ev_neg (by omega) (Ev_pos (n0 _) (Ev_pos (by omega) (Ev_neg (by omega) next))))))
  have body : Ev (fun k _ _ => abacusref01_Drop.l127 k x (q : Int) (F : Int)) (lim (val a / 2 ^ n)) := by
    simp only [abacusref01_Drop.l127, abacusref01_Drop.b127, ln_eq]
    have w1 : wrap64 ((x.length : Int) - (q : Int)) = (L : Int) := by unfold wrap64; omega
    have w2 : wrap64 ((x.length : Int) - 1) = (q : Int) + (L : Int) - 1 := by unfold wrap64; omega
    rw [w1, w2, Int.toNat_natCast]
    have := go L 0 (List.replicate L 0) (Nat.le_refl _) (List.length_replicate ..) (ok32_replicate _) hF0 ⟨by
      rw [List.drop_eq_nil_of_le (by rw [List.length_replicate]; exact Nat.le_refl _), List.drop_eq_nil_of_le (by omega), v32_nil]; simp⟩
    exact Ev_pos (n0 _) (Ev_pos (by omega) (Ev_in this))
  -- the factor
  have fac (d : Nat) : ∀ i : Nat, i + d = f → Ev (fun k m _ => abacusref01_Drop.l1013 k m (n : Int) x (q : Int) ((2 ^ i : Nat) : Int) (i : Int)) (lim (val a / 2 ^ n)) := by
    induction d with
    | zero =>
      intro i hi
      obtain rfl : i = f := by omega
      refine Ev_succ ?_
      simp only [abacusref01_Drop.l1013, abacusref01_Drop.b1013, t2, ← hF]
      exact Ev_neg (by omega) body
    | succ d ih =>
      intro i hi
      have h31 := two31 (i := i) (by omega)
      have e1 : wrap64 ((i : Int) + 1) = ((i + 1 : Nat) : Int) := wone (n := 32) (by omega) (by omega)
      have e2 : IntKind.u64.wrap (((2 ^ i : Nat) : Int) * 2) = ((2 ^ (i + 1) : Nat) : Int) := by rw [wmul2 (by omega), Nat.pow_succ]
      refine Ev_succ ?_
      simp only [abacusref01_Drop.l1013, abacusref01_Drop.b1013, t2, e1, e2]
      exact Ev_pos (by omega) (ih (i + 1) (by omega))
  exact fac f 0 (by omega)
end Go.Proofs.YtlnfgcnagfdliaaDoor.R4
