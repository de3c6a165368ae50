/- The first reference's division by a limb, its lowest bits, its sums of lists. Conditions: lists as a call gets them. -/
import Derived.Test.YtlnfgcnagfdliaaDoorQR1d
import Derived.Test.YtlnfgcnagfdliaaDoorQDiv
namespace Go.Proofs.YtlnfgcnagfdliaaDoor.R1
open Go.RowKit Go.Proofs.YtlnfgcnagfdliaaDoor.Lib Go.Proofs.YtlnfgcnagfdliaaDoor.LibB Go.Proofs.YtlnfgcnagfdliaaDoor.F Go.Proofs.YtlnfgcnagfdliaaDoor.Nat1 Go.Proofs.YtlnfgcnagfdliaaDoor.Nat2 Go.Proofs.YtlnfgcnagfdliaaDoor.Bits Go.Proofs.YtlnfgcnagfdliaaDoor.R4
open Go.Proofs.YtlnfgcnagfdliaaDoor.Div (nat_DivSmall_ev divAns)
open Go.Proofs.YtlnfgcnagfdliaaDoorA (rd rdb rdr ln ln_eq lnr lnr_eq mx mn shl shr wr wr_eq)
set_option linter.unusedVariables false
set_option linter.unusedSimpArgs false
theorem toUint_same {l : List Int} (h : Arg l) : ∃ r, Ev (fun k _ _ => abacusref01_ToUint.f k l) r ∧ Ev (fun k _ _ => nat_ToUint.f k l) r := by
  have h1 := abacusref01_Size_ev h.ok (h.lt (by decide))
  have h2 := nat_size_ev h.ok (h.lt (by decide))
  have hl := lim_len_val_le h.ok
  simp only [abacusref01_ToUint.f, abacusref01_ToUint.b0, nat_ToUint.f, nat_ToUint.b0, ln_eq]
  generalize (lim (val l)).length = t at *
  by_cases t0 : t = 0
  · exact ⟨_, Ev.bind h1 (Ev_pos (by omega) (Ev.now _)), Ev.bind h2 (Ev_pos (by omega) (Ev.now _))⟩
  · by_cases t1 : t = 1
    · exact ⟨_, Ev.bind h1 (Ev_neg (by omega) (Ev_neg (by omega) (Ev_pos (by omega) (Ev.now _)))), Ev.bind h2 (Ev_neg (by omega) (Ev_pos (by omega) (Ev_pos (by omega) (Ev.now _))))⟩
    · exact ⟨_, Ev.bind h1 (Ev_neg (by omega) (Ev_pos (by omega) (Ev.now _))), Ev.bind h2 (Ev_neg (by omega) (Ev_neg (by omega) (Ev.now _)))⟩
theorem low_w {w k m b : Nat} (hk : k < 2 ^ m) (hm : m < 63) : k + w / 2 ^ m % 2 * 2 ^ m < 2 ^ (m + 1) := by
  have h1 : w / 2 ^ m % 2 < 2 := Nat.mod_lt _ (by omega)
  have h2 : w / 2 ^ m % 2 * 2 ^ m ≤ 1 * 2 ^ m := Nat.mul_le_mul_right _ (by omega)
  rw [Nat.pow_succ]
  omega
theorem pow63 {m : Nat} (h : m ≤ 63) : 2 ^ m ≤ 9223372036854775808 := by
  have := Nat.pow_le_pow_right (show 0 < 2 by omega) h
  exact Nat.le_trans this (by decide)
theorem rLow_l {n : Int} {f w : Nat} {t : List Int} (hf : Int.tmod n 64 = (f : Int)) (hf2 : f < 64) (hw : w < 18446744073709551616) (ht : ok t) (hl : t.length ≤ 4096) (d : Nat) : ∀ i : Nat, i + d = f →
    Ev (fun k m _ => abacusref01_Low.l32757 k m n ((w / 2 ^ i : Nat) : Int) ((w % 2 ^ i : Nat) : Int) (i : Int) ((2 ^ i : Nat) : Int) t) (lim (val t + B t.length * (w % 2 ^ f)), 0) := by
  induction d with
  | zero =>
    intro i hi
    obtain rfl : i = f := by omega
    refine Ev_succ ?_
    simp only [abacusref01_Low.l32757, abacusref01_Low.b32757, abacusref01_Low.l4095, abacusref01_Low.b4095, hf]
    have hm : w % 2 ^ i < 18446744073709551616 := Nat.lt_of_le_of_lt (Nat.mod_le _ _) hw
    have := Trim_ev (l := t ++ [((w % 2 ^ i : Nat) : Int)]) (ok_snoc ht hm) (by simp; omega)
    rw [val_snoc, Int.toNat_natCast] at this
    exact Ev_neg (by omega) (Ev_pos (by omega) (Ev.bind this (Ev.now _)))
  | succ d ih =>
    intro i hi
    have hi62 : i < 63 := by omega
    have p1 := pow63 (m := i + 1) (by omega)
    have hm : w % 2 ^ i < 2 ^ i := Nat.mod_lt _ (Nat.pow_pos (by omega))
    have hlt := low_w (w := w) (b := 0) hm hi62
    have hq : w / 2 ^ i < 18446744073709551616 := Nat.lt_of_le_of_lt (Nat.div_le_self _ _) hw
    have e1 : IntKind.u64.wrap (Int.tdiv ((w / 2 ^ i : Nat) : Int) 2) = ((w / 2 ^ (i + 1) : Nat) : Int) := by rw [half_w hq, Nat.pow_succ, Nat.div_div_eq_div_mul]
    have e2 : IntKind.u64.wrap (Int.tmod ((w / 2 ^ i : Nat) : Int) 2 * ((2 ^ i : Nat) : Int)) = ((w / 2 ^ i % 2 * 2 ^ i : Nat) : Int) := by
      rw [odd_w, ← Int.natCast_mul]; exact wu (by omega)
    have e3 : IntKind.u64.wrap (((w % 2 ^ i : Nat) : Int) + ((w / 2 ^ i % 2 * 2 ^ i : Nat) : Int)) = ((w % 2 ^ (i + 1) : Nat) : Int) := by
      rw [← Int.natCast_add, wu (by omega), Nat.pow_succ, Nat.mod_mul, Nat.mul_comm (2 ^ i)]
    have e4 : wrap64 ((i : Int) + 1) = ((i + 1 : Nat) : Int) := wone (n := 64) (by omega) (by omega)
    have e5 : IntKind.u64.wrap (((2 ^ i : Nat) : Int) * 2) = ((2 ^ (i + 1) : Nat) : Int) := by
      rw [Nat.pow_succ] at p1 ⊢
      rw [show ((2 ^ i : Nat) : Int) * 2 = ((2 ^ i * 2 : Nat) : Int) by rw [Int.natCast_mul]; rfl]
      exact wu (by omega)
    refine Ev_succ ?_
    simp only [abacusref01_Low.l32757, abacusref01_Low.b32757, hf, e1, e2, e3, e4, e5]
    exact Ev_pos (by omega) (ih (i + 1) (by omega))
theorem rLow_ev {a : List Int} {n : Int} (ha : Arg a) (hn : n < 9223372036854775808) : Ev (fun k _ _ => abacusref01_Low.f k a n) (lowAns (val a) n) := by
  simp only [abacusref01_Low.f, abacusref01_Low.b0, ln_eq]
  unfold lowAns
  by_cases h1 : val a < B 4096
  · rw [if_pos h1]
    refine Ev.bind (big_no ha h1) (Ev_neg (by simp) ?_)
    by_cases h2 : n < 0
    · rw [if_pos h2]
      exact Ev_pos h2 (Ev.now _)
    rw [if_neg h2]
    refine Ev_neg h2 (Ev.bind (Trim_ev ha.ok (ha.lt (by decide))) ?_)
    have ta := (lim_len_le (val a) 4096).2 h1
    have w1 : wrap64 (64 * ((lim (val a)).length : Int)) = ((64 * (lim (val a)).length : Nat) : Int) := by unfold wrap64; omega
    rw [w1]
    obtain ⟨N, rfl⟩ := nat_of (show 0 ≤ n by omega)
    rw [Int.toNat_natCast]
    by_cases h3 : (N : Int) ≥ ((64 * (lim (val a)).length : Nat) : Int)
    · refine Ev_pos h3 (Ev_some ?_)
      have h4 := (lim_len_le (val a) (lim (val a)).length).1 (Nat.le_refl _)
      have h5 : 2 ^ (64 * (lim (val a)).length) ≤ 2 ^ N := Nat.pow_le_pow_right (by omega) (by omega)
      rw [← B_two] at h5
      rw [Nat.mod_eq_of_lt (by omega)]
    · refine Ev_neg h3 ?_
      obtain ⟨q, hq⟩ : ∃ q, q = N / 64 := ⟨_, rfl⟩
      obtain ⟨f, hf⟩ : ∃ f, f = N % 64 := ⟨_, rfl⟩
      have t1 : wrap64 (Int.tdiv (N : Int) 64) = (q : Int) := by rw [Int.tdiv_eq_ediv_of_nonneg (by omega)]; unfold wrap64; omega
      have t2 : Int.tmod (N : Int) 64 = (f : Int) := by rw [Int.tmod_eq_emod_of_nonneg (by omega)]; omega
      have hN : N = 64 * q + f := by omega
      have hql : q < (lim (val a)).length := by omega
      have ok1 := ok_lim (val a)
      obtain ⟨w, hw⟩ := nat_of (ok_rd ok1 (q : Int)).1
      have hw2 := (ok_rd ok1 (q : Int)).2
      rw [hw] at hw2
      have key := rLow_l (n := (N : Int)) (w := w) (t := (lim (val a)).take q) t2 (by omega) (by omega) (ok_take ok1 q) (by rw [List.length_take]; omega) f 0 (by omega)
      rw [Nat.pow_zero, Nat.div_one, Nat.mod_one, List.length_take, Nat.min_eq_left (by omega)] at key
      have e : val ((lim (val a)).take q) + B q * (w % 2 ^ f) = val a % 2 ^ N := by
        have h6 := low_at (s := f) ok1 hql
        rw [hw, Int.toNat_natCast] at h6
        rw [← h6, hN]
        have h7 (j : Nat) : ∀ i, i + j = (lim (val a)).length → q < i → val ((lim (val a)).take i) % 2 ^ (64 * q + f) = val a % 2 ^ (64 * q + f) := by
          induction j with
          | zero => intro i hi _; rw [List.take_of_length_le (by omega), val_lim]
          | succ j ih => intro i hi hqi; rw [← low_above (by omega) hqi]; exact ih (i + 1) (by omega) (by omega)
        exact h7 ((lim (val a)).length - (q + 1)) (q + 1) (by omega) (by omega)
      rw [e] at key
      rw [t1, hw, Int.toNat_natCast]
      exact Ev_pos (n0 _) (Ev_pos (by omega) (Ev_pos (n0 _) (Ev_pos (by omega) (Ev_in key))))
  · rw [if_neg h1]
    exact Ev.bind (big_yes ha h1) (Ev_pos rfl (Ev.now _))
/-! ### sums of lists -/
/-- The first i of them added up. -/
def sumTo (r : List (List Int)) : Nat → Nat
  | 0 => 0
  | i + 1 => sumTo r i + val (rdr r (i : Int))
theorem sumTo_mono (r : List (List Int)) {i j : Nat} (h : i ≤ j) : sumTo r i ≤ sumTo r j := by
  induction h with
  | refl => exact Nat.le_refl _
  | step _ ih => exact Nat.le_trans ih (Nat.le_add_right _ _)
open Classical in
/-- What Sum answers. -/
noncomputable def sumAns (r : List (List Int)) (N : Nat) : List Int × Int := if ∀ i, i < N → val (rdr r (i : Int)) < B 4096 then ans (sumTo r N) else ([], 2)
theorem sum_bound {r : List (List Int)} {N : Nat} (h : ∀ i, i < N → val (rdr r (i : Int)) < B 4096) : ∀ i, i ≤ N → sumTo r i ≤ i * B 4096
  | 0, _ => by simp [sumTo]
  | i + 1, hi => by
    have h1 := sum_bound h i (by omega)
    have h2 := h i (by omega)
    rw [sumTo, Nat.succ_mul]
    omega
theorem nat_Sum_add {r : List (List Int)} {N : Nat} (hN : N ≤ 140737488351232) (ha : ∀ i, i < N → Arg (rdr r (i : Int))) (hs : ∀ i, i < N → val (rdr r (i : Int)) < B 4096) (d : Nat) : ∀ i, i + d = N → sumTo r i < B 4096 →
    Ev (fun k m _ => nat_Sum.l245 k m (lim (sumTo r i)) (N : Int) r (i : Int)) (ans (sumTo r N)) := by
  induction d with
  | zero =>
    intro i hi hb
    obtain rfl : i = N := by omega
    refine Ev_succ ?_
    simp only [nat_Sum.l245, nat_Sum.b245]
    unfold ans
    rw [if_pos hb]
    exact Ev_neg (by omega) (Ev.now _)
  | succ d ih =>
    intro i hi hb
    have hiN : i < N := by omega
    have hA := ha i hiN
    have hS := hs i hiN
    have add := nat_Add_ev (ok_lim (sumTo r i)) hA.ok (by have := (lim_len_le (sumTo r i) 4096).2 hb; omega) (hA.lt (by decide))
    rw [val_lim, ans2, if_pos ⟨hb, hS⟩] at add
    have e1 : wrap64 ((i : Int) + 1) = ((i + 1 : Nat) : Int) := wone (n := 140737488351233) (by omega) (by omega)
    have hdef : sumTo r (i + 1) = sumTo r i + val (rdr r (i : Int)) := rfl
    refine Ev_succ ?_
    simp only [nat_Sum.l245, nat_Sum.b245, e1]
    refine Ev_pos (nlt hiN) (Ev_pos (n0 i) (Ev_pos (nlt hiN) (Ev.bind add ?_)))
    rw [← hdef]
    by_cases hb2 : sumTo r (i + 1) < B 4096
    · have : ans (sumTo r (i + 1)) = (lim (sumTo r (i + 1)), 0) := by unfold ans; rw [if_pos hb2]
      rw [this]
      exact Ev_neg (by simp) (ih (i + 1) (by omega) hb2)
    · have h1 : ans (sumTo r (i + 1)) = ([], 2) := by unfold ans; rw [if_neg hb2]
      have h2 : ans (sumTo r N) = ([], 2) := by
        unfold ans
        rw [if_neg (fun h => hb2 (Nat.lt_of_le_of_lt (sumTo_mono r (by omega)) h))]
      rw [h1, h2]
      exact Ev_pos (by simp) (Ev.now _)
theorem nat_Sum_ev {r : List (List Int)} {N : Nat} (hN : N ≤ 140737488351232) (ha : ∀ i, i < N → Arg (rdr r (i : Int))) : Ev (fun k _ _ => nat_Sum.f k (N : Int) r) (sumAns r N) := by
  simp only [nat_Sum.f, nat_Sum.b0]
  have go (d : Nat) : ∀ i, i + d = N → (∀ j, j < i → val (rdr r (j : Int)) < B 4096) → Ev (fun k m _ => nat_Sum.l53 k m (N : Int) r (i : Int)) (sumAns r N) := by
    induction d with
    | zero =>
      intro i hi hs
      obtain rfl : i = N := by omega
      have := nat_Sum_add hN ha hs i 0 (by omega) (by simp [sumTo]; exact B_pos _)
      rw [show sumTo r 0 = 0 from rfl, lim_zero] at this
      refine Ev_succ ?_
      simp only [nat_Sum.l53, nat_Sum.b53, nat_Sum.l7, nat_Sum.b7]
      unfold sumAns
      rw [if_pos hs]
      exact Ev_neg (by omega) (Ev_in this)
    | succ d ih =>
      intro i hi hs
      have hiN : i < N := by omega
      have hA := ha i hiN
      have e1 : wrap64 ((i : Int) + 1) = ((i + 1 : Nat) : Int) := wone (n := 140737488351233) (by omega) (by omega)
      have hb := nat_big_ev hA.ok (hA.lt (by decide))
      refine Ev_succ ?_
      simp only [nat_Sum.l53, nat_Sum.b53, e1]
      refine Ev_pos (nlt hiN) (Ev_pos (n0 i) (Ev_pos (nlt hiN) (Ev.bind hb ?_)))
      by_cases h1 : val (rdr r (i : Int)) < B 4096
      · refine Ev_neg (by simp [h1]) (ih (i + 1) (by omega) (fun j hj => ?_))
        by_cases h2 : j = i
        · rw [h2]; exact h1
        · exact hs j (by omega)
      · unfold sumAns
        rw [if_neg (fun h => h1 (h i hiN))]
        exact Ev_pos (by simp [h1]) (Ev.now _)
  exact Ev_in (go N 0 (by omega) (fun j hj => by omega))
theorem sum_lt {r : List (List Int)} {N : Nat} (hN : N ≤ 140737488351232) (h : ∀ i, i < N → val (rdr r (i : Int)) < B 4096) {i : Nat} (hi : i ≤ N) : sumTo r i < B 4097 := by
  have h1 := sum_bound h i hi
  have h2 : i * B 4096 < 18446744073709551616 * B 4096 := Nat.mul_lt_mul_of_pos_right (by omega) (B_pos _)
  have h3 : B 4097 = 18446744073709551616 * B 4096 := B_succ 4096
  omega
theorem rSum_ev {r : List (List Int)} {N : Nat} (hN : N ≤ 140737488351232) (ha : ∀ i, i < N → Arg (rdr r (i : Int))) : Ev (fun k _ _ => abacusref01_Sum.f k (N : Int) r) (sumAns r N) := by
  simp only [abacusref01_Sum.f, abacusref01_Sum.b0]
  have add (hs : ∀ i, i < N → val (rdr r (i : Int)) < B 4096) (d : Nat) : ∀ i, i + d = N → Ev (fun k m _ => abacusref01_Sum.l245 k m (N : Int) r (i : Int) (lim (sumTo r i))) (ans (sumTo r N)) := by
    induction d with
    | zero =>
      intro i hi
      obtain rfl : i = N := by omega
      refine Ev_succ ?_
      simp only [abacusref01_Sum.l245, abacusref01_Sum.b245, abacusref01_Sum.l31, abacusref01_Sum.b31]
      exact Ev_neg (by omega) (Ev.bind (big_lim (B_big (sum_lt hN hs (Nat.le_refl _)) (by decide))) ev_ans)
    | succ d ih =>
      intro i hi
      have hiN : i < N := by omega
      have hA := ha i hiN
      have hS := hs i hiN
      have e1 : wrap64 ((i : Int) + 1) = ((i + 1 : Nat) : Int) := wone (n := 140737488351233) (by omega) (by omega)
      have hl : (lim (sumTo r i)).length ≤ 4097 := (lim_len_le _ _).2 (sum_lt hN hs (Nat.le_of_lt hiN))
      have pl := Plus_evS (ok_lim (sumTo r i)) hA.ok (Sz_len (ok_lim _) (Nat.le_trans hl (by decide))) (hA.sz hS)
      rw [val_lim, show sumTo r i + val (rdr r (i : Int)) = sumTo r (i + 1) from rfl] at pl
      have next := ih (i + 1) (by omega)
      clear hl
      refine Ev_succ ?_
      simp only [abacusref01_Sum.l245, abacusref01_Sum.b245, e1]
      exact Ev_pos (nlt hiN) (Ev_pos (n0 i) (Ev_pos (nlt hiN) (Ev.bind pl next)))
  have go (d : Nat) : ∀ i, i + d = N → (∀ j, j < i → val (rdr r (j : Int)) < B 4096) → Ev (fun k m _ => abacusref01_Sum.l117 k m (N : Int) r (i : Int)) (sumAns r N) := by
    induction d with
    | zero =>
      intro i hi hs
      obtain rfl : i = N := by omega
      have := add hs i 0 (by omega)
      rw [show sumTo r 0 = 0 from rfl, lim_zero] at this
      refine Ev_succ ?_
      simp only [abacusref01_Sum.l117, abacusref01_Sum.b117, abacusref01_Sum.l15, abacusref01_Sum.b15]
      unfold sumAns
      rw [if_pos hs]
      exact Ev_neg (by omega) (Ev_in this)
    | succ d ih =>
      intro i hi hs
      have hiN : i < N := by omega
      have hA := ha i hiN
      have e1 : wrap64 ((i : Int) + 1) = ((i + 1 : Nat) : Int) := wone (n := 140737488351233) (by omega) (by omega)
      refine Ev_succ ?_
      simp only [abacusref01_Sum.l117, abacusref01_Sum.b117, e1]
      refine Ev_pos (nlt hiN) (Ev_pos (n0 i) (Ev_pos (nlt hiN) ?_))
      by_cases h1 : val (rdr r (i : Int)) < B 4096
      · refine Ev.bind (big_no hA h1) (Ev_neg (by simp) (ih (i + 1) (by omega) (fun j hj => ?_)))
        by_cases h2 : j = i
        · rw [h2]; exact h1
        · exact hs j (by omega)
      · unfold sumAns
        rw [if_neg (fun h => h1 (h i hiN))]
        exact Ev.bind (big_yes hA h1) (Ev_pos rfl (Ev.now _))
  exact Ev_in (go N 0 (by omega) (fun j hj => by omega))
end Go.Proofs.YtlnfgcnagfdliaaDoor.R1
