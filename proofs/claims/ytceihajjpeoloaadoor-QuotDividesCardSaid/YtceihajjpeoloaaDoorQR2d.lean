/- The second reference's division: the digits. Conditions: as in R2c. -/
import Derived.Test.YtceihajjpeoloaaDoorQR2c
namespace Go.Proofs.YtceihajjpeoloaaDoor.R2
open Go.RowKit Go.Proofs.YtceihajjpeoloaaDoor.Lib Go.Proofs.YtceihajjpeoloaaDoor.LibB Go.Proofs.YtceihajjpeoloaaDoor.F Go.Proofs.YtceihajjpeoloaaDoor.Nat1 Go.Proofs.YtceihajjpeoloaaDoor.Nat2 Go.Proofs.YtceihajjpeoloaaDoor.Bits Go.Proofs.YtceihajjpeoloaaDoor.LongL
open Go.Proofs.YtceihajjpeoloaaDoorA (rd rdr ln ln_eq lnr lnr_eq mx mn shl shr wr wr_eq)
set_option linter.unusedVariables false
set_option linter.unusedSimpArgs false
/-- The digit j under way, its bits from k on are found. -/
structure Bt (U V n m : Nat) (j k : Nat) (us qs : List Int) : Prop where
  ul : us.length = m + n
  uo : ok us
  ql : qs.length = m
  qo : ok qs
  qz : ∀ t, t < j → rd qs ((t : Nat) : Int) = 0
  qd : (rd qs ((j : Nat) : Int)).toNat % 2 ^ k = 0
  eq : val qs * V + val us = U
  lt : val (us.drop j) < V * 2 ^ k
theorem pow_half (k : Nat) : 2 ^ (k + 1) = 2 ^ k + 2 ^ k := by rw [Nat.pow_succ]; omega
theorem mod_half {q k : Nat} (h : q % 2 ^ (k + 1) = 0) : q % 2 ^ k = 0 := by
  have : 2 ^ k ∣ 2 ^ (k + 1) := ⟨2, by rw [Nat.pow_succ]⟩
  exact Nat.mod_eq_zero_of_dvd (Nat.dvd_trans this (Nat.dvd_of_mod_eq_zero h))
theorem high_bit {q k : Nat} (hk : k < 64) (h : q % 2 ^ (k + 1) = 0) (hq : q < 18446744073709551616) : q + 2 ^ k < 18446744073709551616 ∧ (q + 2 ^ k) % 2 ^ k = 0 := by
  have hd : (18446744073709551616 : Nat) = 2 ^ (63 - k) * 2 ^ (k + 1) := by rw [← Nat.pow_add, show 63 - k + (k + 1) = 64 by omega]
  obtain ⟨c, hc⟩ := Nat.dvd_of_mod_eq_zero h
  have hp : 0 < 2 ^ (k + 1) := Nat.pow_pos (by decide)
  have hp2 := pow_half k
  refine ⟨?_, ?_⟩
  · rw [hc, hd, Nat.mul_comm] at hq
    have hcl : c < 2 ^ (63 - k) := Nat.lt_of_mul_lt_mul_right hq
    have : 2 ^ (k + 1) * (c + 1) ≤ 2 ^ (k + 1) * 2 ^ (63 - k) := Nat.mul_le_mul_left _ hcl
    rw [Nat.mul_comm _ (2 ^ (63 - k)), ← hd, Nat.mul_add, Nat.mul_one, ← hc] at this
    have h0 : 0 < 2 ^ k := Nat.pow_pos (by decide)
    omega
  · rw [Nat.add_mod_right]; exact mod_half h
theorem or_bit {q k : Nat} (hk : k < 64) (h : q % 2 ^ (k + 1) = 0) (hq : q < 18446744073709551616) : Go.bits .or .u64 (q : Int) (shl .u64 1 (k : Int)) = ((q + 2 ^ k : Nat) : Int) := by
  have hs := shl_u64 (x := 1) (s := k) (by decide) (by omega)
  rw [Int.one_mul] at hs
  have hp : 2 ^ k < 18446744073709551616 := pow_lt_64 hk
  have hm : ((2 ^ k : Nat) : Int) % 18446744073709551616 = ((2 ^ k : Nat) : Int) := by omega
  rw [hs, hm]
  obtain ⟨c, hc⟩ := Nat.dvd_of_mod_eq_zero h
  have hb := (high_bit hk h hq).1
  have hx : (2 : Nat) ^ k < 2 ^ (k + 1) := by have := pow_half k; have : 0 < 2 ^ k := Nat.pow_pos (by decide); omega
  have := or_low (p := (c : Int)) (x := ((2 ^ k : Nat) : Int)) (s := k + 1) (by omega) (by omega) (Int.ofNat_lt.2 hx) (by rw [← Int.natCast_mul, Nat.mul_comm, ← hc]; omega)
  rw [← Int.natCast_mul, Nat.mul_comm, ← hc] at this
  rw [this]
  omega
/-- What the window at a digit is. -/
theorem Bt.win {U V n m j k : Nat} {us qs : List Int} (T : Bt U V n m j k us qs) (hj : j < m) (hb : V * 2 ^ k ≤ B (n + 1)) : win us j (n + 1) = val (us.drop j) := by
  have h1 := drop_high (us := us) (j := j) (k := n + 1) (V := V * 2 ^ k) T.lt hb
  have h2 := val_split (us.drop j) (n + 1)
  rw [List.drop_drop] at h2
  rw [h1, Nat.mul_zero, Nat.add_zero] at h2
  exact h2.symm
theorem Bt.less {U V n m j k : Nat} {us qs : List Int} (T : Bt U V n m j (k + 1) us qs) (h : val (us.drop j) < V * 2 ^ k) : Bt U V n m j k us qs :=
  ⟨T.ul, T.uo, T.ql, T.qo, T.qz, mod_half T.qd, T.eq, h⟩
theorem take_win {us xs : List Int} {j N : Nat} (hl : xs.length = us.length) (hj : j ≤ us.length) (h : ∀ k : Nat, k < j ∨ j + N ≤ k → rd xs (k : Int) = rd us (k : Int)) :
    ∃ L H : Nat, val us = L + B j * (win us j N + B N * H) ∧ val xs = L + B j * (win xs j N + B N * H) ∧ val (us.drop j) = win us j N + B N * H ∧ val (xs.drop j) = win xs j N + B N * H := by
  have e1 : val (xs.take j) = val (us.take j) := by
    have h1 := win_congr (us := xs) (xs := us) (j := 0) j (fun k _ hk => h k (.inl (by omega)))
    unfold LongL.win at h1
    rwa [List.drop_zero, List.drop_zero] at h1
  have e2 : val (xs.drop (j + N)) = val (us.drop (j + N)) := by
    rcases Nat.le_total us.length (j + N) with g | g
    · rw [List.drop_eq_nil_of_le g, List.drop_eq_nil_of_le (by rw [hl]; exact g)]
    · have h1 := win_congr (us := xs) (xs := us) (j := j + N) (us.length) (fun k hk _ => h k (.inr hk))
      rw [win_all (by rw [hl]; omega), win_all (by omega)] at h1
      exact h1
  have s (l : List Int) (hlj : j ≤ l.length) : val l = val (l.take j) + B j * val (l.drop j) ∧ (val (l.drop j) = LongL.win l j N + B N * val (l.drop (j + N)) ) := by
    have a1 := val_split l j
    rw [Nat.min_eq_left hlj] at a1
    refine ⟨a1, ?_⟩
    have a2 := val_split (l.drop j) N
    rw [List.drop_drop] at a2
    rcases Nat.le_total N (l.drop j).length with g | g
    · rw [Nat.min_eq_left g] at a2; exact a2
    · have : val (l.drop (j + N)) = 0 := by
        rw [List.drop_eq_nil_of_le (by rw [List.length_drop] at g; omega), val_nil]
      rw [this, Nat.mul_zero] at a2 ⊢
      exact a2
  obtain ⟨a1, a2⟩ := s us hj
  obtain ⟨b1, b2⟩ := s xs (by rw [hl]; exact hj)
  refine ⟨val (us.take j), val (us.drop (j + N)), by rw [a1, a2], by rw [b1, b2, e1, e2], a2, by rw [b2, e2]⟩
theorem digit_eq {U Q Q' V u x W W' L H b p P : Nat} (h1 : Q * V + u = U) (h2 : Q' = Q + b * p) (h3 : u = L + b * (W + P * H)) (h4 : x = L + b * (W' + P * H)) (h5 : W' + V * p = W) : Q' * V + x = U := by
  rw [h2, h4, Nat.add_mul]
  rw [h3, ← h5] at h1
  rw [← h1, Nat.mul_assoc b p V, Nat.mul_comm p V]
  simp only [Nat.mul_add]
  omega
theorem set_digit {Q Q' b q p : Nat} (h : Q' + b * q = Q + b * (q + p)) : Q' = Q + b * p := by
  rw [Nat.mul_add] at h; omega
theorem low_win {W W' V p P H d d' : Nat} (h1 : d = W + P * H) (h2 : d' = W' + P * H) (h3 : W = d) (h5 : W' + V * p = W) (h6 : d < V * (p + p)) : d' < V * p := by
  rw [Nat.mul_add] at h6; omega
theorem j_facts {j m n L : Nat} (hj : j < m) (hl : L = m + n) : j + (n + 1) ≤ L ∧ j < L ∧ j ≤ L ∧ 0 < L := by omega
theorem Bt.more {U V n m j k e : Nat} {us qs xs : List Int} (T : Bt U V n m j (k + 1) us qs) (hj : j < m) (hk : k < 64) (hb : V * 2 ^ (k + 1) ≤ B (n + 1)) (hx : xs.length = us.length) (ox : ok xs)
    (h5 : LongL.win xs j (n + 1) + V * 2 ^ k = LongL.win us j (n + 1)) (out : ∀ t : Nat, t < j ∨ j + (n + 1) ≤ t → rd xs (t : Int) = rd us (t : Int)) {q : Nat} (hq : rd qs (j : Int) = (q : Int)) (hql : q < 18446744073709551616) :
    Bt U V n m j k xs (qs.set j ((q + 2 ^ k : Nat) : Int)) := by
  obtain ⟨j1, j2, j3, j4⟩ := j_facts hj T.ul
  have hd := T.qd
  rw [hq, Int.toNat_natCast] at hd
  obtain ⟨b1, b2⟩ := high_bit hk hd hql
  have hjq : j < qs.length := by rw [T.ql]; exact hj
  obtain ⟨L, H, u1, u2, u3, u4⟩ := take_win (N := n + 1) hx j3 out
  have hw := T.win hj hb
  have hs := val_set qs j ((q + 2 ^ k : Nat) : Int) hjq
  rw [hq, Int.toNat_natCast, Int.toNat_natCast] at hs
  have hlt := T.lt
  rw [pow_half] at hlt
  refine ⟨hx.trans T.ul, ox, by rw [List.length_set]; exact T.ql, ok_set T.qo _ (Int.natCast_nonneg _) (Int.ofNat_lt.2 b1), fun t ht => ?_, ?_, digit_eq T.eq (set_digit hs) u1 u2 h5, low_win u3 u4 hw h5 hlt⟩
  · rw [rd_set_ne _ _ _ _ (Nat.ne_of_gt ht)]; exact T.qz t ht
  · rw [rd_set_self _ _ _ hjq, Int.toNat_natCast]; exact b2
theorem k_facts {i : Nat} (h : i + 1 ≤ 64) : i < 64 ∧ i ≤ 64 ∧ ((i + 1 : Nat) : Int) - 1 = (i : Int) ∧ wrap64 ((i : Int) - 1) = (i : Int) - 1 ∧ IntKind.u64.wrap (i : Int) = (i : Int) := by
  refine ⟨by omega, by omega, by omega, ?_, ?_⟩
  · unfold wrap64; omega
  · rw [IntKind.wrap_u64]; omega
theorem jw {j : Nat} (h : j ≤ 35184372088832) : wrap64 ((j : Int) - 1) = (j : Int) - 1 := by unfold wrap64; omega
theorem bits_l {U V n m j : Nat} {ms : List (List Int)} {R : List Int × List Int} (hM : Mv V n ms) (h64 : ms.length = 64) (hV : V < B n) (hj : j < m) (hmn : m + n ≤ 17592186044416)
    (cont : ∀ us qs, Bt U V n m j 0 us qs → Ev (fun k w _ => abacusref02_Divide.l16373 k w ((j : Int) - 1) ms us qs) R) (i : Nat) : ∀ us qs, Bt U V n m j i us qs → i ≤ 64 →
    Ev (fun k w p => abacusref02_Divide.l1047845 k (abacusref02_Divide.l16373 k w) p (j : Int) ((i : Int) - 1) ms us qs) R := by
  have jl : j ≤ 35184372088832 := by omega
  induction i with
  | zero =>
    intro us qs T _
    refine Ev_succ2 ?_
    simp only [abacusref02_Divide.l1047845, abacusref02_Divide.b1047845, jw jl]
    exact Ev_neg (by decide) (cont us qs T)
  | succ i ih =>
    intro us qs T hi
    obtain ⟨k1, k2, k3, k4, k5⟩ := k_facts hi
    have im : i < ms.length := by rw [h64]; exact k1
    obtain ⟨om, lm, vm⟩ := hM i im
    have hb : V * 2 ^ (i + 1) ≤ B (n + 1) := Nat.le_of_lt (mult_lt hV hi)
    obtain ⟨j1, j2, j3, j4⟩ := j_facts hj T.ul
    have hw := T.win hj hb
    have ul : us.length ≤ 35184372088832 := by rw [T.ul]; exact Nat.le_trans hmn (by decide)
    have j1' : j + (rdr ms (i : Int)).length ≤ us.length := by rw [lm]; exact j1
    have he := holds_ev (j := j) T.uo om j1' ul
    rw [lm, vm] at he
    have imI : (i : Int) < (ms.length : Int) := nlt2 im
    refine Ev_succ2 ?_
    simp only [abacusref02_Divide.l1047845, abacusref02_Divide.b1047845, ln_eq, lnr_eq, k3, k4, k5]
    refine Ev_pos (Int.natCast_nonneg _) (Ev_pos (Int.natCast_nonneg _) (Ev_pos imI (Ev.bind he ?_)))
    by_cases hc : V * 2 ^ i ≤ LongL.win us j (n + 1)
    · obtain ⟨xs, e, e1, T2⟩ := takeOff_ev (j := j) om T.uo j1' ul
      have hv := T2.v
      rw [lm, val_take_all _ (Nat.le_of_eq lm), vm] at hv
      have hwx := win_lt T2.okx j (n + 1)
      have h5 := off_none hv hwx hc T2.c1
      obtain ⟨q, hq, hql⟩ := nat_rd T.qo j
      have hd := T.qd
      rw [hq, Int.toNat_natCast] at hd
      have T' := T.more (e := 0) hj k1 hb T2.len T2.okx (by rw [h5]; exact Nat.sub_add_cancel hc) (fun t ht => T2.out t (by rw [lm]; exact ht)) hq hql
      have jq : (j : Int) < (qs.length : Int) := by rw [T.ql]; exact nlt2 hj
      have nx := ih _ _ T' k2
      rw [← or_bit k1 hd hql, ← hq] at nx
      rw [decide_eq_true hc]
      refine Ev_pos rfl (Ev_pos (Int.natCast_nonneg _) (Ev_pos imI (Ev_pos (nlt2 j4) (Ev.bind e1 ?_))))
      exact Ev_pos (Int.natCast_nonneg _) (Ev_pos jq (Ev_pos (Int.natCast_nonneg _) (Ev_pos (Int.natCast_nonneg _) (Ev_pos jq (by rw [Int.toNat_natCast]; exact nx)))))
    · rw [decide_eq_false hc]
      exact Ev_neg (by simp) (ih us qs (T.less (by rw [← hw]; exact Nat.not_le.1 hc)) k2)
theorem top_digit {a V x : Nat} (h : x < V) (ha : a < 18446744073709551616) : a + 18446744073709551616 * x < V * 18446744073709551616 := by omega
theorem last_two {U V Q u : Nat} (h : Q * V + u = U) (hu : u < V) : Q = U / V ∧ u = U % V := by
  have hV : 0 < V := by omega
  have h1 : U / V = Q := by
    rw [← h, Nat.mul_comm Q V, Nat.mul_add_div hV, Nat.div_eq_of_lt hu, Nat.add_zero]
  have h2 := Nat.div_add_mod U V
  rw [h1, Nat.mul_comm V Q] at h2
  exact ⟨h1.symm, by omega⟩
theorem digits_l {U V n m : Nat} {ms : List (List Int)} (hM : Mv V n ms) (h64 : ms.length = 64) (hV : V < B n) (hmn : m + n ≤ 17592186044416) (j : Nat) : ∀ us qs, Lg U V n m j us qs → j ≤ m →
    Ev (fun k w _ => abacusref02_Divide.l16373 k w ((j : Int) - 1) ms us qs) (lim (U / V), lim (U % V)) := by
  induction j with
  | zero =>
    intro us qs L _
    have hlt := L.lt
    rw [List.drop_zero] at hlt
    obtain ⟨h1, h2⟩ := last_two L.eq hlt
    have ql : qs.length ≤ 35184372088832 := by rw [L.ql]; omega
    have ul : us.length ≤ 35184372088832 := by rw [L.ul]; omega
    have s1 := Short_ev L.qo ql
    have s2 := Short_ev L.uo ul
    rw [h1] at s1
    rw [h2] at s2
    refine Ev_succ ?_
    simp only [abacusref02_Divide.l16373, abacusref02_Divide.b16373, abacusref02_Divide.l2047, abacusref02_Divide.b2047]
    exact Ev_neg (by decide) (Ev.bind s1 (Ev.bind s2 (Ev.now _)))
  | succ j ih =>
    intro us qs L hjm
    have hj : j < m := hjm
    have ju : j < us.length := by rw [L.ul]; omega
    obtain ⟨x, hx, hxl⟩ := nat_rd L.uo j
    have e0 : ((j + 1 : Nat) : Int) - 1 = (j : Int) := by omega
    have T : Bt U V n m j 64 us qs := by
      refine ⟨L.ul, L.uo, L.ql, L.qo, fun t ht => L.qz t (Nat.lt_succ_of_lt ht), by rw [L.qz j (Nat.lt_succ_self j)]; exact Nat.zero_mod _, L.eq, ?_⟩
      rw [val_drop_cons us j ju, hx, Int.toNat_natCast]
      exact top_digit L.lt hxl
    have nx := bits_l hM h64 hV hj hmn (R := (lim (U / V), lim (U % V))) (fun us qs T => ih us qs ⟨T.ul, T.uo, T.ql, T.qo, T.qz, T.eq, by have := T.lt; rwa [Nat.pow_zero, Nat.mul_one] at this⟩ (Nat.le_of_lt hj)) 64 us qs T (Nat.le_refl _)
    refine Ev_succ ?_
    simp only [abacusref02_Divide.l16373, abacusref02_Divide.b16373, e0]
    exact Ev_pos (Int.natCast_nonneg _) (Ev_in2 (g := fun k w p => abacusref02_Divide.l1047845 k (abacusref02_Divide.l16373 k w) p (j : Int) 63 ms us qs) nx)
end Go.Proofs.YtceihajjpeoloaaDoor.R2
