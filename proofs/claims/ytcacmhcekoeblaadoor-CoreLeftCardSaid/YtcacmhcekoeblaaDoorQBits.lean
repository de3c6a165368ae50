/- What the printed BitLen, Bit, Trail, Shl, Shr, Low of nat compute, by the value of their lists. Conditions: lists of limbs below 2^64, of lengths that a slice of limbs has. -/
import Derived.Test.YtcacmhcekoeblaaDoorQNat1
import Derived.Test.YtcacmhcekoeblaaDoorQLB
namespace Go.Proofs.YtcacmhcekoeblaaDoor.Bits
open Go.RowKit Go.Proofs.YtcacmhcekoeblaaDoor.Lib Go.Proofs.YtcacmhcekoeblaaDoor.LibB Go.Proofs.YtcacmhcekoeblaaDoor.F Go.Proofs.YtcacmhcekoeblaaDoor.Nat1
open Go.Proofs.YtcacmhcekoeblaaDoorA (rd ln ln_eq mx mn shl shr wr wr_eq)
set_option linter.unusedVariables false
set_option linter.unusedSimpArgs false

theorem wrapU64 {n : Int} (h0 : 0 ≤ n) (h1 : n < 18446744073709551616) : IntKind.u64.wrap n = n := by rw [IntKind.wrap_u64]; omega
theorem rd_take {l : List Int} {i n : Nat} (h : i < n) : rd (l.take n) (i : Int) = rd l (i : Int) := by
  rw [rd_nat, rd_nat, List.getD_eq_getElem?_getD, List.getD_eq_getElem?_getD, List.getElem?_take, if_pos h]
theorem rd_top {l : List Int} (h : ok l) {i : Nat} (hi : i < (lim (val l)).length) : rd l (i : Int) = rd (lim (val l)) (i : Int) := by
  rw [← take_lim h, rd_take (l := l) hi]
theorem nat_parts (n : Int) (h0 : 0 ≤ n) (h1 : n < 9223372036854775808) : wrap64 (Int.tdiv n 64) = ((n.toNat / 64 : Nat) : Int) ∧ IntKind.u64.wrap (Int.tmod n 64) = ((n.toNat % 64 : Nat) : Int) := by
  obtain ⟨m, rfl⟩ := Int.eq_ofNat_of_zero_le h0
  have e1 : Int.tdiv (m : Int) 64 = ((m / 64 : Nat) : Int) := by rw [Int.tdiv_eq_ediv_of_nonneg h0]; omega
  have e2 : Int.tmod (m : Int) 64 = ((m % 64 : Nat) : Int) := by rw [Int.tmod_eq_emod_of_nonneg h0]; omega
  rw [e1, e2, Int.toNat_natCast]
  exact ⟨wrap64_nat (by omega) (by omega), wrapU64 (by omega) (by omega)⟩
theorem or_low' {p x : Nat} {s : Nat} (h2 : x < 2 ^ s) (h3 : p * 2 ^ s + x < 18446744073709551616) : Go.bits .or .u64 (x : Int) ((p * 2 ^ s : Nat) : Int) = ((p * 2 ^ s + x : Nat) : Int) := by
  rw [u64_or_nat _ _ (by omega) (by omega), Nat.or_comm, Nat.mul_comm p, ← Nat.two_pow_add_eq_or_of_lt (by omega)]
theorem or_low2 {p x : Nat} {s : Nat} (h2 : x < 2 ^ s) (h3 : p * 2 ^ s + x < 18446744073709551616) : Go.bits .or .u64 (x : Int) ((p * 2 ^ s : Nat) : Int) = ((p * 2 ^ s + x : Nat) : Int) := or_low' h2 h3
theorem pow_lt_64 {s : Nat} (h : s < 64) : (2 : Nat) ^ s < 18446744073709551616 := by
  have := Nat.pow_lt_pow_right (a := 2) (by omega) h
  exact this
theorem pow_parts {s : Nat} (h : s ≤ 64) : (18446744073709551616 : Nat) = 2 ^ (64 - s) * 2 ^ s := by
  rw [← Nat.pow_add, show 64 - s + s = 64 by omega]
theorem nat_lt {n : Nat} (h : n < 18446744073709551616) : 0 ≤ (n : Int) ∧ (n : Int) < 18446744073709551616 := by omega
theorem low_fits {x s : Nat} (hs : s ≤ 64) (o : Nat) (ho : o < 2 ^ s) : x % 2 ^ (64 - s) * 2 ^ s + o < 18446744073709551616 := by
  have hq := Nat.pow_pos (n := 64 - s) (show 0 < 2 by omega)
  have h1 : x % 2 ^ (64 - s) < 2 ^ (64 - s) := Nat.mod_lt _ hq
  have h2 : (x % 2 ^ (64 - s) + 1) * 2 ^ s ≤ 2 ^ (64 - s) * 2 ^ s := Nat.mul_le_mul_right _ h1
  rw [← pow_parts hs, Nat.add_mul, Nat.one_mul] at h2
  omega

theorem len64 {x : Int} (hx : 0 ≤ x ∧ x < 18446744073709551616) : bits_Len64.f x = some ((blen x.toNat : Nat) : Int) := by
  unfold bits_Len64.f
  rw [if_pos ⟨hx.1, by omega⟩, blen_limb (by omega)]
/-! ### BitLen -/
theorem bitLen_wrap {n b : Nat} (h : n ≤ 35184372088832) (h5 : b ≤ 64) : wrap64 (wrap64 (64 * (n : Int)) + (b : Int)) = ((64 * n + b : Nat) : Int) := by
  unfold wrap64; omega
theorem nat_BitLen_ev {l : List Int} (h : ok l) (hl : l.length ≤ 35184372088832) : Ev (fun k _ _ => nat_BitLen.f k l) ((blen (val l) : Nat) : Int) := by
  simp only [nat_BitLen.f, nat_BitLen.b0, ln_eq]
  refine Ev.bind (nat_size_ev h (by omega)) ?_
  have hz := @lim_len_zero (val l)
  have hn := lim_len_val_le h
  by_cases h0 : val l = 0
  · refine Ev_pos (by omega) (Ev_some ?_)
    rw [h0]; rfl
  · obtain ⟨n, hln⟩ : ∃ n, (lim (val l)).length = n + 1 := ⟨(lim (val l)).length - 1, by omega⟩
    rw [hln]
    have e : wrap64 (((n + 1 : Nat) : Int) - 1) = (n : Int) := by unfold wrap64; omega
    rw [e]
    refine Ev_neg (by omega) (Ev_pos (by omega) (Ev_pos (by omega) ?_))
    have hr := rd_top h (i := n) (by omega)
    have ht := rd_lim_last (val l) h0
    rw [hln, Nat.add_sub_cancel] at ht
    have ho := ok_rd (ok_lim (val l)) (n : Int)
    rw [hr]
    refine Ev_bind_eq (len64 ho) (Ev_some ?_)
    have h1 := val_take_succ (lim (val l)) n
    rw [val_take_all _ (by omega), val_lim] at h1
    have h2 := val_lt (ok_take (ok_lim (val l)) n)
    rw [List.length_take, hln, Nat.min_eq_left (by omega)] at h2
    have h3 := blen_high h2 (r := (rd (lim (val l)) (n : Int)).toNat) (by omega)
    rw [← h1] at h3
    have h4 := blen_le (rd (lim (val l)) (n : Int)).toNat 64
    have h5 : blen (rd (lim (val l)) (n : Int)).toNat ≤ 64 := h4.2 (by omega)
    rw [h3]
    have h6 : n ≤ 35184372088832 := by omega
    generalize blen (rd (lim (val l)) (n : Int)).toNat = b at h5
    exact bitLen_wrap h6 h5
/-! ### Bit -/
theorem nat_Bit_eq {l : List Int} (h : ok l) (hl : l.length ≤ 35184372088832) (i : Int) (h1 : i < 9223372036854775808) : nat_Bit.f l i = some (if i < 0 then 0 else ((val l / 2 ^ i.toNat % 2 : Nat) : Int)) := by
  unfold nat_Bit.f nat_Bit.b0
  simp only [ln_eq]
  by_cases h0 : i < 0
  · rw [if_pos h0, if_pos h0]
  · rw [if_neg h0, if_neg h0]
    obtain ⟨e1, e2⟩ := nat_parts i (by omega) h1
    rw [e1, e2]
    have hs : i.toNat % 64 < 64 := Nat.mod_lt _ (by omega)
    have hb := bit_val h (i.toNat / 64) (i.toNat % 64) hs
    rw [Nat.div_add_mod] at hb
    rw [hb]
    by_cases h2 : ((i.toNat / 64 : Nat) : Int) ≥ (l.length : Int)
    · rw [if_pos h2, rd_over (by omega)]
      simp
    · rw [if_neg h2, if_pos (by omega), if_pos (by omega), if_pos (by omega)]
      have ho := ok_rd h ((i.toNat / 64 : Nat) : Int)
      rw [shr_u64 (by omega)]
      obtain ⟨x, hx⟩ := Int.eq_ofNat_of_zero_le ho.1
      rw [hx] at ho ⊢
      have hp := Nat.pow_pos (n := i.toNat % 64) (show 0 < 2 by omega)
      have hd : x / 2 ^ (i.toNat % 64) ≤ x := Nat.div_le_self _ _
      rw [← Int.natCast_ediv, show (1 : Int) = ((1 : Nat) : Int) from rfl, u64_and_nat _ _ (by omega) (by omega), Nat.and_one_is_mod, Int.toNat_natCast]
      rw [wrap64_nat (by omega) (by omega)]
/-! ### Trail -/
theorem ctz64 {x : Int} (hx : 0 ≤ x ∧ x < 18446744073709551616) : bits_TrailingZeros64.f x = some ((Lib.ctz 64 x.toNat : Nat) : Int) := by
  unfold bits_TrailingZeros64.f
  rw [if_pos hx]
theorem trail_wrap {n b : Nat} (h : n ≤ 35184372088832) (h5 : b < 64) : wrap64 (wrap64 (64 * (n : Int)) + (b : Int)) = ((64 * n + b : Nat) : Int) := by
  unfold wrap64; omega
theorem nat_Trail_l {l : List Int} (h : ok l) (hl : l.length ≤ 35184372088832) (d : Nat) : ∀ i : Nat, i + d = l.length → val (l.take i) = 0 → Ev (fun k q _ => nat_Trail.l53 k q l l.length i) ((tz (val l) : Nat) : Int) := by
  induction d with
  | zero =>
    intro i hi hv
    refine Ev_succ ?_
    simp only [nat_Trail.l53, nat_Trail.b53, ln_eq]
    refine Ev_neg (by omega) (Ev_some ?_)
    rw [val_take_all l (by omega)] at hv
    rw [hv]; rfl
  | succ d ih =>
    intro i hi hv
    have e : wrap64 ((i : Int) + 1) = ((i + 1 : Nat) : Int) := by unfold wrap64; omega
    have ho := ok_rd h (i : Int)
    refine Ev_succ ?_
    simp only [nat_Trail.l53, nat_Trail.b53, ln_eq, e]
    refine Ev_pos (by omega) (Ev_pos (by omega) (Ev_pos (by omega) ?_))
    by_cases hr : rd l (i : Int) = 0
    · refine Ev_neg (fun h => h hr) (ih (i + 1) (by omega) ?_)
      rw [val_take_succ, hv, hr]; simp
    · refine Ev_pos hr (Ev_bind_eq (ctz64 ho) (Ev_some ?_))
      have h1 := val_split l i
      rw [hv, Nat.min_eq_left (by omega), val_drop_cons l i (by omega), Nat.zero_add] at h1
      have h2 := tz_low (i := i) (r := (rd l (i : Int)).toNat) (rest := val (l.drop (i + 1))) (by omega) (by omega)
      rw [← h1] at h2
      have h3 := (tz_limb (x := (rd l (i : Int)).toNat) (by omega) (by omega)).2
      rw [h2]
      generalize Lib.ctz 64 (rd l (i : Int)).toNat = b at h3
      exact trail_wrap (by omega) h3
theorem nat_Trail_ev {l : List Int} (h : ok l) (hl : l.length ≤ 35184372088832) : Ev (fun k _ _ => nat_Trail.f k l) ((tz (val l) : Nat) : Int) := by
  simp only [nat_Trail.f, nat_Trail.b0, ln_eq]
  exact Ev_in (g := fun k q _ => nat_Trail.l53 k q l l.length 0) (nat_Trail_l h hl l.length 0 (by omega) (by simp [val_nil]))
/-! ### Shl -/
theorem shl_digit {x old : Int} {p : Nat} (hp : p < 64) (hx : 0 ≤ x ∧ x < 18446744073709551616) (ho : 0 ≤ old ∧ old.toNat < 2 ^ p) :
    ∃ d e m : Int, bits_Mul64.f x (shl .u64 1 (p : Int)) = some (e, m) ∧ Go.bits .or .u64 old m = d ∧ (0 ≤ d ∧ d < 18446744073709551616) ∧ (0 ≤ e ∧ e < 18446744073709551616 ∧ e.toNat < 2 ^ p) ∧ d.toNat + 18446744073709551616 * e.toNat = old.toNat + x.toNat * 2 ^ p := by
  obtain ⟨X, rfl⟩ := Int.eq_ofNat_of_zero_le hx.1
  obtain ⟨O, rfl⟩ := Int.eq_ofNat_of_zero_le ho.1
  have h64 := pow_lt_64 hp
  have hs : shl .u64 1 (p : Int) = ((2 ^ p : Nat) : Int) := by
    rw [shl_u64 (by omega) (by omega), Int.one_mul]
    omega
  have hpp := Nat.pow_pos (n := p) (show 0 < 2 by omega)
  have e1 : (X : Int) * ((2 ^ p : Nat) : Int) / 18446744073709551616 = ((X / 2 ^ (64 - p) : Nat) : Int) := by
    rw [← Int.natCast_mul, show (18446744073709551616 : Int) = ((18446744073709551616 : Nat) : Int) from rfl, ← Int.natCast_ediv, pow_parts (s := p) (by omega), Nat.mul_div_mul_right _ _ hpp]
  have e2 : (X : Int) * ((2 ^ p : Nat) : Int) % 18446744073709551616 = ((X % 2 ^ (64 - p) * 2 ^ p : Nat) : Int) := by
    rw [← Int.natCast_mul, show (18446744073709551616 : Int) = ((18446744073709551616 : Nat) : Int) from rfl, ← Int.natCast_emod, pow_parts (s := p) (by omega), Nat.mul_mod_mul_right]
  have hX : X < 18446744073709551616 := by omega
  have hO : O < 2 ^ p := by simpa using ho.2
  have he : X / 2 ^ (64 - p) < 2 ^ p := by
    rw [pow_parts (s := p) (by omega)] at hX
    exact Nat.div_lt_of_lt_mul hX
  have hd := low_fits (x := X) (s := p) (by omega) O hO
  refine ⟨((X % 2 ^ (64 - p) * 2 ^ p + O : Nat) : Int), ((X / 2 ^ (64 - p) : Nat) : Int), ((X % 2 ^ (64 - p) * 2 ^ p : Nat) : Int), ?_, or_low' hO hd, nat_lt hd, ⟨(nat_lt (Nat.lt_trans he h64)).1, (nat_lt (Nat.lt_trans he h64)).2, by rw [Int.toNat_natCast]; exact he⟩, ?_⟩
  · rw [hs, mul64 hx (by omega), e1, e2]
  · have h1 := Nat.div_add_mod X (2 ^ (64 - p))
    simp only [Int.toNat_natCast]
    conv => rhs; rw [← h1]
    rw [Nat.add_mul, Nat.mul_right_comm (2 ^ (64 - p)), ← pow_parts (s := p) (by omega)]
    omega
theorem shl_row {P S V old d e q : Nat} (h1 : V + P * old = S) (h2 : d + 18446744073709551616 * e = old + q) : (V + P * d) + (18446744073709551616 * P) * e = S + P * q := by
  have h4 : P * (d + 18446744073709551616 * e) = P * (old + q) := by rw [h2]
  rw [Nat.mul_add, Nat.mul_add, ← Nat.mul_assoc] at h4
  rw [Nat.mul_comm 18446744073709551616 P]
  omega
theorem shl_inv {a out : List Int} {L p i d e : Nat} {dd ee : Int} (hd : dd.toNat = d) (he : ee.toNat = e) (hlt : L + i + 1 < out.length) (hv : val (out.take (L + i + 1)) = B L * (val (a.take i) * 2 ^ p))
    (h : d + 18446744073709551616 * e = (rd out ((L + i : Nat) : Int)).toNat + (rd a (i : Int)).toNat * 2 ^ p) :
    val (((out.set (L + i) dd).set (L + i + 1) ee).take (L + (i + 1) + 1)) = B L * (val (a.take (i + 1)) * 2 ^ p) := by
  rw [show L + (i + 1) + 1 = L + i + 1 + 1 by omega, val_take_set _ _ _ (by rw [List.length_set]; omega), val_take_set _ _ _ (by omega), hd, he, B_succ]
  rw [val_take_succ] at hv
  rw [shl_row hv h, val_take_succ, B_add, Nat.add_mul, Nat.mul_add, Nat.mul_assoc, Nat.mul_assoc]
theorem nat_Shl_l {a : List Int} {L p : Nat} (ha : ok a) (hp : p < 64) (hL : L + a.length + 1 ≤ 35184372088832) (d : Nat) :
    ∀ (i : Nat) (out : List Int), i + d = a.length → out.length = L + a.length + 1 → ok out → Aside0 ((rd out ((L + i : Nat) : Int)).toNat < 2 ^ p) → Aside0 (val (out.take (L + i + 1)) = B L * (val (a.take i) * 2 ^ p)) →
      Ev (fun k q _ => nat_Shl.l8181 k q (L : Int) (p : Int) a a.length i out) (ans (val a * 2 ^ (64 * L + p))) := by
  induction d with
  | zero =>
    intro i out hi hx h6 hr hv
    obtain rfl : i = a.length := by omega
    refine Ev_succ ?_
    simp only [nat_Shl.l8181, nat_Shl.b8181, nat_Shl.l1023, nat_Shl.b1023]
    refine Ev_neg (by omega) ?_
    have h1 := nat_cut_ev h6 (by omega)
    have h2 := hv.out
    rw [val_take_all out (by omega), val_take_all a (Nat.le_refl _)] at h2
    rw [h2, Nat.mul_left_comm, B_two, ← Nat.pow_add] at h1
    exact Ev.bind h1 (Ev_some rfl)
  | succ d ih =>
    intro i out hi hx h6 hr hv
    have e : wrap64 ((i : Int) + 1) = ((i + 1 : Nat) : Int) := by unfold wrap64; omega
    have e1 : wrap64 ((L : Int) + (i : Int)) = ((L + i : Nat) : Int) := by unfold wrap64; omega
    have e2 : wrap64 (((L + i : Nat) : Int) + 1) = ((L + i + 1 : Nat) : Int) := by unfold wrap64; omega
    have ra := ok_rd ha (i : Int)
    have ro := ok_rd h6 ((L + i : Nat) : Int)
    obtain ⟨dd, ee, m, hm, hor, hd, he, hde⟩ := shl_digit hp ra ⟨ro.1, hr.out⟩
    have hr' : Aside0 (ee.toNat < 2 ^ p) := ⟨he.2.2⟩
    have hde' := Aside0.mk hde
    have he0 := he.1
    have he1 := he.2.1
    clear hde he
    refine Ev_succ ?_
    simp only [nat_Shl.l8181, nat_Shl.b8181, ln_eq, e, e1, e2, Int.toNat_natCast, List.length_set]
    refine Ev_pos (by omega) (Ev_pos (by omega) (Ev_pos (by omega) (Ev_pos (by omega) (Ev_bind_eq hm ?_))))
    repeat refine Ev_pos (by omega) ?_
    simp only [Int.toNat_natCast, hor]
    refine ih (i + 1) _ (by omega) (by rw [List.length_set, List.length_set]; exact hx) (ok_set (ok_set h6 _ hd.1 hd.2) _ he0 he1) ⟨?_⟩ ⟨shl_inv rfl rfl (by omega) hv.out hde'.out⟩
    rw [show L + (i + 1) = L + i + 1 by omega, rd_set_self _ _ _ (by rw [List.length_set]; omega)]
    exact hr'.out
theorem shl_wraps {q m : Nat} (hq : q ≤ 4096) (hm : m ≤ 4096) : wrap64 ((q : Int) + (m : Int)) = ((q + m : Nat) : Int) ∧ wrap64 (((q + m : Nat) : Int) + 1) = ((q + m + 1 : Nat) : Int) ∧ (0 : Int) ≤ ((q + m + 1 : Nat) : Int) ∧ q + m + 1 ≤ 35184372088832 := by
  unfold wrap64; omega
def shlAns (a : Nat) (n : Int) : List Int × Int := if a < B 4096 then (if n < 0 then ([], 1) else if a = 0 then ([], 0) else if n > 262144 then ([], 2) else ans (a * 2 ^ n.toNat)) else ([], 2)
theorem nat_Shl_ev {a : List Int} {n : Int} (ha : ok a) (hla : a.length ≤ 9223372036854775807) (hn : n < 9223372036854775808) : Ev (fun k _ _ => nat_Shl.f k a n) (shlAns (val a) n) := by
  simp only [nat_Shl.f, nat_Shl.b0, ln_eq]
  refine Ev.bind (nat_big_ev ha hla) ?_
  unfold shlAns
  by_cases h1 : val a < B 4096
  · rw [if_pos h1]
    refine Ev_neg (by simp [h1]) ?_
    by_cases h2 : n < 0
    · rw [if_pos h2]
      exact Ev_pos h2 (Ev_some rfl)
    · rw [if_neg h2]
      refine Ev_neg h2 ?_
      have sa := lim_len_val_le ha
      have ta := (lim_len_le (val a) 4096).2 h1
      have za := @lim_len_zero (val a)
      refine Ev.bind (nat_size_ev ha hla) (Ev_pos (by omega) (Ev_pos (by omega) (Ev_bind_some ?_)))
      simp only [Int.toNat_natCast, take_lim ha]
      by_cases h3 : val a = 0
      · rw [if_pos h3]
        exact Ev_pos (by omega) (Ev_some rfl)
      · rw [if_neg h3]
        refine Ev_neg (by omega) ?_
        by_cases h4 : n > 262144
        · rw [if_pos h4]
          exact Ev_pos h4 (Ev_some rfl)
        · rw [if_neg h4]
          refine Ev_neg h4 ?_
          obtain ⟨e1, e2⟩ := nat_parts n (by omega) hn
          have hq : n.toNat / 64 ≤ 4096 := by omega
          obtain ⟨e3, e4, e5, e6⟩ := shl_wraps hq ta
          simp only [e1, e2, e3, e4, Int.toNat_natCast]
          refine Ev_pos e5 (Ev_pos e6 ?_)
          have hz : ∀ t : Nat, rd (List.replicate (n.toNat / 64 + (lim (val a)).length + 1) 0) (t : Int) = 0 := fun t => by
            rw [rd_nat, List.getD_eq_getElem?_getD, List.getElem?_replicate]; split <;> rfl
          have := nat_Shl_l (L := n.toNat / 64) (p := n.toNat % 64) (ok_lim (val a)) (Nat.mod_lt _ (by omega)) (by omega) (lim (val a)).length 0 (List.replicate (n.toNat / 64 + (lim (val a)).length + 1) 0) (by omega) (by simp) (ok_replicate _)
            ⟨by rw [hz]; exact Nat.pow_pos (by omega)⟩ ⟨by rw [List.take_replicate, val_replicate]; simp [val_nil]⟩
          rw [Nat.div_add_mod, val_lim] at this
          exact Ev_in this
  · rw [if_neg h1]
    exact Ev_pos (by simp [h1]) (Ev_some rfl)
/-! ### Shr -/
theorem shr_digit {x y : Int} {p : Nat} (hp : 0 < p ∧ p < 64) (hx : 0 ≤ x ∧ x < 18446744073709551616) (hy : 0 ≤ y ∧ y < 18446744073709551616) (R : Nat) :
    ∃ d : Int, Go.bits .or .u64 (shr .u64 x (p : Int)) (shl .u64 y (IntKind.u64.wrap (64 - (p : Int)))) = d ∧ (0 ≤ d ∧ d < 18446744073709551616) ∧ d.toNat = (x.toNat + 18446744073709551616 * (y.toNat + 18446744073709551616 * R)) / 2 ^ p % 18446744073709551616 := by
  obtain ⟨X, rfl⟩ := Int.eq_ofNat_of_zero_le hx.1
  obtain ⟨Y, rfl⟩ := Int.eq_ofNat_of_zero_le hy.1
  have hw : IntKind.u64.wrap (64 - (p : Int)) = ((64 - p : Nat) : Int) := by rw [wrapU64 (by omega) (by omega)]; omega
  have hpp := Nat.pow_pos (n := p) (show 0 < 2 by omega)
  have hq := Nat.pow_pos (n := 64 - p) (show 0 < 2 by omega)
  have e1 : shr .u64 (X : Int) (p : Int) = ((X / 2 ^ p : Nat) : Int) := by rw [shr_u64 (by omega), ← Int.natCast_ediv]
  have e2 : shl .u64 (Y : Int) ((64 - p : Nat) : Int) = ((Y % 2 ^ p * 2 ^ (64 - p) : Nat) : Int) := by
    rw [shl_u64 (by omega) (by omega), ← Int.natCast_mul, show (18446744073709551616 : Int) = ((18446744073709551616 : Nat) : Int) from rfl, ← Int.natCast_emod, pow_parts (s := 64 - p) (by omega), show 64 - (64 - p) = p by omega, Nat.mul_mod_mul_right]
  have hX : X < 18446744073709551616 := by omega
  have h1 : X / 2 ^ p < 2 ^ (64 - p) := by
    rw [pow_parts (s := 64 - p) (by omega), show 64 - (64 - p) = p by omega] at hX
    exact Nat.div_lt_of_lt_mul hX
  have h2 := low_fits (x := Y) (s := 64 - p) (by omega) (X / 2 ^ p) h1
  rw [show 64 - (64 - p) = p by omega] at h2
  refine ⟨((Y % 2 ^ p * 2 ^ (64 - p) + X / 2 ^ p : Nat) : Int), by rw [hw, e1, e2]; exact or_low2 h1 h2, nat_lt h2, ?_⟩
  simp only [Int.toNat_natCast]
  rw [shift_limb (by omega), Nat.mul_add, Nat.mul_left_comm (2 ^ (64 - p)), ← Nat.add_assoc, Nat.add_mul_mod_self_left]
  have h3 : 2 ^ (64 - p) * Y = Y % 2 ^ p * 2 ^ (64 - p) + 18446744073709551616 * (Y / 2 ^ p) := by
    have h4 := Nat.div_add_mod Y (2 ^ p)
    conv => lhs; rw [← h4]
    rw [Nat.mul_add, ← Nat.mul_assoc, ← pow_parts (s := p) (by omega), Nat.add_comm, Nat.mul_comm (2 ^ (64 - p))]
  rw [h3, ← Nat.add_assoc, Nat.add_mul_mod_self_left, Nat.add_comm (X / 2 ^ p)]
  exact (Nat.mod_eq_of_lt h2).symm
/-- The next limb of a number that is shifted down. -/
theorem shr_place {a : List Int} (ha : ok a) {L p i : Nat} (hi : L + i < a.length) :
    val a / 2 ^ (64 * L + p) % B (i + 1) = val a / 2 ^ (64 * L + p) % B i + B i * (((rd a ((L + i : Nat) : Int)).toNat + 18446744073709551616 * val (a.drop (L + i + 1))) / 2 ^ p % 18446744073709551616) := by
  rw [B_succ, Nat.mul_comm _ (B i), Nat.mod_mul, Nat.div_div_eq_div_mul]
  congr 3
  have h1 := val_split a (L + i)
  rw [Nat.min_eq_left (by omega), val_drop_cons a (L + i) hi] at h1
  have h2 := val_lt (ok_take ha (L + i))
  rw [List.length_take, Nat.min_eq_left (by omega)] at h2
  rw [B_two, ← Nat.pow_add, show 64 * L + p + 64 * i = 64 * (L + i) + p by omega]
  conv => lhs; rw [h1]
  exact div_limb (r := 0) h2
theorem shr_last {a : List Int} (ha : ok a) {L p i : Nat} (hi : L + i = a.length) : val a / 2 ^ (64 * L + p) % B i = val a / 2 ^ (64 * L + p) := by
  refine Nat.mod_eq_of_lt ?_
  have h := val_lt ha
  rw [← hi, B_add] at h
  rw [Nat.pow_add, ← B_two, ← Nat.div_div_eq_div_mul]
  exact Nat.lt_of_le_of_lt (Nat.div_le_self _ _) (Nat.div_lt_of_lt_mul h)
theorem nat_Shr_l {a : List Int} {L p m : Nat} {lost : Bool} (ha : ok a) (hp : p < 64) (hL : L + m = a.length) (hl : a.length ≤ 35184372088832) (hv0 : Aside0 (val a < B 4096)) (d : Nat) :
    ∀ (i : Nat) (out : List Int), i + d = m → out.length = m → ok out → Aside0 (val (out.take i) = val a / 2 ^ (64 * L + p) % B i) →
      Ev (fun k q _ => nat_Shr.l8181 k q a lost (L : Int) (p : Int) (m : Int) i out) ((lim (val a / 2 ^ (64 * L + p)), lost, 0) : List Int × Bool × Int) := by
  induction d with
  | zero =>
    intro i out hi hx h6 hv
    obtain rfl : i = m := by omega
    refine Ev_succ ?_
    simp only [nat_Shr.l8181, nat_Shr.b8181, nat_Shr.l1023, nat_Shr.b1023]
    refine Ev_neg (by omega) ?_
    have h1 := nat_cut_ev h6 (by omega)
    have h2 := hv.out
    rw [val_take_all out (by omega), shr_last ha hL] at h2
    rw [h2, ans, if_pos (Nat.lt_of_le_of_lt (Nat.div_le_self _ _) hv0.out)] at h1
    exact Ev.bind h1 (Ev_some rfl)
  | succ d ih =>
    intro i out hi hx h6 hv
    have e : wrap64 ((i : Int) + 1) = ((i + 1 : Nat) : Int) := by unfold wrap64; omega
    have e1 : wrap64 ((L : Int) + (i : Int)) = ((L + i : Nat) : Int) := by unfold wrap64; omega
    have e2 : wrap64 (((L + i : Nat) : Int) + 1) = ((L + i + 1 : Nat) : Int) := by unfold wrap64; omega
    have ra := ok_rd ha ((L + i : Nat) : Int)
    have ry := ok_rd ha ((L + i + 1 : Nat) : Int)
    have hpl := Aside0.mk (shr_place (p := p) ha (show L + i < a.length by omega))
    have go : ∀ x : Int, 0 ≤ x ∧ x < 18446744073709551616 → Aside0 (x.toNat = ((rd a ((L + i : Nat) : Int)).toNat + 18446744073709551616 * val (a.drop (L + i + 1))) / 2 ^ p % 18446744073709551616) →
        Ev (fun k q _ => nat_Shr.l8181 k q a lost (L : Int) (p : Int) (m : Int) ((i + 1 : Nat) : Int) (out.set i x)) ((lim (val a / 2 ^ (64 * L + p)), lost, 0) : List Int × Bool × Int) := by
      intro x hx1 hx2
      refine ih (i + 1) _ (by omega) (by rw [List.length_set]; exact hx) (ok_set h6 _ hx1.1 hx1.2) ⟨?_⟩
      rw [val_take_set _ _ _ (by omega), hv.out, hpl.out, hx2.out]
    refine Ev_succ ?_
    simp only [nat_Shr.l8181, nat_Shr.b8181, ln_eq, e, e1, e2, Int.toNat_natCast]
    refine Ev_pos (by omega) (Ev_pos (by omega) (Ev_pos (by omega) (Ev_pos (by omega) ?_)))
    have plain : p = 0 ∨ L + i + 1 = a.length → (0 ≤ shr .u64 (rd a ((L + i : Nat) : Int)) (p : Int) ∧ shr .u64 (rd a ((L + i : Nat) : Int)) (p : Int) < 18446744073709551616) ∧
        Aside0 ((shr .u64 (rd a ((L + i : Nat) : Int)) (p : Int)).toNat = ((rd a ((L + i : Nat) : Int)).toNat + 18446744073709551616 * val (a.drop (L + i + 1))) / 2 ^ p % 18446744073709551616) := by
      intro hc
      obtain ⟨X, hX⟩ := Int.eq_ofNat_of_zero_le ra.1
      rw [hX] at ra ⊢
      have hd : X / 2 ^ p ≤ X := Nat.div_le_self _ _
      rw [shr_u64 (by omega), ← Int.natCast_ediv]
      have hX1 : X < 18446744073709551616 := by omega
      refine ⟨nat_lt (Nat.lt_of_le_of_lt hd hX1), ⟨?_⟩⟩
      simp only [Int.toNat_natCast]
      rcases hc with rfl | hc
      · rw [Nat.pow_zero, Nat.div_one, Nat.div_one, Nat.add_mul_mod_self_left]
        exact (Nat.mod_eq_of_lt hX1).symm
      · rw [List.drop_eq_nil_of_le (by omega), val_nil, Nat.mul_zero, Nat.add_zero]
        exact (Nat.mod_eq_of_lt (Nat.lt_of_le_of_lt hd hX1)).symm
    by_cases h1 : L + i + 1 < a.length
    · refine Ev_pos (by omega) ?_
      by_cases h2 : 0 < p
      · obtain ⟨dd, hor, hd, hdv⟩ := shr_digit ⟨h2, hp⟩ ra ry (val (a.drop (L + i + 1 + 1)))
        rw [← val_drop_cons a (L + i + 1) h1] at hdv
        have hdv' := Aside0.mk hdv
        clear hdv
        have hw : (0 : Int) ≤ IntKind.u64.wrap (64 - (p : Int)) := by rw [wrapU64 (by omega) (by omega)]; omega
        refine Ev_pos (by omega) (Ev_pos (by omega) (Ev_pos (by omega) (Ev_pos hw (Ev_pos (by omega) (Ev_pos (by omega) ?_)))))
        rw [hor]
        exact go dd hd hdv'
      · refine Ev_neg (by omega) (Ev_pos (by omega) (Ev_pos (by omega) ?_))
        obtain ⟨g1, g2⟩ := plain (.inl (by omega))
        exact go _ g1 g2
    · refine Ev_neg (by omega) (Ev_pos (by omega) (Ev_pos (by omega) ?_))
      obtain ⟨g1, g2⟩ := plain (.inr (by omega))
      exact go _ g1 g2
def shrAns (a : Nat) (n : Int) : List Int × Bool × Int := if a < B 4096 then (if n < 0 then ([], false, 1) else (lim (a / 2 ^ n.toNat), decide (a ≠ 0 ∧ (tz a : Int) < n), 0)) else ([], false, 2)
theorem nat_Shr_j0 {a : List Int} {n : Int} {lost : Bool} (ha : ok a) (hla : a.length ≤ 9223372036854775807) (h1 : val a < B 4096) (hn0 : 0 ≤ n) (hn : n < 9223372036854775808) :
    Ev (fun k _ _ => nat_Shr.l31 k a n lost) ((lim (val a / 2 ^ n.toNat), lost, 0) : List Int × Bool × Int) := by
  have sa := lim_len_val_le ha
  have ta := (lim_len_le (val a) 4096).2 h1
  simp only [nat_Shr.l31, nat_Shr.b31, ln_eq]
  refine Ev.bind (nat_size_ev ha hla) (Ev_pos (by omega) (Ev_pos (by omega) (Ev_bind_some ?_)))
  simp only [Int.toNat_natCast, take_lim ha]
  obtain ⟨e1, e2⟩ := nat_parts n hn0 hn
  have e3 : wrap64 (64 * ((lim (val a)).length : Int)) = ((64 * (lim (val a)).length : Nat) : Int) := by unfold wrap64; omega
  simp only [e1, e2, e3]
  by_cases h2 : n ≥ ((64 * (lim (val a)).length : Nat) : Int)
  · refine Ev_pos h2 (Ev_some ?_)
    have h3 := (lim_len_le (val a) (lim (val a)).length).1 (Nat.le_refl _)
    have h4 : 2 ^ (64 * (lim (val a)).length) ≤ 2 ^ n.toNat := Nat.pow_le_pow_right (by omega) (by omega)
    rw [← B_two] at h4
    rw [Nat.div_eq_of_lt (by omega), lim_zero]
  · have e4 : wrap64 (((lim (val a)).length : Int) - ((n.toNat / 64 : Nat) : Int)) = (((lim (val a)).length - n.toNat / 64 : Nat) : Int) := by unfold wrap64; omega
    simp only [e4, Int.toNat_natCast]
    refine Ev_neg h2 (Ev_pos (by omega) (Ev_pos (by omega) ?_))
    simp only [List.length_replicate]
    have := nat_Shr_l (L := n.toNat / 64) (p := n.toNat % 64) (m := (lim (val a)).length - n.toNat / 64) (lost := lost) (ok_lim (val a)) (Nat.mod_lt _ (by omega)) (by omega) (by omega) ⟨by rw [val_lim]; exact h1⟩ ((lim (val a)).length - n.toNat / 64) 0 (List.replicate ((lim (val a)).length - n.toNat / 64) 0) (by omega) (by simp) (ok_replicate _)
      ⟨by rw [List.take_zero, val_nil, B_zero, Nat.mod_one]⟩
    rw [Nat.div_add_mod, val_lim] at this
    exact Ev_in this
theorem nat_Shr_ev {a : List Int} {n : Int} (ha : ok a) (hla : a.length ≤ 35184372088832) (hn : n < 9223372036854775808) : Ev (fun k _ _ => nat_Shr.f k a n) (shrAns (val a) n) := by
  simp only [nat_Shr.f, nat_Shr.b0, ln_eq]
  refine Ev.bind (nat_big_ev ha (by omega)) ?_
  unfold shrAns
  by_cases h1 : val a < B 4096
  · rw [if_pos h1]
    refine Ev_neg (by simp [h1]) ?_
    by_cases h2 : n < 0
    · rw [if_pos h2]
      exact Ev_pos h2 (Ev_some rfl)
    · rw [if_neg h2]
      refine Ev_neg h2 ?_
      have za := @lim_len_zero (val a)
      refine Ev.bind (nat_size_ev ha (by omega)) ?_
      by_cases h3 : val a = 0
      · refine Ev_neg (by omega) ?_
        rw [decide_eq_false (fun h => h.1 h3)]
        exact nat_Shr_j0 ha (by omega) h1 (by omega) hn
      · refine Ev_pos (by omega) (Ev.bind (nat_Trail_ev ha hla) ?_)
        rw [show decide (val a ≠ 0 ∧ (tz (val a) : Int) < n) = decide ((tz (val a) : Int) < n) from by rw [decide_eq_decide]; exact ⟨fun h => h.2, fun h => ⟨h3, h⟩⟩]
        exact nat_Shr_j0 ha (by omega) h1 (by omega) hn
  · rw [if_neg h1]
    exact Ev_pos (by simp [h1]) (Ev_some rfl)
theorem nat_Trim_ev {l : List Int} (h : ok l) (hl : l.length ≤ 35184372088832) : Ev (fun k _ _ => nat_Trim.f k l) (lim (val l)) := by
  simp only [nat_Trim.f, nat_Trim.b0, ln_eq]
  have := lim_len_val_le h
  refine Ev.bind (nat_size_ev h (by omega)) (Ev_pos (by omega) (Ev_pos (by omega) (Ev_pos (by omega) (Ev_pos (by omega) (Ev_bind_some ?_)))))
  rw [Int.toNat_natCast, take_lim h]
  exact Ev_pos (by simp) (Ev_some rfl)
end Go.Proofs.YtcacmhcekoeblaaDoor.Bits
