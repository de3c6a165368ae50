/- What the printed BitLen, Bit, Trail, Shl, Shr, Low of nat compute, by the value of their lists. Conditions: lists of limbs below 2^64, of lengths that a slice of limbs has. -/
import Derived.Test.YtnicfpilpafddaaONat1
import Derived.Test.YtnicfpilpafddaaLB
import Derived.Test.YtnicfpilpafddaaPOx1
import Derived.Test.YtnicfpilpafddaaPOx3
namespace Go.Proofs.Ytnicfpilpafddaa.OBits
open Go.RowKit Go.Proofs.YtnicfpilpafddaaW.PrintWords Go.Proofs.YtnicfpilpafddaaW.PrintLast Go.Proofs.YtnicfpilpafddaaW.PrintMore Go.Proofs.Ytnicfpilpafddaa.Lib Go.Proofs.Ytnicfpilpafddaa.LibB Go.Proofs.Ytnicfpilpafddaa.PO Go.Proofs.Ytnicfpilpafddaa.ONat1
set_option linter.unusedVariables false

theorem wrapU64 {n : Int} (h0 : 0 ≤ n) (h1 : n < 18446744073709551616) : IntKind.u64.wrap n = n := by rw [IntKind.wrap_u64]; omega
theorem rd_take {l : List Int} {i n : Nat} (h : i < n) : rd (l.take n) (i : Int) = rd l (i : Int) := by
  rw [rd_nat, rd_nat, List.getD_eq_getElem?_getD, List.getD_eq_getElem?_getD, List.getElem?_take, if_pos h]
theorem rd_top {l : List Int} (h : ok l) {i : Nat} (hi : i < (lim (val l)).length) : rd l (i : Int) = rd (lim (val l)) (i : Int) := by
  rw [← take_lim h, rd_take (l := l) hi]
theorem nat_parts (n : Int) (h0 : 0 ≤ n) (h1 : n < 9223372036854775808) : wrap64 (Int.tdiv n 64) = ((n.toNat / 64 : Nat) : Int) ∧ IntKind.u64.wrap (Int.tmod n 64) = ((n.toNat % 64 : Nat) : Int) := by
  obtain ⟨m, rfl⟩ := Int.eq_ofNat_of_zero_le h0
  have e1 : Int.tdiv (m : Int) 64 = ((m / 64 : Nat) : Int) := by rw [Int.tdiv_eq_ediv_of_nonneg h0]; omega
  have e2 : Int.tmod (m : Int) 64 = ((m % 64 : Nat) : Int) := by rw [Int.tmod_eq_emod_of_nonneg h0]; omega
  rw [e1, e2, Int.toNat_natCast]
  exact ⟨wrap64_nat (by omega) (by omega), wrapU64 (by omega) (by omega)⟩
theorem or_low' {p x : Nat} {s : Nat} (h2 : x < 2 ^ s) (h3 : p * 2 ^ s + x < 18446744073709551616) : Go.bits .or .u64 (x : Int) ((p * 2 ^ s : Nat) : Int) = ((p * 2 ^ s + x : Nat) : Int) := by
  rw [u64_or_nat _ _ (by omega) (by omega), Nat.or_comm, Nat.mul_comm p, ← Nat.two_pow_add_eq_or_of_lt (by omega)]
theorem or_low2 {p x : Nat} {s : Nat} (h2 : x < 2 ^ s) (h3 : p * 2 ^ s + x < 18446744073709551616) : Go.bits .or .u64 (x : Int) ((p * 2 ^ s : Nat) : Int) = ((p * 2 ^ s + x : Nat) : Int) := or_low' h2 h3
theorem pow_lt_64 {s : Nat} (h : s < 64) : (2 : Nat) ^ s < 18446744073709551616 := by
  have := Nat.pow_lt_pow_right (a := 2) (by omega) h
  exact this
theorem pow_parts {s : Nat} (h : s ≤ 64) : (18446744073709551616 : Nat) = 2 ^ (64 - s) * 2 ^ s := by
  rw [← Nat.pow_add, show 64 - s + s = 64 by omega]
theorem nat_lt {n : Nat} (h : n < 18446744073709551616) : 0 ≤ (n : Int) ∧ (n : Int) < 18446744073709551616 := by omega
theorem low_fits {x s : Nat} (hs : s ≤ 64) (o : Nat) (ho : o < 2 ^ s) : x % 2 ^ (64 - s) * 2 ^ s + o < 18446744073709551616 := by
  have hq := Nat.pow_pos (n := 64 - s) (show 0 < 2 by omega)
  have h1 : x % 2 ^ (64 - s) < 2 ^ (64 - s) := Nat.mod_lt _ hq
  have h2 : (x % 2 ^ (64 - s) + 1) * 2 ^ s ≤ 2 ^ (64 - s) * 2 ^ s := Nat.mul_le_mul_right _ h1
  rw [← pow_parts hs, Nat.add_mul, Nat.one_mul] at h2
  omega

/-! ### BitLen -/
theorem len64 {x : Int} (hx : 0 ≤ x ∧ x < 18446744073709551616) : bits_Len64.f x = some ((blen x.toNat : Nat) : Int) := by
  unfold bits_Len64.f
  rw [if_pos ⟨hx.1, by omega⟩, blen_limb (by omega)]
theorem bitLen_wrap {n b : Nat} (h : n ≤ 35184372088832) (h5 : b ≤ 64) : wrap64 (wrap64 (64 * (n : Int)) + (b : Int)) = ((64 * n + b : Nat) : Int) := by
  unfold wrap64; omega
theorem nat_BitLen_ev {l : List Int} (h : ok l) (hl : l.length ≤ 35184372088832) : Ev (fun k => nat_BitLen.f k l) ((blen (val l) : Nat) : Int) := by
  simp only [nat_BitLen.f]
  refine Ev.bind (nat_size_ev h (by omega)) ?_
  have hz := @lim_len_zero (val l)
  have hn := lim_len_val_le h
  by_cases h0 : val l = 0
  · refine Ev_pos (by omega) (Ev_some ?_)
    rw [h0]; rfl
  · obtain ⟨n, hln⟩ : ∃ n, (lim (val l)).length = n + 1 := ⟨(lim (val l)).length - 1, by omega⟩
    rw [hln]
    have e : wrap64 (((n + 1 : Nat) : Int) - 1) = (n : Int) := by unfold wrap64; omega
    rw [e]
    refine Ev_neg (by omega) (Ev_pos (by omega) (Ev_pos (by omega) ?_))
    have hr := rd_top h (i := n) (by omega)
    have ht := rd_lim_last (val l) h0
    rw [hln, Nat.add_sub_cancel] at ht
    have ho := ok_rd (ok_lim (val l)) (n : Int)
    rw [hr]
    refine Ev_bind_eq (len64 ho) (Ev_some ?_)
    have h1 := val_take_succ (lim (val l)) n
    rw [val_take_all _ (by omega), val_lim] at h1
    have h2 := val_lt (ok_take (ok_lim (val l)) n)
    rw [List.length_take, hln, Nat.min_eq_left (by omega)] at h2
    have h3 := blen_high h2 (r := (rd (lim (val l)) (n : Int)).toNat) (by omega)
    rw [← h1] at h3
    have h4 := blen_le (rd (lim (val l)) (n : Int)).toNat 64
    have h5 : blen (rd (lim (val l)) (n : Int)).toNat ≤ 64 := h4.2 (by omega)
    rw [h3]
    have h6 : n ≤ 35184372088832 := by omega
    generalize blen (rd (lim (val l)) (n : Int)).toNat = b at h5
    exact bitLen_wrap h6 h5
end Go.Proofs.Ytnicfpilpafddaa.OBits
