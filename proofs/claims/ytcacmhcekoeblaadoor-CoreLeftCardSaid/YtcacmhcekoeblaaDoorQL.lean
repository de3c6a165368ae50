/- Plain laws of lists of limbs in base 2^64, of their value and of the one trimmed list of a number. No conditions. -/
import Derived.Test.YtcacmhcekoeblaaDoorQE
namespace Go.Proofs.YtcacmhcekoeblaaDoor.Lib
open Go.RowKit Go.Proofs.YtcacmhcekoeblaaDoorA

/-! ### powers of the base -/
def B (m : Nat) : Nat := 18446744073709551616 ^ m
theorem B_zero : B 0 = 1 := rfl
theorem B_succ (m : Nat) : B (m + 1) = 18446744073709551616 * B m := by unfold B; rw [Nat.pow_succ, Nat.mul_comm]
theorem B_one : B 1 = 18446744073709551616 := by rw [B_succ, B_zero]
theorem B_add (m n : Nat) : B (m + n) = B m * B n := by unfold B; exact Nat.pow_add ..
theorem B_pos (m : Nat) : 0 < B m := by unfold B; exact Nat.pow_pos (by omega)
theorem B_mono {m n : Nat} (h : m ≤ n) : B m ≤ B n := by unfold B; exact Nat.pow_le_pow_right (by omega) h
theorem B_two (m : Nat) : B m = 2 ^ (64 * m) := by unfold B; rw [Nat.pow_mul]
attribute [irreducible] B

/-! ### limbs -/
def ok (l : List Int) : Prop := ∀ x ∈ l, 0 ≤ x ∧ x < 18446744073709551616
theorem ok_nil : ok [] := fun x h => by simp at h
theorem ok_cons {x : Int} {l : List Int} : ok (x :: l) ↔ (0 ≤ x ∧ x < 18446744073709551616) ∧ ok l := by
  constructor
  · intro h
    exact ⟨h x (by simp), fun y hy => h y (by simp [hy])⟩
  · rintro ⟨h1, h2⟩ y hy
    rcases List.mem_cons.1 hy with rfl | hy
    · exact h1
    · exact h2 y hy
theorem ok_take {l : List Int} (h : ok l) (n : Nat) : ok (l.take n) := fun x hx => h x (List.mem_of_mem_take hx)
theorem ok_drop {l : List Int} (h : ok l) (n : Nat) : ok (l.drop n) := fun x hx => h x (List.mem_of_mem_drop hx)
theorem ok_append {l m : List Int} (h : ok l) (k : ok m) : ok (l ++ m) := fun x hx => (List.mem_append.1 hx).elim (h x) (k x)
theorem ok_replicate (n : Nat) : ok (List.replicate n 0) := fun x hx => by
  rw [(List.mem_replicate.1 hx).2]; omega
theorem ok_set {l : List Int} (h : ok l) (i : Nat) {x : Int} (h0 : 0 ≤ x) (h1 : x < 18446744073709551616) : ok (l.set i x) := by
  intro y hy
  rcases List.mem_or_eq_of_mem_set hy with hy | rfl
  · exact h y hy
  · exact ⟨h0, h1⟩
theorem rd_nat (l : List Int) (i : Nat) : rd l (i : Int) = l.getD i 0 := by simp [rd]
theorem ok_rd {l : List Int} (h : ok l) (i : Int) : 0 ≤ rd l i ∧ rd l i < 18446744073709551616 := by
  unfold rd
  rw [List.getD_eq_getElem?_getD]
  rcases Nat.lt_or_ge i.toNat l.length with hi | hi
  · rw [List.getElem?_eq_getElem hi, Option.getD_some]
    exact h _ (List.getElem_mem hi)
  · rw [List.getElem?_eq_none hi, Option.getD_none]
    omega

/-! ### the value -/
def val : List Int → Nat
  | [] => 0
  | x :: l => x.toNat + 18446744073709551616 * val l
theorem val_nil : val [] = 0 := rfl
theorem val_cons (x : Int) (l : List Int) : val (x :: l) = x.toNat + 18446744073709551616 * val l := rfl
attribute [irreducible] val
theorem val_append (l m : List Int) : val (l ++ m) = val l + B l.length * val m := by
  induction l with
  | nil => simp [val_nil, B_zero]
  | cons x l ih =>
    rw [List.cons_append, val_cons, ih, val_cons, List.length_cons, B_succ, Nat.mul_add, Nat.mul_assoc, Nat.add_assoc]
theorem val_replicate (n : Nat) : val (List.replicate n 0) = 0 := by
  induction n with
  | zero => exact val_nil
  | succ n ih => rw [List.replicate_succ, val_cons, ih]; rfl
theorem val_lt {l : List Int} (h : ok l) : val l < B l.length := by
  induction l with
  | nil => rw [val_nil]; exact B_pos _
  | cons x l ih =>
    obtain ⟨h1, h2⟩ := ok_cons.1 h
    have := ih h2
    rw [val_cons, List.length_cons, B_succ]
    omega
theorem val_split (l : List Int) (i : Nat) : val l = val (l.take i) + B (min i l.length) * val (l.drop i) := by
  have := val_append (l.take i) (l.drop i)
  rwa [List.take_append_drop, List.length_take] at this
theorem val_take_succ (l : List Int) (i : Nat) : val (l.take (i + 1)) = val (l.take i) + B i * (rd l (i : Int)).toNat := by
  rw [rd_nat]
  rcases Nat.lt_or_ge i l.length with h | h
  · rw [List.take_succ_eq_append_getElem h, val_append, List.length_take, Nat.min_eq_left (Nat.le_of_lt h), List.getD_eq_getElem?_getD, List.getElem?_eq_getElem h]
    simp [val_cons, val_nil]
  · rw [List.take_of_length_le (by omega), List.take_of_length_le h, List.getD_eq_getElem?_getD, List.getElem?_eq_none h]
    simp
theorem val_take_all (l : List Int) {n : Nat} (h : l.length ≤ n) : val (l.take n) = val l := by rw [List.take_of_length_le h]
theorem val_drop_cons (l : List Int) (i : Nat) (h : i < l.length) : val (l.drop i) = (rd l (i : Int)).toNat + 18446744073709551616 * val (l.drop (i + 1)) := by
  rw [List.drop_eq_getElem_cons h, val_cons, rd_nat, List.getD_eq_getElem?_getD, List.getElem?_eq_getElem h, Option.getD_some]
theorem take_set_ge (l : List Int) (i n : Nat) (x : Int) (h : n ≤ i) : (l.set i x).take n = l.take n := by
  rw [List.take_set]
  exact List.set_eq_of_length_le (by rw [List.length_take]; omega)
theorem val_take_set (l : List Int) (i : Nat) (x : Int) (h : i < l.length) : val ((l.set i x).take (i + 1)) = val (l.take i) + B i * x.toNat := by
  rw [val_take_succ, take_set_ge _ _ _ _ (Nat.le_refl i), rd_nat, List.getD_eq_getElem?_getD, List.getElem?_set_self h]
  rfl
theorem rd_set_self (l : List Int) (i : Nat) (x : Int) (h : i < l.length) : rd (l.set i x) (i : Int) = x := by
  rw [rd_nat, List.getD_eq_getElem?_getD, List.getElem?_set_self h]; rfl
theorem rd_set_ne (l : List Int) (i j : Nat) (x : Int) (h : i ≠ j) : rd (l.set i x) (j : Int) = rd l (j : Int) := by
  rw [rd_nat, rd_nat, List.getD_eq_getElem?_getD, List.getElem?_set_ne h, List.getD_eq_getElem?_getD]
theorem val_set (l : List Int) (i : Nat) (x : Int) (h : i < l.length) : val (l.set i x) + B i * (rd l (i : Int)).toNat = val l + B i * x.toNat := by
  induction l generalizing i with
  | nil => simp at h
  | cons y l ih =>
    cases i with
    | zero => simp only [List.set_cons_zero, val_cons, B_zero, rd_nat]; simp; omega
    | succ i =>
      have h2 := ih i (by simpa using h)
      have hr : rd (y :: l) ((i + 1 : Nat) : Int) = rd l (i : Int) := by rw [rd_nat, rd_nat]; simp
      rw [hr, List.set_cons_succ, val_cons, val_cons, B_succ, Nat.mul_assoc, Nat.mul_assoc]
      omega
theorem val_drop_zero {l : List Int} {i : Nat} (h : val (l.drop i) = 0) : val l = val (l.take i) := by
  have := val_split l i
  rw [h] at this
  simpa using this

/-! ### the trimmed list -/
def lim (n : Nat) : List Int := if n = 0 then [] else ((n % 18446744073709551616 : Nat) : Int) :: lim (n / 18446744073709551616)
termination_by n
decreasing_by omega
theorem lim_zero : lim 0 = [] := by rw [lim]; rfl
theorem lim_pos {n : Nat} (h : n ≠ 0) : lim n = ((n % 18446744073709551616 : Nat) : Int) :: lim (n / 18446744073709551616) := by rw [lim, if_neg h]
theorem val_lim (n : Nat) : val (lim n) = n := by
  induction n using Nat.strongRecOn with
  | _ n ih =>
    by_cases h : n = 0
    · subst h; rw [lim_zero, val_nil]
    · rw [lim_pos h, val_cons, ih _ (by omega)]
      simp only [Int.toNat_natCast]
      omega
theorem ok_lim (n : Nat) : ok (lim n) := by
  induction n using Nat.strongRecOn with
  | _ n ih =>
    by_cases h : n = 0
    · subst h; rw [lim_zero]; exact ok_nil
    · rw [lim_pos h]
      exact ok_cons.2 ⟨by omega, ih _ (by omega)⟩
theorem lim_len_zero {n : Nat} : (lim n).length = 0 ↔ n = 0 := by
  constructor
  · intro h
    rw [← val_lim n, List.eq_nil_of_length_eq_zero h, val_nil]
  · rintro rfl; rw [lim_zero]; rfl
theorem lim_len_le (n m : Nat) : (lim n).length ≤ m ↔ n < B m := by
  induction m generalizing n with
  | zero =>
    rw [B_zero]
    have := @lim_len_zero n
    omega
  | succ m ih =>
    by_cases h : n = 0
    · subst h
      rw [lim_zero]
      simp [B_pos]
    · rw [lim_pos h, List.length_cons, B_succ]
      have := ih (n / 18446744073709551616)
      rw [Nat.div_lt_iff_lt_mul (by omega), Nat.mul_comm] at this
      omega
theorem val_mul_base {x : Int} {l : List Int} (h0 : 0 ≤ x) (h1 : x < 18446744073709551616) : val (x :: l) % 18446744073709551616 = x.toNat ∧ val (x :: l) / 18446744073709551616 = val l := by
  rw [val_cons]
  omega
/-- The first limbs of a list, up to the size of its value, are the trimmed list. -/
theorem take_lim {l : List Int} (h : ok l) : l.take (lim (val l)).length = lim (val l) := by
  induction l with
  | nil => rw [val_nil, lim_zero]; rfl
  | cons x l ih =>
    obtain ⟨⟨h0, h1⟩, h2⟩ := ok_cons.1 h
    have hm := val_mul_base (l := l) h0 h1
    by_cases hz : val (x :: l) = 0
    · rw [hz, lim_zero]; rfl
    · rw [lim_pos hz, hm.1, hm.2, List.length_cons, List.take_succ_cons, ih h2]
      congr 1
      omega
theorem lim_len_val_le {l : List Int} (h : ok l) : (lim (val l)).length ≤ l.length := (lim_len_le _ _).2 (val_lt h)
theorem rd_lim_last (n : Nat) (h : n ≠ 0) : rd (lim n) (((lim n).length - 1 : Nat) : Int) ≠ 0 := by
  intro hz
  have hl := @lim_len_zero n
  have h1 := val_take_succ (lim n) ((lim n).length - 1)
  rw [hz, Nat.sub_add_cancel (by omega), val_take_all _ (Nat.le_refl _), val_lim] at h1
  have h2 := val_lt (ok_take (ok_lim n) ((lim n).length - 1))
  have h3 := (lim_len_le n ((lim n).length - 1))
  rw [List.length_take, Nat.min_eq_left (by omega)] at h2
  simp at h1
  omega
theorem lim_one_len {n : Nat} (h : n < 18446744073709551616) (h0 : n ≠ 0) : lim n = [(n : Int)] := by
  rw [lim_pos h0, Nat.mod_eq_of_lt h, Nat.div_eq_of_lt h, lim_zero]

end Go.Proofs.YtcacmhcekoeblaaDoor.Lib
