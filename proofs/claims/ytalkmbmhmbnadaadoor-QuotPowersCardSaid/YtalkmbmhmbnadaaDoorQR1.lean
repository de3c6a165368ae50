/- What the first reference computes, by its digits of 32 bits. Conditions: lists of limbs below 2^64, of lengths that a slice has. -/
import Derived.Test.YtalkmbmhmbnadaaDoorQNat1
import Derived.Test.YtalkmbmhmbnadaaDoorQBits
namespace Go.Proofs.YtalkmbmhmbnadaaDoor.R1
open Go.RowKit Go.Proofs.YtalkmbmhmbnadaaDoor.Lib Go.Proofs.YtalkmbmhmbnadaaDoor.LibB Go.Proofs.YtalkmbmhmbnadaaDoor.F Go.Proofs.YtalkmbmhmbnadaaDoor.Nat1 Go.Proofs.YtalkmbmhmbnadaaDoor.Bits
open Go.Proofs.YtalkmbmhmbnadaaDoorA (rd ln ln_eq mx mn shl shr wr wr_eq)
set_option linter.unusedVariables false
set_option linter.unusedSimpArgs false
def H (m : Nat) : Nat := 4294967296 ^ m
theorem H_zero : H 0 = 1 := rfl
theorem H_succ (m : Nat) : H (m + 1) = 4294967296 * H m := by unfold H; rw [Nat.pow_succ, Nat.mul_comm]
theorem H_add (m n : Nat) : H (m + n) = H m * H n := by unfold H; exact Nat.pow_add ..
theorem H_pos (m : Nat) : 0 < H m := by unfold H; exact Nat.pow_pos (by omega)
theorem H_mono {m n : Nat} (h : m ≤ n) : H m ≤ H n := by unfold H; exact Nat.pow_le_pow_right (by omega) h
theorem H_lt {m n : Nat} (h : H m < H n) : m < n := by
  rcases Nat.lt_or_ge m n with h1 | h1
  · exact h1
  · exact absurd (H_mono h1) (by omega)
attribute [irreducible] H
def ok32 (l : List Int) : Prop := ∀ x ∈ l, 0 ≤ x ∧ x < 4294967296
theorem ok32_nil : ok32 [] := fun x h => by simp at h
theorem ok32_cons {x : Int} {l : List Int} : ok32 (x :: l) ↔ (0 ≤ x ∧ x < 4294967296) ∧ ok32 l := by
  constructor
  · intro h
    exact ⟨h x (by simp), fun y hy => h y (by simp [hy])⟩
  · rintro ⟨h1, h2⟩ y hy
    rcases List.mem_cons.1 hy with rfl | hy
    · exact h1
    · exact h2 y hy
theorem ok32_take {l : List Int} (h : ok32 l) (n : Nat) : ok32 (l.take n) := fun x hx => h x (List.mem_of_mem_take hx)
theorem ok32_drop {l : List Int} (h : ok32 l) (n : Nat) : ok32 (l.drop n) := fun x hx => h x (List.mem_of_mem_drop hx)
theorem ok32_append {l m : List Int} (h : ok32 l) (k : ok32 m) : ok32 (l ++ m) := fun x hx => (List.mem_append.1 hx).elim (h x) (k x)
theorem ok32_replicate (n : Nat) : ok32 (List.replicate n 0) := fun x hx => by
  rw [(List.mem_replicate.1 hx).2]; omega
theorem ok32_set {l : List Int} (h : ok32 l) (i : Nat) {x : Int} (h0 : 0 ≤ x) (h1 : x < 4294967296) : ok32 (l.set i x) := by
  intro y hy
  rcases List.mem_or_eq_of_mem_set hy with hy | rfl
  · exact h y hy
  · exact ⟨h0, h1⟩
theorem ok32_rd {l : List Int} (h : ok32 l) (i : Int) : 0 ≤ rd l i ∧ rd l i < 4294967296 := by
  unfold rd
  rw [List.getD_eq_getElem?_getD]
  rcases Nat.lt_or_ge i.toNat l.length with hi | hi
  · rw [List.getElem?_eq_getElem hi, Option.getD_some]
    exact h _ (List.getElem_mem hi)
  · rw [List.getElem?_eq_none hi, Option.getD_none]
    omega
def v32 : List Int → Nat
  | [] => 0
  | x :: l => x.toNat + 4294967296 * v32 l
theorem v32_nil : v32 [] = 0 := rfl
theorem v32_cons (x : Int) (l : List Int) : v32 (x :: l) = x.toNat + 4294967296 * v32 l := rfl
attribute [irreducible] v32
theorem v32_append (l m : List Int) : v32 (l ++ m) = v32 l + H l.length * v32 m := by
  induction l with
  | nil => simp [v32_nil, H_zero]
  | cons x l ih =>
    rw [List.cons_append, v32_cons, ih, v32_cons, List.length_cons, H_succ, Nat.mul_add, Nat.mul_assoc, Nat.add_assoc]
theorem v32_replicate (n : Nat) : v32 (List.replicate n 0) = 0 := by
  induction n with
  | zero => exact v32_nil
  | succ n ih => rw [List.replicate_succ, v32_cons, ih]; rfl
theorem v32_lt {l : List Int} (h : ok32 l) : v32 l < H l.length := by
  induction l with
  | nil => rw [v32_nil]; exact H_pos _
  | cons x l ih =>
    obtain ⟨h1, h2⟩ := ok32_cons.1 h
    have := ih h2
    rw [v32_cons, List.length_cons, H_succ]
    omega
theorem v32_split (l : List Int) (i : Nat) : v32 l = v32 (l.take i) + H (min i l.length) * v32 (l.drop i) := by
  have := v32_append (l.take i) (l.drop i)
  rwa [List.take_append_drop, List.length_take] at this
theorem v32_take_succ (l : List Int) (i : Nat) : v32 (l.take (i + 1)) = v32 (l.take i) + H i * (rd l (i : Int)).toNat := by
  rw [rd_nat]
  rcases Nat.lt_or_ge i l.length with h | h
  · rw [List.take_succ_eq_append_getElem h, v32_append, List.length_take, Nat.min_eq_left (Nat.le_of_lt h), List.getD_eq_getElem?_getD, List.getElem?_eq_getElem h]
    simp [v32_cons, v32_nil]
  · rw [List.take_of_length_le (by omega), List.take_of_length_le h, List.getD_eq_getElem?_getD, List.getElem?_eq_none h]
    simp
theorem v32_take_all (l : List Int) {n : Nat} (h : l.length ≤ n) : v32 (l.take n) = v32 l := by rw [List.take_of_length_le h]
theorem v32_drop_cons (l : List Int) (i : Nat) (h : i < l.length) : v32 (l.drop i) = (rd l (i : Int)).toNat + 4294967296 * v32 (l.drop (i + 1)) := by
  rw [List.drop_eq_getElem_cons h, v32_cons, rd_nat, List.getD_eq_getElem?_getD, List.getElem?_eq_getElem h, Option.getD_some]
theorem v32_take_set (l : List Int) (i : Nat) (x : Int) (h : i < l.length) : v32 ((l.set i x).take (i + 1)) = v32 (l.take i) + H i * x.toNat := by
  rw [v32_take_succ, take_set_ge _ _ _ _ (Nat.le_refl i), rd_nat, List.getD_eq_getElem?_getD, List.getElem?_set_self h]
  rfl
theorem v32_set (l : List Int) (i : Nat) (x : Int) (h : i < l.length) : v32 (l.set i x) + H i * (rd l (i : Int)).toNat = v32 l + H i * x.toNat := by
  induction l generalizing i with
  | nil => simp at h
  | cons y l ih =>
    cases i with
    | zero => simp only [List.set_cons_zero, v32_cons, H_zero, rd_nat]; simp; omega
    | succ i =>
      have h2 := ih i (by simpa using h)
      have hr : rd (y :: l) ((i + 1 : Nat) : Int) = rd l (i : Int) := by rw [rd_nat, rd_nat]; simp
      rw [hr, List.set_cons_succ, v32_cons, v32_cons, H_succ, Nat.mul_assoc, Nat.mul_assoc]
      omega
theorem v32_drop_zero {l : List Int} {i : Nat} (h : v32 (l.drop i) = 0) : v32 l = v32 (l.take i) := by
  have := v32_split l i
  rw [h] at this
  simpa using this

theorem H_two (m : Nat) : H m = 2 ^ (32 * m) := by unfold H; rw [Nat.pow_mul]
theorem B_H (m : Nat) : B m = H (2 * m) := by rw [B_two, H_two]; congr 1; omega
theorem H_one : H 1 = 4294967296 := by rw [H_succ, H_zero]
/-- Digits of n without zeros at the high end. -/
structure Dg (g : List Int) (n : Nat) : Prop where
  dig : ok32 g
  v : v32 g = n
  top : g.length ≠ 0 → H (g.length - 1) ≤ n
theorem Dg.len0 {g : List Int} {n : Nat} (h : Dg g n) : g.length = 0 ↔ n = 0 := by
  constructor
  · intro h0
    rw [← h.v, List.eq_nil_of_length_eq_zero h0, v32_nil]
  · intro h0
    refine Decidable.byContradiction fun k => ?_
    have := h.top k
    have := H_pos (g.length - 1)
    omega
theorem Dg.le {g : List Int} {n m : Nat} (h : Dg g n) (hn : n < H m) : g.length ≤ m := by
  refine Nat.le_of_not_lt fun k => ?_
  have := h.top (by omega)
  have := H_mono (show m ≤ g.length - 1 by omega)
  omega
theorem v32_snoc (l : List Int) (x : Int) : v32 (l ++ [x]) = v32 l + H l.length * x.toNat := by rw [v32_append, v32_cons, v32_nil]; simp
theorem val_snoc (l : List Int) (x : Int) : val (l ++ [x]) = val l + B l.length * x.toNat := by rw [val_append, val_cons, val_nil]; simp
theorem bit_32 {n : Nat} (h : n < 18446744073709551616) : Go.bits .and .u64 (n : Int) 4294967295 = ((n % 4294967296 : Nat) : Int) := by
  rw [show (4294967295 : Int) = ((2 ^ 32 - 1 : Nat) : Int) from rfl, u64_and_nat _ _ (by omega) (by omega), Nat.and_two_pow_sub_one_eq_mod]
theorem nat_of {x : Int} (h : 0 ≤ x) : ∃ n : Nat, x = (n : Int) := ⟨x.toNat, by omega⟩
theorem w64n {n : Nat} (h : n < 9223372036854775808) : wrap64 (n : Int) = (n : Int) := by unfold wrap64; omega
theorem wu {n : Nat} (h : n < 18446744073709551616) : IntKind.u64.wrap (n : Int) = (n : Int) := by rw [IntKind.wrap_u64]; omega
theorem ok32_snoc {l : List Int} {n : Nat} (h : ok32 l) (hn : n < 4294967296) : ok32 (l ++ [(n : Int)]) := ok32_append h (fun x hx => by simp at hx; subst hx; omega)
theorem ok_snoc {l : List Int} {n : Nat} (h : ok l) (hn : n < 18446744073709551616) : ok (l ++ [(n : Int)]) := ok_append h (fun x hx => by simp at hx; subst hx; omega)
end Go.Proofs.YtalkmbmhmbnadaaDoor.R1
