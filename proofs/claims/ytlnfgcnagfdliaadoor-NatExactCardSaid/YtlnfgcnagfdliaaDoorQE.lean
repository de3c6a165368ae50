import Derived.Test.YtlnfgcnagfdliaaDoorA17
import Derived.Laws.BitsAllLaws
import Derived.Laws.Bits64
import Derived.Lib.BitFns
import Derived.Lib.TrailingZeros
/- Answers that come after enough rounds: n for the callees, m for a loop, p for a loop within. No conditions. -/
namespace Go.Proofs.YtlnfgcnagfdliaaDoor.Lib
open Go.RowKit Go.Proofs.YtlnfgcnagfdliaaDoorA
set_option linter.unusedVariables false
/-- A fact that is set aside: omega doesn't look into it. -/
structure Aside0 (p : Prop) : Prop where mk :: (out : p)
def Ev {α : Type} (g : Nat → Nat → Nat → Option α) (r : α) : Prop := ∃ K, ∀ n m p, K ≤ n → K ≤ m → K ≤ p → g n m p = some r
theorem Ev.now {α : Type} (r : α) : Ev (fun _ _ _ => some r) r := ⟨0, fun _ _ _ _ _ _ => rfl⟩
theorem Ev_some {α : Type} {a r : α} (h : a = r) : Ev (fun _ _ _ => some a) r := by subst h; exact Ev.now _
theorem Ev.rounds {α : Type} {g : Nat → Option α} {r : α} (h : Ev (fun n _ _ => g n) r) : ∃ n, g n = some r := by
  obtain ⟨K, h⟩ := h
  exact ⟨K, h K K K (Nat.le_refl _) (Nat.le_refl _) (Nat.le_refl _)⟩
theorem Ev.bind {α β : Type} {g : Nat → Nat → Nat → Option α} {f : Nat → Nat → Nat → α → Option β} {a : α} {r : β} (h : Ev g a) (k : Ev (fun n m p => f n m p a) r) : Ev (fun n m p => (g n m p).bind (f n m p)) r := by
  obtain ⟨K, h⟩ := h
  obtain ⟨K', k⟩ := k
  refine ⟨max K K', fun n m p hn hm hp => ?_⟩
  show (g n m p).bind (f n m p) = some r
  rw [h n m p (by omega) (by omega) (by omega), Option.bind_some]
  exact k n m p (by omega) (by omega) (by omega)
theorem Ev_pos {α : Type} {c : Prop} [Decidable c] {a b : Nat → Nat → Nat → Option α} {r : α} (hc : c) (h : Ev a r) : Ev (fun n m p => if c then a n m p else b n m p) r := by
  obtain ⟨K, h⟩ := h
  exact ⟨K, fun n m p hn hm hp => by simp only [if_pos hc]; exact h n m p hn hm hp⟩
theorem Ev_neg {α : Type} {c : Prop} [Decidable c] {a b : Nat → Nat → Nat → Option α} {r : α} (hc : ¬ c) (h : Ev b r) : Ev (fun n m p => if c then a n m p else b n m p) r := by
  obtain ⟨K, h⟩ := h
  exact ⟨K, fun n m p hn hm hp => by simp only [if_neg hc]; exact h n m p hn hm hp⟩
theorem Ev_bind_some {α β : Type} {a : α} {f : Nat → Nat → Nat → α → Option β} {r : β} (h : Ev (fun n m p => f n m p a) r) : Ev (fun n m p => (some a).bind (f n m p)) r := by
  obtain ⟨K, h⟩ := h
  exact ⟨K, fun n m p hn hm hp => by simp only [Option.bind_some]; exact h n m p hn hm hp⟩
theorem Ev_bind_eq {α β : Type} {o : Option α} {a : α} {f : Nat → Nat → Nat → α → Option β} {r : β} (ho : o = some a) (h : Ev (fun n m p => f n m p a) r) : Ev (fun n m p => o.bind (f n m p)) r := by
  subst ho
  exact Ev_bind_some h
/-- One more round of a loop. -/
theorem Ev_succ {α : Type} {g : Nat → Nat → Nat → Option α} {r : α} (h : Ev (fun n m p => g n (m + 1) p) r) : Ev g r := by
  obtain ⟨K, h⟩ := h
  refine ⟨K + 1, fun n m p hn hm hp => ?_⟩
  obtain ⟨m', rfl⟩ : ∃ m', m = m' + 1 := ⟨m - 1, by omega⟩
  exact h n m' p (by omega) (by omega) (by omega)
theorem Ev_succ2 {α : Type} {g : Nat → Nat → Nat → Option α} {r : α} (h : Ev (fun n m p => g n m (p + 1)) r) : Ev g r := by
  obtain ⟨K, h⟩ := h
  refine ⟨K + 1, fun n m p hn hm hp => ?_⟩
  obtain ⟨p', rfl⟩ : ∃ p', p = p' + 1 := ⟨p - 1, by omega⟩
  exact h n m p' (by omega) (by omega) (by omega)
/-- A loop is entered with n rounds. -/
theorem Ev_in {α : Type} {g : Nat → Nat → Nat → Option α} {r : α} (h : Ev g r) : Ev (fun n _ p => g n n p) r := by
  obtain ⟨K, h⟩ := h
  exact ⟨K, fun n m p hn hm hp => h n n p hn hn hp⟩
theorem Ev_in2 {α : Type} {g : Nat → Nat → Nat → Option α} {r : α} (h : Ev g r) : Ev (fun n m _ => g n m n) r := by
  obtain ⟨K, h⟩ := h
  exact ⟨K, fun n m p hn hm hp => h n m n hn hm hn⟩
/-- What any number of rounds from K on answers. -/
theorem Ev_at {α : Type} {g : Nat → Option α} {r : α} (K : Nat) (h : ∀ d, g (d + K) = some r) : Ev (fun n _ _ => g n) r := by
  refine ⟨K, fun n m p hn _ _ => ?_⟩
  obtain ⟨d, rfl⟩ : ∃ d, n = d + K := ⟨n - K, by omega⟩
  exact h d
theorem wrap64_nat {n : Int} (h0 : 0 ≤ n) (h1 : n < 9223372036854775808) : wrap64 n = n := by unfold wrap64; omega
end Go.Proofs.YtlnfgcnagfdliaaDoor.Lib
/- Plain laws of lists of limbs in base 2^64, of their value and of the one trimmed list of a number. No conditions. -/
namespace Go.Proofs.YtlnfgcnagfdliaaDoor.Lib
open Go.RowKit Go.Proofs.YtlnfgcnagfdliaaDoorA

/-! ### powers of the base -/
def B (m : Nat) : Nat := 18446744073709551616 ^ m
theorem B_zero : B 0 = 1 := rfl
theorem B_succ (m : Nat) : B (m + 1) = 18446744073709551616 * B m := by unfold B; rw [Nat.pow_succ, Nat.mul_comm]
theorem B_one : B 1 = 18446744073709551616 := by rw [B_succ, B_zero]
theorem B_add (m n : Nat) : B (m + n) = B m * B n := by unfold B; exact Nat.pow_add ..
theorem B_pos (m : Nat) : 0 < B m := by unfold B; exact Nat.pow_pos (by omega)
theorem B_mono {m n : Nat} (h : m ≤ n) : B m ≤ B n := by unfold B; exact Nat.pow_le_pow_right (by omega) h
theorem B_two (m : Nat) : B m = 2 ^ (64 * m) := by unfold B; rw [Nat.pow_mul]
attribute [irreducible] B

/-! ### limbs -/
def ok (l : List Int) : Prop := ∀ x ∈ l, 0 ≤ x ∧ x < 18446744073709551616
theorem ok_nil : ok [] := fun x h => by simp at h
theorem ok_cons {x : Int} {l : List Int} : ok (x :: l) ↔ (0 ≤ x ∧ x < 18446744073709551616) ∧ ok l := by
  constructor
  · intro h
    exact ⟨h x (by simp), fun y hy => h y (by simp [hy])⟩
  · rintro ⟨h1, h2⟩ y hy
    rcases List.mem_cons.1 hy with rfl | hy
    · exact h1
    · exact h2 y hy
theorem ok_take {l : List Int} (h : ok l) (n : Nat) : ok (l.take n) := fun x hx => h x (List.mem_of_mem_take hx)
theorem ok_append {l m : List Int} (h : ok l) (k : ok m) : ok (l ++ m) := fun x hx => (List.mem_append.1 hx).elim (h x) (k x)
theorem ok_replicate (n : Nat) : ok (List.replicate n 0) := fun x hx => by
  rw [(List.mem_replicate.1 hx).2]; omega
theorem ok_set {l : List Int} (h : ok l) (i : Nat) {x : Int} (h0 : 0 ≤ x) (h1 : x < 18446744073709551616) : ok (l.set i x) := by
  intro y hy
  rcases List.mem_or_eq_of_mem_set hy with hy | rfl
  · exact h y hy
  · exact ⟨h0, h1⟩
theorem rd_nat (l : List Int) (i : Nat) : rd l (i : Int) = l.getD i 0 := by simp [rd]
theorem ok_rd {l : List Int} (h : ok l) (i : Int) : 0 ≤ rd l i ∧ rd l i < 18446744073709551616 := by
  unfold rd
  rw [List.getD_eq_getElem?_getD]
  rcases Nat.lt_or_ge i.toNat l.length with hi | hi
  · rw [List.getElem?_eq_getElem hi, Option.getD_some]
    exact h _ (List.getElem_mem hi)
  · rw [List.getElem?_eq_none hi, Option.getD_none]
    omega

/-! ### the value -/
def val : List Int → Nat
  | [] => 0
  | x :: l => x.toNat + 18446744073709551616 * val l
theorem val_nil : val [] = 0 := rfl
theorem val_cons (x : Int) (l : List Int) : val (x :: l) = x.toNat + 18446744073709551616 * val l := rfl
attribute [irreducible] val
theorem val_append (l m : List Int) : val (l ++ m) = val l + B l.length * val m := by
  induction l with
  | nil => simp [val_nil, B_zero]
  | cons x l ih =>
    rw [List.cons_append, val_cons, ih, val_cons, List.length_cons, B_succ, Nat.mul_add, Nat.mul_assoc, Nat.add_assoc]
theorem val_replicate (n : Nat) : val (List.replicate n 0) = 0 := by
  induction n with
  | zero => exact val_nil
  | succ n ih => rw [List.replicate_succ, val_cons, ih]; rfl
theorem val_lt {l : List Int} (h : ok l) : val l < B l.length := by
  induction l with
  | nil => rw [val_nil]; exact B_pos _
  | cons x l ih =>
    obtain ⟨h1, h2⟩ := ok_cons.1 h
    have := ih h2
    rw [val_cons, List.length_cons, B_succ]
    omega
theorem val_split (l : List Int) (i : Nat) : val l = val (l.take i) + B (min i l.length) * val (l.drop i) := by
  have := val_append (l.take i) (l.drop i)
  rwa [List.take_append_drop, List.length_take] at this
theorem val_take_succ (l : List Int) (i : Nat) : val (l.take (i + 1)) = val (l.take i) + B i * (rd l (i : Int)).toNat := by
  rw [rd_nat]
  rcases Nat.lt_or_ge i l.length with h | h
  · rw [List.take_succ_eq_append_getElem h, val_append, List.length_take, Nat.min_eq_left (Nat.le_of_lt h), List.getD_eq_getElem?_getD, List.getElem?_eq_getElem h]
    simp [val_cons, val_nil]
  · rw [List.take_of_length_le (by omega), List.take_of_length_le h, List.getD_eq_getElem?_getD, List.getElem?_eq_none h]
    simp
theorem val_take_all (l : List Int) {n : Nat} (h : l.length ≤ n) : val (l.take n) = val l := by rw [List.take_of_length_le h]
theorem val_drop_cons (l : List Int) (i : Nat) (h : i < l.length) : val (l.drop i) = (rd l (i : Int)).toNat + 18446744073709551616 * val (l.drop (i + 1)) := by
  rw [List.drop_eq_getElem_cons h, val_cons, rd_nat, List.getD_eq_getElem?_getD, List.getElem?_eq_getElem h, Option.getD_some]
theorem take_set_ge (l : List Int) (i n : Nat) (x : Int) (h : n ≤ i) : (l.set i x).take n = l.take n := by
  rw [List.take_set]
  exact List.set_eq_of_length_le (by rw [List.length_take]; omega)
theorem val_take_set (l : List Int) (i : Nat) (x : Int) (h : i < l.length) : val ((l.set i x).take (i + 1)) = val (l.take i) + B i * x.toNat := by
  rw [val_take_succ, take_set_ge _ _ _ _ (Nat.le_refl i), rd_nat, List.getD_eq_getElem?_getD, List.getElem?_set_self h]
  rfl
theorem rd_set_self (l : List Int) (i : Nat) (x : Int) (h : i < l.length) : rd (l.set i x) (i : Int) = x := by
  rw [rd_nat, List.getD_eq_getElem?_getD, List.getElem?_set_self h]; rfl
theorem rd_set_ne (l : List Int) (i j : Nat) (x : Int) (h : i ≠ j) : rd (l.set i x) (j : Int) = rd l (j : Int) := by
  rw [rd_nat, rd_nat, List.getD_eq_getElem?_getD, List.getElem?_set_ne h, List.getD_eq_getElem?_getD]
theorem val_set (l : List Int) (i : Nat) (x : Int) (h : i < l.length) : val (l.set i x) + B i * (rd l (i : Int)).toNat = val l + B i * x.toNat := by
  induction l generalizing i with
  | nil => simp at h
  | cons y l ih =>
    cases i with
    | zero => simp only [List.set_cons_zero, val_cons, B_zero, rd_nat]; simp; omega
    | succ i =>
      have h2 := ih i (by simpa using h)
      have hr : rd (y :: l) ((i + 1 : Nat) : Int) = rd l (i : Int) := by rw [rd_nat, rd_nat]; simp
      rw [hr, List.set_cons_succ, val_cons, val_cons, B_succ, Nat.mul_assoc, Nat.mul_assoc]
      omega
theorem val_drop_zero {l : List Int} {i : Nat} (h : val (l.drop i) = 0) : val l = val (l.take i) := by
  have := val_split l i
  rw [h] at this
  simpa using this

/-! ### the trimmed list -/
def lim (n : Nat) : List Int := if n = 0 then [] else ((n % 18446744073709551616 : Nat) : Int) :: lim (n / 18446744073709551616)
termination_by n
decreasing_by omega
theorem lim_zero : lim 0 = [] := by rw [lim]; rfl
theorem lim_pos {n : Nat} (h : n ≠ 0) : lim n = ((n % 18446744073709551616 : Nat) : Int) :: lim (n / 18446744073709551616) := by rw [lim, if_neg h]
theorem val_lim (n : Nat) : val (lim n) = n := by
  induction n using Nat.strongRecOn with
  | _ n ih =>
    by_cases h : n = 0
    · subst h; rw [lim_zero, val_nil]
    · rw [lim_pos h, val_cons, ih _ (by omega)]
      simp only [Int.toNat_natCast]
      omega
theorem ok_lim (n : Nat) : ok (lim n) := by
  induction n using Nat.strongRecOn with
  | _ n ih =>
    by_cases h : n = 0
    · subst h; rw [lim_zero]; exact ok_nil
    · rw [lim_pos h]
      exact ok_cons.2 ⟨by omega, ih _ (by omega)⟩
theorem lim_len_zero {n : Nat} : (lim n).length = 0 ↔ n = 0 := by
  constructor
  · intro h
    rw [← val_lim n, List.eq_nil_of_length_eq_zero h, val_nil]
  · rintro rfl; rw [lim_zero]; rfl
theorem lim_len_le (n m : Nat) : (lim n).length ≤ m ↔ n < B m := by
  induction m generalizing n with
  | zero =>
    rw [B_zero]
    have := @lim_len_zero n
    omega
  | succ m ih =>
    by_cases h : n = 0
    · subst h
      rw [lim_zero]
      simp [B_pos]
    · rw [lim_pos h, List.length_cons, B_succ]
      have := ih (n / 18446744073709551616)
      rw [Nat.div_lt_iff_lt_mul (by omega), Nat.mul_comm] at this
      omega
theorem lim_len_ge (n : Nat) (h : n ≠ 0) : B ((lim n).length - 1) ≤ n := by
  have := lim_len_le n ((lim n).length - 1)
  have h2 := @lim_len_zero n
  omega
theorem val_mul_base {x : Int} {l : List Int} (h0 : 0 ≤ x) (h1 : x < 18446744073709551616) : val (x :: l) % 18446744073709551616 = x.toNat ∧ val (x :: l) / 18446744073709551616 = val l := by
  rw [val_cons]
  omega
/-- The first limbs of a list, up to the size of its value, are the trimmed list. -/
theorem take_lim {l : List Int} (h : ok l) : l.take (lim (val l)).length = lim (val l) := by
  induction l with
  | nil => rw [val_nil, lim_zero]; rfl
  | cons x l ih =>
    obtain ⟨⟨h0, h1⟩, h2⟩ := ok_cons.1 h
    have hm := val_mul_base (l := l) h0 h1
    by_cases hz : val (x :: l) = 0
    · rw [hz, lim_zero]; rfl
    · rw [lim_pos hz, hm.1, hm.2, List.length_cons, List.take_succ_cons, ih h2]
      congr 1
      omega
theorem lim_len_val_le {l : List Int} (h : ok l) : (lim (val l)).length ≤ l.length := (lim_len_le _ _).2 (val_lt h)
theorem rd_lim_last (n : Nat) (h : n ≠ 0) : rd (lim n) (((lim n).length - 1 : Nat) : Int) ≠ 0 := by
  intro hz
  have hl := @lim_len_zero n
  have h1 := val_take_succ (lim n) ((lim n).length - 1)
  rw [hz, Nat.sub_add_cancel (by omega), val_take_all _ (Nat.le_refl _), val_lim] at h1
  have h2 := val_lt (ok_take (ok_lim n) ((lim n).length - 1))
  have h3 := (lim_len_le n ((lim n).length - 1))
  rw [List.length_take, Nat.min_eq_left (by omega)] at h2
  simp at h1
  omega
end Go.Proofs.YtlnfgcnagfdliaaDoor.Lib
/- Plain laws of bits: shifts of limbs, the length of a number, its trailing zeros. No conditions. -/
namespace Go.Proofs.YtlnfgcnagfdliaaDoor.LibB
open Go.RowKit Go.Proofs.YtlnfgcnagfdliaaDoorA Go.Proofs.YtlnfgcnagfdliaaDoor.Lib
set_option linter.unusedVariables false

/-! ### the shifts -/
theorem shl_u64 {x : Int} {s : Nat} (hx : 0 ≤ x) (hs : s ≤ 64) : shl .u64 x (s : Int) = x * (2 ^ s : Nat) % 18446744073709551616 := by
  unfold shl
  rw [wr_eq]
  rw [IntKind.wrap_u64, Int.toNat_natCast, Nat.min_eq_left (show s ≤ IntKind.u64.bits from hs)]
  rw [Int.natCast_pow]; rfl
theorem shr_u64 {x : Int} {s : Nat} (hs : s ≤ 64) : shr .u64 x (s : Int) = x / (2 ^ s : Nat) := by
  unfold shr
  rw [Int.toNat_natCast, Nat.min_eq_left (show s ≤ IntKind.u64.bits from hs), Int.natCast_pow]; rfl
theorem or_low {p x : Int} {s : Nat} (h0 : 0 ≤ p) (h1 : 0 ≤ x) (h2 : x < (2 ^ s : Nat)) (h3 : p * (2 ^ s : Nat) + x < 18446744073709551616) : Go.bits .or .u64 (p * (2 ^ s : Nat)) x = p * (2 ^ s : Nat) + x := by
  obtain ⟨P, rfl⟩ := Int.eq_ofNat_of_zero_le h0
  obtain ⟨X, rfl⟩ := Int.eq_ofNat_of_zero_le h1
  have e : (P : Int) * ((2 ^ s : Nat) : Int) = ((P * 2 ^ s : Nat) : Int) := by rw [Int.natCast_mul]
  rw [e] at h3 ⊢
  rw [u64_or_nat _ _ (by omega) (by omega), Nat.mul_comm P, ← Nat.two_pow_add_eq_or_of_lt (by omega)]
  omega
theorem bitLenAux_lt : ∀ (f x : Nat), x < 2 ^ f → x < 2 ^ Lib.bitLenAux f x
  | 0, x, h => h
  | f + 1, x, h => by
    unfold Lib.bitLenAux
    by_cases h0 : x = 0
    · rw [if_pos h0]; omega
    · rw [if_neg h0, Nat.add_comm, Nat.pow_succ]
      have := bitLenAux_lt f (x / 2) (by rw [Nat.pow_succ] at h; omega)
      omega
theorem bitLen_lt {x : Nat} (h : x < 18446744073709551616) : x < 2 ^ Lib.bitLen x := bitLenAux_lt 64 x h
theorem bitLen_le64 {x : Nat} (h : x < 18446744073709551616) : Lib.bitLen x ≤ 64 := Lib.bitLen_le x 64 (Nat.le_refl _) h
theorem bitLen_pos {x : Nat} (h0 : x ≠ 0) (h : x < 18446744073709551616) : 0 < Lib.bitLen x := by
  have := bitLen_lt h
  rcases Nat.eq_zero_or_pos (Lib.bitLen x) with h1 | h1
  · rw [h1] at this; omega
  · exact h1
theorem le_bitLen {x : Nat} (h0 : x ≠ 0) (h : x < 18446744073709551616) : 2 ^ (Lib.bitLen x - 1) ≤ x := by
  have h1 := bitLen_pos h0 h
  have h2 := bitLen_le64 h
  rcases Nat.lt_or_ge x (2 ^ (Lib.bitLen x - 1)) with h3 | h3
  · have := Lib.bitLen_le x (Lib.bitLen x - 1) (by omega) h3
    omega
  · exact h3

/-! ### the length in bits -/
def blen (n : Nat) : Nat := if n = 0 then 0 else n.log2 + 1
theorem blen_le (n m : Nat) : blen n ≤ m ↔ n < 2 ^ m := by
  unfold blen
  by_cases h : n = 0
  · subst h
    rw [if_pos rfl]
    simp [Nat.pow_pos]
  · rw [if_neg h]
    have := Nat.log2_lt (k := m) h
    omega
theorem blen_lt (n : Nat) : n < 2 ^ blen n := (blen_le n _).1 (Nat.le_refl _)
theorem blen_ge {n : Nat} (h : n ≠ 0) : 2 ^ (blen n - 1) ≤ n := by
  have h1 := blen_le n (blen n - 1)
  have h2 : blen n ≠ 0 := by unfold blen; rw [if_neg h]; omega
  omega
theorem blen_pos {n : Nat} : 0 < blen n ↔ n ≠ 0 := by
  unfold blen
  split <;> omega
theorem blen_eq {n m : Nat} (h1 : 2 ^ m ≤ n) (h2 : n < 2 ^ (m + 1)) : blen n = m + 1 := by
  have h3 := (blen_le n (m + 1)).2 h2
  have h4 := blen_le n m
  omega
theorem blen_limb {x : Nat} (h : x < 18446744073709551616) : Lib.bitLen x = blen x := by
  by_cases h0 : x = 0
  · subst h0; rfl
  · have h1 := bitLen_lt h
    have h2 := le_bitLen h0 h
    have h3 := bitLen_pos h0 h
    obtain ⟨m, hm⟩ : ∃ m, Lib.bitLen x = m + 1 := ⟨Lib.bitLen x - 1, by omega⟩
    rw [hm] at h1 h2 ⊢
    exact (blen_eq h2 h1).symm
theorem blen_mul_pow {n : Nat} (h : n ≠ 0) (k : Nat) : blen (n * 2 ^ k) = blen n + k := by
  have h1 := blen_ge h
  have h2 := blen_lt n
  have h3 := blen_pos.2 h
  have hp := Nat.pow_pos (n := k) (show 0 < 2 by omega)
  obtain ⟨m, hm⟩ : ∃ m, blen n = m + 1 := ⟨blen n - 1, by omega⟩
  rw [hm] at h1 h2 ⊢
  rw [show m + 1 + k = m + k + 1 by omega]
  refine blen_eq ?_ ?_
  · rw [Nat.pow_add]; exact Nat.mul_le_mul_right _ h1
  · rw [show m + k + 1 = m + 1 + k by omega, Nat.pow_add]; exact Nat.mul_lt_mul_of_pos_right h2 hp
/-- The length of a list of limbs, by that of its highest one. -/
theorem blen_high {l r i : Nat} (hl : l < B i) (h0 : r ≠ 0) : blen (l + B i * r) = 64 * i + blen r := by
  have h1 := blen_ge h0
  have h2 := blen_lt r
  have h3 := blen_pos.2 h0
  obtain ⟨m, hm⟩ : ∃ m, blen r = m + 1 := ⟨blen r - 1, by omega⟩
  rw [hm] at h1 h2 ⊢
  have h4 : B i * 2 ^ m ≤ B i * r := Nat.mul_le_mul_left _ h1
  have h5 : B i * (r + 1) ≤ B i * 2 ^ (m + 1) := Nat.mul_le_mul_left _ h2
  rw [Nat.mul_add] at h5
  refine blen_eq (m := 64 * i + m) ?_ ?_
  · rw [Nat.pow_add, ← B_two]; have : m + 1 - 1 = m := rfl; rw [this] at h1; have h4 : B i * 2 ^ m ≤ B i * r := Nat.mul_le_mul_left _ h1; omega
  · rw [show 64 * i + m + 1 = 64 * i + (m + 1) by omega, Nat.pow_add, ← B_two]; omega

/-! ### the trailing zeros -/
def tz (n : Nat) : Nat := if n = 0 then 0 else Lib.ctzFrom n n
theorem tz_spec {n : Nat} (h : n ≠ 0) : ∃ m, n = 2 ^ tz n * (2 * m + 1) := by
  obtain ⟨m, hm, _⟩ := Lib.ctzFrom_spec n n (by omega) Nat.lt_two_pow_self
  exact ⟨m, by unfold tz; rw [if_neg h]; exact hm⟩
theorem odd_pow_inj {a b m k : Nat} (h : 2 ^ a * (2 * m + 1) = 2 ^ b * (2 * k + 1)) : a = b := by
  induction a generalizing b with
  | zero =>
    cases b with
    | zero => rfl
    | succ b => rw [Nat.pow_succ, Nat.mul_comm _ 2, Nat.mul_assoc] at h; omega
  | succ a ih =>
    cases b with
    | zero => rw [Nat.pow_succ, Nat.mul_comm _ 2, Nat.mul_assoc] at h; omega
    | succ b =>
      rw [Nat.pow_succ, Nat.pow_succ, Nat.mul_comm _ 2, Nat.mul_comm _ 2, Nat.mul_assoc, Nat.mul_assoc] at h
      rw [ih (b := b) (by omega)]
theorem tz_eq {n a m : Nat} (h : n = 2 ^ a * (2 * m + 1)) : tz n = a := by
  have hp := Nat.pow_pos (n := a) (show 0 < 2 by omega)
  have hn : n ≠ 0 := by
    have : 0 < 2 ^ a * (2 * m + 1) := Nat.mul_pos hp (by omega)
    omega
  obtain ⟨k, hk⟩ := tz_spec hn
  exact odd_pow_inj (hk.symm.trans h)
theorem tz_mul_pow {n : Nat} (h : n ≠ 0) (k : Nat) : tz (n * 2 ^ k) = tz n + k := by
  obtain ⟨m, hm⟩ := tz_spec h
  refine tz_eq (m := m) ?_
  rw [Nat.pow_add]
  conv => lhs; rw [hm]
  rw [Nat.mul_right_comm]
theorem tz_limb {x : Nat} (h0 : x ≠ 0) (h : x < 18446744073709551616) : Lib.ctz 64 x = tz x ∧ Lib.ctz 64 x < 64 := by
  obtain ⟨m, hm, hk⟩ := Lib.ctzFrom_spec 64 x (by omega) h
  have e : Lib.ctz 64 x = Lib.ctzFrom 64 x := by simp [Lib.ctz, h0]
  rw [e]
  exact ⟨(tz_eq hm).symm, hk⟩
/-- The lowest limb that isn't zero. -/
theorem tz_low {r rest i : Nat} (h0 : r ≠ 0) (h : r < 18446744073709551616) : tz (B i * (r + 18446744073709551616 * rest)) = 64 * i + Lib.ctz 64 r := by
  obtain ⟨e, hk⟩ := tz_limb h0 h
  obtain ⟨m, hm⟩ := tz_spec h0
  rw [e] at hk ⊢
  obtain ⟨d, hd⟩ : ∃ d, 64 = tz r + (d + 1) := ⟨64 - tz r - 1, by omega⟩
  have hp : (18446744073709551616 : Nat) = 2 ^ tz r * (2 ^ d * 2) := by rw [← Nat.pow_succ, ← Nat.pow_add, ← hd]
  refine tz_eq (m := m + 2 ^ d * rest) ?_
  rw [B_two, Nat.pow_add, Nat.mul_assoc]
  congr 1
  generalize tz r = t at *
  rw [hp, hm, Nat.mul_assoc, ← Nat.mul_add]
  congr 1
  rw [Nat.mul_add, Nat.mul_right_comm _ 2, Nat.mul_comm _ 2]
  omega

/-! ### a list of limbs, cut at a bit -/
theorem div_limb {l r R i s : Nat} (hl : l < B i) : (l + B i * R) / 2 ^ (64 * i + s) = R / 2 ^ s := by
  rw [Nat.pow_add, ← B_two, ← Nat.div_div_eq_div_mul, Nat.add_mul_div_left _ _ (B_pos i), Nat.div_eq_of_lt hl, Nat.zero_add]
/-- Bits s and on of a limb with limbs above. -/
theorem shift_limb {r R s : Nat} (hs : s ≤ 64) : (r + 18446744073709551616 * R) / 2 ^ s = r / 2 ^ s + 2 ^ (64 - s) * R := by
  have hp : (18446744073709551616 : Nat) = 2 ^ s * 2 ^ (64 - s) := by rw [← Nat.pow_add, show s + (64 - s) = 64 by omega]
  rw [hp, Nat.mul_assoc, Nat.add_mul_div_left _ _ (Nat.pow_pos (by omega))]
theorem bit_limb {r R s : Nat} (hs : s < 64) : (r + 18446744073709551616 * R) / 2 ^ s % 2 = r / 2 ^ s % 2 := by
  rw [shift_limb (by omega), show 64 - s = (63 - s) + 1 by omega, Nat.pow_succ, Nat.mul_comm _ 2, Nat.mul_assoc]
  omega
/-- A bit of a list of limbs. -/
theorem bit_val {l : List Int} (h : ok l) (i s : Nat) (hs : s < 64) : val l / 2 ^ (64 * i + s) % 2 = (rd l (i : Int)).toNat / 2 ^ s % 2 := by
  rcases Nat.lt_or_ge i l.length with hi | hi
  · have h1 := val_split l i
    rw [Nat.min_eq_left (by omega), val_drop_cons l i hi] at h1
    have h2 := val_lt (ok_take h i)
    rw [List.length_take, Nat.min_eq_left (by omega)] at h2
    rw [h1, div_limb (r := 0) h2, bit_limb hs]
  · have h1 := val_lt h
    have h2 := B_mono hi
    have h3 : 2 ^ (64 * i) ≤ 2 ^ (64 * i + s) := Nat.pow_le_pow_right (by omega) (by omega)
    rw [← B_two] at h3
    rw [Nat.div_eq_of_lt (by omega), rd_nat, List.getD_eq_getElem?_getD, List.getElem?_eq_none hi]
    simp
end Go.Proofs.YtlnfgcnagfdliaaDoor.LibB
