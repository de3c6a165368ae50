/- What the first reference computes, by its digits of 32 bits. Conditions: lists of limbs below 2^64, of lengths that a slice has. -/
import Derived.Test.YtlnfgcnagfdliaaDoorQNat1
import Derived.Test.YtlnfgcnagfdliaaDoorQBits
namespace Go.Proofs.YtlnfgcnagfdliaaDoor.R1
open Go.RowKit Go.Proofs.YtlnfgcnagfdliaaDoor.Lib Go.Proofs.YtlnfgcnagfdliaaDoor.LibB Go.Proofs.YtlnfgcnagfdliaaDoor.F Go.Proofs.YtlnfgcnagfdliaaDoor.Nat1 Go.Proofs.YtlnfgcnagfdliaaDoor.Bits
open Go.Proofs.YtlnfgcnagfdliaaDoorA (rd ln ln_eq mx mn shl shr wr wr_eq)
set_option linter.unusedVariables false
set_option linter.unusedSimpArgs false
def H (m : Nat) : Nat := 4294967296 ^ m
theorem H_zero : H 0 = 1 := rfl
theorem H_succ (m : Nat) : H (m + 1) = 4294967296 * H m := by unfold H; rw [Nat.pow_succ, Nat.mul_comm]
theorem H_add (m n : Nat) : H (m + n) = H m * H n := by unfold H; exact Nat.pow_add ..
theorem H_pos (m : Nat) : 0 < H m := by unfold H; exact Nat.pow_pos (by omega)
theorem H_mono {m n : Nat} (h : m ≤ n) : H m ≤ H n := by unfold H; exact Nat.pow_le_pow_right (by omega) h
attribute [irreducible] H
def ok32 (l : List Int) : Prop := ∀ x ∈ l, 0 ≤ x ∧ x < 4294967296
theorem ok32_nil : ok32 [] := fun x h => by simp at h
theorem ok32_cons {x : Int} {l : List Int} : ok32 (x :: l) ↔ (0 ≤ x ∧ x < 4294967296) ∧ ok32 l := by
  constructor
  · intro h
    exact ⟨h x (by simp), fun y hy => h y (by simp [hy])⟩
  · rintro ⟨h1, h2⟩ y hy
    rcases List.mem_cons.1 hy with rfl | hy
    · exact h1
    · exact h2 y hy
theorem ok32_take {l : List Int} (h : ok32 l) (n : Nat) : ok32 (l.take n) := fun x hx => h x (List.mem_of_mem_take hx)
theorem ok32_append {l m : List Int} (h : ok32 l) (k : ok32 m) : ok32 (l ++ m) := fun x hx => (List.mem_append.1 hx).elim (h x) (k x)
theorem ok32_replicate (n : Nat) : ok32 (List.replicate n 0) := fun x hx => by
  rw [(List.mem_replicate.1 hx).2]; omega
theorem ok32_set {l : List Int} (h : ok32 l) (i : Nat) {x : Int} (h0 : 0 ≤ x) (h1 : x < 4294967296) : ok32 (l.set i x) := by
  intro y hy
  rcases List.mem_or_eq_of_mem_set hy with hy | rfl
  · exact h y hy
  · exact ⟨h0, h1⟩
theorem ok32_rd {l : List Int} (h : ok32 l) (i : Int) : 0 ≤ rd l i ∧ rd l i < 4294967296 := by
  unfold rd
  rw [List.getD_eq_getElem?_getD]
  rcases Nat.lt_or_ge i.toNat l.length with hi | hi
  · rw [List.getElem?_eq_getElem hi, Option.getD_some]
    exact h _ (List.getElem_mem hi)
  · rw [List.getElem?_eq_none hi, Option.getD_none]
    omega
def v32 : List Int → Nat
  | [] => 0
  | x :: l => x.toNat + 4294967296 * v32 l
theorem v32_nil : v32 [] = 0 := rfl
theorem v32_cons (x : Int) (l : List Int) : v32 (x :: l) = x.toNat + 4294967296 * v32 l := rfl
attribute [irreducible] v32
theorem v32_append (l m : List Int) : v32 (l ++ m) = v32 l + H l.length * v32 m := by
  induction l with
  | nil => simp [v32_nil, H_zero]
  | cons x l ih =>
    rw [List.cons_append, v32_cons, ih, v32_cons, List.length_cons, H_succ, Nat.mul_add, Nat.mul_assoc, Nat.add_assoc]
theorem v32_replicate (n : Nat) : v32 (List.replicate n 0) = 0 := by
  induction n with
  | zero => exact v32_nil
  | succ n ih => rw [List.replicate_succ, v32_cons, ih]; rfl
theorem v32_lt {l : List Int} (h : ok32 l) : v32 l < H l.length := by
  induction l with
  | nil => rw [v32_nil]; exact H_pos _
  | cons x l ih =>
    obtain ⟨h1, h2⟩ := ok32_cons.1 h
    have := ih h2
    rw [v32_cons, List.length_cons, H_succ]
    omega
theorem v32_split (l : List Int) (i : Nat) : v32 l = v32 (l.take i) + H (min i l.length) * v32 (l.drop i) := by
  have := v32_append (l.take i) (l.drop i)
  rwa [List.take_append_drop, List.length_take] at this
theorem v32_take_succ (l : List Int) (i : Nat) : v32 (l.take (i + 1)) = v32 (l.take i) + H i * (rd l (i : Int)).toNat := by
  rw [rd_nat]
  rcases Nat.lt_or_ge i l.length with h | h
  · rw [List.take_succ_eq_append_getElem h, v32_append, List.length_take, Nat.min_eq_left (Nat.le_of_lt h), List.getD_eq_getElem?_getD, List.getElem?_eq_getElem h]
    simp [v32_cons, v32_nil]
  · rw [List.take_of_length_le (by omega), List.take_of_length_le h, List.getD_eq_getElem?_getD, List.getElem?_eq_none h]
    simp
theorem v32_drop_cons (l : List Int) (i : Nat) (h : i < l.length) : v32 (l.drop i) = (rd l (i : Int)).toNat + 4294967296 * v32 (l.drop (i + 1)) := by
  rw [List.drop_eq_getElem_cons h, v32_cons, rd_nat, List.getD_eq_getElem?_getD, List.getElem?_eq_getElem h, Option.getD_some]
theorem v32_set (l : List Int) (i : Nat) (x : Int) (h : i < l.length) : v32 (l.set i x) + H i * (rd l (i : Int)).toNat = v32 l + H i * x.toNat := by
  induction l generalizing i with
  | nil => simp at h
  | cons y l ih =>
    cases i with
    | zero => simp only [List.set_cons_zero, v32_cons, H_zero, rd_nat]; simp; omega
    | succ i =>
      have h2 := ih i (by simpa using h)
      have hr : rd (y :: l) ((i + 1 : Nat) : Int) = rd l (i : Int) := by rw [rd_nat, rd_nat]; simp
      rw [hr, List.set_cons_succ, v32_cons, v32_cons, H_succ, Nat.mul_assoc, Nat.mul_assoc]
      omega
theorem v32_drop_zero {l : List Int} {i : Nat} (h : v32 (l.drop i) = 0) : v32 l = v32 (l.take i) := by
  have := v32_split l i
  rw [h] at this
  simpa using this

theorem H_two (m : Nat) : H m = 2 ^ (32 * m) := by unfold H; rw [Nat.pow_mul]
theorem B_H (m : Nat) : B m = H (2 * m) := by rw [B_two, H_two]; congr 1; omega
/-- Digits of n without zeros at the high end. -/
structure Dg (g : List Int) (n : Nat) : Prop where
  dig : ok32 g
  v : v32 g = n
  top : g.length ≠ 0 → H (g.length - 1) ≤ n
theorem Dg.len0 {g : List Int} {n : Nat} (h : Dg g n) : g.length = 0 ↔ n = 0 := by
  constructor
  · intro h0
    rw [← h.v, List.eq_nil_of_length_eq_zero h0, v32_nil]
  · intro h0
    refine Decidable.byContradiction fun k => ?_
    have := h.top k
    have := H_pos (g.length - 1)
    omega
theorem Dg.le {g : List Int} {n m : Nat} (h : Dg g n) (hn : n < H m) : g.length ≤ m := by
  refine Nat.le_of_not_lt fun k => ?_
  have := h.top (by omega)
  have := H_mono (show m ≤ g.length - 1 by omega)
  omega
theorem v32_snoc (l : List Int) (x : Int) : v32 (l ++ [x]) = v32 l + H l.length * x.toNat := by rw [v32_append, v32_cons, v32_nil]; simp
theorem val_snoc (l : List Int) (x : Int) : val (l ++ [x]) = val l + B l.length * x.toNat := by rw [val_append, val_cons, val_nil]; simp
theorem bit_32 {n : Nat} (h : n < 18446744073709551616) : Go.bits .and .u64 (n : Int) 4294967295 = ((n % 4294967296 : Nat) : Int) := by
  rw [show (4294967295 : Int) = ((2 ^ 32 - 1 : Nat) : Int) from rfl, u64_and_nat _ _ (by omega) (by omega), Nat.and_two_pow_sub_one_eq_mod]
theorem nat_of {x : Int} (h : 0 ≤ x) : ∃ n : Nat, x = (n : Int) := ⟨x.toNat, by omega⟩
theorem wu {n : Nat} (h : n < 18446744073709551616) : IntKind.u64.wrap (n : Int) = (n : Int) := by rw [IntKind.wrap_u64]; omega
theorem ok32_snoc {l : List Int} {n : Nat} (h : ok32 l) (hn : n < 4294967296) : ok32 (l ++ [(n : Int)]) := ok32_append h (fun x hx => by simp at hx; subst hx; omega)
theorem ok_snoc {l : List Int} {n : Nat} (h : ok l) (hn : n < 18446744073709551616) : ok (l ++ [(n : Int)]) := ok_append h (fun x hx => by simp at hx; subst hx; omega)
theorem trim_copy {l : List Int} {n : Nat} (hn : n ≤ l.length) (hl : l.length ≤ 17592186044415) (d : Nat) : ∀ i, i + d = n → Ev (fun k m _ => abacusref01_Trim.l501 k m l (n : Int) (i : Int) (l.take i)) (l.take n) := by
  induction d with
  | zero =>
    intro i hi
    obtain rfl : i = n := by omega
    refine Ev_succ ?_
    simp only [abacusref01_Trim.l501, abacusref01_Trim.b501, ln_eq]
    exact Ev_neg (by omega) (Ev.now _)
  | succ d ih =>
    intro i hi
    refine Ev_succ ?_
    simp only [abacusref01_Trim.l501, abacusref01_Trim.b501, ln_eq]
    have e : wrap64 ((i : Int) + 1) = ((i + 1 : Nat) : Int) := by unfold wrap64; omega
    have ht : (l.take i).length = i := by rw [List.length_take]; omega
    have hs : l.take i ++ [rd l (i : Int)] = l.take (i + 1) := by
      rw [List.take_succ_eq_append_getElem (by omega), rd_nat, List.getD_eq_getElem?_getD, List.getElem?_eq_getElem (by omega)]
      rfl
    rw [e, hs]
    exact Ev_pos (by omega) (Ev_pos (by omega) (Ev_pos (by omega) (Ev_pos (by omega) (ih (i + 1) (by omega)))))
theorem Trim_ev {l : List Int} (h : ok l) (hl : l.length ≤ 17592186044415) : Ev (fun k _ _ => abacusref01_Trim.f k l) (lim (val l)) := by
  simp only [abacusref01_Trim.f, abacusref01_Trim.b0, ln_eq]
  refine Ev_in (g := fun k m _ => abacusref01_Trim.l57 k m l l.length) ?_
  have copy (n : Nat) (hn : n ≤ l.length) : Ev (fun k _ _ => abacusref01_Trim.l15 k l (n : Int)) (l.take n) := by
    simp only [abacusref01_Trim.l15, abacusref01_Trim.b15]
    have := trim_copy hn hl n 0 (by omega)
    exact Ev_pos (by omega) (Ev_pos (by omega) (Ev_in this))
  have go : ∀ i, i ≤ l.length → val (l.drop i) = 0 → Ev (fun k m _ => abacusref01_Trim.l57 k m l (i : Int)) (lim (val l)) := by
    intro i
    induction i with
    | zero =>
      intro hi hz
      have hv : val l = 0 := by simpa using hz
      refine Ev_succ ?_
      simp only [abacusref01_Trim.l57, abacusref01_Trim.b57, ln_eq]
      have := copy 0 (by omega)
      rw [List.take_zero] at this
      rw [hv, lim_zero]
      exact Ev_neg (by omega) this
    | succ i ih =>
      intro hi hz
      have e : wrap64 (((i + 1 : Nat) : Int) - 1) = (i : Int) := by unfold wrap64; omega
      refine Ev_succ ?_
      simp only [abacusref01_Trim.l57, abacusref01_Trim.b57, ln_eq, e]
      refine Ev_pos (by omega) (Ev_pos (by omega) (Ev_pos (by omega) ?_))
      by_cases hr : rd l i = 0
      · refine Ev_pos hr (ih (by omega) ?_)
        rw [val_drop_cons l i (by omega), hz, hr]; rfl
      · have h1 := val_drop_zero hz
        have h2 := val_take_succ l i
        have h3 := val_lt (ok_take h (i + 1))
        rw [List.length_take, Nat.min_eq_left hi, ← h1] at h3
        have h4 := (lim_len_le (val l) (i + 1)).2 h3
        have h5 := lim_len_le (val l) i
        have h6 := ok_rd h i
        have h7 : B i ≤ B i * (rd l i).toNat := Nat.le_mul_of_pos_right _ (by omega)
        have h8 : (lim (val l)).length = i + 1 := by omega
        have := copy (i + 1) (by omega)
        rw [← h8, take_lim h, h8] at this
        exact Ev_neg hr this
  exact go l.length (Nat.le_refl _) (by rw [List.drop_length, val_nil])
theorem limbs_l {g : List Int} (h : ok32 g) (hl : g.length ≤ 4398046511104) (d : Nat) : ∀ (i : Nat) (acc : List Int), g.length ≤ i + 2 * d → i = 2 * acc.length → acc.length ≤ 4398046511104 → ok acc → val acc + B acc.length * v32 (g.drop i) = v32 g → acc.length ≤ g.length →
    Ev (fun k m _ => abacusref01_limbs.l117 k m g (i : Int) acc) (lim (v32 g)) := by
  have fin' (acc : List Int) (ha : ok acc) (hv : val acc = v32 g) (hla : acc.length ≤ 4398046511104) : Ev (fun k _ _ => abacusref01_limbs.l15 k acc) (lim (v32 g)) := by
    simp only [abacusref01_limbs.l15, abacusref01_limbs.b15]
    rw [← hv]
    exact Ev.bind (Trim_ev ha (by omega)) (Ev.now _)
  have stop (i : Nat) (acc : List Int) (hi : g.length ≤ i) (ha : ok acc) (hla : acc.length ≤ 4398046511104) (hv : val acc + B acc.length * v32 (g.drop i) = v32 g) : Ev (fun k m _ => abacusref01_limbs.l117 k m g (i : Int) acc) (lim (v32 g)) := by
    refine Ev_succ ?_
    simp only [abacusref01_limbs.l117, abacusref01_limbs.b117, ln_eq]
    rw [List.drop_eq_nil_of_le hi, v32_nil, Nat.mul_zero, Nat.add_zero] at hv
    exact Ev_neg (by omega) (fin' acc ha hv hla)
  induction d with
  | zero =>
    intro i acc hd hi hla ha hv hlg
    exact stop i acc (by omega) ha hla hv
  | succ d ih =>
    intro i acc hd hi hla ha hv hlg
    by_cases hlt : g.length ≤ i
    · exact stop i acc hlt ha hla hv
    refine Ev_succ ?_
    simp only [abacusref01_limbs.l117, abacusref01_limbs.b117, ln_eq]
    have e1 : wrap64 ((i : Int) + 1) = ((i + 1 : Nat) : Int) := by unfold wrap64; omega
    have e2 : wrap64 ((i : Int) + 2) = ((i + 2 : Nat) : Int) := by unfold wrap64; omega
    obtain ⟨x, hx⟩ := nat_of (ok32_rd h (i : Int)).1
    have hx2 := (ok32_rd h (i : Int)).2
    rw [hx] at hx2
    have d1 := v32_drop_cons g i (by omega)
    rw [hx, Int.toNat_natCast] at d1
    simp only [e1, e2, hx]
    refine Ev_pos (by omega) (Ev_pos (by omega) (Ev_pos (by omega) ?_))
    by_cases hn : i + 1 < g.length
    · obtain ⟨y, hy⟩ := nat_of (ok32_rd h ((i + 1 : Nat) : Int)).1
      have hy2 := (ok32_rd h ((i + 1 : Nat) : Int)).2
      rw [hy] at hy2
      have d2 := v32_drop_cons g (i + 1) hn
      rw [hy, Int.toNat_natCast] at d2
      have w1 : IntKind.u64.wrap ((y : Int) * 4294967296) = ((y * 4294967296 : Nat) : Int) := by rw [IntKind.wrap_u64]; omega
      have w2 : IntKind.u64.wrap ((x : Int) + ((y * 4294967296 : Nat) : Int)) = ((x + y * 4294967296 : Nat) : Int) := by rw [IntKind.wrap_u64]; omega
      simp only [hy, w1, w2]
      refine Ev_pos (by omega) (Ev_pos (by omega) (Ev_pos (by omega) (Ev_pos (by omega) ?_)))
      refine ih (i + 2) _ (by omega) (by simp; omega) (by simp; omega) (ok_snoc ha (by omega)) ?_ (by simp; omega)
      rw [val_snoc, List.length_append, List.length_cons, List.length_nil, B_succ, Int.toNat_natCast, ← hv, d1, d2]
      generalize v32 (g.drop (i + 1 + 1)) = R
      have e5 : 18446744073709551616 * B acc.length * R = B acc.length * (18446744073709551616 * R) := by rw [Nat.mul_right_comm, Nat.mul_comm]
      rw [e5, Nat.add_assoc, ← Nat.mul_add]
      congr 2
      omega
    · refine Ev_neg (by omega) (Ev_pos (by omega) ?_)
      refine ih (i + 2) _ (by omega) (by simp; omega) (by simp; omega) (ok_snoc ha (by omega)) ?_ (by simp; omega)
      have d3 : g.drop (i + 1) = [] := List.drop_eq_nil_of_le (by omega)
      have d4 : g.drop (i + 2) = [] := List.drop_eq_nil_of_le (by omega)
      rw [d3, v32_nil, Nat.mul_zero, Nat.add_zero] at d1
      rw [val_snoc, d4, v32_nil, Nat.mul_zero, Nat.add_zero, Int.toNat_natCast, ← hv, d1]
theorem limbs_ev {g : List Int} (h : ok32 g) (hl : g.length ≤ 4398046511104) : Ev (fun k _ _ => abacusref01_limbs.f k g) (lim (v32 g)) := by
  simp only [abacusref01_limbs.f, abacusref01_limbs.b0, ln_eq]
  have w : wrap64 (Int.tdiv (wrap64 ((g.length : Int) + 1)) 2) = (((g.length + 1) / 2 : Nat) : Int) := by
    rw [show wrap64 ((g.length : Int) + 1) = ((g.length + 1 : Nat) : Int) by unfold wrap64; omega, Int.tdiv_eq_ediv_of_nonneg (by omega)]
    unfold wrap64; omega
  rw [w]
  have := limbs_l h hl g.length 0 [] (by omega) rfl (by simp) ok_nil (by rw [val_nil, List.length_nil, B_zero]; simp) (by simp)
  exact Ev_pos (by omega) (Ev_pos (by omega) (Ev_in this))
theorem halves_trim {g : List Int} {cp : Int} (h : ok32 g) (hl : g.length ≤ 35184372088832) : ∃ r, Ev (fun k _ _ => abacusref01_halves.l15 k g cp) r ∧ Dg r (v32 g) := by
  simp only [abacusref01_halves.l15, abacusref01_halves.b15, ln_eq]
  have go : ∀ i : Nat, i ≤ g.length → v32 (g.drop i) = 0 → ∃ r, Ev (fun k m _ => abacusref01_halves.l249 k m (i : Int) g cp) r ∧ Dg r (v32 g) := by
    intro i
    induction i with
    | zero =>
      intro hi hz
      have hv : v32 g = 0 := by simpa using hz
      refine ⟨[], ?_, ⟨ok32_nil, by rw [v32_nil, hv], fun h => absurd rfl h⟩⟩
      refine Ev_succ ?_
      simp only [abacusref01_halves.l249, abacusref01_halves.b249, ln_eq]
      exact Ev_neg (by omega) (Ev_pos (by omega) (Ev_pos (by omega) (Ev_bind_some (Ev_some (by simp)))))
    | succ i ih =>
      intro hi hz
      have e : wrap64 (((i + 1 : Nat) : Int) - 1) = (i : Int) := by unfold wrap64; omega
      by_cases hr : rd g i = 0
      · obtain ⟨r, h1, h2⟩ := ih (by omega) (by rw [v32_drop_cons g i (by omega), hz, hr]; rfl)
        refine ⟨r, ?_, h2⟩
        refine Ev_succ ?_
        simp only [abacusref01_halves.l249, abacusref01_halves.b249, ln_eq, e]
        exact Ev_pos (by omega) (Ev_pos (by omega) (Ev_pos (by omega) (Ev_pos hr h1)))
      · refine ⟨g.take (i + 1), ?_, ⟨ok32_take h _, ?_, fun _ => ?_⟩⟩
        · refine Ev_succ ?_
          simp only [abacusref01_halves.l249, abacusref01_halves.b249, ln_eq, e]
          exact Ev_pos (by omega) (Ev_pos (by omega) (Ev_pos (by omega) (Ev_neg hr (Ev_pos (by omega) (Ev_pos (by omega) (Ev_bind_some (Ev_some (by simp))))))))
        · exact (v32_drop_zero hz).symm
        · rw [v32_drop_zero hz, v32_take_succ, List.length_take, Nat.min_eq_left hi, Nat.add_sub_cancel]
          have h6 := ok32_rd h i
          have h7 : H i ≤ H i * (rd g i).toNat := Nat.le_mul_of_pos_right _ (by omega)
          omega
  obtain ⟨r, h1, h2⟩ := go g.length (Nat.le_refl _) (by rw [List.drop_length, v32_nil])
  exact ⟨r, Ev_in h1, h2⟩
theorem halves_l {l : List Int} {cp : Int} (h : ok l) (hl : l.length ≤ 17592186044416) (hcp : cp = ((2 * l.length : Nat) : Int)) (d : Nat) : ∀ (i : Nat) (acc : List Int), i + d = l.length → acc.length = 2 * i → ok32 acc → v32 acc = val (l.take i) →
    ∃ r, Ev (fun k m _ => abacusref01_halves.l117 k m l (i : Int) acc cp) r ∧ Dg r (val l) := by
  induction d with
  | zero =>
    intro i acc hi hla ha hv
    obtain rfl : i = l.length := by omega
    rw [List.take_length] at hv
    obtain ⟨r, h1, h2⟩ := halves_trim (cp := cp) ha (by omega)
    rw [hv] at h2
    refine ⟨r, Ev_succ ?_, h2⟩
    simp only [abacusref01_halves.l117, abacusref01_halves.b117, ln_eq]
    exact Ev_neg (by omega) h1
  | succ d ih =>
    intro i acc hi hla ha hv
    obtain ⟨x, hx⟩ := nat_of (ok_rd h (i : Int)).1
    have hx2 := (ok_rd h (i : Int)).2
    rw [hx] at hx2
    have e1 : wrap64 ((i : Int) + 1) = ((i + 1 : Nat) : Int) := by unfold wrap64; omega
    have e2 : (x : Int) / 4294967296 = ((x / 4294967296 : Nat) : Int) := by omega
    obtain ⟨r, h1, h2⟩ := ih (i + 1) (acc ++ [((x % 4294967296 : Nat) : Int)] ++ [((x / 4294967296 : Nat) : Int)]) (by omega) (by simp; omega) (ok32_snoc (ok32_snoc ha (by omega)) (by omega)) (by
      rw [v32_snoc, v32_snoc, hv, val_take_succ, List.length_append, List.length_cons, List.length_nil, H_succ, hx, hla, ← B_H, Int.toNat_natCast, Int.toNat_natCast, Int.toNat_natCast]
      have e5 : 4294967296 * B i * (x / 4294967296) = B i * (4294967296 * (x / 4294967296)) := by rw [Nat.mul_comm 4294967296, Nat.mul_assoc]
      rw [e5, Nat.add_assoc, ← Nat.mul_add]
      congr 2
      omega)
    refine ⟨r, Ev_succ ?_, h2⟩
    simp only [abacusref01_halves.l117, abacusref01_halves.b117, ln_eq, hx, bit_32 (show x < 18446744073709551616 by omega), e1, e2]
    exact Ev_pos (by omega) (Ev_pos (by omega) (Ev_pos (by omega) (Ev_pos (by simp; omega) (Ev_pos (by omega) (Ev_pos (by omega) (Ev_pos (by simp; omega) h1))))))
/-- A list as a call gets it: its number may be told by few limbs. -/
structure Sz (l : List Int) : Prop where
  len : l.length ≤ 17592186044416
  num : val l < B 549755813888
theorem Sz_len {l : List Int} (h : ok l) (hl : l.length ≤ 549755813888) : Sz l := ⟨by omega, Nat.lt_of_lt_of_le (val_lt h) (B_mono hl)⟩
theorem halves_evS {l : List Int} (h : ok l) (hl : Sz l) : ∃ g, Ev (fun k _ _ => abacusref01_halves.f k l) g ∧ Dg g (val l) ∧ g.length ≤ 1099511627776 := by
  obtain ⟨r, h1, h2⟩ := halves_l h hl.len rfl l.length 0 [] (by omega) rfl ok32_nil (by rw [v32_nil, List.take_zero, val_nil])
  refine ⟨r, ?_, h2, h2.le (m := 1099511627776) (by rw [show 1099511627776 = 2 * 549755813888 from rfl, ← B_H]; exact hl.num)⟩
  have hl := hl.len
  simp only [abacusref01_halves.f, abacusref01_halves.b0, ln_eq]
  have w : wrap64 (2 * (l.length : Int)) = ((2 * l.length : Nat) : Int) := by unfold wrap64; omega
  rw [w]
  exact Ev_pos (by omega) (Ev_pos (by omega) (Ev_in h1))
end Go.Proofs.YtlnfgcnagfdliaaDoor.R1
