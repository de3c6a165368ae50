import Derived.Test.YtlnfgcnagfdliaaDoorQNat1
import Derived.Test.YtlnfgcnagfdliaaDoorQBits
import Derived.Test.YtlnfgcnagfdliaaDoorQNat2
/- What the first reference computes, by its digits of 32 bits. Conditions: lists of limbs below 2^64, of lengths that a slice has. -/
namespace Go.Proofs.YtlnfgcnagfdliaaDoor.R1
open Go.RowKit Go.Proofs.YtlnfgcnagfdliaaDoor.Lib Go.Proofs.YtlnfgcnagfdliaaDoor.LibB Go.Proofs.YtlnfgcnagfdliaaDoor.F Go.Proofs.YtlnfgcnagfdliaaDoor.Nat1 Go.Proofs.YtlnfgcnagfdliaaDoor.Bits
open Go.Proofs.YtlnfgcnagfdliaaDoorA (rd ln ln_eq mx mn shl shr wr wr_eq)
set_option linter.unusedVariables false
set_option linter.unusedSimpArgs false
def H (m : Nat) : Nat := 4294967296 ^ m
theorem H_zero : H 0 = 1 := rfl
theorem H_succ (m : Nat) : H (m + 1) = 4294967296 * H m := by unfold H; rw [Nat.pow_succ, Nat.mul_comm]
theorem H_add (m n : Nat) : H (m + n) = H m * H n := by unfold H; exact Nat.pow_add ..
theorem H_pos (m : Nat) : 0 < H m := by unfold H; exact Nat.pow_pos (by omega)
theorem H_mono {m n : Nat} (h : m ≤ n) : H m ≤ H n := by unfold H; exact Nat.pow_le_pow_right (by omega) h
attribute [irreducible] H
def ok32 (l : List Int) : Prop := ∀ x ∈ l, 0 ≤ x ∧ x < 4294967296
theorem ok32_nil : ok32 [] := fun x h => by simp at h
theorem ok32_cons {x : Int} {l : List Int} : ok32 (x :: l) ↔ (0 ≤ x ∧ x < 4294967296) ∧ ok32 l := by
  constructor
  · intro h
    exact ⟨h x (by simp), fun y hy => h y (by simp [hy])⟩
  · rintro ⟨h1, h2⟩ y hy
    rcases List.mem_cons.1 hy with rfl | hy
    · exact h1
    · exact h2 y hy
theorem ok32_take {l : List Int} (h : ok32 l) (n : Nat) : ok32 (l.take n) := fun x hx => h x (List.mem_of_mem_take hx)
theorem ok32_append {l m : List Int} (h : ok32 l) (k : ok32 m) : ok32 (l ++ m) := fun x hx => (List.mem_append.1 hx).elim (h x) (k x)
theorem ok32_replicate (n : Nat) : ok32 (List.replicate n 0) := fun x hx => by
  rw [(List.mem_replicate.1 hx).2]; omega
theorem ok32_set {l : List Int} (h : ok32 l) (i : Nat) {x : Int} (h0 : 0 ≤ x) (h1 : x < 4294967296) : ok32 (l.set i x) := by
  intro y hy
  rcases List.mem_or_eq_of_mem_set hy with hy | rfl
  · exact h y hy
  · exact ⟨h0, h1⟩
theorem ok32_rd {l : List Int} (h : ok32 l) (i : Int) : 0 ≤ rd l i ∧ rd l i < 4294967296 := by
  unfold rd
  rw [List.getD_eq_getElem?_getD]
  rcases Nat.lt_or_ge i.toNat l.length with hi | hi
  · rw [List.getElem?_eq_getElem hi, Option.getD_some]
    exact h _ (List.getElem_mem hi)
  · rw [List.getElem?_eq_none hi, Option.getD_none]
    omega
def v32 : List Int → Nat
  | [] => 0
  | x :: l => x.toNat + 4294967296 * v32 l
theorem v32_nil : v32 [] = 0 := rfl
theorem v32_cons (x : Int) (l : List Int) : v32 (x :: l) = x.toNat + 4294967296 * v32 l := rfl
attribute [irreducible] v32
theorem v32_append (l m : List Int) : v32 (l ++ m) = v32 l + H l.length * v32 m := by
  induction l with
  | nil => simp [v32_nil, H_zero]
  | cons x l ih =>
    rw [List.cons_append, v32_cons, ih, v32_cons, List.length_cons, H_succ, Nat.mul_add, Nat.mul_assoc, Nat.add_assoc]
theorem v32_replicate (n : Nat) : v32 (List.replicate n 0) = 0 := by
  induction n with
  | zero => exact v32_nil
  | succ n ih => rw [List.replicate_succ, v32_cons, ih]; rfl
theorem v32_lt {l : List Int} (h : ok32 l) : v32 l < H l.length := by
  induction l with
  | nil => rw [v32_nil]; exact H_pos _
  | cons x l ih =>
    obtain ⟨h1, h2⟩ := ok32_cons.1 h
    have := ih h2
    rw [v32_cons, List.length_cons, H_succ]
    omega
theorem v32_split (l : List Int) (i : Nat) : v32 l = v32 (l.take i) + H (min i l.length) * v32 (l.drop i) := by
  have := v32_append (l.take i) (l.drop i)
  rwa [List.take_append_drop, List.length_take] at this
theorem v32_take_succ (l : List Int) (i : Nat) : v32 (l.take (i + 1)) = v32 (l.take i) + H i * (rd l (i : Int)).toNat := by
  rw [rd_nat]
  rcases Nat.lt_or_ge i l.length with h | h
  · rw [List.take_succ_eq_append_getElem h, v32_append, List.length_take, Nat.min_eq_left (Nat.le_of_lt h), List.getD_eq_getElem?_getD, List.getElem?_eq_getElem h]
    simp [v32_cons, v32_nil]
  · rw [List.take_of_length_le (by omega), List.take_of_length_le h, List.getD_eq_getElem?_getD, List.getElem?_eq_none h]
    simp
theorem v32_drop_cons (l : List Int) (i : Nat) (h : i < l.length) : v32 (l.drop i) = (rd l (i : Int)).toNat + 4294967296 * v32 (l.drop (i + 1)) := by
  rw [List.drop_eq_getElem_cons h, v32_cons, rd_nat, List.getD_eq_getElem?_getD, List.getElem?_eq_getElem h, Option.getD_some]
theorem v32_set (l : List Int) (i : Nat) (x : Int) (h : i < l.length) : v32 (l.set i x) + H i * (rd l (i : Int)).toNat = v32 l + H i * x.toNat := by
  induction l generalizing i with
  | nil => simp at h
  | cons y l ih =>
    cases i with
    | zero => simp only [List.set_cons_zero, v32_cons, H_zero, rd_nat]; simp; omega
    | succ i =>
      have h2 := ih i (by simpa using h)
      have hr : rd (y :: l) ((i + 1 : Nat) : Int) = rd l (i : Int) := by rw [rd_nat, rd_nat]; simp
      rw [hr, List.set_cons_succ, v32_cons, v32_cons, H_succ, Nat.mul_assoc, Nat.mul_assoc]
      omega
theorem v32_drop_zero {l : List Int} {i : Nat} (h : v32 (l.drop i) = 0) : v32 l = v32 (l.take i) := by
  have := v32_split l i
  rw [h] at this
  simpa using this

theorem H_two (m : Nat) : H m = 2 ^ (32 * m) := by unfold H; rw [Nat.pow_mul]
theorem B_H (m : Nat) : B m = H (2 * m) := by rw [B_two, H_two]; congr 1; omega
/-- Digits of n without zeros at the high end. -/
structure Dg (g : List Int) (n : Nat) : Prop where
  dig : ok32 g
  v : v32 g = n
  top : g.length ≠ 0 → H (g.length - 1) ≤ n
theorem Dg.len0 {g : List Int} {n : Nat} (h : Dg g n) : g.length = 0 ↔ n = 0 := by
  constructor
  · intro h0
    rw [← h.v, List.eq_nil_of_length_eq_zero h0, v32_nil]
  · intro h0
    refine Decidable.byContradiction fun k => ?_
    have := h.top k
    have := H_pos (g.length - 1)
    omega
theorem Dg.le {g : List Int} {n m : Nat} (h : Dg g n) (hn : n < H m) : g.length ≤ m := by
  refine Nat.le_of_not_lt fun k => ?_
  have := h.top (by omega)
  have := H_mono (show m ≤ g.length - 1 by omega)
  omega
theorem v32_snoc (l : List Int) (x : Int) : v32 (l ++ [x]) = v32 l + H l.length * x.toNat := by rw [v32_append, v32_cons, v32_nil]; simp
theorem val_snoc (l : List Int) (x : Int) : val (l ++ [x]) = val l + B l.length * x.toNat := by rw [val_append, val_cons, val_nil]; simp
theorem bit_32 {n : Nat} (h : n < 18446744073709551616) : Go.bits .and .u64 (n : Int) 4294967295 = ((n % 4294967296 : Nat) : Int) := by
  rw [show (4294967295 : Int) = ((2 ^ 32 - 1 : Nat) : Int) from rfl, u64_and_nat _ _ (by omega) (by omega), Nat.and_two_pow_sub_one_eq_mod]
theorem nat_of {x : Int} (h : 0 ≤ x) : ∃ n : Nat, x = (n : Int) := ⟨x.toNat, by omega⟩
theorem wu {n : Nat} (h : n < 18446744073709551616) : IntKind.u64.wrap (n : Int) = (n : Int) := by rw [IntKind.wrap_u64]; omega
theorem ok32_snoc {l : List Int} {n : Nat} (h : ok32 l) (hn : n < 4294967296) : ok32 (l ++ [(n : Int)]) := ok32_append h (fun x hx => by simp at hx; subst hx; omega)
theorem ok_snoc {l : List Int} {n : Nat} (h : ok l) (hn : n < 18446744073709551616) : ok (l ++ [(n : Int)]) := ok_append h (fun x hx => by simp at hx; subst hx; omega)
theorem trim_copy {l : List Int} {n : Nat} (hn : n ≤ l.length) (hl : l.length ≤ 8796093022208) (d : Nat) : ∀ i, i + d = n → Ev (fun k m _ => abacusref01_Trim.l501 k m l (n : Int) (i : Int) (l.take i)) (l.take n) := by
  induction d with
  | zero =>
    intro i hi
    obtain rfl : i = n := by omega
    refine Ev_succ ?_
    simp only [abacusref01_Trim.l501, abacusref01_Trim.b501, ln_eq]
    exact Ev_neg (by omega) (Ev.now _)
  | succ d ih =>
    intro i hi
    refine Ev_succ ?_
    simp only [abacusref01_Trim.l501, abacusref01_Trim.b501, ln_eq]
    have e : wrap64 ((i : Int) + 1) = ((i + 1 : Nat) : Int) := by unfold wrap64; omega
    have ht : (l.take i).length = i := by rw [List.length_take]; omega
    have hs : l.take i ++ [rd l (i : Int)] = l.take (i + 1) := by
      rw [List.take_succ_eq_append_getElem (by omega), rd_nat, List.getD_eq_getElem?_getD, List.getElem?_eq_getElem (by omega)]
      rfl
    rw [e, hs]
    exact Ev_pos (by omega) (Ev_pos (by omega) (Ev_pos (by omega) (Ev_pos (by omega) (ih (i + 1) (by omega)))))
theorem Trim_ev {l : List Int} (h : ok l) (hl : l.length ≤ 8796093022208) : Ev (fun k _ _ => abacusref01_Trim.f k l) (lim (val l)) := by
  simp only [abacusref01_Trim.f, abacusref01_Trim.b0, ln_eq]
  refine Ev_in (g := fun k m _ => abacusref01_Trim.l57 k m l l.length) ?_
  have copy (n : Nat) (hn : n ≤ l.length) : Ev (fun k _ _ => abacusref01_Trim.l15 k l (n : Int)) (l.take n) := by
    simp only [abacusref01_Trim.l15, abacusref01_Trim.b15]
    have := trim_copy hn hl n 0 (by omega)
    exact Ev_pos (by omega) (Ev_pos (by omega) (Ev_in this))
  have go : ∀ i, i ≤ l.length → val (l.drop i) = 0 → Ev (fun k m _ => abacusref01_Trim.l57 k m l (i : Int)) (lim (val l)) := by
    intro i
    induction i with
    | zero =>
      intro hi hz
      have hv : val l = 0 := by simpa using hz
      refine Ev_succ ?_
      simp only [abacusref01_Trim.l57, abacusref01_Trim.b57, ln_eq]
      have := copy 0 (by omega)
      rw [List.take_zero] at this
      rw [hv, lim_zero]
      exact Ev_neg (by omega) this
    | succ i ih =>
      intro hi hz
      have e : wrap64 (((i + 1 : Nat) : Int) - 1) = (i : Int) := by unfold wrap64; omega
      refine Ev_succ ?_
      simp only [abacusref01_Trim.l57, abacusref01_Trim.b57, ln_eq, e]
      refine Ev_pos (by omega) (Ev_pos (by omega) (Ev_pos (by omega) ?_))
      by_cases hr : rd l i = 0
      · refine Ev_pos hr (ih (by omega) ?_)
        rw [val_drop_cons l i (by omega), hz, hr]; rfl
      · have h1 := val_drop_zero hz
        have h2 := val_take_succ l i
        have h3 := val_lt (ok_take h (i + 1))
        rw [List.length_take, Nat.min_eq_left hi, ← h1] at h3
        have h4 := (lim_len_le (val l) (i + 1)).2 h3
        have h5 := lim_len_le (val l) i
        have h6 := ok_rd h i
        have h7 : B i ≤ B i * (rd l i).toNat := Nat.le_mul_of_pos_right _ (by omega)
        have h8 : (lim (val l)).length = i + 1 := by omega
        have := copy (i + 1) (by omega)
        rw [← h8, take_lim h, h8] at this
        exact Ev_neg hr this
  exact go l.length (Nat.le_refl _) (by rw [List.drop_length, val_nil])
theorem limbs_l {g : List Int} (h : ok32 g) (hl : g.length ≤ 4398046511104) (d : Nat) : ∀ (i : Nat) (acc : List Int), g.length ≤ i + 2 * d → i = 2 * acc.length → acc.length ≤ 4398046511104 → ok acc → val acc + B acc.length * v32 (g.drop i) = v32 g → acc.length ≤ g.length →
    Ev (fun k m _ => abacusref01_limbs.l117 k m g (i : Int) acc) (lim (v32 g)) := by
  have fin' (acc : List Int) (ha : ok acc) (hv : val acc = v32 g) (hla : acc.length ≤ 4398046511104) : Ev (fun k _ _ => abacusref01_limbs.l15 k acc) (lim (v32 g)) := by
    simp only [abacusref01_limbs.l15, abacusref01_limbs.b15]
    rw [← hv]
    exact Ev.bind (Trim_ev ha (by omega)) (Ev.now _)
  have stop (i : Nat) (acc : List Int) (hi : g.length ≤ i) (ha : ok acc) (hla : acc.length ≤ 4398046511104) (hv : val acc + B acc.length * v32 (g.drop i) = v32 g) : Ev (fun k m _ => abacusref01_limbs.l117 k m g (i : Int) acc) (lim (v32 g)) := by
    refine Ev_succ ?_
    simp only [abacusref01_limbs.l117, abacusref01_limbs.b117, ln_eq]
    rw [List.drop_eq_nil_of_le hi, v32_nil, Nat.mul_zero, Nat.add_zero] at hv
    exact Ev_neg (by omega) (fin' acc ha hv hla)
  induction d with
  | zero =>
    intro i acc hd hi hla ha hv hlg
    exact stop i acc (by omega) ha hla hv
  | succ d ih =>
    intro i acc hd hi hla ha hv hlg
    by_cases hlt : g.length ≤ i
    · exact stop i acc hlt ha hla hv
    refine Ev_succ ?_
    simp only [abacusref01_limbs.l117, abacusref01_limbs.b117, ln_eq]
    have e1 : wrap64 ((i : Int) + 1) = ((i + 1 : Nat) : Int) := by unfold wrap64; omega
    have e2 : wrap64 ((i : Int) + 2) = ((i + 2 : Nat) : Int) := by unfold wrap64; omega
    obtain ⟨x, hx⟩ := nat_of (ok32_rd h (i : Int)).1
    have hx2 := (ok32_rd h (i : Int)).2
    rw [hx] at hx2
    have d1 := v32_drop_cons g i (by omega)
    rw [hx, Int.toNat_natCast] at d1
    simp only [e1, e2, hx]
    refine Ev_pos (by omega) (Ev_pos (by omega) (Ev_pos (by omega) ?_))
    by_cases hn : i + 1 < g.length
    · obtain ⟨y, hy⟩ := nat_of (ok32_rd h ((i + 1 : Nat) : Int)).1
      have hy2 := (ok32_rd h ((i + 1 : Nat) : Int)).2
      rw [hy] at hy2
      have d2 := v32_drop_cons g (i + 1) hn
      rw [hy, Int.toNat_natCast] at d2
      have w1 : IntKind.u64.wrap ((y : Int) * 4294967296) = ((y * 4294967296 : Nat) : Int) := by rw [IntKind.wrap_u64]; omega
      have w2 : IntKind.u64.wrap ((x : Int) + ((y * 4294967296 : Nat) : Int)) = ((x + y * 4294967296 : Nat) : Int) := by rw [IntKind.wrap_u64]; omega
      simp only [hy, w1, w2]
      refine Ev_pos (by omega) (Ev_pos (by omega) (Ev_pos (by omega) (Ev_pos (by omega) ?_)))
      refine ih (i + 2) _ (by omega) (by simp; omega) (by simp; omega) (ok_snoc ha (by omega)) ?_ (by simp; omega)
      rw [val_snoc, List.length_append, List.length_cons, List.length_nil, B_succ, Int.toNat_natCast, ← hv, d1, d2]
      generalize v32 (g.drop (i + 1 + 1)) = R
      have e5 : 18446744073709551616 * B acc.length * R = B acc.length * (18446744073709551616 * R) := by rw [Nat.mul_right_comm, Nat.mul_comm]
      rw [e5, Nat.add_assoc, ← Nat.mul_add]
      congr 2
      omega
    · refine Ev_neg (by omega) (Ev_pos (by omega) ?_)
      refine ih (i + 2) _ (by omega) (by simp; omega) (by simp; omega) (ok_snoc ha (by omega)) ?_ (by simp; omega)
      have d3 : g.drop (i + 1) = [] := List.drop_eq_nil_of_le (by omega)
      have d4 : g.drop (i + 2) = [] := List.drop_eq_nil_of_le (by omega)
      rw [d3, v32_nil, Nat.mul_zero, Nat.add_zero] at d1
      rw [val_snoc, d4, v32_nil, Nat.mul_zero, Nat.add_zero, Int.toNat_natCast, ← hv, d1]
theorem limbs_ev {g : List Int} (h : ok32 g) (hl : g.length ≤ 4398046511104) : Ev (fun k _ _ => abacusref01_limbs.f k g) (lim (v32 g)) := by
  simp only [abacusref01_limbs.f, abacusref01_limbs.b0, ln_eq]
  have w : wrap64 (Int.tdiv (wrap64 ((g.length : Int) + 1)) 2) = (((g.length + 1) / 2 : Nat) : Int) := by
    rw [show wrap64 ((g.length : Int) + 1) = ((g.length + 1 : Nat) : Int) by unfold wrap64; omega, Int.tdiv_eq_ediv_of_nonneg (by omega)]
    unfold wrap64; omega
  rw [w]
  have := limbs_l h hl g.length 0 [] (by omega) rfl (by simp) ok_nil (by rw [val_nil, List.length_nil, B_zero]; simp) (by simp)
  exact Ev_pos (by omega) (Ev_pos (by omega) (Ev_in this))
theorem halves_trim {g : List Int} {cp : Int} (h : ok32 g) (hl : g.length ≤ 35184372088832) : ∃ r, Ev (fun k _ _ => abacusref01_halves.l15 k g cp) r ∧ Dg r (v32 g) := by
  simp only [abacusref01_halves.l15, abacusref01_halves.b15, ln_eq]
  have go : ∀ i : Nat, i ≤ g.length → v32 (g.drop i) = 0 → ∃ r, Ev (fun k m _ => abacusref01_halves.l249 k m (i : Int) g cp) r ∧ Dg r (v32 g) := by
    intro i
    induction i with
    | zero =>
      intro hi hz
      have hv : v32 g = 0 := by simpa using hz
      refine ⟨[], ?_, ⟨ok32_nil, by rw [v32_nil, hv], fun h => absurd rfl h⟩⟩
      refine Ev_succ ?_
      simp only [abacusref01_halves.l249, abacusref01_halves.b249, ln_eq]
      exact Ev_neg (by omega) (Ev_pos (by omega) (Ev_pos (by omega) (Ev_bind_some (Ev_some (by simp)))))
    | succ i ih =>
      intro hi hz
      have e : wrap64 (((i + 1 : Nat) : Int) - 1) = (i : Int) := by unfold wrap64; omega
      by_cases hr : rd g i = 0
      · obtain ⟨r, h1, h2⟩ := ih (by omega) (by rw [v32_drop_cons g i (by omega), hz, hr]; rfl)
        refine ⟨r, ?_, h2⟩
        refine Ev_succ ?_
        simp only [abacusref01_halves.l249, abacusref01_halves.b249, ln_eq, e]
        exact Ev_pos (by omega) (Ev_pos (by omega) (Ev_pos (by omega) (Ev_pos hr h1)))
      · refine ⟨g.take (i + 1), ?_, ⟨ok32_take h _, ?_, fun _ => ?_⟩⟩
        · refine Ev_succ ?_
          simp only [abacusref01_halves.l249, abacusref01_halves.b249, ln_eq, e]
          exact Ev_pos (by omega) (Ev_pos (by omega) (Ev_pos (by omega) (Ev_neg hr (Ev_pos (by omega) (Ev_pos (by omega) (Ev_bind_some (Ev_some (by simp))))))))
        · exact (v32_drop_zero hz).symm
        · rw [v32_drop_zero hz, v32_take_succ, List.length_take, Nat.min_eq_left hi, Nat.add_sub_cancel]
          have h6 := ok32_rd h i
          have h7 : H i ≤ H i * (rd g i).toNat := Nat.le_mul_of_pos_right _ (by omega)
          omega
  obtain ⟨r, h1, h2⟩ := go g.length (Nat.le_refl _) (by rw [List.drop_length, v32_nil])
  exact ⟨r, Ev_in h1, h2⟩
theorem halves_l {l : List Int} {cp : Int} (h : ok l) (hl : l.length ≤ 17592186044416) (hcp : cp = ((2 * l.length : Nat) : Int)) (d : Nat) : ∀ (i : Nat) (acc : List Int), i + d = l.length → acc.length = 2 * i → ok32 acc → v32 acc = val (l.take i) →
    ∃ r, Ev (fun k m _ => abacusref01_halves.l117 k m l (i : Int) acc cp) r ∧ Dg r (val l) := by
  induction d with
  | zero =>
    intro i acc hi hla ha hv
    obtain rfl : i = l.length := by omega
    rw [List.take_length] at hv
    obtain ⟨r, h1, h2⟩ := halves_trim (cp := cp) ha (by omega)
    rw [hv] at h2
    refine ⟨r, Ev_succ ?_, h2⟩
    simp only [abacusref01_halves.l117, abacusref01_halves.b117, ln_eq]
    exact Ev_neg (by omega) h1
  | succ d ih =>
    intro i acc hi hla ha hv
    obtain ⟨x, hx⟩ := nat_of (ok_rd h (i : Int)).1
    have hx2 := (ok_rd h (i : Int)).2
    rw [hx] at hx2
    have e1 : wrap64 ((i : Int) + 1) = ((i + 1 : Nat) : Int) := by unfold wrap64; omega
    have e2 : (x : Int) / 4294967296 = ((x / 4294967296 : Nat) : Int) := by omega
    obtain ⟨r, h1, h2⟩ := ih (i + 1) (acc ++ [((x % 4294967296 : Nat) : Int)] ++ [((x / 4294967296 : Nat) : Int)]) (by omega) (by simp; omega) (ok32_snoc (ok32_snoc ha (by omega)) (by omega)) (by
      rw [v32_snoc, v32_snoc, hv, val_take_succ, List.length_append, List.length_cons, List.length_nil, H_succ, hx, hla, ← B_H, Int.toNat_natCast, Int.toNat_natCast, Int.toNat_natCast]
      have e5 : 4294967296 * B i * (x / 4294967296) = B i * (4294967296 * (x / 4294967296)) := by rw [Nat.mul_comm 4294967296, Nat.mul_assoc]
      rw [e5, Nat.add_assoc, ← Nat.mul_add]
      congr 2
      omega)
    refine ⟨r, Ev_succ ?_, h2⟩
    simp only [abacusref01_halves.l117, abacusref01_halves.b117, ln_eq, hx, bit_32 (show x < 18446744073709551616 by omega), e1, e2]
    exact Ev_pos (by omega) (Ev_pos (by omega) (Ev_pos (by omega) (Ev_pos (by simp; omega) (Ev_pos (by omega) (Ev_pos (by omega) (Ev_pos (by simp; omega) h1))))))
/-- A list as a call gets it: its number may be told by few limbs. -/
structure Sz (l : List Int) : Prop where
  len : l.length ≤ 17592186044416
  num : val l < B 549755813888
theorem Sz_len {l : List Int} (h : ok l) (hl : l.length ≤ 549755813888) : Sz l := ⟨by omega, Nat.lt_of_lt_of_le (val_lt h) (B_mono hl)⟩
theorem halves_evS {l : List Int} (h : ok l) (hl : Sz l) : ∃ g, Ev (fun k _ _ => abacusref01_halves.f k l) g ∧ Dg g (val l) ∧ g.length ≤ 1099511627776 := by
  obtain ⟨r, h1, h2⟩ := halves_l h hl.len rfl l.length 0 [] (by omega) rfl ok32_nil (by rw [v32_nil, List.take_zero, val_nil])
  refine ⟨r, ?_, h2, h2.le (m := 1099511627776) (by rw [show 1099511627776 = 2 * 549755813888 from rfl, ← B_H]; exact hl.num)⟩
  have hl := hl.len
  simp only [abacusref01_halves.f, abacusref01_halves.b0, ln_eq]
  have w : wrap64 (2 * (l.length : Int)) = ((2 * l.length : Nat) : Int) := by unfold wrap64; omega
  rw [w]
  exact Ev_pos (by omega) (Ev_pos (by omega) (Ev_in h1))
end Go.Proofs.YtlnfgcnagfdliaaDoor.R1
/- What the first reference's calls of any size compute: sums, differences, products, shifts, comparisons, bits. Conditions: lists of limbs below 2^64, of lengths that a slice has. -/
namespace Go.Proofs.YtlnfgcnagfdliaaDoor.R1
open Go.RowKit Go.Proofs.YtlnfgcnagfdliaaDoor.Lib Go.Proofs.YtlnfgcnagfdliaaDoor.LibB Go.Proofs.YtlnfgcnagfdliaaDoor.F Go.Proofs.YtlnfgcnagfdliaaDoor.Nat1 Go.Proofs.YtlnfgcnagfdliaaDoor.Nat2 Go.Proofs.YtlnfgcnagfdliaaDoor.Bits
open Go.Proofs.YtlnfgcnagfdliaaDoorA (rd ln ln_eq mx mn shl shr wr wr_eq)
set_option linter.unusedVariables false
set_option linter.unusedSimpArgs false
theorem v32_take_over {l : List Int} {i : Nat} (h : l.length ≤ i) : v32 (l.take i) = v32 l := by rw [List.take_of_length_le h]
theorem nlt {a b : Nat} (h : a < b) : (a : Int) < (b : Int) := by omega
theorem n0 (a : Nat) : (0 : Int) ≤ (a : Int) := by omega
theorem nnlt {a b : Nat} (h : ¬ a < b) : ¬ (a : Int) < (b : Int) := by omega
theorem wadd {a b c : Nat} (h : a + b = c) (hc : c < 18446744073709551616) : IntKind.u64.wrap ((a : Int) + (b : Int)) = (c : Int) := by rw [IntKind.wrap_u64]; omega
theorem wone {i n : Nat} (h : i < n) (hn : n ≤ 9223372036854775807) : wrap64 ((i : Int) + 1) = ((i + 1 : Nat) : Int) := by unfold wrap64; omega
theorem wjoin {i j n : Nat} (h : i + j < n) (hn : n ≤ 9223372036854775807) : wrap64 ((i : Int) + (j : Int)) = ((i + j : Nat) : Int) := by unfold wrap64; omega
theorem high (n : Nat) : (n : Int) / 4294967296 = ((n / 4294967296 : Nat) : Int) := by omega
theorem modlt (n : Nat) : ((n % 4294967296 : Nat) : Int) < 4294967296 := by omega
theorem lin2 {P' P Ho Hr Hc HK HM S T : Nat} (h1 : P' + Ho = P + Hr) (h2 : P + Hc = S + T) (h3 : Hr + HK = HM + Ho + Hc) : P' + HK = S + (T + HM) := by omega
theorem Times_evS {a b : List Int} (ha : ok a) (hb : ok b) (hla : Sz a) (hlb : Sz b) : Ev (fun k _ _ => abacusref01_Times.f k a b) (lim (val a * val b)) := by
  obtain ⟨x, ex, dx, lx⟩ := halves_evS ha hla
  obtain ⟨y, ey, dy, ly⟩ := halves_evS hb hlb
  simp only [abacusref01_Times.f, abacusref01_Times.b0, ln_eq]
  refine Ev.bind ex (Ev.bind ey ?_)
  by_cases x0 : x.length = 0
  · rw [dx.len0.1 x0, Nat.zero_mul, lim_zero]
    exact Ev_pos (by omega) (Ev.now _)
  refine Ev_neg (by omega) ?_
  by_cases y0 : y.length = 0
  · rw [dy.len0.1 y0, Nat.mul_zero, lim_zero]
    exact Ev_pos (by omega) (Ev.now _)
  have w : wrap64 ((x.length : Int) + (y.length : Int)) = ((x.length + y.length : Nat) : Int) := by unfold wrap64; omega
  rw [w, Int.toNat_natCast]
  refine Ev_neg (by omega) (Ev_pos (by omega) (Ev_pos (by omega) (Ev_in (g := fun k m _ => abacusref01_Times.l1013 k m x y ((0 : Nat) : Int) (List.replicate (x.length + y.length) (0 : Int))) ?_)))
  -- one row
  have row (i : Nat) (hi : i < x.length) (S : Nat) (R : Nat) (next : ∀ p : List Int, p.length = x.length + y.length → ok32 p → Aside0 (∀ q, i + 1 + y.length ≤ q → rd p (q : Int) = 0) → Aside0 (v32 p = S + H i * ((rd x (i : Int)).toNat * v32 y)) → Ev (fun k m _ => abacusref01_Times.l1013 k m x y ((i + 1 : Nat) : Int) p) (lim (val a * val b))) (d : Nat) :
      ∀ (j c : Nat) (p : List Int), j + d = y.length → p.length = x.length + y.length → ok32 p → c < 4294967296 → Aside0 (∀ q, i + y.length ≤ q → rd p (q : Int) = 0) → Aside0 (v32 p + H (i + j) * c = S + H i * ((rd x (i : Int)).toNat * v32 (y.take j))) →
      Ev (fun k m q => abacusref01_Times.l259221 k (abacusref01_Times.l1013 k m) q x y (i : Int) (c : Int) (j : Int) p) (lim (val a * val b)) := by
    induction d with
    | zero =>
      intro j c p hj hl hk hc hz hv
      have hi2 : i + y.length < p.length := by omega
      have hi3 : i + y.length < 17592186044416 := by omega
      obtain rfl : j = y.length := by omega
      refine Ev_succ2 ?_
      simp only [abacusref01_Times.l259221, abacusref01_Times.b259221, abacusref01_Times.l32403, abacusref01_Times.b32403, ln_eq]
      have w1 : wrap64 ((i : Int) + (y.length : Int)) = ((i + y.length : Nat) : Int) := wjoin hi3 (by omega)
      have w2 : wrap64 ((i : Int) + 1) = ((i + 1 : Nat) : Int) := wone (n := 17592186044416) (by omega) (by omega)
      rw [w1, w2, Int.toNat_natCast]
      refine Ev_neg (nnlt (Nat.lt_irrefl _)) (Ev_pos (n0 _) (Ev_pos (nlt hi2) (next _ (by simp [hl]) (ok32_set hk _ (n0 c) (by clear hv hz; omega)) ⟨fun q hq => ?_⟩ ⟨?_⟩)))
      · rw [rd_set_ne _ _ _ _ (by omega)]; exact hz.out q (by omega)
      · have hs := v32_set p (i + y.length) (c : Int) hi2
        have hv := hv.out
        rw [List.take_length] at hv
        rw [hz.out _ (Nat.le_refl _), Int.toNat_natCast, show Int.toNat 0 = 0 from rfl, Nat.mul_zero, Nat.add_zero] at hs
        exact hs.trans hv
    | succ d ih =>
      intro j c p hj hl hk hc hz hv
      have hjy : j < y.length := by omega
      have hij : i + j < p.length := by omega
      have hij3 : i + j < 17592186044416 := by omega
      have hj1 : j + 1 + d = y.length := by omega
      have w1 : wrap64 ((i : Int) + (j : Int)) = ((i + j : Nat) : Int) := wjoin hij3 (by omega)
      have w2 : wrap64 ((j : Int) + 1) = ((j + 1 : Nat) : Int) := wone (n := 17592186044416) (by omega) (by omega)
      obtain ⟨u, hu⟩ := nat_of (ok32_rd dx.dig (i : Int)).1
      have hu2 := (ok32_rd dx.dig (i : Int)).2
      obtain ⟨s, hs⟩ := nat_of (ok32_rd dy.dig (j : Int)).1
      have hs2 := (ok32_rd dy.dig (j : Int)).2
      obtain ⟨o, ho⟩ := nat_of (ok32_rd hk ((i + j : Nat) : Int)).1
      have ho2 := (ok32_rd hk ((i + j : Nat) : Int)).2
      rw [hu] at hu2
      rw [hs] at hs2
      rw [ho] at ho2
      have hm : u * s ≤ 4294967295 * 4294967295 := Nat.mul_le_mul (by clear hj hl hjy hij hij3 hj1; omega) (by clear hj hl hjy hij hij3 hj1; omega)
      obtain ⟨M, hM⟩ : ∃ M, M = u * s := ⟨_, rfl⟩
      rw [← hM] at hm
      have e1 : IntKind.u64.wrap ((u : Int) * (s : Int)) = (M : Int) := by rw [← Int.natCast_mul, ← hM]; exact wu (by clear hj hl hjy hij hij3 hj1; omega)
      have hMoc : M + o + c < 18446744073709551616 := by clear hj hl hjy hij hij3 hj1 hM; omega
      have e2 : IntKind.u64.wrap ((M : Int) + (o : Int)) = ((M + o : Nat) : Int) := wadd rfl (Nat.lt_of_le_of_lt (Nat.le_add_right _ _) hMoc)
      have e3 : IntKind.u64.wrap (((M + o : Nat) : Int) + (c : Int)) = ((M + o + c : Nat) : Int) := wadd rfl hMoc
      refine Ev_succ2 ?_
      simp only [abacusref01_Times.l259221, abacusref01_Times.b259221, ln_eq, w1, w2, hu, hs, ho, e1, e2, e3, bit_32 hMoc, high, Int.toNat_natCast]
      refine Ev_pos (nlt hjy) (Ev_pos (n0 _) (Ev_pos (nlt hi) (Ev_pos (n0 _) (Ev_pos (nlt hjy) (Ev_pos (n0 _) (Ev_pos (nlt hij) (Ev_pos (n0 _) (Ev_pos (nlt hij) ?_))))))))
      refine ih (j + 1) _ _ hj1 (by simp [hl]) (ok32_set hk _ (n0 _) (modlt _)) (Nat.div_lt_of_lt_mul hMoc) ⟨fun q hq => ?_⟩ ⟨?_⟩
      · rw [rd_set_ne _ _ _ _ (Nat.ne_of_lt (Nat.lt_of_lt_of_le (Nat.add_lt_add_left hjy i) hq))]; exact hz.out q hq
      · have hset := v32_set p (i + j) (((M + o + c) % 4294967296 : Nat) : Int) hij
        rw [ho, Int.toNat_natCast, Int.toNat_natCast] at hset
        rw [v32_take_succ, hs, hu, Int.toNat_natCast, Int.toNat_natCast, show i + (j + 1) = i + j + 1 by omega, H_succ]
        have hv := hv.out
        rw [hu, Int.toNat_natCast] at hv
        have e5 : 4294967296 * H (i + j) * ((M + o + c) / 4294967296) = H (i + j) * (4294967296 * ((M + o + c) / 4294967296)) := by rw [Nat.mul_comm 4294967296, Nat.mul_assoc]
        have e6 : H (i + j) * ((M + o + c) % 4294967296) + H (i + j) * (4294967296 * ((M + o + c) / 4294967296)) = H (i + j) * (M + o + c) := by rw [← Nat.mul_add, Nat.mod_add_div]
        have e7 : H i * (u * (v32 (y.take j) + H j * s)) = H i * (u * v32 (y.take j)) + H (i + j) * M := by
          rw [Nat.mul_add, Nat.mul_add, H_add, hM]
          congr 1
          simp only [Nat.mul_assoc, Nat.mul_comm, Nat.mul_left_comm]
        rw [e7, e5]
        rw [Nat.mul_add, Nat.mul_add] at e6
        exact lin2 hset hv e6
  have go (d : Nat) : ∀ (i : Nat) (p : List Int), i + d = x.length → p.length = x.length + y.length → ok32 p → Aside0 (∀ q, i + y.length ≤ q → rd p (q : Int) = 0) → Aside0 (v32 p = v32 (x.take i) * v32 y) →
      Ev (fun k m _ => abacusref01_Times.l1013 k m x y (i : Int) p) (lim (val a * val b)) := by
    induction d with
    | zero =>
      intro i p hi hl hk hz hv
      refine Ev_succ ?_
      simp only [abacusref01_Times.l1013, abacusref01_Times.b1013, abacusref01_Times.l127, abacusref01_Times.b127, ln_eq]
      have := limbs_ev hk (by omega)
      rw [hv.out, v32_take_over (by omega), dx.v, dy.v] at this
      exact Ev_neg (by omega) (Ev.bind this (Ev.now _))
    | succ d ih =>
      intro i p hi hl hk hz hv
      refine Ev_succ ?_
      simp only [abacusref01_Times.l1013, abacusref01_Times.b1013, ln_eq]
      refine Ev_pos (by omega) ?_
      have := row i (by omega) (v32 (x.take i) * v32 y) 0 (fun p' h1 h2 h3 h4 => ih (i + 1) p' (by omega) h1 h2 h3 ⟨by rw [h4.out, v32_take_succ, Nat.add_mul, Nat.mul_assoc]⟩) y.length 0 0 p (by omega) hl hk (by omega) hz ⟨by rw [hv.out]; simp [v32_nil]⟩
      exact Ev_in2 this
  exact go x.length 0 (List.replicate (x.length + y.length) 0) (by omega) (by simp) (ok32_replicate _) ⟨fun q hq => by
    rw [rd_nat, List.getD_eq_getElem?_getD, List.getElem?_replicate]
    split <;> rfl⟩ ⟨by rw [v32_replicate, List.take_zero, v32_nil, Nat.zero_mul]⟩
end Go.Proofs.YtlnfgcnagfdliaaDoor.R1
/- What the first reference's shift and comparison compute. Conditions: lists of limbs below 2^64, of lengths that a slice has. -/
namespace Go.Proofs.YtlnfgcnagfdliaaDoor.R1
open Go.RowKit Go.Proofs.YtlnfgcnagfdliaaDoor.Lib Go.Proofs.YtlnfgcnagfdliaaDoor.LibB Go.Proofs.YtlnfgcnagfdliaaDoor.F Go.Proofs.YtlnfgcnagfdliaaDoor.Nat1 Go.Proofs.YtlnfgcnagfdliaaDoor.Nat2 Go.Proofs.YtlnfgcnagfdliaaDoor.Bits
open Go.Proofs.YtlnfgcnagfdliaaDoorA (rd ln ln_eq mx mn shl shr wr wr_eq)
set_option linter.unusedVariables false
set_option linter.unusedSimpArgs false
theorem v32_zeros (i : Nat) : v32 (List.replicate i 0) = 0 := v32_replicate i
theorem lin4 {A HC S r k m q : Nat} (h1 : A + HC = S) (h2 : r + k = HC + m) (h3 : q = S + m) : A + r + k = q := by omega
theorem wmul2 {x : Nat} (h : x < 9223372036854775808) : IntKind.u64.wrap ((x : Int) * 2) = ((x * 2 : Nat) : Int) := by rw [IntKind.wrap_u64]; omega
theorem two31 {i : Nat} (h : i ≤ 31) : 2 ^ i ≤ 2147483648 := by
  have := Nat.pow_le_pow_right (show 2 > 0 by omega) h
  omega
theorem mcLt {M c : Nat} (h : M ≤ 4294967295 * 2147483648) (hc : c < 4294967296) : M + c < 18446744073709551616 := by omega
theorem Lift_evS {a : List Int} {n : Nat} (ha : ok a) (hla : Sz a) (hn : n ≤ 1099511627776) : Ev (fun k _ _ => abacusref01_Lift.f k a (n : Int)) (lim (val a * 2 ^ n)) := by
  obtain ⟨x, ex, dx, lx⟩ := halves_evS ha hla
  simp only [abacusref01_Lift.f, abacusref01_Lift.b0, ln_eq]
  refine Ev.bind ex ?_
  by_cases x0 : x.length = 0
  · rw [dx.len0.1 x0, Nat.zero_mul, lim_zero]
    exact Ev_pos (by omega) (Ev.now _)
  obtain ⟨q, hq⟩ : ∃ q, q = n / 32 := ⟨_, rfl⟩
  obtain ⟨f, hf⟩ : ∃ f, f = n % 32 := ⟨_, rfl⟩
  have t1 : wrap64 (Int.tdiv (n : Int) 32) = (q : Int) := by rw [Int.tdiv_eq_ediv_of_nonneg (by omega)]; unfold wrap64; omega
  have t2 : Int.tmod (n : Int) 32 = (f : Int) := by rw [Int.tmod_eq_emod_of_nonneg (by omega)]; omega
  have w : wrap64 (wrap64 (wrap64 (Int.tdiv (n : Int) 32) + (x.length : Int)) + 1) = ((q + x.length + 1 : Nat) : Int) := by
    rw [t1, show wrap64 ((q : Int) + (x.length : Int)) = ((q + x.length : Nat) : Int) by unfold wrap64; omega]
    unfold wrap64; omega
  have hf32 : f < 32 := by omega
  have big : q + x.length + 1 ≤ 17592186044416 := by omega
  have bq : q ≤ 34359738368 := by omega
  have hpow : Aside0 (2 ^ n = H q * 2 ^ f) := ⟨by rw [H_two, ← Nat.pow_add]; congr 1; omega⟩
  have hp2 : Aside0 (2 ^ f ≤ 2147483648) := ⟨two31 (by omega)⟩
  rw [w]
  clear w hq hf hn
  refine Ev_neg (by omega) (Ev_pos (by omega) (Ev_pos (by omega) (Ev_in (g := fun k m _ => abacusref01_Lift.l501 k m (n : Int) x 0 (List.replicate 0 (0 : Int))) ?_)))
  -- the digits
  have go (d : Nat) : ∀ (i c : Nat) (acc : List Int), i + d = x.length → acc.length = q + i → c < 4294967296 → ok32 acc → Aside0 (v32 acc + H (q + i) * c = H q * 2 ^ f * v32 (x.take i)) →
      Ev (fun k m _ => abacusref01_Lift.l8181 k m x ((2 ^ f : Nat) : Int) (c : Int) (i : Int) acc) (lim (val a * 2 ^ n)) := by
    induction d with
    | zero =>
      intro i c acc hi hl hc hk hv
      refine Ev_succ ?_
      simp only [abacusref01_Lift.l8181, abacusref01_Lift.b8181, abacusref01_Lift.l1023, abacusref01_Lift.b1023, ln_eq]
      have := limbs_ev (g := acc ++ [(c : Int)]) (ok32_snoc hk hc) (by simp; omega)
      rw [v32_snoc, hl, Int.toNat_natCast, hv.out, v32_take_over (by omega), dx.v, ← hpow.out, Nat.mul_comm] at this
      exact Ev_neg (by omega) (Ev_pos (by omega) (Ev.bind this (Ev.now _)))
    | succ d ih =>
      intro i c acc hi hl hc hk hv
      have hix : i < x.length := by omega
      have hb : acc.length + 1 ≤ 17592186044416 := by omega
      have hd1 : i + 1 + d = x.length := by omega
      have e1 : wrap64 ((i : Int) + 1) = ((i + 1 : Nat) : Int) := wone (n := 17592186044416) (by omega) (by omega)
      obtain ⟨p, hp⟩ := nat_of (ok32_rd dx.dig (i : Int)).1
      have hpl := (ok32_rd dx.dig (i : Int)).2
      rw [hp] at hpl
      obtain ⟨M, hM⟩ : ∃ M, M = p * 2 ^ f := ⟨_, rfl⟩
      have hm : M ≤ 4294967295 * 2147483648 := by rw [hM]; exact Nat.mul_le_mul (Nat.le_of_lt_succ (Int.ofNat_lt.1 hpl)) hp2.out
      have hMc : M + c < 18446744073709551616 := mcLt hm hc
      have e2 : IntKind.u64.wrap ((p : Int) * ((2 ^ f : Nat) : Int)) = (M : Int) := by rw [← Int.natCast_mul, ← hM]; exact wu (Nat.lt_of_le_of_lt (Nat.le_add_right _ _) hMc)
      have e3 : IntKind.u64.wrap ((M : Int) + (c : Int)) = ((M + c : Nat) : Int) := wadd rfl hMc
      refine Ev_succ ?_
      simp only [abacusref01_Lift.l8181, abacusref01_Lift.b8181, ln_eq, hp, e1, e2, e3, bit_32 hMc, high]
      refine Ev_pos (nlt hix) (Ev_pos (n0 i) (Ev_pos (nlt hix) (Ev_pos hb ?_)))
      refine ih (i + 1) _ _ hd1 (by rw [List.length_append, hl]; rfl) (Nat.div_lt_of_lt_mul hMc) (ok32_snoc hk (Nat.mod_lt _ (by omega))) ⟨?_⟩
      have e5 : H (q + (i + 1)) * ((M + c) / 4294967296) = H (q + i) * (4294967296 * ((M + c) / 4294967296)) := by
        rw [show q + (i + 1) = q + i + 1 from rfl, H_succ, Nat.mul_comm 4294967296, Nat.mul_assoc]
      have e6 : H (q + i) * ((M + c) % 4294967296) + H (q + i) * (4294967296 * ((M + c) / 4294967296)) = H (q + i) * c + H (q + i) * M := by
        rw [← Nat.mul_add, Nat.mod_add_div, Nat.add_comm M, Nat.mul_add]
      have e7 : H q * 2 ^ f * (v32 (x.take i) + H i * p) = H q * 2 ^ f * v32 (x.take i) + H (q + i) * M := by
        rw [Nat.mul_add, H_add, hM]
        congr 1
        simp only [Nat.mul_assoc, Nat.mul_comm, Nat.mul_left_comm]
      rw [v32_snoc, hl, v32_take_succ, hp, Int.toNat_natCast, Int.toNat_natCast, e5]
      exact lin4 hv.out e6 e7
  have fac (d : Nat) : ∀ i : Nat, i + d = f → Ev (fun k m _ => abacusref01_Lift.l2037 k m (n : Int) x ((2 ^ i : Nat) : Int) (i : Int) (List.replicate q (0 : Int))) (lim (val a * 2 ^ n)) := by
    induction d with
    | zero =>
      intro i hi
      obtain rfl : i = f := by omega
      refine Ev_succ ?_
      simp only [abacusref01_Lift.l2037, abacusref01_Lift.b2037, abacusref01_Lift.l255, abacusref01_Lift.b255, t2]
      exact Ev_neg (by omega) (Ev_in (go x.length 0 0 (List.replicate q 0) (by omega) (by simp) (by omega) (ok32_replicate _) ⟨by rw [v32_zeros, Nat.mul_zero, List.take_zero, v32_nil, Nat.mul_zero]⟩))
    | succ d ih =>
      intro i hi
      have hif : (i : Int) < (f : Int) := by omega
      have hi1 : i + 1 + d = f := by omega
      have e1 : wrap64 ((i : Int) + 1) = ((i + 1 : Nat) : Int) := wone (n := 32) (by omega) (by omega)
      have hp3 : 2 ^ i < 9223372036854775808 := Nat.lt_of_le_of_lt (two31 (by omega)) (by omega)
      refine Ev_succ ?_
      simp only [abacusref01_Lift.l2037, abacusref01_Lift.b2037, t2, e1, wmul2 hp3]
      rw [← Nat.pow_succ]
      exact Ev_pos hif (ih (i + 1) hi1)
  have zer (d : Nat) : ∀ i : Nat, i + d = q → Ev (fun k m _ => abacusref01_Lift.l501 k m (n : Int) x (i : Int) (List.replicate i (0 : Int))) (lim (val a * 2 ^ n)) := by
    induction d with
    | zero =>
      intro i hi
      obtain rfl : i = q := by omega
      refine Ev_succ ?_
      simp only [abacusref01_Lift.l501, abacusref01_Lift.b501, abacusref01_Lift.l63, abacusref01_Lift.b63, t1]
      have := fac f 0 (by omega)
      rw [Nat.pow_zero] at this
      exact Ev_neg (by omega) (Ev_in this)
    | succ d ih =>
      intro i hi
      have e1 : wrap64 ((i : Int) + 1) = ((i + 1 : Nat) : Int) := wone (n := 17592186044416) (by omega) (by omega)
      refine Ev_succ ?_
      simp only [abacusref01_Lift.l501, abacusref01_Lift.b501, t1, e1]
      have hs : List.replicate i (0 : Int) ++ [0] = List.replicate (i + 1) 0 := by rw [List.replicate_succ']
      rw [hs]
      exact Ev_pos (by omega) (Ev_pos (by simp; omega) (ih (i + 1) (by omega)))
  exact zer q 0 (by omega)
theorem Lift_ev {a : List Int} {n : Nat} (ha : ok a) (hla : a.length ≤ 549755813888) (hn : n ≤ 1099511627776) : Ev (fun k _ _ => abacusref01_Lift.f k a (n : Int)) (lim (val a * 2 ^ n)) := Lift_evS ha (Sz_len ha hla) hn
theorem rcmp_l {a b : List Int} (ha : ok a) (hb : ok b) (hl : a.length ≤ 9223372036854775807) (i : Nat) : i ≤ a.length → i ≤ b.length → val (a.drop i) = val (b.drop i) →
    Ev (fun n m _ => abacusref01_Cmp.l1013 n m a b ((i : Int) - 1)) (cmp (val a) (val b)) := by
  induction i with
  | zero =>
    intro _ _ hz
    refine Ev_succ ?_
    simp only [abacusref01_Cmp.l1013, abacusref01_Cmp.b1013, ln_eq]
    refine Ev_neg (by omega) (Ev_some ?_)
    rw [List.drop_zero, List.drop_zero] at hz
    rw [hz, cmp_self]
  | succ i ih =>
    intro hia hib hz
    have e0 : ((i + 1 : Nat) : Int) - 1 = (i : Int) := by omega
    have e1 : wrap64 ((i : Int) - 1) = (i : Int) - 1 := by unfold wrap64; omega
    refine Ev_succ ?_
    simp only [abacusref01_Cmp.l1013, abacusref01_Cmp.b1013, ln_eq, e0, e1]
    refine Ev_pos (by omega) (Ev_pos (by omega) (Ev_pos (by omega) (Ev_pos (by omega) (Ev_pos (by omega) ?_))))
    by_cases h2 : rd a (i : Int) < rd b (i : Int)
    · refine Ev_pos h2 (Ev_some ?_)
      rw [cmp_lt (val_cmp_at ha hb (by omega) (by omega) hz h2)]
    · refine Ev_neg h2 (Ev_pos (by omega) (Ev_pos (by omega) (Ev_pos (by omega) (Ev_pos (by omega) ?_))))
      by_cases h3 : rd a (i : Int) > rd b (i : Int)
      · refine Ev_pos h3 (Ev_some ?_)
        rw [cmp_gt (val_cmp_at hb ha (by omega) (by omega) hz.symm h3)]
      · refine Ev_neg h3 (ih (by omega) (by omega) ?_)
        rw [val_drop_cons a i (by omega), val_drop_cons b i (by omega), show rd a (i : Int) = rd b (i : Int) by omega, hz]
theorem rCmp_ev {a b : List Int} (ha : ok a) (hb : ok b) (hla : a.length ≤ 9223372036854775807) (hlb : b.length ≤ 9223372036854775807) : Ev (fun n _ _ => abacusref01_Cmp.f n a b) (cmp (val a) (val b)) := by
  simp only [abacusref01_Cmp.f, abacusref01_Cmp.b0]
  have sa := lim_len_val_le ha
  have sb := lim_len_val_le hb
  refine Ev.bind (abacusref01_Size_ev ha hla) (Ev.bind (abacusref01_Size_ev hb hlb) ?_)
  by_cases h2 : (lim (val a)).length < (lim (val b)).length
  · exact Ev_pos (by omega) (Ev_some (cmp_lt (lim_len_lt h2)).symm)
  refine Ev_neg (by omega) ?_
  by_cases h3 : (lim (val b)).length < (lim (val a)).length
  · exact Ev_pos (by omega) (Ev_some (cmp_gt (lim_len_lt h3)).symm)
  refine Ev_neg (by omega) ?_
  have h : (lim (val a)).length = (lim (val b)).length := by omega
  have e : wrap64 (((lim (val b)).length : Int) - 1) = ((lim (val b)).length : Int) - 1 := by unfold wrap64; omega
  rw [e]
  refine Ev_in (g := fun n m _ => abacusref01_Cmp.l1013 n m a b (((lim (val b)).length : Int) - 1)) ?_
  exact rcmp_l ha hb hla _ (by omega) sb (by rw [val_drop_lim hb, ← h, val_drop_lim ha])
end Go.Proofs.YtlnfgcnagfdliaaDoor.R1
