/- What the printed functions of nat compute (size, cut, Add, Sub, Mul, Cmp), by the value of their lists. Conditions: lists of limbs below 2^64, of lengths that a slice has. -/
import Derived.Test.YtcacmhcekoeblaaDoorQL
import Derived.Test.YtcacmhcekoeblaaDoorF1
import Derived.Laws.BitsAllLaws
import Derived.Laws.Bits64
namespace Go.Proofs.YtcacmhcekoeblaaDoor.Nat1
open Go.RowKit Go.Proofs.YtcacmhcekoeblaaDoor.Lib Go.Proofs.YtcacmhcekoeblaaDoor.F
open Go.Proofs.YtcacmhcekoeblaaDoorA (rd ln ln_eq mx mn shl shr wr wr_eq)
set_option linter.unusedVariables false
set_option linter.unusedSimpArgs false

theorem nat_size_l {l : List Int} (h : ok l) (hl : l.length ≤ 9223372036854775807) (i : Nat) (hi : i ≤ l.length) (hz : val (l.drop i) = 0) : Ev (fun n m _ => nat_size.l57 n m l i) ((lim (val l)).length : Int) := by
  induction i with
  | zero =>
    have hv : val l = 0 := by simpa using hz
    refine Ev_succ ?_
    simp only [nat_size.l57, nat_size.b57, ln_eq]
    refine Ev_neg (by omega) (Ev_some ?_)
    rw [hv, lim_zero]; rfl
  | succ i ih =>
    have e : wrap64 (((i + 1 : Nat) : Int) - 1) = (i : Int) := by unfold wrap64; omega
    refine Ev_succ ?_
    simp only [nat_size.l57, nat_size.b57, ln_eq, e]
    refine Ev_pos (by omega) (Ev_pos (by omega) (Ev_pos (by omega) ?_))
    by_cases hr : rd l i = 0
    · refine Ev_pos hr (ih (by omega) ?_)
      rw [val_drop_cons l i (by omega), hz, hr]; rfl
    · refine Ev_neg hr (Ev_some ?_)
      have h1 := val_drop_zero hz
      have h2 := val_take_succ l i
      have h3 := val_lt (ok_take h (i + 1))
      rw [List.length_take, Nat.min_eq_left hi, ← h1] at h3
      have h4 := (lim_len_le (val l) (i + 1)).2 h3
      have h5 := lim_len_le (val l) i
      have h6 := ok_rd h i
      have h7 : B i ≤ B i * (rd l i).toNat := Nat.le_mul_of_pos_right _ (by omega)
      omega
theorem nat_size_ev {l : List Int} (h : ok l) (hl : l.length ≤ 9223372036854775807) : Ev (fun n _ _ => nat_size.f n l) ((lim (val l)).length : Int) := by
  simp only [nat_size.f, nat_size.b0, ln_eq]
  refine Ev_in (g := fun n m _ => nat_size.l57 n m l l.length) ?_
  exact nat_size_l h hl l.length (Nat.le_refl _) (by rw [List.drop_length, val_nil])

/-- What the operations answer: the number, if it is within the limit. -/
def ans (n : Nat) : List Int × Int := if n < B 4096 then (lim n, 0) else ([], 2)
theorem nat_big_ev {l : List Int} (h : ok l) (hl : l.length ≤ 9223372036854775807) : Ev (fun n _ _ => nat_big.f n l) (decide (¬ val l < B 4096)) := by
  simp only [nat_big.f, nat_big.b0]
  refine Ev.bind (nat_size_ev h hl) (Ev_some ?_)
  have := lim_len_le (val l) 4096
  rw [decide_eq_decide]
  omega
theorem nat_cut_ev {l : List Int} (h : ok l) (hl : l.length ≤ 9223372036854775807) : Ev (fun n _ _ => nat_cut.f n l) (ans (val l)) := by
  simp only [nat_cut.f, nat_cut.b0, ln_eq]
  refine Ev.bind (nat_size_ev h hl) ?_
  have h1 := lim_len_le (val l) 4096
  have h2 := lim_len_val_le h
  unfold ans
  by_cases hb : val l < B 4096
  · rw [if_pos hb]
    refine Ev_neg (by omega) (Ev_pos (by omega) (Ev_pos (by omega) (Ev_pos (by omega) (Ev_bind_some (Ev_some ?_)))))
    rw [Int.toNat_natCast, take_lim h]
  · rw [if_neg hb]
    exact Ev_pos (by omega) (Ev_some rfl)

/-! ### Add -/
theorem add64 {a b c : Int} (ha : 0 ≤ a ∧ a < 18446744073709551616) (hb : 0 ≤ b ∧ b < 18446744073709551616) (hc : 0 ≤ c ∧ c ≤ 1) :
    bits_Add64.f a b c = some ((a + b + c) % 18446744073709551616, (a + b + c) / 18446744073709551616) := by
  unfold bits_Add64.f
  rw [if_pos ⟨ha.1, hb.1, hc.1, hc.2⟩]
theorem rd_over {l : List Int} {i : Nat} (h : l.length ≤ i) : rd l (i : Int) = 0 := by
  rw [rd_nat, List.getD_eq_getElem?_getD, List.getElem?_eq_none h]; rfl
/-- One place of a sum: the digit that is written and the carry on. -/
theorem place {P A S c d e x y : Nat} (hA : A + P * c = S) (hd : d + 18446744073709551616 * e = x + y + c) : (A + P * d) + (18446744073709551616 * P) * e = S + (P * x + P * y) := by
  have h1 : P * (d + 18446744073709551616 * e) = P * (x + y + c) := by rw [hd]
  rw [Nat.mul_add, Nat.mul_add, Nat.mul_add, ← Nat.mul_assoc] at h1
  rw [Nat.mul_comm 18446744073709551616 P]
  omega
theorem add_inv {a b x6 : List Int} {i : Nat} {c : Int} (ra : 0 ≤ rd a (i : Int)) (rb : 0 ≤ rd b (i : Int)) (hc : 0 ≤ c) (h6 : i < x6.length) (hv : val (x6.take i) + B i * c.toNat = val (a.take i) + val (b.take i)) :
    val ((x6.set i ((rd a (i : Int) + rd b (i : Int) + c) % 18446744073709551616)).take (i + 1)) + B (i + 1) * ((rd a (i : Int) + rd b (i : Int) + c) / 18446744073709551616).toNat = val (a.take (i + 1)) + val (b.take (i + 1)) := by
  have hd : ((rd a (i : Int) + rd b (i : Int) + c) % 18446744073709551616).toNat + 18446744073709551616 * ((rd a (i : Int) + rd b (i : Int) + c) / 18446744073709551616).toNat = (rd a (i : Int)).toNat + (rd b (i : Int)).toNat + c.toNat := by clear hv; omega
  rw [val_take_set _ _ _ h6, B_succ, val_take_succ a, val_take_succ b, Nat.add_add_add_comm]
  exact place hv hd
theorem nat_Add_l {a b : List Int} (ha : ok a) (hb : ok b) (hab : b.length ≤ a.length) (hl : a.length ≤ 35184372088000) (d : Nat) :
    ∀ (i : Nat) (x6 : List Int) (c : Int), i + d = a.length → x6.length = a.length + 1 → ok x6 → 0 ≤ c ∧ c ≤ 1 → Aside0 (val (x6.take i) + B i * c.toNat = val (a.take i) + val (b.take i)) →
      Ev (fun n m _ => nat_Add.l2037 n m a b c i a.length x6) (ans (val a + val b)) := by
  induction d with
  | zero =>
    intro i x6 c hi hx h6 hc hv
    obtain rfl : i = a.length := by omega
    refine Ev_succ ?_
    simp only [nat_Add.l2037, nat_Add.b2037, nat_Add.l255, nat_Add.b255, ln_eq]
    have hs : ok (x6.set a.length c) := ok_set h6 _ hc.1 (by omega)
    refine Ev_neg (by omega) (Ev_pos (by omega) (Ev_pos (by omega) ?_))
    rw [Int.toNat_natCast]
    refine Ev.bind (nat_cut_ev hs (by rw [List.length_set]; omega)) (Ev_some ?_)
    have h2 := val_take_set x6 a.length c (by omega)
    rw [val_take_all _ (by rw [List.length_set]; omega), hv.out, val_take_all a (Nat.le_refl _), val_take_all b hab] at h2
    rw [h2]
  | succ d ih =>
    intro i x6 c hi hx h6 hc hv
    have e : wrap64 ((i : Int) + 1) = ((i + 1 : Nat) : Int) := by unfold wrap64; omega
    have ra := ok_rd ha (i : Int)
    have rb := ok_rd hb (i : Int)
    refine Ev_succ ?_
    simp only [nat_Add.l2037, nat_Add.b2037, nat_Add.l260711, nat_Add.b260711, ln_eq, e, Int.toNat_natCast]
    refine Ev_pos (by omega) (Ev_pos (by omega) (Ev_pos (by omega) ?_))
    have go : ∀ y : Int, y = rd b (i : Int) → Ev (fun n m _ => (bits_Add64.f (rd a (i : Int)) y c).bind fun bt => if 0 ≤ (i : Int) then if (i : Int) < (x6.length : Int) then nat_Add.l2037 n m a b bt.2 ((i + 1 : Nat) : Int) a.length (x6.set i bt.1) else none else none) (ans (val a + val b)) := by
      rintro y rfl
      refine Ev_bind_eq (add64 ra rb hc) (Ev_pos (by omega) (Ev_pos (by omega) ?_))
      exact ih (i + 1) _ _ (by omega) (by rw [List.length_set]; exact hx) (ok_set h6 _ (by omega) (by omega)) (by omega) ⟨add_inv ra.1 rb.1 hc.1 (by omega) hv.out⟩
    by_cases hib : i < b.length
    · exact Ev_pos (by omega) (Ev_pos (by omega) (Ev_pos (by omega) (go _ rfl)))
    · exact Ev_neg (by omega) (go 0 (rd_over (by omega)).symm)
theorem nat_Add_j1 {a b : List Int} (ha : ok a) (hb : ok b) (hab : b.length ≤ a.length) (hl : a.length ≤ 35184372088000) : Ev (fun n _ _ => nat_Add.l31 n a b) (ans (val a + val b)) := by
  have e : wrap64 ((a.length : Int) + 1) = ((a.length + 1 : Nat) : Int) := by unfold wrap64; omega
  simp only [nat_Add.l31, nat_Add.b31, ln_eq, e, Int.toNat_natCast]
  refine Ev_pos (by omega) (Ev_pos (by omega) ?_)
  refine Ev_in (g := fun n m _ => nat_Add.l2037 n m a b 0 0 a.length (List.replicate (a.length + 1) 0)) ?_
  exact nat_Add_l ha hb hab hl a.length 0 _ 0 (by omega) (by simp) (ok_replicate _) (by omega) ⟨by simp [val_nil]⟩
/-- The answer of a call that looks first whether its two operands are within the limit. -/
def ans2 (a b : Nat) (r : List Int × Int) : List Int × Int := if a < B 4096 ∧ b < B 4096 then r else ([], 2)
theorem nat_Add_ev {a b : List Int} (ha : ok a) (hb : ok b) (hla : a.length ≤ 9223372036854775807) (hlb : b.length ≤ 9223372036854775807) : Ev (fun n _ _ => nat_Add.f n a b) (ans2 (val a) (val b) (ans (val a + val b))) := by
  simp only [nat_Add.f, nat_Add.b0, ln_eq]
  refine Ev.bind (nat_big_ev ha hla) ?_
  unfold ans2
  by_cases h1 : val a < B 4096
  · refine Ev_neg (by simp [h1]) ?_
    refine Ev.bind (nat_big_ev hb hlb) ?_
    by_cases h2 : val b < B 4096
    · rw [if_pos ⟨h1, h2⟩, decide_eq_false (by simp [h2])]
      refine Ev_neg (by simp) ?_
      have sa := lim_len_val_le ha
      have sb := lim_len_val_le hb
      have ta := (lim_len_le (val a) 4096).2 h1
      have tb := (lim_len_le (val b) 4096).2 h2
      refine Ev.bind (nat_size_ev ha hla) (Ev_pos (by omega) (Ev_pos (by omega) (Ev_bind_some ?_)))
      refine Ev.bind (nat_size_ev hb hlb) (Ev_pos (by omega) (Ev_pos (by omega) (Ev_bind_some ?_)))
      simp only [Int.toNat_natCast, take_lim ha, take_lim hb]
      by_cases h3 : (lim (val a)).length < (lim (val b)).length
      · have := nat_Add_j1 (ok_lim (val b)) (ok_lim (val a)) (by omega) (by omega)
        rw [val_lim, val_lim, Nat.add_comm] at this
        exact Ev_pos (by omega) this
      · have := nat_Add_j1 (ok_lim (val a)) (ok_lim (val b)) (by omega) (by omega)
        rw [val_lim, val_lim] at this
        exact Ev_neg (by omega) this
    · rw [if_neg (fun h => h2 h.2), decide_eq_true (by simp [h2])]
      exact Ev_pos rfl (Ev_some rfl)
  · rw [if_neg (fun h => h1 h.1)]
    exact Ev_pos (by simp [h1]) (Ev_some rfl)

theorem mul_row {P V V' S o d e q c : Nat} (h1 : V' + P * o = V + P * d) (h2 : V + P * c = S) (h3 : d + 18446744073709551616 * e = q + o + c) : V' + (18446744073709551616 * P) * e = S + P * q := by
  have h4 : P * (d + 18446744073709551616 * e) = P * (q + o + c) := by rw [h3]
  rw [Nat.mul_add, Nat.mul_add, Nat.mul_add, ← Nat.mul_assoc] at h4
  rw [Nat.mul_comm 18446744073709551616 P]
  omega
def mulAns (a b : Nat) : List Int × Int := ans2 a b (if a = 0 ∨ b = 0 then ([], 0) else if (lim a).length + (lim b).length - 1 > 4096 then ([], 2) else ans (a * b))
/-! ### Mul -/
theorem and32 {a : Int} (h0 : 0 ≤ a) (h1 : a < 18446744073709551616) : Go.bits .and .u64 a 4294967295 = a % 4294967296 := by
  rw [u64_and a _ h0 h1 (by omega) (by omega)]
  have : (4294967295 : Int).toNat = 2 ^ 32 - 1 := by decide
  rw [this, Nat.and_two_pow_sub_one_eq_mod]
  omega
theorem mul_half {a b : Int} (a0 : 0 ≤ a) (a1 : a < 4294967296) (b0 : 0 ≤ b) (b1 : b < 4294967296) : 0 ≤ a * b ∧ a * b ≤ 18446744065119617025 := by
  refine ⟨Int.mul_nonneg a0 b0, ?_⟩
  have h := Int.mul_le_mul (show a ≤ 4294967295 by omega) (show b ≤ 4294967295 by omega) b0 (by omega)
  omega
theorem mul64 {a b : Int} (ha : 0 ≤ a ∧ a < 18446744073709551616) (hb : 0 ≤ b ∧ b < 18446744073709551616) :
    bits_Mul64.f a b = some (a * b / 18446744073709551616, a * b % 18446744073709551616) := by
  unfold bits_Mul64.f bits_Mul64.b0
  rw [and32 ha.1 ha.2, and32 hb.1 hb.2]
  obtain ⟨x, hx⟩ : ∃ x, x = a / 4294967296 := ⟨_, rfl⟩
  obtain ⟨y, hy⟩ : ∃ y, y = a % 4294967296 := ⟨_, rfl⟩
  obtain ⟨u, hu⟩ : ∃ u, u = b / 4294967296 := ⟨_, rfl⟩
  obtain ⟨v, hv⟩ : ∃ v, v = b % 4294967296 := ⟨_, rfl⟩
  have ea : a = 4294967296 * x + y := by omega
  have eb : b = 4294967296 * u + v := by omega
  have x0 : 0 ≤ x ∧ x < 4294967296 := by omega
  have y0 : 0 ≤ y ∧ y < 4294967296 := by omega
  have u0 : 0 ≤ u ∧ u < 4294967296 := by omega
  have v0 : 0 ≤ v ∧ v < 4294967296 := by omega
  have pxu := mul_half x0.1 x0.2 u0.1 u0.2
  have pxv := mul_half x0.1 x0.2 v0.1 v0.2
  have pyu := mul_half y0.1 y0.2 u0.1 u0.2
  have pyv := mul_half y0.1 y0.2 v0.1 v0.2
  have hab : a * b = 18446744073709551616 * (x * u) + 4294967296 * (x * v) + 4294967296 * (y * u) + y * v := by
    rw [ea, eb]
    simp only [Int.add_mul, Int.mul_add, Int.mul_assoc, Int.mul_left_comm x 4294967296, Int.mul_left_comm y 4294967296]
    omega
  rw [← hx, ← hy, ← hu, ← hv, hab]
  clear ea eb hab hx hy hu hv
  generalize x * u = p at *
  generalize x * v = q at *
  generalize y * u = r at *
  generalize y * v = s at *
  simp only [IntKind.wrap_u64]
  rw [and32 (by omega) (by omega)]
  simp only [Option.some.injEq, Prod.mk.injEq, and_true]
  rw [show p % 18446744073709551616 = p from by omega, show q % 18446744073709551616 = q from by omega, show r % 18446744073709551616 = r from by omega, show s % 18446744073709551616 = s from by omega]
  obtain ⟨z, hz⟩ : ∃ z, z = q + s / 4294967296 := ⟨_, rfl⟩
  rw [← hz, show z % 18446744073709551616 = z from by omega, show (z % 4294967296 + r) % 18446744073709551616 = z % 4294967296 + r from by omega]
  omega
theorem mul_full {x y : Int} (hx : 0 ≤ x ∧ x < 18446744073709551616) (hy : 0 ≤ y ∧ y < 18446744073709551616) : 0 ≤ x * y ∧ x * y ≤ 340282366920938463426481119284349108225 := by
  refine ⟨Int.mul_nonneg hx.1 hy.1, ?_⟩
  have h := Int.mul_le_mul (show x ≤ 18446744073709551615 by omega) (show y ≤ 18446744073709551615 by omega) hy.1 (by omega)
  omega
/-- One digit of a row of a product: what is written and the carry on. -/
theorem mul_digit {x y o c : Int} (hx : 0 ≤ x ∧ x < 18446744073709551616) (hy : 0 ≤ y ∧ y < 18446744073709551616) (ho : 0 ≤ o ∧ o < 18446744073709551616) (hc : 0 ≤ c ∧ c < 18446744073709551616) :
    ∃ d e : Int, (0 ≤ d ∧ d < 18446744073709551616) ∧ (0 ≤ e ∧ e < 18446744073709551616) ∧ d.toNat + 18446744073709551616 * e.toNat = x.toNat * y.toNat + o.toNat + c.toNat ∧
      ((x * y % 18446744073709551616 + o + 0) % 18446744073709551616 + c + 0) % 18446744073709551616 = d ∧
      IntKind.u64.wrap (IntKind.u64.wrap (x * y / 18446744073709551616 + (x * y % 18446744073709551616 + o + 0) / 18446744073709551616) + ((x * y % 18446744073709551616 + o + 0) % 18446744073709551616 + c + 0) / 18446744073709551616) = e := by
  have h := mul_full hx hy
  rw [← Int.toNat_mul hx.1 hy.1]
  generalize x * y = p at *
  refine ⟨_, _, ?_, ?_, ?_, rfl, rfl⟩
  · omega
  · rw [IntKind.wrap_u64]; omega
  · rw [IntKind.wrap_u64, IntKind.wrap_u64]; omega
theorem mul_inv {b out : List Int} {i j : Nat} {x d o c e : Nat} {V0 : Nat} {dd : Int} (hd : dd.toNat = d) (hlt : i + j < out.length) (ho : (rd out ((i + j : Nat) : Int)).toNat = o) (h2 : val out + B (i + j) * c = V0 + B i * (x * val (b.take j))) (h3 : d + 18446744073709551616 * e = x * (rd b (j : Int)).toNat + o + c) :
    val (out.set (i + j) dd) + B (i + (j + 1)) * e = V0 + B i * (x * val (b.take (j + 1))) := by
  have h1 := val_set out (i + j) dd hlt
  rw [ho, hd] at h1
  have h := mul_row h1 h2 h3
  rw [← Nat.add_assoc, B_succ, h, val_take_succ, B_add, Nat.mul_add, Nat.mul_add, Nat.add_assoc]
  congr 2
  rw [Nat.mul_assoc, Nat.mul_left_comm x]
theorem nat_Mul_l1 {a b : List Int} {n : Nat} {R : List Int × Int} (ha : ok a) (hb : ok b) {i : Nat} (hn : a.length + b.length = n) (hi : i < a.length) (hl : n ≤ 35184372088832) (V0 : Nat)
    (cont : ∀ out : List Int, out.length = n → ok out → (∀ t : Nat, i + 1 + b.length ≤ t → rd out (t : Int) = 0) → Aside0 (val out = V0 + B i * ((rd a (i : Int)).toNat * val b)) → Ev (fun n m _ => nat_Mul.l2037 n m b a a.length ((i + 1 : Nat) : Int) out) R) (d : Nat) :
    ∀ (j : Nat) (out : List Int) (c : Int), j + d = b.length → out.length = n → ok out → 0 ≤ c ∧ c < 18446744073709551616 → (∀ t : Nat, i + b.length ≤ t → rd out (t : Int) = 0) → Aside0 (val out + B (i + j) * c.toNat = V0 + B i * ((rd a (i : Int)).toNat * val (b.take j))) →
      Ev (fun n m p => nat_Mul.l2085685 n (nat_Mul.l2037 n m) p b (i : Int) c (j : Int) (rd a (i : Int)) a a.length b.length out) R := by
  induction d with
  | zero =>
    intro j out c hj ho h6 hc hz hv
    obtain rfl : j = b.length := by omega
    have e1 : wrap64 ((i : Int) + (b.length : Int)) = ((i + b.length : Nat) : Int) := by unfold wrap64; omega
    have e2 : wrap64 ((i : Int) + 1) = ((i + 1 : Nat) : Int) := by unfold wrap64; omega
    refine Ev_succ2 ?_
    simp only [nat_Mul.l2085685, nat_Mul.b2085685, nat_Mul.l260711, nat_Mul.b260711, ln_eq, e1, e2, Int.toNat_natCast]
    refine Ev_neg (by omega) (Ev_pos (by omega) (Ev_pos (by omega) ?_))
    refine cont _ (by rw [List.length_set]; exact ho) (ok_set h6 _ hc.1 hc.2) (fun t ht => ?_) ⟨?_⟩
    · rw [rd_set_ne _ _ _ _ (by omega)]
      exact hz t (by omega)
    · have h1 := val_set out (i + b.length) c (by omega)
      rw [hz _ (Nat.le_refl _), hv.out, val_take_all b (Nat.le_refl _)] at h1
      simpa using h1
  | succ d ih =>
    intro j out c hj ho h6 hc hz hv
    have e1 : wrap64 ((i : Int) + (j : Int)) = ((i + j : Nat) : Int) := by unfold wrap64; omega
    have e2 : wrap64 ((j : Int) + 1) = ((j + 1 : Nat) : Int) := by unfold wrap64; omega
    have ra := ok_rd ha (i : Int)
    have rb := ok_rd hb (j : Int)
    have ro := ok_rd h6 ((i + j : Nat) : Int)
    refine Ev_succ2 ?_
    simp only [nat_Mul.l2085685, nat_Mul.b2085685, ln_eq, e1, e2, Int.toNat_natCast]
    refine Ev_pos (by omega) (Ev_pos (by omega) (Ev_pos (by omega) ?_))
    have pm := mul_full ra rb
    obtain ⟨dd, ee, h1, h2, h3, h4, h5⟩ := mul_digit ra rb ro hc
    refine Ev_bind_eq (mul64 ra rb) (Ev_pos (by omega) (Ev_pos (by omega) ?_))
    refine Ev_bind_eq (add64 (by omega) ro (by omega)) (Ev_bind_eq (add64 (by omega) hc (by omega)) (Ev_pos (by omega) (Ev_pos (by omega) ?_)))
    dsimp only
    rw [h4, h5]
    refine ih (j + 1) _ _ (by omega) (by rw [List.length_set]; exact ho) (ok_set h6 _ h1.1 h1.2) h2 (fun t ht => ?_) ⟨mul_inv rfl (by omega) rfl hv.out h3⟩
    rw [rd_set_ne _ _ _ _ (by omega)]
    exact hz t ht
theorem nat_Mul_l0 {a b : List Int} {n : Nat} (ha : ok a) (hb : ok b) (hn : a.length + b.length = n) (hl : n ≤ 35184372088832) (d : Nat) :
    ∀ (i : Nat) (out : List Int), i + d = a.length → out.length = n → ok out → (∀ t : Nat, i + b.length ≤ t → rd out (t : Int) = 0) → Aside0 (val out = val (a.take i) * val b) →
      Ev (fun n m _ => nat_Mul.l2037 n m b a a.length (i : Int) out) (ans (val a * val b)) := by
  induction d with
  | zero =>
    intro i out hi ho h6 hz hv
    obtain rfl : i = a.length := by omega
    refine Ev_succ ?_
    simp only [nat_Mul.l2037, nat_Mul.b2037, nat_Mul.l255, nat_Mul.b255]
    refine Ev_neg (by omega) ?_
    refine Ev.bind (nat_cut_ev h6 (by omega)) (Ev_some ?_)
    rw [hv.out, val_take_all a (Nat.le_refl _)]
  | succ d ih =>
    intro i out hi ho h6 hz hv
    refine Ev_succ ?_
    simp only [nat_Mul.l2037, nat_Mul.b2037, ln_eq]
    refine Ev_pos (by omega) (Ev_pos (by omega) (Ev_pos (by omega) ?_))
    refine Ev_in2 (g := fun n m p => nat_Mul.l2085685 n (nat_Mul.l2037 n m) p b (i : Int) 0 0 (rd a (i : Int)) a a.length b.length out) ?_
    refine nat_Mul_l1 ha hb hn (by omega) hl (val (a.take i) * val b) (fun out1 g1 g2 g3 g4 => ?_) b.length 0 out 0 (by omega) ho h6 (by omega) hz ⟨by simp [hv.out, val_nil]⟩
    refine ih (i + 1) out1 (by omega) g1 g2 g3 ⟨?_⟩
    rw [g4.out, val_take_succ, Nat.add_mul, Nat.mul_assoc]
/-- What Mul answers. -/
theorem nat_Mul_ev {a b : List Int} (ha : ok a) (hb : ok b) (hla : a.length ≤ 9223372036854775807) (hlb : b.length ≤ 9223372036854775807) : Ev (fun n _ _ => nat_Mul.f n a b) (mulAns (val a) (val b)) := by
  simp only [nat_Mul.f, nat_Mul.b0, ln_eq]
  refine Ev.bind (nat_big_ev ha hla) ?_
  unfold mulAns ans2
  by_cases h1 : val a < B 4096
  · refine Ev_neg (by simp [h1]) ?_
    refine Ev.bind (nat_big_ev hb hlb) ?_
    by_cases h2 : val b < B 4096
    · rw [if_pos ⟨h1, h2⟩, decide_eq_false (by simp [h2])]
      refine Ev_neg (by simp) ?_
      have sa := lim_len_val_le ha
      have sb := lim_len_val_le hb
      have ta := (lim_len_le (val a) 4096).2 h1
      have tb := (lim_len_le (val b) 4096).2 h2
      have za := @lim_len_zero (val a)
      have zb := @lim_len_zero (val b)
      refine Ev.bind (nat_size_ev ha hla) (Ev_pos (by omega) (Ev_pos (by omega) (Ev_bind_some ?_)))
      refine Ev.bind (nat_size_ev hb hlb) (Ev_pos (by omega) (Ev_pos (by omega) (Ev_bind_some ?_)))
      simp only [Int.toNat_natCast, take_lim ha, take_lim hb]
      by_cases h3 : val a = 0
      · rw [if_pos (.inl h3)]
        exact Ev_pos (by omega) (Ev_some rfl)
      · refine Ev_neg (by omega) ?_
        by_cases h4 : val b = 0
        · rw [if_pos (.inr h4)]
          exact Ev_pos (by omega) (Ev_some rfl)
        · rw [if_neg (by omega)]
          have e1 : wrap64 (((lim (val a)).length : Int) + ((lim (val b)).length : Int)) = (((lim (val a)).length + (lim (val b)).length : Nat) : Int) := by unfold wrap64; omega
          have e2 : wrap64 ((((lim (val a)).length + (lim (val b)).length : Nat) : Int) - 1) = (((lim (val a)).length + (lim (val b)).length - 1 : Nat) : Int) := by unfold wrap64; omega
          simp only [e1, e2, Int.toNat_natCast]
          refine Ev_neg (by omega) ?_
          by_cases h5 : (lim (val a)).length + (lim (val b)).length - 1 > 4096
          · rw [if_pos h5]
            exact Ev_pos (by omega) (Ev_some rfl)
          · rw [if_neg h5]
            refine Ev_neg (by omega) (Ev_pos (by omega) (Ev_pos (by omega) ?_))
            have := nat_Mul_l0 (ok_lim (val a)) (ok_lim (val b)) rfl (by omega) (lim (val a)).length 0 (List.replicate ((lim (val a)).length + (lim (val b)).length) 0) (by omega) (by simp) (ok_replicate _) (fun t _ => by rw [rd_nat, List.getD_eq_getElem?_getD, List.getElem?_replicate]; split <;> rfl) ⟨by simp [val_replicate, val_nil]⟩
            rw [val_lim, val_lim] at this
            exact Ev_in this
    · rw [if_neg (fun h => h2 h.2), decide_eq_true (by simp [h2])]
      exact Ev_pos rfl (Ev_some rfl)
  · rw [if_neg (fun h => h1 h.1)]
    exact Ev_pos (by simp [h1]) (Ev_some rfl)
end Go.Proofs.YtcacmhcekoeblaaDoor.Nat1
