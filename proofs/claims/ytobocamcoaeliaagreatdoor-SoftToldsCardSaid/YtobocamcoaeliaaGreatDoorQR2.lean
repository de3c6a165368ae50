import Derived.Test.YtobocamcoaeliaaGreatDoorQQuot1
/- What the second reference computes: Short, doubled, Order, takeOff, Root. Conditions: lists of limbs below 2^64, of lengths that a slice has. -/
namespace Go.Proofs.YtobocamcoaeliaaGreatDoor.R2
open Go.RowKit Go.Proofs.YtobocamcoaeliaaGreatDoor.Lib Go.Proofs.YtobocamcoaeliaaGreatDoor.LibB Go.Proofs.YtobocamcoaeliaaGreatDoor.F Go.Proofs.YtobocamcoaeliaaGreatDoor.Nat1 Go.Proofs.YtobocamcoaeliaaGreatDoor.Nat2 Go.Proofs.YtobocamcoaeliaaGreatDoor.Bits Go.Proofs.YtobocamcoaeliaaGreatDoor.LongL
open Go.Proofs.YtobocamcoaeliaaGreatDoorA (rd ln ln_eq mx mn shl shr wr wr_eq)
set_option linter.unusedVariables false
set_option linter.unusedSimpArgs false
theorem take_set_snoc {out : List Int} {i : Nat} (h : i < out.length) (x : Int) : (out.set i x).take (i + 1) = out.take i ++ [x] := by
  rw [List.take_succ_eq_append_getElem (by rw [List.length_set]; exact h), take_set_ge _ _ _ _ (Nat.le_refl i)]
  congr 1
  simp
theorem take_rd {l : List Int} {i : Nat} (h : i < l.length) : l.take (i + 1) = l.take i ++ [rd l (i : Int)] := by
  rw [List.take_succ_eq_append_getElem h, rd_nat, List.getD_eq_getElem?_getD, List.getElem?_eq_getElem h]; rfl
theorem next (i : Nat) (h : i ≤ 35184372088832) : wrap64 ((i : Int) + 1) = ((i + 1 : Nat) : Int) := by unfold wrap64; omega
/-! ### Short -/
theorem short_copy {l : List Int} {n : Nat} (hn : n ≤ l.length) (hl : l.length ≤ 35184372088832) (d : Nat) : ∀ (i : Nat) (out : List Int), i + d = n → out.length = n → out.take i = l.take i →
    Ev (fun k m _ => abacusref02_Short.l245 k m l (n : Int) (i : Int) out) (l.take n) := by
  induction d with
  | zero =>
    intro i out hi ho ht
    refine Ev_succ ?_
    simp only [abacusref02_Short.l245, abacusref02_Short.b245, ln_eq]
    refine Ev_neg (by omega) (Ev_some ?_)
    rw [show i = n by omega] at ht
    rw [← ht, List.take_of_length_le (by omega)]
  | succ d ih =>
    intro i out hi ho ht
    refine Ev_succ ?_
    simp only [abacusref02_Short.l245, abacusref02_Short.b245, ln_eq, next i (by omega), Int.toNat_natCast]
    refine Ev_pos (by omega) (Ev_pos (by omega) (Ev_pos (by omega) (Ev_pos (by omega) (Ev_pos (by omega) (ih (i + 1) _ (by omega) (by rw [List.length_set]; exact ho) ?_)))))
    rw [take_set_snoc (by omega), take_rd (by omega), ht]
theorem Short_ev {l : List Int} (h : ok l) (hl : l.length ≤ 35184372088832) : Ev (fun k _ _ => abacusref02_Short.f k l) (lim (val l)) := by
  simp only [abacusref02_Short.f, abacusref02_Short.b0]
  have hle := lim_len_val_le h
  refine Ev.bind (abacusref02_Top_ev h (by omega)) (Ev_pos (by omega) (Ev_pos (by rw [Int.toNat_natCast]; omega) ?_))
  rw [Int.toNat_natCast]
  have := short_copy hle hl _ 0 (List.replicate (lim (val l)).length 0) (Nat.zero_add _) (List.length_replicate ..) rfl
  rw [take_lim h] at this
  exact Ev_in (g := fun k m _ => abacusref02_Short.l245 k m l ((lim (val l)).length : Int) 0 (List.replicate (lim (val l)).length (0 : Int))) this
/-! ### doubled -/
theorem dbl_digit {p c : Nat} (hp : p < 18446744073709551616) (hc : c ≤ 1) : Go.bits .or .u64 (IntKind.u64.wrap ((p : Int) * 2)) (c : Int) = ((2 * p % 18446744073709551616 + c : Nat) : Int) := by
  have e : IntKind.u64.wrap ((p : Int) * 2) = ((p % 9223372036854775808 : Nat) : Int) * ((2 ^ 1 : Nat) : Int) := by rw [IntKind.wrap_u64]; omega
  rw [e, or_low (by omega) (by omega) (by omega) (by omega)]
  omega
theorem dbl_carry (p : Nat) : (p : Int) / 9223372036854775808 = ((2 * p / 18446744073709551616 : Nat) : Int) := by omega
theorem dbl_row {P V S b c d e p : Nat} (h1 : V + P * c = 2 * S + b) (h2 : d + 18446744073709551616 * e = p + p + c) : V + P * d + (18446744073709551616 * P) * e = 2 * (S + P * p) + b := by
  have h4 : P * (d + 18446744073709551616 * e) = P * (p + p + c) := by rw [h2]
  rw [Nat.mul_add, Nat.mul_add, Nat.mul_add, ← Nat.mul_assoc] at h4
  rw [Nat.mul_comm 18446744073709551616 P]
  omega
theorem dbl_eq {p c : Nat} : 2 * p % 18446744073709551616 + c + 18446744073709551616 * (2 * p / 18446744073709551616) = p + p + c := by omega
theorem dbl_lt {p c : Nat} (hp : p < 18446744073709551616) (hc : c ≤ 1) : 2 * p % 18446744073709551616 + c < 18446744073709551616 ∧ 2 * p / 18446744073709551616 ≤ 1 := by omega
theorem nat_rd {l : List Int} (h : ok l) (i : Nat) : ∃ p : Nat, rd l (i : Int) = (p : Int) ∧ p < 18446744073709551616 := by
  have := ok_rd h (i : Int)
  exact ⟨(rd l (i : Int)).toNat, by omega, by omega⟩
theorem doubled_l {l : List Int} {b : Nat} (h : ok l) (hl : l.length ≤ 17592186044416) (d : Nat) : ∀ (i c : Nat) (out : List Int), i + d = l.length → c ≤ 1 → out.length = l.length + 1 → ok out → Aside0 (val (out.take i) + B i * c = 2 * val (l.take i) + b) →
    ∃ r, Ev (fun k m _ => abacusref02_doubled.l245 k m l (c : Int) (i : Int) out) r ∧ ok r ∧ r.length = l.length + 1 ∧ val r = 2 * val l + b := by
  induction d with
  | zero =>
    intro i c out hi hc ho hk hv
    have hi' : i = l.length := by omega
    subst hi'
    refine ⟨out.set l.length (c : Int), Ev_succ ?_, ok_set hk _ (by omega) (by omega), by rw [List.length_set]; exact ho, ?_⟩
    · simp only [abacusref02_doubled.l245, abacusref02_doubled.b245, ln_eq, Int.toNat_natCast]
      exact Ev_neg (by omega) (Ev_pos (by omega) (Ev_pos (by omega) (Ev.now _)))
    · have h1 := val_take_set out l.length (c : Int) (by omega)
      rw [val_take_all _ (by rw [List.length_set]; omega), Int.toNat_natCast, hv.out, val_take_all _ (Nat.le_refl _)] at h1
      exact h1
  | succ d ih =>
    intro i c out hi hc ho hk hv
    obtain ⟨p, hp, hpl⟩ := nat_rd h i
    have h1 := val_take_set out i ((2 * p % 18446744073709551616 + c : Nat) : Int) (by omega)
    have h2 := val_take_succ l i
    rw [hp, Int.toNat_natCast] at h2
    rw [Int.toNat_natCast] at h1
    have hD := dbl_lt hpl hc
    have hr := dbl_row hv.out (dbl_eq (p := p) (c := c))
    rw [← h1, ← h2, ← B_succ] at hr
    obtain ⟨r, e1, e2⟩ := ih (i + 1) (2 * p / 18446744073709551616) (out.set i ((2 * p % 18446744073709551616 + c : Nat) : Int)) (by omega) hD.2 (by rw [List.length_set]; exact ho) (ok_set hk _ (Int.natCast_nonneg _) (Int.ofNat_lt.2 hD.1)) ⟨hr⟩
    clear h1 h2 hr hv
    refine ⟨r, Ev_succ ?_, e2⟩
    simp only [abacusref02_doubled.l245, abacusref02_doubled.b245, ln_eq, next i (by omega), Int.toNat_natCast, hp, dbl_digit hpl hc, dbl_carry]
    exact Ev_pos (by omega) (Ev_pos (by omega) (Ev_pos (by omega) (Ev_pos (by omega) (Ev_pos (by omega) (Ev_pos (by omega) (Ev_pos (by omega) e1))))))
theorem doubled_ev {l : List Int} {x : Int} {b : Nat} (hx : x = (b : Int)) (hb : b ≤ 1) (h : ok l) (hl : l.length ≤ 17592186044416) : ∃ r, Ev (fun k _ _ => abacusref02_doubled.f k l x) r ∧ ok r ∧ r.length = l.length + 1 ∧ val r = 2 * val l + b := by
  subst hx
  simp only [abacusref02_doubled.f, abacusref02_doubled.b0, ln_eq]
  obtain ⟨r, e1, e2⟩ := doubled_l (b := b) h hl l.length 0 b (List.replicate (l.length + 1) 0) (by omega) hb (List.length_replicate ..) (ok_replicate _) ⟨by rw [List.take_zero, List.take_zero, val_nil, B_zero]; omega⟩
  refine ⟨r, ?_, e2⟩
  rw [next _ (by omega), Int.toNat_natCast]
  exact Ev_pos (by omega) (Ev_pos (by omega) (Ev_in (g := fun k m _ => abacusref02_doubled.l245 k m l (b : Int) 0 (List.replicate (l.length + 1) (0 : Int))) e1))
/-! ### Order -/
theorem order_l {a b : List Int} (ha : ok a) (hb : ok b) (hl : a.length ≤ 9223372036854775807) (i : Nat) : i ≤ a.length → i ≤ b.length → val (a.drop i) = val (b.drop i) →
    Ev (fun n m _ => abacusref02_Order.l1013 n m a b ((i : Int) - 1)) (cmp (val a) (val b)) := by
  induction i with
  | zero =>
    intro _ _ hz
    refine Ev_succ ?_
    simp only [abacusref02_Order.l1013, abacusref02_Order.b1013, ln_eq]
    refine Ev_neg (by omega) (Ev_some ?_)
    rw [List.drop_zero, List.drop_zero] at hz
    rw [hz, cmp_self]
  | succ i ih =>
    intro hia hib hz
    have e0 : ((i + 1 : Nat) : Int) - 1 = (i : Int) := by omega
    have e1 : wrap64 ((i : Int) - 1) = (i : Int) - 1 := by unfold wrap64; omega
    refine Ev_succ ?_
    simp only [abacusref02_Order.l1013, abacusref02_Order.b1013, ln_eq, e0, e1]
    refine Ev_pos (by omega) (Ev_pos (by omega) (Ev_pos (by omega) (Ev_pos (by omega) (Ev_pos (by omega) ?_))))
    by_cases h2 : rd a (i : Int) < rd b (i : Int)
    · refine Ev_pos h2 (Ev_some ?_)
      rw [cmp_lt (val_cmp_at ha hb (by omega) (by omega) hz h2)]
    · refine Ev_neg h2 (Ev_pos (by omega) (Ev_pos (by omega) (Ev_pos (by omega) (Ev_pos (by omega) ?_))))
      by_cases h3 : rd a (i : Int) > rd b (i : Int)
      · refine Ev_pos h3 (Ev_some ?_)
        rw [cmp_gt (val_cmp_at hb ha (by omega) (by omega) hz.symm h3)]
      · refine Ev_neg h3 (ih (by omega) (by omega) ?_)
        rw [val_drop_cons a i (by omega), val_drop_cons b i (by omega), show rd a (i : Int) = rd b (i : Int) by omega, hz]
theorem Order_ev {a b : List Int} (ha : ok a) (hb : ok b) (hla : a.length ≤ 9223372036854775807) (hlb : b.length ≤ 9223372036854775807) : Ev (fun n _ _ => abacusref02_Order.f n a b) (cmp (val a) (val b)) := by
  simp only [abacusref02_Order.f, abacusref02_Order.b0]
  have sa := lim_len_val_le ha
  have sb := lim_len_val_le hb
  refine Ev.bind (abacusref02_Top_ev ha hla) (Ev.bind (abacusref02_Top_ev hb hlb) ?_)
  by_cases h2 : (lim (val a)).length < (lim (val b)).length
  · exact Ev_pos (by omega) (Ev_some (cmp_lt (lim_len_lt h2)).symm)
  refine Ev_neg (by omega) ?_
  by_cases h3 : (lim (val b)).length < (lim (val a)).length
  · exact Ev_pos (by omega) (Ev_some (cmp_gt (lim_len_lt h3)).symm)
  refine Ev_neg (by omega) ?_
  have h : (lim (val a)).length = (lim (val b)).length := by omega
  have e : wrap64 (((lim (val a)).length : Int) - 1) = ((lim (val a)).length : Int) - 1 := by unfold wrap64; omega
  rw [e]
  refine Ev_in (g := fun n m _ => abacusref02_Order.l1013 n m a b (((lim (val a)).length : Int) - 1)) ?_
  exact order_l ha hb hla _ sa (by omega) (by rw [val_drop_lim ha, h, val_drop_lim hb])
theorem order_lim {u v : Nat} (hu : (lim u).length ≤ 35184372088832) (hv : (lim v).length ≤ 35184372088832) : Ev (fun n _ _ => abacusref02_Order.f n (lim u) (lim v)) (cmp u v) := by
  have := Order_ev (ok_lim u) (ok_lim v) (by omega) (by omega)
  rwa [val_lim, val_lim] at this
/-! ### takeOff -/
structure To (us vs xs : List Int) (j i : Nat) (c : Nat) : Prop where
  len : xs.length = us.length
  okx : ok xs
  c1 : c ≤ 1
  v : win xs j i + val (vs.take i) = win us j i + B i * c
  out : ∀ k : Nat, k < j ∨ j + i ≤ k → rd xs (k : Int) = rd us (k : Int)
theorem To.start {us vs : List Int} {j : Nat} (h : ok us) : To us vs us j 0 0 := ⟨rfl, h, by omega, by rw [win_zero, List.take_zero, val_nil, Nat.mul_zero], fun _ _ => rfl⟩
theorem To.step {us vs xs : List Int} {j i c x y D e : Nat} (T : To us vs xs j i c) (hj : j + i < us.length) (hx : rd us ((j + i : Nat) : Int) = (x : Int)) (hy : rd vs (i : Int) = (y : Int)) (hD : D < 18446744073709551616) (he : e ≤ 1) (h : D + y + c = x + 18446744073709551616 * e) :
    To us vs (xs.set (j + i) (D : Int)) j (i + 1) e := by
  refine ⟨by rw [List.length_set]; exact T.len, ok_set T.okx _ (by omega) (by omega), he, ?_, fun k hk => ?_⟩
  · rw [win_succ, rd_set_self _ _ _ (by rw [T.len]; exact hj), win_set_out (by omega), val_take_succ, hy, win_succ, hx, Int.toNat_natCast, Int.toNat_natCast, Int.toNat_natCast, B_succ]
    exact sub_row T.v h
  · rw [rd_set_ne _ _ _ _ (by omega)]
    exact T.out k (by omega)
theorem off_digit {x y c : Nat} (hx : x < 18446744073709551616) (hy : y < 18446744073709551616) (hc : c ≤ 1) : ∃ D e : Nat, D < 18446744073709551616 ∧ e ≤ 1 ∧ IntKind.u64.wrap (IntKind.u64.wrap ((x : Int) - (y : Int)) - (c : Int)) = (D : Int) ∧ D + y + c = x + 18446744073709551616 * e ∧ (e = 1 ↔ x < y ∨ (x = y ∧ c = 1)) := by
  by_cases h : x < y + c
  · refine ⟨x + 18446744073709551616 - y - c, 1, by omega, by omega, ?_, by omega, by omega⟩
    rw [IntKind.wrap_u64, IntKind.wrap_u64]; omega
  · refine ⟨x - y - c, 0, by omega, by omega, ?_, by omega, by omega⟩
    rw [IntKind.wrap_u64, IntKind.wrap_u64]; omega
theorem wadd2 {j i : Nat} (h : j + i ≤ 35184372088832) : wrap64 ((j : Int) + (i : Int)) = ((j + i : Nat) : Int) := by unfold wrap64; omega
theorem nlt2 {a b : Nat} (h : a < b) : (a : Int) < (b : Int) := Int.ofNat_lt.2 h
theorem not_one {e : Nat} (h : e ≤ 1) (k : ¬ e = 1) : e = 0 := by omega
theorem takeOff_l {us vs : List Int} {j : Nat} (hv : ok vs) (hu : ok us) (hj : j + vs.length ≤ us.length) (hl : us.length ≤ 35184372088832) (d : Nat) : ∀ (i c : Nat) (xs : List Int), i + d = vs.length → To us vs xs j i c →
    ∃ ys e, Ev (fun k m _ => abacusref02_takeOff.l29 k m (j : Int) vs (c : Int) (i : Int) xs) (ys, ()) ∧ To us vs ys j vs.length e := by
  induction d with
  | zero =>
    intro i c xs hi T
    rw [Nat.add_zero] at hi
    refine ⟨xs, c, Ev_succ ?_, hi ▸ T⟩
    simp only [abacusref02_takeOff.l29, abacusref02_takeOff.b29, ln_eq]
    exact Ev_neg (by omega) (Ev.now _)
  | succ d ih =>
    intro i c xs hi T
    obtain ⟨x, hx, hxl⟩ := nat_rd hu (j + i)
    obtain ⟨y, hy, hyl⟩ := nat_rd hv i
    have hx' : rd xs ((j + i : Nat) : Int) = (x : Int) := (T.out _ (.inr (Nat.le_refl _))).trans hx
    have iv : i < vs.length := by omega
    have ju : j + i < us.length := by omega
    have jx : j + i < xs.length := by rw [T.len]; exact ju
    have jl : j + i ≤ 35184372088832 := by omega
    have il : i ≤ 35184372088832 := by omega
    have i1 : i + 1 + d = vs.length := by omega
    have wj : wrap64 ((j : Int) + (i : Int)) = ((j + i : Nat) : Int) := wadd2 jl
    have hc1 := T.c1
    obtain ⟨D, e, hD, he, w, hr, hi1⟩ := off_digit hxl hyl hc1
    obtain ⟨ys, e', e1, e2⟩ := ih (i + 1) e _ i1 (T.step ju hx hy hD he hr)
    refine ⟨ys, e', Ev_succ ?_, e2⟩
    have nn : (0 : Int) ≤ ((j + i : Nat) : Int) := Int.natCast_nonneg _
    have cont : Ev (fun k m _ => abacusref02_takeOff.l3663 k (abacusref02_takeOff.l29 k m) (j : Int) vs (e : Int) (i : Int) (D : Int) xs) (ys, ()) := by
      simp only [abacusref02_takeOff.l3663, abacusref02_takeOff.b3663, ln_eq, wj, next i il, Int.toNat_natCast]
      exact Ev_pos nn (Ev_pos (nlt2 jx) e1)
    clear e1 e2 hr T ih hi
    simp only [abacusref02_takeOff.l29, abacusref02_takeOff.b29, ln_eq, wj, hx', hy, w]
    refine Ev_pos (nlt2 iv) (Ev_pos nn (Ev_pos (nlt2 jx) (Ev_pos (Int.natCast_nonneg _) (Ev_pos (nlt2 iv) ?_))))
    clear hx hx' hy w hD hxl hyl
    by_cases h1 : x < y
    · have : e = 1 := hi1.2 (.inl h1)
      subst this
      exact Ev_pos (nlt2 h1) cont
    · refine Ev_neg (fun k => h1 (Int.ofNat_lt.1 k)) ?_
      by_cases h2 : x = y
      · refine Ev_pos (congrArg _ h2) ?_
        by_cases h3 : c = 1
        · have : e = 1 := hi1.2 (.inr ⟨h2, h3⟩)
          subst this
          exact Ev_pos (congrArg _ h3) cont
        · have : e = 0 := not_one he (fun k => h3 ((hi1.1 k).elim (fun k => absurd k h1) And.right))
          subst this
          exact Ev_neg (fun k => h3 (Int.ofNat_inj.1 k)) cont
      · have : e = 0 := not_one he (fun k => h2 ((hi1.1 k).elim (fun k => absurd k h1) And.left))
        subst this
        exact Ev_neg (fun k => h2 (Int.ofNat_inj.1 k)) cont
theorem takeOff_ev {us vs : List Int} {j : Nat} (hv : ok vs) (hu : ok us) (hj : j + vs.length ≤ us.length) (hl : us.length ≤ 35184372088832) : ∃ ys e, Ev (fun k _ _ => abacusref02_takeOff.f k us (j : Int) vs) (ys, ()) ∧ To us vs ys j vs.length e := by
  simp only [abacusref02_takeOff.f, abacusref02_takeOff.b0]
  obtain ⟨ys, e, e1, e2⟩ := takeOff_l hv hu hj hl vs.length 0 0 us (by omega) (To.start hu)
  exact ⟨ys, e, Ev_in (g := fun k m _ => abacusref02_takeOff.l29 k m (j : Int) vs 0 0 us) e1, e2⟩
theorem off_none {V v U b e : Nat} (h : V + v = U + b * e) (hV : V < b) (hv : v ≤ U) (he : e ≤ 1) : V = U - v := by
  have : e = 0 ∨ e = 1 := by omega
  rcases this with rfl | rfl
  · rw [Nat.mul_zero] at h; omega
  · rw [Nat.mul_one] at h; omega
/-- Taken off from the lowest limb on, as many limbs as there are. -/
theorem takeOff_all {us vs : List Int} (hv : ok vs) (hu : ok us) (hj : vs.length = us.length) (hl : us.length ≤ 35184372088832) (hle : val vs ≤ val us) : ∃ ys, Ev (fun k _ _ => abacusref02_takeOff.f k us 0 vs) (ys, ()) ∧ ok ys ∧ ys.length = us.length ∧ val ys = val us - val vs := by
  obtain ⟨ys, e, e1, T⟩ := takeOff_ev (j := 0) hv hu (by omega) hl
  refine ⟨ys, e1, T.okx, T.len, ?_⟩
  have h := T.v
  rw [Go.Proofs.YtobocamcoaeliaaGreatDoor.Long.win_self (by rw [T.len]; exact hj.symm), Go.Proofs.YtobocamcoaeliaaGreatDoor.Long.win_self hj.symm, val_take_all _ (Nat.le_refl _)] at h
  have h2 := val_lt T.okx
  rw [T.len, ← hj] at h2
  exact off_none h h2 hle T.c1
end Go.Proofs.YtobocamcoaeliaaGreatDoor.R2
/- The second reference's root: two bits are brought down at a time, one bit of the root is found. Conditions: a list of limbs below 2^64, of a length that a slice has. -/
namespace Go.Proofs.YtobocamcoaeliaaGreatDoor.R2
open Go.RowKit Go.Proofs.YtobocamcoaeliaaGreatDoor.Lib Go.Proofs.YtobocamcoaeliaaGreatDoor.LibB Go.Proofs.YtobocamcoaeliaaGreatDoor.F Go.Proofs.YtobocamcoaeliaaGreatDoor.Nat1 Go.Proofs.YtobocamcoaeliaaGreatDoor.Nat2 Go.Proofs.YtobocamcoaeliaaGreatDoor.Bits
open Go.Proofs.YtobocamcoaeliaaGreatDoorA (rd ln ln_eq mx mn shl shr wr wr_eq)
set_option linter.unusedVariables false
set_option linter.unusedSimpArgs false
theorem and3 {n : Nat} (h : n < 18446744073709551616) : Go.bits .and .u64 (n : Int) 3 = ((n % 4 : Nat) : Int) := by
  rw [u64_and _ _ (by omega) (by omega) (by omega) (by omega), show (3 : Int).toNat = 2 ^ 2 - 1 by decide, Nat.and_two_pow_sub_one_eq_mod]
  omega
theorem and1 {n : Nat} (h : n < 18446744073709551616) : Go.bits .and .u64 (n : Int) 1 = ((n % 2 : Nat) : Int) := by
  rw [u64_and _ _ (by omega) (by omega) (by omega) (by omega), show (1 : Int).toNat = 2 ^ 1 - 1 by decide, Nat.and_two_pow_sub_one_eq_mod]
  omega
theorem four_of {X Y : Nat} (h1 : X % 2 = Y % 2) (h2 : X / 2 % 2 = Y / 2 % 2) : X % 4 = Y % 4 := by omega
theorem pair_val {l : List Int} (h : ok l) (i : Nat) : val l / 2 ^ (2 * i) % 4 = (rd l ((i / 32 : Nat) : Int)).toNat / 2 ^ (2 * (i % 32)) % 4 := by
  have b1 := bit_val h (i / 32) (2 * (i % 32)) (by omega)
  have b2 := bit_val h (i / 32) (2 * (i % 32) + 1) (by omega)
  rw [← Nat.add_assoc, Nat.pow_succ, Nat.pow_succ, ← Nat.div_div_eq_div_mul, ← Nat.div_div_eq_div_mul] at b2
  rw [show 2 * i = 64 * (i / 32) + 2 * (i % 32) by omega]
  exact four_of b1 b2
theorem pair_next (A i : Nat) : A / 2 ^ (2 * i) = 4 * (A / 2 ^ (2 * (i + 1))) + A / 2 ^ (2 * i) % 4 := by
  rw [show 2 * (i + 1) = 2 * i + 2 by omega, Nat.pow_add, ← Nat.div_div_eq_div_mul]
  omega
theorem sq2 (r : Nat) : 2 * r * (2 * r) = 4 * (r * r) := by rw [Nat.mul_mul_mul_comm]
theorem sq1 (r : Nat) : (r + 1) * (r + 1) = r * r + 2 * r + 1 := by
  rw [Nat.add_mul, Nat.mul_add]; omega
theorem sq3 (r : Nat) : (2 * r + 1) * (2 * r + 1) = 4 * (r * r) + 4 * r + 1 := by
  rw [sq1, sq2]; omega
theorem sq4 (r : Nat) : (2 * r + 1 + 1) * (2 * r + 1 + 1) = 4 * (r * r) + 8 * r + 4 := by
  rw [sq1 (2 * r + 1), sq3]; omega
theorem root_step {A r t A1 q : Nat} (h1 : r * r ≤ A1) (h2 : A1 < (r + 1) * (r + 1)) (ht : t = A1 - r * r) (hA : A = 4 * A1 + q) (hq : q < 4) :
    (4 * r + 1 ≤ 4 * t + q → (2 * r + 1) * (2 * r + 1) ≤ A ∧ A < (2 * r + 1 + 1) * (2 * r + 1 + 1) ∧ 4 * t + q - (4 * r + 1) = A - (2 * r + 1) * (2 * r + 1)) ∧
    (4 * t + q < 4 * r + 1 → 2 * r * (2 * r) ≤ A ∧ A < (2 * r + 1) * (2 * r + 1) ∧ 4 * t + q = A - 2 * r * (2 * r)) ∧ r ≤ r * r ∧ 4 * t + q ≤ A := by
  have h3 : r ≤ r * r := by
    cases r with
    | zero => exact Nat.le_refl _
    | succ r => exact Nat.le_mul_of_pos_left _ (by omega)
  rw [sq4, sq3, sq2]
  rw [sq1] at h2
  generalize r * r = S at *
  omega
theorem pad_l {a : List Int} {i : Int} {r T V : Nat} {R : List Int × Bool × Int} (hT : (lim T).length ≤ 4096) (hV : (lim V).length ≤ (lim T).length)
    (cont : Ev (fun k m _ => abacusref02_Root.l518461 k (abacusref02_Root.l1013 k m) a i (lim r) (lim T) (lim V ++ List.replicate ((lim T).length - (lim V).length) 0)) R) (d : Nat) : ∀ w, w + d = (lim T).length - (lim V).length →
    Ev (fun k m p => abacusref02_Root.l2073841 k (abacusref02_Root.l1013 k m) p a i (lim r) (lim T) (lim V ++ List.replicate w 0)) R := by
  induction d with
  | zero =>
    intro w hw
    refine Ev_succ2 ?_
    simp only [abacusref02_Root.l2073841, abacusref02_Root.b2073841, ln_eq]
    rw [Nat.add_zero] at hw
    subst hw
    exact Ev_neg (by rw [List.length_append, List.length_replicate]; omega) cont
  | succ d ih =>
    intro w hw
    refine Ev_succ2 ?_
    simp only [abacusref02_Root.l2073841, abacusref02_Root.b2073841, ln_eq]
    have hs : lim V ++ List.replicate w (0 : Int) ++ [0] = lim V ++ List.replicate (w + 1) 0 := by rw [List.append_assoc, ← List.replicate_succ']
    have hl : (lim V ++ List.replicate w (0 : Int)).length = (lim V).length + w := by rw [List.length_append, List.length_replicate]
    rw [hs]
    exact Ev_pos (by rw [hl]; omega) (Ev_pos (by rw [hl]; omega) (ih (w + 1) (by omega)))
theorem small_len {n : Nat} (h : n < B 256) : (lim n).length ≤ 256 := (lim_len_le n 256).2 h
theorem dbl_lim {n b : Nat} {x : Int} (hx : x = (b : Int)) (hb : b ≤ 1) (h : (lim n).length ≤ 4096) : ∃ r, Ev (fun k _ _ => abacusref02_doubled.f k (lim n) x) r ∧ ok r ∧ r.length ≤ 4097 ∧ val r = 2 * n + b := by
  obtain ⟨r, h1, h2, h3, h4⟩ := doubled_ev hx hb (ok_lim n) (by omega)
  rw [val_lim] at h4
  exact ⟨r, h1, h2, by omega, h4⟩
theorem dbl_more {l : List Int} {n b : Nat} {x : Int} (hx : x = (b : Int)) (hb : b ≤ 1) (h : ok l) (hl : l.length ≤ 4097) (hn : val l = n) : ∃ r, Ev (fun k _ _ => abacusref02_doubled.f k l x) r ∧ ok r ∧ r.length ≤ 4098 ∧ val r = 2 * n + b := by
  obtain ⟨r, h1, h2, h3, h4⟩ := doubled_ev hx hb h (by omega)
  rw [hn] at h4
  exact ⟨r, h1, h2, by omega, h4⟩
theorem short_of {l : List Int} {n : Nat} (h : ok l) (hl : l.length ≤ 4098) (hn : val l = n) : Ev (fun k _ _ => abacusref02_Short.f k l) (lim n) := by
  have := Short_ev h (by omega)
  rwa [hn] at this
theorem len_mono {m n : Nat} (h : m ≤ n) : (lim m).length ≤ (lim n).length := (lim_len_le _ _).2 (Nat.lt_of_le_of_lt h ((lim_len_le n _).1 (Nat.le_refl _)))
/-- One digit of the root that is 1. -/
theorem root_one {a : List Int} {i : Int} {r T V : Nat} {R : List Int × Bool × Int} (hT : (lim T).length ≤ 4096) (hr : (lim r).length ≤ 4096) (hVT : V ≤ T) (hV : 0 < V)
    (ih : Ev (fun k m _ => abacusref02_Root.l1013 k m a (wrap64 (i - 1)) (lim (2 * r + 1)) (lim (T - V))) R) :
    Ev (fun k m p => abacusref02_Root.l2073841 k (abacusref02_Root.l1013 k m) p a i (lim r) (lim T) (lim V)) R := by
  have hl := len_mono hVT
  have h := pad_l (a := a) (i := i) (r := r) (R := R) hT hl ?_ _ 0 (Nat.zero_add _)
  · simpa using h
  · simp only [abacusref02_Root.l518461, abacusref02_Root.b518461, ln_eq]
    have hp : (lim V ++ List.replicate ((lim T).length - (lim V).length) (0 : Int)).length = (lim T).length := by rw [List.length_append, List.length_replicate]; omega
    have hv : val (lim V ++ List.replicate ((lim T).length - (lim V).length) (0 : Int)) = V := by rw [val_append, val_replicate, val_lim, Nat.mul_zero, Nat.add_zero]
    obtain ⟨ys, e1, o1, l1, v1⟩ := takeOff_all (us := lim T) (ok_append (ok_lim V) (ok_replicate _)) (ok_lim T) hp (by omega) (by rw [hv, val_lim]; exact hVT)
    rw [hv, val_lim] at v1
    obtain ⟨z, e2, o2, l2, v2⟩ := dbl_lim (n := r) (b := 1) (x := 1) rfl (Nat.le_refl _) hr
    have hz := @lim_len_zero T
    have f1 := short_of o1 (by omega) v1
    exact Ev_pos (by omega) (Ev.bind e1 (Ev.bind f1 (Ev.bind e2 (Ev.bind (short_of o2 (by omega) v2) ih))))
theorem idx_facts {i L n : Nat} (hi : i + 1 ≤ 32 * L) (hle : L ≤ n) (hn : L ≤ 256) : i / 32 < n ∧ i ≤ 8192 ∧ i ≤ 32 * L := by omega
theorem idx_w {i : Nat} (h : i ≤ 8192) : wrap64 (Int.tdiv (i : Int) 32) = ((i / 32 : Nat) : Int) ∧ IntKind.u64.wrap (wrap64 (2 * Int.tmod (i : Int) 32)) = ((2 * (i % 32) : Nat) : Int) ∧ wrap64 ((i : Int) - 1) = (i : Int) - 1 ∧ ((i + 1 : Nat) : Int) - 1 = (i : Int) := by
  rw [Int.tdiv_eq_ediv_of_nonneg (by omega), Int.tmod_eq_emod_of_nonneg (by omega), IntKind.wrap_u64]
  unfold wrap64
  omega
theorem q_facts {q : Nat} (h : q < 4) : (q : Int) / 2 = ((q / 2 : Nat) : Int) ∧ q / 2 ≤ 1 ∧ q % 2 ≤ 1 ∧ q < 18446744073709551616 := by omega
theorem v_fact (t q : Nat) : 2 * (2 * t + q / 2) + q % 2 = 4 * t + q := by omega
theorem v_fact2 (r : Nat) : 2 * (2 * r + 0) + 1 = 4 * r + 1 := by omega
theorem zero_iff {L t A S : Nat} (hz : L = 0 ↔ t = 0) (h1 : S ≤ A) (ht : t = A - S) : ((L : Int) = 0) ↔ S = A := by omega
theorem i_sh (i : Nat) : 2 * (i % 32) ≤ 64 := by omega
theorem root_l {a : List Int} (ha : ok a) (hla : a.length ≤ 35184372088832) (hA : val a < B 256) (i : Nat) : ∀ (r t : Nat), i ≤ 32 * (lim (val a)).length → r * r ≤ val a / 2 ^ (2 * i) → val a / 2 ^ (2 * i) < (r + 1) * (r + 1) → t = val a / 2 ^ (2 * i) - r * r →
    ∃ s, s * s ≤ val a ∧ val a < (s + 1) * (s + 1) ∧ Ev (fun k m _ => abacusref02_Root.l1013 k m a ((i : Int) - 1) (lim r) (lim t)) (lim s, decide (s * s = val a), 0) := by
  have hn := small_len hA
  have hle := lim_len_val_le ha
  induction i with
  | zero =>
    intro r t _ h1 h2 ht
    rw [Nat.mul_zero, Nat.pow_zero, Nat.div_one] at h1 h2 ht
    refine ⟨r, h1, h2, Ev_succ ?_⟩
    simp only [abacusref02_Root.l1013, abacusref02_Root.b1013, abacusref02_Root.l127, abacusref02_Root.b127]
    have lt := small_len (n := t) (by rw [ht]; exact Nat.lt_of_le_of_lt (Nat.sub_le _ _) hA)
    have tp := abacusref02_Top_ev (ok_lim t) (Nat.le_trans lt (by decide))
    rw [val_lim] at tp
    have hz := zero_iff (@lim_len_zero t) h1 ht
    refine Ev_neg (by decide) (Ev.bind tp (Ev_some ?_))
    rw [decide_eq_decide.2 hz]
  | succ i ih =>
    intro r t hi h1 h2 ht
    obtain ⟨hi32, hi8, hi0⟩ := idx_facts hi hle hn
    obtain ⟨w1, w2, w3, e0⟩ := idx_w hi8
    obtain ⟨x, hx, hxl⟩ := nat_rd ha (i / 32)
    have pv := pair_val ha i
    rw [hx, Int.toNat_natCast] at pv
    have hA' := pair_next (val a) i
    have hdl : val a / 2 ^ (2 * i) ≤ val a := Nat.div_le_self _ _
    have hdl1 : val a / 2 ^ (2 * (i + 1)) ≤ val a := Nat.div_le_self _ _
    have hq4 : val a / 2 ^ (2 * i) % 4 < 4 := Nat.mod_lt _ (by decide)
    have sh : Go.bits .and .u64 (shr .u64 (rd a ((i / 32 : Nat) : Int)) ((2 * (i % 32) : Nat) : Int)) 3 = ((val a / 2 ^ (2 * i) % 4 : Nat) : Int) := by
      rw [shr_u64 (i_sh i), hx, ← Int.natCast_ediv, and3 (Nat.lt_of_le_of_lt (Nat.div_le_self _ _) hxl), ← pv]
    clear pv hx hxl
    have ih' := ih
    clear ih
    generalize val a / 2 ^ (2 * i) % 4 = q at *
    obtain ⟨q2, q3, q4, q5⟩ := q_facts hq4
    have q1 : Go.bits .and .u64 (q : Int) 1 = ((q % 2 : Nat) : Int) := and1 q5
    obtain ⟨s1, s2, s3, s4⟩ := root_step h1 h2 ht hA' hq4
    have rA : r ≤ val a := Nat.le_trans s3 (Nat.le_trans h1 hdl1)
    have tA : t ≤ val a := by rw [ht]; exact Nat.le_trans (Nat.sub_le _ _) hdl1
    have TA : 4 * t + q ≤ val a := Nat.le_trans s4 hdl
    have lr : (lim r).length ≤ 256 := Nat.le_trans (len_mono rA) hn
    have lt : (lim t).length ≤ 256 := Nat.le_trans (len_mono tA) hn
    have lT : (lim (4 * t + q)).length ≤ 256 := Nat.le_trans (len_mono TA) hn
    clear hA' hdl hdl1 h1 h2 ht rA tA TA s3 s4
    obtain ⟨d1, e1, o1, l1, v1⟩ := dbl_lim (n := t) (b := q / 2) rfl q3 (Nat.le_trans lt (by decide))
    obtain ⟨d2, e2, o2, l2, v2⟩ := dbl_more (b := q % 2) rfl q4 o1 l1 v1
    obtain ⟨d3, e3, o3, l3, v3⟩ := dbl_lim (n := r) (b := 0) (x := 0) rfl (by decide) (Nat.le_trans lr (by decide))
    obtain ⟨d4, e4, o4, l4, v4⟩ := dbl_more (b := 1) (x := 1) rfl (by decide) o3 l3 v3
    have f2 := short_of o2 l2 (v2.trans (v_fact t q))
    have f4 := short_of o4 l4 (v4.trans (v_fact2 r))
    have f3 := short_of o3 (Nat.le_trans l3 (by decide)) (n := 2 * r) v3
    have lV : (lim (4 * r + 1)).length ≤ 4098 := by
      have h5 := val_lt o4
      rw [v4, v_fact2] at h5
      exact Nat.le_trans ((lim_len_le _ _).2 h5) l4
    have oc := order_lim (u := 4 * t + q) (v := 4 * r + 1) (Nat.le_trans lT (by decide)) (Nat.le_trans lV (by decide))
    clear v1 v2 v3 v4 l1 l2 l3 l4 o1 o2 o3 o4
    rcases Nat.lt_or_ge (4 * t + q) (4 * r + 1) with hc | hc
    · obtain ⟨g1, g2, g3⟩ := s2 hc
      obtain ⟨s, k1, k2, k3⟩ := ih' (2 * r) (4 * t + q) hi0 g1 g2 g3
      refine ⟨s, k1, k2, Ev_succ ?_⟩
      simp only [abacusref02_Root.l1013, abacusref02_Root.b1013, ln_eq, e0, w1, w2, w3, sh, q2, q1]
      rw [cmp_lt hc] at oc
      exact Ev_pos (Int.natCast_nonneg _) (Ev_pos (Int.natCast_nonneg _) (Ev_pos (nlt2 hi32) (Ev_pos (Int.natCast_nonneg _) (Ev.bind e1 (Ev.bind e2 (Ev.bind f2 (Ev.bind e3 (Ev.bind e4 (Ev.bind f4 (Ev.bind oc (Ev_neg (by decide) (Ev.bind e3 (Ev.bind f3 k3)))))))))))))
    · obtain ⟨g1, g2, g3⟩ := s1 hc
      obtain ⟨s, k1, k2, k3⟩ := ih' (2 * r + 1) (4 * t + q - (4 * r + 1)) hi0 g1 g2 g3
      refine ⟨s, k1, k2, Ev_succ ?_⟩
      simp only [abacusref02_Root.l1013, abacusref02_Root.b1013, ln_eq, e0, w1, w2, sh, q2, q1]
      have hcp : cmp (4 * t + q) (4 * r + 1) ≥ 0 := Int.not_lt.1 (fun h => absurd ((cmp_neg _ _).1 h) (Nat.not_lt.2 hc))
      rw [← w3] at k3
      refine Ev_pos (Int.natCast_nonneg _) (Ev_pos (Int.natCast_nonneg _) (Ev_pos (nlt2 hi32) (Ev_pos (Int.natCast_nonneg _) (Ev.bind e1 (Ev.bind e2 (Ev.bind f2 (Ev.bind e3 (Ev.bind e4 (Ev.bind f4 (Ev.bind oc (Ev_pos hcp ?_)))))))))))
      exact Ev_in2 (g := fun k m p => abacusref02_Root.l2073841 k (abacusref02_Root.l1013 k m) p a (i : Int) (lim r) (lim (4 * t + q)) (lim (4 * r + 1))) (root_one (Nat.le_trans lT (by decide)) (Nat.le_trans lr (by decide)) hc (Nat.succ_pos _) k3)
theorem Root_ev {a : List Int} (ha : ok a) (hla : a.length ≤ 35184372088832) : ∃ s, s * s ≤ val a ∧ val a < (s + 1) * (s + 1) ∧ Ev (fun k _ _ => abacusref02_Root.f k a) (if val a < B 256 then (lim s, decide (s * s = val a), 0) else ([], false, 2)) := by
  have hle := lim_len_val_le ha
  have lb := lim_len_le (val a) 256
  have tp := abacusref02_Top_ev ha (by omega)
  simp only [abacusref02_Root.f, abacusref02_Root.b0]
  by_cases hA : val a < B 256
  · have hn := lb.2 hA
    have z : val a / 2 ^ (2 * (32 * (lim (val a)).length)) = 0 := by
      refine Nat.div_eq_of_lt ?_
      rw [show 2 * (32 * (lim (val a)).length) = 64 * (lim (val a)).length by omega, ← B_two]
      exact (lim_len_le _ _).1 (Nat.le_refl _)
    obtain ⟨s, k1, k2, k3⟩ := root_l ha hla hA (32 * (lim (val a)).length) 0 0 (Nat.le_refl _) (by rw [z]; exact Nat.le_refl _) (by rw [z]; decide) (by rw [z])
    refine ⟨s, k1, k2, ?_⟩
    rw [if_pos hA]
    have w : wrap64 (wrap64 (32 * ((lim (val a)).length : Int)) - 1) = ((32 * (lim (val a)).length : Nat) : Int) - 1 := by
      rw [show wrap64 (32 * ((lim (val a)).length : Int)) = 32 * ((lim (val a)).length : Int) by unfold wrap64; omega]
      unfold wrap64; omega
    rw [lim_zero] at k3
    refine Ev.bind tp (Ev_neg (by omega) ?_)
    rw [w]
    exact (Ev_in (g := fun k m _ => abacusref02_Root.l1013 k m a (((32 * (lim (val a)).length : Nat) : Int) - 1) [] []) k3)
  · obtain ⟨s, k1, k2⟩ := Quot1.isq_ex (val a)
    refine ⟨s, k1, k2, ?_⟩
    rw [if_neg hA]
    refine Ev.bind tp (Ev_pos ?_ (Ev.now _))
    rcases Int.lt_or_le 256 ((lim (val a)).length : Int) with h | h
    · exact h
    · exact absurd (lb.1 (by omega)) hA
end Go.Proofs.YtobocamcoaeliaaGreatDoor.R2
