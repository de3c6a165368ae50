import Derived.Test.YtobocamcoaeliaaGreatDoorQQuot1
/- What the second reference computes: Short, doubled, Order, takeOff, Root. Conditions: lists of limbs below 2^64, of lengths that a slice has. -/
namespace Go.Proofs.YtobocamcoaeliaaGreatDoor.R2
open Go.RowKit Go.Proofs.YtobocamcoaeliaaGreatDoor.Lib Go.Proofs.YtobocamcoaeliaaGreatDoor.LibB Go.Proofs.YtobocamcoaeliaaGreatDoor.F Go.Proofs.YtobocamcoaeliaaGreatDoor.Nat1 Go.Proofs.YtobocamcoaeliaaGreatDoor.Nat2 Go.Proofs.YtobocamcoaeliaaGreatDoor.Bits Go.Proofs.YtobocamcoaeliaaGreatDoor.LongL
open Go.Proofs.YtobocamcoaeliaaGreatDoorA (rd ln ln_eq mx mn shl shr wr wr_eq)
set_option linter.unusedVariables false
set_option linter.unusedSimpArgs false
theorem take_set_snoc {out : List Int} {i : Nat} (h : i < out.length) (x : Int) : (out.set i x).take (i + 1) = out.take i ++ [x] := by
  rw [List.take_succ_eq_append_getElem (by rw [List.length_set]; exact h), take_set_ge _ _ _ _ (Nat.le_refl i)]
  congr 1
  simp
theorem take_rd {l : List Int} {i : Nat} (h : i < l.length) : l.take (i + 1) = l.take i ++ [rd l (i : Int)] := by
  rw [List.take_succ_eq_append_getElem h, rd_nat, List.getD_eq_getElem?_getD, List.getElem?_eq_getElem h]; rfl
theorem next (i : Nat) (h : i ≤ 35184372088832) : wrap64 ((i : Int) + 1) = ((i + 1 : Nat) : Int) := by unfold wrap64; omega
/-! ### Short -/
theorem short_copy {l : List Int} {n : Nat} (hn : n ≤ l.length) (hl : l.length ≤ 35184372088832) (d : Nat) : ∀ (i : Nat) (out : List Int), i + d = n → out.length = n → out.take i = l.take i →
    Ev (fun k m _ => abacusref02_Short.l245 k m l (n : Int) (i : Int) out) (l.take n) := by
  induction d with
  | zero =>
    intro i out hi ho ht
    refine Ev_succ ?_
    simp only [abacusref02_Short.l245, abacusref02_Short.b245, ln_eq]
    refine Ev_neg (by omega) (Ev_some ?_)
    rw [show i = n by omega] at ht
    rw [← ht, List.take_of_length_le (by omega)]
  | succ d ih =>
    intro i out hi ho ht
    refine Ev_succ ?_
    simp only [abacusref02_Short.l245, abacusref02_Short.b245, ln_eq, next i (by omega), Int.toNat_natCast]
    refine Ev_pos (by omega) (Ev_pos (by omega) (Ev_pos (by omega) (Ev_pos (by omega) (Ev_pos (by omega) (ih (i + 1) _ (by omega) (by rw [List.length_set]; exact ho) ?_)))))
    rw [take_set_snoc (by omega), take_rd (by omega), ht]
theorem Short_ev {l : List Int} (h : ok l) (hl : l.length ≤ 35184372088832) : Ev (fun k _ _ => abacusref02_Short.f k l) (lim (val l)) := by
  simp only [abacusref02_Short.f, abacusref02_Short.b0]
  have hle := lim_len_val_le h
  refine Ev.bind (abacusref02_Top_ev h (by omega)) (Ev_pos (by omega) (Ev_pos (by rw [Int.toNat_natCast]; omega) ?_))
  rw [Int.toNat_natCast]
  have := short_copy hle hl _ 0 (List.replicate (lim (val l)).length 0) (Nat.zero_add _) (List.length_replicate ..) rfl
  rw [take_lim h] at this
  exact Ev_in (g := fun k m _ => abacusref02_Short.l245 k m l ((lim (val l)).length : Int) 0 (List.replicate (lim (val l)).length (0 : Int))) this
/-! ### doubled -/
theorem dbl_digit {p c : Nat} (hp : p < 18446744073709551616) (hc : c ≤ 1) : Go.bits .or .u64 (IntKind.u64.wrap ((p : Int) * 2)) (c : Int) = ((2 * p % 18446744073709551616 + c : Nat) : Int) := by
  have e : IntKind.u64.wrap ((p : Int) * 2) = ((p % 9223372036854775808 : Nat) : Int) * ((2 ^ 1 : Nat) : Int) := by rw [IntKind.wrap_u64]; omega
  rw [e, or_low (by omega) (by omega) (by omega) (by omega)]
  omega
theorem dbl_carry (p : Nat) : (p : Int) / 9223372036854775808 = ((2 * p / 18446744073709551616 : Nat) : Int) := by omega
theorem dbl_row {P V S b c d e p : Nat} (h1 : V + P * c = 2 * S + b) (h2 : d + 18446744073709551616 * e = p + p + c) : V + P * d + (18446744073709551616 * P) * e = 2 * (S + P * p) + b := by
  have h4 : P * (d + 18446744073709551616 * e) = P * (p + p + c) := by rw [h2]
  rw [Nat.mul_add, Nat.mul_add, Nat.mul_add, ← Nat.mul_assoc] at h4
  rw [Nat.mul_comm 18446744073709551616 P]
  omega
theorem dbl_eq {p c : Nat} : 2 * p % 18446744073709551616 + c + 18446744073709551616 * (2 * p / 18446744073709551616) = p + p + c := by omega
theorem dbl_lt {p c : Nat} (hp : p < 18446744073709551616) (hc : c ≤ 1) : 2 * p % 18446744073709551616 + c < 18446744073709551616 ∧ 2 * p / 18446744073709551616 ≤ 1 := by omega
theorem nat_rd {l : List Int} (h : ok l) (i : Nat) : ∃ p : Nat, rd l (i : Int) = (p : Int) ∧ p < 18446744073709551616 := by
  have := ok_rd h (i : Int)
  exact ⟨(rd l (i : Int)).toNat, by omega, by omega⟩
theorem doubled_l {l : List Int} {b : Nat} (h : ok l) (hl : l.length ≤ 17592186044416) (d : Nat) : ∀ (i c : Nat) (out : List Int), i + d = l.length → c ≤ 1 → out.length = l.length + 1 → ok out → Aside0 (val (out.take i) + B i * c = 2 * val (l.take i) + b) →
    ∃ r, Ev (fun k m _ => abacusref02_doubled.l245 k m l (c : Int) (i : Int) out) r ∧ ok r ∧ r.length = l.length + 1 ∧ val r = 2 * val l + b := by
  induction d with
  | zero =>
    intro i c out hi hc ho hk hv
    have hi' : i = l.length := by omega
    subst hi'
    refine ⟨out.set l.length (c : Int), Ev_succ ?_, ok_set hk _ (by omega) (by omega), by rw [List.length_set]; exact ho, ?_⟩
    · simp only [abacusref02_doubled.l245, abacusref02_doubled.b245, ln_eq, Int.toNat_natCast]
      exact Ev_neg (by omega) (Ev_pos (by omega) (Ev_pos (by omega) (Ev.now _)))
    · have h1 := val_take_set out l.length (c : Int) (by omega)
      rw [val_take_all _ (by rw [List.length_set]; omega), Int.toNat_natCast, hv.out, val_take_all _ (Nat.le_refl _)] at h1
      exact h1
  | succ d ih =>
    intro i c out hi hc ho hk hv
    obtain ⟨p, hp, hpl⟩ := nat_rd h i
    have h1 := val_take_set out i ((2 * p % 18446744073709551616 + c : Nat) : Int) (by omega)
    have h2 := val_take_succ l i
    rw [hp, Int.toNat_natCast] at h2
    rw [Int.toNat_natCast] at h1
    have hD := dbl_lt hpl hc
    have hr := dbl_row hv.out (dbl_eq (p := p) (c := c))
    rw [← h1, ← h2, ← B_succ] at hr
    obtain ⟨r, e1, e2⟩ := ih (i + 1) (2 * p / 18446744073709551616) (out.set i ((2 * p % 18446744073709551616 + c : Nat) : Int)) (by omega) hD.2 (by rw [List.length_set]; exact ho) (ok_set hk _ (Int.natCast_nonneg _) (Int.ofNat_lt.2 hD.1)) ⟨hr⟩
    clear h1 h2 hr hv
    refine ⟨r, Ev_succ ?_, e2⟩
    simp only [abacusref02_doubled.l245, abacusref02_doubled.b245, ln_eq, next i (by omega), Int.toNat_natCast, hp, dbl_digit hpl hc, dbl_carry]
    exact Ev_pos (by omega) (Ev_pos (by omega) (Ev_pos (by omega) (Ev_pos (by omega) (Ev_pos (by omega) (Ev_pos (by omega) (Ev_pos (by omega) e1))))))
theorem doubled_ev {l : List Int} {x : Int} {b : Nat} (hx : x = (b : Int)) (hb : b ≤ 1) (h : ok l) (hl : l.length ≤ 17592186044416) : ∃ r, Ev (fun k _ _ => abacusref02_doubled.f k l x) r ∧ ok r ∧ r.length = l.length + 1 ∧ val r = 2 * val l + b := by
  subst hx
  simp only [abacusref02_doubled.f, abacusref02_doubled.b0, ln_eq]
  obtain ⟨r, e1, e2⟩ := doubled_l (b := b) h hl l.length 0 b (List.replicate (l.length + 1) 0) (by omega) hb (List.length_replicate ..) (ok_replicate _) ⟨by rw [List.take_zero, List.take_zero, val_nil, B_zero]; omega⟩
  refine ⟨r, ?_, e2⟩
  rw [next _ (by omega), Int.toNat_natCast]
  exact Ev_pos (by omega) (Ev_pos (by omega) (Ev_in (g := fun k m _ => abacusref02_doubled.l245 k m l (b : Int) 0 (List.replicate (l.length + 1) (0 : Int))) e1))
/-! ### Order -/
theorem order_l {a b : List Int} (ha : ok a) (hb : ok b) (hl : a.length ≤ 9223372036854775807) (i : Nat) : i ≤ a.length → i ≤ b.length → val (a.drop i) = val (b.drop i) →
    Ev (fun n m _ => abacusref02_Order.l1013 n m a b ((i : Int) - 1)) (cmp (val a) (val b)) := by
  induction i with
  | zero =>
    intro _ _ hz
    refine Ev_succ ?_
    simp only [abacusref02_Order.l1013, abacusref02_Order.b1013, ln_eq]
    refine Ev_neg (by omega) (Ev_some ?_)
    rw [List.drop_zero, List.drop_zero] at hz
    rw [hz, cmp_self]
  | succ i ih =>
    intro hia hib hz
    have e0 : ((i + 1 : Nat) : Int) - 1 = (i : Int) := by omega
    have e1 : wrap64 ((i : Int) - 1) = (i : Int) - 1 := by unfold wrap64; omega
    refine Ev_succ ?_
    simp only [abacusref02_Order.l1013, abacusref02_Order.b1013, ln_eq, e0, e1]
    refine Ev_pos (by omega) (Ev_pos (by omega) (Ev_pos (by omega) (Ev_pos (by omega) (Ev_pos (by omega) ?_))))
    by_cases h2 : rd a (i : Int) < rd b (i : Int)
    · refine Ev_pos h2 (Ev_some ?_)
      rw [cmp_lt (val_cmp_at ha hb (by omega) (by omega) hz h2)]
    · refine Ev_neg h2 (Ev_pos (by omega) (Ev_pos (by omega) (Ev_pos (by omega) (Ev_pos (by omega) ?_))))
      by_cases h3 : rd a (i : Int) > rd b (i : Int)
      · refine Ev_pos h3 (Ev_some ?_)
        rw [cmp_gt (val_cmp_at hb ha (by omega) (by omega) hz.symm h3)]
      · refine Ev_neg h3 (ih (by omega) (by omega) ?_)
        rw [val_drop_cons a i (by omega), val_drop_cons b i (by omega), show rd a (i : Int) = rd b (i : Int) by omega, hz]
theorem Order_ev {a b : List Int} (ha : ok a) (hb : ok b) (hla : a.length ≤ 9223372036854775807) (hlb : b.length ≤ 9223372036854775807) : Ev (fun n _ _ => abacusref02_Order.f n a b) (cmp (val a) (val b)) := by
  simp only [abacusref02_Order.f, abacusref02_Order.b0]
  have sa := lim_len_val_le ha
  have sb := lim_len_val_le hb
  refine Ev.bind (abacusref02_Top_ev ha hla) (Ev.bind (abacusref02_Top_ev hb hlb) ?_)
  by_cases h2 : (lim (val a)).length < (lim (val b)).length
  · exact Ev_pos (by omega) (Ev_some (cmp_lt (lim_len_lt h2)).symm)
  refine Ev_neg (by omega) ?_
  by_cases h3 : (lim (val b)).length < (lim (val a)).length
  · exact Ev_pos (by omega) (Ev_some (cmp_gt (lim_len_lt h3)).symm)
  refine Ev_neg (by omega) ?_
  have h : (lim (val a)).length = (lim (val b)).length := by omega
  have e : wrap64 (((lim (val a)).length : Int) - 1) = ((lim (val a)).length : Int) - 1 := by unfold wrap64; omega
  rw [e]
  refine Ev_in (g := fun n m _ => abacusref02_Order.l1013 n m a b (((lim (val a)).length : Int) - 1)) ?_
  exact order_l ha hb hla _ sa (by omega) (by rw [val_drop_lim ha, h, val_drop_lim hb])
theorem order_lim {u v : Nat} (hu : (lim u).length ≤ 35184372088832) (hv : (lim v).length ≤ 35184372088832) : Ev (fun n _ _ => abacusref02_Order.f n (lim u) (lim v)) (cmp u v) := by
  have := Order_ev (ok_lim u) (ok_lim v) (by omega) (by omega)
  rwa [val_lim, val_lim] at this
/-! ### takeOff -/
structure To (us vs xs : List Int) (j i : Nat) (c : Nat) : Prop where
  len : xs.length = us.length
  okx : ok xs
  c1 : c ≤ 1
  v : win xs j i + val (vs.take i) = win us j i + B i * c
  out : ∀ k : Nat, k < j ∨ j + i ≤ k → rd xs (k : Int) = rd us (k : Int)
theorem To.start {us vs : List Int} {j : Nat} (h : ok us) : To us vs us j 0 0 := ⟨rfl, h, by omega, by rw [win_zero, List.take_zero, val_nil, Nat.mul_zero], fun _ _ => rfl⟩
theorem To.step {us vs xs : List Int} {j i c x y D e : Nat} (T : To us vs xs j i c) (hj : j + i < us.length) (hx : rd us ((j + i : Nat) : Int) = (x : Int)) (hy : rd vs (i : Int) = (y : Int)) (hD : D < 18446744073709551616) (he : e ≤ 1) (h : D + y + c = x + 18446744073709551616 * e) :
    To us vs (xs.set (j + i) (D : Int)) j (i + 1) e := by
  refine ⟨by rw [List.length_set]; exact T.len, ok_set T.okx _ (by omega) (by omega), he, ?_, fun k hk => ?_⟩
  · rw [win_succ, rd_set_self _ _ _ (by rw [T.len]; exact hj), win_set_out (by omega), val_take_succ, hy, win_succ, hx, Int.toNat_natCast, Int.toNat_natCast, Int.toNat_natCast, B_succ]
    exact sub_row T.v h
  · rw [rd_set_ne _ _ _ _ (by omega)]
    exact T.out k (by omega)
theorem off_digit {x y c : Nat} (hx : x < 18446744073709551616) (hy : y < 18446744073709551616) (hc : c ≤ 1) : ∃ D e : Nat, D < 18446744073709551616 ∧ e ≤ 1 ∧ IntKind.u64.wrap (IntKind.u64.wrap ((x : Int) - (y : Int)) - (c : Int)) = (D : Int) ∧ D + y + c = x + 18446744073709551616 * e ∧ (e = 1 ↔ x < y ∨ (x = y ∧ c = 1)) := by
  by_cases h : x < y + c
  · refine ⟨x + 18446744073709551616 - y - c, 1, by omega, by omega, ?_, by omega, by omega⟩
    rw [IntKind.wrap_u64, IntKind.wrap_u64]; omega
  · refine ⟨x - y - c, 0, by omega, by omega, ?_, by omega, by omega⟩
    rw [IntKind.wrap_u64, IntKind.wrap_u64]; omega
theorem wadd2 {j i : Nat} (h : j + i ≤ 35184372088832) : wrap64 ((j : Int) + (i : Int)) = ((j + i : Nat) : Int) := by unfold wrap64; omega
theorem nlt2 {a b : Nat} (h : a < b) : (a : Int) < (b : Int) := Int.ofNat_lt.2 h
theorem not_one {e : Nat} (h : e ≤ 1) (k : ¬ e = 1) : e = 0 := by omega
theorem takeOff_l {us vs : List Int} {j : Nat} (hv : ok vs) (hu : ok us) (hj : j + vs.length ≤ us.length) (hl : us.length ≤ 35184372088832) (d : Nat) : ∀ (i c : Nat) (xs : List Int), i + d = vs.length → To us vs xs j i c →
    ∃ ys e, Ev (fun k m _ => abacusref02_takeOff.l29 k m (j : Int) vs (c : Int) (i : Int) xs) (ys, ()) ∧ To us vs ys j vs.length e := by
  induction d with
  | zero =>
    intro i c xs hi T
    rw [Nat.add_zero] at hi
    refine ⟨xs, c, Ev_succ ?_, hi ▸ T⟩
    simp only [abacusref02_takeOff.l29, abacusref02_takeOff.b29, ln_eq]
    exact Ev_neg (by omega) (Ev.now _)
  | succ d ih =>
    intro i c xs hi T
    obtain ⟨x, hx, hxl⟩ := nat_rd hu (j + i)
    obtain ⟨y, hy, hyl⟩ := nat_rd hv i
    have hx' : rd xs ((j + i : Nat) : Int) = (x : Int) := (T.out _ (.inr (Nat.le_refl _))).trans hx
    have iv : i < vs.length := by omega
    have ju : j + i < us.length := by omega
    have jx : j + i < xs.length := by rw [T.len]; exact ju
    have jl : j + i ≤ 35184372088832 := by omega
    have il : i ≤ 35184372088832 := by omega
    have i1 : i + 1 + d = vs.length := by omega
    have wj : wrap64 ((j : Int) + (i : Int)) = ((j + i : Nat) : Int) := wadd2 jl
    have hc1 := T.c1
    obtain ⟨D, e, hD, he, w, hr, hi1⟩ := off_digit hxl hyl hc1
    obtain ⟨ys, e', e1, e2⟩ := ih (i + 1) e _ i1 (T.step ju hx hy hD he hr)
    refine ⟨ys, e', Ev_succ ?_, e2⟩
    have nn : (0 : Int) ≤ ((j + i : Nat) : Int) := Int.natCast_nonneg _
    have cont : Ev (fun k m _ => abacusref02_takeOff.l3663 k (abacusref02_takeOff.l29 k m) (j : Int) vs (e : Int) (i : Int) (D : Int) xs) (ys, ()) := by
      simp only [abacusref02_takeOff.l3663, abacusref02_takeOff.b3663, ln_eq, wj, next i il, Int.toNat_natCast]
      exact Ev_pos nn (Ev_pos (nlt2 jx) e1)
    clear e1 e2 hr T ih hi
    simp only [abacusref02_takeOff.l29, abacusref02_takeOff.b29, ln_eq, wj, hx', hy, w]
    refine Ev_pos (nlt2 iv) (Ev_pos nn (Ev_pos (nlt2 jx) (Ev_pos (Int.natCast_nonneg _) (Ev_pos (nlt2 iv) ?_))))
    clear hx hx' hy w hD hxl hyl
    by_cases h1 : x < y
    · have : e = 1 := hi1.2 (.inl h1)
      subst this
      exact Ev_pos (nlt2 h1) cont
    · refine Ev_neg (fun k => h1 (Int.ofNat_lt.1 k)) ?_
      by_cases h2 : x = y
      · refine Ev_pos (congrArg _ h2) ?_
        by_cases h3 : c = 1
        · have : e = 1 := hi1.2 (.inr ⟨h2, h3⟩)
          subst this
          exact Ev_pos (congrArg _ h3) cont
        · have : e = 0 := not_one he (fun k => h3 ((hi1.1 k).elim (fun k => absurd k h1) And.right))
          subst this
          exact Ev_neg (fun k => h3 (Int.ofNat_inj.1 k)) cont
      · have : e = 0 := not_one he (fun k => h2 ((hi1.1 k).elim (fun k => absurd k h1) And.left))
        subst this
        exact Ev_neg (fun k => h2 (Int.ofNat_inj.1 k)) cont
theorem takeOff_ev {us vs : List Int} {j : Nat} (hv : ok vs) (hu : ok us) (hj : j + vs.length ≤ us.length) (hl : us.length ≤ 35184372088832) : ∃ ys e, Ev (fun k _ _ => abacusref02_takeOff.f k us (j : Int) vs) (ys, ()) ∧ To us vs ys j vs.length e := by
  simp only [abacusref02_takeOff.f, abacusref02_takeOff.b0]
  obtain ⟨ys, e, e1, e2⟩ := takeOff_l hv hu hj hl vs.length 0 0 us (by omega) (To.start hu)
  exact ⟨ys, e, Ev_in (g := fun k m _ => abacusref02_takeOff.l29 k m (j : Int) vs 0 0 us) e1, e2⟩
theorem off_none {V v U b e : Nat} (h : V + v = U + b * e) (hV : V < b) (hv : v ≤ U) (he : e ≤ 1) : V = U - v := by
  have : e = 0 ∨ e = 1 := by omega
  rcases this with rfl | rfl
  · rw [Nat.mul_zero] at h; omega
  · rw [Nat.mul_one] at h; omega
end Go.Proofs.YtobocamcoaeliaaGreatDoor.R2
/- The second reference's division, bit by bit. Conditions: lists of limbs below 2^64, of lengths that a slice has; the divisor above nothing, both below 2^262144. -/
namespace Go.Proofs.YtobocamcoaeliaaGreatDoor.R2
open Go.RowKit Go.Proofs.YtobocamcoaeliaaGreatDoor.Lib Go.Proofs.YtobocamcoaeliaaGreatDoor.LibB Go.Proofs.YtobocamcoaeliaaGreatDoor.F Go.Proofs.YtobocamcoaeliaaGreatDoor.Nat1 Go.Proofs.YtobocamcoaeliaaGreatDoor.Nat2 Go.Proofs.YtobocamcoaeliaaGreatDoor.Bits Go.Proofs.YtobocamcoaeliaaGreatDoor.LongL
open Go.Proofs.YtobocamcoaeliaaGreatDoorA (rd rdr ln ln_eq lnr lnr_eq mx mn shl shr wr wr_eq)
set_option linter.unusedVariables false
set_option linter.unusedSimpArgs false
/-! ### holds -/
theorem win_part {us : List Int} {j n : Nat} : win us j n = val ((us.drop j).take n) := rfl
theorem part_rd {us : List Int} {j n i : Nat} (h : i < n) : rd ((us.drop j).take n) (i : Int) = rd us ((j + i : Nat) : Int) := by rw [rd_take h, rd_drop]
theorem holds_l {us vs : List Int} {j : Nat} (hu : ok us) (hv : ok vs) (hj : j + vs.length ≤ us.length) (hl : us.length ≤ 35184372088832) (i : Nat) : i ≤ vs.length → val (((us.drop j).take vs.length).drop i) = val (vs.drop i) →
    Ev (fun k m _ => abacusref02_holds.l53 k m us (j : Int) vs ((i : Int) - 1)) (decide (val vs ≤ win us j vs.length)) := by
  have hP : ok ((us.drop j).take vs.length) := ok_take (ok_drop hu _) _
  have lP : ((us.drop j).take vs.length).length = vs.length := by rw [List.length_take, List.length_drop]; omega
  induction i with
  | zero =>
    intro _ hz
    refine Ev_succ ?_
    simp only [abacusref02_holds.l53, abacusref02_holds.b53]
    rw [List.drop_zero, List.drop_zero] at hz
    refine Ev_neg (by decide) (Ev_some ?_)
    rw [win_part, hz]
    exact (decide_eq_true (Nat.le_refl _)).symm
  | succ i ih =>
    intro hi hz
    have iv : i < vs.length := hi
    have ju : j + i < us.length := by omega
    have jl : j + i ≤ 35184372088832 := by omega
    have e0 : ((i + 1 : Nat) : Int) - 1 = (i : Int) := by omega
    have e1 : wrap64 ((i : Int) - 1) = (i : Int) - 1 := by unfold wrap64; omega
    have wj := wadd2 jl
    have hr := part_rd (us := us) (j := j) iv
    refine Ev_succ ?_
    simp only [abacusref02_holds.l53, abacusref02_holds.b53, ln_eq, e0, e1, wj]
    refine Ev_pos (Int.natCast_nonneg _) (Ev_pos (Int.natCast_nonneg _) (Ev_pos (nlt2 ju) (Ev_pos (Int.natCast_nonneg _) (Ev_pos (nlt2 iv) ?_))))
    by_cases h2 : rd us ((j + i : Nat) : Int) > rd vs (i : Int)
    · refine Ev_pos h2 (Ev_some ?_)
      have := val_cmp_at hv hP iv (by rw [lP]; exact iv) hz.symm (by rw [hr]; exact h2)
      exact (decide_eq_true (Nat.le_of_lt this)).symm
    · refine Ev_neg h2 (Ev_pos (Int.natCast_nonneg _) (Ev_pos (nlt2 ju) (Ev_pos (Int.natCast_nonneg _) (Ev_pos (nlt2 iv) ?_))))
      by_cases h3 : rd us ((j + i : Nat) : Int) < rd vs (i : Int)
      · refine Ev_pos h3 (Ev_some ?_)
        have := val_cmp_at hP hv (by rw [lP]; exact iv) iv hz (by rw [hr]; exact h3)
        exact (decide_eq_false (Nat.not_le.2 this)).symm
      · refine Ev_neg h3 (ih (Nat.le_of_lt iv) ?_)
        rw [val_drop_cons _ i (by rw [lP]; exact iv), val_drop_cons vs i iv, hr, show rd us ((j + i : Nat) : Int) = rd vs (i : Int) from Int.le_antisymm (Int.not_lt.1 h2) (Int.not_lt.1 h3), hz]
theorem holds_ev {us vs : List Int} {j : Nat} (hu : ok us) (hv : ok vs) (hj : j + vs.length ≤ us.length) (hl : us.length ≤ 35184372088832) : Ev (fun k _ _ => abacusref02_holds.f k us (j : Int) vs) (decide (val vs ≤ win us j vs.length)) := by
  simp only [abacusref02_holds.f, abacusref02_holds.b0, ln_eq]
  have e : wrap64 ((vs.length : Int) - 1) = (vs.length : Int) - 1 := by unfold wrap64; omega
  rw [e]
  have lP : ((us.drop j).take vs.length).length = vs.length := by rw [List.length_take, List.length_drop]; omega
  exact Ev_in (g := fun k m _ => abacusref02_holds.l53 k m us (j : Int) vs ((vs.length : Int) - 1)) (holds_l hu hv hj hl vs.length (Nat.le_refl _) (by rw [List.drop_eq_nil_of_le (Nat.le_of_eq lP), List.drop_length]))
/-! ### the multiples -/
/-- The divisor's multiples by powers of two. -/
def Mv (b n : Nat) (ms : List (List Int)) : Prop := ∀ j, j < ms.length → ok (rdr ms (j : Int)) ∧ (rdr ms (j : Int)).length = n + 1 ∧ val (rdr ms (j : Int)) = b * 2 ^ j
theorem rdr_nat (ms : List (List Int)) (j : Nat) : rdr ms (j : Int) = ms.getD j [] := by simp [rdr]
theorem Mv.snoc {b n : Nat} {ms : List (List Int)} {m : List Int} (h : Mv b n ms) (ho : ok m) (hl : m.length = n + 1) (hv : val m = b * 2 ^ ms.length) : Mv b n (ms ++ [m]) := by
  intro j hj
  rw [List.length_append, List.length_singleton] at hj
  by_cases h1 : j < ms.length
  · have := h j h1
    rw [rdr_nat] at this ⊢
    rw [List.getD_eq_getElem?_getD, List.getElem?_append_left h1, ← List.getD_eq_getElem?_getD]
    exact this
  · have hj' : j = ms.length := by omega
    subst hj'
    rw [rdr_nat, List.getD_eq_getElem?_getD, List.getElem?_append_right (Nat.le_refl _), Nat.sub_self]
    exact ⟨ho, hl, hv⟩
theorem val_take_small {l : List Int} {j : Nat} (h : ok l) (hj : j ≤ l.length) (hv : val l < B j) : val (l.take j) = val l := by
  have h1 := val_split l j
  rw [Nat.min_eq_left hj] at h1
  have h2 : val (l.drop j) = 0 := by
    rcases Nat.eq_zero_or_pos (val (l.drop j)) with h3 | h3
    · exact h3
    · have := Nat.le_mul_of_pos_right (B j) h3
      omega
  rw [h2, Nat.mul_zero, Nat.add_zero] at h1
  exact h1.symm
theorem two64 (k : Nat) (h : k ≤ 64) : 2 ^ k ≤ 18446744073709551616 := Nat.pow_le_pow_right (show 0 < 2 by decide) h
theorem mult_lt {b n k : Nat} (hb : b < B n) (hk : k ≤ 64) : b * 2 ^ k < B (n + 1) := by
  rw [B_succ, Nat.mul_comm _ (B n)]
  exact Nat.mul_lt_mul_of_lt_of_le hb (two64 k hk) (by decide)
theorem step_idx {i d : Nat} (h : i + (d + 1) = 64) : i < 64 ∧ i + 1 ≤ 64 ∧ i + 1 + d = 64 ∧ i ≤ 35184372088832 ∧ i + 1 ≤ 5864062014805 := by omega
theorem small1 {n : Nat} (h : n ≤ 4096) : n + 1 ≤ 17592186044416 ∧ wrap64 ((n : Int) + 1) = ((n + 1 : Nat) : Int) := by
  refine ⟨by omega, ?_⟩
  unfold wrap64; omega
theorem dbl_pow (b i : Nat) : 2 * (b * 2 ^ i) + 0 = b * 2 ^ (i + 1) := by rw [Nat.add_zero, Nat.pow_succ, Nat.mul_comm (2 ^ i), Nat.mul_left_comm]
theorem moved_l {a x y : List Int} {b n : Nat} {R : List Int × List Int} (hb : b < B n) (hy : y.length = n) (hn : n ≤ 4096)
    (cont : ∀ ms, Mv b n ms → ms.length = 64 → Ev (fun k _ _ => abacusref02_Divide.l255 k a x y ms) R) (d : Nat) : ∀ (i : Nat) (m : List Int) (ms : List (List Int)), i + d = 64 → ms.length = i → Mv b n ms → ok m → m.length = n + 1 → val m = b * 2 ^ i →
    Ev (fun k w _ => abacusref02_Divide.l2037 k w a m (i : Int) x y ms) R := by
  induction d with
  | zero =>
    intro i m ms hi hl hm ho hml hv
    refine Ev_succ ?_
    simp only [abacusref02_Divide.l2037, abacusref02_Divide.b2037]
    have i64 : i = 64 := hi
    rw [i64] at hl ⊢
    exact Ev_neg (by decide) (cont ms hm hl)
  | succ d ih =>
    intro i m ms hi hl hm ho hml hv
    obtain ⟨i64, i1, i2, i3, i4⟩ := step_idx hi
    obtain ⟨n1, w1⟩ := small1 hn
    obtain ⟨t, e1, o1, l1, v1⟩ := doubled_ev (x := 0) (b := 0) rfl (by decide) ho (by rw [hml]; exact n1)
    rw [hv, dbl_pow] at v1
    have hlt : val t < B (n + 1) := by rw [v1]; exact mult_lt hb i1
    have tl : n + 1 ≤ t.length := by rw [l1, hml]; exact Nat.le_succ _
    have vt := val_take_small o1 tl hlt
    have tt : (t.take (n + 1)).length = n + 1 := by rw [List.length_take]; exact Nat.min_eq_left tl
    have nx := ih (i + 1) (t.take (n + 1)) (ms ++ [m]) i2 (by rw [List.length_append, hl]; rfl) (hm.snoc ho hml (by rw [hl]; exact hv)) (ok_take o1 _) tt (vt.trans v1)
    have w2 : wrap64 ((i : Int) + 1) = ((i + 1 : Nat) : Int) := next i i3
    rw [← hy] at w1 tl nx
    refine Ev_succ ?_
    simp only [abacusref02_Divide.l2037, abacusref02_Divide.b2037, ln_eq, w1, w2, Int.toNat_natCast]
    exact Ev_pos (nlt2 (b := 64) i64) (Ev_pos (by rw [hl]; exact i4) (Ev.bind e1 (Ev_pos (Int.natCast_nonneg _) (Ev_pos (Int.ofNat_le.2 tl) (Ev_bind_some nx)))))
end Go.Proofs.YtobocamcoaeliaaGreatDoor.R2
/- The second reference's division: the digits. Conditions: as in R2c. -/
namespace Go.Proofs.YtobocamcoaeliaaGreatDoor.R2
open Go.RowKit Go.Proofs.YtobocamcoaeliaaGreatDoor.Lib Go.Proofs.YtobocamcoaeliaaGreatDoor.LibB Go.Proofs.YtobocamcoaeliaaGreatDoor.F Go.Proofs.YtobocamcoaeliaaGreatDoor.Nat1 Go.Proofs.YtobocamcoaeliaaGreatDoor.Nat2 Go.Proofs.YtobocamcoaeliaaGreatDoor.Bits Go.Proofs.YtobocamcoaeliaaGreatDoor.LongL
open Go.Proofs.YtobocamcoaeliaaGreatDoorA (rd rdr ln ln_eq lnr lnr_eq mx mn shl shr wr wr_eq)
set_option linter.unusedVariables false
set_option linter.unusedSimpArgs false
/-- The digit j under way, its bits from k on are found. -/
structure Bt (U V n m : Nat) (j k : Nat) (us qs : List Int) : Prop where
  ul : us.length = m + n
  uo : ok us
  ql : qs.length = m
  qo : ok qs
  qz : ∀ t, t < j → rd qs ((t : Nat) : Int) = 0
  qd : (rd qs ((j : Nat) : Int)).toNat % 2 ^ k = 0
  eq : val qs * V + val us = U
  lt : val (us.drop j) < V * 2 ^ k
theorem pow_half (k : Nat) : 2 ^ (k + 1) = 2 ^ k + 2 ^ k := by rw [Nat.pow_succ]; omega
theorem mod_half {q k : Nat} (h : q % 2 ^ (k + 1) = 0) : q % 2 ^ k = 0 := by
  have : 2 ^ k ∣ 2 ^ (k + 1) := ⟨2, by rw [Nat.pow_succ]⟩
  exact Nat.mod_eq_zero_of_dvd (Nat.dvd_trans this (Nat.dvd_of_mod_eq_zero h))
theorem high_bit {q k : Nat} (hk : k < 64) (h : q % 2 ^ (k + 1) = 0) (hq : q < 18446744073709551616) : q + 2 ^ k < 18446744073709551616 ∧ (q + 2 ^ k) % 2 ^ k = 0 := by
  have hd : (18446744073709551616 : Nat) = 2 ^ (63 - k) * 2 ^ (k + 1) := by rw [← Nat.pow_add, show 63 - k + (k + 1) = 64 by omega]
  obtain ⟨c, hc⟩ := Nat.dvd_of_mod_eq_zero h
  have hp : 0 < 2 ^ (k + 1) := Nat.pow_pos (by decide)
  have hp2 := pow_half k
  refine ⟨?_, ?_⟩
  · rw [hc, hd, Nat.mul_comm] at hq
    have hcl : c < 2 ^ (63 - k) := Nat.lt_of_mul_lt_mul_right hq
    have : 2 ^ (k + 1) * (c + 1) ≤ 2 ^ (k + 1) * 2 ^ (63 - k) := Nat.mul_le_mul_left _ hcl
    rw [Nat.mul_comm _ (2 ^ (63 - k)), ← hd, Nat.mul_add, Nat.mul_one, ← hc] at this
    have h0 : 0 < 2 ^ k := Nat.pow_pos (by decide)
    omega
  · rw [Nat.add_mod_right]; exact mod_half h
theorem or_bit {q k : Nat} (hk : k < 64) (h : q % 2 ^ (k + 1) = 0) (hq : q < 18446744073709551616) : Go.bits .or .u64 (q : Int) (shl .u64 1 (k : Int)) = ((q + 2 ^ k : Nat) : Int) := by
  have hs := shl_u64 (x := 1) (s := k) (by decide) (by omega)
  rw [Int.one_mul] at hs
  have hp : 2 ^ k < 18446744073709551616 := pow_lt_64 hk
  have hm : ((2 ^ k : Nat) : Int) % 18446744073709551616 = ((2 ^ k : Nat) : Int) := by omega
  rw [hs, hm]
  obtain ⟨c, hc⟩ := Nat.dvd_of_mod_eq_zero h
  have hb := (high_bit hk h hq).1
  have hx : (2 : Nat) ^ k < 2 ^ (k + 1) := by have := pow_half k; have : 0 < 2 ^ k := Nat.pow_pos (by decide); omega
  have := or_low (p := (c : Int)) (x := ((2 ^ k : Nat) : Int)) (s := k + 1) (by omega) (by omega) (Int.ofNat_lt.2 hx) (by rw [← Int.natCast_mul, Nat.mul_comm, ← hc]; omega)
  rw [← Int.natCast_mul, Nat.mul_comm, ← hc] at this
  rw [this]
  omega
/-- What the window at a digit is. -/
theorem Bt.win {U V n m j k : Nat} {us qs : List Int} (T : Bt U V n m j k us qs) (hj : j < m) (hb : V * 2 ^ k ≤ B (n + 1)) : win us j (n + 1) = val (us.drop j) := by
  have h1 := drop_high (us := us) (j := j) (k := n + 1) (V := V * 2 ^ k) T.lt hb
  have h2 := val_split (us.drop j) (n + 1)
  rw [List.drop_drop] at h2
  rw [h1, Nat.mul_zero, Nat.add_zero] at h2
  exact h2.symm
theorem Bt.less {U V n m j k : Nat} {us qs : List Int} (T : Bt U V n m j (k + 1) us qs) (h : val (us.drop j) < V * 2 ^ k) : Bt U V n m j k us qs :=
  ⟨T.ul, T.uo, T.ql, T.qo, T.qz, mod_half T.qd, T.eq, h⟩
theorem take_win {us xs : List Int} {j N : Nat} (hl : xs.length = us.length) (hj : j ≤ us.length) (h : ∀ k : Nat, k < j ∨ j + N ≤ k → rd xs (k : Int) = rd us (k : Int)) :
    ∃ L H : Nat, val us = L + B j * (win us j N + B N * H) ∧ val xs = L + B j * (win xs j N + B N * H) ∧ val (us.drop j) = win us j N + B N * H ∧ val (xs.drop j) = win xs j N + B N * H := by
  have e1 : val (xs.take j) = val (us.take j) := by
    have h1 := win_congr (us := xs) (xs := us) (j := 0) j (fun k _ hk => h k (.inl (by omega)))
    unfold LongL.win at h1
    rwa [List.drop_zero, List.drop_zero] at h1
  have e2 : val (xs.drop (j + N)) = val (us.drop (j + N)) := by
    rcases Nat.le_total us.length (j + N) with g | g
    · rw [List.drop_eq_nil_of_le g, List.drop_eq_nil_of_le (by rw [hl]; exact g)]
    · have h1 := win_congr (us := xs) (xs := us) (j := j + N) (us.length) (fun k hk _ => h k (.inr hk))
      rw [win_all (by rw [hl]; omega), win_all (by omega)] at h1
      exact h1
  have s (l : List Int) (hlj : j ≤ l.length) : val l = val (l.take j) + B j * val (l.drop j) ∧ (val (l.drop j) = LongL.win l j N + B N * val (l.drop (j + N)) ) := by
    have a1 := val_split l j
    rw [Nat.min_eq_left hlj] at a1
    refine ⟨a1, ?_⟩
    have a2 := val_split (l.drop j) N
    rw [List.drop_drop] at a2
    rcases Nat.le_total N (l.drop j).length with g | g
    · rw [Nat.min_eq_left g] at a2; exact a2
    · have : val (l.drop (j + N)) = 0 := by
        rw [List.drop_eq_nil_of_le (by rw [List.length_drop] at g; omega), val_nil]
      rw [this, Nat.mul_zero] at a2 ⊢
      exact a2
  obtain ⟨a1, a2⟩ := s us hj
  obtain ⟨b1, b2⟩ := s xs (by rw [hl]; exact hj)
  refine ⟨val (us.take j), val (us.drop (j + N)), by rw [a1, a2], by rw [b1, b2, e1, e2], a2, by rw [b2, e2]⟩
theorem digit_eq {U Q Q' V u x W W' L H b p P : Nat} (h1 : Q * V + u = U) (h2 : Q' = Q + b * p) (h3 : u = L + b * (W + P * H)) (h4 : x = L + b * (W' + P * H)) (h5 : W' + V * p = W) : Q' * V + x = U := by
  rw [h2, h4, Nat.add_mul]
  rw [h3, ← h5] at h1
  rw [← h1, Nat.mul_assoc b p V, Nat.mul_comm p V]
  simp only [Nat.mul_add]
  omega
theorem set_digit {Q Q' b q p : Nat} (h : Q' + b * q = Q + b * (q + p)) : Q' = Q + b * p := by
  rw [Nat.mul_add] at h; omega
theorem low_win {W W' V p P H d d' : Nat} (h1 : d = W + P * H) (h2 : d' = W' + P * H) (h3 : W = d) (h5 : W' + V * p = W) (h6 : d < V * (p + p)) : d' < V * p := by
  rw [Nat.mul_add] at h6; omega
theorem j_facts {j m n L : Nat} (hj : j < m) (hl : L = m + n) : j + (n + 1) ≤ L ∧ j < L ∧ j ≤ L ∧ 0 < L := by omega
theorem Bt.more {U V n m j k e : Nat} {us qs xs : List Int} (T : Bt U V n m j (k + 1) us qs) (hj : j < m) (hk : k < 64) (hb : V * 2 ^ (k + 1) ≤ B (n + 1)) (hx : xs.length = us.length) (ox : ok xs)
    (h5 : LongL.win xs j (n + 1) + V * 2 ^ k = LongL.win us j (n + 1)) (out : ∀ t : Nat, t < j ∨ j + (n + 1) ≤ t → rd xs (t : Int) = rd us (t : Int)) {q : Nat} (hq : rd qs (j : Int) = (q : Int)) (hql : q < 18446744073709551616) :
    Bt U V n m j k xs (qs.set j ((q + 2 ^ k : Nat) : Int)) := by
  obtain ⟨j1, j2, j3, j4⟩ := j_facts hj T.ul
  have hd := T.qd
  rw [hq, Int.toNat_natCast] at hd
  obtain ⟨b1, b2⟩ := high_bit hk hd hql
  have hjq : j < qs.length := by rw [T.ql]; exact hj
  obtain ⟨L, H, u1, u2, u3, u4⟩ := take_win (N := n + 1) hx j3 out
  have hw := T.win hj hb
  have hs := val_set qs j ((q + 2 ^ k : Nat) : Int) hjq
  rw [hq, Int.toNat_natCast, Int.toNat_natCast] at hs
  have hlt := T.lt
  rw [pow_half] at hlt
  refine ⟨hx.trans T.ul, ox, by rw [List.length_set]; exact T.ql, ok_set T.qo _ (Int.natCast_nonneg _) (Int.ofNat_lt.2 b1), fun t ht => ?_, ?_, digit_eq T.eq (set_digit hs) u1 u2 h5, low_win u3 u4 hw h5 hlt⟩
  · rw [rd_set_ne _ _ _ _ (Nat.ne_of_gt ht)]; exact T.qz t ht
  · rw [rd_set_self _ _ _ hjq, Int.toNat_natCast]; exact b2
theorem k_facts {i : Nat} (h : i + 1 ≤ 64) : i < 64 ∧ i ≤ 64 ∧ ((i + 1 : Nat) : Int) - 1 = (i : Int) ∧ wrap64 ((i : Int) - 1) = (i : Int) - 1 ∧ IntKind.u64.wrap (i : Int) = (i : Int) := by
  refine ⟨by omega, by omega, by omega, ?_, ?_⟩
  · unfold wrap64; omega
  · rw [IntKind.wrap_u64]; omega
theorem jw {j : Nat} (h : j ≤ 35184372088832) : wrap64 ((j : Int) - 1) = (j : Int) - 1 := by unfold wrap64; omega
theorem bits_l {U V n m j : Nat} {ms : List (List Int)} {R : List Int × List Int} (hM : Mv V n ms) (h64 : ms.length = 64) (hV : V < B n) (hj : j < m) (hmn : m + n ≤ 17592186044416)
    (cont : ∀ us qs, Bt U V n m j 0 us qs → Ev (fun k w _ => abacusref02_Divide.l16373 k w ((j : Int) - 1) ms us qs) R) (i : Nat) : ∀ us qs, Bt U V n m j i us qs → i ≤ 64 →
    Ev (fun k w p => abacusref02_Divide.l1047845 k (abacusref02_Divide.l16373 k w) p (j : Int) ((i : Int) - 1) ms us qs) R := by
  have jl : j ≤ 35184372088832 := by omega
  induction i with
  | zero =>
    intro us qs T _
    refine Ev_succ2 ?_
    simp only [abacusref02_Divide.l1047845, abacusref02_Divide.b1047845, jw jl]
    exact Ev_neg (by decide) (cont us qs T)
  | succ i ih =>
    intro us qs T hi
    obtain ⟨k1, k2, k3, k4, k5⟩ := k_facts hi
    have im : i < ms.length := by rw [h64]; exact k1
    obtain ⟨om, lm, vm⟩ := hM i im
    have hb : V * 2 ^ (i + 1) ≤ B (n + 1) := Nat.le_of_lt (mult_lt hV hi)
    obtain ⟨j1, j2, j3, j4⟩ := j_facts hj T.ul
    have hw := T.win hj hb
    have ul : us.length ≤ 35184372088832 := by rw [T.ul]; exact Nat.le_trans hmn (by decide)
    have j1' : j + (rdr ms (i : Int)).length ≤ us.length := by rw [lm]; exact j1
    have he := holds_ev (j := j) T.uo om j1' ul
    rw [lm, vm] at he
    have imI : (i : Int) < (ms.length : Int) := nlt2 im
    refine Ev_succ2 ?_
    simp only [abacusref02_Divide.l1047845, abacusref02_Divide.b1047845, ln_eq, lnr_eq, k3, k4, k5]
    refine Ev_pos (Int.natCast_nonneg _) (Ev_pos (Int.natCast_nonneg _) (Ev_pos imI (Ev.bind he ?_)))
    by_cases hc : V * 2 ^ i ≤ LongL.win us j (n + 1)
    · obtain ⟨xs, e, e1, T2⟩ := takeOff_ev (j := j) om T.uo j1' ul
      have hv := T2.v
      rw [lm, val_take_all _ (Nat.le_of_eq lm), vm] at hv
      have hwx := win_lt T2.okx j (n + 1)
      have h5 := off_none hv hwx hc T2.c1
      obtain ⟨q, hq, hql⟩ := nat_rd T.qo j
      have hd := T.qd
      rw [hq, Int.toNat_natCast] at hd
      have T' := T.more (e := 0) hj k1 hb T2.len T2.okx (by rw [h5]; exact Nat.sub_add_cancel hc) (fun t ht => T2.out t (by rw [lm]; exact ht)) hq hql
      have jq : (j : Int) < (qs.length : Int) := by rw [T.ql]; exact nlt2 hj
      have nx := ih _ _ T' k2
      rw [← or_bit k1 hd hql, ← hq] at nx
      rw [decide_eq_true hc]
      refine Ev_pos rfl (Ev_pos (Int.natCast_nonneg _) (Ev_pos imI (Ev_pos (nlt2 j4) (Ev.bind e1 ?_))))
      exact Ev_pos (Int.natCast_nonneg _) (Ev_pos jq (Ev_pos (Int.natCast_nonneg _) (Ev_pos (Int.natCast_nonneg _) (Ev_pos jq (by rw [Int.toNat_natCast]; exact nx)))))
    · rw [decide_eq_false hc]
      exact Ev_neg (by simp) (ih us qs (T.less (by rw [← hw]; exact Nat.not_le.1 hc)) k2)
theorem top_digit {a V x : Nat} (h : x < V) (ha : a < 18446744073709551616) : a + 18446744073709551616 * x < V * 18446744073709551616 := by omega
theorem last_two {U V Q u : Nat} (h : Q * V + u = U) (hu : u < V) : Q = U / V ∧ u = U % V := by
  have hV : 0 < V := by omega
  have h1 : U / V = Q := by
    rw [← h, Nat.mul_comm Q V, Nat.mul_add_div hV, Nat.div_eq_of_lt hu, Nat.add_zero]
  have h2 := Nat.div_add_mod U V
  rw [h1, Nat.mul_comm V Q] at h2
  exact ⟨h1.symm, by omega⟩
theorem digits_l {U V n m : Nat} {ms : List (List Int)} (hM : Mv V n ms) (h64 : ms.length = 64) (hV : V < B n) (hmn : m + n ≤ 17592186044416) (j : Nat) : ∀ us qs, Lg U V n m j us qs → j ≤ m →
    Ev (fun k w _ => abacusref02_Divide.l16373 k w ((j : Int) - 1) ms us qs) (lim (U / V), lim (U % V)) := by
  induction j with
  | zero =>
    intro us qs L _
    have hlt := L.lt
    rw [List.drop_zero] at hlt
    obtain ⟨h1, h2⟩ := last_two L.eq hlt
    have ql : qs.length ≤ 35184372088832 := by rw [L.ql]; omega
    have ul : us.length ≤ 35184372088832 := by rw [L.ul]; omega
    have s1 := Short_ev L.qo ql
    have s2 := Short_ev L.uo ul
    rw [h1] at s1
    rw [h2] at s2
    refine Ev_succ ?_
    simp only [abacusref02_Divide.l16373, abacusref02_Divide.b16373, abacusref02_Divide.l2047, abacusref02_Divide.b2047]
    exact Ev_neg (by decide) (Ev.bind s1 (Ev.bind s2 (Ev.now _)))
  | succ j ih =>
    intro us qs L hjm
    have hj : j < m := hjm
    have ju : j < us.length := by rw [L.ul]; omega
    obtain ⟨x, hx, hxl⟩ := nat_rd L.uo j
    have e0 : ((j + 1 : Nat) : Int) - 1 = (j : Int) := by omega
    have T : Bt U V n m j 64 us qs := by
      refine ⟨L.ul, L.uo, L.ql, L.qo, fun t ht => L.qz t (Nat.lt_succ_of_lt ht), by rw [L.qz j (Nat.lt_succ_self j)]; exact Nat.zero_mod _, L.eq, ?_⟩
      rw [val_drop_cons us j ju, hx, Int.toNat_natCast]
      exact top_digit L.lt hxl
    have nx := bits_l hM h64 hV hj hmn (R := (lim (U / V), lim (U % V))) (fun us qs T => ih us qs ⟨T.ul, T.uo, T.ql, T.qo, T.qz, T.eq, by have := T.lt; rwa [Nat.pow_zero, Nat.mul_one] at this⟩ (Nat.le_of_lt hj)) 64 us qs T (Nat.le_refl _)
    refine Ev_succ ?_
    simp only [abacusref02_Divide.l16373, abacusref02_Divide.b16373, e0]
    exact Ev_pos (Int.natCast_nonneg _) (Ev_in2 (g := fun k w p => abacusref02_Divide.l1047845 k (abacusref02_Divide.l16373 k w) p (j : Int) 63 ms us qs) nx)
end Go.Proofs.YtobocamcoaeliaaGreatDoor.R2
/- The second reference's quotient and rest. Conditions: lists of limbs below 2^64, of lengths that a slice has. -/
namespace Go.Proofs.YtobocamcoaeliaaGreatDoor.R2
open Go.RowKit Go.Proofs.YtobocamcoaeliaaGreatDoor.Lib Go.Proofs.YtobocamcoaeliaaGreatDoor.LibB Go.Proofs.YtobocamcoaeliaaGreatDoor.F Go.Proofs.YtobocamcoaeliaaGreatDoor.Nat1 Go.Proofs.YtobocamcoaeliaaGreatDoor.Nat2 Go.Proofs.YtobocamcoaeliaaGreatDoor.Bits Go.Proofs.YtobocamcoaeliaaGreatDoor.LongL
open Go.Proofs.YtobocamcoaeliaaGreatDoor.Quot1 (dmAns)
open Go.Proofs.YtobocamcoaeliaaGreatDoorA (rd rdr ln ln_eq lnr lnr_eq mx mn shl shr wr wr_eq)
set_option linter.unusedVariables false
set_option linter.unusedSimpArgs false
theorem room1 (l : List Int) : ok (l ++ [0]) ↔ ok l := ⟨fun h x hx => h x (List.mem_append_left _ hx), fun h => ok_append h (fun x hx => by simp at hx; subst hx; omega)⟩
theorem val_room (l : List Int) : val (l ++ [0]) = val l := by rw [val_append, val_cons, val_nil]; simp
theorem len_room (l : List Int) : (l ++ [0]).length = l.length + 1 := by rw [List.length_append]; rfl
theorem lens {lu lv : Nat} (h0 : 0 < lv) (h1 : lv ≤ lu) (h2 : lu ≤ 4096) : wrap64 ((lu : Int) - (lv : Int)) = (((lu - lv + 1 : Nat) : Int) - 1) ∧ wrap64 (((lu - lv + 1 : Nat) : Int) - 1 + 1) = ((lu - lv + 1 : Nat) : Int) ∧ lu - lv + 1 ≤ 35184372088832 ∧ lu + 1 = lu - lv + 1 + lv ∧ lu - lv + 1 ≤ lu ∧ lu - (lu - lv + 1) = lv - 1 ∧ lu - lv + 1 + lv ≤ 17592186044416 := by
  refine ⟨?_, ?_, by omega, by omega, by omega, by omega, by omega⟩
  · unfold wrap64; omega
  · unfold wrap64; omega
theorem Lg_start {U V : Nat} (hV : V ≠ 0) (hVU : (lim V).length ≤ (lim U).length) (hU : (lim U).length ≤ 4096) : Lg U V (lim V).length ((lim U).length - (lim V).length + 1) ((lim U).length - (lim V).length + 1) (lim U ++ [0]) (List.replicate ((lim U).length - (lim V).length + 1) 0) := by
  have hz := @lim_len_zero V
  obtain ⟨_, _, _, e3, e4, e5, _⟩ := lens (lu := (lim U).length) (lv := (lim V).length) (Nat.pos_of_ne_zero (fun k => hV (hz.1 k))) hVU hU
  refine ⟨by rw [len_room]; exact e3, (room1 _).2 (ok_lim U), List.length_replicate .., ok_replicate _, fun k _ => ?_, by rw [val_replicate, Nat.zero_mul, Nat.zero_add, val_room, val_lim], ?_⟩
  · rw [rd_nat, List.getD_eq_getElem?_getD, List.getElem?_replicate]
    split <;> rfl
  · rw [List.drop_append_of_le_length e4, val_room]
    have h1 := val_lt (ok_drop (ok_lim U) ((lim U).length - (lim V).length + 1))
    rw [List.length_drop, e5] at h1
    exact Nat.lt_of_lt_of_le h1 (lim_len_ge V hV)
theorem len_mono' {m n : Nat} (h : m ≤ n) : (lim m).length ≤ (lim n).length := (lim_len_le _ _).2 (Nat.lt_of_le_of_lt h ((lim_len_le n _).1 (Nat.le_refl _)))
theorem Divide_ev {a b : List Int} {U V : Nat} (ha : ok a) (hb : ok b) (hla : a.length ≤ 35184372088832) (hlb : b.length ≤ 35184372088832) (hU : val a = U) (hV : val b = V) (bU : U < B 4096) (bV : V < B 4096) (h0 : V ≠ 0) :
    Ev (fun k _ _ => abacusref02_Divide.f k a b) (lim (U / V), lim (U % V)) := by
  have s1 := Short_ev ha hla
  have s2 := Short_ev hb hlb
  rw [hU] at s1
  rw [hV] at s2
  have lu : (lim U).length ≤ 4096 := (lim_len_le U 4096).2 bU
  have lv : (lim V).length ≤ 4096 := (lim_len_le V 4096).2 bV
  have oc := order_lim (u := U) (v := V) (Nat.le_trans lu (by decide)) (Nat.le_trans lv (by decide))
  simp only [abacusref02_Divide.f, abacusref02_Divide.b0]
  refine Ev.bind s1 (Ev.bind s2 (Ev.bind oc ?_))
  rcases Nat.lt_or_ge U V with h | h
  · rw [Nat.div_eq_of_lt h, Nat.mod_eq_of_lt h, lim_zero]
    exact Ev_pos ((cmp_neg U V).2 h) (Ev.now _)
  · have vu := len_mono' h
    have hz := @lim_len_zero V
    obtain ⟨w1, w2, w3, _, _, _, w4⟩ := lens (lu := (lim U).length) (lv := (lim V).length) (Nat.pos_of_ne_zero (fun k => h0 (hz.1 k))) vu lu
    refine Ev_neg (fun k => absurd ((cmp_neg U V).1 k) (Nat.not_lt.2 h)) (Ev.bind s2 (Ev_pos (Nat.le_trans (Nat.succ_le_succ lv) (by decide)) ?_))
    refine Ev_in (g := fun k w _ => abacusref02_Divide.l2037 k w a (lim V ++ [0]) 0 (lim U) (lim V) []) ?_
    refine moved_l (b := V) (n := (lim V).length) ((lim_len_le _ _).1 (Nat.le_refl _)) rfl lv (fun ms hm h64 => ?_) 64 0 (lim V ++ [0]) [] rfl rfl (fun j hj => absurd hj (Nat.not_lt_zero _)) ((room1 _).2 (ok_lim V)) (len_room _) (by rw [val_room, val_lim, Nat.pow_zero, Nat.mul_one])
    simp only [abacusref02_Divide.l255, abacusref02_Divide.b255, ln_eq, w1, w2, Int.toNat_natCast]
    refine Ev.bind s1 (Ev_pos (Nat.le_trans (Nat.succ_le_succ lu) (by decide)) (Ev_pos (Int.natCast_nonneg _) (Ev_pos w3 ?_)))
    exact Ev_in (g := fun k w _ => abacusref02_Divide.l16373 k w (((((lim U).length - (lim V).length + 1 : Nat)) : Int) - 1) ms (lim U ++ [0]) (List.replicate ((lim U).length - (lim V).length + 1) (0 : Int))) (digits_l hm h64 ((lim_len_le _ _).1 (Nat.le_refl _)) w4 _ _ _ (Lg_start h0 vu lu) (Nat.le_refl _))
end Go.Proofs.YtobocamcoaeliaaGreatDoor.R2
