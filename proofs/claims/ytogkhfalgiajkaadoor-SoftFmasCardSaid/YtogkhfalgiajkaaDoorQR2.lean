/- What the second reference computes: Short, doubled, Order, takeOff, Root. Conditions: lists of limbs below 2^64, of lengths that a slice has. -/
import Derived.Test.YtogkhfalgiajkaaDoorQQuot1
namespace Go.Proofs.YtogkhfalgiajkaaDoor.R2
open Go.RowKit Go.Proofs.YtogkhfalgiajkaaDoor.Lib Go.Proofs.YtogkhfalgiajkaaDoor.LibB Go.Proofs.YtogkhfalgiajkaaDoor.F Go.Proofs.YtogkhfalgiajkaaDoor.Nat1 Go.Proofs.YtogkhfalgiajkaaDoor.Nat2 Go.Proofs.YtogkhfalgiajkaaDoor.Bits Go.Proofs.YtogkhfalgiajkaaDoor.LongL
open Go.Proofs.YtogkhfalgiajkaaDoorA (rd ln ln_eq mx mn shl shr wr wr_eq)
set_option linter.unusedVariables false
set_option linter.unusedSimpArgs false
theorem take_set_snoc {out : List Int} {i : Nat} (h : i < out.length) (x : Int) : (out.set i x).take (i + 1) = out.take i ++ [x] := by
  rw [List.take_succ_eq_append_getElem (by rw [List.length_set]; exact h), take_set_ge _ _ _ _ (Nat.le_refl i)]
  congr 1
  simp
theorem take_rd {l : List Int} {i : Nat} (h : i < l.length) : l.take (i + 1) = l.take i ++ [rd l (i : Int)] := by
  rw [List.take_succ_eq_append_getElem h, rd_nat, List.getD_eq_getElem?_getD, List.getElem?_eq_getElem h]; rfl
theorem next (i : Nat) (h : i ≤ 35184372088832) : wrap64 ((i : Int) + 1) = ((i + 1 : Nat) : Int) := by unfold wrap64; omega
/-! ### Short -/
theorem short_copy {l : List Int} {n : Nat} (hn : n ≤ l.length) (hl : l.length ≤ 35184372088832) (d : Nat) : ∀ (i : Nat) (out : List Int), i + d = n → out.length = n → out.take i = l.take i →
    Ev (fun k m _ => abacusref02_Short.l245 k m l (n : Int) (i : Int) out) (l.take n) := by
  induction d with
  | zero =>
    intro i out hi ho ht
    refine Ev_succ ?_
    simp only [abacusref02_Short.l245, abacusref02_Short.b245, ln_eq]
    refine Ev_neg (by omega) (Ev_some ?_)
    rw [show i = n by omega] at ht
    rw [← ht, List.take_of_length_le (by omega)]
  | succ d ih =>
    intro i out hi ho ht
    refine Ev_succ ?_
    simp only [abacusref02_Short.l245, abacusref02_Short.b245, ln_eq, next i (by omega), Int.toNat_natCast]
    refine Ev_pos (by omega) (Ev_pos (by omega) (Ev_pos (by omega) (Ev_pos (by omega) (Ev_pos (by omega) (ih (i + 1) _ (by omega) (by rw [List.length_set]; exact ho) ?_)))))
    rw [take_set_snoc (by omega), take_rd (by omega), ht]
theorem Short_ev {l : List Int} (h : ok l) (hl : l.length ≤ 35184372088832) : Ev (fun k _ _ => abacusref02_Short.f k l) (lim (val l)) := by
  simp only [abacusref02_Short.f, abacusref02_Short.b0]
  have hle := lim_len_val_le h
  refine Ev.bind (abacusref02_Top_ev h (by omega)) (Ev_pos (by omega) (Ev_pos (by rw [Int.toNat_natCast]; omega) ?_))
  rw [Int.toNat_natCast]
  have := short_copy hle hl _ 0 (List.replicate (lim (val l)).length 0) (Nat.zero_add _) (List.length_replicate ..) rfl
  rw [take_lim h] at this
  exact Ev_in (g := fun k m _ => abacusref02_Short.l245 k m l ((lim (val l)).length : Int) 0 (List.replicate (lim (val l)).length (0 : Int))) this
/-! ### doubled -/
theorem dbl_digit {p c : Nat} (hp : p < 18446744073709551616) (hc : c ≤ 1) : Go.bits .or .u64 (IntKind.u64.wrap ((p : Int) * 2)) (c : Int) = ((2 * p % 18446744073709551616 + c : Nat) : Int) := by
  have e : IntKind.u64.wrap ((p : Int) * 2) = ((p % 9223372036854775808 : Nat) : Int) * ((2 ^ 1 : Nat) : Int) := by rw [IntKind.wrap_u64]; omega
  rw [e, or_low (by omega) (by omega) (by omega) (by omega)]
  omega
theorem dbl_carry (p : Nat) : (p : Int) / 9223372036854775808 = ((2 * p / 18446744073709551616 : Nat) : Int) := by omega
theorem dbl_row {P V S b c d e p : Nat} (h1 : V + P * c = 2 * S + b) (h2 : d + 18446744073709551616 * e = p + p + c) : V + P * d + (18446744073709551616 * P) * e = 2 * (S + P * p) + b := by
  have h4 : P * (d + 18446744073709551616 * e) = P * (p + p + c) := by rw [h2]
  rw [Nat.mul_add, Nat.mul_add, Nat.mul_add, ← Nat.mul_assoc] at h4
  rw [Nat.mul_comm 18446744073709551616 P]
  omega
theorem dbl_eq {p c : Nat} : 2 * p % 18446744073709551616 + c + 18446744073709551616 * (2 * p / 18446744073709551616) = p + p + c := by omega
theorem dbl_lt {p c : Nat} (hp : p < 18446744073709551616) (hc : c ≤ 1) : 2 * p % 18446744073709551616 + c < 18446744073709551616 ∧ 2 * p / 18446744073709551616 ≤ 1 := by omega
theorem nat_rd {l : List Int} (h : ok l) (i : Nat) : ∃ p : Nat, rd l (i : Int) = (p : Int) ∧ p < 18446744073709551616 := by
  have := ok_rd h (i : Int)
  exact ⟨(rd l (i : Int)).toNat, by omega, by omega⟩
theorem doubled_l {l : List Int} {b : Nat} (h : ok l) (hl : l.length ≤ 17592186044416) (d : Nat) : ∀ (i c : Nat) (out : List Int), i + d = l.length → c ≤ 1 → out.length = l.length + 1 → ok out → Aside0 (val (out.take i) + B i * c = 2 * val (l.take i) + b) →
    ∃ r, Ev (fun k m _ => abacusref02_doubled.l245 k m l (c : Int) (i : Int) out) r ∧ ok r ∧ r.length = l.length + 1 ∧ val r = 2 * val l + b := by
  induction d with
  | zero =>
    intro i c out hi hc ho hk hv
    have hi' : i = l.length := by omega
    subst hi'
    refine ⟨out.set l.length (c : Int), Ev_succ ?_, ok_set hk _ (by omega) (by omega), by rw [List.length_set]; exact ho, ?_⟩
    · simp only [abacusref02_doubled.l245, abacusref02_doubled.b245, ln_eq, Int.toNat_natCast]
      exact Ev_neg (by omega) (Ev_pos (by omega) (Ev_pos (by omega) (Ev.now _)))
    · have h1 := val_take_set out l.length (c : Int) (by omega)
      rw [val_take_all _ (by rw [List.length_set]; omega), Int.toNat_natCast, hv.out, val_take_all _ (Nat.le_refl _)] at h1
      exact h1
  | succ d ih =>
    intro i c out hi hc ho hk hv
    obtain ⟨p, hp, hpl⟩ := nat_rd h i
    have h1 := val_take_set out i ((2 * p % 18446744073709551616 + c : Nat) : Int) (by omega)
    have h2 := val_take_succ l i
    rw [hp, Int.toNat_natCast] at h2
    rw [Int.toNat_natCast] at h1
    have hD := dbl_lt hpl hc
    have hr := dbl_row hv.out (dbl_eq (p := p) (c := c))
    rw [← h1, ← h2, ← B_succ] at hr
    obtain ⟨r, e1, e2⟩ := ih (i + 1) (2 * p / 18446744073709551616) (out.set i ((2 * p % 18446744073709551616 + c : Nat) : Int)) (by omega) hD.2 (by rw [List.length_set]; exact ho) (ok_set hk _ (Int.natCast_nonneg _) (Int.ofNat_lt.2 hD.1)) ⟨hr⟩
    clear h1 h2 hr hv
    refine ⟨r, Ev_succ ?_, e2⟩
    simp only [abacusref02_doubled.l245, abacusref02_doubled.b245, ln_eq, next i (by omega), Int.toNat_natCast, hp, dbl_digit hpl hc, dbl_carry]
    exact Ev_pos (by omega) (Ev_pos (by omega) (Ev_pos (by omega) (Ev_pos (by omega) (Ev_pos (by omega) (Ev_pos (by omega) (Ev_pos (by omega) e1))))))
theorem doubled_ev {l : List Int} {x : Int} {b : Nat} (hx : x = (b : Int)) (hb : b ≤ 1) (h : ok l) (hl : l.length ≤ 17592186044416) : ∃ r, Ev (fun k _ _ => abacusref02_doubled.f k l x) r ∧ ok r ∧ r.length = l.length + 1 ∧ val r = 2 * val l + b := by
  subst hx
  simp only [abacusref02_doubled.f, abacusref02_doubled.b0, ln_eq]
  obtain ⟨r, e1, e2⟩ := doubled_l (b := b) h hl l.length 0 b (List.replicate (l.length + 1) 0) (by omega) hb (List.length_replicate ..) (ok_replicate _) ⟨by rw [List.take_zero, List.take_zero, val_nil, B_zero]; omega⟩
  refine ⟨r, ?_, e2⟩
  rw [next _ (by omega), Int.toNat_natCast]
  exact Ev_pos (by omega) (Ev_pos (by omega) (Ev_in (g := fun k m _ => abacusref02_doubled.l245 k m l (b : Int) 0 (List.replicate (l.length + 1) (0 : Int))) e1))
/-! ### Order -/
theorem order_l {a b : List Int} (ha : ok a) (hb : ok b) (hl : a.length ≤ 9223372036854775807) (i : Nat) : i ≤ a.length → i ≤ b.length → val (a.drop i) = val (b.drop i) →
    Ev (fun n m _ => abacusref02_Order.l1013 n m a b ((i : Int) - 1)) (cmp (val a) (val b)) := by
  induction i with
  | zero =>
    intro _ _ hz
    refine Ev_succ ?_
    simp only [abacusref02_Order.l1013, abacusref02_Order.b1013, ln_eq]
    refine Ev_neg (by omega) (Ev_some ?_)
    rw [List.drop_zero, List.drop_zero] at hz
    rw [hz, cmp_self]
  | succ i ih =>
    intro hia hib hz
    have e0 : ((i + 1 : Nat) : Int) - 1 = (i : Int) := by omega
    have e1 : wrap64 ((i : Int) - 1) = (i : Int) - 1 := by unfold wrap64; omega
    refine Ev_succ ?_
    simp only [abacusref02_Order.l1013, abacusref02_Order.b1013, ln_eq, e0, e1]
    refine Ev_pos (by omega) (Ev_pos (by omega) (Ev_pos (by omega) (Ev_pos (by omega) (Ev_pos (by omega) ?_))))
    by_cases h2 : rd a (i : Int) < rd b (i : Int)
    · refine Ev_pos h2 (Ev_some ?_)
      rw [cmp_lt (val_cmp_at ha hb (by omega) (by omega) hz h2)]
    · refine Ev_neg h2 (Ev_pos (by omega) (Ev_pos (by omega) (Ev_pos (by omega) (Ev_pos (by omega) ?_))))
      by_cases h3 : rd a (i : Int) > rd b (i : Int)
      · refine Ev_pos h3 (Ev_some ?_)
        rw [cmp_gt (val_cmp_at hb ha (by omega) (by omega) hz.symm h3)]
      · refine Ev_neg h3 (ih (by omega) (by omega) ?_)
        rw [val_drop_cons a i (by omega), val_drop_cons b i (by omega), show rd a (i : Int) = rd b (i : Int) by omega, hz]
theorem Order_ev {a b : List Int} (ha : ok a) (hb : ok b) (hla : a.length ≤ 9223372036854775807) (hlb : b.length ≤ 9223372036854775807) : Ev (fun n _ _ => abacusref02_Order.f n a b) (cmp (val a) (val b)) := by
  simp only [abacusref02_Order.f, abacusref02_Order.b0]
  have sa := lim_len_val_le ha
  have sb := lim_len_val_le hb
  refine Ev.bind (abacusref02_Top_ev ha hla) (Ev.bind (abacusref02_Top_ev hb hlb) ?_)
  by_cases h2 : (lim (val a)).length < (lim (val b)).length
  · exact Ev_pos (by omega) (Ev_some (cmp_lt (lim_len_lt h2)).symm)
  refine Ev_neg (by omega) ?_
  by_cases h3 : (lim (val b)).length < (lim (val a)).length
  · exact Ev_pos (by omega) (Ev_some (cmp_gt (lim_len_lt h3)).symm)
  refine Ev_neg (by omega) ?_
  have h : (lim (val a)).length = (lim (val b)).length := by omega
  have e : wrap64 (((lim (val a)).length : Int) - 1) = ((lim (val a)).length : Int) - 1 := by unfold wrap64; omega
  rw [e]
  refine Ev_in (g := fun n m _ => abacusref02_Order.l1013 n m a b (((lim (val a)).length : Int) - 1)) ?_
  exact order_l ha hb hla _ sa (by omega) (by rw [val_drop_lim ha, h, val_drop_lim hb])
theorem order_lim {u v : Nat} (hu : (lim u).length ≤ 35184372088832) (hv : (lim v).length ≤ 35184372088832) : Ev (fun n _ _ => abacusref02_Order.f n (lim u) (lim v)) (cmp u v) := by
  have := Order_ev (ok_lim u) (ok_lim v) (by omega) (by omega)
  rwa [val_lim, val_lim] at this
/-! ### takeOff -/
structure To (us vs xs : List Int) (j i : Nat) (c : Nat) : Prop where
  len : xs.length = us.length
  okx : ok xs
  c1 : c ≤ 1
  v : win xs j i + val (vs.take i) = win us j i + B i * c
  out : ∀ k : Nat, k < j ∨ j + i ≤ k → rd xs (k : Int) = rd us (k : Int)
theorem To.start {us vs : List Int} {j : Nat} (h : ok us) : To us vs us j 0 0 := ⟨rfl, h, by omega, by rw [win_zero, List.take_zero, val_nil, Nat.mul_zero], fun _ _ => rfl⟩
theorem To.step {us vs xs : List Int} {j i c x y D e : Nat} (T : To us vs xs j i c) (hj : j + i < us.length) (hx : rd us ((j + i : Nat) : Int) = (x : Int)) (hy : rd vs (i : Int) = (y : Int)) (hD : D < 18446744073709551616) (he : e ≤ 1) (h : D + y + c = x + 18446744073709551616 * e) :
    To us vs (xs.set (j + i) (D : Int)) j (i + 1) e := by
  refine ⟨by rw [List.length_set]; exact T.len, ok_set T.okx _ (by omega) (by omega), he, ?_, fun k hk => ?_⟩
  · rw [win_succ, rd_set_self _ _ _ (by rw [T.len]; exact hj), win_set_out (by omega), val_take_succ, hy, win_succ, hx, Int.toNat_natCast, Int.toNat_natCast, Int.toNat_natCast, B_succ]
    exact sub_row T.v h
  · rw [rd_set_ne _ _ _ _ (by omega)]
    exact T.out k (by omega)
theorem off_digit {x y c : Nat} (hx : x < 18446744073709551616) (hy : y < 18446744073709551616) (hc : c ≤ 1) : ∃ D e : Nat, D < 18446744073709551616 ∧ e ≤ 1 ∧ IntKind.u64.wrap (IntKind.u64.wrap ((x : Int) - (y : Int)) - (c : Int)) = (D : Int) ∧ D + y + c = x + 18446744073709551616 * e ∧ (e = 1 ↔ x < y ∨ (x = y ∧ c = 1)) := by
  by_cases h : x < y + c
  · refine ⟨x + 18446744073709551616 - y - c, 1, by omega, by omega, ?_, by omega, by omega⟩
    rw [IntKind.wrap_u64, IntKind.wrap_u64]; omega
  · refine ⟨x - y - c, 0, by omega, by omega, ?_, by omega, by omega⟩
    rw [IntKind.wrap_u64, IntKind.wrap_u64]; omega
theorem wadd2 {j i : Nat} (h : j + i ≤ 35184372088832) : wrap64 ((j : Int) + (i : Int)) = ((j + i : Nat) : Int) := by unfold wrap64; omega
theorem nlt2 {a b : Nat} (h : a < b) : (a : Int) < (b : Int) := Int.ofNat_lt.2 h
theorem not_one {e : Nat} (h : e ≤ 1) (k : ¬ e = 1) : e = 0 := by omega
theorem takeOff_l {us vs : List Int} {j : Nat} (hv : ok vs) (hu : ok us) (hj : j + vs.length ≤ us.length) (hl : us.length ≤ 35184372088832) (d : Nat) : ∀ (i c : Nat) (xs : List Int), i + d = vs.length → To us vs xs j i c →
    ∃ ys e, Ev (fun k m _ => abacusref02_takeOff.l29 k m (j : Int) vs (c : Int) (i : Int) xs) (ys, ()) ∧ To us vs ys j vs.length e := by
  induction d with
  | zero =>
    intro i c xs hi T
    rw [Nat.add_zero] at hi
    refine ⟨xs, c, Ev_succ ?_, hi ▸ T⟩
    simp only [abacusref02_takeOff.l29, abacusref02_takeOff.b29, ln_eq]
    exact Ev_neg (by omega) (Ev.now _)
  | succ d ih =>
    intro i c xs hi T
    obtain ⟨x, hx, hxl⟩ := nat_rd hu (j + i)
    obtain ⟨y, hy, hyl⟩ := nat_rd hv i
    have hx' : rd xs ((j + i : Nat) : Int) = (x : Int) := (T.out _ (.inr (Nat.le_refl _))).trans hx
    have iv : i < vs.length := by omega
    have ju : j + i < us.length := by omega
    have jx : j + i < xs.length := by rw [T.len]; exact ju
    have jl : j + i ≤ 35184372088832 := by omega
    have il : i ≤ 35184372088832 := by omega
    have i1 : i + 1 + d = vs.length := by omega
    have wj : wrap64 ((j : Int) + (i : Int)) = ((j + i : Nat) : Int) := wadd2 jl
    have hc1 := T.c1
    obtain ⟨D, e, hD, he, w, hr, hi1⟩ := off_digit hxl hyl hc1
    obtain ⟨ys, e', e1, e2⟩ := ih (i + 1) e _ i1 (T.step ju hx hy hD he hr)
    refine ⟨ys, e', Ev_succ ?_, e2⟩
    have nn : (0 : Int) ≤ ((j + i : Nat) : Int) := Int.natCast_nonneg _
    have cont : Ev (fun k m _ => abacusref02_takeOff.l3663 k (abacusref02_takeOff.l29 k m) (j : Int) vs (e : Int) (i : Int) (D : Int) xs) (ys, ()) := by
      simp only [abacusref02_takeOff.l3663, abacusref02_takeOff.b3663, ln_eq, wj, next i il, Int.toNat_natCast]
      exact Ev_pos nn (Ev_pos (nlt2 jx) e1)
    clear e1 e2 hr T ih hi
    simp only [abacusref02_takeOff.l29, abacusref02_takeOff.b29, ln_eq, wj, hx', hy, w]
    refine Ev_pos (nlt2 iv) (Ev_pos nn (Ev_pos (nlt2 jx) (Ev_pos (Int.natCast_nonneg _) (Ev_pos (nlt2 iv) ?_))))
    clear hx hx' hy w hD hxl hyl
    by_cases h1 : x < y
    · have : e = 1 := hi1.2 (.inl h1)
      subst this
      exact Ev_pos (nlt2 h1) cont
    · refine Ev_neg (fun k => h1 (Int.ofNat_lt.1 k)) ?_
      by_cases h2 : x = y
      · refine Ev_pos (congrArg _ h2) ?_
        by_cases h3 : c = 1
        · have : e = 1 := hi1.2 (.inr ⟨h2, h3⟩)
          subst this
          exact Ev_pos (congrArg _ h3) cont
        · have : e = 0 := not_one he (fun k => h3 ((hi1.1 k).elim (fun k => absurd k h1) And.right))
          subst this
          exact Ev_neg (fun k => h3 (Int.ofNat_inj.1 k)) cont
      · have : e = 0 := not_one he (fun k => h2 ((hi1.1 k).elim (fun k => absurd k h1) And.left))
        subst this
        exact Ev_neg (fun k => h2 (Int.ofNat_inj.1 k)) cont
theorem takeOff_ev {us vs : List Int} {j : Nat} (hv : ok vs) (hu : ok us) (hj : j + vs.length ≤ us.length) (hl : us.length ≤ 35184372088832) : ∃ ys e, Ev (fun k _ _ => abacusref02_takeOff.f k us (j : Int) vs) (ys, ()) ∧ To us vs ys j vs.length e := by
  simp only [abacusref02_takeOff.f, abacusref02_takeOff.b0]
  obtain ⟨ys, e, e1, e2⟩ := takeOff_l hv hu hj hl vs.length 0 0 us (by omega) (To.start hu)
  exact ⟨ys, e, Ev_in (g := fun k m _ => abacusref02_takeOff.l29 k m (j : Int) vs 0 0 us) e1, e2⟩
theorem off_none {V v U b e : Nat} (h : V + v = U + b * e) (hV : V < b) (hv : v ≤ U) (he : e ≤ 1) : V = U - v := by
  have : e = 0 ∨ e = 1 := by omega
  rcases this with rfl | rfl
  · rw [Nat.mul_zero] at h; omega
  · rw [Nat.mul_one] at h; omega
/-- Taken off from the lowest limb on, as many limbs as there are. -/
theorem takeOff_all {us vs : List Int} (hv : ok vs) (hu : ok us) (hj : vs.length = us.length) (hl : us.length ≤ 35184372088832) (hle : val vs ≤ val us) : ∃ ys, Ev (fun k _ _ => abacusref02_takeOff.f k us 0 vs) (ys, ()) ∧ ok ys ∧ ys.length = us.length ∧ val ys = val us - val vs := by
  obtain ⟨ys, e, e1, T⟩ := takeOff_ev (j := 0) hv hu (by omega) hl
  refine ⟨ys, e1, T.okx, T.len, ?_⟩
  have h := T.v
  rw [Go.Proofs.YtogkhfalgiajkaaDoor.Long.win_self (by rw [T.len]; exact hj.symm), Go.Proofs.YtogkhfalgiajkaaDoor.Long.win_self hj.symm, val_take_all _ (Nat.le_refl _)] at h
  have h2 := val_lt T.okx
  rw [T.len, ← hj] at h2
  exact off_none h h2 hle T.c1
end Go.Proofs.YtogkhfalgiajkaaDoor.R2
