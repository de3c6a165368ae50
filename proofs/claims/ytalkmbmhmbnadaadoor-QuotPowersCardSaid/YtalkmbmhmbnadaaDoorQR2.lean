/- What the second reference computes: Short, doubled, Order, takeOff, Root. Conditions: lists of limbs below 2^64, of lengths that a slice has. -/
import Derived.Test.YtalkmbmhmbnadaaDoorQQuot1
namespace Go.Proofs.YtalkmbmhmbnadaaDoor.R2
open Go.RowKit Go.Proofs.YtalkmbmhmbnadaaDoor.Lib Go.Proofs.YtalkmbmhmbnadaaDoor.LibB Go.Proofs.YtalkmbmhmbnadaaDoor.F Go.Proofs.YtalkmbmhmbnadaaDoor.Nat1 Go.Proofs.YtalkmbmhmbnadaaDoor.Nat2 Go.Proofs.YtalkmbmhmbnadaaDoor.Bits Go.Proofs.YtalkmbmhmbnadaaDoor.LongL
open Go.Proofs.YtalkmbmhmbnadaaDoorA (rd ln ln_eq mx mn shl shr wr wr_eq)
set_option linter.unusedVariables false
set_option linter.unusedSimpArgs false
theorem take_set_snoc {out : List Int} {i : Nat} (h : i < out.length) (x : Int) : (out.set i x).take (i + 1) = out.take i ++ [x] := by
  rw [List.take_succ_eq_append_getElem (by rw [List.length_set]; exact h), take_set_ge _ _ _ _ (Nat.le_refl i)]
  congr 1
  simp
theorem take_rd {l : List Int} {i : Nat} (h : i < l.length) : l.take (i + 1) = l.take i ++ [rd l (i : Int)] := by
  rw [List.take_succ_eq_append_getElem h, rd_nat, List.getD_eq_getElem?_getD, List.getElem?_eq_getElem h]; rfl
theorem next (i : Nat) (h : i ≤ 35184372088832) : wrap64 ((i : Int) + 1) = ((i + 1 : Nat) : Int) := by unfold wrap64; omega
/-! ### Short -/
theorem short_copy {l : List Int} {n : Nat} (hn : n ≤ l.length) (hl : l.length ≤ 35184372088832) (d : Nat) : ∀ (i : Nat) (out : List Int), i + d = n → out.length = n → out.take i = l.take i →
    Ev (fun k m _ => abacusref02_Short.l245 k m l (n : Int) (i : Int) out) (l.take n) := by
  induction d with
  | zero =>
    intro i out hi ho ht
    refine Ev_succ ?_
    simp only [abacusref02_Short.l245, abacusref02_Short.b245, ln_eq]
    refine Ev_neg (by omega) (Ev_some ?_)
    rw [show i = n by omega] at ht
    rw [← ht, List.take_of_length_le (by omega)]
  | succ d ih =>
    intro i out hi ho ht
    refine Ev_succ ?_
    simp only [abacusref02_Short.l245, abacusref02_Short.b245, ln_eq, next i (by omega), Int.toNat_natCast]
    refine Ev_pos (by omega) (Ev_pos (by omega) (Ev_pos (by omega) (Ev_pos (by omega) (Ev_pos (by omega) (ih (i + 1) _ (by omega) (by rw [List.length_set]; exact ho) ?_)))))
    rw [take_set_snoc (by omega), take_rd (by omega), ht]
theorem Short_ev {l : List Int} (h : ok l) (hl : l.length ≤ 35184372088832) : Ev (fun k _ _ => abacusref02_Short.f k l) (lim (val l)) := by
  simp only [abacusref02_Short.f, abacusref02_Short.b0]
  have hle := lim_len_val_le h
  refine Ev.bind (abacusref02_Top_ev h (by omega)) (Ev_pos (by omega) (Ev_pos (by rw [Int.toNat_natCast]; omega) ?_))
  rw [Int.toNat_natCast]
  have := short_copy hle hl _ 0 (List.replicate (lim (val l)).length 0) (Nat.zero_add _) (List.length_replicate ..) rfl
  rw [take_lim h] at this
  exact Ev_in (g := fun k m _ => abacusref02_Short.l245 k m l ((lim (val l)).length : Int) 0 (List.replicate (lim (val l)).length (0 : Int))) this
/-! ### Order -/
theorem order_l {a b : List Int} (ha : ok a) (hb : ok b) (hl : a.length ≤ 9223372036854775807) (i : Nat) : i ≤ a.length → i ≤ b.length → val (a.drop i) = val (b.drop i) →
    Ev (fun n m _ => abacusref02_Order.l1013 n m a b ((i : Int) - 1)) (cmp (val a) (val b)) := by
  induction i with
  | zero =>
    intro _ _ hz
    refine Ev_succ ?_
    simp only [abacusref02_Order.l1013, abacusref02_Order.b1013, ln_eq]
    refine Ev_neg (by omega) (Ev_some ?_)
    rw [List.drop_zero, List.drop_zero] at hz
    rw [hz, cmp_self]
  | succ i ih =>
    intro hia hib hz
    have e0 : ((i + 1 : Nat) : Int) - 1 = (i : Int) := by omega
    have e1 : wrap64 ((i : Int) - 1) = (i : Int) - 1 := by unfold wrap64; omega
    refine Ev_succ ?_
    simp only [abacusref02_Order.l1013, abacusref02_Order.b1013, ln_eq, e0, e1]
    refine Ev_pos (by omega) (Ev_pos (by omega) (Ev_pos (by omega) (Ev_pos (by omega) (Ev_pos (by omega) ?_))))
    by_cases h2 : rd a (i : Int) < rd b (i : Int)
    · refine Ev_pos h2 (Ev_some ?_)
      rw [cmp_lt (val_cmp_at ha hb (by omega) (by omega) hz h2)]
    · refine Ev_neg h2 (Ev_pos (by omega) (Ev_pos (by omega) (Ev_pos (by omega) (Ev_pos (by omega) ?_))))
      by_cases h3 : rd a (i : Int) > rd b (i : Int)
      · refine Ev_pos h3 (Ev_some ?_)
        rw [cmp_gt (val_cmp_at hb ha (by omega) (by omega) hz.symm h3)]
      · refine Ev_neg h3 (ih (by omega) (by omega) ?_)
        rw [val_drop_cons a i (by omega), val_drop_cons b i (by omega), show rd a (i : Int) = rd b (i : Int) by omega, hz]
theorem Order_ev {a b : List Int} (ha : ok a) (hb : ok b) (hla : a.length ≤ 9223372036854775807) (hlb : b.length ≤ 9223372036854775807) : Ev (fun n _ _ => abacusref02_Order.f n a b) (cmp (val a) (val b)) := by
  simp only [abacusref02_Order.f, abacusref02_Order.b0]
  have sa := lim_len_val_le ha
  have sb := lim_len_val_le hb
  refine Ev.bind (abacusref02_Top_ev ha hla) (Ev.bind (abacusref02_Top_ev hb hlb) ?_)
  by_cases h2 : (lim (val a)).length < (lim (val b)).length
  · exact Ev_pos (by omega) (Ev_some (cmp_lt (lim_len_lt h2)).symm)
  refine Ev_neg (by omega) ?_
  by_cases h3 : (lim (val b)).length < (lim (val a)).length
  · exact Ev_pos (by omega) (Ev_some (cmp_gt (lim_len_lt h3)).symm)
  refine Ev_neg (by omega) ?_
  have h : (lim (val a)).length = (lim (val b)).length := by omega
  have e : wrap64 (((lim (val a)).length : Int) - 1) = ((lim (val a)).length : Int) - 1 := by unfold wrap64; omega
  rw [e]
  refine Ev_in (g := fun n m _ => abacusref02_Order.l1013 n m a b (((lim (val a)).length : Int) - 1)) ?_
  exact order_l ha hb hla _ sa (by omega) (by rw [val_drop_lim ha, h, val_drop_lim hb])
theorem order_lim {u v : Nat} (hu : (lim u).length ≤ 35184372088832) (hv : (lim v).length ≤ 35184372088832) : Ev (fun n _ _ => abacusref02_Order.f n (lim u) (lim v)) (cmp u v) := by
  have := Order_ev (ok_lim u) (ok_lim v) (by omega) (by omega)
  rwa [val_lim, val_lim] at this
end Go.Proofs.YtalkmbmhmbnadaaDoor.R2
