/- Every power and logarithm is the document's, for every input. No conditions. -/
import Derived.Test.YtalkmbmhmbnadaaDoorQR2i
namespace Go.Proofs.YtalkmbmhmbnadaaDoor.Pure
open Go.RowKit Go.Proofs.YtalkmbmhmbnadaaDoor.Lib Go.Proofs.YtalkmbmhmbnadaaDoor.LibB Go.Proofs.YtalkmbmhmbnadaaDoor.F Go.Proofs.YtalkmbmhmbnadaaDoor.Nat1 Go.Proofs.YtalkmbmhmbnadaaDoor.Nat2 Go.Proofs.YtalkmbmhmbnadaaDoor.Quot1 Go.Proofs.YtalkmbmhmbnadaaDoor.Pow Go.Proofs.YtalkmbmhmbnadaaDoor.R2
open Go.Proofs.YtalkmbmhmbnadaaDoorA (rd rdr ln ln_eq mx mn shl shr wr wr_eq)
set_option linter.unusedVariables false
set_option linter.unusedSimpArgs false
theorem pow_len (v : Nat) (n : Int) : (powAns v n).1.length ≤ 9223372036854775806 := by
  unfold powAns
  split
  · split
    · decide
    · unfold ans
      split
      · rename_i h
        exact Nat.le_trans (len_lim h) (by decide)
      · decide
  · decide
theorem same_self (l : List Int) (h : l.length ≤ 9223372036854775806) : Ev (fun k _ _ => abacuslaw02_alike.f k l l) true := by
  have := abacuslaw02_alike_ev (a := l) (b := l) h
  rwa [decide_eq_true rfl] at this
theorem powers_ev {a c : List Int} {n : Int} (ha : ok a) (hla : a.length ≤ 35184372088832) (hn : n < 9223372036854775808) : Ev (fun k _ _ => abacuslaw02_powers.f k a c n) true := by
  have r1 := rPow_ev ha hla hn
  have q1 := quot_Pow_ev ha hla hn
  have r2 := rPow_ev (a := [5]) ok_five (by decide) hn
  have q2 := quot_Pow_ev (a := [5]) ok_five (by decide) hn
  have r3 := rPow_ev (a := [10]) ok_ten (by decide) hn
  have q3 := quot_Pow_ev (a := [10]) ok_ten (by decide) hn
  have s1 := same_self _ (pow_len (val a) n)
  have s2 := same_self _ (pow_len (val [5]) n)
  have s3 := same_self _ (pow_len (val [10]) n)
  simp only [abacuslaw02_powers.f, abacuslaw02_powers.b0, abacusref02_Pow5.f, abacusref02_Pow5.b0, quot_Pow5.f, quot_Pow5.b0, abacusref02_Pow10.f, abacusref02_Pow10.b0, quot_Pow10.f, quot_Pow10.b0]
  refine Ev.bind r1 (Ev.bind q1 (Ev_neg (fun h => h rfl) (Ev.bind s1 (Ev_neg (by simp) ?_))))
  refine Ev.bind (Ev.bind r2 (Ev.now _)) (Ev.bind (Ev.bind q2 (Ev.now _)) (Ev_neg (fun h => h rfl) (Ev.bind s2 (Ev_neg (by simp) ?_))))
  exact Ev.bind (Ev.bind r3 (Ev.now _)) (Ev.bind (Ev.bind q3 (Ev.now _)) (Ev_pos rfl (Ev.bind s3 (Ev.now _))))
theorem logs_l {a c bs : List Int} {n : Int} (ha : ok a) (hla : a.length ≤ 35184372088832) (hb : ok bs) (hlb : bs.length ≤ 100) (d : Nat) : ∀ i : Nat, i + d = bs.length → Ev (fun k m _ => abacuslaw02_logs.l501 k m (i : Int) a c n bs) true := by
  induction d with
  | zero =>
    intro i hi
    refine Ev_succ ?_
    simp only [abacuslaw02_logs.l501, abacuslaw02_logs.b501, ln_eq]
    exact Ev_neg (by omega) (Ev.now _)
  | succ d ih =>
    intro i hi
    have e1 : wrap64 ((i : Int) + 1) = ((i + 1 : Nat) : Int) := by unfold wrap64; omega
    have hlt : (i : Int) < (bs.length : Int) := by omega
    obtain ⟨r, h1, h2⟩ := logs_same ha hla (ok_rd hb (i : Int))
    refine Ev_succ ?_
    simp only [abacuslaw02_logs.l501, abacuslaw02_logs.b501, ln_eq, e1]
    exact Ev_pos hlt (Ev_pos (Int.natCast_nonneg _) (Ev_pos hlt (Ev.bind h1 (Ev_pos (Int.natCast_nonneg _) (Ev_pos hlt (Ev.bind h2 (Ev_neg (fun h => h rfl) (Ev_neg (fun h => h rfl) (ih (i + 1) (by omega))))))))))
theorem logs_in {a c bs : List Int} {n : Int} (ha : ok a) (hla : a.length ≤ 35184372088832) (hc : ok c) (hb : ok bs) (hlb : bs.length ≤ 10) : Ev (fun k _ _ => abacuslaw02_logs.l15 k a c n bs) true := by
  simp only [abacuslaw02_logs.l15, abacuslaw02_logs.b15, abacuslaw02_logs.l31, abacuslaw02_logs.b31, ln_eq]
  by_cases h : (c.length : Int) > 0
  · have ho : ok (bs ++ [rd c 0]) := ok_append hb (fun x hx => by
      simp only [List.mem_cons, List.not_mem_nil, or_false] at hx
      subst hx
      exact ok_rd hc 0)
    refine Ev_pos h (Ev_pos h (Ev_pos (by omega) ?_))
    exact Ev_in (g := fun k m _ => abacuslaw02_logs.l501 k m ((0 : Nat) : Int) a c n (bs ++ [rd c 0])) (logs_l ha hla ho (by rw [List.length_append, List.length_singleton]; omega) _ 0 (Nat.zero_add _))
  · exact Ev_neg h (Ev_in (g := fun k m _ => abacuslaw02_logs.l501 k m ((0 : Nat) : Int) a c n bs) (logs_l ha hla hb (by omega) _ 0 (Nat.zero_add _)))
theorem ok_bases : ok [0, 1, 2, 3, 10, 4294967296, 18446744073709551615] := fun x hx => by
  simp only [List.mem_cons, List.not_mem_nil, or_false] at hx
  omega
theorem logs_ev {a c : List Int} {n : Int} (ha : ok a) (hla : a.length ≤ 35184372088832) (hc : ok c) : Ev (fun k _ _ => abacuslaw02_logs.f k a c n) true := by
  simp only [abacuslaw02_logs.f, abacuslaw02_logs.b0]
  refine Ev.bind (abacusref02_Top_ev ha (Nat.le_trans hla (by decide))) ?_
  by_cases h : ((lim (val a)).length : Int) > 256
  · exact Ev_pos h (logs_in ha hla hc ok_ten (by decide))
  · exact Ev_neg h (logs_in ha hla hc ok_bases (by decide))
theorem QuotPowers {n : Int} {A C : List (List Int)} {D : List Int} (hn : 0 ≤ n ∧ n ≤ 140737488351232)
    (h : ∀ j, 0 ≤ j → j < n → (ok (rdr A j) ∧ (rdr A j).length * 8 ≤ 140737488351232) ∧ (ok (rdr C j) ∧ (rdr C j).length * 8 ≤ 140737488351232) ∧ (-9223372036854775808 ≤ rd D j ∧ rd D j < 9223372036854775808)) : ∃ k, abacuslaw02_QuotPowers.f k n A C D = some true := by
  refine Ev.rounds ?_
  simp only [abacuslaw02_QuotPowers.f, abacuslaw02_QuotPowers.b0]
  obtain ⟨N, rfl⟩ := Int.eq_ofNat_of_zero_le hn.1
  have go (d : Nat) : ∀ i : Nat, i + d = N → Ev (fun k m _ => abacuslaw02_QuotPowers.l117 k m (N : Int) A C D (i : Int)) true := by
    induction d with
    | zero =>
      intro i hi
      refine Ev_succ ?_
      simp only [abacuslaw02_QuotPowers.l117, abacuslaw02_QuotPowers.b117]
      exact Ev_neg (by omega) (Ev.now _)
    | succ d ih =>
      intro i hi
      obtain ⟨ua, ub, un⟩ := h i (by omega) (by omega)
      have e1 : wrap64 ((i : Int) + 1) = ((i + 1 : Nat) : Int) := by unfold wrap64; omega
      have next := ih (i + 1) (by omega)
      have la : (rdr A (i : Int)).length ≤ 35184372088832 := by omega
      have a1 := powers_ev (c := rdr C (i : Int)) ua.1 la un.2
      have a2 := logs_ev (n := rd D (i : Int)) ua.1 la ub.1
      have hlt : (i : Int) < (N : Int) := by omega
      refine Ev_succ ?_
      simp only [abacuslaw02_QuotPowers.l117, abacuslaw02_QuotPowers.b117, e1]
      exact Ev_pos hlt (Ev_pos (Int.natCast_nonneg _) (Ev_pos hlt (Ev.bind a1 (Ev_neg (by simp) (Ev_pos (Int.natCast_nonneg _) (Ev_pos hlt (Ev.bind a2 (Ev_neg (by simp) next))))))))
  have o (m : Nat) (h : m < 18446744073709551616) (h0 : m ≠ 0) := one_eq m h h0
  have l7 : (lim 7).length ≤ 35184372088832 := Nat.le_trans (len_lim (small_limit (by decide))) (by decide)
  have l1 : (lim 1000).length ≤ 35184372088832 := Nat.le_trans (len_lim (small_limit (by decide))) (by decide)
  refine Ev_bind_eq (o 7 (by decide) (by decide)) (Ev.bind (powers_ev (c := []) (n := 3) (ok_lim 7) l7 (by decide)) (Ev_neg (by simp) ?_))
  refine Ev_bind_eq (o 1000 (by decide) (by decide)) (Ev.bind (logs_ev (n := 0) (ok_lim 1000) l1 ok_nil) (Ev_neg (by simp) ?_))
  exact Ev_in (g := fun k m _ => abacuslaw02_QuotPowers.l117 k m (N : Int) A C D ((0 : Nat) : Int)) (go N 0 (Nat.zero_add _))
end Go.Proofs.YtalkmbmhmbnadaaDoor.Pure
