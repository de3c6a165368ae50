/- Every quotient, rest and nearest quotient is the document's, for every input. No conditions. -/
import Derived.Test.YtceihajjpeoloaaDoorQR2f
namespace Go.Proofs.YtceihajjpeoloaaDoor.Pure
open Go.RowKit Go.Proofs.YtceihajjpeoloaaDoor.Lib Go.Proofs.YtceihajjpeoloaaDoor.LibB Go.Proofs.YtceihajjpeoloaaDoor.F Go.Proofs.YtceihajjpeoloaaDoor.Nat1 Go.Proofs.YtceihajjpeoloaaDoor.Nat2 Go.Proofs.YtceihajjpeoloaaDoor.Quot1 Go.Proofs.YtceihajjpeoloaaDoor.Pow Go.Proofs.YtceihajjpeoloaaDoor.R2
open Go.Proofs.YtceihajjpeoloaaDoorA (rd rdr ln ln_eq mx mn shl shr wr wr_eq)
set_option linter.unusedVariables false
set_option linter.unusedSimpArgs false
theorem len_big {n : Nat} (h : n < B 4096) : (lim n).length ≤ 9223372036854775806 := Nat.le_trans ((lim_len_le n 4096).2 h) (by decide)
theorem dm_len (a b : Nat) : (dmAns a b).1.length ≤ 9223372036854775806 ∧ (dmAns a b).2.1.length ≤ 9223372036854775806 := by
  unfold dmAns
  by_cases h : a < B 4096 ∧ b < B 4096
  · rw [if_pos h]
    by_cases h0 : b = 0
    · rw [if_pos h0]; exact ⟨by decide, by decide⟩
    · rw [if_neg h0]
      exact ⟨len_big (Nat.lt_of_le_of_lt (Nat.div_le_self _ _) h.1), len_big (Nat.lt_trans (Nat.mod_lt _ (Nat.pos_of_ne_zero h0)) h.2)⟩
  · rw [if_neg h]; exact ⟨by decide, by decide⟩
theorem near_len (a b : Nat) : (nearAns a b).1.length ≤ 9223372036854775806 := by
  unfold nearAns
  by_cases h : a < B 4096 ∧ b < B 4096
  · rw [if_pos h]
    by_cases h0 : b = 0
    · rw [if_pos h0]; decide
    · rw [if_neg h0, ans, if_pos (near_fits h.1 h0)]
      exact len_big (near_fits h.1 h0)
  · rw [if_neg h]; decide
theorem same_self (l : List Int) (h : l.length ≤ 9223372036854775806) : Ev (fun k _ _ => abacuslaw02_alike.f k l l) true := by
  have := abacuslaw02_alike_ev (a := l) (b := l) h
  rwa [decide_eq_true rfl] at this
theorem divides_ev {x y : List Int} (hx : ok x) (hy : ok y) (hlx : x.length ≤ 35184372088832) (hly : y.length ≤ 35184372088832) : Ev (fun k _ _ => abacuslaw02_divides.f k x y) true := by
  have r := rDivMod_ev hx hy hlx hly
  have q := quot_DivMod_ev hx hy hlx hly
  obtain ⟨l1, l2⟩ := dm_len (val x) (val y)
  simp only [abacuslaw02_divides.f, abacuslaw02_divides.b0]
  exact Ev.bind r (Ev.bind q (Ev_pos rfl (Ev.bind (same_self _ l1) (Ev_pos rfl (Ev.bind (same_self _ l2) (Ev.now _))))))
theorem nears_ev {x y : List Int} (hx : ok x) (hy : ok y) (hlx : x.length ≤ 35184372088832) (hly : y.length ≤ 35184372088832) : Ev (fun k _ _ => abacuslaw02_nears.f k x y) true := by
  have r := rNear_ev hx hy hlx hly
  have q := quot_Near_ev hx hy hlx hly
  have l1 := near_len (val x) (val y)
  simp only [abacuslaw02_nears.f, abacuslaw02_nears.b0]
  exact Ev.bind r (Ev.bind q (Ev_pos rfl (Ev.bind (same_self _ l1) (Ev.now _))))
theorem lit_len (n : Nat) (h : n < 18446744073709551616) : (lim n).length ≤ 35184372088832 := by have := len_lim (small_limit h); omega
theorem QuotDivides {n : Int} {A C : List (List Int)} {D : List Int} (hn : 0 ≤ n ∧ n ≤ 140737488351232)
    (h : ∀ j, 0 ≤ j → j < n → (ok (rdr A j) ∧ (rdr A j).length * 8 ≤ 140737488351232) ∧ (ok (rdr C j) ∧ (rdr C j).length * 8 ≤ 140737488351232) ∧ (-9223372036854775808 ≤ rd D j ∧ rd D j < 9223372036854775808)) : ∃ k, abacuslaw02_QuotDivides.f k n A C D = some true := by
  refine Ev.rounds ?_
  simp only [abacuslaw02_QuotDivides.f, abacuslaw02_QuotDivides.b0]
  obtain ⟨N, rfl⟩ := Int.eq_ofNat_of_zero_le hn.1
  have go (d : Nat) : ∀ i : Nat, i + d = N → Ev (fun k m _ => abacuslaw02_QuotDivides.l117 k m (N : Int) A C D (i : Int)) true := by
    induction d with
    | zero =>
      intro i hi
      refine Ev_succ ?_
      simp only [abacuslaw02_QuotDivides.l117, abacuslaw02_QuotDivides.b117]
      exact Ev_neg (by omega) (Ev.now _)
    | succ d ih =>
      intro i hi
      obtain ⟨ua, ub, _⟩ := h i (by omega) (by omega)
      have e1 : wrap64 ((i : Int) + 1) = ((i + 1 : Nat) : Int) := by unfold wrap64; omega
      have next := ih (i + 1) (by omega)
      have la : (rdr A (i : Int)).length ≤ 35184372088832 := by omega
      have lb : (rdr C (i : Int)).length ≤ 35184372088832 := by omega
      have a1 := divides_ev ua.1 ub.1 la lb
      have a2 := divides_ev ub.1 ua.1 lb la
      have a3 := nears_ev ua.1 ub.1 la lb
      have a4 := nears_ev ub.1 ua.1 lb la
      refine Ev_succ ?_
      simp only [abacuslaw02_QuotDivides.l117, abacuslaw02_QuotDivides.b117, e1]
      exact Ev_pos (by omega) (Ev_pos (by omega) (Ev_pos (by omega) (Ev_pos (by omega) (Ev_pos (by omega) (Ev.bind a1 (Ev_neg (by simp) (Ev.bind a2 (Ev_neg (by simp) (Ev.bind a3 (Ev_neg (by simp) (Ev.bind a4 (Ev_neg (by simp) next))))))))))))
  have o (m : Nat) (h : m < 18446744073709551616) (h0 : m ≠ 0) := one_eq m h h0
  have dv (a b : Nat) (ha : a < 18446744073709551616) (hb : b < 18446744073709551616) := divides_ev (ok_lim a) (ok_lim b) (lit_len a ha) (lit_len b hb)
  have nr (a b : Nat) (ha : a < 18446744073709551616) (hb : b < 18446744073709551616) := nears_ev (ok_lim a) (ok_lim b) (lit_len a ha) (lit_len b hb)
  refine Ev_bind_eq (o 17 (by decide) (by decide)) (Ev_bind_eq (o 5 (by decide) (by decide)) (Ev.bind (dv 17 5 (by decide) (by decide)) (Ev_neg (by simp) ?_)))
  refine Ev_bind_eq (o 11 (by decide) (by decide)) (Ev_bind_eq (o 4 (by decide) (by decide)) (Ev.bind (nr 11 4 (by decide) (by decide)) (Ev_neg (by simp) ?_)))
  refine Ev_bind_eq (o 5 (by decide) (by decide)) (Ev_bind_eq (o 2 (by decide) (by decide)) (Ev.bind (nr 5 2 (by decide) (by decide)) (Ev_neg (by simp) ?_)))
  refine Ev_bind_eq (o 7 (by decide) (by decide)) (Ev_bind_eq (o 2 (by decide) (by decide)) (Ev.bind (nr 7 2 (by decide) (by decide)) ?_))
  simp only [abacuslaw02_QuotDivides.l13, abacuslaw02_QuotDivides.b13]
  exact Ev_neg (by simp) (Ev_in (g := fun k m _ => abacuslaw02_QuotDivides.l117 k m (N : Int) A C D 0) (go N 0 (Nat.zero_add _)))
end Go.Proofs.YtceihajjpeoloaaDoor.Pure
