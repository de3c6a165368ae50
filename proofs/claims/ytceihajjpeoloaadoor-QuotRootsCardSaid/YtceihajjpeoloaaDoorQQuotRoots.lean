/- Every root is the document's, for every input. No conditions. -/
import Derived.Test.YtceihajjpeoloaaDoorQR2b
namespace Go.Proofs.YtceihajjpeoloaaDoor.Pure
open Go.RowKit Go.Proofs.YtceihajjpeoloaaDoor.Lib Go.Proofs.YtceihajjpeoloaaDoor.LibB Go.Proofs.YtceihajjpeoloaaDoor.F Go.Proofs.YtceihajjpeoloaaDoor.Nat1 Go.Proofs.YtceihajjpeoloaaDoor.Nat2 Go.Proofs.YtceihajjpeoloaaDoor.Quot1 Go.Proofs.YtceihajjpeoloaaDoor.Pow Go.Proofs.YtceihajjpeoloaaDoor.R2
open Go.Proofs.YtceihajjpeoloaaDoorA (rd rdr ln ln_eq mx mn shl shr wr wr_eq)
set_option linter.unusedVariables false
set_option linter.unusedSimpArgs false
theorem roots_ev {l : List Int} (h : ok l) (hl : l.length ≤ 35184372088832) : Ev (fun k _ _ => abacuslaw02_roots.f k l) true := by
  obtain ⟨s, s1, s2, s3⟩ := R2.Root_ev h hl
  obtain ⟨r, r1, r2, r3⟩ := quot_Root_ev h hl
  obtain rfl := isq_unique s1 s2 r1 r2
  simp only [abacuslaw02_roots.f, abacuslaw02_roots.b0]
  refine Ev.bind s3 (Ev.bind r3 (Ev_pos rfl (Ev_pos (by simp) ?_)))
  have hlen : (if val l < B 256 then (lim s, decide (s * s = val l), (0 : Int)) else ([], false, 2)).1.length ≤ 9223372036854775806 := by
    by_cases hA : val l < B 256
    · rw [if_pos hA]
      have : s ≤ val l := by
        cases s with
        | zero => exact Nat.zero_le _
        | succ s => exact Nat.le_trans (Nat.le_mul_of_pos_left _ (by omega)) s1
      have := (lim_len_le s 256).2 (Nat.lt_of_le_of_lt this hA)
      exact Nat.le_trans this (by decide)
    · rw [if_neg hA]; decide
  have := abacuslaw02_alike_ev (a := (if val l < B 256 then (lim s, decide (s * s = val l), (0 : Int)) else ([], false, 2)).1) (b := (if val l < B 256 then (lim s, decide (s * s = val l), (0 : Int)) else ([], false, 2)).1) hlen
  rw [decide_eq_true rfl] at this
  exact Ev.bind this (Ev.now _)
theorem lit_ev (n : Nat) (h : n < 18446744073709551616) (h0 : n ≠ 0) : Ev (fun k _ _ => abacuslaw02_roots.f k (lim n)) true :=
  roots_ev (ok_lim n) (by have := len_lim (small_limit h); omega)
theorem QuotRoots {n : Int} {A C : List (List Int)} {D : List Int} (hn : 0 ≤ n ∧ n ≤ 140737488351232)
    (h : ∀ j, 0 ≤ j → j < n → (ok (rdr A j) ∧ (rdr A j).length * 8 ≤ 140737488351232) ∧ (ok (rdr C j) ∧ (rdr C j).length * 8 ≤ 140737488351232) ∧ (-9223372036854775808 ≤ rd D j ∧ rd D j < 9223372036854775808)) : ∃ k, abacuslaw02_QuotRoots.f k n A C D = some true := by
  refine Ev.rounds ?_
  simp only [abacuslaw02_QuotRoots.f, abacuslaw02_QuotRoots.b0]
  obtain ⟨N, rfl⟩ := Int.eq_ofNat_of_zero_le hn.1
  refine Ev_bind_eq (one_eq 16 (by decide) (by decide)) (Ev.bind (lit_ev 16 (by decide) (by decide)) (Ev_neg (by simp) (Ev_bind_eq (one_eq 15 (by decide) (by decide)) (Ev.bind (lit_ev 15 (by decide) (by decide)) (Ev_neg (by simp) ?_)))))
  refine Ev_in (g := fun k m _ => abacuslaw02_QuotRoots.l117 k m (N : Int) A C D 0) ?_
  have go (d : Nat) : ∀ i : Nat, i + d = N → Ev (fun k m _ => abacuslaw02_QuotRoots.l117 k m (N : Int) A C D (i : Int)) true := by
    induction d with
    | zero =>
      intro i hi
      refine Ev_succ ?_
      simp only [abacuslaw02_QuotRoots.l117, abacuslaw02_QuotRoots.b117]
      exact Ev_neg (by omega) (Ev.now _)
    | succ d ih =>
      intro i hi
      obtain ⟨ua, ub, _⟩ := h i (by omega) (by omega)
      have e1 : wrap64 ((i : Int) + 1) = ((i + 1 : Nat) : Int) := by unfold wrap64; omega
      have next := ih (i + 1) (by omega)
      have a1 := roots_ev ua.1 (by omega)
      have a2 := roots_ev ub.1 (by omega)
      refine Ev_succ ?_
      simp only [abacuslaw02_QuotRoots.l117, abacuslaw02_QuotRoots.b117, e1]
      exact Ev_pos (by omega) (Ev_pos (by omega) (Ev_pos (by omega) (Ev.bind a1 (Ev_neg (by simp) (Ev_pos (by omega) (Ev_pos (by omega) (Ev.bind a2 (Ev_neg (by simp) next))))))))
  exact go N 0 (by omega)
end Go.Proofs.YtceihajjpeoloaaDoor.Pure
