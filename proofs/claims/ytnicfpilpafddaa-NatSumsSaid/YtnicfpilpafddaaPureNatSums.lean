/- The laws of sums and differences of nat hold for every input. No conditions. -/
import Derived.Test.YtnicfpilpafddaaNat3
import Derived.Test.YtnicfpilpafddaaPAx5
namespace Go.Proofs.Ytnicfpilpafddaa.Pure
open Go.RowKit Go.Proofs.YtnicfpilpafddaaW.PrintWords Go.Proofs.YtnicfpilpafddaaW.PrintLast Go.Proofs.YtnicfpilpafddaaW.PrintMore Go.Proofs.Ytnicfpilpafddaa.Lib Go.Proofs.Ytnicfpilpafddaa.PA Go.Proofs.Ytnicfpilpafddaa.Nat1 Go.Proofs.Ytnicfpilpafddaa.Nat2 Go.Proofs.Ytnicfpilpafddaa.Nat3
set_option linter.unusedVariables false
theorem sums_j0t (a b : List Int) : Ev (fun k => abacuslaw01_NatSums.j0 k a b true) true := by
  refine Ev_succ ?_
  simp only [abacuslaw01_NatSums.j0]
  exact Ev_pos (by simp) (Ev_some rfl)
theorem sub_below {a b : Nat} (ha : a < B 4096) (hb : b < B 4096) : subAns a b = if a < b then ([], 10) else (lim (a - b), 0) := by
  rw [subAns, ans2, if_pos ⟨ha, hb⟩]
theorem NatSums : abacuslaw01_NatSums.Pure := by
  intro a b la _ wa lb _ wb
  refine Ev.rounds ?_
  have ha := ok_of_wf wa
  have hb := ok_of_wf wb
  unfold maxLen at la lb
  have la' : a.length ≤ 9223372036854775807 := by omega
  have lb' : b.length ≤ 9223372036854775807 := by omega
  simp only [abacuslaw01_NatSums.f]
  refine Ev.bind awake_ev (Ev_pos rfl ?_)
  refine Ev.bind (abacuslaw01_size_ev ha la') ?_
  have sa := lim_len_le (val a) 4095
  have sb := lim_len_le (val b) 4095
  by_cases h1 : val a < B 4095
  · refine Ev_neg (by omega) (Ev.bind (abacuslaw01_size_ev hb lb') ?_)
    by_cases h2 : val b < B 4095
    · rw [decide_eq_false (by omega)]
      refine Ev_succ ?_
      simp only [abacuslaw01_NatSums.j0]
      refine Ev_neg (by simp) ?_
      have o := fun n => ok_lim n
      have ab := B_add_lt h1 h2
      have l1 := len_limit ab (by omega)
      have h1' := lt_limit h1 (by omega)
      have h2' := lt_limit h2 (by omega)
      have e1 := nat_Add_ev ha hb la' lb'
      rw [add_ok h1 h2 (by omega)] at e1
      refine Ev.bind e1 ?_
      have e2 := nat_Add_ev hb ha lb' la'
      rw [add_ok h2 h1 (by omega), Nat.add_comm] at e2
      refine Ev.bind e2 (Ev_pos rfl (Ev_pos rfl ?_))
      refine Ev.bind (abacuslaw01_same_ev l1) (Ev_pos (by simp) ?_)
      have e3 := nat_Cmp_ev (o (val a + val b)) ha (by omega) la'
      rw [val_lim] at e3
      have n1 := cmp_neg (val a + val b) (val a)
      refine Ev.bind e3 (Ev_neg (by omega) ?_)
      have e4 := nat_Cmp_ev (o (val a + val b)) hb (by omega) lb'
      rw [val_lim] at e4
      have n2 := cmp_neg (val a + val b) (val b)
      refine Ev.bind e4 ?_
      rw [decide_eq_false (by omega)]
      refine Ev_succ ?_
      simp only [abacuslaw01_NatSums.j1]
      refine Ev_neg (by simp) ?_
      have e5 := nat_Sub_ev (o (val a + val b)) ha (by omega) la'
      rw [val_lim, sub_ok ab (by omega), Nat.add_sub_cancel_left] at e5
      refine Ev.bind e5 ?_
      have e6 := nat_Sub_ev (o (val a + val b)) hb (by omega) lb'
      rw [val_lim, sub_ok ab (by omega), Nat.add_sub_cancel] at e6
      refine Ev.bind e6 (Ev_pos rfl (Ev_pos rfl ?_))
      have e7 := nat_Cmp_ev (o (val b)) hb (by have := len_limit h2 (by omega); omega) lb'
      rw [val_lim, cmp_self] at e7
      refine Ev.bind e7 (Ev_pos rfl ?_)
      have e8 := nat_Cmp_ev (o (val a)) ha (by have := len_limit h1 (by omega); omega) la'
      rw [val_lim, cmp_self] at e8
      refine Ev.bind e8 ?_
      refine Ev_succ ?_
      simp only [abacuslaw01_NatSums.j2]
      refine Ev_neg (by simp) ?_
      refine Ev.bind (nat_Cmp_ev ha hb la' lb') ?_
      have e9 := nat_Sub_ev ha hb la' lb'
      rw [sub_below h1' h2'] at e9
      refine Ev.bind e9 ?_
      have e10 := nat_Sub_ev hb ha lb' la'
      rw [sub_below h2' h1'] at e10
      refine Ev.bind e10 ?_
      rcases Nat.lt_trichotomy (val a) (val b) with h | h | h
      · rw [if_pos h, if_neg (show ¬ val b < val a by omega), cmp_lt h]
        exact Ev_pos (by simp) (Ev_pos (by simp) (Ev_neg (by simp) (Ev_some rfl)))
      · rw [if_neg (show ¬ val a < val b by omega), if_neg (show ¬ val b < val a by omega), h, cmp_self]
        exact Ev_pos (by simp) (Ev_pos (by simp) (Ev_pos (by simp) (Ev_pos (by simp) (Ev_some (by simp)))))
      · rw [if_neg (show ¬ val a < val b by omega), if_pos h, cmp_gt h]
        exact Ev_pos (by simp) (Ev_pos (by simp) (Ev_neg (by simp) (Ev_some rfl)))
    · rw [decide_eq_true (by omega)]
      exact sums_j0t a b
  · exact Ev_pos (by omega) (sums_j0t a b)
end Go.Proofs.Ytnicfpilpafddaa.Pure
