/- The ring's laws of nat's Add and Mul hold, and all answers are there, for every input. No conditions. -/
import Derived.Test.YtnicfpilpafddaaPAx3
import Derived.Test.YtnicfpilpafddaaNat3
namespace Go.Proofs.Ytnicfpilpafddaa.Pure
open Go.RowKit Go.Proofs.YtnicfpilpafddaaW.PrintWords Go.Proofs.YtnicfpilpafddaaW.PrintLast Go.Proofs.YtnicfpilpafddaaW.PrintMore Go.Proofs.Ytnicfpilpafddaa.Lib Go.Proofs.Ytnicfpilpafddaa.PA Go.Proofs.Ytnicfpilpafddaa.Nat1 Go.Proofs.Ytnicfpilpafddaa.Nat2 Go.Proofs.Ytnicfpilpafddaa.Nat3
set_option linter.unusedVariables false
theorem ring_j0t (a b c : List Int) : Ev (fun k => abacuslaw01_NatRing.j0 k a b c true) true := by
  refine Ev_succ ?_
  simp only [abacuslaw01_NatRing.j0]
  exact Ev_pos (by simp) (Ev_some rfl)
theorem NatRing : abacuslaw01_NatRing.Pure := by
  intro a b c la _ wa lb _ wb lc _ wc
  refine Ev.rounds ?_
  have ha := ok_of_wf wa
  have hb := ok_of_wf wb
  have hc := ok_of_wf wc
  unfold maxLen at la lb lc
  have la' : a.length ≤ 9223372036854775807 := by omega
  have lb' : b.length ≤ 9223372036854775807 := by omega
  have lc' : c.length ≤ 9223372036854775807 := by omega
  simp only [abacuslaw01_NatRing.f]
  refine Ev.bind awake_ev (Ev_pos rfl ?_)
  refine Ev.bind (abacuslaw01_size_ev ha la') ?_
  have sa := lim_len_le (val a) 1000
  have sb := lim_len_le (val b) 1000
  have sc := lim_len_le (val c) 1000
  by_cases h1 : val a < B 1000
  · refine Ev_neg (by omega) (Ev.bind (abacuslaw01_size_ev hb lb') ?_)
    by_cases h2 : val b < B 1000
    · refine Ev_neg (by omega) (Ev.bind (abacuslaw01_size_ev hc lc') ?_)
      by_cases h3 : val c < B 1000
      · rw [decide_eq_false (by omega)]
        refine Ev_succ ?_
        simp only [abacuslaw01_NatRing.j0]
        refine Ev_neg (by simp) ?_
        have o := fun n => ok_lim n
        have bc := B_add_lt h2 h3
        have abc := B_mul_lt h1 bc
        have ab := B_mul_lt h1 h2
        have ca := B_mul_lt h3 h1
        have abca := B_add_lt ab ca
        have bc2 := B_mul_lt h2 h3
        have l1 := len_limit bc (by omega)
        have l2 := len_limit abc (by omega)
        have l3 := len_limit ab (by omega)
        have l4 := len_limit ca (by omega)
        have l5 := len_limit abca (by omega)
        have l6 := len_limit bc2 (by omega)
        have e1 := nat_Add_ev hb hc lb' lc'
        rw [add_ok h2 h3 (by omega)] at e1
        refine Ev.bind e1 ?_
        have e2 := nat_Mul_ev ha (o (val b + val c)) la' (by omega)
        rw [val_lim, mul_ok h1 bc (by omega)] at e2
        refine Ev.bind e2 ?_
        have e3 := nat_Mul_ev ha hb la' lb'
        rw [mul_ok h1 h2 (by omega)] at e3
        refine Ev.bind e3 ?_
        have e4 := nat_Mul_ev hc ha lc' la'
        rw [mul_ok h3 h1 (by omega)] at e4
        refine Ev.bind e4 ?_
        have e5 := nat_Add_ev (o (val a * val b)) (o (val c * val a)) (by omega) (by omega)
        rw [val_lim, val_lim, add_ok ab ca (by omega)] at e5
        refine Ev.bind e5 ?_
        refine Ev_pos rfl (Ev_pos rfl (Ev_pos rfl (Ev_pos rfl (Ev_pos rfl ?_))))
        refine Ev.bind (abacuslaw01_same_ev l2) ?_
        rw [show val a * (val b + val c) = val a * val b + val c * val a from by rw [Nat.mul_add, Nat.mul_comm (val c)]]
        refine Ev_succ ?_
        simp only [abacuslaw01_NatRing.j1]
        refine Ev_neg (by simp) ?_
        have e6 := nat_Mul_ev (o (val a * val b)) hc (by omega) lc'
        rw [val_lim, mul_ok ab h3 (by omega)] at e6
        refine Ev.bind e6 ?_
        have e7 := nat_Mul_ev hb hc lb' lc'
        rw [mul_ok h2 h3 (by omega)] at e7
        refine Ev.bind e7 ?_
        have e8 := nat_Mul_ev (o (val b * val c)) ha (by omega) la'
        rw [val_lim, mul_ok bc2 h1 (by omega)] at e8
        refine Ev.bind e8 ?_
        refine Ev_pos rfl (Ev_pos rfl (Ev_pos rfl ?_))
        refine Ev.bind (abacuslaw01_same_ev (len_limit (B_mul_lt ab h3) (by omega))) (Ev_some ?_)
        rw [show val b * val c * val a = val a * val b * val c from by rw [Nat.mul_comm, Nat.mul_assoc]]
        exact decide_eq_true rfl
      · rw [decide_eq_true (by omega)]
        exact ring_j0t a b c
    · exact Ev_pos (by omega) (ring_j0t a b c)
  · exact Ev_pos (by omega) (ring_j0t a b c)
end Go.Proofs.Ytnicfpilpafddaa.Pure
