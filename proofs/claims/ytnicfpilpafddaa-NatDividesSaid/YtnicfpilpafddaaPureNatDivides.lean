/- Quotient and remainder by a limb give the number back, for every input. No conditions. -/
import Derived.Test.YtnicfpilpafddaaCNat3
import Derived.Test.YtnicfpilpafddaaCDiv
import Derived.Test.YtnicfpilpafddaaPCx5
namespace Go.Proofs.Ytnicfpilpafddaa.Pure
open Go.RowKit Go.Proofs.YtnicfpilpafddaaW.PrintWords Go.Proofs.YtnicfpilpafddaaW.PrintLast Go.Proofs.YtnicfpilpafddaaW.PrintMore Go.Proofs.Ytnicfpilpafddaa.Lib Go.Proofs.Ytnicfpilpafddaa.PC Go.Proofs.Ytnicfpilpafddaa.CNat1 Go.Proofs.Ytnicfpilpafddaa.CNat2 Go.Proofs.Ytnicfpilpafddaa.CNat3 Go.Proofs.Ytnicfpilpafddaa.CDiv
set_option linter.unusedVariables false
theorem wf_u64 {x : Int} (h : (Lit.int .u64 x).wf = true) : 0 ≤ x ∧ x < 18446744073709551616 := by
  simp [Lit.wf] at h
  have h1 : IntKind.u64.min = 0 := rfl
  have h2 : IntKind.u64.max = 18446744073709551615 := rfl
  omega
theorem NatDivides : abacuslaw01_NatDivides.Pure := by
  intro a d la _ wa wd
  refine Ev.rounds ?_
  have ha := ok_of_wf wa
  have hd := wf_u64 wd
  unfold maxLen at la
  have la' : a.length ≤ 9223372036854775807 := by omega
  simp only [abacuslaw01_NatDivides.f]
  refine Ev.bind awake_ev (Ev_pos rfl ?_)
  refine Ev.bind (abacuslaw01_size_ev ha la') ?_
  have sa := lim_len_le (val a) 4096
  have e1 := nat_DivSmall_ev ha la' hd
  unfold divAns at e1
  by_cases h1 : val a < B 4096
  · rw [if_pos h1] at e1
    refine Ev_neg (by omega) ?_
    by_cases h0 : d = 0
    · rw [if_pos h0] at e1
      exact Ev.bind e1 (Ev_pos h0 (Ev_pos rfl (Ev_pos rfl (Ev_some rfl))))
    · rw [if_neg h0] at e1
      refine Ev.bind e1 (Ev_neg h0 (Ev_pos rfl ?_))
      have hd0 : 0 < d.toNat := by omega
      have hr := Nat.mod_lt (val a) hd0
      rw [decide_eq_false (show ¬ ((val a % d.toNat : Nat) : Int) ≥ d by omega)]
      refine Ev_succ ?_
      simp only [abacuslaw01_NatDivides.j0]
      refine Ev_neg (by simp) ?_
      have hq : val a / d.toNat < B 4096 := Nat.lt_of_le_of_lt (Nat.div_le_self _ _) h1
      have l1 := len_limit hq (by omega)
      have e2 := nat_MulAdd_ev (ok_lim (val a / d.toNat)) (m := d) (c := ((val a % d.toNat : Nat) : Int)) (by omega) hd (by omega)
      have back : val a / d.toNat * d.toNat + val a % d.toNat = val a := Nat.div_add_mod' _ _
      rw [val_lim, mulAddAns, if_pos hq, Int.toNat_natCast, back, ans, if_pos h1] at e2
      refine Ev.bind e2 (Ev_pos rfl ?_)
      have l2 := len_limit h1 (by omega)
      have e3 := nat_Cmp_ev (ok_lim (val a)) ha (by omega) la'
      rw [val_lim, cmp_self] at e3
      refine Ev.bind e3 (Ev_pos rfl ?_)
      refine Ev.bind (abacuslaw01_size_ev ha la') (Ev_some ?_)
      exact beq_iff_eq.2 rfl
  · rw [if_neg h1] at e1
    exact Ev_pos (by omega) (Ev.bind e1 (Ev_some rfl))
end Go.Proofs.Ytnicfpilpafddaa.Pure
