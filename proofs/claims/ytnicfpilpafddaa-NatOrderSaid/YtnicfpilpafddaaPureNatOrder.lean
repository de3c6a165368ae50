/- The law of the order of naturals holds for every input. No conditions. -/
import Derived.Test.YtnicfpilpafddaaONat3
import Derived.Test.YtnicfpilpafddaaOBits
import Derived.Test.YtnicfpilpafddaaPOx3
import Derived.Test.YtnicfpilpafddaaPOx4
namespace Go.Proofs.Ytnicfpilpafddaa.Pure
open Go.RowKit Go.Proofs.YtnicfpilpafddaaW.PrintWords Go.Proofs.YtnicfpilpafddaaW.PrintLast Go.Proofs.YtnicfpilpafddaaW.PrintMore Go.Proofs.Ytnicfpilpafddaa.Lib Go.Proofs.Ytnicfpilpafddaa.LibB Go.Proofs.Ytnicfpilpafddaa.PO Go.Proofs.Ytnicfpilpafddaa.ONat1 Go.Proofs.Ytnicfpilpafddaa.ONat2 Go.Proofs.Ytnicfpilpafddaa.ONat3 Go.Proofs.Ytnicfpilpafddaa.OBits
set_option linter.unusedVariables false
theorem order_trim {l : List Int} (h : ok l) (hl : l.length ≤ 35184372088832) : Ev (fun k => nat_Trim.f k l) (lim (val l)) := by
  simp only [nat_Trim.f]
  have := lim_len_val_le h
  refine Ev.bind (nat_size_ev h (by omega)) (Ev_pos ⟨by omega, by omega, by omega⟩ (Ev_some ?_))
  rw [Int.toNat_natCast, take_lim h]
theorem cmp_cases (a b : Nat) : (cmp a b = -1 ∧ a < b) ∨ (cmp a b = 0 ∧ a = b) ∨ (cmp a b = 1 ∧ b < a) := by
  rcases Nat.lt_trichotomy a b with h | h | h
  · exact .inl ⟨cmp_lt h, h⟩
  · subst h; exact .inr (.inl ⟨cmp_self a, rfl⟩)
  · exact .inr (.inr ⟨cmp_gt h, h⟩)
theorem order_j0 {x0 x1 : List Int} {x y z : Int} {a b c : Nat} (hx : (x = -1 ∧ a < b) ∨ (x = 0 ∧ a = b) ∨ (x = 1 ∧ b < a)) (hy : (y = -1 ∧ b < c) ∨ (y = 0 ∧ b = c) ∨ (y = 1 ∧ c < b)) (hz : (z = -1 ∧ a < c) ∨ (z = 0 ∧ a = c) ∨ (z = 1 ∧ c < a))
    (j1f : Ev (fun k => abacuslaw01_NatOrder.j1 k x0 x1 x false) true) : Ev (fun k => abacuslaw01_NatOrder.j0 k x0 x1 x y z false) true := by
  refine Ev_succ ?_
  rcases hx with ⟨rfl, hx⟩ | ⟨rfl, hx⟩ | ⟨rfl, hx⟩ <;> rcases hy with ⟨rfl, hy⟩ | ⟨rfl, hy⟩ | ⟨rfl, hy⟩ <;> rcases hz with ⟨rfl, hz⟩ | ⟨rfl, hz⟩ | ⟨rfl, hz⟩ <;>
    first
    | (exfalso; omega)
    | (simp [abacuslaw01_NatOrder.j0]; exact j1f)
theorem val_zeros (l : List Int) : val ((([] ++ l) ++ [0]) ++ [0]) = val l := by
  rw [val_append, val_append, List.nil_append]
  simp [val_cons, val_nil]
theorem ok_zeros {l : List Int} (h : ok l) : ok ((([] ++ l) ++ [0]) ++ [0]) := ok_append (ok_append (ok_append ok_nil h) (ok_of_list (by decide))) (ok_of_list (by decide))
theorem order_j1 {a b : List Int} (ha : ok a) (hb : ok b) (hla : a.length ≤ 17592186043904) (hlb : b.length ≤ 17592186043904) : Ev (fun k => abacuslaw01_NatOrder.j1 k a b (cmp (val a) (val b)) false) true := by
  have e : wrap64 ((a.length : Int) + 3) = ((a.length + 3 : Nat) : Int) := by unfold wrap64; omega
  have hz := ok_zeros ha
  have hv := val_zeros a
  have hlz : ((([] ++ a) ++ [0]) ++ [(0 : Int)]).length = a.length + 2 := by simp
  have hl := lim_len_val_le ha
  refine Ev_succ ?_
  simp only [abacuslaw01_NatOrder.j1, e, Int.toNat_natCast]
  refine Ev_neg (by simp) (Ev_pos (by omega) (Ev_pos (by omega) (Ev_bind_some (Ev_pos ?_ (Ev_bind_some (Ev_pos ?_ (Ev_bind_some (Ev_pos ?_ (Ev_bind_some ?_)))))))))
  · simp; omega
  · simp; omega
  · simp; omega
  · have t1 := order_trim hz (by omega)
    have t2 := nat_Cmp_ev hz hb (by omega) (by omega)
    rw [hv] at t1 t2
    have t3 := nat_Cmp_ev (ok_lim (val a)) ha (by omega) (by omega)
    rw [val_lim, cmp_self] at t3
    have t4 := nat_BitLen_ev hz (by omega)
    rw [hv] at t4
    exact Ev.bind t1 (Ev.bind t2 (Ev_pos rfl (Ev.bind t3 (Ev_pos rfl (Ev.bind (abacuslaw01_size_ev ha (by omega)) (Ev_pos rfl (Ev.bind t4 (Ev.bind (nat_BitLen_ev ha (by omega)) (Ev_some (by simp))))))))))
theorem NatOrder : abacuslaw01_NatOrder.Pure := by
  intro a b c la ya wa lb yb wb lc yc wc
  refine Ev.rounds ?_
  have ha := ok_of_wf wa
  have hb := ok_of_wf wb
  have hc := ok_of_wf wc
  have hla : a.length ≤ 17592186043904 := by omega
  have hlb : b.length ≤ 17592186043904 := by omega
  have hlc : c.length ≤ 17592186043904 := by omega
  have sa := lim_len_val_le ha
  have sm := abacuslaw01_same_ev (a := lim (val a)) (b := lim (val b)) (by omega)
  have ca := cmp_cases (val a) (val b)
  have cb := cmp_cases (val b) (val a)
  simp only [abacuslaw01_NatOrder.f]
  refine Ev.bind awake_ev (Ev_pos rfl ?_)
  refine Ev.bind (nat_Cmp_ev ha hb (by omega) (by omega)) (Ev.bind (nat_Cmp_ev hb hc (by omega) (by omega)) (Ev.bind (nat_Cmp_ev ha hc (by omega) (by omega)) (Ev.bind (nat_Cmp_ev hb ha (by omega) (by omega)) ?_)))
  refine Ev_pos (by unfold wrap64; omega) (Ev_neg (by omega) (Ev_neg (by omega) (Ev.bind (order_trim ha (by omega)) (Ev.bind (order_trim hb (by omega)) (Ev.bind sm ?_)))))
  have hf : ((cmp (val a) (val b) == 0) != decide (lim (val a) = lim (val b))) = false := by
    rcases ca with ⟨h1, h2⟩ | ⟨h1, h2⟩ | ⟨h1, h2⟩
    · rw [h1, decide_eq_false (fun h => by have := lim_inj h; omega)]; rfl
    · rw [h1, decide_eq_true (by rw [h2])]; rfl
    · rw [h1, decide_eq_false (fun h => by have := lim_inj h; omega)]; rfl
  rw [hf]
  exact order_j0 ca (cmp_cases (val b) (val c)) (cmp_cases (val a) (val c)) (order_j1 ha hb hla hlb)
end Go.Proofs.Ytnicfpilpafddaa.Pure
