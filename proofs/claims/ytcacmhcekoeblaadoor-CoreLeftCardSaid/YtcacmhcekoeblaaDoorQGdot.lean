/- What Dot computes of finite doubles: the sum of the products, rounded once. Conditions: finite doubles, lists alike in length, of at most 2^40 each. -/
import Derived.Test.YtcacmhcekoeblaaDoorQGac
namespace Go.Proofs.YtcacmhcekoeblaaDoor.Gdot
open Go.RowKit Go.Proofs.YtcacmhcekoeblaaDoor.Lib Go.Proofs.YtcacmhcekoeblaaDoor.LibB Go.Proofs.YtcacmhcekoeblaaDoor.F Go.Proofs.YtcacmhcekoeblaaDoor.Nat1 Go.Proofs.YtcacmhcekoeblaaDoor.Nat2 Go.Proofs.YtcacmhcekoeblaaDoor.Rnd Go.Proofs.YtcacmhcekoeblaaDoor.Ieee1 Go.Proofs.YtcacmhcekoeblaaDoor.Ieee2 Go.Proofs.YtcacmhcekoeblaaDoor.Gat Go.Proofs.YtcacmhcekoeblaaDoor.Gac
open Go.Proofs.YtcacmhcekoeblaaDoorA (rd ln ln_eq mx mn shl shr wr wr_eq)
open Go.Proofs.YtcacmhcekoeblaaDoor.Soft1 (sv sval sv_abs sv_mul sv_zero put_U)
set_option linter.unusedVariables false
set_option linter.unusedSimpArgs false
def dotS : List Int → List Int → Int
  | x :: xs, y :: ys => sval x * sval y + dotS xs ys
  | _, _ => 0
/-- Some product isn't the zero with the sign minus. -/
def dotO : List Int → List Int → Bool
  | x :: xs, y :: ys => !((sgn x != sgn y) && decide (plc x = 0 ∨ plc y = 0)) || dotO xs ys
  | _, _ => false
/-- T divided by M, rounded once; z: the sign of nothing. -/
def RdQ (d T : Int) (M : Nat) (z : Bool) : Prop := ∃ s p, d = put s p ∧ Near p T.natAbs M ∧ (T ≠ 0 → s = decide (T < 0)) ∧ (T = 0 → s = z)
theorem drop_cons {l : List Int} {i : Nat} (h : i < l.length) : l.drop i = rd l (i : Int) :: l.drop (i + 1) := by
  rw [List.drop_eq_getElem_cons h, rd_nat, List.getD_eq_getElem?_getD, List.getElem?_eq_getElem h, Option.getD_some]
theorem value_fin {c : Int} {u v : List Int} {o : Bool} {K : Nat} (hK : K = 1074) (h : RowsOK c u v) :
    ∃ d, Ev (fun n _ _ => gather_Acc_Value.f n false false false o c u v) d ∧ RdQ d (tot u v) (2 ^ K) (decide (c > 0) && !o) := by
  obtain ⟨s, p, h1, h2, h3, h4⟩ := over_fin (o := o) (m := 1) hK h (by omega) (by omega)
  rw [Nat.one_mul] at h2
  refine ⟨put s p, ?_, s, p, rfl, h2, h3, h4⟩
  simp only [gather_Acc_Value.f, gather_Acc_Value.b0]
  exact Ev.bind h1 (Ev.now _)
theorem dot_l {xs ys : List Int} {N K : Nat} (hK : K = 1074) (hx : xs.length = N) (hy : ys.length = N) (hN : N ≤ 1099511627776) (ux : ∀ j : Nat, U (rd xs (j : Int))) (uy : ∀ j : Nat, U (rd ys (j : Int))) (fx : ∀ j : Nat, j < N → fin (rd xs (j : Int))) (fy : ∀ j : Nat, j < N → fin (rd ys (j : Int))) (d : Nat) :
    ∀ (i : Nat) (u v : List Int) (o : Bool), i + d = N → RowsOK (i : Int) u v →
      ∃ q, Ev (fun n m _ => gather_Dot.l245 n m ys xs N i false false false o i u v) (q, 0) ∧ RdQ q (tot u v + dotS (xs.drop i) (ys.drop i)) (2 ^ K) (decide (N > 0) && !(o || dotO (xs.drop i) (ys.drop i))) := by
  induction d with
  | zero =>
    intro i u v o hi h
    obtain rfl : i = N := by omega
    obtain ⟨q, h1, h2⟩ := value_fin (o := o) hK h
    refine ⟨q, ?_, ?_⟩
    · refine Ev_succ ?_
      simp only [gather_Dot.l245, gather_Dot.b245]
      refine Ev_neg (by omega) ?_
      simp only [gather_Dot.l31, gather_Dot.b31]
      exact Ev.bind h1 (Ev.now _)
    · rw [List.drop_eq_nil_of_le (by omega), List.drop_eq_nil_of_le (by omega)]
      have e1 : dotS [] [] = 0 := rfl
      have e2 : dotO [] [] = false := rfl
      rw [e1, e2, Int.add_zero, Bool.or_false]
      have e3 : decide ((i : Int) > 0) = decide (i > 0) := by
        by_cases hh : i > 0
        · rw [decide_eq_true hh, decide_eq_true (by omega)]
        · rw [decide_eq_false hh, decide_eq_false (by omega)]
      rw [e3] at h2
      exact h2
  | succ d ih =>
    intro i u v o hi h
    have hiN : i < N := by omega
    obtain ⟨u', v', h1, h2, h3⟩ := product_fin (a := false) (b := false) (e := false) (o := o) (c := (i : Int)) hK h (by omega) (ux i) (fx i hiN) (uy i) (fy i hiN)
    obtain ⟨q, h4, h5⟩ := ih (i + 1) u' v' (o || !((sgn (rd xs (i : Int)) != sgn (rd ys (i : Int))) && decide (plc (rd xs (i : Int)) = 0 ∨ plc (rd ys (i : Int)) = 0))) (by omega) (by
      have : ((i + 1 : Nat) : Int) = (i : Int) + 1 := by omega
      rw [this]; exact h2)
    refine ⟨q, ?_, ?_⟩
    · have e : wrap64 ((i : Int) + 1) = ((i + 1 : Nat) : Int) := by unfold wrap64; omega
      refine Ev_succ ?_
      simp only [gather_Dot.l245, gather_Dot.b245, ln_eq, e]
      refine Ev_pos (by omega) (Ev_pos (by omega) (Ev_pos (by omega) (Ev_pos (by omega) (Ev_pos (by omega) (Ev.bind h1 ?_)))))
      exact h4
    · rw [drop_cons (l := xs) (by omega), drop_cons (l := ys) (by omega)]
      simp only [dotS, dotO]
      rw [← Int.add_assoc, ← h3, ← Bool.or_assoc]
      exact h5
theorem dot_ev {xs ys : List Int} {N K : Nat} (hK : K = 1074) (hx : xs.length = N) (hy : ys.length = N) (hN : N ≤ 1099511627776) (ux : ∀ j : Nat, U (rd xs (j : Int))) (uy : ∀ j : Nat, U (rd ys (j : Int))) (fx : ∀ j : Nat, j < N → fin (rd xs (j : Int))) (fy : ∀ j : Nat, j < N → fin (rd ys (j : Int))) :
    ∃ q, Ev (fun n _ _ => gather_Dot.f n xs ys) (q, 0) ∧ RdQ q (dotS xs ys) (2 ^ K) (decide (N > 0) && !dotO xs ys) := by
  obtain ⟨q, h1, h2⟩ := dot_l hK hx hy hN ux uy fx fy N 0 (List.replicate 72 0) (List.replicate 72 0) false (by omega) RowsOK.zero
  rw [tot_zero, Int.zero_add, Bool.false_or, List.drop_zero, List.drop_zero] at h2
  refine ⟨q, ?_, h2⟩
  simp only [gather_Dot.f, gather_Dot.b0, ln_eq, hx, hy]
  refine Ev_neg (by simp) ?_
  have e : gather_New.f = some (false, false, false, false, 0, List.replicate 72 0, List.replicate 72 0) := rfl
  refine Ev_bind_eq e ?_
  exact Ev_in (g := fun n m _ => gather_Dot.l245 n m ys xs N 0 false false false false 0 (List.replicate 72 0) (List.replicate 72 0)) h1
theorem rd_U {l : List Int} (h : ∀ x ∈ l, U x) (j : Nat) : U (rd l (j : Int)) := by
  rw [rd_nat, List.getD_eq_getElem?_getD]
  cases hq : l[j]? with
  | none => unfold U; exact ⟨Int.le_refl _, by decide⟩
  | some x => exact h x (List.mem_of_getElem? hq)
theorem rd_fin {l : List Int} (h : ∀ x ∈ l, fin x) (j : Nat) (hj : j < l.length) : fin (rd l (j : Int)) := by
  rw [rd_nat, List.getD_eq_getElem?_getD, List.getElem?_eq_getElem hj, Option.getD_some]
  exact h _ (List.getElem_mem hj)
theorem near_nought {p M : Nat} (hM : 0 < M) (h : Near p 0 M) : p = 0 := near_unique hM hM h (near_zero (by omega)) rfl
theorem RdQ.neg {d T : Int} {M : Nat} {z : Bool} (h : RdQ d T M z) (hT : T < 0) : d / 9223372036854775808 = 1 := by
  obtain ⟨s, p, rfl, h1, h2, _⟩ := h
  have hp := h1.top
  unfold inf at hp
  rw [h2 (by omega), decide_eq_true hT]
  unfold put
  rw [if_pos rfl]
  omega
theorem RdQ.pos {d T : Int} {M : Nat} {z : Bool} (h : RdQ d T M z) (hT : 0 ≤ T) (hz : T = 0 → z = false) : d / 9223372036854775808 = 0 := by
  obtain ⟨s, p, rfl, h1, h2, h3⟩ := h
  have hp := h1.top
  unfold inf at hp
  have hs : s = false := by
    by_cases h0 : T = 0
    · rw [h3 h0, hz h0]
    · rw [h2 h0, decide_eq_false (by omega)]
  rw [hs]
  unfold put
  rw [if_neg (by simp)]
  omega
theorem RdQ.zero {d : Int} {M : Nat} {z : Bool} (hM : 0 < M) (h : RdQ d 0 M z) : d = put z 0 := by
  obtain ⟨s, p, rfl, h1, h2, h3⟩ := h
  rw [near_nought hM h1, h3 rfl]
end Go.Proofs.YtcacmhcekoeblaaDoor.Gdot
