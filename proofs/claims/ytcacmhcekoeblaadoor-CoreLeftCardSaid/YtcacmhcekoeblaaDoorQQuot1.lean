/- What the printed calls of quot compute: DivMod, Near, Root. Conditions: lists of limbs below 2^64. -/
import Derived.Test.YtcacmhcekoeblaaDoorQPow
import Derived.Test.YtcacmhcekoeblaaDoorQLong
namespace Go.Proofs.YtcacmhcekoeblaaDoor.Quot1
open Go.RowKit Go.Proofs.YtcacmhcekoeblaaDoor.Lib Go.Proofs.YtcacmhcekoeblaaDoor.LibB Go.Proofs.YtcacmhcekoeblaaDoor.F Go.Proofs.YtcacmhcekoeblaaDoor.Nat1 Go.Proofs.YtcacmhcekoeblaaDoor.Nat2 Go.Proofs.YtcacmhcekoeblaaDoor.Bits Go.Proofs.YtcacmhcekoeblaaDoor.Pow Go.Proofs.YtcacmhcekoeblaaDoor.Div Go.Proofs.YtcacmhcekoeblaaDoor.Long
open Go.Proofs.YtcacmhcekoeblaaDoorA (rd ln ln_eq mx mn shl shr wr wr_eq)
set_option linter.unusedVariables false
set_option linter.unusedSimpArgs false

/-! ### DivMod -/
def dmAns (a b : Nat) : List Int × List Int × Int := if a < B 4096 ∧ b < B 4096 then (if b = 0 then ([], [], 4) else (lim (a / b), lim (a % b), 0)) else ([], [], 2)
theorem FromUint_eq {n : Nat} (h : n < 18446744073709551616) : nat_FromUint.f (n : Int) = some (lim n) := by
  unfold nat_FromUint.f nat_FromUint.b0
  by_cases h0 : n = 0
  · subst h0
    rw [if_pos (show ((0 : Nat) : Int) = 0 from rfl), lim_zero]
  · rw [if_neg (by omega), lim_one_len h h0]
theorem divmod_j0 {a b : Nat} (ha : a < B 4096) (hb : b < B 4096) : Ev (fun n _ _ => (if ((lim b).length : Int) = 0 then some (([] : List Int), ([] : List Int), 4) else ((nat_Cmp.f n (lim a) (lim b)).bind fun t3 => (if t3 < 0 then some (([] : List Int), lim a, 0) else (if ((lim b).length : Int) = 1 then (if 0 < ((lim b).length : Int) then ((nat_DivSmall.f n (lim a) (rd (lim b) 0)).bind fun t4 => ((nat_FromUint.f t4.2.1).bind fun t5 => some (t4.1, t5, t4.2.2))) else none) else ((quot_long.f n (lim a) (lim b)).bind fun t6 => some (t6.1, t6.2, 0))))))) (if b = 0 then ([], [], 4) else (lim (a / b), lim (a % b), 0)) := by
  have la := (lim_len_le a 4096).2 ha
  have lb := (lim_len_le b 4096).2 hb
  have hz := @lim_len_zero b
  have h1 := lim_len_le b 1
  rw [B_one] at h1
  by_cases h0 : b = 0
  · rw [if_pos h0]
    exact Ev_pos (by omega) (Ev_some rfl)
  · rw [if_neg h0]
    refine Ev_neg (by omega) ?_
    have hc := nat_Cmp_ev (ok_lim a) (ok_lim b) (by omega) (by omega)
    rw [val_lim, val_lim] at hc
    refine Ev.bind hc ?_
    by_cases hlt : a < b
    · refine Ev_pos ((cmp_neg a b).2 hlt) (Ev_some ?_)
      rw [Nat.div_eq_of_lt hlt, Nat.mod_eq_of_lt hlt, lim_zero]
    · refine Ev_neg (fun h => hlt ((cmp_neg a b).1 h)) ?_
      by_cases hone : (lim b).length = 1
      · have hb1 := h1.1 (by omega)
        have hr : rd (lim b) 0 = (b : Int) := by rw [lim_one_len hb1 h0]; rfl
        have hd := nat_DivSmall_ev (a := lim a) (d := (b : Int)) (ok_lim a) (by omega) (by omega)
        rw [val_lim, divAns, if_pos ha, if_neg (by omega), Int.toNat_natCast] at hd
        rw [hr]
        refine Ev_pos (by omega) (Ev_pos (by omega) (Ev.bind hd (Ev_bind_eq (FromUint_eq ?_) (Ev_some rfl))))
        exact Nat.lt_of_lt_of_le (Nat.mod_lt _ (by omega)) (by omega)
      · refine Ev_neg (by omega) (Ev.bind (long_ev ha (by omega) ?_) (Ev_some rfl))
        omega
theorem quot_DivMod_ev {x y : List Int} (hx : ok x) (hy : ok y) (hlx : x.length ≤ 35184372088832) (hly : y.length ≤ 35184372088832) : Ev (fun k _ _ => quot_DivMod.f k x y) (dmAns (val x) (val y)) := by
  simp only [quot_DivMod.f, quot_DivMod.b0, ln_eq]
  refine Ev.bind (quot_small_ev hx hlx) (Ev.bind (quot_small_ev hy hly) ?_)
  have la := lim_len_le (val x) 4096
  have lb := lim_len_le (val y) 4096
  unfold dmAns
  by_cases h1 : val x < B 4096
  · rw [decide_eq_true (by have := la.2 h1; omega)]
    refine Ev_neg (by simp) ?_
    by_cases h2 : val y < B 4096
    · rw [if_pos ⟨h1, h2⟩, decide_eq_true (by have := lb.2 h2; omega)]
      exact Ev_neg (by simp) (divmod_j0 h1 h2)
    · rw [if_neg (fun h => h2 h.2), decide_eq_false (fun h => h2 (lb.1 (by omega)))]
      exact Ev_pos (by simp) (Ev_some rfl)
  · rw [if_neg (fun h => h1 h.1), decide_eq_false (fun h => h1 (la.1 (by omega)))]
    exact Ev_pos (by simp) (Ev_some rfl)
theorem len_lim {n : Nat} (h : n < B 4096) : (lim n).length ≤ 4096 := (lim_len_le n 4096).2 h
theorem add_ev {a b : Nat} (ha : a < B 4096) (hb : b < B 4096) : Ev (fun k _ _ => nat_Add.f k (lim a) (lim b)) (ans (a + b)) := by
  have := nat_Add_ev (ok_lim a) (ok_lim b) (by have := len_lim ha; omega) (by have := len_lim hb; omega)
  rwa [val_lim, val_lim, ans2, if_pos ⟨ha, hb⟩] at this
theorem sub_ev {a b : Nat} (ha : a < B 4096) (hb : b ≤ a) : Ev (fun k _ _ => nat_Sub.f k (lim a) (lim b)) (lim (a - b), 0) := by
  have := nat_Sub_ev (ok_lim a) (ok_lim b) (by have := len_lim ha; omega) (by have := len_lim (Nat.lt_of_le_of_lt hb ha); omega)
  rwa [val_lim, val_lim, subAns, ans2, if_pos ⟨ha, Nat.lt_of_le_of_lt hb ha⟩, if_neg (by omega)] at this
theorem cmp_ev {a b : Nat} (ha : a < B 4096) (hb : b < B 4096) : Ev (fun k _ _ => nat_Cmp.f k (lim a) (lim b)) (cmp a b) := by
  have := nat_Cmp_ev (ok_lim a) (ok_lim b) (by have := len_lim ha; omega) (by have := len_lim hb; omega)
  rwa [val_lim, val_lim] at this
theorem small_limit {n : Nat} (h : n < 18446744073709551616) : n < B 4096 := by
  have := B_mono (show 1 ≤ 4096 by omega)
  rw [B_one] at this
  omega
theorem dm_ev {a b : Nat} (ha : a < B 4096) (hb : b < B 4096) (h0 : b ≠ 0) : Ev (fun k _ _ => quot_DivMod.f k (lim a) (lim b)) (lim (a / b), lim (a % b), 0) := by
  have := quot_DivMod_ev (ok_lim a) (ok_lim b) (by have := len_lim ha; omega) (by have := len_lim hb; omega)
  rwa [val_lim, val_lim, dmAns, if_pos ⟨ha, hb⟩, if_neg h0] at this

end Go.Proofs.YtcacmhcekoeblaaDoor.Quot1
