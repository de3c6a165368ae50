/- What the printed calls of quot compute: DivMod, Near, Root. Conditions: lists of limbs below 2^64. -/
import Derived.Test.YtalkmbmhmbnadaaDoorQPow
import Derived.Test.YtalkmbmhmbnadaaDoorQLong
namespace Go.Proofs.YtalkmbmhmbnadaaDoor.Quot1
open Go.RowKit Go.Proofs.YtalkmbmhmbnadaaDoor.Lib Go.Proofs.YtalkmbmhmbnadaaDoor.LibB Go.Proofs.YtalkmbmhmbnadaaDoor.F Go.Proofs.YtalkmbmhmbnadaaDoor.Nat1 Go.Proofs.YtalkmbmhmbnadaaDoor.Nat2 Go.Proofs.YtalkmbmhmbnadaaDoor.Bits Go.Proofs.YtalkmbmhmbnadaaDoor.Pow Go.Proofs.YtalkmbmhmbnadaaDoor.Div Go.Proofs.YtalkmbmhmbnadaaDoor.Long
open Go.Proofs.YtalkmbmhmbnadaaDoorA (rd ln ln_eq mx mn shl shr wr wr_eq)
set_option linter.unusedVariables false
set_option linter.unusedSimpArgs false

/-! ### DivMod -/
def dmAns (a b : Nat) : List Int × List Int × Int := if a < B 4096 ∧ b < B 4096 then (if b = 0 then ([], [], 4) else (lim (a / b), lim (a % b), 0)) else ([], [], 2)
theorem FromUint_eq {n : Nat} (h : n < 18446744073709551616) : nat_FromUint.f (n : Int) = some (lim n) := by
  unfold nat_FromUint.f nat_FromUint.b0
  by_cases h0 : n = 0
  · subst h0
    rw [if_pos (show ((0 : Nat) : Int) = 0 from rfl), lim_zero]
  · rw [if_neg (by omega), lim_one_len h h0]
theorem divmod_j0 {a b : Nat} (ha : a < B 4096) (hb : b < B 4096) : Ev (fun n _ _ => (if ((lim b).length : Int) = 0 then some (([] : List Int), ([] : List Int), 4) else ((nat_Cmp.f n (lim a) (lim b)).bind fun t3 => (if t3 < 0 then some (([] : List Int), lim a, 0) else (if ((lim b).length : Int) = 1 then (if 0 < ((lim b).length : Int) then ((nat_DivSmall.f n (lim a) (rd (lim b) 0)).bind fun t4 => ((nat_FromUint.f t4.2.1).bind fun t5 => some (t4.1, t5, t4.2.2))) else none) else ((quot_long.f n (lim a) (lim b)).bind fun t6 => some (t6.1, t6.2, 0))))))) (if b = 0 then ([], [], 4) else (lim (a / b), lim (a % b), 0)) := by
  have la := (lim_len_le a 4096).2 ha
  have lb := (lim_len_le b 4096).2 hb
  have hz := @lim_len_zero b
  have h1 := lim_len_le b 1
  rw [B_one] at h1
  by_cases h0 : b = 0
  · rw [if_pos h0]
    exact Ev_pos (by omega) (Ev_some rfl)
  · rw [if_neg h0]
    refine Ev_neg (by omega) ?_
    have hc := nat_Cmp_ev (ok_lim a) (ok_lim b) (by omega) (by omega)
    rw [val_lim, val_lim] at hc
    refine Ev.bind hc ?_
    by_cases hlt : a < b
    · refine Ev_pos ((cmp_neg a b).2 hlt) (Ev_some ?_)
      rw [Nat.div_eq_of_lt hlt, Nat.mod_eq_of_lt hlt, lim_zero]
    · refine Ev_neg (fun h => hlt ((cmp_neg a b).1 h)) ?_
      by_cases hone : (lim b).length = 1
      · have hb1 := h1.1 (by omega)
        have hr : rd (lim b) 0 = (b : Int) := by rw [lim_one_len hb1 h0]; rfl
        have hd := nat_DivSmall_ev (a := lim a) (d := (b : Int)) (ok_lim a) (by omega) (by omega)
        rw [val_lim, divAns, if_pos ha, if_neg (by omega), Int.toNat_natCast] at hd
        rw [hr]
        refine Ev_pos (by omega) (Ev_pos (by omega) (Ev.bind hd (Ev_bind_eq (FromUint_eq ?_) (Ev_some rfl))))
        exact Nat.lt_of_lt_of_le (Nat.mod_lt _ (by omega)) (by omega)
      · refine Ev_neg (by omega) (Ev.bind (long_ev ha (by omega) ?_) (Ev_some rfl))
        omega
theorem quot_DivMod_ev {x y : List Int} (hx : ok x) (hy : ok y) (hlx : x.length ≤ 35184372088832) (hly : y.length ≤ 35184372088832) : Ev (fun k _ _ => quot_DivMod.f k x y) (dmAns (val x) (val y)) := by
  simp only [quot_DivMod.f, quot_DivMod.b0, ln_eq]
  refine Ev.bind (quot_small_ev hx hlx) (Ev.bind (quot_small_ev hy hly) ?_)
  have la := lim_len_le (val x) 4096
  have lb := lim_len_le (val y) 4096
  unfold dmAns
  by_cases h1 : val x < B 4096
  · rw [decide_eq_true (by have := la.2 h1; omega)]
    refine Ev_neg (by simp) ?_
    by_cases h2 : val y < B 4096
    · rw [if_pos ⟨h1, h2⟩, decide_eq_true (by have := lb.2 h2; omega)]
      exact Ev_neg (by simp) (divmod_j0 h1 h2)
    · rw [if_neg (fun h => h2 h.2), decide_eq_false (fun h => h2 (lb.1 (by omega)))]
      exact Ev_pos (by simp) (Ev_some rfl)
  · rw [if_neg (fun h => h1 h.1), decide_eq_false (fun h => h1 (la.1 (by omega)))]
    exact Ev_pos (by simp) (Ev_some rfl)
theorem ans_snd {n : Nat} : (ans n).2 = 0 ∧ n < B 4096 ∧ ans n = (lim n, 0) ∨ (ans n).2 = 2 ∧ ¬ n < B 4096 ∧ ans n = ([], 2) := by
  by_cases h : n < B 4096
  · left; rw [ans_ok h]; exact ⟨rfl, h, rfl⟩
  · right; rw [ans_big h]; exact ⟨rfl, h, rfl⟩
theorem len_lim {n : Nat} (h : n < B 4096) : (lim n).length ≤ 4096 := (lim_len_le n 4096).2 h
theorem lim_limb {n : Nat} (h : n < 18446744073709551616) (h0 : n ≠ 0) : [(n : Int)] = lim n := (lim_one_len h h0).symm
theorem val_limb (n : Nat) : val [(n : Int)] = n := by simp [val_cons, val_nil]
theorem ok_limb {n : Nat} (h : n < 18446744073709551616) : ok [(n : Int)] := fun x hx => by
  have : x = (n : Int) := by simpa using hx
  omega
theorem one_eq (n : Nat) (h : n < 18446744073709551616) (h0 : n ≠ 0) : abacuslaw02_one.f (n : Int) = some (lim n) := by
  unfold abacuslaw02_one.f abacuslaw02_one.b0; rw [lim_limb h h0]
theorem same_ev {a b : Nat} (ha : a < B 4096) : Ev (fun k _ _ => abacuslaw02_alike.f k (lim a) (lim b)) (decide (a = b)) := by
  have h := abacuslaw02_alike_ev (a := lim a) (b := lim b) (by have := len_lim ha; omega)
  have : (lim a = lim b) ↔ (a = b) := ⟨lim_inj, fun h => by rw [h]⟩
  rw [decide_eq_decide.2 this] at h
  exact h
theorem mul_ev {a b : Nat} (ha : a < B 4096) (hb : b < B 4096) : Ev (fun k _ _ => nat_Mul.f k (lim a) (lim b)) (ans (a * b)) := by
  have := nat_Mul_ev (ok_lim a) (ok_lim b) (by have := len_lim ha; omega) (by have := len_lim hb; omega)
  rwa [val_lim, val_lim, mulAns_eq ha hb] at this
theorem cmp_ev {a b : Nat} (ha : a < B 4096) (hb : b < B 4096) : Ev (fun k _ _ => nat_Cmp.f k (lim a) (lim b)) (cmp a b) := by
  have := nat_Cmp_ev (ok_lim a) (ok_lim b) (by have := len_lim ha; omega) (by have := len_lim hb; omega)
  rwa [val_lim, val_lim] at this
theorem small_limit {n : Nat} (h : n < 18446744073709551616) : n < B 4096 := by
  have := B_mono (show 1 ≤ 4096 by omega)
  rw [B_one] at this
  omega
theorem dm_ev {a b : Nat} (ha : a < B 4096) (hb : b < B 4096) (h0 : b ≠ 0) : Ev (fun k _ _ => quot_DivMod.f k (lim a) (lim b)) (lim (a / b), lim (a % b), 0) := by
  have := quot_DivMod_ev (ok_lim a) (ok_lim b) (by have := len_lim ha; omega) (by have := len_lim hb; omega)
  rwa [val_lim, val_lim, dmAns, if_pos ⟨ha, hb⟩, if_neg h0] at this

end Go.Proofs.YtalkmbmhmbnadaaDoor.Quot1
