/- The law of the nearest whole number (at most a half away, even where just a half, or the error) holds for every input. No conditions. -/
import Derived.Test.YtegollbojafekaaDoorSQuot1
import Derived.Test.YtegollbojafekaaDoorPSx11
namespace Go.Proofs.YtegollbojafekaaDoor.Pure
open Go.RowKit Go.Proofs.YtegollbojafekaaDoorW.PrintWords Go.Proofs.YtegollbojafekaaDoorW.PrintLast Go.Proofs.YtegollbojafekaaDoorW.PrintMore Go.Proofs.YtegollbojafekaaDoor.Lib Go.Proofs.YtegollbojafekaaDoor.LibB Go.Proofs.YtegollbojafekaaDoor.PS Go.Proofs.YtegollbojafekaaDoor.SNat1 Go.Proofs.YtegollbojafekaaDoor.SNat2 Go.Proofs.YtegollbojafekaaDoor.SBits Go.Proofs.YtegollbojafekaaDoor.SPow Go.Proofs.YtegollbojafekaaDoor.SQuot1
set_option linter.unusedVariables false
theorem cmp_right {a : Nat} {y : List Int} (ha : a < B 4096) (hy : ok y) (hl : y.length ≤ 35184372088832) : Ev (fun k => nat_Cmp.f k (lim a) y) (cmp a (val y)) := by
  have := nat_Cmp_ev (ok_lim a) hy (by have := len_lim ha; omega) (by omega)
  rwa [val_lim] at this
theorem cmp_left {b : Nat} {x : List Int} (hb : b < B 4096) (hx : ok x) (hl : x.length ≤ 35184372088832) : Ev (fun k => nat_Cmp.f k x (lim b)) (cmp (val x) b) := by
  have := nat_Cmp_ev hx (ok_lim b) (by omega) (by have := len_lim hb; omega)
  rwa [val_lim] at this
theorem mul_right {a : Nat} {y : List Int} (ha : a < B 4096) (hy : ok y) (hl : y.length ≤ 35184372088832) (hb : val y < B 4096) : Ev (fun k => nat_Mul.f k (lim a) y) (ans (a * val y)) := by
  have := nat_Mul_ev (ok_lim a) hy (by have := len_lim ha; omega) (by omega)
  rwa [val_lim, mulAns_eq ha hb] at this
theorem sub_left {b : Nat} {x : List Int} (hx : ok x) (hl : x.length ≤ 35184372088832) (hxB : val x < B 4096) (hb : b ≤ val x) : Ev (fun k => nat_Sub.f k x (lim b)) (lim (val x - b), 0) := sub_at hx hl rfl hxB hb
theorem sub_right {a : Nat} {y : List Int} (ha : a < B 4096) (hy : ok y) (hl : y.length ≤ 35184372088832) (hb : val y ≤ a) : Ev (fun k => nat_Sub.f k (lim a) y) (lim (a - val y), 0) := by
  have := nat_Sub_ev (ok_lim a) hy (by have := len_lim ha; omega) (by omega)
  rwa [val_lim, subAns, ans2, if_pos ⟨ha, Nat.lt_of_le_of_lt hb ha⟩, if_neg (by omega)] at this
/-- How far n*b is from a, and what that is against b. -/
def dist (a p : Nat) : Nat := if a < p then p - a else a - p
theorem near_dist {a b : Nat} (hb : 0 < b) : 2 * dist a (nearN a b * b) ≤ b ∧ (2 * dist a (nearN a b * b) = b → nearN a b % 2 = 0) := by
  have hm := Nat.div_add_mod a b
  have hr := Nat.mod_lt a hb
  unfold nearN dist
  rw [Nat.mul_comm] at hm
  generalize a % b = r at *
  generalize a / b = q at *
  by_cases h : b - r < r ∨ (b - r = r ∧ q % 2 = 1)
  · simp only [if_pos h]
    rw [Nat.add_mul, Nat.one_mul]
    generalize q * b = t at *
    split <;> omega
  · simp only [if_neg h, Nat.add_zero]
    generalize q * b = t at *
    split <;> omega
theorem halves_gap {x y : List Int} {n : Nat} (hx : ok x) (hy : ok y) (hlx : x.length ≤ 35184372088832) (hly : y.length ≤ 35184372088832) (ha : val x < B 4096) (hb : val y < B 4096) (hn : n < B 4096) (hp : n * val y < B 4096) :
    Ev (fun k => abacuslaw02_gap.f k x y (lim n)) (lim (dist (val x) (n * val y)), true) := by
  have m := mul_right hn hy hly hb
  rw [ans_ok hp] at m
  have c := cmp_left hp hx hlx
  have cn := cmp_neg (val x) (n * val y)
  simp only [abacuslaw02_gap.f]
  refine Ev.bind m (Ev_pos (by first | rfl | trivial) (Ev.bind c ?_))
  unfold dist
  by_cases h : val x < n * val y
  · rw [if_pos h]
    have s := nat_Sub_ev (ok_lim (n * val y)) hx (by have := len_lim hp; omega) (by omega)
    rw [val_lim, subAns, ans2, if_pos ⟨hp, ha⟩, if_neg (by omega)] at s
    exact Ev_pos (cn.2 h) (Ev.bind s (Ev_some rfl))
  · rw [if_neg h]
    exact Ev_neg (fun h' => h (cn.1 h')) (Ev.bind (sub_left hx hlx ha (by omega)) (Ev_some rfl))
theorem halves_j1t {x y z : List Int} : Ev (fun k => abacuslaw02_QuotHalves.j1 k x y z true) true := by
  refine Ev_succ ?_
  simp only [abacuslaw02_QuotHalves.j1]
  exact Ev_pos (by simp) (Ev_some rfl)
theorem halves_j1 {x y : List Int} (hx : ok x) (hy : ok y) (hlx : x.length ≤ 35184372088832) (hly : y.length ≤ 35184372088832) (ha : val x < B 4094) (hb : val y < B 4094) (h0 : val y ≠ 0) :
    nearN (val x) (val y) < B 4096 ∧ Ev (fun k => abacuslaw02_QuotHalves.j1 k x y (lim (nearN (val x) (val y))) false) true := by
  have b5 : B 4095 = 18446744073709551616 * B 4094 := B_succ 4094
  have b6 : B 4096 = 18446744073709551616 * B 4095 := B_succ 4095
  obtain ⟨d1, d2⟩ := near_dist (a := val x) (b := val y) (by omega)
  have hpB : nearN (val x) (val y) * val y < B 4096 ∧ dist (val x) (nearN (val x) (val y) * val y) * 2 ^ 1 < B 4096 := by
    unfold dist at d1 ⊢
    split at d1 <;> rename_i h <;> simp only [h, if_true, if_false] <;> omega
  have hnn : nearN (val x) (val y) ≤ nearN (val x) (val y) * val y := Nat.le_mul_of_pos_right _ (by omega)
  have hnB : nearN (val x) (val y) < B 4096 := by omega
  refine ⟨hnB, ?_⟩
  generalize hN : nearN (val x) (val y) = n at *
  generalize hD : dist (val x) (n * val y) = d at *
  have g := halves_gap (n := n) hx hy hlx hly (by omega) (by omega) hnB hpB.1
  rw [hD] at g
  have s := nat_Shl_ev (a := lim d) (n := 1) (ok_lim d) (by have := len_lim (show d < B 4096 by omega); omega) (by omega)
  have hs := shlAns_ok (a := d) (n := 1) (by omega) hpB.2 (by omega)
  rw [val_lim, show (1 : Int) = ((1 : Nat) : Int) from rfl, hs] at s
  refine Ev_succ ?_
  simp only [abacuslaw02_QuotHalves.j1]
  have c := cmp_right (a := d * 2 ^ 1) hpB.2 hy hly
  have cn := cmp_neg (d * 2 ^ 1) (val y)
  have c0 := cmp_zero (d * 2 ^ 1) (val y)
  refine Ev_neg (by simp) (Ev.bind g (Ev_pos (by first | rfl | trivial) (Ev.bind s (Ev_pos (by first | rfl | trivial) (Ev.bind c ?_)))))
  by_cases hlt : d * 2 ^ 1 < val y
  · exact Ev_pos (cn.2 hlt) (Ev_some rfl)
  · refine Ev_neg (fun h => hlt (cn.1 h)) ?_
    have he : d * 2 ^ 1 = val y := by omega
    refine Ev_pos (c0.2 he) (Ev_bind_eq (bit_zero hnB) (Ev_some ?_))
    rw [d2 (by omega)]
    rfl
theorem halves_j0 {x y : List Int} (hx : ok x) (hy : ok y) (hlx : x.length ≤ 35184372088832) (hly : y.length ≤ 35184372088832) : Ev (fun k => abacuslaw02_QuotHalves.j0 k x y false) true := by
  have la := lim_len_le (val x) 4094
  have lb := lim_len_le (val y) 4094
  refine Ev_succ ?_
  simp only [abacuslaw02_QuotHalves.j0]
  refine Ev_neg (by simp) (Ev.bind (quot_Near_ev hx hy hlx hly) (Ev.bind (errs_ev hx hy hlx hly) ?_))
  unfold nearAns errOf
  by_cases h1 : val x < B 4096 ∧ val y < B 4096
  · simp only [if_pos h1]
    by_cases h0 : val y = 0
    · simp only [if_pos h0]
      exact Ev_pos (by first | rfl | trivial) (Ev_neg (by simp) (Ev_some rfl))
    · simp only [if_neg h0]
      have hnear : nearN (val x) (val y) < B 4096 := by
        obtain ⟨d1, d2⟩ := near_dist (a := val x) (b := val y) (by omega)
        unfold nearN
        have hq : val x / val y ≤ val x := Nat.div_le_self _ _
        split
        · rename_i h
          have hr := Nat.mod_lt (val x) (show 0 < val y by omega)
          have : 2 ≤ val y := by omega
          have h2 : val x / val y ≤ val x / 2 := Nat.div_le_div_left this (by omega)
          have := B_pos 4095
          have b6 : B 4096 = 18446744073709551616 * B 4095 := B_succ 4095
          omega
        · omega
      rw [ans_ok hnear]
      refine Ev_pos (by first | rfl | trivial) (Ev_pos (by first | rfl | trivial) (Ev.bind (abacusref02_Top_ev hx (by omega)) ?_))
      by_cases h2 : val x < B 4094
      · refine Ev_neg (by have := la.2 h2; omega) (Ev.bind (abacusref02_Top_ev hy (by omega)) ?_)
        by_cases h3 : val y < B 4094
        · rw [decide_eq_false (by have := lb.2 h3; omega)]
          exact (halves_j1 hx hy hlx hly h2 h3 h0).2
        · rw [decide_eq_true (by
            rcases Int.lt_or_le 4094 ((lim (val y)).length : Int) with h | h
            · exact h
            · exact absurd (lb.1 (by omega)) h3)]
          exact halves_j1t
      · refine Ev_pos ?_ halves_j1t
        rcases Int.lt_or_le 4094 ((lim (val x)).length : Int) with h | h
        · exact h
        · exact absurd (la.1 (by omega)) h2
  · simp only [if_neg h1]
    exact Ev_pos (by first | rfl | trivial) (Ev_neg (by simp) (Ev_some rfl))
theorem near_three : nearN 3 2 = 2 := by decide
theorem QuotHalves : abacuslaw02_QuotHalves.Pure := by
  intro l0 l1 _ h0 w0 _ h1 w1
  suffices h : Ev (fun k => abacuslaw02_QuotHalves.f k l0 l1) true by
    obtain ⟨K, hK⟩ := h
    exact ⟨K, hK K (Nat.le_refl _)⟩
  have hn := quot_Near_ev (x := lim 3) (y := lim 2) (ok_lim 3) (ok_lim 2) (by have := len_lim (small_limit (n := 3) (by omega)); omega) (by have := len_lim (small_limit (n := 2) (by omega)); omega)
  rw [val_lim, val_lim, nearAns, if_pos ⟨small_limit (by omega), small_limit (by omega)⟩, if_neg (by omega), near_three, ans_ok (small_limit (by omega))] at hn
  simp only [abacuslaw02_QuotHalves.f]
  refine Ev_bind_eq (one_eq 3 (by omega) (by omega)) (Ev_bind_eq (one_eq 2 (by omega) (by omega)) (Ev.bind hn (Ev_pos (by first | rfl | trivial) ?_)))
  refine Ev_bind_eq (one_eq 2 (by omega) (by omega)) (Ev.bind (same_ev (small_limit (by omega))) ?_)
  exact halves_j0 (ok_of_wf w0) (ok_of_wf w1) (by omega) (by omega)
end Go.Proofs.YtegollbojafekaaDoor.Pure
