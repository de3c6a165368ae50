/- What the laws' first look (awake) answers. No conditions. -/
import Derived.Test.YtnicfpilpafddaaRNat2
import Derived.Test.YtnicfpilpafddaaPRx2
namespace Go.Proofs.Ytnicfpilpafddaa.RNat3
open Go.RowKit Go.Proofs.YtnicfpilpafddaaW.PrintWords Go.Proofs.YtnicfpilpafddaaW.PrintLast Go.Proofs.YtnicfpilpafddaaW.PrintMore Go.Proofs.Ytnicfpilpafddaa.Lib Go.Proofs.Ytnicfpilpafddaa.PR Go.Proofs.Ytnicfpilpafddaa.RNat1 Go.Proofs.Ytnicfpilpafddaa.RNat2
set_option linter.unusedVariables false
theorem lt_limit {n m : Nat} (h : n < B m) (hm : m ≤ 4096) : n < B 4096 := Nat.lt_of_lt_of_le h (B_mono hm)
theorem ok_of_list {l : List Int} (h : l.all (fun x => decide (0 ≤ x) && decide (x < 18446744073709551616)) = true) : ok l := by
  intro x hx
  have := List.all_eq_true.1 h x hx
  simpa using this
theorem small_limit {n : Nat} (h : n < 340282366920938463463374607431768211456) : n < B 4096 := lt_limit (m := 2) (by rw [B_succ, B_one]; exact h) (by omega)
theorem awake_ev : Ev (fun k => abacuslaw01_awake.f k) true := by
  simp only [abacuslaw01_awake.f]
  have h1 := nat_Add_ev (a := [18446744073709551615]) (b := [1]) (ok_of_list (by decide)) (ok_of_list (by decide)) (by simp) (by simp)
  have h2 := nat_Mul_ev (a := [0, 3]) (b := [7]) (ok_of_list (by decide)) (ok_of_list (by decide)) (by simp) (by simp)
  have e1 : val [18446744073709551615] = 18446744073709551615 := by simp [val_cons, val_nil]
  have e2 : val [1] = 1 := by simp [val_cons, val_nil]
  have e3 : val [0, 3] = 55340232221128654848 := by simp [val_cons, val_nil]
  have e4 : val [7] = 7 := by simp [val_cons, val_nil]
  have l1 : lim 18446744073709551616 = [0, 1] := by
    have := lim_val (l := [0, 1]) (ok_of_list (by decide)) (by simp)
    rwa [show val [0, 1] = 18446744073709551616 by simp [val_cons, val_nil]] at this
  have l2 : lim 387381625547900583936 = [0, 21] := by
    have := lim_val (l := [0, 21]) (ok_of_list (by decide)) (by simp)
    rwa [show val [0, 21] = 387381625547900583936 by simp [val_cons, val_nil]] at this
  have l3 : lim 55340232221128654848 = [0, 3] := by rw [← e3]; exact lim_val (ok_of_list (by decide)) (by simp)
  have l4 : lim 7 = [7] := by rw [← e4]; exact lim_val (ok_of_list (by decide)) (by simp)
  rw [e1, e2, ans2, if_pos ⟨small_limit (by omega), small_limit (by omega)⟩, ans, if_pos (small_limit (by omega)), l1] at h1
  rw [e3, e4, mulAns, ans2, if_pos ⟨small_limit (by omega), small_limit (by omega)⟩, if_neg (by omega), l3, l4, if_neg (by simp), ans, if_pos (small_limit (by omega)), l2] at h2
  refine Ev.bind h1 ?_
  refine Ev_pos rfl (Ev_pos (by simp) (Ev_pos (by simp) (Ev_pos (by simp [rd]) (Ev_pos (by simp) (Ev_pos (by simp [rd]) ?_)))))
  refine Ev.bind h2 ?_
  exact Ev_pos rfl (Ev_pos (by simp) (Ev_pos (by simp) (Ev_pos (by simp [rd]) (Ev_pos (by simp) (Ev_some (by simp [rd]))))))

/-! ### answers within the limit -/
theorem len_limit {n m : Nat} (h : n < B m) (hm : m ≤ 4097) : (lim n).length ≤ 9223372036854775806 := by
  have := (lim_len_le n m).2 h
  omega
theorem B_mul_lt {a b m n : Nat} (ha : a < B m) (hb : b < B n) : a * b < B (m + n) := by
  rw [B_add]
  exact Nat.lt_of_le_of_lt (Nat.mul_le_mul_right b (Nat.le_of_lt ha)) (Nat.mul_lt_mul_of_pos_left hb (B_pos m))
theorem B_add_lt {a b m : Nat} (ha : a < B m) (hb : b < B m) : a + b < B (m + 1) := by
  rw [B_succ]
  omega
theorem add_ok {a b m : Nat} (ha : a < B m) (hb : b < B m) (h : m + 1 ≤ 4096) : ans2 a b (ans (a + b)) = (lim (a + b), 0) := by
  rw [ans2, if_pos ⟨lt_limit ha (by omega), lt_limit hb (by omega)⟩, ans, if_pos (lt_limit (B_add_lt ha hb) h)]
theorem mul_ok {a b m n : Nat} (ha : a < B m) (hb : b < B n) (h : m + n ≤ 4096) : mulAns a b = (lim (a * b), 0) := by
  have la := (lim_len_le a m).2 ha
  have lb := (lim_len_le b n).2 hb
  rw [mulAns, ans2, if_pos ⟨lt_limit ha (by omega), lt_limit hb (by omega)⟩]
  by_cases hz : a = 0 ∨ b = 0
  · rw [if_pos hz]
    rcases hz with rfl | rfl
    · rw [Nat.zero_mul, lim_zero]
    · rw [Nat.mul_zero, lim_zero]
  · rw [if_neg hz, if_neg (by omega), ans, if_pos (lt_limit (B_mul_lt ha hb) h)]
end Go.Proofs.Ytnicfpilpafddaa.RNat3
