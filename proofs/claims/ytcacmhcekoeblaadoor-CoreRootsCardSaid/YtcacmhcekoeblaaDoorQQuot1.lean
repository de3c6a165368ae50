/- What the printed calls of quot compute: DivMod, Near, Root. Conditions: lists of limbs below 2^64. -/
import Derived.Test.YtcacmhcekoeblaaDoorQPow
import Derived.Test.YtcacmhcekoeblaaDoorQLong
namespace Go.Proofs.YtcacmhcekoeblaaDoor.Quot1
open Go.RowKit Go.Proofs.YtcacmhcekoeblaaDoor.Lib Go.Proofs.YtcacmhcekoeblaaDoor.LibB Go.Proofs.YtcacmhcekoeblaaDoor.F Go.Proofs.YtcacmhcekoeblaaDoor.Nat1 Go.Proofs.YtcacmhcekoeblaaDoor.Nat2 Go.Proofs.YtcacmhcekoeblaaDoor.Bits Go.Proofs.YtcacmhcekoeblaaDoor.Pow Go.Proofs.YtcacmhcekoeblaaDoor.Div Go.Proofs.YtcacmhcekoeblaaDoor.Long
open Go.Proofs.YtcacmhcekoeblaaDoorA (rd ln ln_eq mx mn shl shr wr wr_eq)
set_option linter.unusedVariables false
set_option linter.unusedSimpArgs false

/-! ### DivMod -/
def dmAns (a b : Nat) : List Int × List Int × Int := if a < B 4096 ∧ b < B 4096 then (if b = 0 then ([], [], 4) else (lim (a / b), lim (a % b), 0)) else ([], [], 2)
theorem FromUint_eq {n : Nat} (h : n < 18446744073709551616) : nat_FromUint.f (n : Int) = some (lim n) := by
  unfold nat_FromUint.f nat_FromUint.b0
  by_cases h0 : n = 0
  · subst h0
    rw [if_pos (show ((0 : Nat) : Int) = 0 from rfl), lim_zero]
  · rw [if_neg (by omega), lim_one_len h h0]
theorem divmod_j0 {a b : Nat} (ha : a < B 4096) (hb : b < B 4096) : Ev (fun n _ _ => (if ((lim b).length : Int) = 0 then some (([] : List Int), ([] : List Int), 4) else ((nat_Cmp.f n (lim a) (lim b)).bind fun t3 => (if t3 < 0 then some (([] : List Int), lim a, 0) else (if ((lim b).length : Int) = 1 then (if 0 < ((lim b).length : Int) then ((nat_DivSmall.f n (lim a) (rd (lim b) 0)).bind fun t4 => ((nat_FromUint.f t4.2.1).bind fun t5 => some (t4.1, t5, t4.2.2))) else none) else ((quot_long.f n (lim a) (lim b)).bind fun t6 => some (t6.1, t6.2, 0))))))) (if b = 0 then ([], [], 4) else (lim (a / b), lim (a % b), 0)) := by
  have la := (lim_len_le a 4096).2 ha
  have lb := (lim_len_le b 4096).2 hb
  have hz := @lim_len_zero b
  have h1 := lim_len_le b 1
  rw [B_one] at h1
  by_cases h0 : b = 0
  · rw [if_pos h0]
    exact Ev_pos (by omega) (Ev_some rfl)
  · rw [if_neg h0]
    refine Ev_neg (by omega) ?_
    have hc := nat_Cmp_ev (ok_lim a) (ok_lim b) (by omega) (by omega)
    rw [val_lim, val_lim] at hc
    refine Ev.bind hc ?_
    by_cases hlt : a < b
    · refine Ev_pos ((cmp_neg a b).2 hlt) (Ev_some ?_)
      rw [Nat.div_eq_of_lt hlt, Nat.mod_eq_of_lt hlt, lim_zero]
    · refine Ev_neg (fun h => hlt ((cmp_neg a b).1 h)) ?_
      by_cases hone : (lim b).length = 1
      · have hb1 := h1.1 (by omega)
        have hr : rd (lim b) 0 = (b : Int) := by rw [lim_one_len hb1 h0]; rfl
        have hd := nat_DivSmall_ev (a := lim a) (d := (b : Int)) (ok_lim a) (by omega) (by omega)
        rw [val_lim, divAns, if_pos ha, if_neg (by omega), Int.toNat_natCast] at hd
        rw [hr]
        refine Ev_pos (by omega) (Ev_pos (by omega) (Ev.bind hd (Ev_bind_eq (FromUint_eq ?_) (Ev_some rfl))))
        exact Nat.lt_of_lt_of_le (Nat.mod_lt _ (by omega)) (by omega)
      · refine Ev_neg (by omega) (Ev.bind (long_ev ha (by omega) ?_) (Ev_some rfl))
        omega
theorem quot_DivMod_ev {x y : List Int} (hx : ok x) (hy : ok y) (hlx : x.length ≤ 35184372088832) (hly : y.length ≤ 35184372088832) : Ev (fun k _ _ => quot_DivMod.f k x y) (dmAns (val x) (val y)) := by
  simp only [quot_DivMod.f, quot_DivMod.b0, ln_eq]
  refine Ev.bind (quot_small_ev hx hlx) (Ev.bind (quot_small_ev hy hly) ?_)
  have la := lim_len_le (val x) 4096
  have lb := lim_len_le (val y) 4096
  unfold dmAns
  by_cases h1 : val x < B 4096
  · rw [decide_eq_true (by have := la.2 h1; omega)]
    refine Ev_neg (by simp) ?_
    by_cases h2 : val y < B 4096
    · rw [if_pos ⟨h1, h2⟩, decide_eq_true (by have := lb.2 h2; omega)]
      exact Ev_neg (by simp) (divmod_j0 h1 h2)
    · rw [if_neg (fun h => h2 h.2), decide_eq_false (fun h => h2 (lb.1 (by omega)))]
      exact Ev_pos (by simp) (Ev_some rfl)
  · rw [if_neg (fun h => h1 h.1), decide_eq_false (fun h => h1 (la.1 (by omega)))]
    exact Ev_pos (by simp) (Ev_some rfl)
theorem len_lim {n : Nat} (h : n < B 4096) : (lim n).length ≤ 4096 := (lim_len_le n 4096).2 h
theorem lim_limb {n : Nat} (h : n < 18446744073709551616) (h0 : n ≠ 0) : [(n : Int)] = lim n := (lim_one_len h h0).symm
theorem mul_ev {a b : Nat} (ha : a < B 4096) (hb : b < B 4096) : Ev (fun k _ _ => nat_Mul.f k (lim a) (lim b)) (ans (a * b)) := by
  have := nat_Mul_ev (ok_lim a) (ok_lim b) (by have := len_lim ha; omega) (by have := len_lim hb; omega)
  rwa [val_lim, val_lim, mulAns_eq ha hb] at this
theorem add_ev {a b : Nat} (ha : a < B 4096) (hb : b < B 4096) : Ev (fun k _ _ => nat_Add.f k (lim a) (lim b)) (ans (a + b)) := by
  have := nat_Add_ev (ok_lim a) (ok_lim b) (by have := len_lim ha; omega) (by have := len_lim hb; omega)
  rwa [val_lim, val_lim, ans2, if_pos ⟨ha, hb⟩] at this
theorem sub_ev {a b : Nat} (ha : a < B 4096) (hb : b ≤ a) : Ev (fun k _ _ => nat_Sub.f k (lim a) (lim b)) (lim (a - b), 0) := by
  have := nat_Sub_ev (ok_lim a) (ok_lim b) (by have := len_lim ha; omega) (by have := len_lim (Nat.lt_of_le_of_lt hb ha); omega)
  rwa [val_lim, val_lim, subAns, ans2, if_pos ⟨ha, Nat.lt_of_le_of_lt hb ha⟩, if_neg (by omega)] at this
theorem cmp_ev {a b : Nat} (ha : a < B 4096) (hb : b < B 4096) : Ev (fun k _ _ => nat_Cmp.f k (lim a) (lim b)) (cmp a b) := by
  have := nat_Cmp_ev (ok_lim a) (ok_lim b) (by have := len_lim ha; omega) (by have := len_lim hb; omega)
  rwa [val_lim, val_lim] at this
theorem small_limit {n : Nat} (h : n < 18446744073709551616) : n < B 4096 := by
  have := B_mono (show 1 ≤ 4096 by omega)
  rw [B_one] at this
  omega
theorem dm_ev {a b : Nat} (ha : a < B 4096) (hb : b < B 4096) (h0 : b ≠ 0) : Ev (fun k _ _ => quot_DivMod.f k (lim a) (lim b)) (lim (a / b), lim (a % b), 0) := by
  have := quot_DivMod_ev (ok_lim a) (ok_lim b) (by have := len_lim ha; omega) (by have := len_lim hb; omega)
  rwa [val_lim, val_lim, dmAns, if_pos ⟨ha, hb⟩, if_neg h0] at this

theorem shlAns_ok {a : Nat} {n : Nat} (ha : a < B 4096) (h : a * 2 ^ n < B 4096) (hn : n ≤ 262144) : shlAns a (n : Int) = (lim (a * 2 ^ n), 0) := by
  unfold shlAns
  rw [if_pos ha, if_neg (by omega)]
  by_cases h0 : a = 0
  · rw [if_pos h0, h0, Nat.zero_mul, lim_zero]
  · rw [if_neg h0, if_neg (by omega), Int.toNat_natCast, ans_ok h]
/-! ### Root -/
theorem isq_ex (x : Nat) : ∃ s, s * s ≤ x ∧ x < (s + 1) * (s + 1) := by
  induction x with
  | zero => exact ⟨0, by omega, by omega⟩
  | succ x ih =>
    obtain ⟨s, h1, h2⟩ := ih
    rcases Nat.lt_or_ge (x + 1) ((s + 1) * (s + 1)) with h | h
    · exact ⟨s, by omega, h⟩
    · refine ⟨s + 1, h, ?_⟩
      have : (s + 1 + 1) * (s + 1 + 1) = (s + 1) * (s + 1) + 2 * (s + 1) + 1 := by
        rw [Nat.add_mul (s + 1) 1, Nat.mul_add (s + 1) (s + 1) 1]; omega
      omega
theorem sq_le {a b : Nat} (h : a ≤ b) : a * a ≤ b * b := Nat.mul_le_mul h h
theorem am_gm {s r : Nat} (h : r ≤ 2 * s) : (2 * s - r) * r ≤ s * s := by
  rcases Nat.le_total r s with h1 | h1
  · obtain ⟨d, rfl⟩ := Nat.exists_eq_add_of_le h1
    rw [show 2 * (r + d) - r = r + d + d by omega, Nat.add_mul, Nat.mul_add (r + d) r d, Nat.add_mul r d d, Nat.mul_comm (r + d) r]
    have := Nat.mul_comm d r
    omega
  · obtain ⟨d, rfl⟩ := Nat.exists_eq_add_of_le h1
    obtain ⟨e, rfl⟩ : ∃ e, s = d + e := ⟨s - d, by omega⟩
    rw [show 2 * (d + e) - (d + e + d) = e by omega, Nat.mul_add, Nat.mul_add e d e, Nat.add_mul d e (d + e), Nat.mul_add d d e, Nat.mul_add e d e]
    have := Nat.mul_comm d e
    omega
theorem newton_ge {x s r : Nat} (h : s * s ≤ x) (hr : 0 < r) : s ≤ (r + x / r) / 2 := by
  have hd := fun k => Nat.div_lt_iff_lt_mul (x := x) (y := k) hr
  generalize x / r = q at *
  rcases Nat.lt_or_ge (r + q) (2 * s) with h1 | h1
  · have h2 : x < (2 * s - r) * r := (hd _).1 (by omega)
    have := am_gm (s := s) (r := r) (by omega)
    omega
  · omega
theorem newton_end {x s r : Nat} (h2 : x < (s + 1) * (s + 1)) (h1 : s ≤ r) (hr : 0 < r) (h : r ≤ (r + x / r) / 2) : r = s := by
  have h3 : r ≤ x / r := by omega
  have h4 := (Nat.le_div_iff_mul_le hr).1 h3
  rcases Nat.lt_or_ge s r with h5 | h5
  · have := sq_le (show s + 1 ≤ r from h5); omega
  · omega
theorem root_l {x s : Nat} (hx : x < B 256) (hx0 : 0 < x) (h1 : s * s ≤ x) (h2 : x < (s + 1) * (s + 1)) (r : Nat) : s ≤ r → r ≤ B 257 →
    Ev (fun k m _ => quot_Root.l505 k m (lim x) (lim r)) (lim s, decide (s * s = x), 0) := by
  have b6 : B 256 ≤ B 4096 := B_mono (by omega)
  have b7 : B 257 * 2 ≤ B 258 := by rw [B_succ 257]; have := B_pos 257; omega
  have b8 : B 258 < B 4096 := by
    have h := B_mono (show 259 ≤ 4096 by omega)
    rw [B_succ 258] at h
    have := B_pos 258
    omega
  have b67 : B 256 ≤ B 257 := B_mono (by omega)
  have hs0 : 0 < s := by
    rcases Nat.eq_zero_or_pos s with h | h
    · subst h; omega
    · exact h
  induction r using Nat.strongRecOn with
  | _ r ih =>
  intro hsr hrb
  have hr : 0 < r := by omega
  have hrB : r < B 4096 := by omega
  have hxB : x < B 4096 := by omega
  have hq : x / r ≤ x := Nat.div_le_self _ _
  refine Ev_succ ?_
  simp only [quot_Root.l505, quot_Root.b505, quot_Root.l127, quot_Root.b127]
  refine Ev.bind (dm_ev hxB hrB (by omega)) ?_
  dsimp only
  have ha := add_ev hrB (show x / r < B 4096 by omega)
  rw [ans_ok (by omega)] at ha
  refine Ev.bind ha ?_
  dsimp only
  have hsh := nat_Shr_ev (a := lim (r + x / r)) (n := 1) (ok_lim _) (by have := len_lim (show r + x / r < B 4096 by omega); omega) (by omega)
  rw [val_lim, shrAns, if_pos (by omega), if_neg (by omega), show (1 : Int).toNat = 1 from rfl, Nat.pow_one] at hsh
  refine Ev.bind hsh ?_
  dsimp only
  have hn := newton_ge h1 hr
  refine Ev.bind (cmp_ev (show (r + x / r) / 2 < B 4096 by omega) hrB) ?_
  have c := cmp_neg ((r + x / r) / 2) r
  by_cases hge : r ≤ (r + x / r) / 2
  · have he := newton_end h2 hsr hr hge
    subst he
    refine Ev_pos (by
      rcases Int.lt_or_le (cmp ((r + x / r) / 2) r) 0 with h | h
      · exact absurd (c.1 h) (by omega)
      · exact h) ?_
    have hm := mul_ev hrB hrB
    have hrr : r * r < B 4096 := by omega
    rw [ans_ok hrr] at hm
    refine Ev.bind hm (Ev.bind (cmp_ev hrr hxB) (Ev_some ?_))
    have c0 := cmp_zero (r * r) x
    by_cases h : r * r = x
    · rw [decide_eq_true h, c0.2 h]; rfl
    · rw [decide_eq_false h]
      have : cmp (r * r) x ≠ 0 := fun h' => h (c0.1 h')
      simp [this]
  · refine Ev_neg (by have := c.2 (by omega); omega) ?_
    exact ih ((r + x / r) / 2) (by omega) hn (by omega)
theorem blen_B {n k : Nat} (h : n < B k) : blen n ≤ 64 * k := (blen_le _ _).2 (by rw [← B_two]; exact h)
theorem pow_lt_B {e k : Nat} (h : e < 64 * k) : 2 ^ e < B k := by rw [B_two]; exact Nat.pow_lt_pow_right (by omega) h
theorem quot_Root_ev {a : List Int} (ha : ok a) (hla : a.length ≤ 35184372088832) : ∃ s, s * s ≤ val a ∧ val a < (s + 1) * (s + 1) ∧ Ev (fun k _ _ => quot_Root.f k a) (if val a < B 256 then (lim s, decide (s * s = val a), 0) else ([], false, 2)) := by
  obtain ⟨s, h1, h2⟩ := isq_ex (val a)
  refine ⟨s, h1, h2, ?_⟩
  simp only [quot_Root.f, quot_Root.b0, ln_eq]
  refine Ev.bind (quot_small_ev ha hla) ?_
  have hl := lim_len_le (val a) 256
  have hz := @lim_len_zero (val a)
  by_cases hb : val a < B 256
  · rw [if_pos hb]
    refine Ev_neg (by have := hl.2 hb; simp; omega) ?_
    dsimp only
    by_cases h0 : val a = 0
    · refine Ev_pos (by omega) (Ev_some ?_)
      have : s = 0 := by
        rcases Nat.eq_zero_or_pos s with h | h
        · exact h
        · have := sq_le (show 1 ≤ s from h); omega
      rw [this, lim_zero, h0]
      rfl
    · refine Ev_neg (by omega) ?_
      have hbl := nat_BitLen_ev (l := lim (val a)) (ok_lim _) (by have := hl.2 hb; omega)
      rw [val_lim] at hbl
      have b16 := blen_B hb
      obtain ⟨e, he⟩ : ∃ e, e = (blen (val a) + 1) / 2 := ⟨_, rfl⟩
      have hw : wrap64 (Int.tdiv (wrap64 ((blen (val a) : Int) + 1)) 2) = (e : Int) := by
        rw [show wrap64 ((blen (val a) : Int) + 1) = ((blen (val a) + 1 : Nat) : Int) by unfold wrap64; omega, Int.tdiv_eq_ediv_of_nonneg (by omega)]
        unfold wrap64; omega
      refine Ev.bind hbl ?_
      rw [hw]
      have hone : ([1] : List Int) = lim 1 := by rw [← lim_limb (by omega) (by omega)]; rfl
      have hsh := nat_Shl_ev (a := lim 1) (n := (e : Int)) (ok_lim 1) (by have := len_lim (small_limit (n := 1) (by omega)); omega) (by omega)
      have h2e : 2 ^ e < B 257 := pow_lt_B (by omega)
      have hB : 2 ^ e < B 4096 := Nat.lt_of_lt_of_le h2e (B_mono (by omega))
      rw [val_lim, shlAns_ok (small_limit (by omega)) (by rw [Nat.one_mul]; exact hB) (by omega), Nat.one_mul] at hsh
      rw [hone]
      refine Ev.bind hsh ?_
      dsimp only
      refine Ev_in (g := fun n m _ => quot_Root.l505 n m (lim (val a)) (lim (2 ^ e))) (root_l hb (by omega) h1 h2 (2 ^ e) ?_ (Nat.le_of_lt h2e))
      have hlt := blen_lt (val a)
      have h3 : 2 ^ blen (val a) ≤ 2 ^ e * 2 ^ e := by rw [← Nat.pow_add]; exact Nat.pow_le_pow_right (by omega) (by omega)
      rcases Nat.lt_or_ge (2 ^ e) s with h | h
      · have := sq_le (Nat.le_of_lt h); omega
      · exact h
  · rw [if_neg hb]
    exact Ev_pos (by
      have : ¬ (lim (val a)).length ≤ 256 := fun h => hb (hl.1 h)
      simp; omega) (Ev_some rfl)
end Go.Proofs.YtcacmhcekoeblaaDoor.Quot1
