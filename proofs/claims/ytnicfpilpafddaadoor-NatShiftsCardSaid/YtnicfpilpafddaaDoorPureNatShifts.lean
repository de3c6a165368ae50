/- The law of the shifts of nat holds for every input. No conditions. -/
import Derived.Test.YtnicfpilpafddaaDoorTNat3
import Derived.Test.YtnicfpilpafddaaDoorTBits
import Derived.Test.YtnicfpilpafddaaDoorPTx9
namespace Go.Proofs.YtnicfpilpafddaaDoor.Pure
open Go.RowKit Go.Proofs.YtnicfpilpafddaaDoorW.PrintWords Go.Proofs.YtnicfpilpafddaaDoorW.PrintLast Go.Proofs.YtnicfpilpafddaaDoorW.PrintMore Go.Proofs.YtnicfpilpafddaaDoor.Lib Go.Proofs.YtnicfpilpafddaaDoor.LibB Go.Proofs.YtnicfpilpafddaaDoor.PT Go.Proofs.YtnicfpilpafddaaDoor.TNat1 Go.Proofs.YtnicfpilpafddaaDoor.TNat2 Go.Proofs.YtnicfpilpafddaaDoor.TNat3 Go.Proofs.YtnicfpilpafddaaDoor.TBits
set_option linter.unusedVariables false
theorem shifts_j0t (a : List Int) (n : Int) : Ev (fun k => abacuslaw01_NatShifts.j0 k a n true) true := by
  refine Ev_succ ?_
  simp only [abacuslaw01_NatShifts.j0]
  exact Ev_pos (by simp) (Ev_some rfl)
theorem shifts_wrap {b n : Nat} (hb : b ≤ 262144) (hn : n ≤ 262144) : wrap64 ((b : Int) + (n : Int)) = ((b + n : Nat) : Int) := by unfold wrap64; omega
theorem shifts_blen {v : Nat} (h : v < B 4096) : blen v ≤ 262144 := by
  obtain ⟨N, hN⟩ : ∃ N, N = 64 * 4096 := ⟨_, rfl⟩
  rw [B_two, ← hN, ← blen_le] at h
  omega
theorem shifts_big {v n : Nat} (h0 : v ≠ 0) : v * 2 ^ n < B 4096 ↔ blen v + n ≤ 262144 := by
  obtain ⟨N, hN⟩ : ∃ N, N = 64 * 4096 := ⟨_, rfl⟩
  rw [B_two, ← hN, ← blen_le, blen_mul_pow h0]
  omega
theorem shifts_j4 {a : List Int} {n : Nat} {lost : Bool} {back : List Int} (ha : ok a) (hla : a.length ≤ 35184372088832) (hv : val a < B 4096) (hn : n ≤ 262144) (hl : lost = decide (val a ≠ 0 ∧ ((tz (val a) : Nat) : Int) < (n : Int))) (hb : back = lim (val a / 2 ^ n * 2 ^ n)) :
    Ev (fun k => abacuslaw01_NatShifts.j4 k a (n : Int) lost back false) true := by
  subst hl hb
  have hle : val a / 2 ^ n * 2 ^ n ≤ val a := Nat.div_mul_le_self _ _
  have hb : val a / 2 ^ n * 2 ^ n < B 4096 := Nat.lt_of_le_of_lt hle hv
  have hbl := (lim_len_le _ 4096).2 hb
  have hm : val a % 2 ^ n < B 4096 := Nat.lt_of_le_of_lt (Nat.mod_le _ _) hv
  have hml := (lim_len_le _ 4096).2 hm
  have hd : val a - val a / 2 ^ n * 2 ^ n = val a % 2 ^ n := by
    have := Nat.div_add_mod (val a) (2 ^ n)
    rw [Nat.mul_comm] at this
    omega
  refine Ev_succ ?_
  simp only [abacuslaw01_NatShifts.j4]
  refine Ev_neg (by simp) ?_
  have e1 := nat_Sub_ev ha (ok_lim (val a / 2 ^ n * 2 ^ n)) (by omega) (by omega)
  rw [val_lim, sub_ok hv hle, hd] at e1
  have e2 := nat_Low_ev (a := a) (n := (n : Int)) ha hla (by omega)
  rw [lowAns, if_pos hv, if_neg (by omega), Int.toNat_natCast] at e2
  have e3 := abacuslaw01_same_ev (a := lim (val a % 2 ^ n)) (b := lim (val a % 2 ^ n)) (by omega)
  rw [decide_eq_true rfl] at e3
  have e4 := nat_BitLen_ev (l := lim (val a % 2 ^ n)) (ok_lim _) (by omega)
  rw [val_lim] at e4
  have h4 : blen (val a % 2 ^ n) ≤ n := (blen_le _ _).2 (Nat.mod_lt _ (Nat.pow_pos (by omega)))
  refine Ev.bind e1 (Ev.bind e2 (Ev_pos rfl (Ev_pos rfl (Ev.bind e3 (Ev_pos rfl (Ev.bind e4 (Ev_pos (by omega) (Ev_some ?_))))))))
  have hz := @lim_len_zero (val a % 2 ^ n)
  dsimp only
  rw [beq_iff_eq, decide_eq_decide]
  by_cases h0 : val a = 0
  · have : val a % 2 ^ n = 0 := by rw [h0, Nat.zero_mod]
    constructor
    · intro h
      exact absurd h0 h.1
    · intro h
      have := hz.2 this
      omega
  · have h5 := tz_dvd h0 n
    constructor
    · intro h
      have : val a % 2 ^ n ≠ 0 := fun h6 => by have := h5.1 h6; have := h.2; omega
      have h7 : (lim (val a % 2 ^ n)).length ≠ 0 := fun h8 => this (hz.1 h8)
      omega
    · intro h
      refine ⟨h0, ?_⟩
      have : val a % 2 ^ n ≠ 0 := fun h6 => by have := hz.2 h6; omega
      have h7 : ¬ n ≤ tz (val a) := fun h8 => this (h5.2 h8)
      omega
theorem shifts_j3 {a : List Int} {n : Nat} (ha : ok a) (hla : a.length ≤ 35184372088832) (hv : val a < B 4096) (hn : n ≤ 262144) : Ev (fun k => abacuslaw01_NatShifts.j3 k a (n : Int)) true := by
  have hle : val a / 2 ^ n * 2 ^ n ≤ val a := Nat.div_mul_le_self _ _
  have hd : val a / 2 ^ n < B 4096 := Nat.lt_of_le_of_lt (Nat.div_le_self _ _) hv
  have hdl := (lim_len_le _ 4096).2 hd
  refine Ev_succ ?_
  simp only [abacuslaw01_NatShifts.j3]
  have e1 := nat_Shr_ev (a := a) (n := (n : Int)) ha hla (by omega)
  rw [shrAns, if_pos hv, if_neg (by omega), Int.toNat_natCast] at e1
  have e2 := nat_Shl_ev (a := lim (val a / 2 ^ n)) (n := (n : Int)) (ok_lim _) (by omega) (by omega)
  rw [val_lim, shlAns, if_pos hd, if_neg (by omega), Int.toNat_natCast] at e2
  have e3 : (if val a / 2 ^ n = 0 then (([], 0) : List Int × Int) else if (n : Int) > 262144 then ([], 2) else ans (val a / 2 ^ n * 2 ^ n)) = (lim (val a / 2 ^ n * 2 ^ n), 0) := by
    by_cases h0 : val a / 2 ^ n = 0
    · rw [if_pos h0, h0, Nat.zero_mul, lim_zero]
    · rw [if_neg h0, if_neg (by omega), ans, if_pos (Nat.lt_of_le_of_lt hle hv)]
  rw [e3] at e2
  exact Ev.bind e1 (Ev.bind e2 (Ev_pos rfl (shifts_j4 ha hla hv hn rfl rfl)))
theorem NatShifts : abacuslaw01_NatShifts.Pure := by
  intro a n la ya wa wn
  refine Ev.rounds ?_
  have ha := ok_of_wf wa
  have hla : a.length ≤ 35184372088832 := by omega
  simp only [abacuslaw01_NatShifts.f]
  refine Ev.bind awake_ev (Ev_pos rfl ?_)
  refine Ev.bind (abacuslaw01_size_ev ha (by omega)) ?_
  have hs := lim_len_le (val a) 4096
  by_cases h1 : (lim (val a)).length > 4096
  · exact Ev_pos (by omega) (shifts_j0t a n)
  · have hv := hs.1 (by omega)
    refine Ev_neg (by omega) ?_
    by_cases h2 : n < 0
    · exact Ev_pos h2 (shifts_j0t a n)
    · refine Ev_neg h2 ?_
      by_cases h3 : n > 262144
      · rw [decide_eq_true h3]
        exact shifts_j0t a n
      · rw [decide_eq_false h3]
        obtain ⟨m, rfl⟩ := Int.eq_ofNat_of_zero_le (show 0 ≤ n by omega)
        have hm : m ≤ 262144 := by omega
        have hb := shifts_blen hv
        have j3 := shifts_j3 ha hla hv hm
        refine Ev_succ ?_
        simp only [abacuslaw01_NatShifts.j0]
        have e1 := nat_Shl_ev (a := a) (n := (m : Int)) ha (by omega) (by omega)
        rw [shlAns, if_pos hv, if_neg h2, if_neg h3, Int.toNat_natCast] at e1
        refine Ev_neg (by simp) (Ev.bind (nat_BitLen_ev ha hla) ?_)
        by_cases h0 : val a = 0
        · rw [if_pos h0] at e1
          refine Ev.bind e1 (Ev_neg ?_ ?_)
          · rw [h0, blen_zero]; decide
          · refine Ev_succ ?_
            simp only [abacuslaw01_NatShifts.j1]
            have e2 := nat_Shr_ev (a := []) (n := (m : Int)) ok_nil (by simp) (by omega)
            rw [val_nil, shrAns, if_pos (B_pos _), if_neg h2, Nat.zero_div, decide_eq_false (fun h : (0 : Nat) ≠ 0 ∧ ((tz 0 : Nat) : Int) < (m : Int) => h.1 rfl), lim_zero] at e2
            have e3 := nat_Cmp_ev (a := []) (b := a) ok_nil ha (by simp) (by omega)
            rw [val_nil, h0, cmp_self] at e3
            refine Ev_neg (by simp) (Ev.bind e2 (Ev_pos (by first | rfl | trivial) (Ev_pos (by first | rfl | trivial) (Ev_neg (by simp) (Ev.bind e3 ?_)))))
            refine Ev_succ ?_
            simp only [abacuslaw01_NatShifts.j2]
            refine Ev_neg (by decide) (Ev_neg ?_ j3)
            rw [h0, blen_zero]; decide
        · rw [if_neg h0] at e1
          have hbp := blen_pos.2 h0
          have hbig := shifts_big (n := m) h0
          refine Ev.bind e1 (Ev_pos (by omega) ?_)
          rw [shifts_wrap hb hm]
          by_cases h4 : blen (val a) + m ≤ 262144
          · have hvm := hbig.2 h4
            have hvl := (lim_len_le _ 4096).2 hvm
            rw [decide_eq_false (by omega), ans, if_pos hvm]
            refine Ev_succ ?_
            simp only [abacuslaw01_NatShifts.j1]
            have e2 := nat_Shr_ev (a := lim (val a * 2 ^ m)) (n := (m : Int)) (ok_lim _) (by omega) (by omega)
            have ht := tz_mul_pow h0 m
            rw [val_lim, shrAns, if_pos hvm, if_neg h2, Int.toNat_natCast, Nat.mul_div_cancel _ (Nat.pow_pos (by omega)), decide_eq_false (fun h : val a * 2 ^ m ≠ 0 ∧ ((tz (val a * 2 ^ m) : Nat) : Int) < (m : Int) => by have := h.2; omega)] at e2
            have e3 := nat_Cmp_ev (ok_lim (val a)) ha (by omega) (by omega)
            rw [val_lim, cmp_self] at e3
            refine Ev_neg (by simp) (Ev.bind e2 (Ev_pos (by first | rfl | trivial) (Ev_pos (by first | rfl | trivial) (Ev_neg (by simp) (Ev.bind e3 ?_)))))
            refine Ev_succ ?_
            simp only [abacuslaw01_NatShifts.j2]
            have e4 := nat_BitLen_ev (l := lim (val a * 2 ^ m)) (ok_lim _) (by omega)
            rw [val_lim, blen_mul_pow h0] at e4
            have e5 := nat_Trail_ev (l := lim (val a * 2 ^ m)) (ok_lim _) (by omega)
            rw [val_lim, ht] at e5
            have htb : tz (val a) ≤ 262144 := by
              rcases Nat.lt_or_ge (tz (val a)) (blen (val a)) with h5 | h5
              · omega
              · exfalso
                have h6 := (tz_dvd h0 (blen (val a))).2 h5
                rw [Nat.mod_eq_of_lt (blen_lt _)] at h6
                exact h0 h6
            refine Ev_neg (by decide) (Ev_pos (by omega) (Ev.bind e4 (Ev_pos ?_ (Ev.bind e5 (Ev.bind (nat_Trail_ev ha hla) (Ev_pos ?_ j3))))))
            · rw [shifts_wrap hb hm]
            · rw [shifts_wrap htb hm]
          · rw [decide_eq_true (by omega), ans, if_neg (fun h => h4 (hbig.1 h))]
            refine Ev_succ ?_
            simp only [abacuslaw01_NatShifts.j1]
            exact Ev_pos (by first | rfl | trivial) (Ev_pos (by first | rfl | trivial) (Ev_pos (by first | rfl | trivial) j3))
end Go.Proofs.YtnicfpilpafddaaDoor.Pure
