/- What Fmod and the remainder leave of a double are alike or b apart, exactly. No conditions. -/
import Derived.Test.YtcacmhcekoeblaaDoorQGdot
import Derived.Test.YtcacmhcekoeblaaDoorQRemainCentres
namespace Go.Proofs.YtcacmhcekoeblaaDoor.Pure
open Go.RowKit Go.Proofs.YtcacmhcekoeblaaDoor.Lib Go.Proofs.YtcacmhcekoeblaaDoor.LibB Go.Proofs.YtcacmhcekoeblaaDoor.F Go.Proofs.YtcacmhcekoeblaaDoor.Nat1 Go.Proofs.YtcacmhcekoeblaaDoor.Nat2 Go.Proofs.YtcacmhcekoeblaaDoor.Rnd Go.Proofs.YtcacmhcekoeblaaDoor.Ieee1 Go.Proofs.YtcacmhcekoeblaaDoor.Ieee2 Go.Proofs.YtcacmhcekoeblaaDoor.Gat Go.Proofs.YtcacmhcekoeblaaDoor.Gac Go.Proofs.YtcacmhcekoeblaaDoor.Gdot
open Go.Proofs.YtcacmhcekoeblaaDoorA (rd ln ln_eq mx mn shl shr wr wr_eq)
open Go.Proofs.YtcacmhcekoeblaaDoor.Soft1 (sv sval Rd Add_ev)
set_option linter.unusedVariables false
set_option linter.unusedSimpArgs false
theorem seven_ev : Ev (fun k _ _ => remain_Fmod.f k 4619567317775286272 4613937818241073152) 4607182418800017408 := Ev_at 3000 fun d => by kernel_rfl
theorem put_false (p : Nat) : put false p = (p : Int) := rfl
theorem sval_put {s : Bool} {p : Nat} (hp : p ≤ inf) : sval (put s p) = sv s (uni p) := by
  obtain ⟨_, h1, h2⟩ := Go.Proofs.YtcacmhcekoeblaaDoor.Soft1.put_U (s := s) hp
  unfold sval
  rw [h1, h2]
theorem put_fin {s : Bool} {p : Nat} (hp : p < inf) : fin (put s p) := by
  obtain ⟨_, h1, _⟩ := Go.Proofs.YtcacmhcekoeblaaDoor.Soft1.put_U (s := s) (Nat.le_of_lt hp)
  rw [plc_fin, h1]
  exact hp
theorem abs_put {d : Int} (h : U d) : ieee_Abs.f d = some (plc d : Int) := by
  rw [Abs_eq h]
  unfold plc
  have := Int.emod_nonneg d (show (9223372036854775808 : Int) ≠ 0 by omega)
  congr 1
  omega
/-- The two rests are alike, or b apart. -/
theorem two_rests {A B' z : Nat} {s f : Bool} (hB : 0 < B') (hf : z = 0 → f = false) (h : CentreR A B' z f) : sv s (A % B') - sv (s != f) z = 0 ∨ (sv s (A % B') - sv (s != f) z).natAbs = B' := by
  obtain ⟨h1, k, h2, _⟩ := h
  cases f with
  | false =>
    left
    rw [if_neg (by simp)] at h2
    have : A % B' = z := by
      rw [h2, Nat.add_comm, Nat.add_mul_mod_self_right]
      exact Nat.mod_eq_of_lt (by omega)
    rw [this]
    cases s <;> simp
  | true =>
    right
    have z0 : z ≠ 0 := fun hh => by have := hf hh; cases this
    rw [if_pos rfl] at h2
    have : A % B' = B' - z := by
      obtain ⟨j, rfl⟩ : ∃ j, k = j + 1 := ⟨k - 1, by
        rcases Nat.eq_zero_or_pos k with h0 | h0
        · subst h0; rw [Nat.zero_mul] at h2; omega
        · omega⟩
      rw [Nat.add_mul, Nat.one_mul] at h2
      have h3 : A = (B' - z) + j * B' := by omega
      rw [h3, Nat.add_mul_mod_self_right]
      exact Nat.mod_eq_of_lt (by omega)
    rw [this]
    unfold sv
    cases s <;> simp <;> omega
theorem uni_mid {k F : Nat} (hF : F = k + 52) : uni ((k + 1) * 4503599627370496) = 2 ^ F := by
  have h1 : (k + 1) * 4503599627370496 = k * 4503599627370496 + 4503599627370496 := by omega
  rw [h1, uni_at (.inr (Nat.le_refl _)) (by omega), hF, Nat.pow_add, Nat.mul_comm]
theorem cls_zero {d : Int} (h : cls d = 0) : plc d = 0 := by
  unfold cls at h
  unfold plc
  split at h
  · rename_i h2; rw [h2]; rfl
  · repeat' split at h
    all_goals omega
theorem two_dot {x y O : Int} : x * O + (y * (-O) + 0) = (x - y) * O := by rw [Int.mul_neg, Int.sub_mul]; omega
theorem natAbs_mul_pow (D : Int) (n : Nat) : (D * (n : Int)).natAbs = D.natAbs * n := by rw [Int.natAbs_mul, Int.natAbs_natCast]
/-- The difference of two doubles, exactly. -/
theorem apart_ev {x y : Int} {K : Nat} (hK : K = 1074) (hx : U x) (fx : fin x) (hy : U y) (fy : fin y) :
    ∃ q, Ev (fun n _ _ => gather_Dot.f n [x, y] [4607182418800017408, 13830554455654793216]) (q, 0) ∧ ∃ s p, q = put s p ∧ Near p (sval x - sval y).natAbs 1 := by
  have u1 : U (4607182418800017408 : Int) ∧ fin (4607182418800017408 : Int) := by unfold U fin; decide
  have u2 : U (13830554455654793216 : Int) ∧ fin (13830554455654793216 : Int) := by unfold U fin; decide
  have U1 : ∀ z ∈ [x, y], U z := by
    intro z hz
    simp only [List.mem_cons, List.not_mem_nil, or_false] at hz
    rcases hz with rfl | rfl
    · exact hx
    · exact hy
  have F1 : ∀ z ∈ [x, y], fin z := by
    intro z hz
    simp only [List.mem_cons, List.not_mem_nil, or_false] at hz
    rcases hz with rfl | rfl
    · exact fx
    · exact fy
  have U2 : ∀ z ∈ [(4607182418800017408 : Int), 13830554455654793216], U z := by
    intro z hz
    simp only [List.mem_cons, List.not_mem_nil, or_false] at hz
    rcases hz with rfl | rfl
    · exact u1.1
    · exact u2.1
  have F2 : ∀ z ∈ [(4607182418800017408 : Int), 13830554455654793216], fin z := by
    intro z hz
    simp only [List.mem_cons, List.not_mem_nil, or_false] at hz
    rcases hz with rfl | rfl
    · exact u1.2
    · exact u2.2
  obtain ⟨q, h1, s, p, h2, h3, _⟩ := dot_ev (N := 2) hK (xs := [x, y]) (ys := [4607182418800017408, 13830554455654793216]) rfl rfl (by omega) (rd_U U1) (rd_U U2) (rd_fin F1) (rd_fin F2)
  refine ⟨q, h1, s, p, h2, ?_⟩
  have hone : uni 4607182418800017408 = 2 ^ K := by
    have e2 : (4607182418800017408 : Nat) = (1022 + 1) * 4503599627370496 := rfl
    rw [e2, uni_mid (F := K) (by omega)]
  obtain ⟨O, hO⟩ : ∃ O : Int, O = ((2 ^ K : Nat) : Int) := ⟨_, rfl⟩
  have s1 : sval 4607182418800017408 = O := by
    have e1 : (4607182418800017408 : Int) = put false 4607182418800017408 := rfl
    rw [e1, sval_put (by unfold inf; omega), sv, if_neg (by simp), hone, hO]
  have s2 : sval 13830554455654793216 = -O := by
    have e1 : (13830554455654793216 : Int) = put true 4607182418800017408 := rfl
    rw [e1, sval_put (by unfold inf; omega), sv, if_pos rfl, hone, hO]
  have hS : (dotS [x, y] [4607182418800017408, 13830554455654793216]).natAbs = (sval x - sval y).natAbs * 2 ^ K := by
    simp only [dotS, s1, s2]
    rw [two_dot, hO, natAbs_mul_pow]
  rw [hS] at h3
  exact near_congr (Nat.pow_pos (by omega)) (by omega) h3 (by rw [Nat.mul_one])
theorem CoreLeft {a b : Int} (ha : U a) (hb : U b) : ∃ k, abacustop_CoreLeft.f k a b = some true := by
  refine Ev.rounds (g := fun k => abacustop_CoreLeft.f k a b) ?_
  simp only [abacustop_CoreLeft.f, abacustop_CoreLeft.b0]
  obtain ⟨x, hx, rx⟩ := Fmod_ev ha hb
  unfold FmodR at rx
  refine Ev.bind seven_ev (Ev_neg (by decide) (Ev.bind hx (Ev_bind_eq (Class_eq ha) ?_)))
  have hca : cls a ≤ 4 := by unfold cls; repeat' split <;> omega
  have hcb : cls b ≤ 4 := by unfold cls; repeat' split <;> omega
  have hcb0 : 0 ≤ cls b := by unfold cls; repeat' split <;> omega
  have j31 : ¬ (cls a < 3 ∧ cls b = 3) → Ev (fun n _ _ => abacustop_CoreLeft.l31 n a b x) true := by
    intro hno
    simp only [abacustop_CoreLeft.l31, abacustop_CoreLeft.b31]
    refine Ev_bind_eq (Class_eq ha) ?_
    by_cases h3 : cls a ≥ 3
    · rw [if_pos (by omega)] at rx
      exact Ev_pos h3 (Ev_some (decide_eq_true rx))
    refine Ev_neg h3 (Ev_bind_eq (Class_eq hb) ?_)
    by_cases h4 : cls b ≥ 3
    · rw [if_pos (by omega)] at rx
      exact Ev_pos h4 (Ev_some (decide_eq_true rx))
    refine Ev_neg h4 (Ev_bind_eq (Class_eq hb) ?_)
    by_cases h5 : cls b = 0
    · rw [if_pos (by omega)] at rx
      exact Ev_pos h5 (Ev_some (decide_eq_true rx))
    refine Ev_neg h5 ?_
    rw [if_neg (by omega), if_neg (by omega)] at rx
    obtain ⟨p, rfl, pt, hp⟩ := rx
    have fa : fin a := cls_fin' (by omega) (by omega)
    have fb : fin b := cls_fin' (by omega) (by omega)
    have pb := plc_fin.1 fb
    have b0 : plc b ≠ 0 := by
      intro hh
      apply h5
      unfold plc at hh
      unfold cls
      have h1 := hb.1
      rw [if_pos (by omega)]
    have ub : 0 < uni (plc b) := by
      have := uni_smono (Nat.pos_of_ne_zero b0)
      rw [uni_zero] at this
      exact this
    obtain ⟨u1, u2, u3⟩ := Go.Proofs.YtcacmhcekoeblaaDoor.Soft1.put_U (s := sgn a) (Nat.le_of_lt pt)
    refine Ev_bind_eq (abs_put u1) (Ev_bind_eq (abs_put hb) ?_)
    rw [u2]
    refine Ev_bind_eq (cmp_nat (Nat.le_of_lt pt) (Nat.le_of_lt pb)) (Ev_neg (by simp) ?_)
    have hlt : p < plc b := by
      rw [← uni_lt_iff, hp]
      exact Nat.mod_lt _ ub
    have ho : ord (p : Int) (plc b : Int) = -1 := by unfold ord; rw [if_pos (by omega)]
    refine Ev_neg (by rw [ho]; decide) ?_
    have hsg : put (sgn a) p / 9223372036854775808 = a / 9223372036854775808 := by
      have h1 := ha.1
      have h2 := ha.2
      unfold inf at pt
      unfold put sgn
      by_cases hh : a ≥ 9223372036854775808
      · rw [decide_eq_true hh, if_pos rfl]; omega
      · rw [decide_eq_false hh, if_neg (by simp)]; omega
    refine Ev_neg (fun hh => hh hsg) ?_
    obtain ⟨y, hy, ry⟩ := Remainder_ev ha hb
    unfold RemR at ry
    rw [if_neg (by omega), if_neg (by omega)] at ry
    obtain ⟨q, f, rfl, qt, hq0, hc⟩ := ry
    obtain ⟨v1, v2, v3⟩ := Go.Proofs.YtcacmhcekoeblaaDoor.Soft1.put_U (s := (sgn a != f)) (Nat.le_of_lt qt)
    have qf := put_fin (s := false) qt
    have qU := Go.Proofs.YtcacmhcekoeblaaDoor.Soft1.put_U (s := false) (Nat.le_of_lt qt)
    rw [put_false] at qf qU
    obtain ⟨e, he, re⟩ := Add_ev qU.1 qU.1 qf qf
    refine Ev.bind hy (Ev_bind_eq (abs_put v1) (Ev_bind_eq (abs_put v1) ?_))
    rw [v2]
    refine Ev.bind he (Ev_bind_eq (abs_put hb) ?_)
    have sq : sval (q : Int) = (uni q : Int) := by have := sval_put (s := false) (Nat.le_of_lt qt); rw [put_false] at this; rw [this]; rfl
    obtain ⟨s, r, rfl, hn, s1, s2⟩ := re
    rw [sq] at hn s1 s2
    have hs : s = false := by
      by_cases h0 : (uni q : Int) + (uni q : Int) = 0
      · rw [s2 h0, qU.2.2]; rfl
      · rw [s1 h0, decide_eq_false (by omega)]
    subst hs
    have hr : r ≤ plc b := by
      refine near_mono (by omega) (by omega) hn (near_exact (p := plc b) (Y := 1) (by omega) (Nat.le_of_lt pb)) ?_
      have h1 := hc.1
      have h2 : ((uni q : Int) + (uni q : Int)).natAbs = 2 * uni q := by omega
      rw [h2]
      omega
    rw [put_false]
    refine Ev_bind_eq (cmp_nat hn.top (Nat.le_of_lt pb)) ?_
    simp only [abacustop_CoreLeft.l1023, abacustop_CoreLeft.b1023]
    refine Ev_neg (by simp) (Ev_neg ?_ ?_)
    · unfold ord
      by_cases h1 : (r : Int) < (plc b : Int)
      · rw [if_pos h1]; decide
      · rw [if_neg h1, if_neg (by omega)]; decide
    · obtain ⟨K, hK⟩ : ∃ K, K = 1074 := ⟨_, rfl⟩
      have hneg : ieee_Neg.f 4607182418800017408 = some 13830554455654793216 := by rw [Neg_eq (by unfold U; decide)]; rfl
      obtain ⟨d, hd, t, w, rfl, hw⟩ := apart_ev hK u1 (put_fin pt) v1 (put_fin qt)
      refine Ev_bind_eq hneg (Ev.bind hd ?_)
      obtain ⟨w1, w2, w3⟩ := Go.Proofs.YtcacmhcekoeblaaDoor.Soft1.put_U (s := t) hw.top
      refine Ev_bind_eq (Class_eq w1) ?_
      rw [sval_put (Nat.le_of_lt pt), sval_put (Nat.le_of_lt qt), hp] at hw
      rcases two_rests (s := sgn a) ub (fun h0 => hq0 (uni_inj (h0.trans uni_zero.symm))) hc with h0 | h0
      · rw [h0] at hw
        have w0 : w = 0 := near_nought (by omega) hw
        subst w0
        exact Ev_pos (by cases t <;> rfl) (Ev.now _)
      · rw [h0] at hw
        have wb : w = plc b := near_unique (by omega) (by omega) hw (near_exact (p := plc b) (Y := 1) (by omega) (Nat.le_of_lt pb)) (by omega)
        subst wb
        have hc0 : ¬ cls (put t (plc b)) = 0 := by
          intro hh
          have h1 : plc (put t (plc b)) = 0 := cls_zero hh
          rw [w2] at h1
          exact b0 h1
        refine Ev_neg hc0 (Ev_bind_eq (abs_put w1) (Ev_bind_eq (abs_put hb) (Ev_some ?_)))
        rw [w2]
        exact decide_eq_true rfl
  by_cases h3 : cls a < 3
  · refine Ev_pos h3 (Ev_bind_eq (Class_eq hb) ?_)
    by_cases h4 : cls b = 3
    · rw [if_neg (by omega), if_pos h4] at rx
      exact Ev_pos h4 (Ev_some (decide_eq_true rx))
    · exact Ev_neg h4 (j31 (fun hh => h4 hh.2))
  · exact Ev_neg h3 (j31 (fun hh => h3 hh.1))
end Go.Proofs.YtcacmhcekoeblaaDoor.Pure
