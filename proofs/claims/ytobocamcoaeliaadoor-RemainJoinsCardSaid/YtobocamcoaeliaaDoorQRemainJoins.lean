/- What Split takes apart adds up to d again without a rounding, for every input. No conditions. -/
import Derived.Test.YtobocamcoaeliaaDoorQRemFloor1
import Derived.Test.YtobocamcoaeliaaDoorQSoftFl
namespace Go.Proofs.YtobocamcoaeliaaDoor.Pure
open Go.RowKit Go.Proofs.YtobocamcoaeliaaDoor.Lib Go.Proofs.YtobocamcoaeliaaDoor.LibB Go.Proofs.YtobocamcoaeliaaDoor.F Go.Proofs.YtobocamcoaeliaaDoor.Nat1 Go.Proofs.YtobocamcoaeliaaDoor.Nat2 Go.Proofs.YtobocamcoaeliaaDoor.Bits Go.Proofs.YtobocamcoaeliaaDoor.Div Go.Proofs.YtobocamcoaeliaaDoor.Quot1 Go.Proofs.YtobocamcoaeliaaDoor.Ieee1 Go.Proofs.YtobocamcoaeliaaDoor.Mag Go.Proofs.YtobocamcoaeliaaDoor.Ieee2 Go.Proofs.YtobocamcoaeliaaDoor.Rnd Go.Proofs.YtobocamcoaeliaaDoor.Rn
open Go.Proofs.YtobocamcoaeliaaDoorA (rd ln ln_eq mx mn shl shr wr wr_eq)
open Go.Proofs.YtobocamcoaeliaaDoor.Soft1 (Rd sv sval Sub_ev rd_exact sv_abs)
open Go.Proofs.YtobocamcoaeliaaDoor.SoftFl (flg add_fl)
open Go.Proofs.YtobocamcoaeliaaDoor.SoftTot (rd_unique)
set_option linter.unusedVariables false
set_option linter.unusedSimpArgs false
theorem sgn_div {s : Bool} {p : Nat} (hp : p ≤ inf) : IntKind.u64.wrap (Int.tdiv (put s p) 9223372036854775808) = if s then 1 else 0 := by
  unfold inf at hp
  cases s with
  | false =>
    show IntKind.u64.wrap (Int.tdiv (p : Int) 9223372036854775808) = 0
    rw [Int.tdiv_eq_ediv_of_nonneg (by omega), IntKind.wrap_u64]
    omega
  | true =>
    show IntKind.u64.wrap (Int.tdiv ((p : Int) + 9223372036854775808) 9223372036854775808) = 1
    rw [Int.tdiv_eq_ediv_of_nonneg (by omega), IntKind.wrap_u64]
    omega
/-- What is left of a double behind the point is a double. -/
theorem frac_rep {d : Int} {Z : Nat} (hZ : Z = 1074) (hf : fin d) : ∃ p, p ≤ inf ∧ uni p = uni (plc d) % 2 ^ Z := by
  have hm := man_range hf
  have he := exp_range hf
  rw [uni_parts hf]
  obtain ⟨k, hk⟩ : ∃ k : Nat, (expOf d + 1074).toNat = k := ⟨_, rfl⟩
  rw [hk]
  by_cases h : Z ≤ k
  · refine ⟨0, by decide, ?_⟩
    obtain ⟨j, rfl⟩ : ∃ j, k = Z + j := ⟨k - Z, by omega⟩
    rw [uni_zero, Nat.pow_add, Nat.mul_left_comm, Nat.mul_mod_right]
  · obtain ⟨j, hj⟩ : ∃ j, Z = k + j := ⟨Z - k, by omega⟩
    obtain ⟨p, h1, h2⟩ := uni_rep k ((manOf d).toNat % 2 ^ j) (Nat.le_trans (Nat.mod_le _ _) (by omega)) (by omega)
    refine ⟨p, h1, ?_⟩
    rw [h2, hj, Nat.pow_add, Nat.mul_comm (2 ^ k), Nat.mul_mod_mul_right]
theorem rd_self {d : Int} {s : Bool} {p : Nat} (h : d = put s p) (hp : p ≤ inf) : Rd d (sv s (uni p)) s := by
  refine ⟨s, p, h, ?_, fun hne => ?_, fun _ => rfl⟩
  · rw [sv_abs]
    have := near_exact (p := p) (Y := 1) (by decide) hp
    rwa [Nat.mul_one] at this
  · generalize uni p = n at *
    unfold sv at *
    cases s with
    | false => exact (decide_eq_false (by simp)).symm
    | true => exact (decide_eq_true (by simp at hne ⊢; omega)).symm
theorem bits_off {s : Bool} {p : Nat} (hp : p ≤ inf) : Go.bits .andNot .u64 (put s p) 9223372036854775808 = (p : Int) := by
  obtain ⟨u, e, _⟩ := put_U (s := s) hp
  rw [bit_abs u]
  unfold plc at e
  unfold inf at hp
  unfold U at u
  omega
theorem Split_ev {d : Int} {s : Bool} {Z pd : Nat} (hZ : Z = 1074) (hd : U d) (hf : fin d) (hs : sgn d = s) : ∃ pt pf : Nat, Ev (fun n _ _ => remain_Split.f n d) (put s pt, put s pf) ∧ pt < inf ∧ pf ≤ inf ∧ uni pt = uni (plc d) / 2 ^ Z * 2 ^ Z ∧ uni pf = uni (plc d) % 2 ^ Z := by
  obtain ⟨tr, et, rt⟩ := Trunc_ev hd hZ
  unfold CutR at rt
  rw [if_pos hf, hs] at rt
  obtain ⟨pt, rfl, hpt, ut⟩ := rt
  have hup : up (fun _ _ _ => false) s (uni (plc d) / 2 ^ Z) (uni (plc d) % 2 ^ Z) (2 ^ Z) = false := by unfold up; exact Bool.and_false _
  rw [hup] at ut
  replace ut : uni pt = uni (plc d) / 2 ^ Z * 2 ^ Z := ut
  obtain ⟨pf, hpf, uf⟩ := frac_rep hZ hf
  obtain ⟨u1, e1, e2⟩ := put_U (s := s) (Nat.le_of_lt hpt)
  have f1 : fin (put s pt) := plc_fin.2 (by rw [e1]; exact hpt)
  obtain ⟨r, er, hr⟩ := Sub_ev hd u1 hf f1
  have hval : sval d - sval (put s pt) = sv s (uni pf) := by
    unfold sval
    rw [hs, e1, e2, ut, uf]
    have := Nat.div_add_mod (uni (plc d)) (2 ^ Z)
    rw [Nat.mul_comm] at this
    generalize uni (plc d) = V at *
    generalize V / 2 ^ Z * 2 ^ Z = T at *
    generalize V % 2 ^ Z = f at *
    unfold sv
    cases s <;> simp <;> omega
  rw [hval] at hr
  obtain ⟨q1, q2, q3⟩ := rd_exact hr hpf (sv_abs s (uni pf))
  refine ⟨pt, pf, ?_, hpt, hpf, ut, uf⟩
  have c34 := fun h => cls_fin.1 h hf
  simp only [remain_Split.f, remain_Split.b0]
  refine Ev_bind_eq (Decode_eq hd) (Ev.bind et (Ev_neg (fun h => c34 (by dsimp only at h; omega)) (Ev_neg (fun h => c34 (by dsimp only at h; omega)) (Ev.bind er ?_))))
  have hab : Go.bits .andNot .u64 r 9223372036854775808 = (pf : Int) := by
    rw [bit_abs q2]
    unfold plc at q1
    unfold U at q2
    omega
  rw [hab]
  by_cases h0 : pf = 0
  · subst h0
    dsimp only
    rw [hs]
    exact Ev_pos rfl (Ev_bind_eq (signed_zero' s) (Ev.now _))
  · have hu : 0 < uni pf := by
      have := uni_smono (show 0 < pf by omega)
      rw [uni_zero] at this; exact this
    rw [q1] at q3
    have hsr : sgn r = s := by
      generalize uni pf = n at *
      unfold sv at q3
      cases h1 : sgn r <;> cases s <;> rw [h1] at q3 <;> simp at q3 <;> first | rfl | omega
    have hrp : r = put s pf := by
      have hc : cls r ≠ 4 := by
        intro k
        have h2 := cls_nan.1 k
        unfold nan at h2
        unfold plc at q1
        unfold inf at hpf
        omega
      have h2 := (plc_put q2 hc).1
      rwa [q1, hsr] at h2
    rw [hrp]
    exact Ev_neg (by omega) (Ev.now _)
theorem told_add {a b d f : Int} (h : Ev (fun k _ _ => soft_add.f k a b 0) (d, f)) : Ev (fun k _ _ => soft_Told.f k 1 a b 0) (d, f, 0) := by
  simp only [soft_Told.f, soft_Told.b0]
  exact Ev_bind_eq (a := ()) rfl (Ev_neg (by decide) (Ev_neg (by decide) (Ev_pos (by decide) (Ev_pos (by decide) (Ev_neg (by decide) (Ev_pos trivial (Ev.bind h (Ev_some rfl))))))))
theorem RemainJoins {d : Int} (hd : U d) : ∃ k, abacuslaw06_RemainJoins.f k d = some true := by
  refine Ev.rounds ?_
  obtain ⟨Z, hZ⟩ : ∃ Z, Z = 1074 := ⟨_, rfl⟩
  simp only [abacuslaw06_RemainJoins.f, abacuslaw06_RemainJoins.b0]
  refine Ev.bind awake_ev (Ev_neg (by simp) ?_)
  have hfi : abacuslaw06_finite.f d = some (decide (fin d)) := by
    unfold abacuslaw06_finite.f abacuslaw06_finite.b0
    rw [tmod_pos hd]
    exact congrArg some (decide_eq_decide.2 (by rw [plc_fin]; unfold inf; omega))
  refine Ev_bind_eq hfi ?_
  by_cases hf : fin d
  · rw [decide_eq_true hf]
    refine Ev_neg (by simp) ?_
    obtain ⟨s, hs⟩ : ∃ s, sgn d = s := ⟨_, rfl⟩
    obtain ⟨pt, pf, es, hpt, hpf, ut, uf⟩ := Split_ev (pd := 0) hZ hd hf hs
    have c34 := fun h => cls_fin.1 h hf
    have pd := (plc_put hd (fun h => c34 (by omega))).1
    have hpd := plc_fin.1 hf
    rw [hs] at pd
    have hone := uni_one_ hZ
    have hlt : pf < 4607182418800017408 := by
      refine Nat.lt_of_not_le fun h => ?_
      have := uni_mono h
      rw [hone, uf] at this
      exact absurd (Nat.mod_lt (uni (plc d)) (Nat.pow_pos (n := Z) (show 0 < 2 by decide))) (Nat.not_lt.2 this)
    have hpfi : pf < inf := Nat.lt_trans hlt (by decide)
    obtain ⟨u1, a1, b1⟩ := put_U (s := s) (Nat.le_of_lt hpt)
    obtain ⟨u2, a2, b2⟩ := put_U (s := s) hpf
    have f1 : fin (put s pt) := plc_fin.2 (by rw [a1]; exact hpt)
    have f2 : fin (put s pf) := plc_fin.2 (by rw [a2]; exact hpfi)
    obtain ⟨d', ea, ra⟩ := add_fl (c := 0) u1 u2 f1 f2
    have hval : sval (put s pt) + sval (put s pf) = sv s (uni (plc d)) := by
      unfold sval
      rw [a1, b1, a2, b2, ut, uf]
      have := Nat.div_add_mod (uni (plc d)) (2 ^ Z)
      rw [Nat.mul_comm] at this
      generalize uni (plc d) = V at *
      generalize V / 2 ^ Z * 2 ^ Z = T at *
      generalize V % 2 ^ Z = f at *
      unfold sv
      cases s <;> simp <;> omega
    rw [hval, b1, b2, Bool.and_self] at ra
    have hdd : d' = d := rd_unique ra (rd_self pd (Nat.le_of_lt hpd))
    subst hdd
    rw [hval, sv_abs] at ea
    have hfl : flg (uni (plc d')) 1 d' = 0 := by
      unfold flg
      rw [if_neg (by omega), if_pos (by rw [Nat.mul_one])]
    rw [hfl] at ea
    have hint := integral_put (s := s) hZ hpt ut
    rw [Nat.mul_mod_left] at hint
    have habs : ieee_Abs.f (put s pf) = some (put false pf) := by
      rw [Abs_eq u2]
      unfold plc at a2
      unfold U at u2
      exact congrArg some (show put s pf % 9223372036854775808 = (pf : Int) by clear hone hlt; omega)
    have hbel := below_put (s := false) (t := false) (p := pf) (q := 4607182418800017408) hpf (by decide)
    have hbt : decide (sv false pf < sv false 4607182418800017408) = true := decide_eq_true (show (pf : Int) < ((4607182418800017408 : Nat) : Int) by omega)
    rw [hbt] at hbel
    have hs1 := sgn_div (s := s) (Nat.le_of_lt hpt)
    have hs2 := sgn_div (s := s) hpf
    have hs3 := sgn_div (s := s) (Nat.le_of_lt hpd)
    rw [← pd] at hs3
    refine Ev.bind es (Ev.bind (told_add ea) (Ev_pos rfl (Ev_pos rfl (Ev_pos rfl (Ev_bind_eq hint (Ev_pos (by simp) (Ev_bind_eq habs (Ev_bind_eq hbel (Ev_pos rfl ?_)))))))))
    dsimp only
    rw [hs1, hs2, hs3]
    exact Ev_pos rfl (Ev_some (by rw [decide_eq_true rfl]))
  · rw [decide_eq_false hf]
    exact Ev_pos (by simp) (Ev.bind (bearers_ev hd hf) (Ev.now _))
end Go.Proofs.YtobocamcoaeliaaDoor.Pure
