/- Every call of remain is the reference's. No conditions. -/
import Derived.Test.YtobocamcoaeliaaGreatDoorQR6d
namespace Go.Proofs.YtobocamcoaeliaaGreatDoor.Pure
open Go.RowKit Go.Proofs.YtobocamcoaeliaaGreatDoor.Lib Go.Proofs.YtobocamcoaeliaaGreatDoor.LibB Go.Proofs.YtobocamcoaeliaaGreatDoor.F Go.Proofs.YtobocamcoaeliaaGreatDoor.Nat1 Go.Proofs.YtobocamcoaeliaaGreatDoor.Nat2 Go.Proofs.YtobocamcoaeliaaGreatDoor.Bits Go.Proofs.YtobocamcoaeliaaGreatDoor.Ieee1 Go.Proofs.YtobocamcoaeliaaGreatDoor.Mag Go.Proofs.YtobocamcoaeliaaGreatDoor.Ieee2 Go.Proofs.YtobocamcoaeliaaGreatDoor.Rnd Go.Proofs.YtobocamcoaeliaaGreatDoor.R6
open Go.Proofs.YtobocamcoaeliaaGreatDoorA (rd ln ln_eq mx mn shl shr wr wr_eq)
set_option linter.unusedVariables false
set_option linter.unusedSimpArgs false
theorem rule_0 : ruleOf 0 = fun _ _ _ => false := by unfold ruleOf; rw [if_neg (by decide), if_neg (by decide), if_neg (by decide)]
theorem rule_1 : ruleOf 1 = fun s _ _ => s := by unfold ruleOf; rw [if_pos rfl]
theorem rule_2 : ruleOf 2 = fun s _ _ => !s := by unfold ruleOf; rw [if_neg (by decide), if_pos rfl]
theorem rule_3 : ruleOf 3 = nearR := by unfold ruleOf; rw [if_neg (by decide), if_neg (by decide), if_pos rfl]
theorem wholes_ev {kind x y n : Int} (hx : U x) : Ev (fun k _ _ => abacuslaw06_wholes.f k kind x y n) true := by
  obtain ⟨Z, hZ⟩ : ∃ Z, Z = 1074 := ⟨_, rfl⟩
  simp only [abacuslaw06_wholes.f, abacuslaw06_wholes.b0]
  by_cases k1 : kind = 1
  · obtain ⟨p, e1, r1⟩ := Trunc_ev hx hZ
    obtain ⟨q, e2, r2⟩ := whole_ev (rule := 0) hx hZ
    rw [rule_0] at r2
    obtain rfl := cut_same r1 r2
    exact Ev_pos k1 (Ev.bind e1 (Ev.bind (a := p) (by simp only [abacusref06_Trunc.f, abacusref06_Trunc.b0]; exact Ev.bind e2 (Ev.now _)) (Ev_some (by simp))))
  by_cases k2 : kind = 2
  · obtain ⟨p, e1, r1⟩ := Floor_ev hx hZ
    obtain ⟨q, e2, r2⟩ := whole_ev (rule := 1) hx hZ
    rw [rule_1] at r2
    obtain rfl := cut_same r1 r2
    exact Ev_neg k1 (Ev_pos k2 (Ev.bind e1 (Ev.bind (a := p) (by simp only [abacusref06_Floor.f, abacusref06_Floor.b0]; exact Ev.bind e2 (Ev.now _)) (Ev_some (by simp)))))
  by_cases k3 : kind = 3
  · obtain ⟨p, e1, r1⟩ := Ceil_ev hx hZ
    obtain ⟨q, e2, r2⟩ := whole_ev (rule := 2) hx hZ
    rw [rule_2] at r2
    obtain rfl := cut_same r1 r2
    exact Ev_neg k1 (Ev_neg k2 (Ev_pos k3 (Ev.bind e1 (Ev.bind (a := p) (by simp only [abacusref06_Ceil.f, abacusref06_Ceil.b0]; exact Ev.bind e2 (Ev.now _)) (Ev_some (by simp))))))
  by_cases k4 : kind = 4
  · obtain ⟨p, e1, r1⟩ := Near_ev hx hZ
    obtain ⟨q, e2, r2⟩ := whole_ev (rule := 3) hx hZ
    rw [rule_3] at r2
    obtain rfl := cut_same r1 r2
    exact Ev_neg k1 (Ev_neg k2 (Ev_neg k3 (Ev_pos k4 (Ev.bind e1 (Ev.bind (a := p) (by simp only [abacusref06_Near.f, abacusref06_Near.b0]; exact Ev.bind e2 (Ev.now _)) (Ev_some (by simp)))))))
  · obtain ⟨p, e1, r1⟩ := pSplit_ev hx hZ
    obtain ⟨q, e2, r2⟩ := rSplit_ev hx hZ
    obtain rfl := split_same r1 r2
    exact Ev_neg k1 (Ev_neg k2 (Ev_neg k3 (Ev_neg k4 (Ev.bind e1 (Ev.bind e2 (Ev_pos rfl (Ev_some (by simp))))))))
theorem mods_ev {kind x y n : Int} (hx : U x) (hy : U y) : Ev (fun k _ _ => abacuslaw06_mods.f k kind x y n) true := by
  simp only [abacuslaw06_mods.f, abacuslaw06_mods.b0]
  by_cases k6 : kind = 6
  · obtain ⟨p, e1, r1⟩ := Fmod_ev hx hy
    obtain ⟨q, e2, r2⟩ := rFmod_ev hx hy
    obtain rfl := fmod_same r1 r2
    exact Ev_pos k6 (Ev.bind e1 (Ev.bind e2 (Ev_some (by simp))))
  · obtain ⟨p, e1, r1⟩ := Remainder_ev hx hy
    obtain ⟨q, e2, r2⟩ := rRem_ev hx hy
    obtain rfl := rem_same r1 r2
    exact Ev_neg k6 (Ev.bind e1 (Ev.bind e2 (Ev_some (by simp))))
theorem powers_ev {kind x y n : Int} (hx : U x) (hy : U y) : Ev (fun k _ _ => abacuslaw06_powers.f k kind x y n) true := by
  obtain ⟨Z, hZ⟩ : ∃ Z, Z = 1074 := ⟨_, rfl⟩
  simp only [abacuslaw06_powers.f, abacuslaw06_powers.b0]
  by_cases k9 : kind = 9
  · obtain ⟨p, e1, r1⟩ := Power_ev (n := n) hx hZ
    obtain ⟨q, e2, r2⟩ := rPower_ev (n := n) hx hZ
    obtain rfl := power_same r1 r2
    exact Ev_pos k9 (Ev.bind e1 (Ev.bind e2 (Ev_pos rfl (Ev_some (by simp)))))
  · obtain ⟨p, e1, r1⟩ := pPow_ev hx hy hZ
    obtain ⟨q, e2, r2⟩ := rPow_ev hx hy hZ
    obtain rfl := pows_same r1 r2
    exact Ev_neg k9 (Ev.bind e1 (Ev.bind e2 (Ev_pos rfl (Ev_some (by simp)))))
theorem RemainAll {n : Int} {A C D E : List Int} (hn : 0 ≤ n ∧ n ≤ 140737488351232) (h : ∀ j, 0 ≤ j → j < n → (-9223372036854775808 ≤ rd A j ∧ rd A j < 9223372036854775808) ∧ U (rd C j) ∧ U (rd D j) ∧ (-9223372036854775808 ≤ rd E j ∧ rd E j < 9223372036854775808)) : ∃ k, abacuslaw06_RemainAll.f k n A C D E = some true := by
  refine Ev.rounds ?_
  simp only [abacuslaw06_RemainAll.f, abacuslaw06_RemainAll.b0, abacuslaw06_upTo.f, abacuslaw06_upTo.b0]
  obtain ⟨N, rfl⟩ := Int.eq_ofNat_of_zero_le hn.1
  refine Ev.bind (a := true) (Ev.bind awake_ev (Ev_in (g := fun k m _ => abacuslaw06_upTo.l117 k m (N : Int) A C D E 1 10 true 0) ?_)) (Ev.now _)
  have go (d : Nat) : ∀ i : Nat, i + d = N → Ev (fun k m _ => abacuslaw06_upTo.l117 k m (N : Int) A C D E 1 10 true (i : Int)) true := by
    induction d with
    | zero =>
      intro i hi
      refine Ev_succ ?_
      simp only [abacuslaw06_upTo.l117, abacuslaw06_upTo.b117]
      exact Ev_neg (by omega) (Ev.now _)
    | succ d ih =>
      intro i hi
      obtain ⟨_, ux, uy, _⟩ := h i (by omega) (by omega)
      have e1 : wrap64 ((i : Int) + 1) = ((i + 1 : Nat) : Int) := by unfold wrap64; omega
      have next := ih (i + 1) (by omega)
      refine Ev_succ ?_
      simp only [abacuslaw06_upTo.l117, abacuslaw06_upTo.b117, e1]
      refine Ev_pos (by omega) (Ev_pos trivial (Ev_pos (by omega) (Ev_pos (by omega) ?_)))
      by_cases a1 : rd A i < 1
      · exact Ev_pos a1 next
      refine Ev_neg a1 ?_
      by_cases a2 : rd A i > 10
      · exact Ev_pos a2 next
      refine Ev_neg a2 (Ev_pos (by omega) ?_)
      by_cases a5 : rd A i ≤ 5
      · exact Ev_pos a5 (Ev.bind (wholes_ev ux) next)
      refine Ev_neg a5 ?_
      by_cases a6 : rd A i = 6
      · exact Ev_pos a6 (Ev.bind (mods_ev ux uy) next)
      refine Ev_neg a6 ?_
      by_cases a7 : rd A i = 7
      · exact Ev_pos a7 (Ev.bind (mods_ev ux uy) next)
      refine Ev_neg a7 ?_
      by_cases a8 : rd A i = 8
      · obtain ⟨p, e2, r1⟩ := Scale_ev (n := rd E i) ux
        obtain ⟨q, e3, r2⟩ := rScale_ev (n := rd E i) ux
        obtain rfl := scale_same r1 r2
        exact Ev_pos a8 (Ev.bind e2 (Ev.bind e3 (by rw [decide_eq_true (show p = p from rfl)]; exact next)))
      refine Ev_neg a8 ?_
      by_cases a9 : rd A i = 9
      · exact Ev_pos a9 (Ev.bind (powers_ev ux uy) next)
      exact Ev_neg a9 (Ev_pos (by omega) (Ev.bind (powers_ev ux uy) next))
  exact go N 0 (by omega)
end Go.Proofs.YtobocamcoaeliaaGreatDoor.Pure
