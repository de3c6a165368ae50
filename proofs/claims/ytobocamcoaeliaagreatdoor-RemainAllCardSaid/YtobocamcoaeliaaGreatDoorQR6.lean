import Derived.Test.YtobocamcoaeliaaGreatDoorQRemFloor1
import Derived.Test.YtobocamcoaeliaaGreatDoorQR4b
import Derived.Test.YtobocamcoaeliaaGreatDoorQR2
import Derived.Test.YtobocamcoaeliaaGreatDoorQRemainCentres
/- What the sixth reference computes: roundings to whole numbers, Split, Scale. No conditions. -/
namespace Go.Proofs.YtobocamcoaeliaaGreatDoor.R6
open Go.RowKit Go.Proofs.YtobocamcoaeliaaGreatDoor.Lib Go.Proofs.YtobocamcoaeliaaGreatDoor.LibB Go.Proofs.YtobocamcoaeliaaGreatDoor.F Go.Proofs.YtobocamcoaeliaaGreatDoor.Nat1 Go.Proofs.YtobocamcoaeliaaGreatDoor.Nat2 Go.Proofs.YtobocamcoaeliaaGreatDoor.Bits Go.Proofs.YtobocamcoaeliaaGreatDoor.Ieee1 Go.Proofs.YtobocamcoaeliaaGreatDoor.Mag Go.Proofs.YtobocamcoaeliaaGreatDoor.Ieee2 Go.Proofs.YtobocamcoaeliaaGreatDoor.Rnd Go.Proofs.YtobocamcoaeliaaGreatDoor.R1 Go.Proofs.YtobocamcoaeliaaGreatDoor.R4
open Go.Proofs.YtobocamcoaeliaaGreatDoor.Pure (rst rst_scale up CutR nearR rnd_exact cls_fin' cls_plc man_nat ScaleR clip)
open Go.Proofs.YtobocamcoaeliaaGreatDoorA (rd ln ln_eq mx mn shl shr wr wr_eq)
set_option linter.unusedVariables false
set_option linter.unusedSimpArgs false
theorem limb_val {m : Nat} : val [(m : Int)] = m := by rw [val_cons, val_nil]; simp
theorem limb_ok {m : Nat} (h : m < 18446744073709551616) : ok [(m : Int)] := by intro y hy; simp only [List.mem_singleton] at hy; subst hy; omega
theorem limb_small {m : Nat} (h : m < 18446744073709551616) : m < B 4096 := by
  have h1 := B_mono (show 1 ≤ 4096 by omega)
  rw [B_one] at h1
  exact Nat.lt_of_lt_of_le h h1
theorem signed_put (s : Bool) {p : Nat} (hp : p ≤ inf) : abacusref06_signed.f s (p : Int) = some (put s p) := by
  unfold inf at hp
  unfold abacusref06_signed.f abacusref06_signed.b0 put
  cases s with
  | true => rw [if_pos rfl, if_pos rfl, IntKind.wrap_u64]; exact congrArg some (by omega)
  | false => rw [if_neg (by simp), if_neg (by simp)]
theorem round_one {s : Bool} {m : Nat} {e : Int} (h : m < 18446744073709551616) (he : -9223372036854775808 ≤ e ∧ e < 9223372036854775808) : Ev (fun k _ _ => abacusref04_Round.f k s [(m : Int)] e false) (put s (rnd m e false), 0) := by
  have := rRound_ev (s := s) (more := false) (limb_ok h) (by simp) he
  rwa [limb_val, if_pos (limb_small h)] at this
theorem FromUint_ev' {m : Nat} (h : m < 18446744073709551616) : Ev (fun k _ _ => abacusref04_FromUint.f k (m : Int)) ((rnd m 0 false : Nat) : Int) := by
  simp only [abacusref04_FromUint.f, abacusref04_FromUint.b0]
  have := round_one (s := false) (e := 0) h (by omega)
  exact Ev.bind this (Ev.now _)
theorem rst_four (f O : Nat) : rst f O = 0 ∨ rst f O = 1 ∨ rst f O = 2 ∨ rst f O = 3 := by
  unfold rst
  by_cases h0 : f = 0
  · rw [if_pos h0]; exact .inl rfl
  rw [if_neg h0]
  by_cases h1 : 2 * f < O
  · rw [if_pos h1]; exact .inr (.inl rfl)
  rw [if_neg h1]
  by_cases h2 : 2 * f = O
  · rw [if_pos h2]; exact .inr (.inr (.inl rfl))
  · rw [if_neg h2]; exact .inr (.inr (.inr rfl))
theorem tail_ev {O m : Nat} {s : Bool} {c e : Int} (hO : 0 < O) (hO2 : O ≤ 1152921504606846976) (hm : m < 9007199254740992) : Ev (fun n _ _ => abacusref06_Cut.l127 n (O : Int) s c (m : Int) e) (((m / O : Nat) : Int), rst (m % O) O) := by
  have e1 : Int.tmod (m : Int) (O : Int) = ((m % O : Nat) : Int) := by rw [Int.tmod_eq_emod_of_nonneg (by omega)]; exact (Int.natCast_emod m O).symm
  have e2 : Int.tdiv (m : Int) (O : Int) = ((m / O : Nat) : Int) := by rw [Int.tdiv_eq_ediv_of_nonneg (by omega)]; exact (Int.natCast_ediv m O).symm
  have hdl : m / O ≤ m := Nat.div_le_self _ _
  have e3' : ∀ w : Nat, w ≤ m → IntKind.u64.wrap ((w : Nat) : Int) = ((w : Nat) : Int) := fun w h => by rw [IntKind.wrap_u64]; omega
  have e3 := e3' _ hdl
  have hf : m % O < O := Nat.mod_lt _ hO
  obtain ⟨f, hF⟩ : ∃ f, f = m % O := ⟨_, rfl⟩
  rw [← hF] at hf
  have e4 : IntKind.u64.wrap (2 * (f : Int)) = ((2 * f : Nat) : Int) := by rw [IntKind.wrap_u64]; omega
  simp only [abacusref06_Cut.l127, abacusref06_Cut.b127, abacusref06_Cut.l1023, abacusref06_Cut.b1023, abacusref06_Cut.l2047, abacusref06_Cut.b2047, abacusref06_Cut.l4095, abacusref06_Cut.b4095, e1, e2, e3, ← hF, e4]
  have o0 : ¬ (O : Int) = 0 := by omega
  have fin' (x : Int) (h : x = rst f O) : Ev (fun _ _ _ => if (O : Int) = 0 then none else some (((m / O : Nat) : Int), x)) (((m / O : Nat) : Int), rst f O) := Ev_neg o0 (Ev_some (by rw [h]))
  refine Ev_neg o0 ?_
  unfold rst at fin' ⊢
  by_cases h0 : f = 0
  · rw [if_pos h0] at fin' ⊢
    exact Ev_neg (by omega) (Ev_neg (by omega) (Ev_neg (by omega) (fin' 0 rfl)))
  rw [if_neg h0] at fin' ⊢
  refine Ev_pos (by omega) ?_
  by_cases h1 : 2 * f < O
  · rw [if_pos h1] at fin' ⊢
    exact Ev_neg (by omega) (Ev_neg (by omega) (fin' 1 rfl))
  rw [if_neg h1] at fin' ⊢
  by_cases h2 : 2 * f = O
  · rw [if_pos h2] at fin' ⊢
    exact Ev_pos (by omega) (Ev_neg (by omega) (fin' 2 rfl))
  · rw [if_neg h2] at fin' ⊢
    exact Ev_neg (by omega) (Ev_pos (by omega) (fin' 3 rfl))
theorem cut_loop {s : Bool} {c e : Int} {m k : Nat} (hk : k ≤ 60) (he : e = -(k : Int)) (hm : m < 9007199254740992) : ∀ t i : Nat, i + t = k → Ev (fun n j _ => abacusref06_Cut.l1013 n j ((2 ^ i : Nat) : Int) (-(i : Int)) s c (m : Int) e) (((m / 2 ^ k : Nat) : Int), rst (m % 2 ^ k) (2 ^ k)) := by
  intro t
  induction t with
  | zero =>
    intro i hi
    obtain rfl : i = k := by omega
    refine Ev_succ ?_
    simp only [abacusref06_Cut.l1013, abacusref06_Cut.b1013]
    have hp : 2 ^ i ≤ 2 ^ 60 := Nat.pow_le_pow_right (by decide) hk
    exact Ev_neg (by omega) (tail_ev (Nat.pow_pos (by decide)) (Nat.le_trans hp (by decide)) hm)
  | succ t ih =>
    intro i hi
    have nx := ih (i + 1) (by omega)
    have hp : 2 ^ i ≤ 2 ^ 60 := Nat.pow_le_pow_right (by decide) (by omega)
    have h60 : (2 : Nat) ^ 60 = 1152921504606846976 := by decide
    have e1 : IntKind.u64.wrap (2 * ((2 ^ i : Nat) : Int)) = ((2 ^ (i + 1) : Nat) : Int) := by rw [IntKind.wrap_u64, Nat.pow_succ]; omega
    have e2 : wrap64 (-(i : Int) - 1) = -((i + 1 : Nat) : Int) := by unfold wrap64; omega
    refine Ev_succ ?_
    simp only [abacusref06_Cut.l1013, abacusref06_Cut.b1013, e1, e2]
    exact Ev_pos (by omega) nx
theorem Cut_ev {s : Bool} {c e : Int} {m k : Nat} (he : e = -(k : Int)) (k0 : 0 < k) (hk : k ≤ 1074) (hm : m < 9007199254740992) : Ev (fun n _ _ => abacusref06_Cut.f n s c (m : Int) e) (((m / 2 ^ k : Nat) : Int), rst (m % 2 ^ k) (2 ^ k)) := by
  simp only [abacusref06_Cut.f, abacusref06_Cut.b0]
  refine Ev_neg (by omega) ?_
  by_cases m0 : m = 0
  · refine Ev_pos (by omega) (Ev_some ?_)
    subst m0
    rw [Nat.zero_div, Nat.zero_mod, rst, if_pos rfl]
    rfl
  refine Ev_neg (by omega) ?_
  by_cases h6 : k ≤ 60
  · refine Ev_neg (by omega) ?_
    have := cut_loop (s := s) (c := c) h6 he hm k 0 (by omega)
    exact Ev_in (g := fun n j _ => abacusref06_Cut.l1013 n j 1 0 s c (m : Int) e) this
  · have hp : 2 ^ 61 ≤ 2 ^ k := Nat.pow_le_pow_right (by decide) (by omega)
    have h61 : (2 : Nat) ^ 61 = 2305843009213693952 := by decide
    refine Ev_pos (by omega) (Ev_some ?_)
    rw [Nat.div_eq_of_lt (by omega), Nat.mod_eq_of_lt (by omega), rst, if_neg m0, if_pos (by omega)]
    rfl
/-- A rule by its number. -/
def ruleOf (r : Int) : Bool → Nat → Int → Bool := if r = 1 then fun s _ _ => s else if r = 2 then fun s _ _ => !s else if r = 3 then nearR else fun _ _ _ => false
theorem whole_ev {d rule : Int} (hd : U d) {Z : Nat} (hZ : Z = 1074) : ∃ x, Ev (fun n _ _ => abacusref06_whole.f n d rule) x ∧ CutR (ruleOf rule) Z d x := by
  have dd := rDecode_eq hd
  unfold CutR
  simp only [abacusref06_whole.f, abacusref06_whole.b0]
  by_cases h4 : cls d = 4
  · refine ⟨_, Ev_bind_eq dd (Ev_pos h4 (Ev.now _)), ?_⟩
    rw [if_neg (fun h => (cls_fin.1 (by omega)) h), if_pos h4]
  by_cases h3 : cls d = 3
  · refine ⟨_, Ev_bind_eq dd (Ev_neg h4 (Ev_pos h3 (Ev.now _))), ?_⟩
    rw [if_neg (fun h => (cls_fin.1 (by omega)) h), if_neg h4]
  have hf : fin d := cls_fin' h4 h3
  simp only [if_pos hf]
  have pd := (Go.Proofs.YtobocamcoaeliaaGreatDoor.Pure.plc_put hd h4).1
  have pf := plc_fin.1 hf
  obtain ⟨e0, e1⟩ := exp_range hf
  obtain ⟨m, am, rm, um⟩ := man_nat hf
  by_cases he : expOf d ≥ 0
  · refine ⟨d, Ev_bind_eq dd (Ev_neg h4 (Ev_neg h3 (Ev_pos he (Ev.now _)))), plc d, pd, pf, ?_⟩
    obtain ⟨j, hj⟩ : ∃ j : Nat, (expOf d + 1074).toNat = j + Z := ⟨(expOf d).toNat, by omega⟩
    rw [um, hj, Nat.pow_add, ← Nat.mul_assoc, Nat.mul_mod_left, Nat.mul_div_cancel _ (Nat.pow_pos (by decide)), up, rst, if_pos rfl]
    rfl
  obtain ⟨k, hk⟩ : ∃ k : Nat, expOf d = -(k : Int) := ⟨(-expOf d).toNat, by omega⟩
  obtain ⟨q, hq⟩ : ∃ q, q = (expOf d + 1074).toNat := ⟨_, rfl⟩
  have hqZ : Z = k + q := by omega
  have pq : 0 < 2 ^ q := Nat.pow_pos (by omega)
  rw [← hq] at um
  have e2 : uni (plc d) / 2 ^ Z = m / 2 ^ k := by rw [um, hqZ, Nat.pow_add, Nat.mul_div_mul_right _ _ pq]
  have e3 : uni (plc d) % 2 ^ Z = m % 2 ^ k * 2 ^ q := by rw [um, hqZ, Nat.pow_add, Nat.mul_mod_mul_right]
  have e4 : rst (uni (plc d) % 2 ^ Z) (2 ^ Z) = rst (m % 2 ^ k) (2 ^ k) := by rw [e3, hqZ, Nat.pow_add, rst_scale pq]
  rw [up, e4, e2]
  rw [am] at dd
  have ct := Cut_ev (s := sgn d) (c := cls d) (m := m) hk (by omega) (by omega) rm
  obtain ⟨w, hw⟩ : ∃ w, w = m / 2 ^ k := ⟨_, rfl⟩
  obtain ⟨r, hr⟩ : ∃ r, r = rst (m % 2 ^ k) (2 ^ k) := ⟨_, rfl⟩
  have hwl : w < 9007199254740991 := by
    have : m / 2 ^ k ≤ m / 2 := Nat.div_le_div_left (by
      have := Nat.pow_le_pow_right (show 0 < 2 by decide) (show 1 ≤ k by omega)
      omega) (by omega)
    omega
  have hr3 : r = 0 ∨ r = 1 ∨ r = 2 ∨ r = 3 := by rw [hr]; exact rst_four _ _
  rw [← hw, ← hr] at ct ⊢
  have fin' (v : Nat) (hv : v < 9007199254740992) : Ev (fun n _ _ => abacusref06_whole.l127 n (v : Int) (sgn d) (cls d) (m : Int) (expOf d)) (put (sgn d) (rnd v 0 false)) := by
    simp only [abacusref06_whole.l127, abacusref06_whole.b127]
    exact Ev.bind (FromUint_ev' (by omega)) (Ev_bind_eq (signed_put _ (rnd_le_inf v 0)) (Ev.now _))
  have ex (v : Nat) (hv : v < 9007199254740992) : rnd v 0 false < inf ∧ uni (rnd v 0 false) = v * 2 ^ Z := by
    obtain ⟨x1, x2⟩ := rnd_exact (n := v) (e := 0) hv (by omega)
    rw [show ((0 : Int) + 1074).toNat = Z by omega] at x1
    exact ⟨x2, x1⟩
  have w1 : IntKind.u64.wrap ((w : Int) + 1) = ((w + 1 : Nat) : Int) := by rw [IntKind.wrap_u64]; omega
  have tm : Int.tmod (w : Int) 2 = ((w % 2 : Nat) : Int) := by rw [Int.tmod_eq_emod_of_nonneg (by omega)]; omega
  obtain ⟨b, hb⟩ : ∃ b, b = (decide (r ≠ 0) && ruleOf rule (sgn d) w r) := ⟨_, rfl⟩
  have hbl := Bool.toNat_le b
  have hv : w + b.toNat < 9007199254740992 := by omega
  refine ⟨put (sgn d) (rnd (w + b.toNat) 0 false), Ev_bind_eq dd (Ev_neg h4 (Ev_neg h3 (Ev_neg he (Ev.bind ct ?_)))), rnd (w + b.toNat) 0 false, rfl, (ex _ hv).1, by rw [← hb]; exact (ex _ hv).2⟩
  have g := fin' (w + b.toNat) hv
  have yes (h : b = true) : Ev (fun n _ _ => abacusref06_whole.l127 n (IntKind.u64.wrap ((w : Int) + 1)) (sgn d) (cls d) (m : Int) (expOf d)) (put (sgn d) (rnd (w + b.toNat) 0 false)) := by rw [w1]; rw [h] at g ⊢; exact g
  have no (h : b = false) : Ev (fun n _ _ => abacusref06_whole.l127 n (w : Int) (sgn d) (cls d) (m : Int) (expOf d)) (put (sgn d) (rnd (w + b.toNat) 0 false)) := by rw [h] at g ⊢; exact g
  dsimp only
  unfold ruleOf at hb
  by_cases r1 : rule = 1
  · rw [if_pos r1] at hb
    refine Ev_pos r1 ?_
    cases hs : sgn d with
    | true =>
      rw [hs] at hb yes no
      refine Ev_pos rfl ?_
      by_cases hp : r > 0
      · exact Ev_pos hp (yes (by rw [hb, decide_eq_true (by omega)]; rfl))
      · exact Ev_neg hp (no (by rw [hb, decide_eq_false (by omega)]; rfl))
    | false =>
      rw [hs] at hb yes no
      exact Ev_neg (by simp) (no (by rw [hb, Bool.and_false]))
  rw [if_neg r1] at hb
  refine Ev_neg r1 ?_
  by_cases r2 : rule = 2
  · rw [if_pos r2] at hb
    refine Ev_pos r2 ?_
    cases hs : sgn d with
    | true =>
      rw [hs] at hb yes no
      exact Ev_neg (by simp) (no (by rw [hb]; simp))
    | false =>
      rw [hs] at hb yes no
      refine Ev_pos (by simp) ?_
      by_cases hp : r > 0
      · exact Ev_pos hp (yes (by rw [hb, decide_eq_true (by omega)]; rfl))
      · exact Ev_neg hp (no (by rw [hb, decide_eq_false (by omega)]; rfl))
  rw [if_neg r2] at hb
  refine Ev_neg r2 ?_
  by_cases r3 : rule = 3
  · rw [if_pos r3, nearR] at hb
    refine Ev_pos r3 ?_
    by_cases q3 : r = 3
    · exact Ev_pos q3 (yes (by rw [hb, q3]; rfl))
    refine Ev_neg q3 ?_
    rw [if_neg q3] at hb
    by_cases q2 : r = 2
    · refine Ev_pos q2 ?_
      rw [if_pos q2, decide_eq_true (show r ≠ 0 by omega), Bool.true_and] at hb
      rw [tm]
      by_cases hw2 : w % 2 = 1
      · exact Ev_pos (by omega) (yes (by rw [hb]; exact decide_eq_true hw2))
      · exact Ev_neg (by omega) (no (by rw [hb]; exact decide_eq_false hw2))
    · rw [if_neg q2, Bool.and_false] at hb
      exact Ev_neg q2 (no hb)
  · rw [if_neg r3, Bool.and_false] at hb
    exact Ev_neg r3 (no hb)
end Go.Proofs.YtobocamcoaeliaaGreatDoor.R6
/- What the sixth reference computes: Scale, Fmod, Remainder. No conditions. -/
namespace Go.Proofs.YtobocamcoaeliaaGreatDoor.R6
open Go.RowKit Go.Proofs.YtobocamcoaeliaaGreatDoor.Lib Go.Proofs.YtobocamcoaeliaaGreatDoor.LibB Go.Proofs.YtobocamcoaeliaaGreatDoor.F Go.Proofs.YtobocamcoaeliaaGreatDoor.Nat1 Go.Proofs.YtobocamcoaeliaaGreatDoor.Nat2 Go.Proofs.YtobocamcoaeliaaGreatDoor.Bits Go.Proofs.YtobocamcoaeliaaGreatDoor.Ieee1 Go.Proofs.YtobocamcoaeliaaGreatDoor.Mag Go.Proofs.YtobocamcoaeliaaGreatDoor.Ieee2 Go.Proofs.YtobocamcoaeliaaGreatDoor.Rnd Go.Proofs.YtobocamcoaeliaaGreatDoor.R1 Go.Proofs.YtobocamcoaeliaaGreatDoor.R4
open Go.Proofs.YtobocamcoaeliaaGreatDoor.Pure (rst rst_scale up CutR nearR rnd_exact cls_fin' cls_plc man_nat ScaleR clip FmodR RemR CentreR)
open Go.Proofs.YtobocamcoaeliaaGreatDoorA (rd ln ln_eq mx mn shl shr wr wr_eq)
set_option linter.unusedVariables false
set_option linter.unusedSimpArgs false
theorem cut_same {R : Bool → Nat → Int → Bool} {Z : Nat} {d x y : Int} (h : CutR R Z d x) (k : CutR R Z d y) : x = y := by
  unfold CutR at h k
  by_cases hf : fin d
  · rw [if_pos hf] at h k
    obtain ⟨p, rfl, _, e1⟩ := h
    obtain ⟨q, rfl, _, e2⟩ := k
    rw [uni_inj (e1.trans e2.symm)]
  · rw [if_neg hf] at h k
    rw [h, k]
theorem rScale_ev {d n : Int} (h : U d) : ∃ x, Ev (fun k _ _ => abacusref06_Scale.f k d n) x ∧ ScaleR d n x := by
  simp only [abacusref06_Scale.f, abacusref06_Scale.b0]
  unfold ScaleR
  have hd := rDecode_eq h
  by_cases h4 : cls d = 4
  · exact ⟨_, Ev_bind_eq hd (Ev_pos h4 (Ev.now _)), by rw [if_pos h4]⟩
  by_cases h3 : cls d = 3
  · exact ⟨_, Ev_bind_eq hd (Ev_neg h4 (Ev_pos h3 (Ev.now _))), by rw [if_neg h4, if_pos (.inl h3)]⟩
  by_cases h0 : cls d = 0
  · exact ⟨_, Ev_bind_eq hd (Ev_neg h4 (Ev_neg h3 (Ev_pos h0 (Ev.now _)))), by rw [if_neg h4, if_pos (.inr h0)]⟩
  have hf : fin d := cls_fin' h4 h3
  obtain ⟨e0, e1⟩ := exp_range hf
  obtain ⟨m, am, rm, um⟩ := man_nat hf
  have hc : -5000 ≤ clip n ∧ clip n ≤ 5000 := by unfold clip; repeat' split <;> omega
  have hw : wrap64 (expOf d + clip n) = expOf d + clip n := by unfold wrap64; omega
  rw [am] at hd
  have go (c : Int) (hcn : c = clip n) : Ev (fun k _ _ => abacusref06_Scale.l63 k c (sgn d) (cls d) (m : Int) (expOf d)) (put (sgn d) (rnd m (expOf d + clip n) false)) := by
    simp only [abacusref06_Scale.l63, abacusref06_Scale.b63, hcn, hw]
    exact Ev.bind (round_one (s := sgn d) (e := expOf d + clip n) (by omega) (by omega)) (Ev.now _)
  refine ⟨put (sgn d) (rnd m (expOf d + clip n) false), Ev_bind_eq hd (Ev_neg h4 (Ev_neg h3 (Ev_neg h0 ?_))), ?_⟩
  · simp only [abacusref06_Scale.l31, abacusref06_Scale.b31]
    by_cases h5 : n > 5000
    · exact Ev_pos h5 (Ev_neg (by decide) (go 5000 (by unfold clip; rw [if_pos h5])))
    · refine Ev_neg h5 ?_
      by_cases h6 : n < -5000
      · exact Ev_pos h6 (go (-5000) (by unfold clip; rw [if_neg h5, if_pos h6]))
      · exact Ev_neg h6 (go n (by unfold clip; rw [if_neg h5, if_neg h6]))
  · rw [if_neg h4, if_neg (by omega)]
    refine ⟨_, (clip n).toNat, (-clip n).toNat, rfl, by omega, rnd_top _ _ _, ?_⟩
    rw [um, Nat.mul_assoc, ← Nat.pow_add]
    exact rnd_near _ _ (by omega)
theorem scale_same {d n x y : Int} (h : ScaleR d n x) (k : ScaleR d n y) : x = y := by
  unfold ScaleR at h k
  by_cases h4 : cls d = 4
  · rw [if_pos h4] at h k; rw [h, k]
  rw [if_neg h4] at h k
  by_cases h3 : cls d = 3 ∨ cls d = 0
  · rw [if_pos h3] at h k; rw [h, k]
  rw [if_neg h3] at h k
  obtain ⟨p, a, b, rfl, h1, _, h2⟩ := h
  obtain ⟨q, a', b', rfl, k1, _, k2⟩ := k
  rw [near_unique (Nat.pow_pos (by decide)) (Nat.pow_pos (by decide)) h2 k2 (by rw [Nat.mul_assoc, Nat.mul_assoc, ← Nat.pow_add, ← Nat.pow_add, show a + b' = a' + b by omega])]
/-! ### remainders -/
theorem early_nan {s t : Bool} {ca cb m e m' e' d : Int} (h : ca = 4 ∨ cb = 4 ∨ ca = 3 ∨ cb = 0) : abacusref06_early.f s ca m e t cb m' e' d = some (9221120237041090560, true) := by
  unfold abacusref06_early.f abacusref06_early.b0
  repeat' split
  all_goals first | rfl | omega
theorem early_own {s t : Bool} {ca cb m e m' e' d : Int} (h : ¬ (ca = 4 ∨ cb = 4 ∨ ca = 3 ∨ cb = 0)) (h' : cb = 3 ∨ ca = 0) : abacusref06_early.f s ca m e t cb m' e' d = some (d, true) := by
  unfold abacusref06_early.f abacusref06_early.b0
  repeat' split
  all_goals first | rfl | omega
theorem early_go {s t : Bool} {ca cb m e m' e' d : Int} (h : ¬ (ca = 4 ∨ cb = 4 ∨ ca = 3 ∨ cb = 0)) (h' : ¬ (cb = 3 ∨ ca = 0)) : abacusref06_early.f s ca m e t cb m' e' d = some (0, false) := by
  unfold abacusref06_early.f abacusref06_early.b0
  repeat' split
  all_goals first | rfl | omega
/-- Both magnitudes over a common unit. -/
theorem common_ev {s t : Bool} {ca cb x y : Int} {m n : Nat} (hm : m < 9007199254740992) (hn : n < 9007199254740992) (hx : -1074 ≤ x ∧ x ≤ 971) (hy : -1074 ≤ y ∧ y ≤ 971) :
    ∃ (i j : Nat) (e : Int), Ev (fun k _ _ => abacusref06_common.f k s ca (m : Int) x t cb (n : Int) y) (lim (m * 2 ^ i), lim (n * 2 ^ j), e) ∧ x - e = (i : Int) ∧ y - e = (j : Int) ∧ (i = 0 ∨ j = 0) := by
  simp only [abacusref06_common.f, abacusref06_common.b0, abacusref06_common.l15, abacusref06_common.b15]
  have lift {v i : Nat} (hv : v < 9007199254740992) (hi : i ≤ 2045) : Ev (fun k _ _ => abacusref01_Lift.f k [(v : Int)] (i : Int)) (lim (v * 2 ^ i)) := by
    have := Lift_ev (a := [(v : Int)]) (n := i) (limb_ok (by omega)) (by simp) (by omega)
    rwa [limb_val] at this
  by_cases h : y < x
  · obtain ⟨i, hi⟩ : ∃ i : Nat, x - y = (i : Int) := ⟨(x - y).toNat, by omega⟩
    have w1 : wrap64 (x - y) = (i : Int) := by rw [hi]; unfold wrap64; omega
    have w2 : wrap64 (y - y) = ((0 : Nat) : Int) := by unfold wrap64; omega
    rw [w1, w2]
    exact ⟨i, 0, y, Ev_pos h (Ev.bind (lift hm (by omega)) (Ev.bind (lift hn (by omega)) (Ev.now _))), hi, by omega, .inr rfl⟩
  · obtain ⟨j, hj⟩ : ∃ j : Nat, y - x = (j : Int) := ⟨(y - x).toNat, by omega⟩
    have w1 : wrap64 (y - x) = (j : Int) := by rw [hj]; unfold wrap64; omega
    have w2 : wrap64 (x - x) = ((0 : Nat) : Int) := by unfold wrap64; omega
    rw [w1, w2]
    exact ⟨0, j, x, Ev_neg h (Ev.bind (lift hm (by omega)) (Ev.bind (lift hn (by omega)) (Ev.now _))), by omega, hj, .inl rfl⟩
theorem wide' {m k : Nat} (hm : m < 9007199254740992) (hk : k ≤ 2045) : m * 2 ^ k < B 4096 := Go.Proofs.YtobocamcoaeliaaGreatDoor.Pure.wide hm hk
theorem rest_lt {m n i j : Nat} (hm : m < 9007199254740992) (hn : n < 9007199254740992) (n0 : n ≠ 0) (h : i = 0 ∨ j = 0) : m * 2 ^ i % (n * 2 ^ j) < 9007199254740992 := by
  rcases h with rfl | rfl
  · exact Nat.lt_of_le_of_lt (Nat.mod_le _ _) (by omega)
  · exact Nat.lt_trans (Nat.mod_lt _ (by omega)) (by omega)
theorem round_lim {s : Bool} {r : Nat} {e : Int} (h : r < B 4096) (he : -9223372036854775808 ≤ e ∧ e < 9223372036854775808) : Ev (fun k _ _ => abacusref04_Round.f k s (lim r) e false) (put s (rnd r e false), 0) := by
  have := rRound_ev (s := s) (more := false) (ok_lim r) (Nat.le_trans ((lim_len_le r 4096).2 h) (by decide)) he
  rwa [val_lim, if_pos h] at this
theorem rFmod_ev {a b : Int} (ha : U a) (hb : U b) : ∃ x, Ev (fun k _ _ => abacusref06_Fmod.f k a b) x ∧ FmodR a b x := by
  have da := rDecode_eq ha
  have db := rDecode_eq hb
  simp only [abacusref06_Fmod.f, abacusref06_Fmod.b0]
  unfold FmodR
  by_cases h1 : cls a = 4 ∨ cls b = 4 ∨ cls a = 3 ∨ cls b = 0
  · exact ⟨_, Ev_bind_eq da (Ev_bind_eq db (Ev_bind_eq (early_nan h1) (Ev_pos rfl (Ev.now _)))), by rw [if_pos h1]⟩
  simp only [if_neg h1]
  by_cases h2 : cls b = 3
  · exact ⟨_, Ev_bind_eq da (Ev_bind_eq db (Ev_bind_eq (early_own h1 (.inl h2)) (Ev_pos rfl (Ev.now _)))), by rw [if_pos h2]⟩
  simp only [if_neg h2]
  have fa : fin a := cls_fin' (by omega) (by omega)
  have fb : fin b := cls_fin' (by omega) (by omega)
  have pa := (Go.Proofs.YtobocamcoaeliaaGreatDoor.Pure.plc_put ha (by omega)).1
  by_cases h0 : cls a = 0
  · refine ⟨_, Ev_bind_eq da (Ev_bind_eq db (Ev_bind_eq (early_own h1 (.inr h0)) (Ev_pos rfl (Ev.now _)))), plc a, pa, plc_fin.1 fa, ?_⟩
    rw [(@cls_plc a).2.2.1.1 h0, uni_zero, Nat.zero_mod]
  have ea := exp_range fa
  have eb := exp_range fb
  obtain ⟨m, am, rm, um⟩ := man_nat fa
  obtain ⟨n, bn, rn, un⟩ := man_nat fb
  rw [am] at da
  rw [bn] at db
  have n0 : n ≠ 0 := fun k => by
    rw [k, Nat.zero_mul] at un
    exact h1 (.inr (.inr (.inr ((@cls_plc b).2.2.1.2 (uni_inj (un.trans uni_zero.symm))))))
  obtain ⟨i, j, e, ec, hi, hj, hij⟩ := common_ev (s := sgn a) (t := sgn b) (ca := cls a) (cb := cls b) (x := expOf a) (y := expOf b) rm rn (by omega) (by omega)
  have lx := wide' (m := m) (k := i) rm (by omega)
  have ly := wide' (m := n) (k := j) rn (by omega)
  have pj : 0 < 2 ^ j := Nat.pow_pos (by decide)
  have y0 : n * 2 ^ j ≠ 0 := Nat.mul_ne_zero n0 (by omega)
  have dv := Go.Proofs.YtobocamcoaeliaaGreatDoor.R2.Divide_ev (ok_lim (m * 2 ^ i)) (ok_lim (n * 2 ^ j)) (Nat.le_trans ((lim_len_le _ 4096).2 lx) (by decide)) (Nat.le_trans ((lim_len_le _ 4096).2 ly) (by decide)) (val_lim _) (val_lim _) lx ly y0
  have rl := rest_lt (i := i) (j := j) rm rn n0 hij
  obtain ⟨r, hr⟩ : ∃ r, r = m * 2 ^ i % (n * 2 ^ j) := ⟨_, rfl⟩
  rw [← hr] at dv rl
  have he : -1074 ≤ e ∧ e ≤ 971 := by omega
  have h03 : ¬ (cls b = 3 ∨ cls a = 0) := by rintro (k | k); exact h2 k; exact h0 k
  obtain ⟨x1, x2⟩ := rnd_exact (n := r) (e := e) rl he
  refine ⟨put (sgn a) (rnd r e false), Ev_bind_eq da (Ev_bind_eq db (Ev_bind_eq (early_go h1 h03) (Ev_neg (by simp) (Ev.bind ec (Ev.bind dv (Ev.bind (round_lim (e := e) (limb_small (by omega)) (by omega)) (Ev.now _))))))), rnd r e false, rfl, x2, ?_⟩
  have u1 : uni (plc a) = m * 2 ^ i * 2 ^ (e + 1074).toNat := by rw [um, Nat.mul_assoc, ← Nat.pow_add]; congr 2; omega
  have u2 : uni (plc b) = n * 2 ^ j * 2 ^ (e + 1074).toNat := by rw [un, Nat.mul_assoc, ← Nat.pow_add]; congr 2; omega
  rw [x1, u1, u2, Nat.mul_mod_mul_right, hr]
theorem fmod_same {a b x y : Int} (h : FmodR a b x) (k : FmodR a b y) : x = y := by
  unfold FmodR at h k
  by_cases h1 : cls a = 4 ∨ cls b = 4 ∨ cls a = 3 ∨ cls b = 0
  · rw [if_pos h1] at h k; rw [h, k]
  rw [if_neg h1] at h k
  by_cases h2 : cls b = 3
  · rw [if_pos h2] at h k; rw [h, k]
  rw [if_neg h2] at h k
  obtain ⟨p, rfl, _, e1⟩ := h
  obtain ⟨q, rfl, _, e2⟩ := k
  rw [uni_inj (e1.trans e2.symm)]
end Go.Proofs.YtobocamcoaeliaaGreatDoor.R6
/- What the sixth reference computes: Remainder. No conditions. -/
namespace Go.Proofs.YtobocamcoaeliaaGreatDoor.R6
open Go.RowKit Go.Proofs.YtobocamcoaeliaaGreatDoor.Lib Go.Proofs.YtobocamcoaeliaaGreatDoor.LibB Go.Proofs.YtobocamcoaeliaaGreatDoor.F Go.Proofs.YtobocamcoaeliaaGreatDoor.Nat1 Go.Proofs.YtobocamcoaeliaaGreatDoor.Nat2 Go.Proofs.YtobocamcoaeliaaGreatDoor.Bits Go.Proofs.YtobocamcoaeliaaGreatDoor.Ieee1 Go.Proofs.YtobocamcoaeliaaGreatDoor.Mag Go.Proofs.YtobocamcoaeliaaGreatDoor.Ieee2 Go.Proofs.YtobocamcoaeliaaGreatDoor.Rnd Go.Proofs.YtobocamcoaeliaaGreatDoor.R1 Go.Proofs.YtobocamcoaeliaaGreatDoor.R4
open Go.Proofs.YtobocamcoaeliaaGreatDoor.Pure (rst rst_scale up CutR nearR rnd_exact cls_fin' cls_plc man_nat ScaleR clip FmodR RemR CentreR)
open Go.Proofs.YtobocamcoaeliaaGreatDoorA (rd ln ln_eq mx mn shl shr wr wr_eq)
set_option linter.unusedVariables false
set_option linter.unusedSimpArgs false
theorem divmod {A B k z : Nat} (h : A = k * B + z) (hz : z < B) : A / B = k ∧ A % B = z := by
  subst h
  exact ⟨by rw [Nat.mul_comm, Nat.mul_add_div (by omega), Nat.div_eq_of_lt hz, Nat.add_zero], by rw [Nat.mul_comm, Nat.mul_add_mod, Nat.mod_eq_of_lt hz]⟩
theorem below_of {A B k z : Nat} (h : A + z = k * B) (hz : 0 < z) (hB : z ≤ B) : ∃ j, k = j + 1 ∧ A = j * B + (B - z) := by
  cases k with
  | zero => rw [Nat.zero_mul] at h; omega
  | succ j =>
    refine ⟨j, rfl, ?_⟩
    rw [Nat.succ_mul] at h
    omega
theorem centre_unique {A B z w : Nat} {f g : Bool} (hB : 0 < B) (h : CentreR A B z f) (k : CentreR A B w g) (hz : z = 0 → f = false) (hw : w = 0 → g = false) : z = w ∧ f = g := by
  obtain ⟨h1, i, h2, h3⟩ := h
  obtain ⟨k1, j, k2, k3⟩ := k
  cases f with
  | false =>
    rw [if_neg (by simp)] at h2
    obtain ⟨a1, a2⟩ := divmod h2 (by omega)
    cases g with
    | false =>
      rw [if_neg (by simp)] at k2
      obtain ⟨b1, b2⟩ := divmod k2 (by omega)
      exact ⟨a2.symm.trans b2, rfl⟩
    | true =>
      rw [if_pos rfl] at k2
      have w0 : 0 < w := Nat.pos_of_ne_zero fun e => by cases hw e
      obtain ⟨t, rfl, k4⟩ := below_of k2 w0 (by omega)
      obtain ⟨b1, b2⟩ := divmod k4 (by omega)
      have e1 : z = B - w := a2.symm.trans b2
      have e2 : i = t := a1.symm.trans b1
      have := h3 (by omega)
      have := k3 (by omega)
      omega
  | true =>
    rw [if_pos rfl] at h2
    have z0 : 0 < z := Nat.pos_of_ne_zero fun e => by cases hz e
    obtain ⟨s, rfl, h4⟩ := below_of h2 z0 (by omega)
    obtain ⟨a1, a2⟩ := divmod h4 (by omega)
    cases g with
    | false =>
      rw [if_neg (by simp)] at k2
      obtain ⟨b1, b2⟩ := divmod k2 (by omega)
      have e1 : B - z = w := a2.symm.trans b2
      have e2 : s = j := a1.symm.trans b1
      have := h3 (by omega)
      have := k3 (by omega)
      omega
    | true =>
      rw [if_pos rfl] at k2
      have w0 : 0 < w := Nat.pos_of_ne_zero fun e => by cases hw e
      obtain ⟨t, rfl, k4⟩ := below_of k2 w0 (by omega)
      obtain ⟨b1, b2⟩ := divmod k4 (by omega)
      have e1 : B - z = B - w := a2.symm.trans b2
      exact ⟨by omega, rfl⟩
theorem rem_same {a b x y : Int} (h : RemR a b x) (k : RemR a b y) : x = y := by
  unfold RemR at h k
  by_cases h1 : cls a = 4 ∨ cls b = 4 ∨ cls a = 3 ∨ cls b = 0
  · rw [if_pos h1] at h k; rw [h, k]
  rw [if_neg h1] at h k
  by_cases h2 : cls b = 3
  · rw [if_pos h2] at h k; rw [h, k]
  rw [if_neg h2] at h k
  obtain ⟨p, f, rfl, _, p0, c1⟩ := h
  obtain ⟨q, g, rfl, _, q0, c2⟩ := k
  have zz : ∀ r, uni r = 0 → r = 0 := fun r e => uni_inj (e.trans uni_zero.symm)
  have hB : 0 < uni (plc b) := Nat.pos_of_ne_zero fun e => h1 (.inr (.inr (.inr ((@cls_plc b).2.2.1.2 (zz _ e)))))
  obtain ⟨e1, rfl⟩ := centre_unique hB c1 c2 (fun e => p0 (zz _ e)) (fun e => q0 (zz _ e))
  rw [uni_inj e1]
theorem rRem_ev {a b : Int} (ha : U a) (hb : U b) : ∃ x, Ev (fun k _ _ => abacusref06_Remainder.f k a b) x ∧ RemR a b x := by
  have da := rDecode_eq ha
  have db := rDecode_eq hb
  simp only [abacusref06_Remainder.f, abacusref06_Remainder.b0]
  unfold RemR
  by_cases h1 : cls a = 4 ∨ cls b = 4 ∨ cls a = 3 ∨ cls b = 0
  · exact ⟨_, Ev_bind_eq da (Ev_bind_eq db (Ev_bind_eq (early_nan h1) (Ev_pos rfl (Ev.now _)))), by rw [if_pos h1]⟩
  simp only [if_neg h1]
  by_cases h2 : cls b = 3
  · exact ⟨_, Ev_bind_eq da (Ev_bind_eq db (Ev_bind_eq (early_own h1 (.inl h2)) (Ev_pos rfl (Ev.now _)))), by rw [if_pos h2]⟩
  simp only [if_neg h2]
  have fa : fin a := cls_fin' (by omega) (by omega)
  have fb : fin b := cls_fin' (by omega) (by omega)
  have pa := (Go.Proofs.YtobocamcoaeliaaGreatDoor.Pure.plc_put ha (by omega)).1
  by_cases h0 : cls a = 0
  · refine ⟨_, Ev_bind_eq da (Ev_bind_eq db (Ev_bind_eq (early_own h1 (.inr h0)) (Ev_pos rfl (Ev.now _)))), plc a, false, by rw [Bool.bne_false]; exact pa, plc_fin.1 fa, fun _ => rfl, ?_⟩
    rw [(@cls_plc a).2.2.1.1 h0, uni_zero]
    exact ⟨by omega, 0, by rw [if_neg (by simp), Nat.zero_mul], fun _ => rfl⟩
  have ea := exp_range fa
  have eb := exp_range fb
  obtain ⟨m, am, rm, um⟩ := man_nat fa
  obtain ⟨n, bn, rn, un⟩ := man_nat fb
  rw [am] at da
  rw [bn] at db
  have n0 : n ≠ 0 := fun k => by
    rw [k, Nat.zero_mul] at un
    exact h1 (.inr (.inr (.inr ((@cls_plc b).2.2.1.2 (uni_inj (un.trans uni_zero.symm))))))
  obtain ⟨i, j, e, ec, hi, hj, hij⟩ := common_ev (s := sgn a) (t := sgn b) (ca := cls a) (cb := cls b) (x := expOf a) (y := expOf b) rm rn (by omega) (by omega)
  have lx := wide' (m := m) (k := i) rm (by omega)
  have ly := wide' (m := n) (k := j) rn (by omega)
  have pj : 0 < 2 ^ j := Nat.pow_pos (by decide)
  have y0 : n * 2 ^ j ≠ 0 := Nat.mul_ne_zero n0 (by omega)
  have rl := rest_lt (i := i) (j := j) rm rn n0 hij
  have u1 : uni (plc a) = m * 2 ^ i * 2 ^ (e + 1074).toNat := by rw [um, Nat.mul_assoc, ← Nat.pow_add]; congr 2; omega
  have u2 : uni (plc b) = n * 2 ^ j * 2 ^ (e + 1074).toNat := by rw [un, Nat.mul_assoc, ← Nat.pow_add]; congr 2; omega
  have he : -1074 ≤ e ∧ e ≤ 971 := by omega
  have h03 : ¬ (cls b = 3 ∨ cls a = 0) := by rintro (k | k); exact h2 k; exact h0 k
  clear um un hi hj hij pj
  generalize m * 2 ^ i = X at *
  generalize n * 2 ^ j = Y at *
  have dv := Go.Proofs.YtobocamcoaeliaaGreatDoor.R2.Divide_ev (ok_lim X) (ok_lim Y) (Nat.le_trans ((lim_len_le _ 4096).2 lx) (by decide)) (Nat.le_trans ((lim_len_le _ 4096).2 ly) (by decide)) (val_lim _) (val_lim _) lx ly y0
  have hr : X % Y < Y := Nat.mod_lt _ (by omega)
  have hX := Nat.div_add_mod X Y
  rw [Nat.mul_comm] at hX
  have hqle : X / Y ≤ X := Nat.div_le_self _ _
  generalize X / Y = q at *
  generalize X % Y = r at *
  have lr : r < B 4096 := by omega
  have lq : q < B 4096 := by omega
  have ll : Y - r < B 4096 := by omega
  have le1 := Less_ev (ok_lim Y) (ok_lim r) (Nat.le_trans ((lim_len_le _ 4096).2 ly) (by decide)) (Nat.le_trans ((lim_len_le _ 4096).2 lr) (by decide)) (by rw [val_lim, val_lim]; omega)
  rw [val_lim, val_lim] at le1
  have cm := rCmp_ev (ok_lim r) (ok_lim (Y - r)) (Nat.le_trans ((lim_len_le _ 4096).2 lr) (by decide)) (Nat.le_trans ((lim_len_le _ 4096).2 ll) (by decide))
  rw [val_lim, val_lim] at cm
  have bt := rBit_ev (ok_lim q) (Nat.le_trans ((lim_len_le _ 4096).2 lq) (by decide)) (i := 0) (by decide)
  rw [val_lim, show bitAt q 0 = q % 2 by unfold bitAt; rw [if_neg (by omega)]; show q / 2 ^ 0 % 2 = q % 2; rw [Nat.pow_zero, Nat.div_one]] at bt
  have pU : 0 < 2 ^ (e + 1074).toNat := Nat.pow_pos (by decide)
  have he2 : -9223372036854775808 ≤ e ∧ e < 9223372036854775808 := by omega
  have f1 : Y - r < r → Y ≤ 2 * r ∧ (2 * r = Y → q % 2 = 1) := fun h => ⟨by omega, fun k => by omega⟩
  have f2 : r = Y - r → Y ≤ 2 * r ∧ 2 * r ≤ Y := fun h => by omega
  have f3 : ¬ Y - r < r → ¬ r = Y - r → 2 * r ≤ Y ∧ (2 * r = Y → q % 2 = 0) := fun h k => ⟨by omega, fun k => by omega⟩
  have f4 : q % 2 = 1 → ((q % 2 : Nat) : Int) = 1 := fun h => by omega
  have f5 : ¬ q % 2 = 1 → ¬ ((q % 2 : Nat) : Int) = 1 ∧ q % 2 = 0 := fun h => by omega
  have up (hge : Y ≤ 2 * r) (ho : 2 * r = Y → q % 2 = 1) : ∃ (p : Nat) (f : Bool), put (!sgn a) (rnd (Y - r) e false) = put (sgn a != f) p ∧ p < inf ∧ (p = 0 → f = false) ∧ CentreR (uni (plc a)) (uni (plc b)) (uni p) f := by
    obtain ⟨x1, x2⟩ := rnd_exact (n := Y - r) (e := e) (by omega) he
    refine ⟨rnd (Y - r) e false, true, by rw [show (sgn a != true) = !sgn a by cases sgn a <;> rfl], x2, fun h => ?_, ?_⟩
    · rw [h, uni_zero] at x1
      have := Nat.mul_eq_zero.1 x1.symm
      omega
    · rw [u1, u2, x1]
      exact CentreR.up pU ⟨by omega, q + 1, by rw [if_pos rfl, Nat.succ_mul]; omega, fun h => by have := ho (by omega); omega⟩
  have down (hge : 2 * r ≤ Y) (ho : 2 * r = Y → q % 2 = 0) : ∃ (p : Nat) (f : Bool), put (sgn a) (rnd r e false) = put (sgn a != f) p ∧ p < inf ∧ (p = 0 → f = false) ∧ CentreR (uni (plc a)) (uni (plc b)) (uni p) f := by
    obtain ⟨x1, x2⟩ := rnd_exact (n := r) (e := e) rl he
    refine ⟨rnd r e false, false, by rw [Bool.bne_false], x2, fun _ => rfl, ?_⟩
    rw [u1, u2, x1]
    exact CentreR.up pU ⟨by omega, q, by rw [if_neg (by simp)]; omega, ho⟩
  have tail : Ev (fun k _ _ => abacusref06_Remainder.l2047 k e (lim r) (sgn a) (cls a) (m : Int) (expOf a)) (put (sgn a) (rnd r e false)) := by
    simp only [abacusref06_Remainder.l2047, abacusref06_Remainder.b2047]
    exact Ev.bind (round_lim (e := e) lr he2) (Ev.now _)
  have c0 := cmp_zero r (Y - r)
  have cp := cmp_pos r (Y - r)
  by_cases hgt : Y - r < r
  · exact ⟨_, Ev_bind_eq da (Ev_bind_eq db (Ev_bind_eq (early_go h1 h03) (Ev_neg (by simp) (Ev.bind ec (Ev.bind dv (Ev.bind le1 (Ev.bind cm (Ev_pos (cp.2 hgt) (Ev.bind (round_lim (e := e) ll he2) (Ev.now _)))))))))), up (f1 hgt).1 (f1 hgt).2⟩
  have n1 : ¬ cmp r (Y - r) > 0 := fun k => hgt (cp.1 k)
  by_cases heq : r = Y - r
  · by_cases ho : q % 2 = 1
    · exact ⟨_, Ev_bind_eq da (Ev_bind_eq db (Ev_bind_eq (early_go h1 h03) (Ev_neg (by simp) (Ev.bind ec (Ev.bind dv (Ev.bind le1 (Ev.bind cm (Ev_neg n1 (Ev_pos (c0.2 heq) (Ev.bind bt (Ev_pos (f4 ho) (Ev.bind (round_lim (e := e) ll he2) (Ev.now _))))))))))))), up (f2 heq).1 (fun _ => ho)⟩
    · exact ⟨_, Ev_bind_eq da (Ev_bind_eq db (Ev_bind_eq (early_go h1 h03) (Ev_neg (by simp) (Ev.bind ec (Ev.bind dv (Ev.bind le1 (Ev.bind cm (Ev_neg n1 (Ev_pos (c0.2 heq) (Ev.bind bt (Ev_neg (f5 ho).1 tail))))))))))), down (f2 heq).2 (fun _ => (f5 ho).2)⟩
  · exact ⟨_, Ev_bind_eq da (Ev_bind_eq db (Ev_bind_eq (early_go h1 h03) (Ev_neg (by simp) (Ev.bind ec (Ev.bind dv (Ev.bind le1 (Ev.bind cm (Ev_neg n1 (Ev_neg (fun k => heq (c0.1 k)) tail))))))))), down (f3 hgt heq).1 (f3 hgt heq).2⟩
end Go.Proofs.YtobocamcoaeliaaGreatDoor.R6
