/- The flags that soft tells beside its answers, on finite doubles: by whole numbers. No conditions. -/
import Derived.Test.YtobocamcoaeliaaGreatDoorQSoftTot
namespace Go.Proofs.YtobocamcoaeliaaGreatDoor.SoftFl
open Go.RowKit Go.Proofs.YtobocamcoaeliaaGreatDoor.Lib Go.Proofs.YtobocamcoaeliaaGreatDoor.LibB Go.Proofs.YtobocamcoaeliaaGreatDoor.F Go.Proofs.YtobocamcoaeliaaGreatDoor.Nat1 Go.Proofs.YtobocamcoaeliaaGreatDoor.Nat2 Go.Proofs.YtobocamcoaeliaaGreatDoor.Bits Go.Proofs.YtobocamcoaeliaaGreatDoor.Ieee1 Go.Proofs.YtobocamcoaeliaaGreatDoor.Mag Go.Proofs.YtobocamcoaeliaaGreatDoor.Ieee2 Go.Proofs.YtobocamcoaeliaaGreatDoor.Soft1 Go.Proofs.YtobocamcoaeliaaGreatDoor.Soft2 Go.Proofs.YtobocamcoaeliaaGreatDoor.SoftDiv Go.Proofs.YtobocamcoaeliaaGreatDoor.SoftTot Go.Proofs.YtobocamcoaeliaaGreatDoor.Rnd
open Go.Proofs.YtobocamcoaeliaaGreatDoorA (rd ln ln_eq mx mn shl shr wr wr_eq)
set_option linter.unusedVariables false
set_option linter.unusedSimpArgs false
/-- The flags of the exact number X / Y (in 2^-1074) and the double d that it was rounded to. -/
def flg (X Y : Nat) (d : Int) : Int := if plc d = inf then 20 else if X = uni (plc d) * Y then 0 else if X < 4503599627370496 * Y then 24 else 16
theorem pow_eq {N M i j a c : Nat} (h : i + c = j + a) : N * 2 ^ i = M * 2 ^ j ↔ N * 2 ^ a = M * 2 ^ c := by
  have e1 : N * 2 ^ i * 2 ^ c = N * 2 ^ a * 2 ^ j := by rw [Nat.mul_assoc, Nat.mul_assoc, ← Nat.pow_add, ← Nat.pow_add, h, Nat.add_comm j a]
  have e2 : M * 2 ^ j * 2 ^ c = M * 2 ^ c * 2 ^ j := Nat.mul_right_comm ..
  constructor
  · intro k
    exact Nat.eq_of_mul_eq_mul_right (Nat.pow_pos (n := j) (show 0 < 2 by decide)) (e1.symm.trans ((congrArg (· * 2 ^ c) k).trans e2))
  · intro k
    exact Nat.eq_of_mul_eq_mul_right (Nat.pow_pos (n := c) (show 0 < 2 by decide)) (e1.trans ((congrArg (· * 2 ^ j) k).trans e2.symm))
theorem pow_lt {N M i j a c : Nat} (h : i + c = j + a) : N * 2 ^ i < M * 2 ^ j ↔ N * 2 ^ a < M * 2 ^ c := by
  have e1 : N * 2 ^ i * 2 ^ c = N * 2 ^ a * 2 ^ j := by rw [Nat.mul_assoc, Nat.mul_assoc, ← Nat.pow_add, ← Nat.pow_add, h, Nat.add_comm j a]
  have e2 : M * 2 ^ j * 2 ^ c = M * 2 ^ c * 2 ^ j := Nat.mul_right_comm ..
  have pc : 0 < 2 ^ c := Nat.pow_pos (by decide)
  have pj : 0 < 2 ^ j := Nat.pow_pos (by decide)
  rw [← Nat.mul_lt_mul_right pc, e1, e2, Nat.mul_lt_mul_right pj]
theorem fit {N F i : Nat} (hN : N < 2 ^ F) (h : F + i ≤ 200000) : N * 2 ^ i < B 4096 := by
  have h1 : N * 2 ^ i < 2 ^ (F + i) := by
    rw [Nat.pow_add]
    exact Nat.mul_lt_mul_of_pos_right hN (Nat.pow_pos (by decide))
  exact pow_B h1 (by omega)
theorem two_exps (x y : Int) (hx : -10000 ≤ x ∧ x ≤ 10000) (hy : -10000 ≤ y ∧ y ≤ 10000) : ∃ (e : Int) (i j : Nat), x - e = (i : Int) ∧ y - e = (j : Int) ∧ (i = 0 ∨ j = 0) ∧ i ≤ 20000 ∧ j ≤ 20000 := by
  by_cases h : x ≤ y
  · exact ⟨x, 0, (y - x).toNat, by omega, by omega, .inl rfl, by omega, by omega⟩
  · exact ⟨y, (x - y).toNat, 0, by omega, by omega, .inr rfl, by omega, by omega⟩
theorem inf_of {d : Int} : cls d = 3 ↔ plc d = inf := by
  unfold cls plc inf
  constructor
  · intro h
    repeat' split at h
    all_goals omega
  · intro h
    repeat' split
    all_goals omega
theorem flags_ev {s : Bool} {N D F a b : Nat} {e d : Int} (hd : U d) (hn : cls d ≠ 4) (hab : (a : Int) - b = e + 1074) (hF : F ≤ 10000) (hN : N < 2 ^ F) (hD : D < 2 ^ 60) (D0 : D ≠ 0) (he : -10000 ≤ e ∧ e ≤ 10000) :
    Ev (fun k _ _ => soft_fraction_flags.f k s (lim N) (lim D) e d) (flg (N * 2 ^ a) (D * 2 ^ b) d) := by
  simp only [soft_fraction_flags.f, soft_fraction_flags.b0, ln_eq]
  unfold flg
  by_cases h3 : cls d = 3
  · rw [if_pos (inf_of.1 h3)]
    exact Ev_bind_eq (Decode_eq hd) (Ev_pos h3 (Ev.now _))
  rw [if_neg (fun h => h3 (inf_of.2 h))]
  have fd : fin d := fin_cls.2 ⟨h3, hn⟩
  have hm := man_range fd
  have hp := exp_range fd
  have mB : (manOf d).toNat < 2 ^ 53 := by have : (2 : Nat) ^ 53 = 9007199254740992 := by decide
                                           omega
  have hM : D * (manOf d).toNat < 2 ^ 113 := by
    have := Nat.mul_lt_mul'' hD mB
    rwa [← Nat.pow_add] at this
  have hMB : D * (manOf d).toNat < B 4096 := pow_B hM (by decide)
  have hDB : D < B 4096 := pow_B hD (by decide)
  have hmB : (manOf d).toNat < B 4096 := pow_B mB (by decide)
  have hmul := nat_Mul_ev (ok_lim D) (ok_lim (manOf d).toNat) (Nat.le_trans (len_lim' hDB) (by decide)) (Nat.le_trans (len_lim' hmB) (by decide))
  rw [val_lim, val_lim, mul_fits hMB hDB hmB] at hmul
  obtain ⟨e1, i, j, hi, hj, hij, ki, kj⟩ := two_exps e (expOf d) he ⟨by omega, by omega⟩
  obtain ⟨e2, i2, j2, hi2, hj2, hij2, ki2, kj2⟩ := two_exps e (-1022) he ⟨by omega, by omega⟩
  have b1 : N * 2 ^ i < B 4096 := fit hN (by omega)
  have b2 : D * (manOf d).toNat * 2 ^ j < B 4096 := fit hM (by omega)
  have b3 : N * 2 ^ i2 < B 4096 := fit hN (by omega)
  have b4 : D * 2 ^ j2 < B 4096 := fit hD (by omega)
  have al1 := aligned_ev hi hj hij (by omega) (by omega) b1 b2
  have al2 := aligned_ev hi2 hj2 hij2 (by omega) (by omega) b3 b4
  have c1 := cmp_lim b1 b2
  have c2 := cmp_lim b3 b4
  obtain ⟨p, hpp⟩ : ∃ p : Nat, expOf d + 1074 = (p : Int) := ⟨(expOf d + 1074).toNat, by omega⟩
  have q1 : N * 2 ^ i = D * (manOf d).toNat * 2 ^ j ↔ N * 2 ^ a = uni (plc d) * (D * 2 ^ b) := by
    rw [pow_eq (c := b + p) (a := a) (by omega), uni_parts fd, hpp, Int.toNat_natCast]
    have : D * (manOf d).toNat * 2 ^ (b + p) = (manOf d).toNat * 2 ^ p * (D * 2 ^ b) := by rw [Nat.pow_add]; ac_rfl
    rw [this]
  have q2 : N * 2 ^ i2 < D * 2 ^ j2 ↔ N * 2 ^ a < 4503599627370496 * (D * 2 ^ b) := by
    rw [pow_lt (c := b + 52) (a := a) (by omega)]
    have : D * 2 ^ (b + 52) = 4503599627370496 * (D * 2 ^ b) := by
      rw [Nat.pow_add, ← Nat.mul_assoc, Nat.mul_comm _ (2 ^ 52)]
    rw [this]
  clear b1 b2 b3 b4
  refine Ev_bind_eq (Decode_eq hd) (Ev_neg h3 (Ev_bind_eq (FromUint_man d) (Ev.bind hmul (Ev.bind al1 (Ev.bind c1 ?_)))))
  by_cases h0 : N * 2 ^ i = D * (manOf d).toNat * 2 ^ j
  · rw [if_pos (q1.1 h0)]
    exact Ev_pos ((cmp_zero _ _).2 h0) (Ev.now _)
  · rw [if_neg (fun h => h0 (q1.2 h))]
    refine Ev_neg (fun h => h0 ((cmp_zero _ _).1 h)) (Ev.bind al2 (Ev.bind c2 ?_))
    by_cases h1 : N * 2 ^ i2 < D * 2 ^ j2
    · rw [if_pos (q2.1 h1)]
      exact Ev_pos ((cmp_neg _ _).2 h1) (Ev.now _)
    · rw [if_neg (fun h => h1 (q2.2 h))]
      exact Ev_neg (fun h => h1 ((cmp_neg _ _).1 h)) (Ev.now _)
theorem put_cls {s : Bool} {p : Nat} (h : p ≤ inf) : cls (put s p) ≠ 4 := by
  have := (put_U (s := s) h).2.1
  intro k
  have h2 := cls_nan.1 k
  unfold nan at h2
  unfold plc at this
  unfold inf at h
  omega
theorem flg_zero (s : Bool) (Y : Nat) : flg 0 Y (put s 0) = 0 := by
  unfold flg
  have h := (put_U (s := s) (show 0 ≤ inf by decide)).2.1
  rw [h, if_neg (by decide), if_pos (by rw [uni_zero, Nat.zero_mul])]
theorem one_lim : [1] = lim 1 := (lim_one_len (n := 1) (by decide) (by decide)).symm
theorem rounded_fl {s : Bool} {Z F a b : Nat} {e : Int} (hab : (a : Int) - b = e + 1074 ∨ Z = 0) (hF : F ≤ 10000) (hZ : Z < 2 ^ F) (he : -10000 ≤ e ∧ e ≤ 10000) :
    Ev (fun k _ _ => soft_term_rounded.f k s (lim Z) e) (put s (rnd Z e false), flg (Z * 2 ^ a) (2 ^ b) (put s (rnd Z e false))) := by
  have hl := @lim_len_zero Z
  simp only [soft_term_rounded.f, soft_term_rounded.b0, ln_eq]
  by_cases h0 : Z = 0
  · have hr : rnd 0 e false = 0 := by unfold rnd; rw [if_pos (.inl rfl)]
    rw [h0, hr, Nat.zero_mul, flg_zero]
    refine Ev_pos (by rw [lim_zero]; rfl) (Ev_bind_eq (withSign_zero s) (Ev_some rfl))
  · have hU := put_U (s := s) (rnd_top Z e false)
    have hf := flags_ev (s := s) (N := Z) (D := 1) (a := a) (b := b) hU.1 (put_cls (rnd_top Z e false)) (hab.resolve_right h0) hF hZ (by decide) (by decide) he
    rw [Nat.one_mul, ← one_lim] at hf
    exact Ev_neg (by omega) (Ev.bind (limb_ev (pow_B hZ (by omega))) (Ev.bind hf (Ev_some rfl)))
theorem abs_pow {s : Bool} {Z a : Nat} {v : Int} (h : v = sv s Z * ((2 ^ a : Nat) : Int)) : v.natAbs = Z * 2 ^ a := by rw [h, ← sv_mul, sv_abs]
theorem add_fl {a b c : Int} (ha : U a) (hb : U b) (fa : fin a) (fb : fin b) : ∃ d, Ev (fun k _ _ => soft_add.f k a b c) (d, flg (sval a + sval b).natAbs 1 d) ∧ Rd d (sval a + sval b) (sgn a && sgn b) := by
  have ea := exp_range fa
  have eb := exp_range fb
  have ma := man_any a
  have mb := man_any b
  obtain ⟨e, he⟩ : ∃ e, e = if expOf a ≤ expOf b then expOf a else expOf b := ⟨_, rfl⟩
  obtain ⟨i, j, hi, hj, hij⟩ : ∃ i j : Nat, expOf a - e = (i : Int) ∧ expOf b - e = (j : Int) ∧ (i = 0 ∨ j = 0) := by
    refine ⟨(expOf a - e).toNat, (expOf b - e).toNat, ?_, ?_, ?_⟩ <;> split at he <;> omega
  obtain ⟨a0, ha0⟩ : ∃ a0 : Nat, e + 1074 = (a0 : Int) := ⟨(e + 1074).toNat, by split at he <;> omega⟩
  have he2 : e ≤ 971 := by split at he <;> omega
  have l1 := (lift2 (m := (manOf a).toNat) (k := i) (by omega) (by omega)).1
  have l2 := (lift2 (m := (manOf b).toNat) (k := j) (by omega) (by omega)).1
  obtain ⟨E, hE⟩ : ∃ E, E = 2199 := ⟨_, rfl⟩
  have hB : (manOf a).toNat * 2 ^ i + (manOf b).toNat * 2 ^ j < 2 ^ (E + 1) := by
    have p1 : 2 ^ (53 + i) ≤ 2 ^ E := Nat.pow_le_pow_right (by omega) (by omega)
    have p2 : 2 ^ (53 + j) ≤ 2 ^ E := Nat.pow_le_pow_right (by omega) (by omega)
    exact Nat.lt_of_lt_of_le (Nat.add_lt_add (Nat.lt_of_lt_of_le l1 p1) (Nat.lt_of_lt_of_le l2 p2)) (Nat.le_of_eq (twice E))
  have hBB := pow_B hB (by omega)
  clear l1 l2
  obtain ⟨s, Z, e', h1, h2, h3, h4⟩ := tplus_ev (sx := sgn a) (sy := sgn b) hi hj hij (by omega) (by omega) hBB
  have hZ : Z < 2 ^ (E + 1) := by
    have : Z ≤ (manOf a).toNat * 2 ^ i + (manOf b).toNat * 2 ^ j := by
      have h5 := congrArg Int.natAbs h2
      rw [sv_abs] at h5
      have h6 := Int.natAbs_add_le (sv (sgn a) ((manOf a).toNat * 2 ^ i)) (sv (sgn b) ((manOf b).toNat * 2 ^ j))
      rw [sv_abs, sv_abs] at h6
      rw [h5]
      exact h6
    exact Nat.lt_of_le_of_lt this hB
  have hv : sval a + sval b = sv s Z * ((2 ^ a0 : Nat) : Int) := by
    unfold sval
    have k1 : (expOf a + 1074).toNat = i + a0 := by omega
    have k2 : (expOf b + 1074).toNat = j + a0 := by omega
    rw [uni_parts fa, uni_parts fb, h2, k1, k2, Nat.pow_add, Nat.pow_add, ← Nat.mul_assoc, ← Nat.mul_assoc, sv_mul _ ((manOf a).toNat * 2 ^ i), sv_mul _ ((manOf b).toNat * 2 ^ j), ← Int.add_mul]
  have hf : Ev (fun k _ _ => soft_term_rounded.f k s (lim Z) e') (put s (rnd Z e' false), flg (Z * 2 ^ a0) (2 ^ 0) (put s (rnd Z e' false))) := by
    rcases h3 with rfl | h0
    · exact rounded_fl (.inl (by omega)) (by omega) hZ ⟨by omega, by omega⟩
    · have hr : rnd Z e' false = 0 := by unfold rnd; rw [if_pos (.inl h0)]
      rw [hr, h0, Nat.zero_mul, flg_zero]
      simp only [soft_term_rounded.f, soft_term_rounded.b0, ln_eq]
      exact Ev_pos (by rw [lim_zero]; rfl) (Ev_bind_eq (withSign_zero s) (Ev_some rfl))
  rw [← abs_pow hv, Nat.pow_zero] at hf
  refine ⟨_, ?_, rd_term ha0 hv h3 h4⟩
  simp only [soft_add.f, soft_add.b0, ln_eq]
  have n1 := cls_lt fa
  have n2 := cls_lt fb
  refine Ev_bind_eq (Decode_eq ha) (Ev_bind_eq (Decode_eq hb) (Ev_neg n1.2 (Ev_neg n2.2 (Ev_neg n1.1 ?_))))
  simp only [soft_add.l231, soft_add.b231]
  refine Ev_neg (by simp) (Ev_neg n1.1 (Ev_neg n2.1 ?_))
  refine Ev_bind_eq (a := (sgn a, lim (manOf a).toNat, expOf a)) (by unfold soft_termOf.f soft_termOf.b0; rw [FromUint_man]; rfl) ?_
  refine Ev_bind_eq (a := (sgn b, lim (manOf b).toNat, expOf b)) (by unfold soft_termOf.f soft_termOf.b0; rw [FromUint_man]; rfl) ?_
  exact Ev.bind h1 (Ev.bind hf (Ev_some rfl))
theorem mul_fl {a b c : Int} {K : Nat} (hK : K = 1074) (ha : U a) (hb : U b) (fa : fin a) (fb : fin b) : ∃ d, Ev (fun k _ _ => soft_mul.f k a b c) (d, flg (sval a * sval b).natAbs (2 ^ K) d) ∧ RdM d (sval a * sval b) (2 ^ K) (sgn a != sgn b) := by
  have ea := exp_range fa
  have eb := exp_range fb
  have n1 := cls_lt fa
  have n2 := cls_lt fb
  obtain ⟨i, hi⟩ : ∃ i : Nat, expOf a + 1074 = (i : Int) := ⟨(expOf a + 1074).toNat, by omega⟩
  obtain ⟨j, hj⟩ : ∃ j : Nat, expOf b + 1074 = (j : Int) := ⟨(expOf b + 1074).toNat, by omega⟩
  have hv : sval a * sval b = sv (sgn a != sgn b) ((manOf a).toNat * (manOf b).toNat) * ((2 ^ (i + j) : Nat) : Int) := by
    unfold sval
    rw [sv_prod, uni_parts fa, uni_parts fb, hi, hj, Int.toNat_natCast, Int.toNat_natCast, Nat.mul_mul_mul_comm, ← Nat.pow_add, sv_mul]
  have hf := rounded_fl (s := (sgn a != sgn b)) (Z := (manOf a).toNat * (manOf b).toNat) (e := expOf a + expOf b) (a := i + j) (b := K) (.inl (by omega)) (F := 106) (by decide) (man_mul (a := a) (b := b)) ⟨by omega, by omega⟩
  rw [← abs_pow hv] at hf
  refine ⟨put (sgn a != sgn b) (rnd ((manOf a).toNat * (manOf b).toNat) (expOf a + expOf b) false), ?_, rdm_term (a0 := i + j) (e := expOf a + expOf b) hK (by omega) hv (.inl rfl) (fun _ => rfl)⟩
  have hpr := product_ev (s := sgn a) (t := sgn b) (c := cls a) (c' := cls b) (e := expOf a) (e' := expOf b) (a := a) (b := b) (by omega) (by omega)
  have b3 : decide (cls b = 3) = false := decide_eq_false n2.1
  have tail : Ev (fun k _ _ => soft_mul.l487 k (sgn a != sgn b) false (sgn a) (cls a) (manOf a) (expOf a) (sgn b) (cls b) (manOf b) (expOf b)) (put (sgn a != sgn b) (rnd ((manOf a).toNat * (manOf b).toNat) (expOf a + expOf b) false), flg (sval a * sval b).natAbs (2 ^ K) (put (sgn a != sgn b) (rnd ((manOf a).toNat * (manOf b).toNat) (expOf a + expOf b) false))) := by
    simp only [soft_mul.l487, soft_mul.b487]
    exact Ev_neg (by simp) (Ev_neg n1.1 (Ev_neg n2.1 (Ev.bind hpr (Ev.bind hf (Ev_some rfl)))))
  simp only [soft_mul.f, soft_mul.b0]
  refine Ev_bind_eq (Decode_eq ha) (Ev_bind_eq (Decode_eq hb) (Ev_neg n1.2 (Ev_neg n2.2 (Ev_neg n1.1 ?_))))
  dsimp only
  rw [b3]
  by_cases h0 : cls a = 0
  · exact Ev_pos h0 tail
  · exact Ev_neg h0 tail
theorem fma_fl {a b c : Int} {K : Nat} (hK : K = 1074) (ha : U a) (hb : U b) (hc : U c) (fa : fin a) (fb : fin b) (fc : fin c) :
    ∃ d, Ev (fun k _ _ => soft_fma.f k a b c) (d, flg (sval a * sval b + sval c * ((2 ^ K : Nat) : Int)).natAbs (2 ^ K) d) ∧ RdM d (sval a * sval b + sval c * ((2 ^ K : Nat) : Int)) (2 ^ K) ((sgn a != sgn b) && sgn c) := by
  have ea := exp_range fa
  have eb := exp_range fb
  have ec := exp_range fc
  have mc := man_any c
  obtain ⟨e, he⟩ : ∃ e, e = if expOf a + expOf b ≤ expOf c then expOf a + expOf b else expOf c := ⟨_, rfl⟩
  obtain ⟨i, j, hi, hj, hij⟩ : ∃ i j : Nat, expOf a + expOf b - e = (i : Int) ∧ expOf c - e = (j : Int) ∧ (i = 0 ∨ j = 0) := by
    refine ⟨(expOf a + expOf b - e).toNat, (expOf c - e).toNat, ?_, ?_, ?_⟩ <;> split at he <;> omega
  obtain ⟨a0, ha0⟩ : ∃ a0 : Nat, e + 2148 = (a0 : Int) := ⟨(e + 2148).toNat, by split at he <;> omega⟩
  have he2 : e ≤ 971 := by split at he <;> omega
  obtain ⟨E, hE⟩ : ∃ E, E = 5000 := ⟨_, rfl⟩
  have hB : (manOf a).toNat * (manOf b).toNat * 2 ^ i + (manOf c).toNat * 2 ^ j < 2 ^ (E + 1) := by
    have p1 : (manOf a).toNat * (manOf b).toNat * 2 ^ i < 2 ^ E := by
      have := Nat.mul_lt_mul_of_pos_right (man_mul (a := a) (b := b)) (show 0 < 2 ^ i from Nat.pow_pos (by omega))
      rw [← Nat.pow_add] at this
      exact Nat.lt_of_lt_of_le this (Nat.pow_le_pow_right (by omega) (by omega))
    have p2 : (manOf c).toNat * 2 ^ j < 2 ^ E := Nat.lt_of_lt_of_le (lift2 (m := (manOf c).toNat) (k := j) (by omega) (by omega)).1 (Nat.pow_le_pow_right (by omega) (by omega))
    exact Nat.lt_of_lt_of_eq (Nat.add_lt_add p1 p2) (twice E)
  have hBB := pow_B hB (by omega)
  obtain ⟨s, Z, e', h1, h2, h3, h4⟩ := tplus_ev (sx := (sgn a != sgn b)) (sy := sgn c) hi hj hij (by omega) (by omega) hBB
  have hZ : Z < 2 ^ (E + 1) := by
    have : Z ≤ (manOf a).toNat * (manOf b).toNat * 2 ^ i + (manOf c).toNat * 2 ^ j := by
      have h5 := congrArg Int.natAbs h2
      rw [sv_abs] at h5
      have h6 := Int.natAbs_add_le (sv (sgn a != sgn b) ((manOf a).toNat * (manOf b).toNat * 2 ^ i)) (sv (sgn c) ((manOf c).toNat * 2 ^ j))
      rw [sv_abs, sv_abs] at h6
      rw [h5]
      exact h6
    exact Nat.lt_of_le_of_lt this hB
  have hv : sval a * sval b + sval c * ((2 ^ K : Nat) : Int) = sv s Z * ((2 ^ a0 : Nat) : Int) := by
    unfold sval
    obtain ⟨x, hx⟩ : ∃ x : Nat, expOf a + 1074 = (x : Int) := ⟨(expOf a + 1074).toNat, by omega⟩
    obtain ⟨y, hy⟩ : ∃ y : Nat, expOf b + 1074 = (y : Int) := ⟨(expOf b + 1074).toNat, by omega⟩
    obtain ⟨z, hz⟩ : ∃ z : Nat, expOf c + 1074 = (z : Int) := ⟨(expOf c + 1074).toNat, by omega⟩
    rw [sv_prod, uni_parts fa, uni_parts fb, uni_parts fc, hx, hy, hz, Int.toNat_natCast, Int.toNat_natCast, Int.toNat_natCast, Nat.mul_mul_mul_comm, ← Nat.pow_add, ← sv_mul (sgn c), Nat.mul_assoc (manOf c).toNat, ← Nat.pow_add,
      show x + y = i + a0 by omega, show z + K = j + a0 by omega, Nat.pow_add, Nat.pow_add, ← Nat.mul_assoc, ← Nat.mul_assoc, sv_mul _ ((manOf a).toNat * (manOf b).toNat * 2 ^ i), sv_mul _ ((manOf c).toNat * 2 ^ j), ← Int.add_mul, h2]
  have hf : Ev (fun k _ _ => soft_term_rounded.f k s (lim Z) e') (put s (rnd Z e' false), flg (Z * 2 ^ a0) (2 ^ K) (put s (rnd Z e' false))) := by
    rcases h3 with rfl | h0
    · exact rounded_fl (.inl (by omega)) (by omega) hZ ⟨by omega, by omega⟩
    · have hr : rnd Z e' false = 0 := by unfold rnd; rw [if_pos (.inl h0)]
      rw [hr, h0, Nat.zero_mul, flg_zero]
      simp only [soft_term_rounded.f, soft_term_rounded.b0, ln_eq]
      exact Ev_pos (by rw [lim_zero]; rfl) (Ev_bind_eq (withSign_zero s) (Ev_some rfl))
  rw [← abs_pow hv] at hf
  have n1 := cls_lt fa
  have n2 := cls_lt fb
  have n3 := cls_lt fc
  refine ⟨_, ?_, rdm_term hK ha0 hv h3 h4⟩
  have hpr := product_ev (s := sgn a) (t := sgn b) (c := cls a) (c' := cls b) (e := expOf a) (e' := expOf b) (a := a) (b := b) (by omega) (by omega)
  have b3 : decide (cls b = 3) = false := decide_eq_false n2.1
  simp only [soft_fma.f, soft_fma.b0]
  refine Ev_bind_eq (Decode_eq ha) (Ev_bind_eq (Decode_eq hb) (Ev_bind_eq (Decode_eq hc) (Ev_neg n1.1 ?_)))
  dsimp only
  rw [b3]
  simp only [soft_fma.l15, soft_fma.b15]
  refine Ev_neg n1.2 (Ev_neg n2.2 (Ev_neg n3.2 (Ev_neg (by simp) (Ev_neg (by simp) ?_))))
  simp only [soft_fma.l3999, soft_fma.b3999]
  refine Ev_neg (by simp) (Ev_neg (by simp) (Ev_neg n3.1 (Ev.bind hpr ?_)))
  refine Ev_bind_eq (a := (sgn c, lim (manOf c).toNat, expOf c)) (by unfold soft_termOf.f soft_termOf.b0; rw [FromUint_man]; rfl) ?_
  exact Ev.bind h1 (Ev.bind hf (Ev_some rfl))
theorem div_fl {a b c : Int} {K : Nat} (hK : K = 1074) (ha : U a) (hb : U b) (fa : fin a) (fb : fin b) (b0 : plc b ≠ 0) :
    ∃ p, Ev (fun k _ _ => soft_div.f k a b c) (put (sgn a != sgn b) p, flg (uni (plc a) * 2 ^ K) (uni (plc b)) (put (sgn a != sgn b) p)) ∧ Near p (uni (plc a) * 2 ^ K) (uni (plc b)) := by
  have na := cls_lt fa
  have nb := cls_small fb b0
  have ea := exp_range fa
  have eb := exp_range fb
  have ma := man_any a
  have mb := man_any b
  have mb0 := man_pos fb b0
  simp only [soft_div.f, soft_div.b0]
  have core : cls a ≠ 0 → ∃ p, Ev (fun k _ _ => soft_div.l31 k (sgn a != sgn b) (sgn a) (cls a) (manOf a) (expOf a) (sgn b) (cls b) (manOf b) (expOf b)) (put (sgn a != sgn b) p, flg (uni (plc a) * 2 ^ K) (uni (plc b)) (put (sgn a != sgn b) p)) ∧ Near p (uni (plc a) * 2 ^ K) (uni (plc b)) := by
    intro ha0
    have sa := small_limit (n := (manOf a).toNat) (by omega)
    have sb := small_limit (n := (manOf b).toNat) (by omega)
    have hw : wrap64 (expOf a - expOf b) = expOf a - expOf b := by unfold wrap64; omega
    have la := len_lim' sa
    have lb := len_lim' sb
    obtain ⟨p, h1, h2⟩ := Go.Proofs.YtobocamcoaeliaaGreatDoor.Ratio.RoundRatio_ev (n := lim (manOf a).toNat) (d := lim (manOf b).toNat) (neg := (sgn a != sgn b)) (e := expOf a - expOf b) (ok_lim _) (ok_lim _) (by omega) (by omega) (by rw [val_lim]; exact sa) (by rw [val_lim]; exact sb) (by rw [val_lim]; exact mb0)
    rw [val_lim, val_lim, Go.Proofs.YtobocamcoaeliaaGreatDoor.Ratio.clamp_in (by omega) (by omega)] at h2
    have hn := h2 ((expOf a + 1074).toNat + K) (expOf b + 1074).toNat (by omega)
    have mA : (manOf a).toNat < 2 ^ 53 := by have : (2 : Nat) ^ 53 = 9007199254740992 := by decide
                                             omega
    have mD : (manOf b).toNat < 2 ^ 60 := by have : (2 : Nat) ^ 60 = 1152921504606846976 := by decide
                                             omega
    have hf := flags_ev (s := (sgn a != sgn b)) (N := (manOf a).toNat) (D := (manOf b).toNat) (a := (expOf a + 1074).toNat + K) (b := (expOf b + 1074).toNat) (e := expOf a - expOf b) (put_U (s := (sgn a != sgn b)) hn.top).1 (put_cls hn.top) (by omega) (F := 53) (by decide) mA mD mb0 ⟨by omega, by omega⟩
    rw [Nat.pow_add, ← Nat.mul_assoc, ← uni_parts fa, ← uni_parts fb] at hn hf
    refine ⟨p, ?_, hn⟩
    clear hn h2 sa sb
    simp only [soft_div.l31, soft_div.b31, hw]
    exact Ev_bind_eq (FromUint_man a) (Ev_bind_eq (FromUint_man b) (Ev.bind h1 (Ev.bind hf (Ev_some rfl))))
  by_cases hab : cls a = cls b
  · obtain ⟨p, h1, h2⟩ := core (by omega)
    refine ⟨p, ?_, h2⟩
    exact Ev_bind_eq (Decode_eq ha) (Ev_bind_eq (Decode_eq hb) (Ev_neg na.2 (Ev_neg nb.2.2 (Ev_pos hab (Ev_neg na.1 (Ev_neg (by dsimp only; omega) (Ev_neg na.1 (Ev_neg nb.1 (Ev_neg (by dsimp only; omega) (Ev_neg nb.2.1 h1))))))))))
  · by_cases h0 : cls a = 0
    · refine ⟨0, ?_, ?_⟩
      · rw [cls_zero.1 h0, uni_zero, Nat.zero_mul, flg_zero]
        exact Ev_bind_eq (Decode_eq ha) (Ev_bind_eq (Decode_eq hb) (Ev_neg na.2 (Ev_neg nb.2.2 (Ev_neg hab (Ev_neg na.1 (Ev_neg nb.1 (Ev_pos h0 (Ev_bind_eq (withSign_zero _) (Ev_some rfl)))))))))
      · rw [cls_zero.1 h0, uni_zero, Nat.zero_mul]
        exact near_zero (by
          have := uni_smono (show 0 < plc b by omega)
          rw [uni_zero] at this; exact this)
    · obtain ⟨p, h1, h2⟩ := core h0
      refine ⟨p, ?_, h2⟩
      exact Ev_bind_eq (Decode_eq ha) (Ev_bind_eq (Decode_eq hb) (Ev_neg na.2 (Ev_neg nb.2.2 (Ev_neg hab (Ev_neg na.1 (Ev_neg nb.1 (Ev_neg h0 (Ev_neg nb.2.1 h1))))))))
end Go.Proofs.YtobocamcoaeliaaGreatDoor.SoftFl
