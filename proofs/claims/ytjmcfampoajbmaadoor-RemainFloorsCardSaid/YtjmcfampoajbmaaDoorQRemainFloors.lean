/- Floor and Ceil are the whole numbers beside d, Trunc and Near the right ones of them, for every input. No conditions. -/
import Derived.Test.YtjmcfampoajbmaaDoorQRemRound
import Derived.Test.YtjmcfampoajbmaaDoorQSoft1
namespace Go.Proofs.YtjmcfampoajbmaaDoor.Pure
open Go.RowKit Go.Proofs.YtjmcfampoajbmaaDoor.Lib Go.Proofs.YtjmcfampoajbmaaDoor.LibB Go.Proofs.YtjmcfampoajbmaaDoor.F Go.Proofs.YtjmcfampoajbmaaDoor.Nat1 Go.Proofs.YtjmcfampoajbmaaDoor.Nat2 Go.Proofs.YtjmcfampoajbmaaDoor.Bits Go.Proofs.YtjmcfampoajbmaaDoor.Div Go.Proofs.YtjmcfampoajbmaaDoor.Quot1 Go.Proofs.YtjmcfampoajbmaaDoor.Ieee1 Go.Proofs.YtjmcfampoajbmaaDoor.Mag Go.Proofs.YtjmcfampoajbmaaDoor.Ieee2 Go.Proofs.YtjmcfampoajbmaaDoor.Rnd Go.Proofs.YtjmcfampoajbmaaDoor.Rn
open Go.Proofs.YtjmcfampoajbmaaDoorA (rd ln ln_eq mx mn shl shr wr wr_eq)
open Go.Proofs.YtjmcfampoajbmaaDoor.Soft1 (Rd sv sval Add_ev Sub_ev rd_exact)
set_option linter.unusedVariables false
set_option linter.unusedSimpArgs false
/-! ### the four roundings -/
def nearR (s : Bool) (w : Nat) (r : Int) : Bool := if r = 3 then true else if r = 2 then decide (w % 2 = 1) else false
theorem near_rule (s : Bool) (w : Nat) (r : Int) : remain_Near_1.f s (w : Int) r = some (nearR s w r) := by
  unfold remain_Near_1.f remain_Near_1.b0 nearR
  have e : Int.tmod (w : Int) 2 = ((w % 2 : Nat) : Int) := by rw [Int.tmod_eq_emod_of_nonneg (by omega)]; omega
  rw [e]
  repeat' split
  · rfl
  · congr 1; exact decide_eq_decide.2 (by omega)
  · rfl
/-- x is d cut, and one more where R says so. -/
def CutR (R : Bool → Nat → Int → Bool) (Z : Nat) (d x : Int) : Prop :=
  if fin d then ∃ p, x = put (sgn d) p ∧ p < inf ∧ uni p = (uni (plc d) / 2 ^ Z + (up R (sgn d) (uni (plc d) / 2 ^ Z) (uni (plc d) % 2 ^ Z) (2 ^ Z)).toNat) * 2 ^ Z
  else x = if cls d = 4 then 9221120237041090560 else d
theorem cut_ev {rule : Bool → Int → Int → Option Bool} {R : Bool → Nat → Int → Bool} (hr : ∀ s (w : Nat) r, rule s (w : Int) r = some (R s w r)) {d : Int} (hd : U d) {Z : Nat} (hZ : Z = 1074) : ∃ x, Ev (fun n _ _ => Gr n rule d) x ∧ CutR R Z d x := by
  unfold CutR
  by_cases hf : fin d
  · obtain ⟨p, h1, h2⟩ := round_ev hr hd hf hZ
    exact ⟨_, h1, by rw [if_pos hf]; exact ⟨p, rfl, h2⟩⟩
  · simp only [Gr, remain_round_75.b0, if_neg hf]
    have dd := Decode_eq hd
    have c3 := cls_fin.2 hf
    have c4 := cls_le d
    by_cases h4 : cls d = 4
    · exact ⟨_, Ev_bind_eq dd (Ev_pos h4 (Ev.now _)), by rw [if_pos h4]⟩
    · exact ⟨_, Ev_bind_eq dd (Ev_neg h4 (Ev_pos (show cls d = 3 by omega) (Ev.now _))), by rw [if_neg h4]⟩
theorem Floor_ev {d : Int} (hd : U d) {Z : Nat} (hZ : Z = 1074) : ∃ x, Ev (fun n _ _ => remain_Floor.f n d) x ∧ CutR (fun s _ _ => s) Z d x := by
  obtain ⟨x, h1, h2⟩ := cut_ev (rule := remain_Floor_1.f) (R := fun s _ _ => s) (fun _ _ _ => rfl) hd hZ
  exact ⟨x, Ev.bind h1 (Ev.now _), h2⟩
theorem Ceil_ev {d : Int} (hd : U d) {Z : Nat} (hZ : Z = 1074) : ∃ x, Ev (fun n _ _ => remain_Ceil.f n d) x ∧ CutR (fun s _ _ => !s) Z d x := by
  obtain ⟨x, h1, h2⟩ := cut_ev (rule := remain_Ceil_1.f) (R := fun s _ _ => !s) (fun _ _ _ => rfl) hd hZ
  exact ⟨x, Ev.bind h1 (Ev.now _), h2⟩
theorem Trunc_ev {d : Int} (hd : U d) {Z : Nat} (hZ : Z = 1074) : ∃ x, Ev (fun n _ _ => remain_Trunc.f n d) x ∧ CutR (fun _ _ _ => false) Z d x := by
  obtain ⟨x, h1, h2⟩ := cut_ev (rule := remain_Trunc_1.f) (R := fun _ _ _ => false) (fun _ _ _ => rfl) hd hZ
  exact ⟨x, Ev.bind h1 (Ev.now _), h2⟩
theorem Near_ev {d : Int} (hd : U d) {Z : Nat} (hZ : Z = 1074) : ∃ x, Ev (fun n _ _ => remain_Near.f n d) x ∧ CutR nearR Z d x := by
  obtain ⟨x, h1, h2⟩ := cut_ev (rule := remain_Near_1.f) (R := nearR) near_rule hd hZ
  exact ⟨x, Ev.bind h1 (Ev.now _), h2⟩
/-! ### infinities and NaNs -/
theorem inf_put {d : Int} (h : U d) (hc : cls d = 3) : d = put (sgn d) inf := by
  have h1 := (plc_put h (by omega)).1
  have h2 := (@cls_plc d).2.1.1 hc
  rw [show plc d = inf by unfold inf; omega] at h1
  exact h1
theorem signed_zero' (s : Bool) : remain_signed.f s 0 = some (put s 0) := by cases s <;> rfl
theorem bearers_ev {d : Int} (hd : U d) (hf : ¬ fin d) : Ev (fun n _ _ => abacuslaw06_bearers.f n d) true := by
  obtain ⟨Z, hZ⟩ : ∃ Z, Z = 1074 := ⟨_, rfl⟩
  obtain ⟨xf, ef, rf⟩ := Floor_ev hd hZ
  obtain ⟨xc, ec, rc⟩ := Ceil_ev hd hZ
  obtain ⟨xt, et, rt⟩ := Trunc_ev hd hZ
  obtain ⟨xn, en, rn⟩ := Near_ev hd hZ
  unfold CutR at rf rc rt rn
  rw [if_neg hf] at rf rc rt rn
  simp only [abacuslaw06_bearers.f, abacuslaw06_bearers.b0, tmod_pos hd]
  have c4 := (@cls_plc d).1
  have c3 := cls_fin.2 hf
  have c5 := cls_le d
  have dd := Decode_eq hd
  have go (w r : Int) (h1 : xf = w) (h2 : xc = w) (h3 : xt = w) (h4 : xn = w) (h5 : Ev (fun n _ _ => remain_Split.f n d) (w, r)) : Ev (fun n _ _ => abacuslaw06_bearers.l31 n d w r) true := by
    simp only [abacuslaw06_bearers.l31, abacuslaw06_bearers.b31]
    exact Ev.bind h5 (Ev_pos rfl (Ev_pos rfl (Ev.bind et (Ev_pos h3 (Ev.bind ef (Ev_pos h1 (Ev.bind ec (Ev_pos h2 (Ev.bind en (Ev_some (decide_eq_true h4)))))))))))
  by_cases h4 : cls d = 4
  · rw [if_pos h4] at rf rc rt rn
    refine Ev_pos (by have := c4.1 h4; omega) (go _ _ rf rc rt rn ?_)
    simp only [remain_Split.f, remain_Split.b0]
    exact Ev_bind_eq dd (Ev.bind et (Ev_pos h4 (Ev.now _)))
  · rw [if_neg h4] at rf rc rt rn
    have h3 : cls d = 3 := by omega
    refine Ev_neg (fun k => h4 (c4.2 (by omega))) ?_
    have e : IntKind.u64.wrap (d - 9218868437227405312) = put (sgn d) 0 := by
      have := inf_put hd h3
      unfold put inf at this
      unfold put
      rw [IntKind.wrap_u64]
      split at this <;> split <;> first | omega | (rename_i a b; exact absurd a b) | (rename_i a b; exact absurd b a)
    rw [e]
    refine go _ _ rf rc rt rn ?_
    simp only [remain_Split.f, remain_Split.b0]
    exact Ev_bind_eq dd (Ev.bind et (Ev_neg h4 (Ev_pos h3 (Ev_bind_eq (signed_zero' _) (Ev.now _)))))
/-! ### order -/
theorem rk_put {s : Bool} {p : Nat} (hp : p ≤ inf) : ¬ nan (put s p) ∧ rk (put s p) = sv s p := by
  unfold inf at hp
  unfold nan rk put sv
  cases s with
  | false => simp only [Bool.false_eq_true, if_false]; exact ⟨by omega, by rw [if_pos (by omega)]⟩
  | true => simp only [if_true]; exact ⟨by omega, by rw [if_neg (by omega)]; omega⟩
theorem comp_put {s t : Bool} {p q : Nat} (hp : p ≤ inf) (hq : q ≤ inf) : ieee_Compare.f (put s p) (put t q) = some (ord (sv s p) (sv t q), true) := by
  rw [Compare_eq (put_U hp).1 (put_U hq).1]
  obtain ⟨n1, r1⟩ := rk_put (s := s) hp
  obtain ⟨n2, r2⟩ := rk_put (s := t) hq
  unfold comp
  rw [if_neg n1, if_neg n2, r1, r2]
theorem below_put {s t : Bool} {p q : Nat} (hp : p ≤ inf) (hq : q ≤ inf) : abacuslaw06_below.f (put s p) (put t q) = some (decide (sv s p < sv t q)) := by
  unfold abacuslaw06_below.f abacuslaw06_below.b0
  rw [comp_put hp hq, Option.bind_some, if_pos rfl]
  unfold ord
  congr 1
  refine decide_eq_decide.2 ?_
  repeat' split
  all_goals omega
theorem atMost_put {s t : Bool} {p q : Nat} (hp : p ≤ inf) (hq : q ≤ inf) : abacuslaw06_atMost.f (put s p) (put t q) = some (decide (sv s p ≤ sv t q)) := by
  unfold abacuslaw06_atMost.f abacuslaw06_atMost.b0
  rw [comp_put hp hq, Option.bind_some, if_pos rfl]
  unfold ord
  congr 1
  refine decide_eq_decide.2 ?_
  repeat' split
  all_goals omega
theorem integral_put {s : Bool} {p n Z : Nat} (hZ : Z = 1074) (hp : p < inf) (h : uni p = n) : ieee_Integral.f (put s p) = some (decide (n % 2 ^ Z = 0)) := by
  obtain ⟨u, e, _⟩ := put_U (s := s) (Nat.le_of_lt hp)
  rw [Integral_eq u]
  have hf : fin (put s p) := plc_fin.2 (by rw [e]; exact hp)
  congr 1
  refine decide_eq_decide.2 ?_
  rw [e, h, hZ]
  exact ⟨fun h => h.2, fun h => ⟨hf, h⟩⟩
/-! ### what lies on the two sides -/
theorem uni_one_ {Z : Nat} (hZ : Z = 1074) : uni 4607182418800017408 = 2 ^ Z := by
  obtain ⟨E, hE⟩ : ∃ E, E = 1022 := ⟨_, rfl⟩
  have h := uni_at (k := E) (c := 4503599627370496) (.inr (Nat.le_refl _)) (by omega)
  rw [show E * 4503599627370496 + 4503599627370496 = 4607182418800017408 by omega] at h
  rw [h, show Z = 52 + E by omega, Nat.pow_add]
theorem near_halves {a b pa pb Z : Nat} (hZ : Z = 1074) (hab : a + b = 2 ^ Z) (h : 2 * a < 2 ^ Z) (hF : FF (a : Int)) (na : Near pa a 1) (nb : Near pb b 1) : pa < pb := by
  obtain ⟨p, hp, e⟩ := hF
  have e : a = uni p := by omega
  have hx := near_exact (p := p) (Y := 1) (by omega) (Nat.le_of_lt hp)
  rw [Nat.mul_one, ← e] at hx
  have e1 := near_unique (by omega) (by omega) na hx rfl
  obtain ⟨g, hg, eg⟩ := uni_rep (Z - 1) 1 (by omega) (by omega)
  rw [Nat.one_mul] at eg
  have e2 : 2 ^ Z = 2 * 2 ^ (Z - 1) := by rw [← Nat.pow_succ']; congr 1; omega
  have hgx := near_exact (p := g) (Y := 1) (by omega) hg
  rw [Nat.mul_one, eg] at hgx
  have l1 : p < g := uni_lt_iff.1 (by rw [eg, ← e]; omega)
  have l2 := near_mono (by omega) (by omega) hgx nb (by omega)
  omega
theorem small_ff {d : Int} {Z a : Nat} (hZ : Z = 1074) (hf : fin d) (h0 : uni (plc d) % 2 ^ Z ≠ 0) (h1 : 2 * a ≤ 2 ^ Z) (ha : a = uni (plc d) % 2 ^ Z ∨ a = 2 ^ Z - uni (plc d) % 2 ^ Z) : FF (a : Int) := by
  obtain ⟨m, am, rm, um⟩ := man_nat hf
  obtain ⟨e0, e1⟩ := exp_range hf
  obtain ⟨q, hq⟩ : ∃ q, q = (expOf d + 1074).toNat := ⟨_, rfl⟩
  obtain ⟨F, hF⟩ : ∃ F, F = 2098 := ⟨_, rfl⟩
  rw [← hq] at um
  have hle := Nat.mod_le (uni (plc d)) (2 ^ Z)
  have hlt := Nat.mod_lt (uni (plc d)) (show 0 < 2 ^ Z from Nat.pow_pos (by omega))
  have hB := uni_lt_pow hF (plc_fin.1 hf)
  have hqZ : q < Z := by
    refine Nat.lt_of_not_le fun k => h0 ?_
    rw [um, show q = (q - Z) + Z by omega, Nat.pow_add, ← Nat.mul_assoc]
    exact Nat.mul_mod_left _ _
  have dO : 2 ^ q ∣ 2 ^ Z := Nat.pow_dvd_pow 2 (by omega)
  have dV : 2 ^ q ∣ uni (plc d) % 2 ^ Z := (Nat.dvd_mod_iff dO).2 ⟨m, by rw [um, Nat.mul_comm]⟩
  have dA : 2 ^ q ∣ a := by
    rcases ha with rfl | rfl
    · exact dV
    · exact Nat.dvd_sub dO dV
  have hb : a ≤ m * 2 ^ q := by rw [← um]; omega
  have hb2 : m * 2 ^ q ≤ 9007199254740992 * 2 ^ q := Nat.mul_le_mul_right _ (by omega)
  refine ff_of (k := q) (F := F) hF ?_ ?_ ?_
  · exact Int.natCast_dvd_natCast.2 dA
  · rw [Int.natAbs_natCast]; exact Nat.le_trans hb hb2
  · rw [Int.natAbs_natCast]; exact Nat.lt_of_le_of_lt hb (by rw [← um]; exact hB)
theorem rd_pos {d : Int} {x : Nat} {z : Bool} (hx : 0 < x) (h : Rd d (x : Int) z) : ∃ p, d = put false p ∧ p ≤ inf ∧ Near p x 1 := by
  obtain ⟨s, p, rfl, h1, h2, _⟩ := h
  have hs := h2 (by omega)
  rw [decide_eq_false (by omega)] at hs
  subst hs
  rw [Int.natAbs_natCast] at h1
  exact ⟨p, rfl, h1.1, h1⟩
theorem half_ev' {s : Bool} {p T Z : Nat} (hZ : Z = 1074) (hp : p < inf) (hT : T ≤ 9007199254740992) (h : uni p = T * 2 ^ Z) : ∃ x, Ev (fun n _ _ => remain_Scale.f n (put s p) (-1)) x ∧ ieee_Integral.f x = some (decide (T % 2 = 0)) := by
  obtain ⟨u, e, se⟩ := put_U (s := s) (Nat.le_of_lt hp)
  obtain ⟨x, h1, h2⟩ := Scale_ev (n := -1) u
  refine ⟨x, h1, ?_⟩
  unfold ScaleR at h2
  have hi : inf = 9218868437227405312 := rfl
  obtain ⟨c4, c3, c0, _⟩ := @cls_plc (put s p)
  rw [e] at c4 c3 c0
  have pz : 0 < 2 ^ Z := Nat.pow_pos (by omega)
  rw [if_neg (fun k => by have := c4.1 k; omega)] at h2
  by_cases h0 : cls (put s p) = 3 ∨ cls (put s p) = 0
  · rw [if_pos h0] at h2
    have p0 : p = 0 := by
      rcases h0 with k | k
      · have := c3.1 k; omega
      · exact c0.1 k
    subst p0
    rw [uni_zero] at h
    have T0 : T = 0 := (Nat.mul_eq_zero.1 h.symm).resolve_right (by omega)
    rw [h2, integral_put hZ hp uni_zero, T0]
    rfl
  · rw [if_neg h0] at h2
    obtain ⟨p', a, b, rfl, hab, hp', hN⟩ := h2
    rw [show clip (-1) = -1 by unfold clip; simp] at hab
    rw [e, h] at hN
    obtain ⟨g, hg, eg⟩ := uni_rep (Z - 1) T hT (by omega)
    have e2 : 2 ^ Z = 2 ^ (Z - 1) * 2 := by rw [← Nat.pow_succ]; congr 1; omega
    have hx := near_exact (p := g) (Y := 1) (by omega) hg
    rw [Nat.mul_one, eg] at hx
    have hb : b = a + 1 := by omega
    have eg' := near_unique (Nat.pow_pos (by omega)) (by omega) hN hx (by rw [hb, Nat.pow_succ, e2]; simp only [Nat.mul_one, Nat.one_mul, Nat.mul_assoc, Nat.mul_comm, Nat.mul_left_comm])
    subst eg'
    have hlt : p' < inf := by
      refine uni_lt_iff.1 (Nat.lt_of_le_of_lt ?_ (uni_lt_iff.2 hp))
      rw [eg, h]
      exact Nat.mul_le_mul_left _ (by omega)
    rw [integral_put hZ hlt eg]
    congr 1
    refine decide_eq_decide.2 ?_
    rw [e2, Nat.mul_comm T, Nat.mul_mod_mul_left]
    have pq : 0 < 2 ^ (Z - 1) := Nat.pow_pos (by omega)
    exact ⟨fun k => (Nat.mul_eq_zero.1 k).resolve_left (by omega), fun k => by rw [k, Nat.mul_zero]⟩
theorem up_zero (R : Bool → Nat → Int → Bool) (s : Bool) (w O : Nat) : up R s w 0 O = false := by unfold up rst; simp
theorem up_pos (R : Bool → Nat → Int → Bool) (s : Bool) (w O : Nat) {f : Nat} (h : f ≠ 0) : up R s w f O = R s w (rst f O) := by
  have : rst f O ≠ 0 := by unfold rst; rw [if_neg h]; repeat' split <;> omega
  rw [up, decide_eq_true this, Bool.true_and]
theorem rst_low {f O : Nat} (h : f ≠ 0) (h1 : 2 * f < O) : rst f O = 1 := by unfold rst; rw [if_neg h, if_pos h1]
theorem rst_half {f O : Nat} (h : f ≠ 0) (h1 : 2 * f = O) : rst f O = 2 := by unfold rst; rw [if_neg h, if_neg (by omega), if_pos h1]
theorem rst_high {f O : Nat} (h : f ≠ 0) (h1 : 2 * f > O) : rst f O = 3 := by unfold rst; rw [if_neg h, if_neg (by omega), if_neg (by omega)]
theorem sv_same {a b : Bool} {n : Nat} (h : sv a n = sv b n) : a = b ∨ n = 0 := by
  unfold sv at h
  cases a <;> cases b <;> simp at h ⊢ <;> omega
theorem last_ev {d x y : Int} (h1 : Ev (fun n _ _ => remain_Trunc.f n d) x) (h2 : Ev (fun n _ _ => remain_Near.f n d) y) : Ev (fun n _ _ => abacuslaw06_RemainFloors.l262143 n d x y) true := by
  simp only [abacuslaw06_RemainFloors.l262143, abacuslaw06_RemainFloors.b262143]
  exact Ev.bind h1 (Ev_pos rfl (Ev.bind h2 (Ev_some (decide_eq_true rfl))))
theorem whole_lt {d : Int} {Z : Nat} (hZ : Z = 1074) (hf : fin d) (h0 : uni (plc d) % 2 ^ Z ≠ 0) : uni (plc d) / 2 ^ Z < 9007199254740992 := by
  obtain ⟨m, am, rm, um⟩ := man_nat hf
  obtain ⟨q, hq⟩ : ∃ q, q = (expOf d + 1074).toNat := ⟨_, rfl⟩
  rw [← hq] at um
  have hqZ : q < Z := by
    refine Nat.lt_of_not_le fun k => h0 ?_
    rw [um, show q = (q - Z) + Z by omega, Nat.pow_add, ← Nat.mul_assoc]
    exact Nat.mul_mod_left _ _
  refine Nat.div_lt_of_lt_mul ?_
  rw [um, Nat.mul_comm (2 ^ Z)]
  exact Nat.lt_of_le_of_lt (Nat.mul_le_mul_left _ (Nat.pow_le_pow_right (by omega) (Nat.le_of_lt hqZ))) (Nat.mul_lt_mul_of_pos_right rm (Nat.pow_pos (by omega)))
theorem mul_succ' (t O : Nat) : (t + 1) * O = t * O + O := Nat.succ_mul t O
theorem sides {t f O x y : Nat} {s : Bool} (hf : f < O) (hx : x = if s = true then O - f else f) (hy : y = if s = true then f else O - f) :
    sv s (t * O + f) - sv s ((t + s.toNat) * O) = (x : Int) ∧ sv s ((t + (!s).toNat) * O) - sv s (t * O + f) = (y : Int) := by
  cases s with
  | false =>
    simp only [Bool.false_eq_true, if_false] at hx hy
    subst hx hy
    unfold sv
    simp only [Bool.false_eq_true, if_false, Bool.toNat_false, Bool.not_false, Bool.toNat_true, Nat.add_zero, mul_succ']
    generalize t * O = P
    omega
  | true =>
    simp only [if_true] at hx hy
    subst hx hy
    unfold sv
    simp only [if_true, Bool.toNat_true, Bool.not_true, Bool.toNat_false, Nat.add_zero, mul_succ']
    generalize t * O = P
    omega
theorem mid_ev {d : Int} {s : Bool} {pl ph pn t f V Z : Nat} (hZ : Z = 1074) (hd : U d) (hfin : fin d) (hs : sgn d = s) (hV : uni (plc d) = V) (ht : V / 2 ^ Z = t) (hfr : V % 2 ^ Z = f) (f0 : f ≠ 0)
    (hl : pl < inf) (hh : ph < inf) (ul : uni pl = (t + s.toNat) * 2 ^ Z) (uh : uni ph = (t + (!s).toNat) * 2 ^ Z) (un : uni pn = (t + (nearR s t (rst f (2 ^ Z))).toNat) * 2 ^ Z) {cut : Int}
    (h1 : Ev (fun n _ _ => remain_Trunc.f n d) cut) (h2 : Ev (fun n _ _ => remain_Near.f n d) (put s pn)) :
    Ev (fun n _ _ => abacuslaw06_RemainFloors.l8191 n d (put s pl) (put s ph) cut) true := by
  simp only [abacuslaw06_RemainFloors.l8191, abacuslaw06_RemainFloors.b8191]
  obtain ⟨O, hO⟩ : ∃ O, O = 2 ^ Z := ⟨_, rfl⟩
  have pO : 0 < O := by rw [hO]; exact Nat.pow_pos (by omega)
  obtain ⟨u1, v1, s1⟩ := put_U (s := s) (Nat.le_of_lt hl)
  obtain ⟨u2, v2, s2⟩ := put_U (s := s) (Nat.le_of_lt hh)
  have fl : fin (put s pl) := plc_fin.2 (by rw [v1]; exact hl)
  have fh : fin (put s ph) := plc_fin.2 (by rw [v2]; exact hh)
  obtain ⟨dn, e1, r1⟩ := Sub_ev hd u1 hfin fl
  obtain ⟨up', e2, r2⟩ := Sub_ev u2 hd fh hfin
  have fO : f < O := by rw [← hfr, hO]; exact Nat.mod_lt _ (Nat.pow_pos (by omega))
  have hVd : V = t * O + f := by rw [← ht, ← hfr, hO, Nat.mul_comm]; exact (Nat.div_add_mod _ _).symm
  obtain ⟨x, hx⟩ : ∃ x, x = if s = true then O - f else f := ⟨_, rfl⟩
  obtain ⟨y, hy⟩ : ∃ y, y = if s = true then f else O - f := ⟨_, rfl⟩
  obtain ⟨k1, k2⟩ := sides (t := t) fO hx hy
  rw [sval, sval, hs, hV, v1, s1, ul, ← hO, hVd, k1] at r1
  rw [sval, sval, hs, hV, v2, s2, uh, ← hO, hVd, k2] at r2
  have x0 : 0 < x := by rw [hx]; split <;> omega
  have y0 : 0 < y := by rw [hy]; split <;> omega
  have xy : x + y = O := by rw [hx, hy]; cases s <;> simp <;> omega
  obtain ⟨pd, rfl, pdi, nd⟩ := rd_pos x0 r1
  obtain ⟨pu, rfl, pui, nu⟩ := rd_pos y0 r2
  have hm : uni (plc d) % 2 ^ Z = f := by rw [hV]; exact hfr
  have ffx : 2 * x ≤ O → FF (x : Int) := fun h => small_ff hZ hfin (by rw [hm]; exact f0) (by rw [← hO]; exact h) (by rw [hm, ← hO, hx]; cases s <;> simp)
  have ffy : 2 * y ≤ O → FF (y : Int) := fun h => small_ff hZ hfin (by rw [hm]; exact f0) (by rw [← hO]; exact h) (by rw [hm, ← hO, hy]; cases s <;> simp)
  have o1 : 2 * x < O → pd < pu := fun h => near_halves hZ (by rw [← hO]; exact xy) (by rw [← hO]; exact h) (ffx (by omega)) nd nu
  have o2 : 2 * y < O → pu < pd := fun h => near_halves hZ (by rw [← hO, Nat.add_comm]; exact xy) (by rw [← hO]; exact h) (ffy (by omega)) nu nd
  have o3 : x = y → pd = pu := fun h => near_unique (by omega) (by omega) nd nu (by rw [h])
  have tl := whole_lt hZ hfin (by rw [hm]; exact f0)
  rw [hV, ht] at tl
  obtain ⟨hf', e3, i3⟩ := half_ev' (s := s) hZ hl (T := t + s.toNat) (by have := Bool.toNat_le s; omega) ul
  have b1 : abacuslaw06_below.f (put false pu) (put false pd) = some (decide (pu < pd)) := by
    rw [below_put pui pdi]; congr 1; exact decide_eq_decide.2 (by unfold sv; simp)
  have b2 : abacuslaw06_below.f (put false pd) (put false pu) = some (decide (pd < pu)) := by
    rw [below_put pdi pui]; congr 1; exact decide_eq_decide.2 (by unfold sv; simp)
  have hi (h : nearR s t (rst f O) = !s) : Ev (fun n _ _ => abacuslaw06_RemainFloors.l262143 n d cut (put s ph)) true := by
    rw [← hO, h, hO, ← uh] at un
    rw [← uni_inj un]
    exact last_ev h1 h2
  have lo (h : nearR s t (rst f O) = s) : Ev (fun n _ _ => abacuslaw06_RemainFloors.l262143 n d cut (put s pl)) true := by
    rw [← hO, h, hO, ← ul] at un
    rw [← uni_inj un]
    exact last_ev h1 h2
  refine Ev.bind e1 (Ev.bind e2 (Ev.bind e3 (Ev_bind_eq b1 ?_)))
  by_cases q1 : 2 * y < O
  · refine Ev_pos (decide_eq_true (o2 q1)) (hi ?_)
    cases s with
    | false =>
      simp only [Bool.false_eq_true, if_false] at hy
      rw [rst_high f0 (by omega)]; rfl
    | true =>
      simp only [if_true] at hy
      rw [rst_low f0 (by omega)]; rfl
  by_cases q2 : 2 * x < O
  · refine Ev_neg (by have := o1 q2; rw [decide_eq_false (by omega)]; simp) (Ev_bind_eq b2 (Ev_neg (by rw [decide_eq_true (o1 q2)]; simp) (lo ?_)))
    cases s with
    | false =>
      simp only [Bool.false_eq_true, if_false] at hx
      rw [rst_low f0 (by omega)]; rfl
    | true =>
      simp only [if_true] at hx
      rw [rst_high f0 (by omega)]; rfl
  · have hxy : x = y := by omega
    have hpd := o3 hxy
    have hf2 : 2 * f = O := by revert hx; cases s <;> simp <;> omega
    have hr : nearR s t (rst f O) = decide (t % 2 = 1) := by
      rw [rst_half f0 hf2]; rfl
    refine Ev_neg (by rw [hpd, decide_eq_false (by omega)]; simp) (Ev_bind_eq b2 (Ev_pos (by rw [hpd, decide_eq_false (by omega)]; rfl) (Ev_bind_eq i3 ?_)))
    by_cases q3 : (t + s.toNat) % 2 = 0
    · rw [decide_eq_true q3]
      refine Ev_neg (by simp) (lo ?_)
      rw [hr]
      cases s with
      | false => exact decide_eq_false (by simp at q3; omega)
      | true => exact decide_eq_true (by simp at q3; omega)
    · rw [decide_eq_false q3]
      refine Ev_pos rfl (hi ?_)
      rw [hr]
      cases s with
      | false => exact decide_eq_true (by simp at q3; omega)
      | true => exact decide_eq_false (by simp at q3; omega)
theorem RemainFloors {d : Int} (hd : U d) : ∃ k, abacuslaw06_RemainFloors.f k d = some true := by
  refine Ev.rounds ?_
  obtain ⟨Z, hZ⟩ : ∃ Z, Z = 1074 := ⟨_, rfl⟩
  simp only [abacuslaw06_RemainFloors.f, abacuslaw06_RemainFloors.b0]
  refine Ev.bind awake_ev (Ev_neg (by simp) ?_)
  have hfi : abacuslaw06_finite.f d = some (decide (fin d)) := by
    unfold abacuslaw06_finite.f abacuslaw06_finite.b0
    rw [tmod_pos hd]
    exact congrArg some (decide_eq_decide.2 (by rw [plc_fin]; unfold inf; omega))
  refine Ev_bind_eq hfi ?_
  by_cases hf : fin d
  · rw [decide_eq_true hf]
    refine Ev_neg (by simp) ?_
    obtain ⟨lo, ef, rf⟩ := Floor_ev hd hZ
    obtain ⟨hi, ec, rc⟩ := Ceil_ev hd hZ
    obtain ⟨tr, et, rt⟩ := Trunc_ev hd hZ
    obtain ⟨ne, en, rn⟩ := Near_ev hd hZ
    unfold CutR at rf rc rt rn
    rw [if_pos hf] at rf rc rt rn
    have c34 := fun h => cls_fin.1 h hf
    have pd := (plc_put hd (fun h => c34 (by omega))).1
    have pf := plc_fin.1 hf
    obtain ⟨s, hs⟩ : ∃ s, sgn d = s := ⟨_, rfl⟩
    obtain ⟨V, hV⟩ : ∃ V, uni (plc d) = V := ⟨_, rfl⟩
    obtain ⟨t, ht⟩ : ∃ t, V / 2 ^ Z = t := ⟨_, rfl⟩
    obtain ⟨f, hfr⟩ : ∃ f, V % 2 ^ Z = f := ⟨_, rfl⟩
    rw [hs, hV, ht, hfr] at rf rc rt rn
    rw [hs] at pd
    obtain ⟨pl, rfl, hl, ul⟩ := rf
    obtain ⟨ph, rfl, hh, uh⟩ := rc
    obtain ⟨pt, rfl, hpt, ut⟩ := rt
    obtain ⟨pn, rfl, hpn, un⟩ := rn
    have idd : ieee_Integral.f d = some (decide (V % 2 ^ Z = 0)) := by
      have := integral_put (s := s) hZ pf hV
      rwa [← pd] at this
    have i1 : ieee_Integral.f (put s pl) = some true := by rw [integral_put hZ hl ul, decide_eq_true (Nat.mul_mod_left _ _)]
    have i2 : ieee_Integral.f (put s ph) = some true := by rw [integral_put hZ hh uh, decide_eq_true (Nat.mul_mod_left _ _)]
    have pO : 0 < 2 ^ Z := Nat.pow_pos (by omega)
    have hVd : V = t * 2 ^ Z + f := by rw [← ht, ← hfr, Nat.mul_comm]; exact (Nat.div_add_mod _ _).symm
    by_cases f0 : f = 0
    · subst f0
      rw [up_zero] at ul uh ut un
      have back {p : Nat} (h : uni p = (t + false.toNat) * 2 ^ Z) : put s p = d := by
        have h5 : uni p = uni (plc d) := by rw [h, hV, hVd]; rfl
        rw [uni_inj h5]; exact pd.symm
      rw [back ul] at ef i1
      rw [back uh] at ec i2
      rw [back ut] at et
      rw [back un] at en
      have m1 : abacuslaw06_atMost.f d d = some true := by
        have := atMost_put (s := s) (t := s) (Nat.le_of_lt pf) (Nat.le_of_lt pf)
        rw [← pd] at this
        rw [this, decide_eq_true (Int.le_refl _)]
      rw [hfr, decide_eq_true rfl] at idd
      exact Ev.bind ef (Ev.bind ec (Ev_bind_eq i1 (Ev_neg (by simp) (Ev_bind_eq i2 (Ev_neg (by simp) (Ev_bind_eq m1 (Ev_neg (by simp) (Ev_bind_eq m1 (Ev_neg (by simp) (Ev_bind_eq idd (Ev_pos rfl (Ev_pos rfl (Ev_pos rfl (Ev.bind et (Ev_pos rfl (Ev.bind en (Ev_some (decide_eq_true rfl))))))))))))))))))
    · rw [up_pos _ _ _ _ f0] at ul uh ut un
      have fO : f < 2 ^ Z := by rw [← hfr]; exact Nat.mod_lt _ pO
      obtain ⟨u1, v1, s1⟩ := put_U (s := s) (Nat.le_of_lt hl)
      obtain ⟨u2, v2, s2⟩ := put_U (s := s) (Nat.le_of_lt hh)
      have fl : fin (put s pl) := plc_fin.2 (by rw [v1]; exact hl)
      have hdle {a b : Nat} (h : uni a ≤ uni b) : a ≤ b := uni_le_iff.1 h
      have m1 : abacuslaw06_atMost.f (put s pl) d = some true := by
        have := atMost_put (s := s) (t := s) (Nat.le_of_lt hl) (Nat.le_of_lt pf)
        rw [← pd] at this
        rw [this]
        congr 1
        refine decide_eq_true ?_
        cases s with
        | false =>
          have : pl ≤ plc d := hdle (by rw [ul, hV, hVd]; exact Nat.le_add_right _ _)
          unfold sv; simp; omega
        | true =>
          have : plc d ≤ pl := hdle (by rw [ul, hV, hVd, Bool.toNat_true, mul_succ']; omega)
          unfold sv; simp; omega
      have m2 : abacuslaw06_atMost.f d (put s ph) = some true := by
        have := atMost_put (s := s) (t := s) (Nat.le_of_lt pf) (Nat.le_of_lt hh)
        rw [← pd] at this
        rw [this]
        congr 1
        refine decide_eq_true ?_
        cases s with
        | false =>
          have : plc d ≤ ph := hdle (by rw [uh, hV, hVd, Bool.not_false, Bool.toNat_true, mul_succ']; omega)
          unfold sv; simp; omega
        | true =>
          have : ph ≤ plc d := hdle (by rw [uh, hV, hVd]; exact Nat.le_add_right _ _)
          unfold sv; simp; omega
      have one := uni_one_ hZ
      have U1 : U 4607182418800017408 := ⟨by omega, by omega⟩
      obtain ⟨st, e1, r1⟩ := Add_ev u1 U1 fl (show fin 4607182418800017408 by unfold fin; omega)
      have hv : sval (put s pl) + sval 4607182418800017408 = sv s (uni ph) := by
        rw [sval, sval, s1, v1, show plc 4607182418800017408 = 4607182418800017408 from rfl, one, ul, uh]
        rw [show sgn 4607182418800017408 = false from rfl]
        cases s with
        | false => unfold sv; simp only [Bool.false_eq_true, if_false, Bool.toNat_false, Bool.not_false, Bool.toNat_true, Nat.add_zero, mul_succ']; omega
        | true => unfold sv; simp only [Bool.false_eq_true, if_true, if_false, Bool.toNat_true, Bool.not_true, Bool.toNat_false, Nat.add_zero, mul_succ']; omega
      rw [hv] at r1
      obtain ⟨x1, x2, x3⟩ := rd_exact r1 (Nat.le_of_lt hh) (Go.Proofs.YtjmcfampoajbmaaDoor.Soft1.sv_abs _ _)
      rw [x1] at x3
      have stp : st = put (sgn st) ph := by
        have h4 : cls st ≠ 4 := fun k => by have := (@cls_plc st).1.1 k; rw [x1] at this; unfold inf at hh; omega
        have := (plc_put x2 h4).1
        rwa [x1] at this
      have hc : ieee_Compare.f st (put s ph) = some (0, true) := by
        have h6 : ieee_Compare.f (put (sgn st) ph) (put s ph) = some (0, true) := by
          rw [comp_put (Nat.le_of_lt hh) (Nat.le_of_lt hh)]
          have h7 : sv (sgn st) ph = sv s ph := by
            rcases sv_same x3 with h | h
            · rw [h]
            · have : ph = 0 := uni_inj (by rw [h]; rfl)
              rw [this, Go.Proofs.YtjmcfampoajbmaaDoor.Soft1.sv_zero, Go.Proofs.YtjmcfampoajbmaaDoor.Soft1.sv_zero]
          rw [h7]
          unfold ord
          rw [if_neg (by omega), if_neg (by omega)]
        rwa [← stp] at h6
      rw [hfr, decide_eq_false f0] at idd
      refine Ev.bind ef (Ev.bind ec (Ev_bind_eq i1 (Ev_neg (by simp) (Ev_bind_eq i2 (Ev_neg (by simp) (Ev_bind_eq m1 (Ev_neg (by simp) (Ev_bind_eq m2 (Ev_neg (by simp) (Ev_bind_eq idd (Ev_neg (by simp) (Ev.bind e1 (Ev_bind_eq hc (Ev_neg (by simp) (Ev_neg (by rw [top_bit u1, top_bit hd, s1, hs]; simp) (Ev_neg (by rw [top_bit u2, top_bit hd, s2, hs]; simp) ?_))))))))))))))))
      have hsd := hs
      unfold sgn at hsd
      have cutp {p : Nat} (h : uni p = t * 2 ^ Z) : put s pt = put s p := by
        have h5 : uni pt = uni p := by rw [ut, h]; rfl
        rw [uni_inj h5]
      cases hsb : s with
      | true =>
        rw [hsb] at hsd
        refine Ev_pos (of_decide_eq_true hsd) ?_
        have := mid_ev hZ hd hf hs hV ht hfr f0 hl hh ul uh un et en
        rwa [cutp (by rw [uh, hsb]; rfl), hsb] at this
      | false =>
        rw [hsb] at hsd
        refine Ev_neg (of_decide_eq_false hsd) ?_
        have := mid_ev hZ hd hf hs hV ht hfr f0 hl hh ul uh un et en
        rwa [cutp (by rw [ul, hsb]; rfl), hsb] at this
  · rw [decide_eq_false hf]
    exact Ev_pos rfl (Ev.bind (bearers_ev hd hf) (Ev.now _))
end Go.Proofs.YtjmcfampoajbmaaDoor.Pure
