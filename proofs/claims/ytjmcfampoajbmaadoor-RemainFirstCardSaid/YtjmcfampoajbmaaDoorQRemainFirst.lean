/- The powers 0, 1, 2 and -1 are 1, x, the product and the quotient; powers of 2 are Scale's; Pow is Power; a negative x changes the sign of odd powers alone. No conditions. -/
import Derived.Test.YtjmcfampoajbmaaDoorQRemPower
import Derived.Test.YtjmcfampoajbmaaDoorQSoftTot
namespace Go.Proofs.YtjmcfampoajbmaaDoor.Pure
open Go.RowKit Go.Proofs.YtjmcfampoajbmaaDoor.Lib Go.Proofs.YtjmcfampoajbmaaDoor.LibB Go.Proofs.YtjmcfampoajbmaaDoor.F Go.Proofs.YtjmcfampoajbmaaDoor.Nat1 Go.Proofs.YtjmcfampoajbmaaDoor.Nat2 Go.Proofs.YtjmcfampoajbmaaDoor.Bits Go.Proofs.YtjmcfampoajbmaaDoor.Div Go.Proofs.YtjmcfampoajbmaaDoor.Quot1 Go.Proofs.YtjmcfampoajbmaaDoor.Ieee1 Go.Proofs.YtjmcfampoajbmaaDoor.Mag Go.Proofs.YtjmcfampoajbmaaDoor.Ieee2 Go.Proofs.YtjmcfampoajbmaaDoor.Rnd Go.Proofs.YtjmcfampoajbmaaDoor.Rn
open Go.Proofs.YtjmcfampoajbmaaDoorA (rd ln ln_eq mx mn shl shr wr wr_eq)
open Go.Proofs.YtjmcfampoajbmaaDoor.SoftTot (MulR DivR Mul_tot Div_tot)
set_option linter.unusedVariables false
set_option linter.unusedSimpArgs false
theorem inf_put' {d : Int} (h : U d) (hc : cls d = 3) : d = put (sgn d) inf := by
  have h1 := (plc_put h (by omega)).1
  have h2 := (@cls_plc d).2.1.1 hc
  rw [show plc d = inf by unfold inf; omega] at h1
  exact h1
theorem uni_pow {Z E : Nat} (hE : E ≤ 2000) (hZ : Z = 52 + E) {p : Nat} (hp : p = E * 4503599627370496 + 4503599627370496) : uni p = 2 ^ Z := by
  have h := uni_at (k := E) (c := 4503599627370496) (.inr (Nat.le_refl _)) (by omega)
  rw [hp, h, hZ, Nat.pow_add]
theorem uni_one' {K : Nat} (hK : K = 1074) : uni 4607182418800017408 = 2 ^ K := uni_pow (E := 1022) (by omega) (by omega) (by omega)
theorem uni_two' {K : Nat} (hK : K = 1074) : uni 4611686018427387904 = 2 ^ (K + 1) := uni_pow (E := 1023) (by omega) (by omega) (by omega)
theorem PowR.unique {K : Nat} {x n d d' : Int} (h : PowR K x n d) (k : PowR K x n d') : d = d' := by
  unfold PowR at h k
  split at h
  · rw [if_pos (by assumption)] at k; rw [h, k]
  · rw [if_neg (by assumption)] at k
    split at h
    · rw [if_pos (by assumption)] at k; rw [h, k]
    · rw [if_neg (by assumption)] at k
      obtain ⟨p, rfl, _, h2⟩ := h
      obtain ⟨q, rfl, _, k2⟩ := k
      have pV : 0 < uni (plc x) ^ n.natAbs := by
        refine Nat.pow_pos ?_
        have c0 := (@cls_plc x).2.2.1
        have : 0 < plc x := Nat.pos_of_ne_zero fun h => by have := c0.2 h; omega
        have := uni_smono this
        rwa [uni_zero] at this
      split at h2
      · rw [if_pos (by assumption)] at k2
        rw [near_unique (Nat.pow_pos (by omega)) (Nat.pow_pos (by omega)) h2 k2 rfl]
      · rw [if_neg (by assumption)] at k2
        rw [near_unique pV pV h2 k2 rfl]
theorem pow_two {K : Nat} {x d e : Int} (h : PowR K x 2 d) (k : MulR K x x e) : d = e := by
  unfold PowR at h
  unfold MulR at k
  have o2 : odd 2 = false := by decide
  have hs : (sgn x != sgn x) = false := by cases sgn x <;> rfl
  rw [o2, Bool.and_false] at h
  rw [hs] at k
  by_cases c4 : cls x = 4
  · rw [if_pos c4] at h; rw [if_pos (.inl c4)] at k; rw [h, k]
  rw [if_neg c4] at h
  rw [if_neg (by omega), if_neg (by omega)] at k
  obtain ⟨p, rfl, k⟩ := k
  by_cases c3 : cls x = 3
  · rw [if_pos (.inl c3), if_pos (by rw [c3]; rfl)] at h
    rw [if_pos (.inl c3)] at k
    rw [h, k]
  rw [if_neg (by omega)] at k
  by_cases c0 : cls x = 0
  · rw [if_pos (.inr c0), if_neg (by rw [c0]; decide)] at h
    rw [(@cls_plc x).2.2.1.1 c0, uni_zero, Nat.zero_mul] at k
    have := near_exact (p := 0) (Y := 2 ^ K) (Nat.pow_pos (by omega)) (by unfold inf; omega)
    rw [uni_zero, Nat.zero_mul] at this
    rw [h, near_unique (Nat.pow_pos (by omega)) (Nat.pow_pos (by omega)) k this rfl]
  · rw [if_neg (by omega)] at h
    obtain ⟨q, rfl, _, h⟩ := h
    rw [if_pos (by omega)] at h
    rw [near_unique (Nat.pow_pos (by omega)) (Nat.pow_pos (by omega)) h k (by
      rw [show (2 : Int).natAbs = 2 from rfl, Nat.pow_two, Nat.mul_assoc, ← Nat.pow_add, show K + K = K * 2 by omega])]
theorem pow_under {K : Nat} (hK : K = 1074) {x d e : Int} (h : PowR K x (-1) d) (k : DivR K 4607182418800017408 x e) : d = e := by
  unfold PowR at h
  unfold DivR at k
  have o2 : odd (-1) = true := by decide
  have c1 : cls 4607182418800017408 = 2 := by decide
  have s1 : sgn 4607182418800017408 = false := by decide
  have hs : (false != sgn x) = sgn x := by cases sgn x <;> rfl
  rw [o2, Bool.and_true] at h
  rw [s1, hs, c1, show plc 4607182418800017408 = 4607182418800017408 from rfl, uni_one' hK] at k
  by_cases c4 : cls x = 4
  · rw [if_pos c4] at h; rw [if_pos (.inr c4)] at k; rw [h, k]
  rw [if_neg c4] at h
  rw [if_neg (by omega), if_neg (by omega)] at k
  obtain ⟨p, rfl, k⟩ := k
  by_cases c3 : cls x = 3
  · rw [if_pos (.inl c3), if_neg (by rw [c3]; decide)] at h
    rw [if_neg (by omega), if_pos (.inr c3)] at k
    rw [h, k]
  by_cases c0 : cls x = 0
  · rw [if_pos (.inr c0), if_pos (by rw [c0]; decide)] at h
    rw [if_pos (.inr c0)] at k
    rw [h, k]
  · rw [if_neg (by omega)] at h
    rw [if_neg (by omega), if_neg (by omega)] at k
    obtain ⟨q, rfl, _, h⟩ := h
    rw [if_neg (by omega)] at h
    have pV : 0 < uni (plc x) := by
      have : 0 < plc x := Nat.pos_of_ne_zero fun h => by have := (@cls_plc x).2.2.1.2 h; omega
      have := uni_smono this
      rwa [uni_zero] at this
    rw [show (-1 : Int).natAbs = 1 from rfl, Nat.pow_one, Nat.mul_one, Nat.pow_add] at h
    rw [near_unique pV pV h k rfl]
theorem pow_one' {K : Nat} {x d : Int} (hx : U x) (h : PowR K x 1 d) : d = if cls x = 4 then 9221120237041090560 else x := by
  unfold PowR at h
  have o2 : odd 1 = true := by decide
  rw [o2, Bool.and_true] at h
  by_cases c4 : cls x = 4
  · rw [if_pos c4] at h; rw [if_pos c4, h]
  rw [if_neg c4] at h
  rw [if_neg c4]
  by_cases c3 : cls x = 3
  · rw [if_pos (.inl c3), if_pos (by rw [c3]; rfl)] at h
    rw [h]; exact (inf_put' hx c3).symm
  have hp := (plc_put hx c4)
  by_cases c0 : cls x = 0
  · rw [if_pos (.inr c0), if_neg (by rw [c0]; decide)] at h
    have h1 := hp.1
    rw [(@cls_plc x).2.2.1.1 c0] at h1
    rw [h]; exact h1.symm
  · rw [if_neg (by omega)] at h
    obtain ⟨q, rfl, _, h⟩ := h
    rw [if_pos (by omega), show (1 : Int).natAbs = 1 from rfl, Nat.pow_one, Nat.mul_one] at h
    rw [near_unique (Nat.pow_pos (by omega)) (Nat.pow_pos (by omega)) h (near_exact (Nat.pow_pos (by omega)) hp.2) rfl]
    exact hp.1.symm
theorem cls_two : cls 4611686018427387904 = 2 := by decide
theorem pow_scale {K : Nat} (hK : K = 1074) {n : Int} {r : Int × Int} {t : Int} (hn : -1024 ≤ n ∧ n ≤ 1024) (h : PowerR K 4611686018427387904 n r) (k : ScaleR 4607182418800017408 n t) : r.1 = t ∧ r.2 = 0 := by
  unfold PowerR at h
  unfold ScaleR at k
  have c1 : cls 4607182418800017408 = 2 := by decide
  have s1 : sgn 4607182418800017408 = false := by decide
  rw [if_neg (by omega)] at h
  rw [if_neg (by omega), if_neg (by omega)] at k
  obtain ⟨p, a, b, rfl, hab, hp, hN⟩ := k
  rw [s1]
  rw [show clip n = n by unfold clip; rw [if_neg (by omega), if_neg (by omega)]] at hab
  rw [show plc 4607182418800017408 = 4607182418800017408 from rfl, uni_one' hK, ← Nat.pow_add] at hN
  by_cases h0 : n = 0
  · rw [if_pos h0] at h
    rw [h]
    refine ⟨?_, rfl⟩
    have hx := near_exact (p := 4607182418800017408) (Y := 1) (by omega) (by unfold inf; omega)
    rw [uni_one' hK, Nat.mul_one] at hx
    have hba : a = b := by omega
    rw [near_unique (Nat.pow_pos (by omega)) (by omega) hN hx (by rw [hba, Nat.mul_one, Nat.pow_add])]
    rfl
  · rw [if_neg h0] at h
    obtain ⟨h1, h2⟩ := h
    refine ⟨?_, h1⟩
    unfold PowR at h2
    rw [cls_two, if_neg (by omega), if_neg (by omega), show sgn 4611686018427387904 = false by decide, Bool.false_and, show plc 4611686018427387904 = 4611686018427387904 from rfl, uni_two' hK] at h2
    obtain ⟨q, e, _, h2⟩ := h2
    rw [e]
    obtain ⟨m, hm⟩ : ∃ m, n.natAbs = m := ⟨_, rfl⟩
    rw [hm] at h2
    have e1 : (K + 1) * m = K * m + m := Nat.succ_mul K m
    by_cases hpos : n > 0
    · rw [if_pos hpos, ← Nat.pow_mul, ← Nat.pow_add] at h2
      rw [near_unique (Nat.pow_pos (by omega)) (Nat.pow_pos (by omega)) h2 hN (by
        rw [← Nat.pow_add, ← Nat.pow_add]
        congr 1
        omega)]
    · rw [if_neg hpos, ← Nat.pow_mul] at h2
      rw [near_unique (Nat.pow_pos (by omega)) (Nat.pow_pos (by omega)) h2 hN (by
        rw [← Nat.pow_add, ← Nat.pow_add]
        congr 1
        omega)]
theorem neg_put {s : Bool} {p : Nat} (hp : p ≤ inf) : neg (put s p) = put (!s) p := by
  unfold inf at hp
  unfold neg put
  cases s with
  | true => simp only [if_true, Bool.not_true, Bool.false_eq_true, if_false]; rw [if_neg (by omega)]; omega
  | false => simp only [if_true, Bool.not_false, Bool.false_eq_true, if_false]; rw [if_pos (by omega)]
theorem neg_same {x : Int} (hx : U x) : sgn (neg x) = !sgn x ∧ plc (neg x) = plc x ∧ cls (neg x) = cls x := by
  have h1 := hx.1
  have h2 := hx.2
  have h3 : (neg x) % 9223372036854775808 = x % 9223372036854775808 := by unfold neg; split <;> omega
  refine ⟨?_, by unfold plc; rw [h3], by unfold cls; simp only [h3]⟩
  unfold sgn neg
  by_cases h : x < 9223372036854775808
  · rw [if_pos h, decide_eq_true (by omega), decide_eq_false (by omega)]; rfl
  · rw [if_neg h, decide_eq_false (by omega), decide_eq_true (by omega)]; rfl
/-- What the opposite's power is, its sign turned where the exponent is odd. -/
theorem pow_turned {K : Nat} {x n d e : Int} (hx : U x) (h : PowR K x n d) (k : PowR K (neg x) n e) :
    (cls x = 4 → d = 9221120237041090560 ∧ e = 9221120237041090560) ∧ (cls x ≠ 4 → d ≠ 9221120237041090560 ∧ U e ∧ (if odd n then neg e else e) = d) := by
  obtain ⟨s1, p1, c1⟩ := neg_same hx
  have hni (s : Bool) {p : Nat} (hp : p ≤ inf) : put s p ≠ 9221120237041090560 := by unfold inf at hp; unfold put; cases s <;> simp <;> omega
  have turn {p : Nat} (hp : p ≤ inf) : (if odd n then neg (put (!sgn x && odd n) p) else put (!sgn x && odd n) p) = put (sgn x && odd n) p := by
    cases ho : odd n with
    | true => rw [if_pos rfl, Bool.and_true, Bool.and_true, neg_put hp, Bool.not_not]
    | false => rw [if_neg (by simp), Bool.and_false, Bool.and_false]
  unfold PowR at h k
  rw [s1, p1, c1] at k
  refine ⟨fun c4 => ?_, fun c4 => ?_⟩
  · rw [if_pos c4] at h k; exact ⟨h, k⟩
  rw [if_neg c4] at h k
  by_cases c3 : cls x = 3 ∨ cls x = 0
  · rw [if_pos c3] at h k
    have hq : (if decide (cls x = 3) = decide (n > 0) then inf else 0) ≤ inf := by split <;> omega
    rw [h, k]
    exact ⟨hni _ hq, (put_U hq).1, turn hq⟩
  · rw [if_neg c3] at h k
    obtain ⟨p, rfl, hp, h⟩ := h
    obtain ⟨q, rfl, hq, k⟩ := k
    have pV : 0 < uni (plc x) ^ n.natAbs := by
      refine Nat.pow_pos ?_
      have : 0 < plc x := Nat.pos_of_ne_zero fun h => by have := (@cls_plc x).2.2.1.2 h; omega
      have := uni_smono this
      rwa [uni_zero] at this
    have e1 : p = q := by
      split at h
      · rw [if_pos (by assumption)] at k; exact near_unique (Nat.pow_pos (by omega)) (Nat.pow_pos (by omega)) h k rfl
      · rw [if_neg (by assumption)] at k; exact near_unique pV pV h k rfl
    subst e1
    exact ⟨hni _ hp, (put_U hp).1, turn hp⟩
/-! ### Pow -/
theorem toInt_cases (s : Bool) (t : Nat) : toInt s t = ((t : Int), 0) ∨ toInt s t = (-(t : Int), 0) ∨ toInt s t = (0, 41) := by
  unfold toInt
  split
  · exact .inl rfl
  · split
    · exact .inr (.inl rfl)
    · exact .inr (.inr rfl)
theorem pow_call {x n : Int} {K : Nat} (hK : K = 1074) (hx : U x) (hn : -9223372036854775808 ≤ n ∧ n < 9223372036854775808) {r : Int × Int} (hr : Ev (fun k _ _ => remain_Power.f k x n) r) (h : PowerR K x n r) :
    ∃ y, Ev (fun k _ _ => ieee_FromInt.f k n) y ∧ Ev (fun k _ _ => remain_Pow.f k x y) r := by
  have hf := FromInt_ev hn.1 hn.2
  refine ⟨_, hf, ?_⟩
  obtain ⟨p, hp⟩ : ∃ p, p = rnd n.natAbs 0 false := ⟨_, rfl⟩
  rw [← hp]
  have hpi : p ≤ inf := by rw [hp]; exact rnd_le_inf _ _
  obtain ⟨u, e, s⟩ := put_U (s := decide (n < 0)) hpi
  have hN := rnd_near n.natAbs 0 (a := K) (b := 0) (by omega)
  rw [← hp, Nat.pow_zero] at hN
  simp only [remain_Pow.f, remain_Pow.b0]
  have hI := Integral_eq u
  have hT := ToInt_ev u
  rw [s] at hT
  by_cases hb : n < -1024 ∨ n > 1024
  · unfold PowerR at h
    rw [if_pos hb] at h
    subst h
    refine Ev_bind_eq hI ?_
    by_cases hi : fin (put (decide (n < 0)) p) ∧ uni (plc (put (decide (n < 0)) p)) % 2 ^ 1074 = 0
    · rw [decide_eq_true hi]
      rw [if_pos hi.1] at hT
      refine Ev_neg (by simp) (Ev.bind hT ?_)
      have ht : 1025 ≤ trunc (put (decide (n < 0)) p) := by
        unfold trunc
        rw [e, ← hK]
        obtain ⟨q, hq, eq⟩ := uni_rep K 1025 (by omega) (by omega)
        have hx := near_exact (p := q) (Y := 1) (by omega) hq
        rw [Nat.mul_one, eq] at hx
        have := near_mono (by omega) (by omega) hx hN (by rw [Nat.mul_one, Nat.mul_one]; exact Nat.mul_le_mul_right _ (by omega))
        have := uni_mono this
        rw [eq] at this
        exact (Nat.le_div_iff_mul_le (Nat.pow_pos (by omega))).2 this
      generalize trunc (put (decide (n < 0)) p) = t at ht ⊢
      rcases toInt_cases (decide (n < 0)) t with h | h | h
      · rw [h]
        exact Ev_neg (fun k => k rfl) (Ev_neg (show ¬ (t : Int) < -1024 by omega) (Ev_pos (show (t : Int) > 1024 by omega) (Ev.now _)))
      · rw [h]
        exact Ev_neg (fun k => k rfl) (Ev_pos (show -(t : Int) < -1024 by omega) (Ev.now _))
      · rw [h]
        exact Ev_pos (show ¬ (41 : Int) = 0 by omega) (Ev.now _)
    · rw [decide_eq_false hi]
      exact Ev_pos rfl (Ev.now _)
  · have hx1 := rnd_exact (n := n.natAbs) (e := 0) (by omega) (by omega)
    rw [← hp, show ((0 : Int) + 1074).toNat = K by omega] at hx1
    have hf : fin (put (decide (n < 0)) p) := plc_fin.2 (by rw [e]; exact hx1.2)
    have hi : uni (plc (put (decide (n < 0)) p)) % 2 ^ 1074 = 0 := by rw [e, hx1.1, ← hK]; exact Nat.mul_mod_left _ _
    have ht : trunc (put (decide (n < 0)) p) = n.natAbs := by
      unfold trunc
      rw [e, hx1.1, ← hK]
      exact Nat.mul_div_cancel _ (Nat.pow_pos (by omega))
    rw [if_pos hf, ht] at hT
    have hti : toInt (decide (n < 0)) n.natAbs = (n, 0) := by
      unfold toInt
      by_cases hneg : n < 0
      · rw [decide_eq_true hneg, if_neg (by simp), if_pos ⟨by omega, rfl⟩, show -(n.natAbs : Int) = n by omega]
      · rw [decide_eq_false hneg, if_pos ⟨by omega, rfl⟩, show (n.natAbs : Int) = n by omega]
    rw [hti] at hT
    rw [decide_eq_true (p := fin (put (decide (n < 0)) p) ∧ uni (plc (put (decide (n < 0)) p)) % 2 ^ 1074 = 0) ⟨hf, hi⟩] at hI
    refine Ev_bind_eq hI (Ev_neg (by simp) (Ev.bind hT (Ev_neg (fun k => k rfl) (Ev_neg (show ¬ n < -1024 by omega) (Ev_neg (show ¬ n > 1024 by omega) (Ev.bind hr (Ev.now _)))))))
theorem RemainFirst {x n : Int} (hx : U x) (hn : -9223372036854775808 ≤ n ∧ n < 9223372036854775808) : ∃ k, abacuslaw06_RemainFirst.f k x n = some true := by
  refine Ev.rounds ?_
  obtain ⟨K, hK⟩ : ∃ K, K = 1074 := ⟨_, rfl⟩
  have U1 : U 4607182418800017408 := ⟨by omega, by omega⟩
  have U2 : U 4611686018427387904 := ⟨by omega, by omega⟩
  obtain ⟨r0, e0, q0⟩ := Power_ev (n := 0) hx hK
  obtain ⟨r1, e1, q1⟩ := Power_ev (n := 1) hx hK
  obtain ⟨r2, e2, q2⟩ := Power_ev (n := 2) hx hK
  obtain ⟨r3, e3, q3⟩ := Power_ev (n := -1) hx hK
  unfold PowerR at q0 q1 q2 q3
  rw [if_neg (by omega), if_pos rfl] at q0
  rw [if_neg (by omega), if_neg (by omega)] at q1 q2 q3
  obtain ⟨m, em, qm⟩ := Mul_tot (K := K) hK hx hx
  obtain ⟨v, ev, qv⟩ := Div_tot (K := K) hK U1 hx
  obtain ⟨rp, ep, qp⟩ := Power_ev (n := n) hx hK
  obtain ⟨y, ey, eq⟩ := pow_call hK hx hn ep qp
  obtain ⟨rb, eb, qb⟩ := Power_ev (n := n) U2 hK
  obtain ⟨rt, et, qt⟩ := Power_ev (n := n) (U_neg hx) hK
  obtain ⟨t, es, qs⟩ := Scale_ev (n := n) U1
  have h1 := pow_one' hx q1.2
  have h2 := pow_two q2.2 qm
  have h3 := pow_under hK q3.2 qv
  simp only [abacuslaw06_RemainFirst.f, abacuslaw06_RemainFirst.b0, tmod_pos hx]
  refine Ev.bind awake_ev (Ev_neg (by simp) (Ev.bind e0 (Ev.bind e1 (Ev.bind e2 (Ev.bind e3 ?_)))))
  refine Ev_neg (by rw [q0]; simp) (Ev_neg (by rw [q1.1]; simp) (Ev_neg (by rw [q2.1]; simp) (Ev_neg (by rw [q3.1]; simp) (Ev_neg (by rw [q0]; simp) (Ev.bind em (Ev_neg (by rw [h2]; simp) (Ev.bind ev (Ev_neg (by rw [h3]; simp) ?_))))))))
  have go (w : Int) (hw : r1.1 = w) : Ev (fun k _ _ => abacuslaw06_RemainFirst.l2047 k x n r1.1 w) true := by
    simp only [abacuslaw06_RemainFirst.l2047, abacuslaw06_RemainFirst.b2047]
    refine Ev.bind ep (Ev.bind ey (Ev.bind eq ?_))
    by_cases g1 : n > 1024
    · unfold PowerR at qp
      rw [if_pos (.inr g1)] at qp
      subst qp
      exact Ev_pos g1 (Ev_pos hw (Ev_pos rfl (Ev_pos rfl (Ev_pos rfl (Ev_some (decide_eq_true rfl))))))
    refine Ev_neg g1 ?_
    by_cases g2 : n < -1024
    · unfold PowerR at qp
      rw [if_pos (.inl g2)] at qp
      subst qp
      exact Ev_pos g2 (Ev_pos hw (Ev_pos rfl (Ev_pos rfl (Ev_pos rfl (Ev_some (decide_eq_true rfl))))))
    refine Ev_neg g2 (Ev.bind eb (Ev_bind_eq (Neg_eq hx) (Ev.bind et ?_)))
    obtain ⟨b1, b2⟩ := pow_scale hK (by omega) qb qs
    have fin_ (z : Int) (hz : z = rp.1) (p0 : rp.2 = 0) (t0 : rt.2 = 0) : Ev (fun k _ _ => abacuslaw06_RemainFirst.l131071 k n rp.2 r1.1 rp.2 rb.2 rt.2 w rp.1 rp.1 rb.1 z) true := by
      simp only [abacuslaw06_RemainFirst.l131071, abacuslaw06_RemainFirst.b131071]
      exact Ev_pos hw (Ev_pos p0 (Ev_pos p0 (Ev_pos b2 (Ev_pos t0 (Ev_pos (by first | rfl | trivial) (Ev.bind es (Ev_pos b1 (Ev_some (decide_eq_true hz)))))))))
    unfold PowerR at qp qt
    rw [if_neg (by omega)] at qp qt
    by_cases n0 : n = 0
    · rw [if_pos n0] at qp qt
      refine Ev_neg (by rw [n0]; decide) (fin_ _ (by rw [qp, qt]) (by rw [qp]) (by rw [qt]))
    · rw [if_neg n0] at qp qt
      obtain ⟨k1, k2⟩ := pow_turned hx qp.2 qt.2
      by_cases ho : ¬ Int.tmod n 2 = 0
      · refine Ev_pos ho ?_
        by_cases c4 : cls x = 4
        · obtain ⟨k3, k4⟩ := k1 c4
          exact Ev_neg (fun h => h k3) (fin_ _ (by rw [k3, k4]) qp.1 qt.1)
        · obtain ⟨k3, k4, k5⟩ := k2 c4
          rw [show odd n = true from decide_eq_true ho, if_pos rfl] at k5
          exact Ev_pos k3 (Ev_bind_eq (Neg_eq k4) (fin_ _ k5 qp.1 qt.1))
      · refine Ev_neg ho (fin_ _ ?_ qp.1 qt.1)
        by_cases c4 : cls x = 4
        · obtain ⟨k3, k4⟩ := k1 c4
          rw [k3, k4]
        · obtain ⟨k3, k4, k5⟩ := k2 c4
          rw [show odd n = false from decide_eq_false ho, if_neg (by simp)] at k5
          exact k5
  have c4 := (@cls_plc x).1
  by_cases h4 : cls x = 4
  · rw [if_pos h4] at h1
    exact Ev_pos (by have := c4.1 h4; omega) (go _ h1)
  · rw [if_neg h4] at h1
    exact Ev_neg (fun k => h4 (c4.2 (by omega))) (go _ h1)
end Go.Proofs.YtjmcfampoajbmaaDoor.Pure
