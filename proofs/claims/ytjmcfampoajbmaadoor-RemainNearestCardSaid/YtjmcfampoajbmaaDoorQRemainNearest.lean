/- The double that Power tells is the one nearest to the exact power, by whole numbers, for every input. No conditions. -/
import Derived.Test.YtjmcfampoajbmaaDoorQRemPower
namespace Go.Proofs.YtjmcfampoajbmaaDoor.Pure
open Go.RowKit Go.Proofs.YtjmcfampoajbmaaDoor.Lib Go.Proofs.YtjmcfampoajbmaaDoor.LibB Go.Proofs.YtjmcfampoajbmaaDoor.F Go.Proofs.YtjmcfampoajbmaaDoor.Nat1 Go.Proofs.YtjmcfampoajbmaaDoor.Nat2 Go.Proofs.YtjmcfampoajbmaaDoor.Bits Go.Proofs.YtjmcfampoajbmaaDoor.Div Go.Proofs.YtjmcfampoajbmaaDoor.Quot1 Go.Proofs.YtjmcfampoajbmaaDoor.Ieee1 Go.Proofs.YtjmcfampoajbmaaDoor.Mag Go.Proofs.YtjmcfampoajbmaaDoor.Ieee2 Go.Proofs.YtjmcfampoajbmaaDoor.Rnd Go.Proofs.YtjmcfampoajbmaaDoor.Rn
open Go.Proofs.YtjmcfampoajbmaaDoorA (rd ln ln_eq mx mn shl shr wr wr_eq)
open Go.Proofs.YtjmcfampoajbmaaDoor.Pow (quot_Pow_ev powAns mulAns_eq)
set_option linter.unusedVariables false
set_option linter.unusedSimpArgs false
/-- The middle above place q: M * 2^exp. -/
theorem middle_eq {q : Nat} (hq : q < inf) {K : Nat} (hK : K = 1075) : ∃ (M : Nat) (e : Int) (a : Nat), abacuslaw06_middle.f (q : Int) = some ([(M : Int)], e) ∧ M < 18446744073709551616 ∧ -1075 ≤ e ∧ e ≤ 1000 ∧ e + K = (a : Int) ∧ M * 2 ^ a = uni q + uni (q + 1) := by
  have hi : inf = 9218868437227405312 := rfl
  have u : U (q : Int) := ⟨by omega, by omega⟩
  have hp : plc (q : Int) = q := by unfold plc; omega
  have hf : fin (q : Int) := plc_fin.2 (by rw [hp]; exact hq)
  unfold abacuslaw06_middle.f abacuslaw06_middle.b0
  rw [Decode_eq u, Option.bind_some]
  obtain ⟨k, c, h1, h2, h3, h4, h5⟩ := place_parts q
  obtain ⟨c4, c3, c0, c2⟩ := @cls_plc (q : Int)
  rw [hp] at c4 c3 c0 c2
  by_cases q0 : q = 0
  · subst q0
    refine ⟨1, -1075, 0, ?_, by omega, by omega, by omega, by omega, ?_⟩
    · rw [if_pos (c0.2 rfl)]; rfl
    · rw [uni_zero, uni_one]
  · have hc0 : cls (q : Int) ≠ 0 := fun h => q0 (c0.1 h)
    have hme : manOf (q : Int) = (c : Int) ∧ expOf (q : Int) = (k : Int) - 1074 := by
      unfold manOf expOf
      by_cases hs : q < 4503599627370496
      · have e1 : cls (q : Int) = 1 := by unfold cls; rw [if_neg (by omega), if_pos (by omega)]
        rw [if_pos e1, if_pos e1]
        omega
      · have e1 : cls (q : Int) = 2 := c2.2 (by omega)
        rw [if_neg (by omega), if_pos e1, if_neg (by omega), if_pos e1]
        omega
    have e := exp_range hf
    refine ⟨2 * c + 1, (k : Int) - 1075, k, ?_, by omega, by omega, by omega, by omega, ?_⟩
    · rw [if_neg hc0, hme.1, hme.2]
      have w1 : IntKind.u64.wrap (IntKind.u64.wrap (2 * (c : Int)) + 1) = ((2 * c + 1 : Nat) : Int) := by rw [IntKind.wrap_u64, IntKind.wrap_u64]; omega
      have w2 : wrap64 ((k : Int) - 1074 - 1) = (k : Int) - 1075 := by unfold wrap64; omega
      rw [w1, w2]
    · rw [h4, h5, ← Nat.add_mul]
      congr 1
      omega
theorem lt_lim {x n : Nat} (h : x < 2 ^ n) (hn : n < 262144) : x < B 4096 := Nat.lt_trans h (Go.Proofs.YtjmcfampoajbmaaDoor.Ieee2.pow_lt_B (by omega))
theorem len_lim {n : Nat} (h : n < B 4096) : (lim n).length ≤ 4096 := (lim_len_le n 4096).2 h
theorem mul_pow_lt {x a b : Nat} (h : x < 2 ^ a) : x * 2 ^ b < 2 ^ (a + b) := by
  rw [Nat.pow_add]; exact Nat.mul_lt_mul_of_pos_right h (Nat.pow_pos (by omega))
theorem shl_ok {a n T : Nat} (h : a < 2 ^ T) (hn : T + n < 262144) : Ev (fun k _ _ => nat_Shl.f k (lim a) (n : Int)) (lim (a * 2 ^ n), 0) := by
  have ha : a < B 4096 := lt_lim h (by omega)
  have hs := nat_Shl_ev (a := lim a) (n := (n : Int)) (ok_lim _) (by have := len_lim ha; omega) (by omega)
  rwa [val_lim, shlAns_ok ha (lt_lim (mul_pow_lt h) hn) (by omega)] at hs
theorem cmp_scale {x y c : Nat} (hc : 0 < c) : cmp (x * c) (y * c) = cmp x y := by
  unfold cmp
  have e1 : x * c < y * c ↔ x < y := ⟨fun h => Nat.lt_of_mul_lt_mul_right h, fun h => Nat.mul_lt_mul_of_pos_right h hc⟩
  have e2 : y * c < x * c ↔ y < x := ⟨fun h => Nat.lt_of_mul_lt_mul_right h, fun h => Nat.mul_lt_mul_of_pos_right h hc⟩
  simp only [e1, e2]
/-- n / d held against M * 2^exp. -/
theorem against_ev {N D M T K a : Nat} {e : Int} (hT : T = 200000) (hK : K = 1075) (hM : M < 18446744073709551616) (hN : N < 2 ^ T) (hD : D < 2 ^ T) (he : -1075 ≤ e ∧ e ≤ 1000) (ha : e + K = (a : Int)) :
    Ev (fun k _ _ => abacuslaw06_against.f k (lim N) (lim D) [(M : Int)] e) (cmp (N * 2 ^ K) (M * 2 ^ a * D)) := by
  simp only [abacuslaw06_against.f, abacuslaw06_against.b0, abacuslaw06_against.l15, abacuslaw06_against.b15]
  have lD : D < B 4096 := lt_lim hD (by omega)
  have lN : N < B 4096 := lt_lim hN (by omega)
  have hMD : M * D < 2 ^ (T + 64) := by
    rw [Nat.pow_add, Nat.mul_comm M]
    exact Nat.lt_of_le_of_lt (Nat.mul_le_mul_left _ (Nat.le_of_lt hM)) (Nat.mul_lt_mul_of_pos_right hD (by omega))
  have lMD : M * D < B 4096 := lt_lim hMD (by omega)
  have hm := nat_Mul_ev (a := [(M : Int)]) (b := lim D) (ok_one hM) (ok_lim _) (by simp) (by have := len_lim lD; omega)
  rw [one_limb, val_lim, mulAns_eq (Go.Proofs.YtjmcfampoajbmaaDoor.Ieee2.small_limit hM) lD, ans, if_pos lMD] at hm
  have cmp_ev {x y : Nat} (hx : x < B 4096) (hy : y < B 4096) : Ev (fun k _ _ => nat_Cmp.f k (lim x) (lim y)) (cmp x y) := by
    have := nat_Cmp_ev (a := lim x) (b := lim y) (ok_lim _) (ok_lim _) (by have := len_lim hx; omega) (by have := len_lim hy; omega)
    rwa [val_lim, val_lim] at this
  by_cases h : e ≥ 0
  · obtain ⟨j, hj⟩ : ∃ j : Nat, e = (j : Int) := ⟨e.toNat, by omega⟩
    have e1 : M * 2 ^ a * D = M * D * 2 ^ j * 2 ^ K := by rw [show a = j + K by omega, Nat.pow_add]; simp only [Nat.mul_assoc, Nat.mul_comm, Nat.mul_left_comm]
    rw [e1, cmp_scale (Nat.pow_pos (by omega))]
    refine Ev.bind hm (Ev_pos h ?_)
    rw [hj]
    exact Ev.bind (shl_ok hMD (by omega)) (Ev.bind (cmp_ev lN (lt_lim (mul_pow_lt hMD) (by omega))) (Ev.now _))
  · obtain ⟨j, hj⟩ : ∃ j : Nat, -e = (j : Int) := ⟨(-e).toNat, by omega⟩
    have e1 : M * 2 ^ a * D = M * D * 2 ^ a := by simp only [Nat.mul_assoc, Nat.mul_comm, Nat.mul_left_comm]
    have e2 : N * 2 ^ K = N * 2 ^ j * 2 ^ a := by rw [show K = j + a by omega, Nat.pow_add, Nat.mul_assoc]
    rw [e1, e2, cmp_scale (Nat.pow_pos (by omega))]
    have w : wrap64 (-e) = (j : Int) := by rw [hj]; unfold wrap64; omega
    refine Ev.bind hm (Ev_neg h ?_)
    rw [w]
    exact Ev.bind (shl_ok hN (by omega)) (Ev.bind (cmp_ev (lt_lim (mul_pow_lt hN) (by omega)) lMD) (Ev.now _))
theorem tmod_two (p : Nat) : Int.tmod (p : Int) 2 = ((p % 2 : Nat) : Int) := by rw [Int.tmod_eq_emod_of_nonneg (by omega)]; omega
/-- Of a number that is nearest, 'nearest' says so. -/
theorem nearest_ev {p N D T K : Nat} (hT : T = 200000) (hK : K = 1075) (hN : N < 2 ^ T) (hD : D < 2 ^ T) (h : ∀ X, 2 * X = N * 2 ^ K → Near p X D) : Ev (fun k _ _ => abacuslaw06_nearest.f k (lim N) (lim D) (p : Int)) true := by
  have hX : 2 * (N * 2 ^ (K - 1)) = N * 2 ^ K := by
    rw [Nat.mul_left_comm, ← Nat.pow_succ']; congr 2; omega
  have h := h _ hX
  have hi : inf = 9218868437227405312 := rfl
  have htop := h.top
  simp only [abacuslaw06_nearest.f, abacuslaw06_nearest.b0, tmod_two]
  have tail : Ev (fun k _ _ => abacuslaw06_nearest.l15 k (lim N) (lim D) (p : Int) (decide (((p % 2 : Nat) : Int) = 0))) true := by
    simp only [abacuslaw06_nearest.l15, abacuslaw06_nearest.b15]
    by_cases hb : (p : Int) ≥ 9218868437227405312
    · exact Ev_pos hb (Ev_some (decide_eq_true (by omega)))
    · obtain ⟨M, e, a, h1, h2, h3, h4, h5, h6⟩ := middle_eq (q := p) (by omega) hK
      refine Ev_neg hb (Ev_bind_eq h1 (Ev.bind (against_ev hT hK h2 hN hD ⟨h3, h4⟩ h5) ?_))
      have hh := h.hi (by omega)
      have he := h.hie (by omega)
      rw [hX] at hh he
      rw [h6]
      by_cases heq : N * 2 ^ K = (uni p + uni (p + 1)) * D
      · rw [heq, cmp_self]
        exact Ev_neg (by omega) (Ev_pos rfl (Ev_some (decide_eq_true (by have := he heq; omega))))
      · rw [cmp_lt (show N * 2 ^ K < (uni p + uni (p + 1)) * D by omega)]
        exact Ev_pos (by omega) (Ev.now _)
  by_cases hp : (p : Int) > 0
  · have w : IntKind.u64.wrap ((p : Int) - 1) = ((p - 1 : Nat) : Int) := by rw [IntKind.wrap_u64]; omega
    rw [w]
    obtain ⟨M, e, a, h1, h2, h3, h4, h5, h6⟩ := middle_eq (q := p - 1) (by omega) hK
    refine Ev_pos hp (Ev_bind_eq h1 (Ev.bind (against_ev hT hK h2 hN hD ⟨h3, h4⟩ h5) ?_))
    have hl := h.lo (by omega)
    have he := h.loe (by omega)
    rw [hX] at hl he
    rw [show p - 1 + 1 = p by omega] at h6
    rw [h6]
    by_cases heq : (uni (p - 1) + uni p) * D = N * 2 ^ K
    · rw [heq, cmp_self]
      exact Ev_neg (by omega) (Ev_pos rfl (Ev_neg (fun k => k (by have := he heq; omega)) tail))
    · rw [cmp_gt (show (uni (p - 1) + uni p) * D < N * 2 ^ K by omega)]
      exact Ev_neg (by omega) (Ev_neg (by omega) tail)
  · exact Ev_neg hp tail
theorem mx_abs {n : Int} (h : -1024 ≤ n ∧ n ≤ 1024) : mx n (wrap64 (-n)) = ((n.natAbs : Nat) : Int) := by
  have w : wrap64 (-n) = -n := wrap_id (by omega) (by omega)
  rw [w]
  unfold mx
  split <;> omega
theorem mpow_lt {m k F : Nat} (hF : F = 54272) (hm : m < 9007199254740992) (hk : k ≤ 1024) : m ^ k ≤ 2 ^ F := by
  have h1 : m ^ k ≤ (2 ^ 53) ^ k := Nat.pow_le_pow_left (by omega) k
  rw [← Nat.pow_mul] at h1
  exact Nat.le_trans h1 (Nat.pow_le_pow_right (by omega) (by omega))
/-- The power as a fraction. -/
theorem frac {K m k g p w : Nat} {n V : Int} (hm : m ≠ 0) (hw : (V = (w : Int) ∧ g * k = w + K * k) ∨ (V = -(w : Int) ∧ g * k + w = K * k))
    (h : if n > 0 then Near p ((m * 2 ^ g) ^ k * 2 ^ K) (2 ^ (K * k)) else Near p (2 ^ (K + K * k)) ((m * 2 ^ g) ^ k)) :
    (n > 0 → (V = (w : Int) → Near p (m ^ k * 2 ^ w * 2 ^ K) 1) ∧ (V = -(w : Int) → Near p (m ^ k * 2 ^ K) (2 ^ w))) ∧
    (¬ n > 0 → (V = (w : Int) → Near p (2 ^ K) (m ^ k * 2 ^ w)) ∧ (V = -(w : Int) → Near p (2 ^ w * 2 ^ K) (m ^ k))) := by
  have pm : 0 < m ^ k := Nat.pow_pos (by omega)
  rw [Nat.mul_pow, ← Nat.pow_mul] at h
  have two {a : Nat} : 0 < 2 ^ a := Nat.pow_pos (by omega)
  have gk : (V = (w : Int) → g * k = w + K * k) ∧ (V = -(w : Int) → g * k + w = K * k) := by
    rcases hw with ⟨h1, h2⟩ | ⟨h1, h2⟩
    · exact ⟨fun _ => h2, fun h3 => by omega⟩
    · exact ⟨fun h3 => by omega, fun _ => h2⟩
  refine ⟨fun hn => ?_, fun hn => ?_⟩
  · rw [if_pos hn] at h
    refine ⟨fun hv => near_congr two (by omega) h ?_, fun hv => near_congr two two h ?_⟩
    · have := gk.1 hv
      rw [Nat.mul_one, Nat.mul_assoc, Nat.mul_assoc, Nat.mul_assoc, ← Nat.pow_add, ← Nat.pow_add, ← Nat.pow_add]
      congr 2
      omega
    · have := gk.2 hv
      rw [Nat.mul_assoc, Nat.mul_assoc, Nat.mul_assoc, ← Nat.pow_add, ← Nat.pow_add, ← Nat.pow_add]
      congr 2
      omega
  · rw [if_neg hn] at h
    refine ⟨fun hv => near_congr (Nat.mul_pos pm two) (Nat.mul_pos pm two) h ?_, fun hv => near_congr (Nat.mul_pos pm two) pm h ?_⟩
    · have := gk.1 hv
      rw [Nat.mul_left_comm, Nat.mul_left_comm (2 ^ K), ← Nat.pow_add, ← Nat.pow_add]
      congr 2
      omega
    · have := gk.2 hv
      rw [Nat.mul_comm, Nat.mul_left_comm, ← Nat.pow_add, ← Nat.pow_add]
      congr 2
      omega
theorem RemainNearest {x n : Int} (hx : U x) (hn : -9223372036854775808 ≤ n ∧ n < 9223372036854775808) : ∃ k, abacuslaw06_RemainNearest.f k x n = some true := by
  refine Ev.rounds ?_
  obtain ⟨K, hK⟩ : ∃ K, K = 1074 := ⟨_, rfl⟩
  obtain ⟨r, er, qr⟩ := Power_ev (n := n) hx hK
  simp only [abacuslaw06_RemainNearest.f, abacuslaw06_RemainNearest.b0]
  refine Ev.bind awake_ev (Ev_neg (by simp) (Ev.bind er ?_))
  unfold PowerR at qr
  by_cases g1 : n > 1024
  · rw [if_pos (.inr g1)] at qr; subst qr
    exact Ev_pos g1 (Ev_pos rfl (Ev_some (decide_eq_true rfl)))
  refine Ev_neg g1 ?_
  by_cases g2 : n < -1024
  · rw [if_pos (.inl g2)] at qr; subst qr
    exact Ev_pos g2 (Ev_pos rfl (Ev_some (decide_eq_true rfl)))
  refine Ev_neg g2 (Ev_bind_eq (Decode_eq hx) ?_)
  rw [if_neg (by omega)] at qr
  by_cases n0 : n = 0
  · rw [if_pos n0] at qr
    exact Ev_pos n0 (Ev_some (decide_eq_true (by rw [qr])))
  rw [if_neg n0] at qr
  refine Ev_neg n0 ?_
  by_cases c0 : cls x = 0
  · exact Ev_pos c0 (Ev_some (decide_eq_true qr.1))
  refine Ev_neg c0 ?_
  by_cases c3 : cls x ≥ 3
  · exact Ev_pos c3 (Ev_some (decide_eq_true qr.1))
  refine Ev_neg c3 ?_
  have hf : fin x := cls_fin' (by omega) (by omega)
  obtain ⟨r2, qp⟩ := qr
  unfold PowR at qp
  rw [if_neg (by omega), if_neg (by omega)] at qp
  obtain ⟨p, hd, hp, hN⟩ := qp
  obtain ⟨M, m, z, g, am, hz, hs, hm, m0, z6, hg, hu, hM, hzt, hdiv⟩ := odd_part hf c0
  obtain ⟨k, hk, k1⟩ : ∃ k, n.natAbs = k ∧ k ≤ 1024 := ⟨_, rfl, by omega⟩
  rw [hu, hk] at hN
  suffices go : Ev (fun j _ _ => abacuslaw06_RemainNearest.l511 j n r.1 r.2 (sgn x && odd n) (sgn x) (cls x) (manOf x) (expOf x)) true by
    cases hsx : sgn x with
    | true => rw [hsx, Bool.true_and] at go; exact Ev_pos rfl go
    | false => rw [hsx, Bool.false_and] at go; exact Ev_neg (by simp) go
  simp only [abacuslaw06_RemainNearest.l511, abacuslaw06_RemainNearest.b511]
  obtain ⟨s, hs'⟩ : ∃ s, (sgn x && odd n) = s := ⟨_, rfl⟩
  rw [hs'] at hd ⊢
  obtain ⟨up, ep, sp⟩ := put_U (s := s) hp
  have hi : inf = 9218868437227405312 := rfl
  have tm : Int.tmod r.1 9223372036854775808 = (p : Int) := by rw [hd, tmod_pos up, ep]
  have hsg : ((decide (r.1 ≥ 9223372036854775808)) != s) = false := by
    rw [hd]
    have : decide (put s p ≥ 9223372036854775808) = s := sp
    rw [this]
    cases s <;> rfl
  refine Ev_neg (fun h => h r2) (Ev_neg (by rw [hsg]; simp) (Ev_neg (by rw [tm]; omega) ?_))
  have ex := exp_range hf
  have htr := nat_Trail_ev (l := [(M : Int)]) (ok_one (by omega)) (by simp)
  rw [one_limb, ← hzt] at htr
  have lM : M < B 4096 := Go.Proofs.YtjmcfampoajbmaaDoor.Ieee2.small_limit (by omega)
  have hsr := nat_Shr_ev (a := [(M : Int)]) (n := (z : Int)) (ok_one (by omega)) (by simp) (by omega)
  rw [one_limb, shrAns, if_pos lM, if_neg (by omega), Int.toNat_natCast, hdiv] at hsr
  have lm : m < B 4096 := Go.Proofs.YtjmcfampoajbmaaDoor.Ieee2.small_limit (by omega)
  have lmk := pow_limit hm k1
  have hpw := quot_Pow_ev (a := lim m) (n := (k : Int)) (ok_lim _) (by have := len_lim lm; omega) (by omega)
  rw [val_lim, powAns, if_pos lm, if_neg (by omega), Int.toNat_natCast, ans, if_pos lmk] at hpw
  have hmx := mx_abs (n := n) (by omega)
  rw [hk] at hmx
  have w1 : wrap64 (expOf x + (z : Int)) = expOf x + z := wrap_id (by omega) (by omega)
  have hsm := mul_small (a := expOf x + z) (b := (k : Int)) (by omega) (by omega)
  have w2 : wrap64 ((expOf x + (z : Int)) * (k : Int)) = (expOf x + z) * (k : Int) := wrap_id (by omega) (by omega)
  rw [am]
  refine Ev.bind htr (Ev.bind hsr ?_)
  simp only [hmx]
  refine Ev.bind hpw ?_
  simp only [w1, w2]
  have cg : ((g * k : Nat) : Int) = (expOf x + z) * (k : Int) + 1074 * (k : Int) := by rw [Int.natCast_mul, ← hg, Int.add_mul]
  have cK : ((K * k : Nat) : Int) = 1074 * (k : Int) := by rw [Int.natCast_mul, hK]; rfl
  obtain ⟨V, hV⟩ : ∃ V, (expOf x + (z : Int)) * (k : Int) = V := ⟨_, rfl⟩
  rw [hV] at cg hsm ⊢
  obtain ⟨w, hw⟩ : ∃ w : Nat, V = (w : Int) ∨ V = -(w : Int) := ⟨V.natAbs, by omega⟩
  have fr := frac (n := n) (V := V) (w := w) m0 (by rcases hw with h | h <;> omega) hN
  obtain ⟨F, hF⟩ : ∃ F, F = 54272 := ⟨_, rfl⟩
  obtain ⟨G, hG⟩ : ∃ G, G = 2098 := ⟨_, rfl⟩
  have mF := mpow_lt hF hm k1
  have pm : 0 < m ^ k := Nat.pow_pos (by omega)
  have two {a : Nat} : 0 < 2 ^ a := Nat.pow_pos (by omega)
  have far_up {X Y : Nat} (hY : 0 < Y) (h : Near p X Y) (hxy : 2 ^ G * Y ≤ X) : p = inf :=
    near_unique hY hY h (near_inf hY (by rw [inf_top hG]; exact hxy)) rfl
  have far_down {X Y : Nat} (hY : 0 < Y) (h : Near p X Y) (hxy : 2 * X < Y) : p = 0 := near_unique hY hY h (near_zero hxy) rfl
  have out (f : Int) (h : (p : Int) = f) : Ev (fun j _ _ => abacuslaw06_RemainNearest.l2097131 j r.1 0 f) true := by
    simp only [abacuslaw06_RemainNearest.l2097131, abacuslaw06_RemainNearest.b2097131, tm]
    exact Ev_pos (by first | rfl | trivial) (Ev_some (decide_eq_true h))
  have hpow {a b : Nat} (h : a ≤ b) : 2 ^ a ≤ 2 ^ b := Nat.pow_le_pow_right (by omega) h
  have hpows {a b : Nat} (h : a < b) : 2 ^ a < 2 ^ b := Nat.pow_lt_pow_right (by omega) h
  by_cases f1 : V > 100000
  · refine Ev_pos f1 ?_
    have hVw : V = (w : Int) := by omega
    by_cases hpos : n > 0
    · refine Ev_pos (by rw [decide_eq_true hpos, decide_eq_true (show V > 0 by omega)]; rfl) (out _ ?_)
      have := far_up (by omega) ((fr.1 hpos).1 hVw) (by
        rw [Nat.mul_one]
        calc 2 ^ G ≤ 2 ^ w := hpow (by omega)
          _ = 1 * 2 ^ w * 1 := by omega
          _ ≤ m ^ k * 2 ^ w * 2 ^ K := Nat.mul_le_mul (Nat.mul_le_mul_right _ pm) two)
      rw [this]; rfl
    · refine Ev_neg (by rw [decide_eq_false hpos, decide_eq_true (show V > 0 by omega)]; simp) (out _ ?_)
      have := far_down (Nat.mul_pos pm two) ((fr.2 hpos).1 hVw) (by
        have h1 : 2 * 2 ^ K < 2 ^ w := by rw [← Nat.pow_succ']; exact hpows (by omega)
        have h2 : 1 * 2 ^ w ≤ m ^ k * 2 ^ w := Nat.mul_le_mul_right _ pm
        omega)
      rw [this]; rfl
  refine Ev_neg f1 ?_
  by_cases f2 : V < -100000
  · refine Ev_pos f2 ?_
    have hVw : V = -(w : Int) := by omega
    by_cases hpos : n > 0
    · refine Ev_neg (by rw [decide_eq_true hpos, decide_eq_false (show ¬ V > 0 by omega)]; simp) (out _ ?_)
      have := far_down two ((fr.1 hpos).2 hVw) (by
        have h1 : m ^ k * 2 ^ K ≤ 2 ^ (F + K) := by rw [Nat.pow_add]; exact Nat.mul_le_mul_right _ mF
        have h2 : 2 * 2 ^ (F + K) < 2 ^ w := by rw [← Nat.pow_succ']; exact hpows (by omega)
        omega)
      rw [this]; rfl
    · refine Ev_pos (by rw [decide_eq_false hpos, decide_eq_false (show ¬ V > 0 by omega)]; rfl) (out _ ?_)
      have := far_up pm ((fr.2 hpos).2 hVw) (by
        calc 2 ^ G * m ^ k ≤ 2 ^ G * 2 ^ F := Nat.mul_le_mul_left _ mF
          _ = 2 ^ (G + F) := (Nat.pow_add ..).symm
          _ ≤ 2 ^ (w + K) := hpow (by omega)
          _ = 2 ^ w * 2 ^ K := Nat.pow_add ..)
      rw [this]; rfl
  refine Ev_neg f2 ?_
  obtain ⟨T, hT⟩ : ∃ T, T = 200000 := ⟨_, rfl⟩
  have last (A C : Nat) (hA : A < 2 ^ T) (hC : C < 2 ^ T) (h : Near p (A * 2 ^ K) C) : Ev (fun j _ _ => abacuslaw06_RemainNearest.l1048575 j r.1 (lim A) (lim C)) true := by
    simp only [abacuslaw06_RemainNearest.l1048575, abacuslaw06_RemainNearest.b1048575, tm]
    refine Ev.bind (nearest_ev hT (K := K + 1) (by omega) hA hC (fun X hX => ?_)) (Ev.now _)
    have : X = A * 2 ^ K := by rw [Nat.pow_succ, ← Nat.mul_assoc] at hX; omega
    rw [this]; exact h
  have mF1 : m ^ k < 2 ^ (F + 1) := Nat.lt_of_le_of_lt mF (hpows (by omega))
  have one_lim : lim 1 = [1] := lim_one_len (by omega) (by omega)
  have l1 : (1 : Nat) < 2 ^ 1 := by omega
  have hA : m ^ k < 2 ^ T := Nat.lt_of_lt_of_le mF1 (hpow (by omega))
  have hAw : m ^ k * 2 ^ w < 2 ^ T := Nat.lt_of_lt_of_le (mul_pow_lt mF1) (hpow (by omega))
  have hw2 : 2 ^ w < 2 ^ T := hpows (by omega)
  have h1T : 1 < 2 ^ T := by have := hpows (show 0 < T by omega); rwa [Nat.pow_zero] at this
  simp only [abacuslaw06_RemainNearest.l131071, abacuslaw06_RemainNearest.b131071]
  have fork (A C : Nat) (h : if n < 0 then Near p (C * 2 ^ K) A else Near p (A * 2 ^ K) C) (hA : A < 2 ^ T) (hC : C < 2 ^ T) : Ev (fun j _ _ => abacuslaw06_RemainNearest.l262143 j n r.1 (lim A) 0 (lim C)) true := by
    simp only [abacuslaw06_RemainNearest.l262143, abacuslaw06_RemainNearest.b262143]
    refine Ev_neg (by simp) ?_
    by_cases hneg : n < 0
    · rw [if_pos hneg] at h; exact Ev_pos hneg (last C A hC hA h)
    · rw [if_neg hneg] at h; exact Ev_neg hneg (last A C hA hC h)
  by_cases hv : V ≥ 0
  · have hVw : V = (w : Int) := by omega
    refine Ev_pos hv ?_
    rw [hVw]
    refine Ev.bind (shl_ok mF1 (by omega)) ?_
    rw [← one_lim]
    refine fork _ _ ?_ hAw h1T
    by_cases hneg : n < 0
    · rw [if_pos hneg, Nat.one_mul]; exact (fr.2 (by omega)).1 hVw
    · rw [if_neg hneg]; exact (fr.1 (by omega)).1 hVw
  · have hVw : V = -(w : Int) := by omega
    refine Ev_neg hv ?_
    have w3 : wrap64 (-V) = (w : Int) := by rw [hVw]; unfold wrap64; omega
    rw [w3, ← one_lim]
    refine Ev.bind (shl_ok l1 (by omega)) ?_
    rw [Nat.one_mul]
    refine fork _ _ ?_ hA hw2
    by_cases hneg : n < 0
    · rw [if_pos hneg]; exact (fr.2 (by omega)).2 hVw
    · rw [if_neg hneg]; exact (fr.1 (by omega)).2 hVw
end Go.Proofs.YtjmcfampoajbmaaDoor.Pure
