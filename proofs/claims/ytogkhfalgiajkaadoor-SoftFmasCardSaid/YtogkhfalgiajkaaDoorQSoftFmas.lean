/- Sqrt of every double and Fma of every three are the reference's. No conditions. -/
import Derived.Test.YtogkhfalgiajkaaDoorQR5m
import Derived.Test.YtogkhfalgiajkaaDoorQR4b
import Derived.Test.YtogkhfalgiajkaaDoorQR2b
import Derived.Test.YtogkhfalgiajkaaDoorQSoftSqrt
namespace Go.Proofs.YtogkhfalgiajkaaDoor.Pure
open Go.RowKit Go.Proofs.YtogkhfalgiajkaaDoor.Lib Go.Proofs.YtogkhfalgiajkaaDoor.LibB Go.Proofs.YtogkhfalgiajkaaDoor.F Go.Proofs.YtogkhfalgiajkaaDoor.Nat1 Go.Proofs.YtogkhfalgiajkaaDoor.Nat2 Go.Proofs.YtogkhfalgiajkaaDoor.Bits Go.Proofs.YtogkhfalgiajkaaDoor.Ieee1 Go.Proofs.YtogkhfalgiajkaaDoor.Mag Go.Proofs.YtogkhfalgiajkaaDoor.Ieee2 Go.Proofs.YtogkhfalgiajkaaDoor.Rnd Go.Proofs.YtogkhfalgiajkaaDoor.R1 Go.Proofs.YtogkhfalgiajkaaDoor.R4 Go.Proofs.YtogkhfalgiajkaaDoor.R5
open Go.Proofs.YtogkhfalgiajkaaDoor.Soft1 (sv sval Rd sv_zero sv_mul sv_abs)
open Go.Proofs.YtogkhfalgiajkaaDoor.Soft2 (RdM sv_prod)
open Go.Proofs.YtogkhfalgiajkaaDoor.SoftDiv (RootNear)
open Go.Proofs.YtogkhfalgiajkaaDoor.SoftSqrt (sqrt_near)
open Go.Proofs.YtogkhfalgiajkaaDoor.SoftSqrt (Sqrt_ev)
open Go.Proofs.YtogkhfalgiajkaaDoor.SoftTot (AddR MulR FmaR inf_put cls_five)
open Go.Proofs.YtogkhfalgiajkaaDoor.SoftTot (Fma_tot)
open Go.Proofs.YtogkhfalgiajkaaDoorA (rd ln ln_eq mx mn shl shr wr wr_eq)
set_option linter.unusedVariables false
set_option linter.unusedSimpArgs false
/-! ### roots -/
def SqrtR (K : Nat) (a d : Int) : Prop :=
  if cls a = 4 then d = 9221120237041090560 else if cls a = 0 then d = a else if sgn a = true then d = 9221120237041090560 else if cls a = 3 then d = a
  else ∃ p : Nat, d = (p : Int) ∧ RootNear p (uni (plc a) * 2 ^ K)
theorem root_lt {p q V : Nat} (h : RootNear p V) (k : RootNear q V) (hlt : p < q) : False := by
  have hp := h.hi
  have hq := k.lo
  have m1 : uni (p + 1) ≤ uni q := uni_mono hlt
  have m2 : uni p ≤ uni (q - 1) := uni_mono (by omega)
  have hs : uni p + uni (p + 1) ≤ uni (q - 1) + uni q := by omega
  have hsq := Nat.mul_le_mul hs hs
  have e1 := h.hie (by omega)
  have e2 := k.loe (by omega)
  have e3 : uni p + uni (p + 1) = uni (q - 1) + uni q := by
    rcases Nat.lt_or_ge (uni p + uni (p + 1)) (uni (q - 1) + uni q) with g | g
    · have := Nat.mul_lt_mul'' g g
      omega
    · omega
  have e4 : q = p + 1 := by
    rcases Nat.lt_or_ge (p + 1) q with g | g
    · have := uni_smono g
      omega
    · omega
  omega
theorem root_unique {p q V : Nat} (h : RootNear p V) (k : RootNear q V) : p = q := by
  rcases Nat.lt_trichotomy p q with g | g | g
  · exact (root_lt h k g).elim
  · exact g
  · exact (root_lt k h g).elim
theorem SqrtR.unique {K : Nat} {a d d' : Int} (h : SqrtR K a d) (k : SqrtR K a d') : d = d' := by
  unfold SqrtR at h k
  by_cases h1 : cls a = 4
  · rw [if_pos h1] at h k; rw [h, k]
  rw [if_neg h1] at h k
  by_cases h2 : cls a = 0
  · rw [if_pos h2] at h k; rw [h, k]
  rw [if_neg h2] at h k
  by_cases h3 : sgn a = true
  · rw [if_pos h3] at h k; rw [h, k]
  rw [if_neg h3] at h k
  by_cases h4 : cls a = 3
  · rw [if_pos h4] at h k; rw [h, k]
  rw [if_neg h4] at h k
  obtain ⟨p, rfl, hp⟩ := h
  obtain ⟨q, rfl, hq⟩ := k
  rw [root_unique hp hq]
theorem plc_ne {a : Int} (ha : U a) (h : cls a ≠ 0) : plc a ≠ 0 := fun k => h ((plc_cls ha).2.1 (by rw [k]; rfl))
theorem Sqrt_tot {a : Int} {K : Nat} (hK : K = 1074) (ha : U a) : ∃ d, Ev (fun k _ _ => soft_Sqrt.f k a) d ∧ SqrtR K a d := by
  have dec := Decode_eq ha
  unfold SqrtR
  by_cases h1 : cls a = 4
  · refine ⟨_, ?_, by rw [if_pos h1]⟩
    simp only [soft_Sqrt.f, soft_Sqrt.b0, soft_sqrt.f, soft_sqrt.b0]
    exact Ev.bind (Ev_bind_eq dec (Ev_pos h1 (Ev.now _))) (Ev.now _)
  by_cases h2 : cls a = 0
  · refine ⟨_, ?_, by rw [if_neg h1, if_pos h2]⟩
    simp only [soft_Sqrt.f, soft_Sqrt.b0, soft_sqrt.f, soft_sqrt.b0]
    exact Ev.bind (Ev_bind_eq dec (Ev_neg h1 (Ev_pos h2 (Ev.now _)))) (Ev.now _)
  by_cases h3 : sgn a = true
  · obtain ⟨x, hx⟩ : ∃ x, soft_invalid.f = some (9221120237041090560, x) := ⟨_, rfl⟩
    refine ⟨_, ?_, by rw [if_neg h1, if_neg h2, if_pos h3]⟩
    simp only [soft_Sqrt.f, soft_Sqrt.b0, soft_sqrt.f, soft_sqrt.b0]
    exact Ev.bind (Ev_bind_eq dec (Ev_neg h1 (Ev_neg h2 (Ev_pos h3 (Ev_bind_eq hx (Ev.now _)))))) (Ev.now _)
  by_cases h4 : cls a = 3
  · refine ⟨_, ?_, by rw [if_neg h1, if_neg h2, if_neg h3, if_pos h4]⟩
    simp only [soft_Sqrt.f, soft_Sqrt.b0, soft_sqrt.f, soft_sqrt.b0]
    exact Ev.bind (Ev_bind_eq dec (Ev_neg h1 (Ev_neg h2 (Ev_neg h3 (Ev_pos h4 (Ev.now _)))))) (Ev.now _)
  · obtain ⟨p, e1, e2⟩ := Sqrt_ev hK ha (fin_of h4 h1) (by simpa using h3) (plc_ne ha h2)
    exact ⟨_, e1, by rw [if_neg h1, if_neg h2, if_neg h3, if_neg h4]; exact ⟨p, rfl, e2⟩⟩
theorem rsqrt_up (e : Int) (h : -1100 ≤ e ∧ e ≤ 2000) : ∃ (u : Nat) (h' : Int), (u = 120 ∧ Int.tmod e 2 = 0 ∨ u = 121 ∧ ¬ Int.tmod e 2 = 0) ∧ e - (u : Int) = 2 * h' ∧ wrap64 (Int.tdiv (wrap64 (e - (u : Int))) 2) = h' := by
  have w : ∀ u : Nat, u ≤ 121 → wrap64 (e - (u : Int)) = e - (u : Int) := fun u hu => by unfold wrap64; omega
  have half : ∀ (u : Nat) (q : Int), u ≤ 121 → e - (u : Int) = 2 * q → wrap64 (Int.tdiv (wrap64 (e - (u : Int))) 2) = q := by
    intro u q hu hq
    rw [w u hu, hq, Int.mul_comm, Int.mul_tdiv_cancel _ (by decide)]
    unfold wrap64; omega
  rcases (by omega : e % 2 = 0 ∨ e % 2 = 1) with h0 | h0
  · exact ⟨120, (e - 120) / 2, .inl ⟨rfl, Int.tmod_eq_zero_of_dvd (Int.dvd_of_emod_eq_zero h0)⟩, by omega, half 120 _ (by decide) (by omega)⟩
  · refine ⟨121, (e - 121) / 2, .inr ⟨rfl, fun hn => ?_⟩, by omega, half 121 _ (by decide) (by omega)⟩
    have := Int.emod_eq_zero_of_dvd (Int.dvd_of_tmod_eq_zero hn)
    omega
theorem mant_root {m u : Nat} (hm : m < 9007199254740992) (hu : u ≤ 121) : m * 2 ^ u < B 3 := by
  have h1 : m * 2 ^ u < 2 ^ 53 * 2 ^ u := Nat.mul_lt_mul_of_pos_right hm (Nat.pow_pos (by decide))
  rw [← Nat.pow_add] at h1
  rw [B_two]
  exact Nat.lt_of_lt_of_le h1 (Nat.pow_le_pow_right (by decide) (by omega))
theorem self_le_sq (s : Nat) : s ≤ s * s := by
  cases s with
  | zero => exact Nat.zero_le _
  | succ s => exact Nat.le_mul_of_pos_left _ (Nat.succ_pos _)
theorem rroot_ev {m u : Nat} {e h' : Int} {s : Bool} {den : List Int} {K : Nat} (hK : K = 1074) (hm : m < 9007199254740992) (m0 : m ≠ 0) (hu : u = 120 ∨ u = 121) (he : -1074 ≤ e ∧ e ≤ 971) (hh : e - (u : Int) = 2 * h') (hw : wrap64 (Int.tdiv (wrap64 (e - (u : Int))) 2) = h') :
    ∃ p : Nat, Ev (fun k _ _ => abacusref05_Sqrt.l63 k (u : Int) s [(m : Int)] den e) (p : Int) ∧ RootNear p (m * 2 ^ (e + 1074).toNat * 2 ^ K) := by
  have tl := Lift_ev (n := u) (limb_ok (m := m) (by omega)) (by simp) (by omega)
  rw [limb_val] at tl
  have hA := mant_root hm (show u ≤ 121 by omega)
  have hA2 : m * 2 ^ u < B 256 := Nat.lt_of_lt_of_le hA (B_mono (by decide))
  have hA4 : m * 2 ^ u < B 4096 := Nat.lt_of_lt_of_le hA (B_mono (by decide))
  have la := (lim_len_le _ 3).2 hA
  obtain ⟨r, r1, r2, r3⟩ := R2.Root_ev (ok_lim (m * 2 ^ u)) (Nat.le_trans la (by decide))
  rw [val_lim] at r1 r2 r3
  rw [if_pos hA2] at r3
  have rl : r < B 3 := Nat.lt_of_le_of_lt (Nat.le_trans (self_le_sq r) r1) hA
  have lr := (lim_len_le _ 3).2 rl
  have sn := sqrt_near (r := r) (u := (u : Int)) hK he (by omega) hh m0 hm (by rw [Int.toNat_natCast]; exact r1) (by rw [Int.toNat_natCast]; exact r2)
  rw [Int.toNat_natCast] at sn
  have rr := rRound_ev (s := false) (more := !decide (r * r = m * 2 ^ u)) (e := h') (ok_lim r) (Nat.le_trans lr (by decide)) (by omega)
  rw [val_lim, if_pos (Nat.lt_of_lt_of_le rl (B_mono (by decide)))] at rr
  refine ⟨_, ?_, sn⟩
  simp only [abacusref05_Sqrt.l63, abacusref05_Sqrt.b63, hw]
  exact Ev.bind tl (Ev.bind r3 (Ev.bind rr (Ev.now _)))
theorem rSqrt_ev {a : Int} {K : Nat} (hK : K = 1074) (ha : U a) : ∃ d, Ev (fun k _ _ => abacusref05_Sqrt.f k a) d ∧ SqrtR K a d := by
  have nn := rIsNaN_eq ha
  have za := zero_eq ha
  have na := negative_eq a
  have ia := infinite_eq ha
  have oa := of_eq ha
  simp only [abacusref05_Sqrt.f, abacusref05_Sqrt.b0]
  unfold SqrtR
  by_cases h1 : cls a = 4
  · exact ⟨_, Ev_bind_eq nn (Ev_pos (decide_eq_true h1) (Ev.now _)), by rw [if_pos h1]⟩
  have d1 : ¬ decide (cls a = 4) = true := by rw [decide_eq_false h1]; simp
  by_cases h2 : cls a = 0
  · exact ⟨_, Ev_bind_eq nn (Ev_neg d1 (Ev_bind_eq za (Ev_pos (decide_eq_true h2) (Ev.now _)))), by rw [if_neg h1, if_pos h2]⟩
  have d2 : ¬ decide (cls a = 0) = true := by rw [decide_eq_false h2]; simp
  by_cases h3 : sgn a = true
  · exact ⟨_, Ev_bind_eq nn (Ev_neg d1 (Ev_bind_eq za (Ev_neg d2 (Ev_bind_eq na (Ev_pos h3 (Ev.now _)))))), by rw [if_neg h1, if_neg h2, if_pos h3]⟩
  by_cases h4 : cls a = 3
  · exact ⟨_, Ev_bind_eq nn (Ev_neg d1 (Ev_bind_eq za (Ev_neg d2 (Ev_bind_eq na (Ev_neg h3 (Ev_bind_eq ia (Ev_pos (decide_eq_true h4) (Ev.now _)))))))), by rw [if_neg h1, if_neg h2, if_neg h3, if_pos h4]⟩
  have d4 : ¬ decide (cls a = 3) = true := by rw [decide_eq_false h4]; simp
  obtain ⟨m, am, rm, um, e0, e1⟩ := parts' ha (fin_of h4 h1)
  rw [am] at oa
  have m0 : m ≠ 0 := fun h => by
    rw [h, Nat.zero_mul] at um
    exact plc_ne ha h2 (uni_inj (um.trans uni_zero.symm))
  obtain ⟨u, h', hu, hh, hw⟩ := rsqrt_up (expOf a) (by omega)
  obtain ⟨p, p1, p2⟩ := rroot_ev (s := sgn a) (den := [1]) hK rm m0 (hu.elim (fun k => .inl k.1) (fun k => .inr k.1)) ⟨e0, e1⟩ hh hw
  rw [← um] at p2
  refine ⟨_, Ev_bind_eq nn (Ev_neg d1 (Ev_bind_eq za (Ev_neg d2 (Ev_bind_eq na (Ev_neg h3 (Ev_bind_eq ia (Ev_neg d4 (Ev_bind_eq oa ?_)))))))), by rw [if_neg h1, if_neg h2, if_neg h3, if_neg h4]; exact ⟨p, rfl, p2⟩⟩
  rcases hu with ⟨rfl, ht⟩ | ⟨rfl, ht⟩
  · exact Ev_neg (fun k => k ht) p1
  · exact Ev_pos ht p1
/-! ### Fma -/
theorem fma_val {sa sb sc r : Bool} {m n o Z i j l g K L P Q : Nat} {v : Int} (hv : v = sv sa (m * 2 ^ i) * sv sb (n * 2 ^ j) + sv sc (o * 2 ^ l) * ((2 ^ K : Nat) : Int)) (hP : P = i + j + L) (hQ : Q = l + (K + L))
    (h : sv r Z * ((2 ^ g : Nat) : Int) = sv (sa != sb) (m * n) * ((2 ^ P : Nat) : Int) + sv sc o * ((2 ^ Q : Nat) : Int)) : sv r Z * ((2 ^ g : Nat) : Int) = v * ((2 ^ L : Nat) : Int) := by
  rw [h, hv, sv_prod, Int.add_mul, hP, hQ]
  have e1 : m * 2 ^ i * (n * 2 ^ j) = m * n * 2 ^ (i + j) := by rw [Nat.pow_add]; simp only [Nat.mul_assoc, Nat.mul_comm, Nat.mul_left_comm]
  rw [e1, sv_mul (sa != sb) (m * n) (2 ^ (i + j)), sv_mul sc o (2 ^ l), Nat.pow_add 2 (i + j) L, Nat.pow_add 2 l (K + L), Nat.pow_add 2 K L]
  simp only [Int.natCast_mul, Int.mul_assoc]
theorem neg_scale {v : Int} {Q : Nat} (hQ : 0 < Q) : (v * (Q : Int) = 0 ↔ v = 0) ∧ (v * (Q : Int) < 0 ↔ v < 0) := by
  refine ⟨⟨fun k => (Int.mul_eq_zero.1 k).resolve_right (by omega), fun k => by rw [k, Int.zero_mul]⟩, ⟨fun k => ?_, fun k => Int.mul_neg_of_neg_of_pos k (by omega)⟩⟩
  refine Int.lt_of_not_ge fun h => ?_
  have := Int.mul_nonneg h (show 0 ≤ (Q : Int) by omega)
  omega
theorem near_scale {p Z A V K L C : Nat} (hC : C = K + L) (h : Near p (Z * A) (2 ^ C)) (hz : Z * A = V * 2 ^ L) : Near p V (2 ^ K) := by
  refine near_congr (Nat.pow_pos (by decide)) (Nat.pow_pos (by decide)) h ?_
  rw [hz, hC, Nat.pow_add, Nat.mul_assoc, Nat.mul_comm (2 ^ L)]
theorem U_put (s : Bool) {p : Nat} (h : p ≤ inf) : U (put s p) := by
  unfold inf at h
  unfold U put
  cases s
  · rw [if_neg (by simp)]; omega
  · rw [if_pos rfl]; omega
theorem cls_put_inf (s : Bool) : cls (put s inf) = 3 ∧ sgn (put s inf) = s := by cases s <;> exact ⟨by decide, by decide⟩
theorem cls_put_zero (s : Bool) : cls (put s 0) = 0 := by cases s <;> decide
theorem cls_nan : cls 9221120237041090560 = 4 := by decide
theorem U_nan : U 9221120237041090560 := by unfold U; decide
theorem fin_fma {a b c : Int} {K L : Nat} (hK : K = 1074) (hL : L = 1852) (ha : U a) (hb : U b) (hc : U c) (fa : fin a) (fb : fin b) (fc : fin c) :
    ∃ d, Ev (fun k _ _ => abacusref05_Fma.l15 k a b c) d ∧ RdM d (sval a * sval b + sval c * ((2 ^ K : Nat) : Int)) (2 ^ K) ((sgn a != sgn b) && sgn c) := by
  obtain ⟨m, am, rm, um, e0, e1⟩ := parts' ha fa
  obtain ⟨n, bn, rn, un, f0, f1⟩ := parts' hb fb
  obtain ⟨o, co, ro, uo, g0, g1⟩ := parts' hc fc
  have oa := of_eq ha
  have ob := of_eq hb
  have oc := of_eq hc
  rw [am] at oa
  rw [bn] at ob
  rw [co] at oc
  have tm := Times_ev (a := [(m : Int)]) (b := [(n : Int)]) (limb_ok (by omega)) (limb_ok (by omega)) (by simp) (by simp)
  rw [limb_val, limb_val] at tm
  have w : wrap64 (expOf a + expOf b) = expOf a + expOf b := by unfold wrap64; omega
  have pr : Ev (fun k _ _ => abacusref05_product.f k (sgn a) [(m : Int)] [1] (expOf a) (sgn b) [(n : Int)] [1] (expOf b)) (sgn a != sgn b, lim (m * n), [1], expOf a + expOf b) := by
    simp only [abacusref05_product.f, abacusref05_product.b0, w]
    exact Ev.bind tm (Ev.now _)
  have mn : m * n < 2 ^ 106 := Nat.lt_of_lt_of_le (Nat.mul_lt_mul'' rm rn) (by decide)
  have mn2 : m * n < 2 ^ 110 := Nat.lt_of_lt_of_le mn (by decide)
  have lmn : (lim (m * n)).length ≤ 64 := by
    refine (lim_len_le _ 64).2 (Nat.lt_of_lt_of_le (show m * n < B 2 from ?_) (B_mono (by decide)))
    rw [B_two]
    exact Nat.lt_of_lt_of_le mn (by decide)
  obtain ⟨r, Z, g, es, hs⟩ := sum_ev (s := (sgn a != sgn b)) (t := sgn c) (den := [1]) (ns := [1]) (e := expOf a + expOf b) (f := expOf c) (ok_lim (m * n)) (limb_ok (m := o) (by omega)) lmn (by simp) (val_lim _) limb_val mn2 (m110 ro) (by omega) (by omega)
  have g2 := hs.g0
  have g3 := hs.g1
  obtain ⟨A, C, hab, hA, hC⟩ : ∃ A C : Nat, (A : Int) - C = g + 1074 ∧ A = (g + 4000).toNat ∧ C = K + L := ⟨(g + 4000).toNat, K + L, by omega, rfl, rfl⟩
  obtain ⟨p, ep, hp⟩ := rounded_ev (Z := Z) (D := 1) (s := r) (e := g) hs.lim (by have := B_mono (show 1 ≤ 4096 by omega); rw [B_one] at this; omega) (by omega) (by omega) hab
  rw [← one_lim] at ep
  rw [Nat.one_mul] at hp
  have hv := fma_val (v := sval a * sval b + sval c * ((2 ^ K : Nat) : Int)) (sa := sgn a) (sb := sgn b) (sc := sgn c) (m := m) (n := n) (o := o) (i := (expOf a + 1074).toNat) (j := (expOf b + 1074).toNat) (l := (expOf c + 1074).toNat) (K := K) (L := L) (by rw [sval, sval, sval, um, un, uo]) (by omega) (by omega) hs.v
  rw [← hA] at hv
  obtain ⟨q1, q2, q3⟩ := sign_sum (Nat.pow_pos (by decide)) hv
  have pL : 0 < 2 ^ L := Nat.pow_pos (by decide)
  obtain ⟨vz, vn⟩ := neg_scale (v := sval a * sval b + sval c * ((2 ^ K : Nat) : Int)) pL
  refine ⟨put r p, ?_, r, p, rfl, ?_, fun k => ?_, fun k => hs.z (q3 (vz.2 k))⟩
  · simp only [abacusref05_Fma.l15, abacusref05_Fma.b15]
    exact Ev_bind_eq oa (Ev_bind_eq ob (Ev.bind pr (Ev_bind_eq oc (Ev.bind es (Ev.bind ep (Ev.now _))))))
  · rw [Int.natAbs_mul, Int.natAbs_natCast] at q1
    exact near_scale hC hp q1
  · rw [q2 (fun h => k (vz.1 h))]
    exact decide_eq_decide.2 vn
theorem rFma_ev {a b c : Int} {K : Nat} (hK : K = 1074) (ha : U a) (hb : U b) (hc : U c) : ∃ d, Ev (fun k _ _ => abacusref05_Fma.f k a b c) d ∧ FmaR K a b c d := by
  have nn := anyNaN_eq ha hb
  have nc := rIsNaN_eq hc
  have ia := infinite_eq ha
  have ib := infinite_eq hb
  have ic := infinite_eq hc
  simp only [abacusref05_Fma.f, abacusref05_Fma.b0]
  unfold FmaR
  by_cases h4 : cls a = 4 ∨ cls b = 4
  · exact ⟨_, Ev_bind_eq nn (Ev_pos (decide_eq_true h4) (Ev.now _)), by rw [if_pos (h4.elim .inl (fun k => .inr (.inl k)))]⟩
  have d4 : ¬ decide (cls a = 4 ∨ cls b = 4) = true := by rw [decide_eq_false h4]; simp
  by_cases hc4 : cls c = 4
  · exact ⟨_, Ev_bind_eq nn (Ev_neg d4 (Ev_bind_eq nc (Ev_pos (decide_eq_true hc4) (Ev.now _)))), by rw [if_pos (.inr (.inr hc4))]⟩
  have dc4 : ¬ decide (cls c = 4) = true := by rw [decide_eq_false hc4]; simp
  have n4 : ¬ (cls a = 4 ∨ cls b = 4 ∨ cls c = 4) := fun k => k.elim (fun k => h4 (.inl k)) (fun k => k.elim (fun k => h4 (.inr k)) hc4)
  -- the infinities
  have big (hi : cls a = 3 ∨ cls b = 3 ∨ cls c = 3) : ∃ d, Ev (fun k _ _ => abacusref05_Fma.l29 k a b c true) d ∧
      (if (cls a = 3 ∧ cls b = 0) ∨ (cls a = 0 ∧ cls b = 3) then d = 9221120237041090560
      else if (cls a = 3 ∨ cls b = 3) ∧ cls c = 3 ∧ sgn c ≠ (sgn a != sgn b) then d = 9221120237041090560
      else if cls a = 3 ∨ cls b = 3 then d = put (sgn a != sgn b) inf else if cls c = 3 then d = c
      else RdM d (sval a * sval b + sval c * ((2 ^ K : Nat) : Int)) (2 ^ K) ((sgn a != sgn b) && sgn c)) := by
    have sz := signed_zero (sgn a != sgn b)
    by_cases hab : cls a = 3 ∨ cls b = 3
    · obtain ⟨p, p1, p2⟩ := rMul_ev hK ha hb
      -- what the product is
      have hp : (if (cls a = 3 ∧ cls b = 0) ∨ (cls a = 0 ∧ cls b = 3) then p = 9221120237041090560 else p = put (sgn a != sgn b) inf) := by
        unfold MulR at p2
        rw [if_neg h4] at p2
        by_cases h0 : (cls a = 3 ∧ cls b = 0) ∨ (cls a = 0 ∧ cls b = 3)
        · rw [if_pos h0] at p2 ⊢; exact p2
        · rw [if_neg h0] at p2 ⊢
          obtain ⟨q, hq, hq2⟩ := p2
          rw [if_pos hab] at hq2
          rw [hq, hq2]
      have up : U p := by
        by_cases h0 : (cls a = 3 ∧ cls b = 0) ∨ (cls a = 0 ∧ cls b = 3)
        · rw [if_pos h0] at hp; rw [hp]; exact U_nan
        · rw [if_neg h0] at hp; rw [hp]; exact U_put _ (Nat.le_refl _)
      obtain ⟨d, d1, d2⟩ := rAdd_ev up hc
      have e1 : Ev (fun k _ _ => abacusref05_Fma.l235 k c p) d := by
        simp only [abacusref05_Fma.l235, abacusref05_Fma.b235]
        exact Ev.bind d1 (Ev.now _)
      refine ⟨d, ?_, ?_⟩
      · simp only [abacusref05_Fma.l29, abacusref05_Fma.b29]
        refine Ev_pos (by first | rfl | trivial) (Ev_bind_eq (negative_eq a) (Ev_bind_eq (negative_eq b) (Ev_bind_eq sz (Ev_bind_eq ia ?_))))
        by_cases ha3 : cls a = 3
        · exact Ev_pos (decide_eq_true ha3) (Ev.bind p1 e1)
        · exact Ev_neg (by rw [decide_eq_false ha3]; simp) (Ev_bind_eq ib (Ev_pos (decide_eq_true (hab.resolve_left ha3)) (Ev.bind p1 e1)))
      · unfold AddR at d2
        by_cases h0 : (cls a = 3 ∧ cls b = 0) ∨ (cls a = 0 ∧ cls b = 3)
        · rw [if_pos h0] at hp ⊢
          rw [hp, if_pos (.inl cls_nan)] at d2
          exact d2
        · rw [if_neg h0] at hp ⊢
          obtain ⟨k3, ks⟩ := cls_put_inf (sgn a != sgn b)
          rw [hp, k3, ks, if_neg (fun k => k.elim (by decide) hc4)] at d2
          by_cases h5 : cls c = 3 ∧ sgn c ≠ (sgn a != sgn b)
          · rw [if_pos ⟨hab, h5⟩]
            rw [if_pos ⟨rfl, h5.1, fun k => h5.2 k.symm⟩] at d2
            exact d2
          · rw [if_neg (fun k => h5 k.2), if_pos hab]
            rw [if_neg (fun k => h5 ⟨k.2.1, fun g => k.2.2 g.symm⟩), if_pos rfl] at d2
            exact d2
    · have hc3 : cls c = 3 := by
        rcases hi with k | k | k
        · exact absurd (.inl k) hab
        · exact absurd (.inr k) hab
        · exact k
      have ha3 : ¬ cls a = 3 := fun k => hab (.inl k)
      have hb3 : ¬ cls b = 3 := fun k => hab (.inr k)
      obtain ⟨d, d1, d2⟩ := rAdd_ev (U_put (sgn a != sgn b) (p := 0) (Nat.zero_le _)) hc
      have e1 : Ev (fun k _ _ => abacusref05_Fma.l235 k c (put (sgn a != sgn b) 0)) d := by
        simp only [abacusref05_Fma.l235, abacusref05_Fma.b235]
        exact Ev.bind d1 (Ev.now _)
      refine ⟨d, ?_, ?_⟩
      · simp only [abacusref05_Fma.l29, abacusref05_Fma.b29]
        exact Ev_pos (by first | rfl | trivial) (Ev_bind_eq (negative_eq a) (Ev_bind_eq (negative_eq b) (Ev_bind_eq sz (Ev_bind_eq ia (Ev_neg (by rw [decide_eq_false ha3]; simp) (Ev_bind_eq ib (Ev_neg (by rw [decide_eq_false hb3]; simp) e1)))))))
      · unfold AddR at d2
        have kz := cls_put_zero (sgn a != sgn b)
        rw [kz, if_neg (fun k => k.elim (by decide) hc4), if_neg (fun k => absurd k.1 (by decide)), if_neg (by decide), if_pos hc3] at d2
        rw [if_neg (fun k => k.elim (fun k => ha3 k.1) (fun k => hb3 k.2)), if_neg (fun k => hab k.1), if_neg hab, if_pos hc3]
        exact d2
  by_cases ha3 : cls a = 3
  · obtain ⟨d, d1, d2⟩ := big (.inl ha3)
    exact ⟨d, Ev_bind_eq nn (Ev_neg d4 (Ev_bind_eq nc (Ev_neg dc4 (Ev_bind_eq ia (Ev_pos (decide_eq_true ha3) d1))))), by rw [if_neg n4]; exact d2⟩
  have da : ¬ decide (cls a = 3) = true := by rw [decide_eq_false ha3]; simp
  by_cases hb3 : cls b = 3
  · obtain ⟨d, d1, d2⟩ := big (.inr (.inl hb3))
    exact ⟨d, Ev_bind_eq nn (Ev_neg d4 (Ev_bind_eq nc (Ev_neg dc4 (Ev_bind_eq ia (Ev_neg da (Ev_bind_eq ib (Ev_pos (decide_eq_true hb3) d1))))))), by rw [if_neg n4]; exact d2⟩
  have db : ¬ decide (cls b = 3) = true := by rw [decide_eq_false hb3]; simp
  by_cases hc3 : cls c = 3
  · obtain ⟨d, d1, d2⟩ := big (.inr (.inr hc3))
    refine ⟨d, Ev_bind_eq nn (Ev_neg d4 (Ev_bind_eq nc (Ev_neg dc4 (Ev_bind_eq ia (Ev_neg da (Ev_bind_eq ib (Ev_neg db (Ev_bind_eq ic ?_)))))))), by rw [if_neg n4]; exact d2⟩
    rw [decide_eq_true hc3]
    exact d1
  · obtain ⟨d, d1, d2⟩ := fin_fma hK rfl ha hb hc (fin_of ha3 (fun k => h4 (.inl k))) (fin_of hb3 (fun k => h4 (.inr k))) (fin_of hc3 hc4)
    refine ⟨d, Ev_bind_eq nn (Ev_neg d4 (Ev_bind_eq nc (Ev_neg dc4 (Ev_bind_eq ia (Ev_neg da (Ev_bind_eq ib (Ev_neg db (Ev_bind_eq ic ?_)))))))), ?_⟩
    · rw [decide_eq_false hc3]
      simp only [abacusref05_Fma.l29, abacusref05_Fma.b29]
      exact Ev_neg (by simp) d1
    · rw [if_neg n4, if_neg (fun k => k.elim (fun k => ha3 k.1) (fun k => hb3 k.2)), if_neg (fun k => k.1.elim ha3 hb3), if_neg (fun k => k.elim ha3 hb3), if_neg hc3]
      exact d2
/-! ### the law -/
theorem k1 : Ev (fun k _ _ => soft_Fma.f k 4611686018427387904 4613937818241073152 4613937818241073152) 4621256167635550208 := Ev_at 3000 fun d => by kernel_rfl
theorem k2 : Ev (fun k _ _ => soft_Sqrt.f k 4621256167635550208) 4613937818241073152 := Ev_at 6000 fun d => by kernel_rfl
theorem two_fmas {a b c : Int} (ha : U a) (hb : U b) (hc : U c) : ∃ d, Ev (fun k _ _ => soft_Fma.f k a b c) d ∧ Ev (fun k _ _ => abacusref05_Fma.f k a b c) d := by
  obtain ⟨d, h1, h2⟩ := Fma_tot (K := 1074) rfl ha hb hc
  obtain ⟨d', h3, h4⟩ := rFma_ev (K := 1074) rfl ha hb hc
  exact ⟨d, h1, by rw [h2.unique h4]; exact h3⟩
theorem two_roots {a : Int} (ha : U a) : ∃ d, Ev (fun k _ _ => soft_Sqrt.f k a) d ∧ Ev (fun k _ _ => abacusref05_Sqrt.f k a) d := by
  obtain ⟨d, h1, h2⟩ := Sqrt_tot (K := 1074) rfl ha
  obtain ⟨d', h3, h4⟩ := rSqrt_ev (K := 1074) rfl ha
  exact ⟨d, h1, by rw [h2.unique h4]; exact h3⟩
theorem SoftFmas {n : Int} {A C D : List Int} (hn : 0 ≤ n ∧ n ≤ 140737488351232) (h : ∀ j, 0 ≤ j → j < n → U (rd A j) ∧ U (rd C j) ∧ U (rd D j)) : ∃ k, abacuslaw05_SoftFmas.f k n A C D = some true := by
  refine Ev.rounds ?_
  simp only [abacuslaw05_SoftFmas.f, abacuslaw05_SoftFmas.b0]
  obtain ⟨N, rfl⟩ := Int.eq_ofNat_of_zero_le hn.1
  refine Ev.bind k1 (Ev_neg (by simp) (Ev.bind k2 (Ev_neg (by simp) ?_)))
  refine Ev_in (g := fun k m _ => abacuslaw05_SoftFmas.l117 k m (N : Int) A C D 0) ?_
  have go (d : Nat) : ∀ i : Nat, i + d = N → Ev (fun k m _ => abacuslaw05_SoftFmas.l117 k m (N : Int) A C D (i : Int)) true := by
    induction d with
    | zero =>
      intro i hi
      refine Ev_succ ?_
      simp only [abacuslaw05_SoftFmas.l117, abacuslaw05_SoftFmas.b117]
      exact Ev_neg (by omega) (Ev.now _)
    | succ d ih =>
      intro i hi
      obtain ⟨ua, ub, uc⟩ := h i (by omega) (by omega)
      have e1 : wrap64 ((i : Int) + 1) = ((i + 1 : Nat) : Int) := by unfold wrap64; omega
      have next := ih (i + 1) (by omega)
      obtain ⟨x1, a1, b1⟩ := two_fmas ua ub uc
      obtain ⟨x2, a2, b2⟩ := two_roots ua
      obtain ⟨x3, a3, b3⟩ := two_roots ub
      refine Ev_succ ?_
      simp only [abacuslaw05_SoftFmas.l117, abacuslaw05_SoftFmas.b117, e1]
      exact Ev_pos (by omega) (Ev_pos (by omega) (Ev_pos (by omega) (Ev.bind a1 (Ev.bind b1 (Ev_neg (fun k => k rfl) (Ev.bind a2 (Ev.bind b2 (Ev_neg (fun k => k rfl) (Ev.bind a3 (Ev.bind b3 (Ev_neg (fun k => k rfl) next)))))))))))
  exact go N 0 (by omega)
end Go.Proofs.YtogkhfalgiajkaaDoor.Pure
