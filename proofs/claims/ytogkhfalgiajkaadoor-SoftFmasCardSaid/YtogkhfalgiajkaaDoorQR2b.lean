/- The second reference's root: two bits are brought down at a time, one bit of the root is found. Conditions: a list of limbs below 2^64, of a length that a slice has. -/
import Derived.Test.YtogkhfalgiajkaaDoorQR2
namespace Go.Proofs.YtogkhfalgiajkaaDoor.R2
open Go.RowKit Go.Proofs.YtogkhfalgiajkaaDoor.Lib Go.Proofs.YtogkhfalgiajkaaDoor.LibB Go.Proofs.YtogkhfalgiajkaaDoor.F Go.Proofs.YtogkhfalgiajkaaDoor.Nat1 Go.Proofs.YtogkhfalgiajkaaDoor.Nat2 Go.Proofs.YtogkhfalgiajkaaDoor.Bits
open Go.Proofs.YtogkhfalgiajkaaDoorA (rd ln ln_eq mx mn shl shr wr wr_eq)
set_option linter.unusedVariables false
set_option linter.unusedSimpArgs false
theorem and3 {n : Nat} (h : n < 18446744073709551616) : Go.bits .and .u64 (n : Int) 3 = ((n % 4 : Nat) : Int) := by
  rw [u64_and _ _ (by omega) (by omega) (by omega) (by omega), show (3 : Int).toNat = 2 ^ 2 - 1 by decide, Nat.and_two_pow_sub_one_eq_mod]
  omega
theorem and1 {n : Nat} (h : n < 18446744073709551616) : Go.bits .and .u64 (n : Int) 1 = ((n % 2 : Nat) : Int) := by
  rw [u64_and _ _ (by omega) (by omega) (by omega) (by omega), show (1 : Int).toNat = 2 ^ 1 - 1 by decide, Nat.and_two_pow_sub_one_eq_mod]
  omega
theorem four_of {X Y : Nat} (h1 : X % 2 = Y % 2) (h2 : X / 2 % 2 = Y / 2 % 2) : X % 4 = Y % 4 := by omega
theorem pair_val {l : List Int} (h : ok l) (i : Nat) : val l / 2 ^ (2 * i) % 4 = (rd l ((i / 32 : Nat) : Int)).toNat / 2 ^ (2 * (i % 32)) % 4 := by
  have b1 := bit_val h (i / 32) (2 * (i % 32)) (by omega)
  have b2 := bit_val h (i / 32) (2 * (i % 32) + 1) (by omega)
  rw [← Nat.add_assoc, Nat.pow_succ, Nat.pow_succ, ← Nat.div_div_eq_div_mul, ← Nat.div_div_eq_div_mul] at b2
  rw [show 2 * i = 64 * (i / 32) + 2 * (i % 32) by omega]
  exact four_of b1 b2
theorem pair_next (A i : Nat) : A / 2 ^ (2 * i) = 4 * (A / 2 ^ (2 * (i + 1))) + A / 2 ^ (2 * i) % 4 := by
  rw [show 2 * (i + 1) = 2 * i + 2 by omega, Nat.pow_add, ← Nat.div_div_eq_div_mul]
  omega
theorem sq2 (r : Nat) : 2 * r * (2 * r) = 4 * (r * r) := by rw [Nat.mul_mul_mul_comm]
theorem sq1 (r : Nat) : (r + 1) * (r + 1) = r * r + 2 * r + 1 := by
  rw [Nat.add_mul, Nat.mul_add]; omega
theorem sq3 (r : Nat) : (2 * r + 1) * (2 * r + 1) = 4 * (r * r) + 4 * r + 1 := by
  rw [sq1, sq2]; omega
theorem sq4 (r : Nat) : (2 * r + 1 + 1) * (2 * r + 1 + 1) = 4 * (r * r) + 8 * r + 4 := by
  rw [sq1 (2 * r + 1), sq3]; omega
theorem root_step {A r t A1 q : Nat} (h1 : r * r ≤ A1) (h2 : A1 < (r + 1) * (r + 1)) (ht : t = A1 - r * r) (hA : A = 4 * A1 + q) (hq : q < 4) :
    (4 * r + 1 ≤ 4 * t + q → (2 * r + 1) * (2 * r + 1) ≤ A ∧ A < (2 * r + 1 + 1) * (2 * r + 1 + 1) ∧ 4 * t + q - (4 * r + 1) = A - (2 * r + 1) * (2 * r + 1)) ∧
    (4 * t + q < 4 * r + 1 → 2 * r * (2 * r) ≤ A ∧ A < (2 * r + 1) * (2 * r + 1) ∧ 4 * t + q = A - 2 * r * (2 * r)) ∧ r ≤ r * r ∧ 4 * t + q ≤ A := by
  have h3 : r ≤ r * r := by
    cases r with
    | zero => exact Nat.le_refl _
    | succ r => exact Nat.le_mul_of_pos_left _ (by omega)
  rw [sq4, sq3, sq2]
  rw [sq1] at h2
  generalize r * r = S at *
  omega
theorem pad_l {a : List Int} {i : Int} {r T V : Nat} {R : List Int × Bool × Int} (hT : (lim T).length ≤ 4096) (hV : (lim V).length ≤ (lim T).length)
    (cont : Ev (fun k m _ => abacusref02_Root.l518461 k (abacusref02_Root.l1013 k m) a i (lim r) (lim T) (lim V ++ List.replicate ((lim T).length - (lim V).length) 0)) R) (d : Nat) : ∀ w, w + d = (lim T).length - (lim V).length →
    Ev (fun k m p => abacusref02_Root.l2073841 k (abacusref02_Root.l1013 k m) p a i (lim r) (lim T) (lim V ++ List.replicate w 0)) R := by
  induction d with
  | zero =>
    intro w hw
    refine Ev_succ2 ?_
    simp only [abacusref02_Root.l2073841, abacusref02_Root.b2073841, ln_eq]
    rw [Nat.add_zero] at hw
    subst hw
    exact Ev_neg (by rw [List.length_append, List.length_replicate]; omega) cont
  | succ d ih =>
    intro w hw
    refine Ev_succ2 ?_
    simp only [abacusref02_Root.l2073841, abacusref02_Root.b2073841, ln_eq]
    have hs : lim V ++ List.replicate w (0 : Int) ++ [0] = lim V ++ List.replicate (w + 1) 0 := by rw [List.append_assoc, ← List.replicate_succ']
    have hl : (lim V ++ List.replicate w (0 : Int)).length = (lim V).length + w := by rw [List.length_append, List.length_replicate]
    rw [hs]
    exact Ev_pos (by rw [hl]; omega) (Ev_pos (by rw [hl]; omega) (ih (w + 1) (by omega)))
theorem small_len {n : Nat} (h : n < B 256) : (lim n).length ≤ 256 := (lim_len_le n 256).2 h
theorem dbl_lim {n b : Nat} {x : Int} (hx : x = (b : Int)) (hb : b ≤ 1) (h : (lim n).length ≤ 4096) : ∃ r, Ev (fun k _ _ => abacusref02_doubled.f k (lim n) x) r ∧ ok r ∧ r.length ≤ 4097 ∧ val r = 2 * n + b := by
  obtain ⟨r, h1, h2, h3, h4⟩ := doubled_ev hx hb (ok_lim n) (by omega)
  rw [val_lim] at h4
  exact ⟨r, h1, h2, by omega, h4⟩
theorem dbl_more {l : List Int} {n b : Nat} {x : Int} (hx : x = (b : Int)) (hb : b ≤ 1) (h : ok l) (hl : l.length ≤ 4097) (hn : val l = n) : ∃ r, Ev (fun k _ _ => abacusref02_doubled.f k l x) r ∧ ok r ∧ r.length ≤ 4098 ∧ val r = 2 * n + b := by
  obtain ⟨r, h1, h2, h3, h4⟩ := doubled_ev hx hb h (by omega)
  rw [hn] at h4
  exact ⟨r, h1, h2, by omega, h4⟩
theorem short_of {l : List Int} {n : Nat} (h : ok l) (hl : l.length ≤ 4098) (hn : val l = n) : Ev (fun k _ _ => abacusref02_Short.f k l) (lim n) := by
  have := Short_ev h (by omega)
  rwa [hn] at this
theorem len_mono {m n : Nat} (h : m ≤ n) : (lim m).length ≤ (lim n).length := (lim_len_le _ _).2 (Nat.lt_of_le_of_lt h ((lim_len_le n _).1 (Nat.le_refl _)))
/-- One digit of the root that is 1. -/
theorem root_one {a : List Int} {i : Int} {r T V : Nat} {R : List Int × Bool × Int} (hT : (lim T).length ≤ 4096) (hr : (lim r).length ≤ 4096) (hVT : V ≤ T) (hV : 0 < V)
    (ih : Ev (fun k m _ => abacusref02_Root.l1013 k m a (wrap64 (i - 1)) (lim (2 * r + 1)) (lim (T - V))) R) :
    Ev (fun k m p => abacusref02_Root.l2073841 k (abacusref02_Root.l1013 k m) p a i (lim r) (lim T) (lim V)) R := by
  have hl := len_mono hVT
  have h := pad_l (a := a) (i := i) (r := r) (R := R) hT hl ?_ _ 0 (Nat.zero_add _)
  · simpa using h
  · simp only [abacusref02_Root.l518461, abacusref02_Root.b518461, ln_eq]
    have hp : (lim V ++ List.replicate ((lim T).length - (lim V).length) (0 : Int)).length = (lim T).length := by rw [List.length_append, List.length_replicate]; omega
    have hv : val (lim V ++ List.replicate ((lim T).length - (lim V).length) (0 : Int)) = V := by rw [val_append, val_replicate, val_lim, Nat.mul_zero, Nat.add_zero]
    obtain ⟨ys, e1, o1, l1, v1⟩ := takeOff_all (us := lim T) (ok_append (ok_lim V) (ok_replicate _)) (ok_lim T) hp (by omega) (by rw [hv, val_lim]; exact hVT)
    rw [hv, val_lim] at v1
    obtain ⟨z, e2, o2, l2, v2⟩ := dbl_lim (n := r) (b := 1) (x := 1) rfl (Nat.le_refl _) hr
    have hz := @lim_len_zero T
    have f1 := short_of o1 (by omega) v1
    exact Ev_pos (by omega) (Ev.bind e1 (Ev.bind f1 (Ev.bind e2 (Ev.bind (short_of o2 (by omega) v2) ih))))
theorem idx_facts {i L n : Nat} (hi : i + 1 ≤ 32 * L) (hle : L ≤ n) (hn : L ≤ 256) : i / 32 < n ∧ i ≤ 8192 ∧ i ≤ 32 * L := by omega
theorem idx_w {i : Nat} (h : i ≤ 8192) : wrap64 (Int.tdiv (i : Int) 32) = ((i / 32 : Nat) : Int) ∧ IntKind.u64.wrap (wrap64 (2 * Int.tmod (i : Int) 32)) = ((2 * (i % 32) : Nat) : Int) ∧ wrap64 ((i : Int) - 1) = (i : Int) - 1 ∧ ((i + 1 : Nat) : Int) - 1 = (i : Int) := by
  rw [Int.tdiv_eq_ediv_of_nonneg (by omega), Int.tmod_eq_emod_of_nonneg (by omega), IntKind.wrap_u64]
  unfold wrap64
  omega
theorem q_facts {q : Nat} (h : q < 4) : (q : Int) / 2 = ((q / 2 : Nat) : Int) ∧ q / 2 ≤ 1 ∧ q % 2 ≤ 1 ∧ q < 18446744073709551616 := by omega
theorem v_fact (t q : Nat) : 2 * (2 * t + q / 2) + q % 2 = 4 * t + q := by omega
theorem v_fact2 (r : Nat) : 2 * (2 * r + 0) + 1 = 4 * r + 1 := by omega
theorem zero_iff {L t A S : Nat} (hz : L = 0 ↔ t = 0) (h1 : S ≤ A) (ht : t = A - S) : ((L : Int) = 0) ↔ S = A := by omega
theorem i_sh (i : Nat) : 2 * (i % 32) ≤ 64 := by omega
theorem root_l {a : List Int} (ha : ok a) (hla : a.length ≤ 35184372088832) (hA : val a < B 256) (i : Nat) : ∀ (r t : Nat), i ≤ 32 * (lim (val a)).length → r * r ≤ val a / 2 ^ (2 * i) → val a / 2 ^ (2 * i) < (r + 1) * (r + 1) → t = val a / 2 ^ (2 * i) - r * r →
    ∃ s, s * s ≤ val a ∧ val a < (s + 1) * (s + 1) ∧ Ev (fun k m _ => abacusref02_Root.l1013 k m a ((i : Int) - 1) (lim r) (lim t)) (lim s, decide (s * s = val a), 0) := by
  have hn := small_len hA
  have hle := lim_len_val_le ha
  induction i with
  | zero =>
    intro r t _ h1 h2 ht
    rw [Nat.mul_zero, Nat.pow_zero, Nat.div_one] at h1 h2 ht
    refine ⟨r, h1, h2, Ev_succ ?_⟩
    simp only [abacusref02_Root.l1013, abacusref02_Root.b1013, abacusref02_Root.l127, abacusref02_Root.b127]
    have lt := small_len (n := t) (by rw [ht]; exact Nat.lt_of_le_of_lt (Nat.sub_le _ _) hA)
    have tp := abacusref02_Top_ev (ok_lim t) (Nat.le_trans lt (by decide))
    rw [val_lim] at tp
    have hz := zero_iff (@lim_len_zero t) h1 ht
    refine Ev_neg (by decide) (Ev.bind tp (Ev_some ?_))
    rw [decide_eq_decide.2 hz]
  | succ i ih =>
    intro r t hi h1 h2 ht
    obtain ⟨hi32, hi8, hi0⟩ := idx_facts hi hle hn
    obtain ⟨w1, w2, w3, e0⟩ := idx_w hi8
    obtain ⟨x, hx, hxl⟩ := nat_rd ha (i / 32)
    have pv := pair_val ha i
    rw [hx, Int.toNat_natCast] at pv
    have hA' := pair_next (val a) i
    have hdl : val a / 2 ^ (2 * i) ≤ val a := Nat.div_le_self _ _
    have hdl1 : val a / 2 ^ (2 * (i + 1)) ≤ val a := Nat.div_le_self _ _
    have hq4 : val a / 2 ^ (2 * i) % 4 < 4 := Nat.mod_lt _ (by decide)
    have sh : Go.bits .and .u64 (shr .u64 (rd a ((i / 32 : Nat) : Int)) ((2 * (i % 32) : Nat) : Int)) 3 = ((val a / 2 ^ (2 * i) % 4 : Nat) : Int) := by
      rw [shr_u64 (i_sh i), hx, ← Int.natCast_ediv, and3 (Nat.lt_of_le_of_lt (Nat.div_le_self _ _) hxl), ← pv]
    clear pv hx hxl
    have ih' := ih
    clear ih
    generalize val a / 2 ^ (2 * i) % 4 = q at *
    obtain ⟨q2, q3, q4, q5⟩ := q_facts hq4
    have q1 : Go.bits .and .u64 (q : Int) 1 = ((q % 2 : Nat) : Int) := and1 q5
    obtain ⟨s1, s2, s3, s4⟩ := root_step h1 h2 ht hA' hq4
    have rA : r ≤ val a := Nat.le_trans s3 (Nat.le_trans h1 hdl1)
    have tA : t ≤ val a := by rw [ht]; exact Nat.le_trans (Nat.sub_le _ _) hdl1
    have TA : 4 * t + q ≤ val a := Nat.le_trans s4 hdl
    have lr : (lim r).length ≤ 256 := Nat.le_trans (len_mono rA) hn
    have lt : (lim t).length ≤ 256 := Nat.le_trans (len_mono tA) hn
    have lT : (lim (4 * t + q)).length ≤ 256 := Nat.le_trans (len_mono TA) hn
    clear hA' hdl hdl1 h1 h2 ht rA tA TA s3 s4
    obtain ⟨d1, e1, o1, l1, v1⟩ := dbl_lim (n := t) (b := q / 2) rfl q3 (Nat.le_trans lt (by decide))
    obtain ⟨d2, e2, o2, l2, v2⟩ := dbl_more (b := q % 2) rfl q4 o1 l1 v1
    obtain ⟨d3, e3, o3, l3, v3⟩ := dbl_lim (n := r) (b := 0) (x := 0) rfl (by decide) (Nat.le_trans lr (by decide))
    obtain ⟨d4, e4, o4, l4, v4⟩ := dbl_more (b := 1) (x := 1) rfl (by decide) o3 l3 v3
    have f2 := short_of o2 l2 (v2.trans (v_fact t q))
    have f4 := short_of o4 l4 (v4.trans (v_fact2 r))
    have f3 := short_of o3 (Nat.le_trans l3 (by decide)) (n := 2 * r) v3
    have lV : (lim (4 * r + 1)).length ≤ 4098 := by
      have h5 := val_lt o4
      rw [v4, v_fact2] at h5
      exact Nat.le_trans ((lim_len_le _ _).2 h5) l4
    have oc := order_lim (u := 4 * t + q) (v := 4 * r + 1) (Nat.le_trans lT (by decide)) (Nat.le_trans lV (by decide))
    clear v1 v2 v3 v4 l1 l2 l3 l4 o1 o2 o3 o4
    rcases Nat.lt_or_ge (4 * t + q) (4 * r + 1) with hc | hc
    · obtain ⟨g1, g2, g3⟩ := s2 hc
      obtain ⟨s, k1, k2, k3⟩ := ih' (2 * r) (4 * t + q) hi0 g1 g2 g3
      refine ⟨s, k1, k2, Ev_succ ?_⟩
      simp only [abacusref02_Root.l1013, abacusref02_Root.b1013, ln_eq, e0, w1, w2, w3, sh, q2, q1]
      rw [cmp_lt hc] at oc
      exact Ev_pos (Int.natCast_nonneg _) (Ev_pos (Int.natCast_nonneg _) (Ev_pos (nlt2 hi32) (Ev_pos (Int.natCast_nonneg _) (Ev.bind e1 (Ev.bind e2 (Ev.bind f2 (Ev.bind e3 (Ev.bind e4 (Ev.bind f4 (Ev.bind oc (Ev_neg (by decide) (Ev.bind e3 (Ev.bind f3 k3)))))))))))))
    · obtain ⟨g1, g2, g3⟩ := s1 hc
      obtain ⟨s, k1, k2, k3⟩ := ih' (2 * r + 1) (4 * t + q - (4 * r + 1)) hi0 g1 g2 g3
      refine ⟨s, k1, k2, Ev_succ ?_⟩
      simp only [abacusref02_Root.l1013, abacusref02_Root.b1013, ln_eq, e0, w1, w2, sh, q2, q1]
      have hcp : cmp (4 * t + q) (4 * r + 1) ≥ 0 := Int.not_lt.1 (fun h => absurd ((cmp_neg _ _).1 h) (Nat.not_lt.2 hc))
      rw [← w3] at k3
      refine Ev_pos (Int.natCast_nonneg _) (Ev_pos (Int.natCast_nonneg _) (Ev_pos (nlt2 hi32) (Ev_pos (Int.natCast_nonneg _) (Ev.bind e1 (Ev.bind e2 (Ev.bind f2 (Ev.bind e3 (Ev.bind e4 (Ev.bind f4 (Ev.bind oc (Ev_pos hcp ?_)))))))))))
      exact Ev_in2 (g := fun k m p => abacusref02_Root.l2073841 k (abacusref02_Root.l1013 k m) p a (i : Int) (lim r) (lim (4 * t + q)) (lim (4 * r + 1))) (root_one (Nat.le_trans lT (by decide)) (Nat.le_trans lr (by decide)) hc (Nat.succ_pos _) k3)
theorem Root_ev {a : List Int} (ha : ok a) (hla : a.length ≤ 35184372088832) : ∃ s, s * s ≤ val a ∧ val a < (s + 1) * (s + 1) ∧ Ev (fun k _ _ => abacusref02_Root.f k a) (if val a < B 256 then (lim s, decide (s * s = val a), 0) else ([], false, 2)) := by
  have hle := lim_len_val_le ha
  have lb := lim_len_le (val a) 256
  have tp := abacusref02_Top_ev ha (by omega)
  simp only [abacusref02_Root.f, abacusref02_Root.b0]
  by_cases hA : val a < B 256
  · have hn := lb.2 hA
    have z : val a / 2 ^ (2 * (32 * (lim (val a)).length)) = 0 := by
      refine Nat.div_eq_of_lt ?_
      rw [show 2 * (32 * (lim (val a)).length) = 64 * (lim (val a)).length by omega, ← B_two]
      exact (lim_len_le _ _).1 (Nat.le_refl _)
    obtain ⟨s, k1, k2, k3⟩ := root_l ha hla hA (32 * (lim (val a)).length) 0 0 (Nat.le_refl _) (by rw [z]; exact Nat.le_refl _) (by rw [z]; decide) (by rw [z])
    refine ⟨s, k1, k2, ?_⟩
    rw [if_pos hA]
    have w : wrap64 (wrap64 (32 * ((lim (val a)).length : Int)) - 1) = ((32 * (lim (val a)).length : Nat) : Int) - 1 := by
      rw [show wrap64 (32 * ((lim (val a)).length : Int)) = 32 * ((lim (val a)).length : Int) by unfold wrap64; omega]
      unfold wrap64; omega
    rw [lim_zero] at k3
    refine Ev.bind tp (Ev_neg (by omega) ?_)
    rw [w]
    exact (Ev_in (g := fun k m _ => abacusref02_Root.l1013 k m a (((32 * (lim (val a)).length : Nat) : Int) - 1) [] []) k3)
  · obtain ⟨s, k1, k2⟩ := Quot1.isq_ex (val a)
    refine ⟨s, k1, k2, ?_⟩
    rw [if_neg hA]
    refine Ev.bind tp (Ev_pos ?_ (Ev.now _))
    rcases Int.lt_or_le 256 ((lim (val a)).length : Int) with h | h
    · exact h
    · exact absurd (lb.1 (by omega)) hA
theorem root_same {A s r : Nat} (h1 : s * s ≤ A) (h2 : A < (s + 1) * (s + 1)) (h3 : r * r ≤ A) (h4 : A < (r + 1) * (r + 1)) : s = r := by
  rcases Nat.lt_trichotomy s r with h | h | h
  · have := Nat.mul_le_mul (show s + 1 ≤ r from h) (show s + 1 ≤ r from h)
    omega
  · exact h
  · have := Nat.mul_le_mul (show r + 1 ≤ s from h) (show r + 1 ≤ s from h)
    omega
end Go.Proofs.YtogkhfalgiajkaaDoor.R2
