/- What Sqrt of soft answers of finite doubles: the double whose neighbours' middles hold the root between them. No conditions. -/
import Derived.Test.YtcacmhcekoeblaaDoorQSoftDiv
namespace Go.Proofs.YtcacmhcekoeblaaDoor.SoftSqrt
open Go.RowKit Go.Proofs.YtcacmhcekoeblaaDoor.Lib Go.Proofs.YtcacmhcekoeblaaDoor.LibB Go.Proofs.YtcacmhcekoeblaaDoor.F Go.Proofs.YtcacmhcekoeblaaDoor.Nat1 Go.Proofs.YtcacmhcekoeblaaDoor.Nat2 Go.Proofs.YtcacmhcekoeblaaDoor.Bits Go.Proofs.YtcacmhcekoeblaaDoor.Ieee1 Go.Proofs.YtcacmhcekoeblaaDoor.Mag Go.Proofs.YtcacmhcekoeblaaDoor.Ieee2 Go.Proofs.YtcacmhcekoeblaaDoor.Soft1 Go.Proofs.YtcacmhcekoeblaaDoor.Soft2 Go.Proofs.YtcacmhcekoeblaaDoor.SoftDiv Go.Proofs.YtcacmhcekoeblaaDoor.Rnd
open Go.Proofs.YtcacmhcekoeblaaDoorA (rd ln ln_eq mx mn shl shr wr wr_eq)
set_option linter.unusedVariables false
set_option linter.unusedSimpArgs false
/-- The exponent that is halved. -/
theorem sqrt_up (e : Int) (h : -1100 ≤ e ∧ e ≤ 2000) : ∃ u h' : Int, (u = 118 ∨ u = 119) ∧ e - u = 2 * h' ∧ (if ¬ Int.tmod (wrap64 (e - 118)) 2 = 0 then (119 : Int) else 118) = u ∧ wrap64 (Int.tdiv (wrap64 (e - u)) 2) = h' := by
  have w : ∀ u, (u = 118 ∨ u = 119) → wrap64 (e - u) = e - u := fun u hu => by unfold wrap64; omega
  rw [w 118 (.inl rfl)]
  rcases (by omega : (e - 118) % 2 = 0 ∨ (e - 118) % 2 = 1) with h0 | h0
  · refine ⟨118, (e - 118) / 2, .inl rfl, by omega, ?_, ?_⟩
    · rw [if_neg]
      intro hn
      exact hn (Int.tmod_eq_zero_of_dvd (Int.dvd_of_emod_eq_zero h0))
    · rw [w 118 (.inl rfl), show e - 118 = (e - 118) / 2 * 2 by omega, Int.mul_tdiv_cancel _ (by decide), show (e - 118) / 2 * 2 / 2 = (e - 118) / 2 by omega]
      unfold wrap64; omega
  · refine ⟨119, (e - 119) / 2, .inr rfl, by omega, ?_, ?_⟩
    · rw [if_pos]
      intro hn
      have := Int.emod_eq_zero_of_dvd (Int.dvd_of_tmod_eq_zero hn)
      omega
    · rw [w 119 (.inr rfl), show e - 119 = (e - 119) / 2 * 2 by omega, Int.mul_tdiv_cancel _ (by decide), show (e - 119) / 2 * 2 / 2 = (e - 119) / 2 by omega]
      unfold wrap64; omega
theorem blen_root {r n k : Nat} (h : n < (r + 1) * (r + 1)) (hn : 2 ^ (2 * k) ≤ n) : 2 ^ k ≤ r := by
  rcases Nat.lt_or_ge r (2 ^ k) with h1 | h1
  · have := sq_le (show r + 1 ≤ 2 ^ k from h1)
    rw [← Nat.pow_add, show k + k = 2 * k by omega] at this
    omega
  · exact h1
theorem root_small {r n k : Nat} (h : r * r ≤ n) (hn : n < 2 ^ (2 * k)) : r < 2 ^ k := by
  rcases Nat.lt_or_ge r (2 ^ k) with h1 | h1
  · exact h1
  · have := sq_le h1
    rw [← Nat.pow_add, show k + k = 2 * k by omega] at this
    omega
/-- The place of the root: above nothing and below the infinity. -/
theorem root_place {p X Y F : Nat} (hF : F = 2098) (hY : 0 < Y) (h : Near p X Y) (h1 : Y ≤ X) (h2 : 2 * X < 2 ^ F * Y) : p ≠ 0 ∧ p < inf := by
  constructor
  · intro h0
    subst h0
    have := h.hi (by unfold inf; omega)
    rw [uni_zero, uni_one, Nat.zero_add, Nat.one_mul] at this
    omega
  · have ht := h.top
    rcases Nat.lt_or_ge p inf with h3 | h3
    · exact h3
    · exfalso
      have he : p = inf := by omega
      have hl := h.lo (by rw [he]; unfold inf; omega)
      have hi : uni inf = 2 ^ F := by
        rw [uni_inf (E := F - 52) (by omega), show (4503599627370496 : Nat) = 2 ^ 52 from rfl, ← Nat.pow_add]
        congr 1; omega
      rw [he, Nat.add_mul, hi] at hl
      omega
theorem sqrt_near {m r : Nat} {e u h' : Int} {K : Nat} (hK : K = 1074) (he : -1074 ≤ e ∧ e ≤ 971) (hu : 118 ≤ u ∧ u ≤ 121) (hh : e - u = 2 * h') (hm : m ≠ 0) (hm2 : m < 9007199254740992) (h1 : r * r ≤ m * 2 ^ u.toNat) (h2 : m * 2 ^ u.toNat < (r + 1) * (r + 1)) :
    RootNear (rnd r h' (!decide (r * r = m * 2 ^ u.toNat))) (m * 2 ^ (e + 1074).toNat * 2 ^ K) := by
  obtain ⟨U, hU⟩ : ∃ U : Nat, u.toNat = U := ⟨_, rfl⟩
  rw [hU] at h1 h2 ⊢
  have hU2 : 118 ≤ U ∧ U ≤ 121 := by omega
  have r0 : 2 ^ 59 ≤ r := blen_root (k := 59) h2 (Nat.le_trans (Nat.pow_le_pow_right (by omega) (by omega)) (Nat.le_mul_of_pos_left _ (by omega)))
  have r1 : r < 2 ^ 87 := root_small (k := 87) h1 (by
    have : m * 2 ^ U < 2 ^ 53 * 2 ^ U := Nat.mul_lt_mul_of_pos_right hm2 (Nat.pow_pos (by omega))
    rw [← Nat.pow_add] at this
    exact Nat.lt_of_lt_of_le this (Nat.pow_le_pow_right (by omega) (by omega)))
  obtain ⟨a, ha⟩ : ∃ a : Nat, (a : Int) = h' + 1074 := ⟨(h' + 1074).toNat, by omega⟩
  have hab : (a : Int) - ((0 : Nat) : Int) = h' + 1074 := by omega
  have hA : 0 < 2 ^ a := Nat.pow_pos (by omega)
  have hV : m * 2 ^ U * (2 ^ a * 2 ^ a) = m * 2 ^ (e + 1074).toNat * 2 ^ K * (1 * 1) := by
    rw [Nat.mul_one, ← Nat.pow_add, Nat.mul_assoc, Nat.mul_assoc, ← Nat.pow_add, ← Nat.pow_add]
    congr 2
    omega
  obtain ⟨F, hF⟩ : ∃ F, F = 2098 := ⟨_, rfl⟩
  have hb : 60 ≤ blen r := by
    rcases Nat.lt_or_ge (blen r) 60 with h3 | h3
    · have := (blen_le r 59).1 (by omega)
      omega
    · exact h3
  have big : ∀ x, x ≤ 2 ^ 87 → 2 * (x * 2 ^ a) < 2 ^ F * 1 := by
    intro x hx
    have k1 : x * 2 ^ a ≤ 2 ^ 87 * 2 ^ a := Nat.mul_le_mul_right _ hx
    rw [← Nat.pow_add] at k1
    have k2 : 2 ^ (87 + a) * 2 < 2 ^ F := by
      rw [← Nat.pow_succ]
      exact Nat.pow_lt_pow_right (by omega) (by omega)
    omega
  by_cases hex : r * r = m * 2 ^ U
  · rw [decide_eq_true hex, Bool.not_true]
    have hn := rnd_near r h' hab
    rw [Nat.pow_zero] at hn
    obtain ⟨p0, pt⟩ := root_place hF (by omega) hn (Nat.mul_pos (by omega) hA) (big r (Nat.le_of_lt r1))
    refine root_exact (by omega) hn ?_ p0 pt
    rw [mul_sq, hex, hV]
  · rw [decide_eq_false hex, Bool.not_false]
    have hn : ∀ X Y, 0 < Y → r * 2 ^ a * Y < X * 1 → X * 1 < (r + 1) * 2 ^ a * Y → Near (rnd r h' true) X Y := by
      intro X Y hY k1 k2
      refine rnd_more r h' hab (by omega) hY (.inr ?_) (by rw [Nat.pow_zero]; exact k1) (by rw [Nat.pow_zero]; exact k2)
      unfold unitOf
      split <;> omega
    have hz := hn ((2 * r + 1) * 2 ^ a) 2 (by omega) (by rw [Nat.mul_one, Nat.mul_right_comm]; exact Nat.mul_lt_mul_of_pos_right (by omega) hA) (by rw [Nat.mul_one, Nat.mul_right_comm]; exact Nat.mul_lt_mul_of_pos_right (by omega) hA)
    have hz1 : 2 ≤ (2 * r + 1) * 2 ^ a := Nat.le_trans (show 2 ≤ 2 * r + 1 by omega) (Nat.le_mul_of_pos_right _ hA)
    have hz2 : 2 * ((2 * r + 1) * 2 ^ a) < 2 ^ F * 2 := by
      have k1 := big (r + 1) r1
      have k2 : (2 * r + 1) * 2 ^ a ≤ 2 * (r + 1) * 2 ^ a := Nat.mul_le_mul_right _ (by omega)
      rw [Nat.mul_assoc 2] at k2
      omega
    obtain ⟨p0, pt⟩ := root_place hF (by omega) hz hz1 hz2
    exact root_between hA (by omega) hn (by omega) h2 hV p0 pt
theorem sqrt_ev {a b c : Int} {K : Nat} (hK : K = 1074) (ha : U a) (fa : fin a) (hs : sgn a = false) (a0 : plc a ≠ 0) : ∃ p f, Ev (fun k _ _ => soft_sqrt.f k a b c) ((p : Nat), f) ∧ RootNear p (uni (plc a) * 2 ^ K) := by
  have na := cls_small fa a0
  have ea := exp_range fa
  have ma := man_any a
  have m0 := man_pos fa a0
  obtain ⟨u, h', hu, hh, hif, hw⟩ := sqrt_up (expOf a) (by omega)
  obtain ⟨U', hU⟩ : ∃ U' : Nat, u = (U' : Int) := ⟨u.toNat, by omega⟩
  have hUn : u.toNat = U' := by omega
  have sa := small_limit (n := (manOf a).toNat) (by omega)
  have hlt : (manOf a).toNat * 2 ^ U' < 2 ^ (53 + U') := (lift2 (m := (manOf a).toNat) (k := U') (by omega) (by omega)).1
  have hB : (manOf a).toNat * 2 ^ U' < B 256 := lt_B' hlt (by omega)
  have hB4 : (manOf a).toNat * 2 ^ U' < B 4096 := Nat.lt_of_lt_of_le hB (B_mono (by omega))
  have hsh := shl_lim (a := (manOf a).toNat) (n := U') sa hB4 (by omega)
  have lr := len_lim' hB4
  obtain ⟨r, h1, h2, hr⟩ := Go.Proofs.YtcacmhcekoeblaaDoor.Quot1.quot_Root_ev (a := lim ((manOf a).toNat * 2 ^ U')) (ok_lim _) (by omega)
  rw [val_lim] at h1 h2 hr
  rw [if_pos hB] at hr
  have rn := sqrt_near (r := r) hK ea (by omega) hh m0 (by omega) (by rw [hUn]; exact h1) (by rw [hUn]; exact h2)
  rw [← uni_parts fa, hUn] at rn
  have rB : r < B 4096 := by
    have := root_small (k := 100) h1 (Nat.lt_of_lt_of_le hlt (Nat.pow_le_pow_right (by omega) (by omega)))
    exact lt_B' this (by omega)
  have rl := len_lim' rB
  have hround := limb_ev (n := r) (neg := false) (e := h') (more := !decide (r * r = (manOf a).toNat * 2 ^ U')) rB
  have hput : put false (rnd r h' (!decide (r * r = (manOf a).toNat * 2 ^ U'))) = ((rnd r h' (!decide (r * r = (manOf a).toNat * 2 ^ U')) : Nat) : Int) := rfl
  rw [hput] at hround
  have tail : ∃ f, Ev (fun k _ _ => soft_sqrt.l63 k u (sgn a) (cls a) (manOf a) (expOf a)) (((rnd r h' (!decide (r * r = (manOf a).toNat * 2 ^ U')) : Nat) : Int), f) := by
    simp only [soft_sqrt.l63, soft_sqrt.b63, hw]
    rw [hU]
    by_cases hex : r * r = (manOf a).toNat * 2 ^ U'
    · rw [decide_eq_true hex] at hr hround ⊢
      have b1 := nat_BitLen_ev (l := lim r) (ok_lim r) (by omega)
      have b2 := nat_Trail_ev (l := lim r) (ok_lim r) (by omega)
      by_cases hc : wrap64 ((blen (val (lim r)) : Int) - ((tz (val (lim r)) : Nat) : Int)) ≤ 53
      · exact ⟨0, Ev_bind_eq (FromUint_man a) (Ev.bind hsh (Ev.bind hr (Ev.bind hround (Ev_pos rfl (Ev.bind b1 (Ev.bind b2 (Ev_pos hc (Ev_some rfl))))))))⟩
      · exact ⟨16, Ev_bind_eq (FromUint_man a) (Ev.bind hsh (Ev.bind hr (Ev.bind hround (Ev_pos rfl (Ev.bind b1 (Ev.bind b2 (Ev_neg hc (Ev_some rfl))))))))⟩
    · rw [decide_eq_false hex] at hr hround ⊢
      exact ⟨16, Ev_bind_eq (FromUint_man a) (Ev.bind hsh (Ev.bind hr (Ev.bind hround (Ev_neg (by simp) (Ev_some rfl)))))⟩
  obtain ⟨f, hf⟩ := tail
  refine ⟨_, f, ?_, rn⟩
  simp only [soft_sqrt.f, soft_sqrt.b0]
  refine Ev_bind_eq (Decode_eq ha) (Ev_neg na.2.2 (Ev_neg na.1 (Ev_neg (by simp [hs]) (Ev_neg na.2.1 ?_))))
  dsimp only
  by_cases hc : ¬ Int.tmod (wrap64 (expOf a - 118)) 2 = 0
  · rw [if_pos hc] at hif
    rw [hif]
    exact Ev_pos hc hf
  · rw [if_neg hc] at hif
    rw [hif]
    exact Ev_neg (by rw [← hif]; exact hc) hf
theorem Sqrt_ev {a : Int} {K : Nat} (hK : K = 1074) (ha : U a) (fa : fin a) (hs : sgn a = false) (a0 : plc a ≠ 0) : ∃ p : Nat, Ev (fun k _ _ => soft_Sqrt.f k a) (p : Int) ∧ RootNear p (uni (plc a) * 2 ^ K) := by
  obtain ⟨p, f, h1, h2⟩ := sqrt_ev (b := 0) (c := 0) hK ha fa hs a0
  refine ⟨p, ?_, h2⟩
  simp only [soft_Sqrt.f, soft_Sqrt.b0]
  exact Ev.bind h1 (Ev_some rfl)
end Go.Proofs.YtcacmhcekoeblaaDoor.SoftSqrt
