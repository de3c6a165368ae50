/- Fmod's answer has a's sign, is less than b, and a less it is a whole multiple of b, for every input. No conditions. -/
import Derived.Test.YtcacmhcekoeblaaDoorQQuot1
import Derived.Test.YtcacmhcekoeblaaDoorQRemainSteps
namespace Go.Proofs.YtcacmhcekoeblaaDoor.Pure
open Go.RowKit Go.Proofs.YtcacmhcekoeblaaDoor.Lib Go.Proofs.YtcacmhcekoeblaaDoor.LibB Go.Proofs.YtcacmhcekoeblaaDoor.F Go.Proofs.YtcacmhcekoeblaaDoor.Nat1 Go.Proofs.YtcacmhcekoeblaaDoor.Nat2 Go.Proofs.YtcacmhcekoeblaaDoor.Bits Go.Proofs.YtcacmhcekoeblaaDoor.Div Go.Proofs.YtcacmhcekoeblaaDoor.Quot1 Go.Proofs.YtcacmhcekoeblaaDoor.Ieee1 Go.Proofs.YtcacmhcekoeblaaDoor.Mag Go.Proofs.YtcacmhcekoeblaaDoor.Ieee2 Go.Proofs.YtcacmhcekoeblaaDoor.Rnd Go.Proofs.YtcacmhcekoeblaaDoor.Rn
open Go.Proofs.YtcacmhcekoeblaaDoorA (rd ln ln_eq mx mn shl shr wr wr_eq)
set_option linter.unusedVariables false
set_option linter.unusedSimpArgs false
/-! ### residue -/
theorem rem64_ev {h l y : Int} (hh : 0 ≤ h) (hl : 0 ≤ l ∧ l < 18446744073709551616) (h0 : 0 < y) (hy : y < 18446744073709551616) :
    Ev (fun k _ _ => bits_Rem64.f k h l y) ((h * 18446744073709551616 + l) % y) := by
  simp only [bits_Rem64.f, bits_Rem64.b0]
  have e : Int.tmod h y = h % y := Int.tmod_eq_emod_of_nonneg hh
  refine Ev_neg (by omega) ?_
  rw [e]
  refine Ev.bind (div64_ev (Int.emod_nonneg _ (by omega)) hl hy (Int.emod_lt_of_pos _ h0)) (Ev_some ?_)
  show (h % y * 18446744073709551616 + l) % y = _
  rw [Int.add_emod, Int.mul_emod, Int.emod_emod, ← Int.mul_emod, ← Int.add_emod]
theorem step_pow {r b : Nat} {k s : Nat} (h : k ≤ s) : r * 2 ^ k % b * 2 ^ (s - k) % b = r * 2 ^ s % b := by
  rw [Nat.mod_mul_mod, Nat.mul_assoc, ← Nat.pow_add, show k + (s - k) = s by omega]
theorem residue_loop {b : Nat} (b0 : 0 < b) (hb : b < 18446744073709551616) (N : Nat) : ∀ s r : Nat, s ≤ N → r < 18446744073709551616 → s < 4096 → (s = 0 → r < b) →
    Ev (fun n m _ => remain_residue.l57 n m (s : Int) (b : Int) (r : Int)) ((r * 2 ^ s % b : Nat) : Int) := by
  induction N with
  | zero =>
    intro s r hs hr _ hz
    obtain rfl : s = 0 := by omega
    refine Ev_succ ?_
    simp only [remain_residue.l57, remain_residue.b57]
    refine Ev_neg (by omega) (Ev_some ?_)
    rw [Nat.pow_zero, Nat.mul_one, Nat.mod_eq_of_lt (hz rfl)]
  | succ N ih =>
    intro s r hs hr h4 hz
    refine Ev_succ ?_
    simp only [remain_residue.l57, remain_residue.b57]
    by_cases h0 : s = 0
    · subst h0
      refine Ev_neg (by omega) (Ev_some ?_)
      rw [Nat.pow_zero, Nat.mul_one, Nat.mod_eq_of_lt (hz rfl)]
    obtain ⟨k, hk, hk0, hks, hk3⟩ : ∃ k : Nat, mn (s : Int) 32 = (k : Int) ∧ 0 < k ∧ k ≤ s ∧ k ≤ 32 := by
      refine ⟨if 32 < s then 32 else s, ?_, ?_, ?_, ?_⟩
      · unfold mn; split <;> split <;> omega
      all_goals split <;> omega
    rw [hk]
    have hp : 0 < 2 ^ k := Nat.pow_pos (by omega)
    have hp2 : 2 ^ k ≤ 2 ^ 32 := Nat.pow_le_pow_right (by omega) hk3
    have hsh : shl .u64 1 (k : Int) = ((2 ^ k : Nat) : Int) := by
      rw [shl_u64 (by omega) (by omega), Int.one_mul]
      exact Int.emod_eq_of_lt (by omega) (by omega)
    rw [hsh]
    have hm := mul64 (a := (r : Int)) (b := ((2 ^ k : Nat) : Int)) (by omega) (by omega)
    refine Ev_pos (by omega) (Ev_pos (by omega) (Ev_bind_eq hm ?_))
    have e : (r : Int) * ((2 ^ k : Nat) : Int) = ((r * 2 ^ k : Nat) : Int) := by rw [Int.natCast_mul]
    rw [e]
    have hr2 := rem64_ev (h := ((r * 2 ^ k : Nat) : Int) / 18446744073709551616) (l := ((r * 2 ^ k : Nat) : Int) % 18446744073709551616) (y := (b : Int)) (by omega) (by omega) (by omega) (by omega)
    refine Ev.bind hr2 ?_
    rw [show ((r * 2 ^ k : Nat) : Int) / 18446744073709551616 * 18446744073709551616 + ((r * 2 ^ k : Nat) : Int) % 18446744073709551616 = ((r * 2 ^ k : Nat) : Int) by omega]
    rw [show wrap64 ((s : Int) - (k : Int)) = ((s - k : Nat) : Int) by unfold wrap64; omega, ← Int.natCast_emod]
    have hlt := Nat.mod_lt (r * 2 ^ k) b0
    have := ih (s - k) (r * 2 ^ k % b) (by omega) (by omega) (by omega) (fun _ => hlt)
    rwa [step_pow hks] at this
theorem residue_ev {m s b : Nat} (hm : m < 18446744073709551616) (hs : s < 4096) (b0 : 0 < b) (hb : b < 18446744073709551616) : Ev (fun k _ _ => remain_residue.f k (m : Int) (s : Int) (b : Int)) ((m * 2 ^ s % b : Nat) : Int) := by
  simp only [remain_residue.f, remain_residue.b0]
  refine Ev_neg (by omega) ?_
  rw [Int.tmod_eq_emod_of_nonneg (by omega), ← Int.natCast_emod]
  have hlt := Nat.mod_lt m b0
  have h := residue_loop b0 hb s s (m % b) (by omega) (by omega) hs (fun _ => hlt)
  rw [Nat.mod_mul_mod] at h
  exact Ev_in h
/-! ### Fmod -/
theorem rnd_exact {n : Nat} {e : Int} (hn : n < 9007199254740992) (he : -1074 ≤ e ∧ e ≤ 971) : uni (rnd n e false) = n * 2 ^ (e + 1074).toNat ∧ rnd n e false < inf := by
  obtain ⟨F, hF⟩ : ∃ F, F = 2098 := ⟨_, rfl⟩
  obtain ⟨k, hk⟩ : ∃ k, k = (e + 1074).toNat := ⟨_, rfl⟩
  have hr := rnd_near n e (a := k) (b := 0) (by omega)
  obtain ⟨p, hp, hu⟩ := uni_rep k n (by omega) (by omega)
  have hx : Near p (n * 2 ^ k) 1 := by
    have := near_exact (p := p) (Y := 1) (by omega) hp
    rwa [Nat.mul_one, hu] at this
  have e1 := near_unique (Nat.pow_pos (by omega)) (by omega) hr hx (by rw [Nat.pow_zero])
  rw [e1, ← hk]
  refine ⟨hu, uni_lt_iff.1 ?_⟩
  rw [hu, inf_top hF]
  have h1 : n * 2 ^ k < 2 ^ 53 * 2 ^ k := Nat.mul_lt_mul_of_pos_right (by omega) (Nat.pow_pos (by omega))
  rw [← Nat.pow_add] at h1
  exact Nat.lt_of_lt_of_le h1 (Nat.pow_le_pow_right (by omega) (by omega))
/-- What Fmod computes. -/
def FmodR (a b x : Int) : Prop := if cls a = 4 ∨ cls b = 4 ∨ cls a = 3 ∨ cls b = 0 then x = 9221120237041090560 else if cls b = 3 then x = a else
  ∃ p : Nat, x = put (sgn a) p ∧ p < inf ∧ uni p = uni (plc a) % uni (plc b)
theorem cls_fin' {d : Int} (h4 : cls d ≠ 4) (h3 : cls d ≠ 3) : fin d := by
  have h5 := @cls_fin d
  have h6 : cls d ≤ 4 := by unfold cls; repeat' split <;> omega
  exact Decidable.byContradiction fun k => by have := h5.2 k; omega
theorem one_limb {v : Nat} : val [(v : Int)] = v := by rw [val_cons, val_nil, Nat.mul_zero, Nat.add_zero, Int.toNat_natCast]
theorem ok_one {v : Nat} (h : v < 18446744073709551616) : ok [(v : Int)] := by
  intro x hx; simp only [List.mem_singleton] at hx; subst hx; omega
theorem round_one {s : Bool} {n : Nat} {e : Int} (hn : n < 18446744073709551616) : Ev (fun k _ _ => ieee_Round.f k s [(n : Int)] e false) (put s (rnd n e false), 0) := by
  have := Round_ev (l := [(n : Int)]) (neg := s) (e := e) (more := false) (ok_one hn) (by simp) (by rw [one_limb]; exact Go.Proofs.YtcacmhcekoeblaaDoor.Ieee2.small_limit hn)
  rwa [one_limb] at this
theorem mod_lift {A B a b r e k m : Nat} (hA : A = a * 2 ^ (e + k)) (hB : B = b * 2 ^ k) (hm : m = a * 2 ^ e % b) : A % B = m * 2 ^ k := by
  rw [hA, hB, hm, Nat.pow_add, ← Nat.mul_assoc, Nat.mul_mod_mul_right]
theorem mod_lift2 {A B a b e k m : Nat} (hA : A = a * 2 ^ k) (hB : B = b * 2 ^ (e + k)) (hm : m = a % (b * 2 ^ e)) : A % B = m * 2 ^ k := by
  rw [hA, hB, hm, Nat.pow_add, ← Nat.mul_assoc, Nat.mul_mod_mul_right]
theorem special_nan {s t : Bool} {ca cb m e m' e' d : Int} (h : ca = 4 ∨ cb = 4 ∨ ca = 3 ∨ cb = 0) : remain_special.f s ca m e t cb m' e' d = some (9221120237041090560, true) := by
  unfold remain_special.f remain_special.b0
  repeat' split
  all_goals first | rfl | omega
theorem special_own {s t : Bool} {ca cb m e m' e' d : Int} (h : ¬ (ca = 4 ∨ cb = 4 ∨ ca = 3 ∨ cb = 0)) (h' : cb = 3 ∨ ca = 0) : remain_special.f s ca m e t cb m' e' d = some (d, true) := by
  unfold remain_special.f remain_special.b0
  repeat' split
  all_goals first | rfl | omega
theorem special_go {s t : Bool} {ca cb m e m' e' d : Int} (h : ¬ (ca = 4 ∨ cb = 4 ∨ ca = 3 ∨ cb = 0)) (h' : ¬ (cb = 3 ∨ ca = 0)) : remain_special.f s ca m e t cb m' e' d = some (0, false) := by
  unfold remain_special.f remain_special.b0
  repeat' split
  all_goals first | rfl | omega
theorem Fmod_ev {a b : Int} (ha : U a) (hb : U b) : ∃ x, Ev (fun k _ _ => remain_Fmod.f k a b) x ∧ FmodR a b x := by
  simp only [remain_Fmod.f, remain_Fmod.b0]
  unfold FmodR
  have da := Decode_eq ha
  have db := Decode_eq hb
  by_cases h4 : cls a = 4 ∨ cls b = 4 ∨ cls a = 3 ∨ cls b = 0
  · refine ⟨_, Ev_bind_eq da (Ev_bind_eq db (Ev_bind_eq (special_nan h4) (Ev_pos (by simp) (Ev.now _)))), by rw [if_pos h4]⟩
  by_cases h3 : cls b = 3
  · refine ⟨_, Ev_bind_eq da (Ev_bind_eq db (Ev_bind_eq (special_own h4 (.inl h3)) (Ev_pos (by simp) (Ev.now _)))), by rw [if_neg h4, if_pos h3]⟩
  by_cases h0 : cls a = 0
  · refine ⟨_, Ev_bind_eq da (Ev_bind_eq db (Ev_bind_eq (special_own h4 (.inr h0)) (Ev_pos (by simp) (Ev.now _)))), ?_⟩
    · rw [if_neg h4, if_neg h3]
      have h5 : plc a = 0 := (@cls_plc a).2.2.1.1 h0
      refine ⟨plc a, (plc_put ha (by omega)).1, by rw [h5]; unfold inf; omega, ?_⟩
      rw [h5, uni_zero, Nat.zero_mod]
  have fa : fin a := cls_fin' (by omega) (by omega)
  have fb : fin b := cls_fin' (by omega) (by omega)
  obtain ⟨ea0, ea1⟩ := exp_range fa
  obtain ⟨eb0, eb1⟩ := exp_range fb
  obtain ⟨ma, hma⟩ : ∃ ma : Nat, manOf a = (ma : Int) := ⟨(manOf a).toNat, by have := (man_range fa).1; omega⟩
  obtain ⟨mb, hmb⟩ : ∃ mb : Nat, manOf b = (mb : Int) := ⟨(manOf b).toNat, by have := (man_range fb).1; omega⟩
  have ra := man_range fa
  have rb := man_range fb
  have ua := uni_parts fa
  have ub := uni_parts fb
  rw [hma] at da ra ua
  rw [hmb] at db rb ub
  rw [Int.toNat_natCast] at ua ub
  have mb0 : mb ≠ 0 := by
    intro k
    rw [k, Nat.zero_mul] at ub
    have h5 : plc b = 0 := uni_inj (by rw [ub]; rfl)
    exact h4 (.inr (.inr (.inr ((@cls_plc b).2.2.1.2 h5))))
  simp only [if_neg h4, if_neg h3]
  have hw : wrap64 (expOf a - expOf b) = expOf a - expOf b := wrap_id (by omega) (by omega)
  by_cases hs : expOf a - expOf b ≥ 0
  · obtain ⟨s, hs'⟩ : ∃ s : Nat, expOf a - expOf b = (s : Int) := ⟨(expOf a - expOf b).toNat, by omega⟩
    have hr := residue_ev (m := ma) (s := s) (b := mb) (by omega) (by omega) (by omega) (by omega)
    have hlt := Nat.mod_lt (ma * 2 ^ s) (show 0 < mb by omega)
    obtain ⟨x1, x2⟩ := rnd_exact (n := ma * 2 ^ s % mb) (e := expOf b) (by omega) ⟨eb0, eb1⟩
    refine ⟨put (sgn a) (rnd (ma * 2 ^ s % mb) (expOf b) false), Ev_bind_eq da (Ev_bind_eq db (Ev_bind_eq (special_go h4 (fun k => k.elim h3 h0)) (Ev_neg (by simp) (Ev_pos (by rw [hw]; exact hs) (Ev.bind (by rw [hw, hs']; exact hr) ?_))))), ?_⟩
    · simp only [remain_Fmod.l63, remain_Fmod.b63]
      exact Ev.bind (round_one (by omega)) (Ev.now _)
    refine ⟨_, rfl, x2, ?_⟩
    rw [x1]
    exact (mod_lift (e := s) (r := 0) (by rw [ua, show (expOf a + 1074).toNat = s + (expOf b + 1074).toNat by omega]) ub rfl).symm
  · obtain ⟨s, hs'⟩ : ∃ s : Nat, expOf a - expOf b = -(s : Int) := ⟨(expOf b - expOf a).toNat, by omega⟩
    have ub' : uni (plc b) = mb * 2 ^ (s + (expOf a + 1074).toNat) := by rw [ub, show (expOf b + 1074).toNat = s + (expOf a + 1074).toNat by omega]
    have hl := len64 (x := (mb : Int)) (by omega)
    rw [Int.toNat_natCast] at hl
    have hb53 : blen mb ≤ 53 := (blen_le _ _).2 (by omega)
    have w2 : wrap64 ((blen mb : Int) - -(s : Int)) = ((blen mb + s : Nat) : Int) := by unfold wrap64; omega
    have w1 : wrap64 (-(s : Int)) = -(s : Int) := by unfold wrap64; omega
    have w3 : wrap64 (- -(s : Int)) = (s : Int) := by unfold wrap64; omega
    by_cases hbig : blen mb + s > 64
    · refine ⟨_, Ev_bind_eq da (Ev_bind_eq db (Ev_bind_eq (special_go h4 (fun k => k.elim h3 h0)) (Ev_neg (by simp) (Ev_neg (by rw [hw]; exact hs) (Ev_bind_eq hl (Ev_pos (by rw [hw, hs', w2]; omega) (Ev.now _))))))), ?_⟩
      refine ⟨plc a, (plc_put ha (by omega)).1, plc_fin.1 fa, ?_⟩
      rw [ua, ub', Nat.pow_add, ← Nat.mul_assoc, Nat.mul_mod_mul_right, Nat.mod_eq_of_lt]
      have k1 : 2 ^ (blen mb - 1) ≤ mb := by
        refine Nat.le_of_not_lt fun k => ?_
        have := (blen_le _ _).2 k
        have : blen mb ≠ 0 := fun k => by have := (blen_le mb 0).1 (by omega); omega
        omega
      have k2 : 2 ^ (blen mb - 1) * 2 ^ s ≤ mb * 2 ^ s := Nat.mul_le_mul_right _ k1
      rw [← Nat.pow_add] at k2
      have k3 : 2 ^ 63 ≤ 2 ^ (blen mb - 1 + s) := Nat.pow_le_pow_right (by omega) (by omega)
      omega
    · have k1 := (blen_le mb (blen mb)).1 (Nat.le_refl _)
      have k2 : mb * 2 ^ s < 2 ^ blen mb * 2 ^ s := Nat.mul_lt_mul_of_pos_right k1 (Nat.pow_pos (by omega))
      rw [← Nat.pow_add] at k2
      have k3 : 2 ^ (blen mb + s) ≤ 2 ^ 64 := Nat.pow_le_pow_right (by omega) (by omega)
      have k4 : 0 < mb * 2 ^ s := Nat.mul_pos (by omega) (Nat.pow_pos (by omega))
      have hsh : shl .u64 (mb : Int) (s : Int) = ((mb * 2 ^ s : Nat) : Int) := by
        rw [shl_u64 (by omega) (by omega), ← Int.natCast_mul]
        exact Int.emod_eq_of_lt (by omega) (by omega)
      have hle := Nat.mod_le ma (mb * 2 ^ s)
      have hn64 : ma % (mb * 2 ^ s) < 18446744073709551616 := by omega
      have ht : Int.tmod (ma : Int) ((mb * 2 ^ s : Nat) : Int) = ((ma % (mb * 2 ^ s) : Nat) : Int) := by
        rw [Int.tmod_eq_emod_of_nonneg (by omega), Int.natCast_emod]
      obtain ⟨x1, x2⟩ := rnd_exact (n := ma % (mb * 2 ^ s)) (e := expOf a) (by omega) ⟨ea0, ea1⟩
      refine ⟨put (sgn a) (rnd (ma % (mb * 2 ^ s)) (expOf a) false), Ev_bind_eq da (Ev_bind_eq db (Ev_bind_eq (special_go h4 (fun k => k.elim h3 h0)) (Ev_neg (by simp) (Ev_neg (by rw [hw]; exact hs) (Ev_bind_eq hl (Ev_neg (by rw [hw, hs', w2]; omega) (Ev_pos (by rw [hw, hs', w3]; omega) (Ev_neg (by rw [hw, hs', w3, hsh]; omega) ?_)))))))), ?_⟩
      · simp only [remain_Fmod.l63, remain_Fmod.b63, hs', w1, w3, hsh, ht]
        exact Ev.bind (round_one hn64) (Ev.now _)
      refine ⟨_, rfl, x2, ?_⟩
      rw [x1]
      exact (mod_lift2 ua ub' rfl).symm
/-! ### the law's own words -/
theorem cmp_nat {p q : Nat} (hp : p ≤ inf) (hq : q ≤ inf) : ieee_Compare.f (p : Int) (q : Int) = some (ord (p : Int) (q : Int), true) := by
  unfold inf at hp hq
  rw [Compare_eq ⟨by omega, by omega⟩ ⟨by omega, by omega⟩]
  have n1 : ¬ nan (p : Int) := by unfold nan; omega
  have n2 : ¬ nan (q : Int) := by unfold nan; omega
  have r1 : rk (p : Int) = p := by unfold rk; rw [if_pos (by omega)]
  have r2 : rk (q : Int) = q := by unfold rk; rw [if_pos (by omega)]
  unfold comp
  rw [if_neg n1, if_neg n2, r1, r2]
theorem man_nat {d : Int} (h : fin d) : ∃ m : Nat, manOf d = (m : Int) ∧ m < 9007199254740992 ∧ uni (plc d) = m * 2 ^ (expOf d + 1074).toNat := by
  have h1 := man_range h
  exact ⟨(manOf d).toNat, by omega, by omega, uni_parts h⟩
theorem unit_up {m k : Nat} {x e : Int} (he : -1074 ≤ e) (hk : x - e = (k : Int)) : m * 2 ^ (x + 1074).toNat = m * 2 ^ k * 2 ^ (e + 1074).toNat := by
  rw [Nat.mul_assoc, ← Nat.pow_add, show (x + 1074).toNat = k + (e + 1074).toNat by omega]
theorem least {x y z : Int} (hx : -1074 ≤ x ∧ x ≤ 971) (hy : -1074 ≤ y ∧ y ≤ 971) (hz : -1074 ≤ z ∧ z ≤ 971) :
    ∃ (e : Int) (a b c : Nat), mn (mn x y) z = e ∧ -1074 ≤ e ∧ x - e = (a : Int) ∧ y - e = (b : Int) ∧ z - e = (c : Int) ∧ a ≤ 2045 ∧ b ≤ 2045 ∧ c ≤ 2045 := by
  obtain ⟨e, he, e0, e1, e2, e3⟩ : ∃ e, mn (mn x y) z = e ∧ -1074 ≤ e ∧ e ≤ x ∧ e ≤ y ∧ e ≤ z := by
    refine ⟨_, rfl, ?_⟩
    unfold mn
    repeat' split
    all_goals omega
  exact ⟨e, (x - e).toNat, (y - e).toNat, (z - e).toNat, he, e0, by omega, by omega, by omega, by omega, by omega, by omega⟩
end Go.Proofs.YtcacmhcekoeblaaDoor.Pure
