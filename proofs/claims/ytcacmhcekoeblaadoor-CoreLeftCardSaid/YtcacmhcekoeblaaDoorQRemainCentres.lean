/- Remainder's answer is at most half of b; a less it is a whole multiple of b, an even one if it is just half of b. No conditions. -/
import Derived.Test.YtcacmhcekoeblaaDoorQRemainWraps
namespace Go.Proofs.YtcacmhcekoeblaaDoor.Pure
open Go.RowKit Go.Proofs.YtcacmhcekoeblaaDoor.Lib Go.Proofs.YtcacmhcekoeblaaDoor.LibB Go.Proofs.YtcacmhcekoeblaaDoor.F Go.Proofs.YtcacmhcekoeblaaDoor.Nat1 Go.Proofs.YtcacmhcekoeblaaDoor.Nat2 Go.Proofs.YtcacmhcekoeblaaDoor.Bits Go.Proofs.YtcacmhcekoeblaaDoor.Div Go.Proofs.YtcacmhcekoeblaaDoor.Quot1 Go.Proofs.YtcacmhcekoeblaaDoor.Ieee1 Go.Proofs.YtcacmhcekoeblaaDoor.Mag Go.Proofs.YtcacmhcekoeblaaDoor.Ieee2 Go.Proofs.YtcacmhcekoeblaaDoor.Rnd Go.Proofs.YtcacmhcekoeblaaDoor.Rn
open Go.Proofs.YtcacmhcekoeblaaDoorA (rd ln ln_eq mx mn shl shr wr wr_eq)
set_option linter.unusedVariables false
set_option linter.unusedSimpArgs false
/-- z is A's distance from the multiple k of B next to it, an even one if two are as near; below: A lies below it. -/
def CentreR (A B z : Nat) (below : Bool) : Prop := 2 * z ≤ B ∧ ∃ k, (if below = true then A + z = k * B else A = k * B + z) ∧ (2 * z = B → k % 2 = 0)
theorem centre {A B q r : Nat} (hA : A = 2 * q * B + r) (hr : r < 2 * B) :
    (r < B → (2 * r ≤ B → CentreR A B r false) ∧ (2 * r > B → CentreR A B (B - r) true)) ∧
    (B ≤ r → (2 * (r - B) < B → CentreR A B (r - B) false) ∧ (2 * (r - B) ≥ B → CentreR A B (B - (r - B)) true)) := by
  have e0 : (2 * q) * B = 2 * q * B := rfl
  have e1 : (2 * q + 1) * B = 2 * q * B + B := by rw [Nat.add_mul, Nat.one_mul]
  have e2 : (2 * q + 2) * B = 2 * q * B + 2 * B := by rw [Nat.add_mul]
  refine ⟨fun h1 => ⟨fun h2 => ⟨by omega, 2 * q, ?_, fun _ => by omega⟩, fun h2 => ⟨by omega, 2 * q + 1, ?_, fun h3 => by omega⟩⟩, fun h1 => ⟨fun h2 => ⟨by omega, 2 * q + 1, ?_, fun h3 => by omega⟩, fun h2 => ⟨by omega, 2 * q + 2, ?_, fun _ => by omega⟩⟩⟩
  · rw [if_neg (by simp), hA]
  · rw [if_pos rfl, e1, hA]; generalize 2 * q * B = P; omega
  · rw [if_neg (by simp), e1, hA]; generalize 2 * q * B = P; omega
  · rw [if_pos rfl, e2, hA]; generalize 2 * q * B = P; omega
theorem CentreR.up {A B z U : Nat} {f : Bool} (hU : 0 < U) (h : CentreR A B z f) : CentreR (A * U) (B * U) (z * U) f := by
  obtain ⟨h1, k, h2, h3⟩ := h
  refine ⟨?_, k, ?_, fun h => h3 ?_⟩
  · rw [← Nat.mul_assoc]; exact Nat.mul_le_mul_right _ h1
  · cases f with
    | false => simp only [Bool.false_eq_true, if_false] at h2 ⊢; rw [h2, Nat.add_mul, Nat.mul_assoc]
    | true => simp only [if_true] at h2 ⊢; rw [← Nat.add_mul, h2, Nat.mul_assoc]
  · rw [← Nat.mul_assoc] at h; exact Nat.eq_of_mul_eq_mul_right hU h
theorem CentreR.down {A B z U : Nat} {f : Bool} (hU : 0 < U) (h : CentreR (A * U) (B * U) (z * U) f) : CentreR A B z f := by
  obtain ⟨h1, k, h2, h3⟩ := h
  refine ⟨?_, k, ?_, fun h => h3 ?_⟩
  · rw [← Nat.mul_assoc] at h1; exact Nat.le_of_mul_le_mul_right h1 hU
  · cases f with
    | false => simp only [Bool.false_eq_true, if_false] at h2 ⊢; rw [← Nat.mul_assoc, ← Nat.add_mul] at h2; exact Nat.eq_of_mul_eq_mul_right hU h2
    | true => simp only [if_true] at h2 ⊢; rw [← Nat.add_mul, ← Nat.mul_assoc] at h2; exact Nat.eq_of_mul_eq_mul_right hU h2
  · rw [← Nat.mul_assoc, h]
theorem signed_zero (s : Bool) : remain_signed.f s 0 = some (put s 0) := by cases s <;> rfl
theorem rnd_zero (e : Int) (he : -1074 ≤ e ∧ e ≤ 971) : rnd 0 e false = 0 := by
  have h := (rnd_exact (n := 0) (e := e) (by omega) he).1
  rw [Nat.zero_mul] at h
  exact uni_inj (by rw [h]; rfl)
theorem tail_ev {z : Nat} {e : Int} {neg sa : Bool} {c m x : Int} (hz : z < 18446744073709551616) (he : -1074 ≤ e ∧ e ≤ 971) (h0 : z = 0 → neg = sa) : Ev (fun k _ _ => remain_Remainder.l1023 k (z : Int) e neg sa c m x) (put neg (rnd z e false)) := by
  simp only [remain_Remainder.l1023, remain_Remainder.b1023]
  by_cases h : z = 0
  · subst h
    rw [rnd_zero e he, h0 rfl]
    exact Ev_pos rfl (Ev_bind_eq (signed_zero sa) (Ev.now _))
  · exact Ev_neg (by omega) (Ev.bind (round_one hz) (Ev.now _))
theorem half_ev {r S : Nat} {e : Int} {sa odd : Bool} {c m x : Int} (hS : S < 2305843009213693952) (hr : r < S) (he : -1074 ≤ e ∧ e ≤ 971) :
    ∃ z f, Ev (fun k _ _ => remain_Remainder.l511 k (r : Int) e (S : Int) sa odd c m x) (put (sa != f) (rnd z e false)) ∧ ((f = true ∧ z = S - r ∧ (2 * r > S ∨ (2 * r = S ∧ odd = true))) ∨ (f = false ∧ z = r ∧ (2 * r < S ∨ (2 * r = S ∧ odd = false)))) := by
  simp only [remain_Remainder.l511, remain_Remainder.b511]
  have w1 : IntKind.u64.wrap (2 * (r : Int)) = 2 * (r : Int) := by rw [IntKind.wrap_u64]; omega
  have w2 : IntKind.u64.wrap ((S : Int) - (r : Int)) = ((S - r : Nat) : Int) := by rw [IntKind.wrap_u64]; omega
  rw [w1, w2]
  have hn : (sa != true) = !sa := by cases sa <;> rfl
  have hk : (sa != false) = sa := by cases sa <;> rfl
  by_cases h1 : 2 * (r : Int) > (S : Int)
  · refine ⟨S - r, true, Ev_pos h1 ?_, .inl ⟨rfl, rfl, .inl (by omega)⟩⟩
    rw [hn]
    exact tail_ev (by omega) he (by omega)
  by_cases h2 : 2 * (r : Int) = (S : Int)
  · cases odd with
    | true =>
      refine ⟨S - r, true, Ev_neg h1 (Ev_pos h2 (Ev_pos rfl ?_)), .inl ⟨rfl, rfl, .inr ⟨by omega, rfl⟩⟩⟩
      rw [hn]
      exact tail_ev (by omega) he (by omega)
    | false =>
      refine ⟨r, false, Ev_neg h1 (Ev_pos h2 (Ev_neg (by simp) ?_)), .inr ⟨rfl, rfl, .inr ⟨by omega, rfl⟩⟩⟩
      rw [hk]
      exact tail_ev (by omega) he (fun _ => rfl)
  · refine ⟨r, false, Ev_neg h1 (Ev_neg h2 ?_), .inr ⟨rfl, rfl, .inl (by omega)⟩⟩
    rw [hk]
    exact tail_ev (by omega) he (fun _ => rfl)
theorem end_ev {r S : Nat} {e : Int} {sa : Bool} {c m x : Int} (hS : S < 2305843009213693952) (hr : r < 2 * S) (he : -1074 ≤ e ∧ e ≤ 971) :
    ∃ z f, Ev (fun k _ _ => remain_Remainder.l63 k (r : Int) e (S : Int) sa c m x) (put (sa != f) (rnd z e false)) ∧ z ≤ r ∧ 2 * z ≤ S ∧ (z = 0 → f = false) ∧ ∀ A q, A = 2 * q * S + r → CentreR A S z f := by
  simp only [remain_Remainder.l63, remain_Remainder.b63]
  by_cases h : (r : Int) ≥ (S : Int)
  · have w : IntKind.u64.wrap ((r : Int) - (S : Int)) = ((r - S : Nat) : Int) := by rw [IntKind.wrap_u64]; omega
    rw [w, decide_eq_true h]
    obtain ⟨z, f, h1, h2⟩ := half_ev (r := r - S) (S := S) (e := e) (sa := sa) (odd := true) (c := c) (m := m) (x := x) hS (by omega) he
    refine ⟨z, f, Ev_pos h h1, ?_⟩
    rcases h2 with ⟨rfl, rfl, h3⟩ | ⟨rfl, rfl, h3⟩
    · exact ⟨by omega, by omega, by omega, fun A q hA => ((centre hA hr).2 (by omega)).2 (by omega)⟩
    · have h3 := h3.resolve_right (by simp)
      exact ⟨by omega, by omega, fun _ => rfl, fun A q hA => ((centre hA hr).2 (by omega)).1 (by omega)⟩
  · rw [decide_eq_false h]
    obtain ⟨z, f, h1, h2⟩ := half_ev (r := r) (S := S) (e := e) (sa := sa) (odd := false) (c := c) (m := m) (x := x) hS (by omega) he
    refine ⟨z, f, Ev_neg h h1, ?_⟩
    rcases h2 with ⟨rfl, rfl, h3⟩ | ⟨rfl, rfl, h3⟩
    · have h3 := h3.resolve_right (by simp)
      exact ⟨by omega, by omega, by omega, fun A q hA => ((centre hA hr).1 (by omega)).2 (by omega)⟩
    · exact ⟨by omega, by omega, fun _ => rfl, fun A q hA => ((centre hA hr).1 (by omega)).1 (by omega)⟩
/-- What Remainder computes. -/
def RemR (a b x : Int) : Prop := if cls a = 4 ∨ cls b = 4 ∨ cls a = 3 ∨ cls b = 0 then x = 9221120237041090560 else if cls b = 3 then x = a else
  ∃ (p : Nat) (f : Bool), x = put (sgn a != f) p ∧ p < inf ∧ (p = 0 → f = false) ∧ CentreR (uni (plc a)) (uni (plc b)) (uni p) f
theorem near_itself {A B : Nat} (h : 2 * A < B) : CentreR A B A false := ⟨by omega, 0, by rw [if_neg (by simp)]; omega, fun _ => rfl⟩
theorem place_zero {z : Nat} {e : Int} {U : Nat} (h : uni (rnd z e false) = z * U) (hU : 0 < U) (k : rnd z e false = 0) : z = 0 := by
  rw [k, uni_zero] at h
  rcases Nat.mul_eq_zero.1 h.symm with h | h
  · exact h
  · omega
theorem twoq (A S : Nat) : A = 2 * (A / (2 * S)) * S + A % (2 * S) := by
  have h := Nat.div_add_mod A (2 * S)
  rw [Nat.mul_right_comm]
  exact h.symm
theorem far_step {ma mb s : Nat} (ra : ma < 9007199254740992) (hbig : blen mb + s > 60) (hb : blen mb ≤ 53) (mb0 : mb ≠ 0) : 2 * ma < mb * 2 ^ s := by
  have k1 : 2 ^ (blen mb - 1) ≤ mb := by
    refine Nat.le_of_not_lt fun k => ?_
    have := (blen_le _ _).2 k
    have : blen mb ≠ 0 := fun k => by have := (blen_le mb 0).1 (by omega); omega
    omega
  have k2 : 2 ^ (blen mb - 1) * 2 ^ s ≤ mb * 2 ^ s := Nat.mul_le_mul_right _ k1
  rw [← Nat.pow_add] at k2
  have k3 : 2 ^ 59 ≤ 2 ^ (blen mb - 1 + s) := Nat.pow_le_pow_right (by omega) (by omega)
  omega
theorem Remainder_ev {a b : Int} (ha : U a) (hb : U b) : ∃ x, Ev (fun k _ _ => remain_Remainder.f k a b) x ∧ RemR a b x := by
  simp only [remain_Remainder.f, remain_Remainder.b0]
  unfold RemR
  have da := Decode_eq ha
  have db := Decode_eq hb
  by_cases h4 : cls a = 4 ∨ cls b = 4 ∨ cls a = 3 ∨ cls b = 0
  · exact ⟨_, Ev_bind_eq da (Ev_bind_eq db (Ev_bind_eq (special_nan h4) (Ev_pos (by simp) (Ev.now _)))), by rw [if_pos h4]⟩
  by_cases h3 : cls b = 3
  · exact ⟨_, Ev_bind_eq da (Ev_bind_eq db (Ev_bind_eq (special_own h4 (.inl h3)) (Ev_pos (by simp) (Ev.now _)))), by rw [if_neg h4, if_pos h3]⟩
  have fa : fin a := cls_fin' (by omega) (by omega)
  have fb : fin b := cls_fin' (by omega) (by omega)
  have hk : (sgn a != false) = sgn a := by cases sgn a <;> rfl
  have b0 : plc b ≠ 0 := fun k => h4 (.inr (.inr (.inr ((@cls_plc b).2.2.1.2 k))))
  have ub0 : 0 < uni (plc b) := by have := uni_smono (show 0 < plc b by omega); rwa [uni_zero] at this
  by_cases h0 : cls a = 0
  · refine ⟨_, Ev_bind_eq da (Ev_bind_eq db (Ev_bind_eq (special_own h4 (.inr h0)) (Ev_pos (by simp) (Ev.now _)))), ?_⟩
    rw [if_neg h4, if_neg h3]
    have h5 : plc a = 0 := (@cls_plc a).2.2.1.1 h0
    refine ⟨plc a, false, by rw [hk]; exact (plc_put ha (by omega)).1, by rw [h5]; unfold inf; omega, fun _ => rfl, ?_⟩
    rw [h5, uni_zero]
    exact near_itself (by omega)
  obtain ⟨ea0, ea1⟩ := exp_range fa
  obtain ⟨eb0, eb1⟩ := exp_range fb
  obtain ⟨ma, hma, ra, ua⟩ := man_nat fa
  obtain ⟨mb, hmb, rb, ub⟩ := man_nat fb
  rw [hma] at da
  rw [hmb] at db
  have mb0 : mb ≠ 0 := by
    intro k
    rw [k, Nat.zero_mul] at ub
    omega
  simp only [if_neg h4, if_neg h3]
  have hsp := @special_go (sgn a) (sgn b) (cls a) (cls b) (ma : Int) (expOf a) (mb : Int) (expOf b) a h4 (fun k => k.elim h3 h0)
  have hw : wrap64 (expOf a - expOf b) = expOf a - expOf b := wrap_id (by omega) (by omega)
  by_cases hs : expOf a - expOf b ≥ 0
  · obtain ⟨s, hs'⟩ : ∃ s : Nat, expOf a - expOf b = (s : Int) := ⟨(expOf a - expOf b).toNat, by omega⟩
    have w2 : IntKind.u64.wrap (2 * (mb : Int)) = ((2 * mb : Nat) : Int) := by rw [IntKind.wrap_u64]; omega
    have hr := residue_ev (m := ma) (s := s) (b := 2 * mb) (by omega) (by omega) (by omega) (by omega)
    have hlt := Nat.mod_lt (ma * 2 ^ s) (show 0 < 2 * mb by omega)
    obtain ⟨z, f, ez, z1, z2, z3, z4⟩ := end_ev (r := ma * 2 ^ s % (2 * mb)) (S := mb) (e := expOf b) (sa := sgn a) (c := cls a) (m := (ma : Int)) (x := expOf a) (by omega) hlt ⟨eb0, eb1⟩
    obtain ⟨x1, x2⟩ := rnd_exact (n := z) (e := expOf b) (by omega) ⟨eb0, eb1⟩
    have pk : 0 < 2 ^ (expOf b + 1074).toNat := Nat.pow_pos (Nat.succ_pos 1)
    refine ⟨_, Ev_bind_eq da (Ev_bind_eq db (Ev_bind_eq hsp (Ev_neg (by simp) (Ev_pos (by rw [hw]; exact hs) (Ev.bind (by rw [hw, hs', w2]; exact hr) ez))))), _, f, rfl, x2, fun k => z3 (place_zero x1 pk k), ?_⟩
    rw [x1, ub, ua, unit_up eb0 hs']
    refine CentreR.up pk (z4 _ (ma * 2 ^ s / (2 * mb)) (twoq _ _))
  · obtain ⟨s, hs'⟩ : ∃ s : Nat, expOf a - expOf b = -(s : Int) := ⟨(expOf b - expOf a).toNat, by omega⟩
    have ub' : uni (plc b) = mb * 2 ^ s * 2 ^ (expOf a + 1074).toNat := by rw [ub]; exact unit_up ea0 (by omega)
    have hl := len64 (x := (mb : Int)) (by omega)
    rw [Int.toNat_natCast] at hl
    have hb53 : blen mb ≤ 53 := (blen_le _ _).2 (by omega)
    have w2 : wrap64 ((blen mb : Int) - -(s : Int)) = ((blen mb + s : Nat) : Int) := by unfold wrap64; omega
    have w1 : wrap64 (-(s : Int)) = -(s : Int) := by unfold wrap64; omega
    have w3 : wrap64 (- -(s : Int)) = (s : Int) := by unfold wrap64; omega
    have pk : 0 < 2 ^ (expOf a + 1074).toNat := Nat.pow_pos (Nat.succ_pos 1)
    by_cases hbig : blen mb + s > 60
    · refine ⟨_, Ev_bind_eq da (Ev_bind_eq db (Ev_bind_eq hsp (Ev_neg (by simp) (Ev_neg (by rw [hw]; exact hs) (Ev_bind_eq hl (Ev_pos (by rw [hw, hs', w2]; omega) (Ev.now _))))))), plc a, false, by rw [hk]; exact (plc_put ha (by omega)).1, plc_fin.1 fa, fun _ => rfl, ?_⟩
      refine near_itself ?_
      rw [ua, ub', ← Nat.mul_assoc]
      refine Nat.mul_lt_mul_of_pos_right ?_ pk
      exact far_step ra hbig hb53 mb0
    · have hS : mb * 2 ^ s < 2 ^ 60 := by
        have k1 := (blen_le mb (blen mb)).1 (Nat.le_refl _)
        have k2 : mb * 2 ^ s < 2 ^ blen mb * 2 ^ s := Nat.mul_lt_mul_of_pos_right k1 (Nat.pow_pos (by omega))
        rw [← Nat.pow_add] at k2
        exact Nat.lt_of_lt_of_le k2 (Nat.pow_le_pow_right (by omega) (by omega))
      have hS0 : 0 < mb * 2 ^ s := Nat.mul_pos (by omega) (Nat.pow_pos (by omega))
      have hsh : shl .u64 (mb : Int) (s : Int) = ((mb * 2 ^ s : Nat) : Int) := by
        rw [shl_u64 (by omega) (by omega), ← Int.natCast_mul]
        exact Int.emod_eq_of_lt (by omega) (by omega)
      have w4 : IntKind.u64.wrap (2 * ((mb * 2 ^ s : Nat) : Int)) = ((2 * (mb * 2 ^ s) : Nat) : Int) := by rw [IntKind.wrap_u64]; omega
      have hlt := Nat.mod_lt ma (show 0 < 2 * (mb * 2 ^ s) by omega)
      have hle := Nat.mod_le ma (2 * (mb * 2 ^ s))
      have ht : Int.tmod (ma : Int) ((2 * (mb * 2 ^ s) : Nat) : Int) = ((ma % (2 * (mb * 2 ^ s)) : Nat) : Int) := by
        rw [Int.tmod_eq_emod_of_nonneg (by omega), Int.natCast_emod]
      obtain ⟨z, f, ez, z1, z2, z3, z4⟩ := end_ev (r := ma % (2 * (mb * 2 ^ s))) (S := mb * 2 ^ s) (e := expOf a) (sa := sgn a) (c := cls a) (m := (ma : Int)) (x := expOf a) (by omega) hlt ⟨ea0, ea1⟩
      obtain ⟨x1, x2⟩ := rnd_exact (n := z) (e := expOf a) (by omega) ⟨ea0, ea1⟩
      refine ⟨_, Ev_bind_eq da (Ev_bind_eq db (Ev_bind_eq hsp (Ev_neg (by simp) (Ev_neg (by rw [hw]; exact hs) (Ev_bind_eq hl (Ev_neg (by rw [hw, hs', w2]; omega) (Ev_pos (by rw [hw, hs', w3]; omega) (Ev_neg (by rw [hw, hs', w3, hsh, w4]; omega) (by simp only [hw, hs', w1, w3, hsh, w4, ht]; exact ez))))))))), _, f, rfl, x2, fun k => z3 (place_zero x1 pk k), ?_⟩
      rw [x1, ub', ua]
      exact CentreR.up pk (z4 _ (ma / (2 * (mb * 2 ^ s))) (twoq _ _))
/-! ### the law -/
end Go.Proofs.YtcacmhcekoeblaaDoor.Pure
