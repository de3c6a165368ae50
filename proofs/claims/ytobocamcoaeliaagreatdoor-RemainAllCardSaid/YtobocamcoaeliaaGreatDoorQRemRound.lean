/- remain.round: d cut to a whole number, one more where the rule says so. No conditions. -/
import Derived.Test.YtobocamcoaeliaaGreatDoorQRemainWraps
namespace Go.Proofs.YtobocamcoaeliaaGreatDoor.Pure
open Go.RowKit Go.Proofs.YtobocamcoaeliaaGreatDoor.Lib Go.Proofs.YtobocamcoaeliaaGreatDoor.LibB Go.Proofs.YtobocamcoaeliaaGreatDoor.F Go.Proofs.YtobocamcoaeliaaGreatDoor.Nat1 Go.Proofs.YtobocamcoaeliaaGreatDoor.Nat2 Go.Proofs.YtobocamcoaeliaaGreatDoor.Bits Go.Proofs.YtobocamcoaeliaaGreatDoor.Div Go.Proofs.YtobocamcoaeliaaGreatDoor.Quot1 Go.Proofs.YtobocamcoaeliaaGreatDoor.Ieee1 Go.Proofs.YtobocamcoaeliaaGreatDoor.Mag Go.Proofs.YtobocamcoaeliaaGreatDoor.Ieee2 Go.Proofs.YtobocamcoaeliaaGreatDoor.Rnd Go.Proofs.YtobocamcoaeliaaGreatDoor.Rn
open Go.Proofs.YtobocamcoaeliaaGreatDoorA (rd ln ln_eq mx mn shl shr wr wr_eq)
set_option linter.unusedVariables false
set_option linter.unusedSimpArgs false
theorem or_sgn {x : Int} (h1 : 0 ≤ x) (h2 : x < 9223372036854775808) : Go.bits .or .u64 x 9223372036854775808 = x + 9223372036854775808 := by
  obtain ⟨n, rfl⟩ := Int.eq_ofNat_of_zero_le h1
  have := or_low' (p := 1) (x := n) (s := 63) (by omega) (by omega)
  rw [show ((1 * 2 ^ 63 : Nat) : Int) = 9223372036854775808 from rfl] at this
  rw [this]
  omega
theorem signed_put (s : Bool) {p : Nat} (hp : p ≤ inf) : remain_signed.f s (p : Int) = some (put s p) := by
  unfold inf at hp
  unfold remain_signed.f remain_signed.b0 put
  cases s with
  | true => rw [if_pos rfl, if_pos rfl, or_sgn (by omega) (by omega)]
  | false => rw [if_neg (by simp), if_neg (by simp), bit_abs ⟨by omega, by omega⟩, Int.emod_eq_of_lt (by omega) (by omega)]
/-- What stands behind the point: nothing, below a half, a half, above a half. -/
def rst (f O : Nat) : Int := if f = 0 then 0 else if 2 * f < O then 1 else if 2 * f = O then 2 else 3
theorem rst_scale {f O c : Nat} (hc : 0 < c) : rst (f * c) (O * c) = rst f O := by
  unfold rst
  have e1 : f * c = 0 ↔ f = 0 := ⟨fun h => (Nat.mul_eq_zero.1 h).resolve_right (by omega), fun h => by rw [h, Nat.zero_mul]⟩
  have e2 : 2 * (f * c) < O * c ↔ 2 * f < O := by rw [← Nat.mul_assoc]; exact ⟨fun h => Nat.lt_of_mul_lt_mul_right h, fun h => Nat.mul_lt_mul_of_pos_right h hc⟩
  have e3 : 2 * (f * c) = O * c ↔ 2 * f = O := by rw [← Nat.mul_assoc]; exact ⟨fun h => Nat.eq_of_mul_eq_mul_right hc h, fun h => by rw [h]⟩
  simp only [e1, e2, e3]
/-- Whether one is added. -/
def up (R : Bool → Nat → Int → Bool) (s : Bool) (w f O : Nat) : Bool := decide (rst f O ≠ 0) && R s w (rst f O)
noncomputable def Gt (n : Nat) (rule : Bool → Int → Int → Option Bool) (x0 x1 : Int) (x2 : Bool) (x3 x4 x5 : Int) : Option Int := remain_round_64.b255 ieee_Decode.f rule remain_signed.f (ieee_FromUint.f n) (fun y0 y1 y2 y3 y4 => remain_round_64.b511 ieee_Decode.f rule remain_signed.f (ieee_FromUint.f n) y0 y1 y2 y3 y4) x0 x1 x2 x3 x4 x5
noncomputable def Gr (n : Nat) (rule : Bool → Int → Int → Option Bool) (a : Int) : Option Int := remain_round_64.b0 ieee_Decode.f rule remain_signed.f (ieee_FromUint.f n) (Gt n rule) a
theorem round_tail {rule : Bool → Int → Int → Option Bool} {R : Bool → Nat → Int → Bool} (hr : ∀ s (w : Nat) r, rule s (w : Int) r = some (R s w r)) {w : Nat} {r : Int} {s : Bool} {c m e : Int} (hw : w < 9007199254740991) :
    Ev (fun n _ _ => Gt n rule (w : Int) r s c m e) (put s (rnd (w + (decide (r ≠ 0) && R s w r).toNat) 0 false)) := by
  simp only [Gt, remain_round_64.b255, remain_round_64.b511]
  have fin' : ∀ v : Nat, v < 9007199254740992 → Ev (fun n _ _ => (ieee_FromUint.f n (v : Int)).bind fun t1 => (remain_signed.f s t1).bind fun t2 => some t2) (put s (rnd v 0 false)) :=
    fun v hv => Ev.bind (FromUint_ev (by omega)) (Ev_bind_eq (signed_put s (rnd_le_inf v 0)) (Ev.now _))
  by_cases h0 : r = 0
  · rw [decide_eq_false (fun h => h h0)]
    exact Ev_neg (fun h => h h0) (fin' w (by omega))
  · rw [decide_eq_true h0, Bool.true_and]
    refine Ev_pos h0 (Ev_bind_eq (hr s w r) ?_)
    cases h : R s w r with
    | true =>
      refine Ev_pos rfl ?_
      rw [show IntKind.u64.wrap ((w : Int) + 1) = ((w + 1 : Nat) : Int) by rw [IntKind.wrap_u64]; omega]
      exact fin' (w + 1) (by omega)
    | false => exact Ev_neg (by simp) (fin' w (by omega))
theorem cls_le (d : Int) : cls d ≤ 4 := by unfold cls; repeat' split <;> omega
theorem shl_one_bit {k : Nat} (hk : k ≤ 63) : shl .u64 1 (k : Int) = ((2 ^ k : Nat) : Int) := by
  have hp2 : 2 ^ k ≤ 2 ^ 63 := Nat.pow_le_pow_right (by omega) hk
  have hp : 0 < 2 ^ k := Nat.pow_pos (by omega)
  rw [shl_u64 (by omega) (by omega), Int.one_mul]
  exact Int.emod_eq_of_lt (by omega) (by omega)
theorem low_bits {m k : Nat} (hm : m < 18446744073709551616) (hk : k ≤ 63) : Go.bits .and .u64 (m : Int) (IntKind.u64.wrap (((2 ^ k : Nat) : Int) - 1)) = ((m % 2 ^ k : Nat) : Int) := by
  have hp2 : 2 ^ k ≤ 2 ^ 63 := Nat.pow_le_pow_right (by omega) hk
  have hp : 0 < 2 ^ k := Nat.pow_pos (by omega)
  rw [show IntKind.u64.wrap (((2 ^ k : Nat) : Int) - 1) = ((2 ^ k - 1 : Nat) : Int) by rw [IntKind.wrap_u64]; omega, u64_and_nat _ _ hm (by omega), Nat.and_two_pow_sub_one_eq_mod]
theorem round_ev {rule : Bool → Int → Int → Option Bool} {R : Bool → Nat → Int → Bool} (hr : ∀ s (w : Nat) r, rule s (w : Int) r = some (R s w r)) {d : Int} (hd : U d) (hf : fin d) {Z : Nat} (hZ : Z = 1074) :
    ∃ p, Ev (fun n _ _ => Gr n rule d) (put (sgn d) p) ∧ p < inf ∧ uni p = (uni (plc d) / 2 ^ Z + (up R (sgn d) (uni (plc d) / 2 ^ Z) (uni (plc d) % 2 ^ Z) (2 ^ Z)).toNat) * 2 ^ Z := by
  simp only [Gr, remain_round_64.b0]
  have dd := Decode_eq hd
  have c34 := fun h => cls_fin.1 h hf
  have c3 : cls d ≠ 3 := fun h => c34 (by omega)
  have c4 : cls d ≠ 4 := fun h => c34 (by omega)
  have pd := (plc_put hd c4).1
  have pf := plc_fin.1 hf
  have whole : uni (plc d) % 2 ^ Z = 0 → uni (plc d) = (uni (plc d) / 2 ^ Z + (up R (sgn d) (uni (plc d) / 2 ^ Z) (uni (plc d) % 2 ^ Z) (2 ^ Z)).toNat) * 2 ^ Z := by
    intro h
    have h1 := Nat.div_add_mod (uni (plc d)) (2 ^ Z)
    rw [h, Nat.add_zero] at h1
    rw [h, up, rst, if_pos rfl]
    show _ = (_ + 0) * _
    rw [Nat.add_zero, Nat.mul_comm]
    exact h1.symm
  by_cases h0 : cls d = 0
  · refine ⟨plc d, Ev_bind_eq dd (Ev_neg c4 (Ev_neg c3 (Ev_pos h0 (Ev_some pd)))), pf, whole ?_⟩
    rw [(@cls_plc d).2.2.1.1 h0, uni_zero, Nat.zero_mod]
  have tp := trunc_parts hZ hf
  by_cases he : expOf d ≥ 0
  · exact ⟨plc d, Ev_bind_eq dd (Ev_neg c4 (Ev_neg c3 (Ev_neg h0 (Ev_pos he (Ev_some pd))))), pf, whole (tp.2.2 (.inl he))⟩
  obtain ⟨e0, e1⟩ := exp_range hf
  obtain ⟨m, am, rm, um⟩ := man_nat hf
  rw [am] at dd
  obtain ⟨k, hk⟩ : ∃ k : Nat, expOf d = -(k : Int) := ⟨(-expOf d).toNat, by omega⟩
  obtain ⟨q, hq⟩ : ∃ q, q = (expOf d + 1074).toNat := ⟨_, rfl⟩
  have hqZ : Z = k + q := by omega
  have pq : 0 < 2 ^ q := Nat.pow_pos (by omega)
  rw [← hq] at um
  have e2 : uni (plc d) / 2 ^ Z = m / 2 ^ k := by rw [um, hqZ, Nat.pow_add, Nat.mul_div_mul_right _ _ pq]
  have e3 : uni (plc d) % 2 ^ Z = m % 2 ^ k * 2 ^ q := by rw [um, hqZ, Nat.pow_add, Nat.mul_mod_mul_right]
  have e4 : rst (uni (plc d) % 2 ^ Z) (2 ^ Z) = rst (m % 2 ^ k) (2 ^ k) := by rw [e3, hqZ, Nat.pow_add, rst_scale pq]
  have w1 : wrap64 (-expOf d) = (k : Int) := by rw [hk]; unfold wrap64; omega
  have k0 : 0 < k := by omega
  have hhalf : 2 ^ k = 2 * 2 ^ (k - 1) := by rw [← Nat.pow_succ']; congr 1; omega
  have ph : 0 < 2 ^ (k - 1) := Nat.pow_pos (by omega)
  have hw : m / 2 ^ k < 9007199254740991 := by
    have : m / 2 ^ k ≤ m / 2 := Nat.div_le_div_left (by omega) (by omega)
    omega
  obtain ⟨x1, x2⟩ := rnd_exact (n := m / 2 ^ k + (up R (sgn d) (m / 2 ^ k) (uni (plc d) % 2 ^ Z) (2 ^ Z)).toNat) (e := 0) (by have := Bool.toNat_le (up R (sgn d) (m / 2 ^ k) (uni (plc d) % 2 ^ Z) (2 ^ Z)); omega) (by omega)
  rw [show ((0 : Int) + 1074).toNat = Z by omega] at x1
  refine ⟨_, ?_, x2, by rw [x1, e2]⟩
  have t : Ev (fun n _ _ => Gt n rule ((m / 2 ^ k : Nat) : Int) (rst (m % 2 ^ k) (2 ^ k)) (sgn d) (cls d) (m : Int) (expOf d)) (put (sgn d) (rnd (m / 2 ^ k + (up R (sgn d) (m / 2 ^ k) (uni (plc d) % 2 ^ Z) (2 ^ Z)).toNat) 0 false)) := by
    rw [up, e4]
    exact round_tail hr hw
  refine Ev_bind_eq dd (Ev_neg c4 (Ev_neg c3 (Ev_neg h0 (Ev_neg he ?_))))
  simp only [w1]
  by_cases hk6 : (k : Int) ≤ 63
  · have hk7 : k ≤ 63 := by omega
    have s1 := shl_one_bit hk7
    have s2 := shl_one_bit (k := k - 1) (by omega)
    have w2 : wrap64 ((k : Int) - 1) = ((k - 1 : Nat) : Int) := by unfold wrap64; omega
    have lb := low_bits (m := m) (k := k) (by omega) hk7
    have sr : shr .u64 (m : Int) (k : Int) = ((m / 2 ^ k : Nat) : Int) := by rw [shr_u64 (by omega), Int.natCast_ediv]
    simp only [s1, s2, w2, lb, sr]
    refine Ev_pos hk6 (Ev_pos (by omega) (Ev_pos (by omega) (Ev_pos (by omega) ?_)))
    unfold rst at t
    by_cases g0 : m % 2 ^ k = 0
    · rw [if_pos g0] at t; exact Ev_pos (by omega) t
    rw [if_neg g0] at t
    refine Ev_neg (by omega) ?_
    by_cases g1 : m % 2 ^ k = 2 ^ (k - 1)
    · rw [if_neg (by omega), if_pos (by omega)] at t; exact Ev_pos (by omega) t
    refine Ev_neg (by omega) ?_
    by_cases g2 : m % 2 ^ k > 2 ^ (k - 1)
    · rw [if_neg (by omega), if_neg (by omega)] at t; exact Ev_pos (by omega) t
    · rw [if_pos (by omega)] at t; exact Ev_neg (by omega) t
  · have hbig : 2 * m < 2 ^ k := by
      have : 2 ^ 64 ≤ 2 ^ k := Nat.pow_le_pow_right (by omega) (by omega)
      omega
    have m0 : m ≠ 0 := fun h => by
      rw [h, Nat.zero_mul] at um
      exact h0 ((@cls_plc d).2.2.1.2 (uni_inj (by rw [um]; rfl)))
    rw [Nat.div_eq_of_lt (by omega), Nat.mod_eq_of_lt (by omega)] at t
    unfold rst at t
    rw [if_neg m0, if_pos hbig] at t
    rw [Nat.div_eq_of_lt (by omega)]
    exact Ev_neg hk6 t
end Go.Proofs.YtobocamcoaeliaaGreatDoor.Pure
