/- remain.Power: x to the n, rounded once. No conditions. -/
import Derived.Test.YtobocamcoaeliaaGreatDoorQRemRound
import Derived.Test.YtobocamcoaeliaaGreatDoorQRatio
namespace Go.Proofs.YtobocamcoaeliaaGreatDoor.Pure
open Go.RowKit Go.Proofs.YtobocamcoaeliaaGreatDoor.Lib Go.Proofs.YtobocamcoaeliaaGreatDoor.LibB Go.Proofs.YtobocamcoaeliaaGreatDoor.F Go.Proofs.YtobocamcoaeliaaGreatDoor.Nat1 Go.Proofs.YtobocamcoaeliaaGreatDoor.Nat2 Go.Proofs.YtobocamcoaeliaaGreatDoor.Bits Go.Proofs.YtobocamcoaeliaaGreatDoor.Div Go.Proofs.YtobocamcoaeliaaGreatDoor.Quot1 Go.Proofs.YtobocamcoaeliaaGreatDoor.Ieee1 Go.Proofs.YtobocamcoaeliaaGreatDoor.Mag Go.Proofs.YtobocamcoaeliaaGreatDoor.Ieee2 Go.Proofs.YtobocamcoaeliaaGreatDoor.Rnd Go.Proofs.YtobocamcoaeliaaGreatDoor.Rn
open Go.Proofs.YtobocamcoaeliaaGreatDoorA (rd ln ln_eq mx mn shl shr wr wr_eq)
open Go.Proofs.YtobocamcoaeliaaGreatDoor.Ratio (RoundRatio_ev clamp)
open Go.Proofs.YtobocamcoaeliaaGreatDoor.Pow (quot_Pow_ev powAns)
set_option linter.unusedVariables false
set_option linter.unusedSimpArgs false
def odd (n : Int) : Bool := decide (¬ Int.tmod n 2 = 0)
/-- x to the n, n not 0 (K: 1074). -/
def PowR (K : Nat) (x n d : Int) : Prop :=
  if cls x = 4 then d = 9221120237041090560 else if cls x = 3 ∨ cls x = 0 then d = put (sgn x && odd n) (if decide (cls x = 3) = decide (n > 0) then inf else 0)
  else ∃ p, d = put (sgn x && odd n) p ∧ p ≤ inf ∧ if n > 0 then Near p (uni (plc x) ^ n.natAbs * 2 ^ K) (2 ^ (K * n.natAbs)) else Near p (2 ^ (K + K * n.natAbs)) (uni (plc x) ^ n.natAbs)
/-- What Power answers. -/
def PowerR (K : Nat) (x n : Int) (r : Int × Int) : Prop := if n < -1024 ∨ n > 1024 then r = (0, 60) else if n = 0 then r = (4607182418800017408, 0) else r.2 = 0 ∧ PowR K x n r.1
theorem mul_small {a b : Int} (ha : -2000 ≤ a ∧ a ≤ 2000) (hb : -1024 ≤ b ∧ b ≤ 1024) : -2048000 ≤ a * b ∧ a * b ≤ 2048000 := by
  have h1 : (a * b).natAbs ≤ 2000 * 1024 := by
    rw [Int.natAbs_mul]
    exact Nat.mul_le_mul (by omega) (by omega)
  omega
theorem pow_limit {m k : Nat} (hm : m < 9007199254740992) (hk : k ≤ 1024) : m ^ k < B 4096 := by
  have h1 : m ^ k ≤ (2 ^ 53) ^ k := Nat.pow_le_pow_left (by omega) k
  rw [← Nat.pow_mul] at h1
  exact Nat.lt_of_le_of_lt h1 (Go.Proofs.YtobocamcoaeliaaGreatDoor.Ieee2.pow_lt_B (by omega))
/-- The odd part of a double that is finite and no zero. -/
theorem odd_part {x : Int} (hf : fin x) (h0 : cls x ≠ 0) : ∃ M m z g : Nat, manOf x = (M : Int) ∧ bits_TrailingZeros64.f (M : Int) = some (z : Int) ∧ shr .u64 (M : Int) (z : Int) = (m : Int) ∧ m < 9007199254740992 ∧ m ≠ 0 ∧ z < 64 ∧ expOf x + z + 1074 = (g : Int) ∧ uni (plc x) = m * 2 ^ g ∧ M < 9007199254740992 ∧ z = tz M ∧ M / 2 ^ z = m := by
  obtain ⟨M, am, rm, um⟩ := man_nat hf
  have e := exp_range hf
  have M0 : M ≠ 0 := fun h => by
    rw [h, Nat.zero_mul] at um
    exact h0 ((@cls_plc x).2.2.1.2 (uni_inj (by rw [um]; rfl)))
  obtain ⟨c, hc⟩ := tz_spec M0
  obtain ⟨t1, t2⟩ := tz_limb (x := M) M0 (by omega)
  have pz : 0 < 2 ^ tz M := Nat.pow_pos (by omega)
  have hdiv : M / 2 ^ tz M = 2 * c + 1 := by
    conv => lhs; lhs; rw [hc]
    exact Nat.mul_div_cancel_left _ pz
  have hle : 2 * c + 1 ≤ M := by rw [← hdiv]; exact Nat.div_le_self _ _
  have hz := ctz64 (x := (M : Int)) (by omega)
  rw [Int.toNat_natCast, t1] at hz
  rw [t1] at t2
  refine ⟨M, 2 * c + 1, tz M, (expOf x + 1074).toNat + tz M, am, hz, ?_, by omega, by omega, t2, by omega, ?_, rm, rfl, hdiv⟩
  · rw [shr_u64 (by omega), ← hdiv, Int.natCast_ediv]
  · rw [um, Nat.pow_add, Nat.mul_comm (2 ^ (expOf x + 1074).toNat), ← Nat.mul_assoc]
    conv => lhs; lhs; rw [hc]
    rw [Nat.mul_comm (2 ^ tz M)]
theorem inf_lit : ((inf : Nat) : Int) = 9218868437227405312 := rfl
theorem Power_ev {x n : Int} (hx : U x) {K : Nat} (hK : K = 1074) : ∃ r, Ev (fun k _ _ => remain_Power.f k x n) r ∧ PowerR K x n r := by
  simp only [remain_Power.f, remain_Power.b0]
  unfold PowerR
  by_cases h1 : n < -1024
  · exact ⟨_, Ev_pos h1 (Ev.now _), by rw [if_pos (.inl h1)]⟩
  by_cases h2 : n > 1024
  · exact ⟨_, Ev_neg h1 (Ev_pos h2 (Ev.now _)), by rw [if_pos (.inr h2)]⟩
  by_cases h0 : n = 0
  · exact ⟨_, Ev_neg h1 (Ev_neg h2 (Ev_pos h0 (Ev.now _))), by rw [if_neg (by omega), if_pos h0]⟩
  have dd := Decode_eq hx
  suffices hs : ∃ d, Ev (fun k _ _ => remain_Power.l63 k n (sgn x && odd n) (sgn x) (cls x) (manOf x) (expOf x)) (d, 0) ∧ PowR K x n d by
    obtain ⟨d, e1, e2⟩ := hs
    refine ⟨(d, 0), Ev_neg h1 (Ev_neg h2 (Ev_neg h0 (Ev_bind_eq dd ?_))), by rw [if_neg (by omega), if_neg h0]; exact ⟨rfl, e2⟩⟩
    cases hsx : sgn x with
    | true => rw [hsx, Bool.true_and] at e1; exact Ev_pos rfl e1
    | false => rw [hsx, Bool.false_and] at e1; exact Ev_neg (by simp) e1
  simp only [remain_Power.l63, remain_Power.b63]
  unfold PowR
  by_cases c4 : cls x = 4
  · exact ⟨_, Ev_pos c4 (Ev.now _), by rw [if_pos c4]⟩
  have sg (t : Bool) : remain_signed.f t 9218868437227405312 = some (put t inf) := by rw [← inf_lit]; exact signed_put t (Nat.le_refl _)
  have sz (t : Bool) : remain_signed.f t 0 = some (put t 0) := signed_put t (p := 0) (by unfold inf; omega)
  by_cases c3 : cls x = 3
  · by_cases hb : decide (cls x = 3) = decide (n > 0)
    · exact ⟨_, Ev_neg c4 (Ev_pos c3 (Ev_pos (beq_iff_eq.2 hb) (Ev_bind_eq (sg _) (Ev.now _)))), by rw [if_neg c4, if_pos (.inl c3), if_pos hb]⟩
    · exact ⟨_, Ev_neg c4 (Ev_pos c3 (Ev_neg (fun h => hb (beq_iff_eq.1 h)) (Ev_bind_eq (sz _) (Ev.now _)))), by rw [if_neg c4, if_pos (.inl c3), if_neg hb]⟩
  by_cases c0 : cls x = 0
  · by_cases hb : decide (cls x = 3) = decide (n > 0)
    · exact ⟨_, Ev_neg c4 (Ev_neg c3 (Ev_pos c0 (Ev_pos (beq_iff_eq.2 hb) (Ev_bind_eq (sg _) (Ev.now _))))), by rw [if_neg c4, if_pos (.inr c0), if_pos hb]⟩
    · exact ⟨_, Ev_neg c4 (Ev_neg c3 (Ev_pos c0 (Ev_neg (fun h => hb (beq_iff_eq.1 h)) (Ev_bind_eq (sz _) (Ev.now _))))), by rw [if_neg c4, if_pos (.inr c0), if_neg hb]⟩
  have hf : fin x := cls_fin' c4 c3
  obtain ⟨M, m, z, g, am, hz, hs, hm, m0, z6, hg, hu, _, _, _⟩ := odd_part hf c0
  have e := exp_range hf
  obtain ⟨k, hk, k1⟩ : ∃ k, n.natAbs = k ∧ k ≤ 1024 := ⟨_, rfl, by omega⟩
  have hl := pow_limit hm k1
  have hpw := quot_Pow_ev (a := [(m : Int)]) (n := (k : Int)) (ok_one (by omega)) (by simp) (by omega)
  rw [one_limb, powAns, if_pos (Go.Proofs.YtobocamcoaeliaaGreatDoor.Ieee2.small_limit (by omega)), if_neg (by omega), Int.toNat_natCast, ans, if_pos hl] at hpw
  have w1 : wrap64 (expOf x + (z : Int)) = expOf x + z := wrap_id (by omega) (by omega)
  have hsm := mul_small (a := expOf x + z) (b := n) (by omega) (by omega)
  have w2 : wrap64 ((expOf x + (z : Int)) * n) = (expOf x + z) * n := wrap_id (by omega) (by omega)
  have hV : uni (plc x) ^ k = m ^ k * 2 ^ (g * k) := by rw [hu, Nat.mul_pow, ← Nat.pow_mul]
  have cg : ((g * k : Nat) : Int) = (expOf x + z) * (k : Int) + 1074 * (k : Int) := by rw [Int.natCast_mul, ← hg, Int.add_mul]
  have cK : ((K * k : Nat) : Int) = 1074 * (k : Int) := by rw [Int.natCast_mul, hK]; rfl
  simp only [am, hk]
  by_cases hp : n > 0
  · have hn : n = (k : Int) := by omega
    have hr := limb_ev (neg := (sgn x && odd n)) (e := (expOf x + z) * n) (more := false) hl
    have key : if n > 0 then Near (rnd (m ^ k) ((expOf x + z) * n) false) (uni (plc x) ^ k * 2 ^ K) (2 ^ (K * k)) else Near (rnd (m ^ k) ((expOf x + z) * n) false) (2 ^ (K + K * k)) (uni (plc x) ^ k) := by
      rw [if_pos hp, hV, Nat.mul_assoc, ← Nat.pow_add]
      refine rnd_near _ _ ?_
      rw [Int.natCast_add, cg, cK, hn, hK]
      omega
    refine ⟨put (sgn x && odd n) (rnd (m ^ k) ((expOf x + z) * n) false), Ev_neg c4 (Ev_neg c3 (Ev_neg c0 (Ev_bind_eq hz (Ev_pos (by omega) (Ev_pos hp ?_))))), by rw [if_neg c4, if_neg (by omega)]; exact ⟨_, rfl, rnd_le_inf _ _, key⟩⟩
    simp only [hs, w1, w2]
    exact Ev.bind (by rw [hn]; exact hpw) (Ev_neg (by simp) (Ev.bind hr (Ev.now _)))
  · have hn : n = -(k : Int) := by omega
    have w3 : wrap64 (-n) = (k : Int) := by rw [hn]; unfold wrap64; omega
    have hmk : m ^ k ≠ 0 := Nat.pos_iff_ne_zero.1 (Nat.pow_pos (by omega))
    obtain ⟨p, e1, e2⟩ := RoundRatio_ev (n := [1]) (d := lim (m ^ k)) (neg := (sgn x && odd n)) (e := (expOf x + z) * n) (by intro y hy; simp only [List.mem_singleton] at hy; subst hy; omega) (ok_lim _) (by simp) (by have := (lim_len_le _ 4096).2 hl; omega) (by rw [show val [1] = 1 from @one_limb 1]; exact Go.Proofs.YtobocamcoaeliaaGreatDoor.Ieee2.small_limit (by omega)) (by rw [val_lim]; exact hl) (by rw [val_lim]; exact hmk)
    have hN := e2 (K + K * k) (g * k) (by
      rw [Int.natCast_add, cg, cK, hn, Int.mul_neg, hK]
      have hsm' := hsm
      rw [hn, Int.mul_neg] at hsm'
      unfold clamp
      repeat' split
      all_goals omega)
    rw [val_lim, show val [1] = 1 from @one_limb 1, Nat.one_mul, ← hV] at hN
    refine ⟨put (sgn x && odd n) p, Ev_neg c4 (Ev_neg c3 (Ev_neg c0 (Ev_bind_eq hz (Ev_pos (by omega) (Ev_neg hp ?_))))), by rw [if_neg c4, if_neg (by omega)]; exact ⟨p, rfl, hN.1, by rw [if_neg hp]; exact hN⟩⟩
    simp only [hs, w1, w2, w3]
    exact Ev.bind hpw (Ev_neg (by simp) (Ev.bind e1 (Ev.now _)))
end Go.Proofs.YtobocamcoaeliaaGreatDoor.Pure
