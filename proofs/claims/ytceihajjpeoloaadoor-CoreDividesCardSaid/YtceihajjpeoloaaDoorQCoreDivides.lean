/- No neighbour of a quotient leaves less, for every input. No conditions. -/
import Derived.Test.YtceihajjpeoloaaDoorQSoftTot
namespace Go.Proofs.YtceihajjpeoloaaDoor.Pure
open Go.RowKit Go.Proofs.YtceihajjpeoloaaDoor.Lib Go.Proofs.YtceihajjpeoloaaDoor.LibB Go.Proofs.YtceihajjpeoloaaDoor.F Go.Proofs.YtceihajjpeoloaaDoor.Nat1 Go.Proofs.YtceihajjpeoloaaDoor.Nat2 Go.Proofs.YtceihajjpeoloaaDoor.Bits Go.Proofs.YtceihajjpeoloaaDoor.Ieee1 Go.Proofs.YtceihajjpeoloaaDoor.Mag Go.Proofs.YtceihajjpeoloaaDoor.Ieee2 Go.Proofs.YtceihajjpeoloaaDoor.Soft1 Go.Proofs.YtceihajjpeoloaaDoor.Soft2 Go.Proofs.YtceihajjpeoloaaDoor.SoftTot Go.Proofs.YtceihajjpeoloaaDoor.Rnd
open Go.Proofs.YtceihajjpeoloaaDoorA (rd ln ln_eq mx mn shl shr wr wr_eq)
set_option linter.unusedVariables false
set_option linter.unusedSimpArgs false
theorem and_low {n : Nat} (h : n < 9223372036854775808) : Go.bits .and .i64 (n : Int) 2047 = ((n % 2048 : Nat) : Int) := by
  have h1 : (BitVec.ofInt 64 2047).toNat = 2 ^ 11 - 1 := by decide
  have key : (BitVec.ofInt 64 (n : Int) &&& BitVec.ofInt 64 2047).toNat = ((n : Int) % ((2 ^ 64 : Nat) : Int)).toNat % 2 ^ 11 := by
    rw [BitVec.toNat_and, BitVec.toNat_ofInt, h1, Nat.and_two_pow_sub_one_eq_mod]
  show IntKind.i64.wrap ((BitVec.ofInt 64 (n : Int) &&& BitVec.ofInt 64 2047).toNat : Nat) = _
  rw [key, IntKind.wrap_i64]
  omega
theorem middle_ev {d : Int} (h : U d) : ∃ b, abacustop_middle.f d = some b ∧ (b = true → 2 ≤ plc d ∧ plc d + 1 < inf) := by
  have h1 := h.1
  have h2 := h.2
  unfold abacustop_middle.f abacustop_middle.b0
  obtain ⟨n, hn⟩ : ∃ n : Nat, d / 4503599627370496 = (n : Int) := ⟨(d / 4503599627370496).toNat, by omega⟩
  have w : wrap64 (d / 4503599627370496) = (n : Int) := by rw [hn]; unfold wrap64; omega
  rw [w, and_low (by omega)]
  by_cases g1 : ((n % 2048 : Nat) : Int) ≥ 623
  · rw [if_pos g1]
    refine ⟨_, rfl, fun hb => ?_⟩
    have g2 := of_decide_eq_true hb
    unfold plc inf
    omega
  · rw [if_neg g1]
    exact ⟨false, rfl, fun hb => by cases hb⟩
theorem rk_put {s : Bool} {p : Nat} (hp : p ≤ inf) : ¬ nan (put s p) ∧ rk (put s p) = if s = true then -(p : Int) else (p : Int) := by
  unfold inf at hp
  unfold nan rk put
  cases s with
  | false => simp only [Bool.false_eq_true, if_false]; exact ⟨by omega, by rw [if_pos (by omega)]⟩
  | true => simp only [if_true]; exact ⟨by omega, by rw [if_neg (by omega)]; omega⟩
theorem up_put {s : Bool} {p : Nat} (h2 : 2 ≤ p) (hp : p + 1 < inf) : upd (put s p) = put s (if s then p - 1 else p + 1) := by
  obtain ⟨n1, r1⟩ := rk_put (s := s) (p := p) (by omega)
  unfold inf at hp
  unfold upd
  rw [if_neg n1, r1]
  cases s with
  | false =>
    simp only [Bool.false_eq_true, if_false]
    rw [if_neg (by omega), if_neg (by omega)]
    unfold at' put
    rw [if_neg (by omega), if_neg (by omega)]
    rfl
  | true =>
    simp only [if_true]
    rw [if_neg (by omega), if_neg (by omega)]
    unfold at' put
    rw [if_neg (by omega), if_pos (by omega)]
    show 9223372036854775808 - (-(p : Int) + 1) = ((p - 1 : Nat) : Int) + 9223372036854775808
    omega
theorem neg_put {s : Bool} {p : Nat} (hp : p ≤ inf) : neg (put s p) = put (!s) p := by
  unfold inf at hp
  unfold neg put
  cases s with
  | true => simp only [if_true, Bool.not_true, Bool.false_eq_true, if_false]; rw [if_neg (by omega)]; omega
  | false => simp only [if_true, Bool.not_false, Bool.false_eq_true, if_false]; rw [if_pos (by omega)]
theorem down_put {s : Bool} {p : Nat} (h2 : 2 ≤ p) (hp : p + 1 < inf) : down (put s p) = put s (if s then p + 1 else p - 1) := by
  unfold down
  have hn : ¬ nan (put s p) := by unfold inf at hp; unfold nan put; cases s <;> simp <;> omega
  rw [if_neg hn, neg_put (by omega), up_put h2 hp, neg_put (by cases s <;> simp <;> omega), Bool.not_not]
  cases s <;> rfl
theorem cls_mid {d : Int} (h1 : plc d ≠ 0) (h2 : plc d < inf) : cls d ≠ 0 ∧ cls d ≠ 3 ∧ cls d ≠ 4 := by
  unfold plc at h1 h2
  unfold inf at h2
  unfold cls
  refine ⟨?_, ?_, ?_⟩ <;> (repeat' split) <;> omega
/-- What is left of a when y times b is taken off: y of the quotient's sign. -/
theorem rest_ev {a b : Int} {s : Bool} {y K : Nat} (hK : K = 1074) (ha : U a) (hb : U b) (a1 : plc a ≠ 0) (a2 : plc a < inf) (b1 : plc b ≠ 0) (b2 : plc b < inf) (y1 : y ≠ 0) (y2 : y < inf) (hs : s = (sgn a != sgn b)) :
    ∃ r : Nat, Ev (fun n _ _ => abacustop_rest.f n a b (put s y)) (r : Int) ∧ Near r ((uni (plc a) * 2 ^ K : Nat) - (uni y * uni (plc b) : Nat) : Int).natAbs (2 ^ K) := by
  obtain ⟨u, e, sg⟩ := Go.Proofs.YtceihajjpeoloaaDoor.Soft1.put_U (s := s) (Nat.le_of_lt y2)
  obtain ⟨d, ed, rd'⟩ := Fma_tot (K := K) hK (U_neg u) hb ha
  obtain ⟨n1, n2, n3⟩ := neg_parts u
  obtain ⟨ca0, ca3, ca4⟩ := cls_mid a1 a2
  obtain ⟨cb0, cb3, cb4⟩ := cls_mid b1 b2
  obtain ⟨cy0, cy3, cy4⟩ := cls_mid (d := neg (put s y)) (by rw [n2, e]; exact y1) (by rw [n2, e]; exact y2)
  unfold FmaR at rd'
  rw [if_neg (by omega), if_neg (by omega), if_neg (by omega), if_neg (by omega), if_neg ca3] at rd'
  obtain ⟨t, p, rfl, h1, _, _⟩ := rd'
  obtain ⟨up, ep, _⟩ := Go.Proofs.YtceihajjpeoloaaDoor.Soft1.put_U (s := t) h1.top
  refine ⟨p, ?_, ?_⟩
  · simp only [abacustop_rest.f, abacustop_rest.b0]
    refine Ev_bind_eq (Neg_eq u) (Ev.bind ed (Ev_bind_eq (Abs_eq up) (Ev_some ?_)))
    have := ep
    unfold plc at this
    have := Int.emod_nonneg (put t p) (show (9223372036854775808 : Int) ≠ 0 by omega)
    omega
  · rw [sval_neg u, sval, sval, sval, sg, e, hs] at h1
    have key : (-sv (sgn a != sgn b) (uni y) * sv (sgn b) (uni (plc b)) + sv (sgn a) (uni (plc a)) * ((2 ^ K : Nat) : Int)).natAbs = (((uni (plc a) * 2 ^ K : Nat) : Int) - ((uni y * uni (plc b) : Nat) : Int)).natAbs := by
      rw [Int.natCast_mul, Int.natCast_mul]
      generalize ((2 ^ K : Nat) : Int) = Q
      unfold sv
      cases sgn a <;> cases sgn b <;> simp [Int.neg_mul, Int.mul_neg] <;> omega
    rwa [key] at h1
theorem nearer {T B u v w p K : Nat} (hp : p ≠ 0) (hpi : p < inf) (h : Near p T B) :
    ((T : Int) - (uni p * B : Nat)).natAbs ≤ ((T : Int) - (uni (p + 1) * B : Nat)).natAbs ∧ ((T : Int) - (uni p * B : Nat)).natAbs ≤ ((T : Int) - (uni (p - 1) * B : Nat)).natAbs := by
  have l := h.lo hp
  have g := h.hi hpi
  rw [Nat.add_mul] at l g
  have m1 : uni p * B ≤ uni (p + 1) * B := Nat.mul_le_mul_right _ (Nat.le_of_lt (uni_lt p))
  have m2 : uni (p - 1) * B ≤ uni p * B := Nat.mul_le_mul_right _ (Nat.le_of_lt (uni_pred hp))
  generalize uni p * B = X at *
  generalize uni (p + 1) * B = Y at *
  generalize uni (p - 1) * B = W at *
  omega
theorem sixth : Ev (fun k _ _ => soft_Div.f k 4618441417868443648 4611686018427387904) 4613937818241073152 := Ev_at 3000 fun d => by kernel_rfl
theorem CoreDivides {a b : Int} (ha : U a) (hb : U b) : ∃ k, abacustop_CoreDivides.f k a b = some true := by
  refine Ev.rounds ?_
  obtain ⟨K, hK⟩ : ∃ K, K = 1074 := ⟨_, rfl⟩
  obtain ⟨q, eq, rq⟩ := Div_tot (K := K) hK ha hb
  simp only [abacustop_CoreDivides.f, abacustop_CoreDivides.b0]
  obtain ⟨ba, ea, pa⟩ := middle_ev ha
  obtain ⟨bb, eb, pb⟩ := middle_ev hb
  refine Ev.bind sixth (Ev_neg (by simp) (Ev.bind eq (Ev_bind_eq ea ?_)))
  cases ba with
  | false => exact Ev_neg (by simp) (Ev.now _)
  | true =>
    refine Ev_pos rfl (Ev_bind_eq eb ?_)
    cases bb with
    | false => exact Ev_neg (by simp) (Ev.now _)
    | true =>
      have pa := pa rfl
      have pb := pb rfl
      obtain ⟨ca0, ca3, ca4⟩ := cls_mid (d := a) (by omega) (by omega)
      obtain ⟨cb0, cb3, cb4⟩ := cls_mid (d := b) (by omega) (by omega)
      unfold DivR at rq
      rw [if_neg (by omega), if_neg (by omega)] at rq
      obtain ⟨p, rfl, hN⟩ := rq
      rw [if_neg (by omega), if_neg (by omega)] at hN
      obtain ⟨uq, pq, sq⟩ := Go.Proofs.YtceihajjpeoloaaDoor.Soft1.put_U (s := (sgn a != sgn b)) hN.top
      obtain ⟨bq, em, pm⟩ := middle_ev uq
      refine Ev_pos rfl (Ev_bind_eq em ?_)
      cases bq with
      | false => exact Ev_neg (by simp) (Ev.now _)
      | true =>
        have pm := pm rfl
        rw [pq] at pm
        have a1 : plc a ≠ 0 := by omega
        have b1 : plc b ≠ 0 := by omega
        have R (y : Nat) (y1 : y ≠ 0) (y2 : y < inf) := rest_ev (K := K) (y := y) hK ha hb a1 (by omega) b1 (by omega) y1 y2 rfl
        obtain ⟨r0, e0, k0⟩ := R p (by omega) (by omega)
        obtain ⟨n1, n2⟩ := nearer (u := 0) (v := 0) (w := 0) (K := K) (by omega) (by omega) hN
        have le (y r : Nat) (hy : y = p + 1 ∨ y = p - 1) (k : Near r (((uni (plc a) * 2 ^ K : Nat) : Int) - ((uni y * uni (plc b) : Nat) : Int)).natAbs (2 ^ K)) : r0 ≤ r := by
          refine near_mono (Nat.pow_pos (by omega)) (Nat.pow_pos (by omega)) k0 k (Nat.mul_le_mul_right _ ?_)
          rcases hy with rfl | rfl
          · exact n1
          · exact n2
        obtain ⟨r1, e1, k1⟩ := R (if (sgn a != sgn b) then p - 1 else p + 1) (by split <;> omega) (by split <;> omega)
        obtain ⟨r2, e2, k2⟩ := R (if (sgn a != sgn b) then p + 1 else p - 1) (by split <;> omega) (by split <;> omega)
        have hu := Up_ev uq
        have hd := Down_ev uq
        rw [up_put pm.1 pm.2] at hu
        rw [down_put pm.1 pm.2] at hd
        have l1 := le _ r1 (by split <;> simp) k1
        have l2 := le _ r2 (by split <;> simp) k2
        exact Ev_pos rfl (Ev.bind e0 (Ev.bind hu (Ev.bind e1 (Ev_pos (by omega) (Ev.bind hd (Ev.bind e2 (Ev_some (decide_eq_true (by omega)))))))))
end Go.Proofs.YtceihajjpeoloaaDoor.Pure
