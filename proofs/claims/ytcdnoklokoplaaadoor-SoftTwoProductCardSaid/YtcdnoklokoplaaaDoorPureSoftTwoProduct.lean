/- The product and its fused rest are the exact product, for every input. No conditions. -/
import Derived.Test.YtcdnoklokoplaaaDoorESoft2
import Derived.Test.YtcdnoklokoplaaaDoorRn
import Derived.Test.YtcdnoklokoplaaaDoorPEx13
import Derived.Test.YtcdnoklokoplaaaDoorPEx2
namespace Go.Proofs.YtcdnoklokoplaaaDoor.Pure
open Go.RowKit Go.Proofs.YtcdnoklokoplaaaDoorW.PrintWords Go.Proofs.YtcdnoklokoplaaaDoorW.PrintLast Go.Proofs.YtcdnoklokoplaaaDoorW.PrintMore Go.Proofs.YtcdnoklokoplaaaDoor.Lib Go.Proofs.YtcdnoklokoplaaaDoor.LibB Go.Proofs.YtcdnoklokoplaaaDoor.PE Go.Proofs.YtcdnoklokoplaaaDoor.ENat1 Go.Proofs.YtcdnoklokoplaaaDoor.ENat2 Go.Proofs.YtcdnoklokoplaaaDoor.EBits Go.Proofs.YtcdnoklokoplaaaDoor.EIeee1 Go.Proofs.YtcdnoklokoplaaaDoor.EMag Go.Proofs.YtcdnoklokoplaaaDoor.EIeee2 Go.Proofs.YtcdnoklokoplaaaDoor.ESoft1 Go.Proofs.YtcdnoklokoplaaaDoor.ESoft2 Go.Proofs.YtcdnoklokoplaaaDoor.Rnd Go.Proofs.YtcdnoklokoplaaaDoor.Rn
set_option linter.unusedVariables false
theorem works_ev : Ev (fun k => abacuslaw05_works.f k) true := by
  refine Ev_of_at 150 ?_ (fun k => abacuslaw05_works.mono k)
  kernel_rfl
theorem six_ev : Ev (fun k => soft_Mul.f k 4613937818241073152 4611686018427387904) 4618441417868443648 := by
  refine Ev_of_at 3000 ?_ (fun k => soft_Mul.mono _ _ k)
  kernel_rfl
theorem nine_ev : Ev (fun k => soft_Fma.f k 4611686018427387904 4613937818241073152 4613937818241073152) 4621256167635550208 := by
  refine Ev_of_at 3000 ?_ (fun k => soft_Fma.mono _ _ _ k)
  kernel_rfl
theorem rdm_rd {d w : Int} {M : Nat} {z : Bool} (hM : 0 < M) (h : RdM d (w * (M : Int)) M z) : Rd d w z := by
  obtain ⟨s, p, h0, h1, h2, h3⟩ := h
  have hab : (w * (M : Int)).natAbs = w.natAbs * M := by rw [Int.natAbs_mul]; rfl
  rw [hab] at h1
  refine ⟨s, p, h0, near_congr hM (by omega) h1 (by omega), fun hw => ?_, fun hw => h3 (by rw [hw, Int.zero_mul])⟩
  have hne : w * (M : Int) ≠ 0 := Int.mul_ne_zero hw (by omega)
  rw [h2 hne]
  refine decide_eq_decide.2 ⟨fun hl => ?_, fun hl => Int.mul_neg_of_neg_of_pos hl (by omega)⟩
  rcases Int.lt_or_le w 0 with h | h
  · exact h
  · exact absurd (Int.mul_nonneg h (show (0 : Int) ≤ (M : Int) by omega)) (by omega)
theorem rd_fin {d v : Int} {z : Bool} (h : Rd d v z) : U d ∧ (plc d = inf ∨ (fin d ∧ Rn v (sval d))) := by
  obtain ⟨s, p, rfl, h1, h2, h3⟩ := h
  have ht := h1.top
  obtain ⟨u1, u2, u3⟩ := put_U (s := s) ht
  refine ⟨u1, ?_⟩
  rw [u2]
  rcases Nat.lt_or_ge p inf with hp | hp
  · refine .inr ⟨plc_fin.2 (by rw [u2]; exact hp), rn_of h1 hp ?_⟩
    unfold sval
    rw [u2, u3]
    by_cases h0 : v = 0
    · have hz : p = 0 := near_unique (by omega) (by omega) h1 (near_zero (X := 0) (Y := 1) (by omega)) (by rw [h0]; rfl)
      rw [h0, hz, uni_zero, sv_zero]
      rfl
    · rw [h2 h0]
      unfold sv
      by_cases hn : v < 0
      · rw [decide_eq_true hn, if_pos rfl, if_pos hn]
      · rw [decide_eq_false hn, if_neg (by simp), if_neg hn]
  · exact .inl (by omega)
theorem twoprod_j1 {a b : Int} (ha : U a) (hb : U b) (fa : fin a) (fb : fin b) (he : -1074 ≤ expOf a + expOf b) : Ev (fun k => abacuslaw05_SoftTwoProduct.j1 k a b false) true := by
  obtain ⟨K, hK⟩ : ∃ K, K = 1074 := ⟨_, rfl⟩
  obtain ⟨F, hF⟩ : ∃ F, F = 2098 := ⟨_, rfl⟩
  have ea := exp_range fa
  have eb := exp_range fb
  have hp := Nat.pow_pos (show 0 < 2 by omega) (n := K)
  obtain ⟨x, hx⟩ : ∃ x : Nat, expOf a + 1074 = (x : Int) := ⟨(expOf a + 1074).toNat, by omega⟩
  obtain ⟨y, hy⟩ : ∃ y : Nat, expOf b + 1074 = (y : Int) := ⟨(expOf b + 1074).toNat, by omega⟩
  obtain ⟨n, hn⟩ : ∃ n : Nat, expOf a + expOf b + 1074 = (n : Int) := ⟨(expOf a + expOf b + 1074).toNat, by omega⟩
  obtain ⟨m, hm⟩ : ∃ m, m = (manOf a).toNat * (manOf b).toNat := ⟨_, rfl⟩
  have hm2 := man_mul (a := a) (b := b)
  rw [← hm] at hm2
  have hU : uni (plc a) * uni (plc b) = m * 2 ^ n * 2 ^ K := by
    rw [uni_parts fa, uni_parts fb, hx, hy, Int.toNat_natCast, Int.toNat_natCast, Nat.mul_mul_mul_comm, ← hm, ← Nat.pow_add, Nat.mul_assoc, ← Nat.pow_add, show x + y = n + K by omega]
  obtain ⟨w, hw⟩ : ∃ w, w = sv (sgn a != sgn b) (m * 2 ^ n) := ⟨_, rfl⟩
  have hprod : sval a * sval b = w * ((2 ^ K : Nat) : Int) := by
    unfold sval
    rw [sv_prod, hU, sv_mul _ (m * 2 ^ n), hw]
  have hwa : w.natAbs = m * 2 ^ n := by rw [hw, sv_abs]
  have hwd : ((2 ^ n : Nat) : Int) ∣ w := Int.ofNat_dvd_left.2 (by rw [hwa]; exact Nat.dvd_mul_left _ _)
  have hwb : w.natAbs < 2 ^ 106 * 2 ^ n := by rw [hwa]; exact Nat.mul_lt_mul_of_pos_right hm2 (Nat.pow_pos (by omega))
  clear hm2
  obtain ⟨p, p1, p2⟩ := Mul_ev hK ha hb fa fb
  rw [hprod] at p2
  have p3 := rdm_rd hp p2
  obtain ⟨up, p4⟩ := rd_fin p3
  have hand : Go.bits .andNot .u64 p 9223372036854775808 = ((plc p : Nat) : Int) := by
    rw [bit_abs up]; unfold plc; omega
  refine Ev_succ ?_
  simp only [abacuslaw05_SoftTwoProduct.j1]
  refine Ev_neg (by simp) (Ev.bind p1 ?_)
  by_cases hi : plc p = inf
  · exact Ev_pos (by rw [hand, hi]; rfl) (Ev_some rfl)
  refine Ev_neg (by rw [hand]; unfold inf at hi; omega) ?_
  obtain ⟨fp, rp⟩ : fin p ∧ Rn w (sval p) := by
    rcases p4 with h | h
    · exact absurd h hi
    · exact h
  have ng := neg_parts up
  obtain ⟨e, e1, e2⟩ := Fma_ev hK ha hb (U_neg up) fa fb (ng.2.2.2 fp)
  have hsum : sval a * sval b + sval (neg p) * ((2 ^ K : Nat) : Int) = (w - sval p) * ((2 ^ K : Nat) : Int) := by
    rw [hprod, sval_neg up, Int.sub_mul, Int.neg_mul, Int.sub_eq_add_neg]
  rw [hsum] at e2
  have e3 := rdm_rd hp e2
  obtain ⟨r, r1, r2⟩ := rn_prod rp hwd hwb
  obtain ⟨k1, k2, k3⟩ := rd_exact e3 (Nat.le_of_lt r1) r2
  have fe : fin e := plc_fin.2 (by rw [k1]; exact r1)
  have va := uni_lt_pow hF (plc_fin.1 fa)
  have vb := uni_lt_pow hF (plc_fin.1 fb)
  have vp := uni_lt_pow hF (plc_fin.1 fp)
  have ve := uni_lt_pow hF (plc_fin.1 fe)
  have hAB : uni (plc a) * uni (plc b) < 2 ^ (F + F) := by rw [Nat.pow_add]; exact Nat.mul_lt_mul'' va vb
  have hS : uni (plc p) + uni (plc e) < 2 ^ (F + 1) := Nat.lt_of_lt_of_eq (Nat.add_lt_add vp ve) (twice F)
  have q1 := pl_le (sgn p) (uni (plc p)) (sgn e) (uni (plc e))
  have q2 := pl_val (sgn p) (uni (plc p)) (sgn e) (uni (plc e))
  have hT : (pl (sgn p) (uni (plc p)) (sgn e) (uni (plc e))).2 * 2 ^ K < 2 ^ (F + 1 + K) := by
    rw [Nat.pow_add 2 (F + 1)]
    exact Nat.mul_lt_mul_of_pos_right (Nat.lt_of_le_of_lt q1 hS) hp
  have hall : uni (plc a) * uni (plc b) + (pl (sgn p) (uni (plc p)) (sgn e) (uni (plc e))).2 * 2 ^ K < B 4096 := by
    have g1 := Nat.lt_of_lt_of_le hAB (Nat.pow_le_pow_right (show 0 < 2 by omega) (show F + F ≤ F + F + K by omega))
    have g2 := Nat.lt_of_lt_of_le hT (Nat.pow_le_pow_right (show 0 < 2 by omega) (show F + 1 + K ≤ F + F + K by omega))
    exact pow_B (n := F + F + K + 1) (Nat.lt_of_lt_of_eq (Nat.add_lt_add g1 g2) (twice (F + F + K))) (by omega)
  have x1 := times_ev (b := sgn a) (c := sgn b) (pow_B (n := F + F) hAB (by omega)) (pow_B va (by omega)) (pow_B vb (by omega))
  have x2 := plus_ev (b := sgn p) (c := sgn e) (pow_B hS (by omega))
  have x3 := lifted_ev (b := (pl (sgn p) (uni (plc p)) (sgn e) (uni (plc e))).1) (x := (pl (sgn p) (uni (plc p)) (sgn e) (uni (plc e))).2) (n := K) (pow_B (Nat.lt_of_le_of_lt q1 hS) (by omega)) (pow_B hT (by omega)) (by omega)
  have x4 := same_ev (b := (sgn a != sgn b)) (c := (pl (sgn p) (uni (plc p)) (sgn e) (uni (plc e))).1) hall
  rw [show ((K : Nat) : Int) = 1074 by omega] at x3
  have hfin : sv (sgn a != sgn b) (uni (plc a) * uni (plc b)) = sv (pl (sgn p) (uni (plc p)) (sgn e) (uni (plc e))).1 ((pl (sgn p) (uni (plc p)) (sgn e) (uni (plc e))).2 * 2 ^ K) := by
    rw [sv_mul (pl (sgn p) (uni (plc p)) (sgn e) (uni (plc e))).1, q2, k3, hU, sv_mul _ (m * 2 ^ n), ← hw]
    congr 1
    unfold sval
    omega
  rw [decide_eq_true hfin] at x4
  clear hall hT hS hAB va vb vp ve
  exact Ev_bind_eq (Neg_eq up) (Ev.bind e1 (Ev_bind_eq (finite_eq up) (Ev_pos (decide_eq_true fp) (Ev_bind_eq (finite_eq k2) (Ev_pos (decide_eq_true fe)
    (Ev.bind (units_ev ha fa) (Ev.bind (units_ev hb fb) (Ev.bind x1 (Ev.bind (units_ev up fp) (Ev.bind (units_ev k2 fe) (Ev.bind x2 (Ev.bind x3 (Ev.bind x4 (Ev_some rfl))))))))))))))
theorem SoftTwoProduct : abacuslaw05_SoftTwoProduct.Pure := by
  intro a b w0 w1
  suffices h : Ev (fun k => abacuslaw05_SoftTwoProduct.f k a b) true by
    obtain ⟨K, hK⟩ := h
    exact ⟨K, hK K (Nat.le_refl _)⟩
  have hU : ∀ x : Int, (Lit.int .u64 x).wf = true → U x := by
    intro x w
    simp [Lit.wf] at w
    have h1 : IntKind.u64.min = 0 := rfl
    have h2 : IntKind.u64.max = 18446744073709551615 := rfl
    unfold U; omega
  have ha := hU a w0
  have hb := hU b w1
  have out1 : Ev (fun k => abacuslaw05_SoftTwoProduct.j1 k a b true) true := by
    refine Ev_succ ?_
    simp only [abacuslaw05_SoftTwoProduct.j1]
    exact Ev_pos (by first | rfl | trivial) (Ev_some rfl)
  simp only [abacuslaw05_SoftTwoProduct.f]
  refine Ev.bind works_ev (Ev_pos (by first | rfl | trivial) (Ev.bind six_ev (Ev_pos (by first | rfl | trivial) (Ev.bind nine_ev (Ev_succ ?_)))))
  simp only [abacuslaw05_SoftTwoProduct.j0]
  refine Ev_neg (by simp) (Ev_bind_eq (finite_eq ha) ?_)
  by_cases fa : fin a
  · refine Ev_pos (decide_eq_true fa) (Ev_bind_eq (finite_eq hb) ?_)
    by_cases fb : fin b
    · have ea := exp_range fa
      have eb := exp_range fb
      refine Ev_pos (decide_eq_true fb) (Ev_bind_eq (Decode_eq ha) (Ev_bind_eq (Decode_eq hb) ?_))
      dsimp only
      rw [show wrap64 (expOf a + expOf b) = expOf a + expOf b from wrap_id (by omega) (by omega)]
      by_cases he : expOf a + expOf b < -1074
      · rw [decide_eq_true he]
        exact out1
      · rw [decide_eq_false he]
        exact twoprod_j1 ha hb fa fb (by omega)
    · exact Ev_neg (by simp [fb]) out1
  · exact Ev_neg (by simp [fa]) out1
end Go.Proofs.YtcdnoklokoplaaaDoor.Pure
