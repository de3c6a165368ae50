/- The order of operands, signs, and what leaves a double as it is, for every input. No conditions. -/
import Derived.Test.YtcdnoklokoplaaaDoorQSoftTot
namespace Go.Proofs.YtcdnoklokoplaaaDoor.Pure
open Go.RowKit Go.Proofs.YtcdnoklokoplaaaDoor.Lib Go.Proofs.YtcdnoklokoplaaaDoor.LibB Go.Proofs.YtcdnoklokoplaaaDoor.F Go.Proofs.YtcdnoklokoplaaaDoor.Nat1 Go.Proofs.YtcdnoklokoplaaaDoor.Nat2 Go.Proofs.YtcdnoklokoplaaaDoor.Bits Go.Proofs.YtcdnoklokoplaaaDoor.Ieee1 Go.Proofs.YtcdnoklokoplaaaDoor.Mag Go.Proofs.YtcdnoklokoplaaaDoor.Ieee2 Go.Proofs.YtcdnoklokoplaaaDoor.Soft1 Go.Proofs.YtcdnoklokoplaaaDoor.Soft2 Go.Proofs.YtcdnoklokoplaaaDoor.SoftDiv Go.Proofs.YtcdnoklokoplaaaDoor.SoftTot Go.Proofs.YtcdnoklokoplaaaDoor.Rnd
set_option linter.unusedVariables false
set_option linter.unusedSimpArgs false
theorem adds_ev : Ev (fun k _ _ => abacuslaw05_adds.f k) true := Ev_at 3000 fun d => by kernel_rfl
theorem six_ev : Ev (fun k _ _ => soft_Mul.f k 4613937818241073152 4611686018427387904) 4618441417868443648 := Ev_at 3000 fun d => by kernel_rfl
theorem three_ev : Ev (fun k _ _ => soft_Div.f k 4618441417868443648 4611686018427387904) 4613937818241073152 := Ev_at 6000 fun d => by kernel_rfl
theorem nine_ev : Ev (fun k _ _ => soft_Fma.f k 4611686018427387904 4613937818241073152 4613937818241073152) 4621256167635550208 := Ev_at 3000 fun d => by kernel_rfl
/-! ### what the other sign does -/
theorem cls_neg {d : Int} (h : U d) : cls (neg d) = cls d := by
  have h1 := h.1
  have h2 := h.2
  have : neg d % 9223372036854775808 = d % 9223372036854775808 := by unfold neg; split <;> omega
  unfold cls
  rw [this]
theorem sgn_neg {d : Int} (h : U d) : sgn (neg d) = !sgn d := (neg_parts h).1
theorem plc_neg {d : Int} (h : U d) : plc (neg d) = plc d := (neg_parts h).2.1
theorem neg_put {s : Bool} {p : Nat} (hp : p ≤ inf) : neg (put s p) = put (!s) p := by
  unfold inf at hp
  unfold neg put
  cases s <;> simp <;> omega
theorem inf_same {a b : Int} (ha : U a) (hb : U b) (ca : cls a = 3) (cb : cls b = 3) (h : sgn a = sgn b) : a = b := by
  rw [(inf_put ha ca).1, (inf_put hb cb).1, h]
/-! ### Add -/
theorem AddR.symm {a b d : Int} (ha : U a) (hb : U b) (h : AddR a b d) : AddR b a d := by
  unfold AddR at h ⊢
  by_cases h1 : cls a = 4 ∨ cls b = 4
  · rw [if_pos h1] at h; rw [if_pos h1.symm]; exact h
  rw [if_neg h1] at h; rw [if_neg (fun k => h1 k.symm)]
  by_cases h2 : cls a = 3 ∧ cls b = 3 ∧ sgn a ≠ sgn b
  · rw [if_pos h2] at h; rw [if_pos ⟨h2.2.1, h2.1, fun k => h2.2.2 k.symm⟩]; exact h
  rw [if_neg h2] at h; rw [if_neg (fun k => h2 ⟨k.2.1, k.1, fun e => k.2.2 e.symm⟩)]
  by_cases h3 : cls a = 3
  · rw [if_pos h3] at h
    by_cases h4 : cls b = 3
    · rw [if_pos h4, h]
      refine inf_same ha hb h3 h4 ?_
      rcases Decidable.em (sgn a = sgn b) with h5 | h5
      · exact h5
      · exact absurd ⟨h3, h4, h5⟩ h2
    · rw [if_neg h4, if_pos h3]; exact h
  · rw [if_neg h3] at h
    by_cases h4 : cls b = 3
    · rw [if_pos h4] at h; rw [if_pos h4]; exact h
    · rw [if_neg h4] at h; rw [if_neg h4, if_neg h3, Int.add_comm, Bool.and_comm]; exact h
theorem near_put0 {p : Nat} (h : Near p 0 1) : p = 0 := near_unique (by omega) (by omega) h (near_zero (X := 0) (Y := 1) (by omega)) (by omega)
def zon (d : Int) : Prop := cls d = 0 ∨ cls d = 4
instance (d : Int) : Decidable (zon d) := by unfold zon; infer_instance
theorem cls_put0 (s : Bool) : cls (put s 0) = 0 := by cases s <;> rfl
theorem AddR.neg {a b d : Int} (ha : U a) (hb : U b) (h : AddR a b d) (hz : ¬ zon d) : AddR (neg a) (neg b) (neg d) := by
  have c1 := cls_neg ha
  have c2 := cls_neg hb
  have s1 := sgn_neg ha
  have s2 := sgn_neg hb
  unfold AddR at h ⊢
  rw [c1, c2]
  have nnan : ¬ d = 9221120237041090560 := fun k => hz (.inr (by rw [k]; rfl))
  by_cases h1 : cls a = 4 ∨ cls b = 4
  · rw [if_pos h1] at h; exact absurd h nnan
  rw [if_neg h1] at h; rw [if_neg h1]
  by_cases h2 : cls a = 3 ∧ cls b = 3 ∧ sgn a ≠ sgn b
  · rw [if_pos h2] at h; exact absurd h nnan
  rw [if_neg h2] at h; rw [if_neg (fun k => h2 ⟨k.1, k.2.1, fun e => k.2.2 (by rw [s1, s2, e])⟩)]
  by_cases h3 : cls a = 3
  · rw [if_pos h3] at h; rw [if_pos h3, h]
  rw [if_neg h3] at h; rw [if_neg h3]
  by_cases h4 : cls b = 3
  · rw [if_pos h4] at h; rw [if_pos h4, h]
  rw [if_neg h4] at h; rw [if_neg h4, sval_neg ha, sval_neg hb]
  obtain ⟨s, p, rfl, k1, k2, k3⟩ := h
  have hv : sval a + sval b ≠ 0 := fun e => by
    rw [e] at k1
    have := near_put0 k1
    subst this
    exact hz (.inl (cls_put0 s))
  rw [neg_put k1.top]
  refine ⟨!s, p, rfl, by rw [show -sval a + -sval b = -(sval a + sval b) by omega, Int.natAbs_neg]; exact k1, fun _ => ?_, fun e => by omega⟩
  rw [k2 hv]
  by_cases hl : sval a + sval b < 0
  · rw [decide_eq_true hl, decide_eq_false (by omega)]; rfl
  · rw [decide_eq_false hl, decide_eq_true (by omega)]; rfl
theorem AddR.zero {a z d : Int} (ha : U a) (hz : z = 9223372036854775808) (hn : cls a ≠ 4) (h : AddR a z d) : d = a := by
  subst hz
  have c0 : cls 9223372036854775808 = 0 := rfl
  have s0 : sgn 9223372036854775808 = true := rfl
  have p0 : sval 9223372036854775808 = 0 := rfl
  unfold AddR at h
  rw [c0, s0, p0, if_neg (by omega), if_neg (by omega), Int.add_zero, Bool.and_true] at h
  obtain ⟨e1, e2⟩ := plc_put ha hn
  by_cases h3 : cls a = 3
  · rw [if_pos h3] at h; exact h
  rw [if_neg h3, if_neg (by omega)] at h
  obtain ⟨s, p, rfl, k1, k2, k3⟩ := h
  have hv : (sval a).natAbs = uni (plc a) := sv_abs _ _
  have hp : p = plc a := near_unique (by omega) (by omega) k1 (near_exact (p := plc a) (Y := 1) (by omega) e2) (by rw [hv, Nat.mul_one, Nat.mul_one])
  rw [hp]
  conv => rhs; rw [e1]
  congr 1
  by_cases h0 : sval a = 0
  · exact k3 h0
  · rw [k2 h0]
    unfold sval sv at h0 ⊢
    cases hs : sgn a <;> rw [hs] at h0 <;> simp at h0 ⊢ <;> omega
/-! ### Mul, Div -/
theorem MulR.symm {K : Nat} {a b d : Int} (h : MulR K a b d) : MulR K b a d := by
  unfold MulR at h ⊢
  by_cases h1 : cls a = 4 ∨ cls b = 4
  · rw [if_pos h1] at h; rw [if_pos h1.symm]; exact h
  rw [if_neg h1] at h; rw [if_neg (fun k => h1 k.symm)]
  by_cases h2 : (cls a = 3 ∧ cls b = 0) ∨ (cls a = 0 ∧ cls b = 3)
  · rw [if_pos h2] at h; rw [if_pos (by omega)]; exact h
  rw [if_neg h2] at h; rw [if_neg (by omega)]
  obtain ⟨p, h3, h4⟩ := h
  refine ⟨p, by rw [h3]; congr 1; cases sgn a <;> cases sgn b <;> rfl, ?_⟩
  by_cases h5 : cls a = 3 ∨ cls b = 3
  · rw [if_pos h5] at h4; rw [if_pos h5.symm]; exact h4
  · rw [if_neg h5] at h4; rw [if_neg (fun k => h5 k.symm), Nat.mul_comm]; exact h4
theorem near_or_inf {c : Prop} [Decidable c] {p X Y : Nat} (h : if c then p = inf else Near p X Y) : p ≤ inf := by
  by_cases hc : c
  · rw [if_pos hc] at h; omega
  · rw [if_neg hc] at h; exact h.top
theorem MulR.neg1 {K : Nat} {a b d : Int} (ha : U a) (h : MulR K a b d) (hn : d ≠ 9221120237041090560) : MulR K (neg a) b (neg d) := by
  unfold MulR at h ⊢
  rw [cls_neg ha, sgn_neg ha, plc_neg ha]
  by_cases h1 : cls a = 4 ∨ cls b = 4
  · rw [if_pos h1] at h; exact absurd h hn
  rw [if_neg h1] at h; rw [if_neg h1]
  by_cases h2 : (cls a = 3 ∧ cls b = 0) ∨ (cls a = 0 ∧ cls b = 3)
  · rw [if_pos h2] at h; exact absurd h hn
  rw [if_neg h2] at h; rw [if_neg h2]
  obtain ⟨p, rfl, h4⟩ := h
  exact ⟨p, by rw [neg_put (near_or_inf h4)]; congr 1; cases sgn a <;> cases sgn b <;> rfl, h4⟩
theorem DivR.top {K : Nat} {a b : Int} {p : Nat} (h4 : if cls a = 3 ∨ cls b = 0 then p = inf else if cls a = 0 ∨ cls b = 3 then p = 0 else Near p (uni (plc a) * 2 ^ K) (uni (plc b))) : p ≤ inf := by
  by_cases h5 : cls a = 3 ∨ cls b = 0
  · rw [if_pos h5] at h4; omega
  rw [if_neg h5] at h4
  by_cases h6 : cls a = 0 ∨ cls b = 3
  · rw [if_pos h6] at h4; omega
  rw [if_neg h6] at h4; exact h4.top
theorem DivR.neg {K : Nat} {a b d : Int} (ha : U a) (hb : U b) (h : DivR K a b d) (hn : d ≠ 9221120237041090560) : DivR K (neg a) b (neg d) ∧ DivR K a (neg b) (neg d) := by
  unfold DivR at h ⊢
  rw [cls_neg ha, sgn_neg ha, plc_neg ha, cls_neg hb, sgn_neg hb, plc_neg hb]
  by_cases h1 : cls a = 4 ∨ cls b = 4
  · rw [if_pos h1] at h; exact absurd h hn
  rw [if_neg h1] at h; rw [if_neg h1, if_neg h1]
  by_cases h2 : cls a = cls b ∧ (cls a = 3 ∨ cls a = 0)
  · rw [if_pos h2] at h; exact absurd h hn
  rw [if_neg h2] at h; rw [if_neg h2, if_neg h2]
  obtain ⟨p, rfl, h4⟩ := h
  exact ⟨⟨p, by rw [neg_put (DivR.top h4)]; congr 1; cases sgn a <;> cases sgn b <;> rfl, h4⟩, p, by rw [neg_put (DivR.top h4)]; congr 1; cases sgn a <;> cases sgn b <;> rfl, h4⟩
/-! ### One -/
theorem one_parts {K o : Nat} (hK : K = 1074) (ho : o = 4607182418800017408) : cls (o : Int) = 2 ∧ sgn (o : Int) = false ∧ plc (o : Int) = o ∧ uni o = 2 ^ K := by
  refine ⟨by subst ho; rfl, by subst ho; rfl, by subst ho; rfl, ?_⟩
  have h := uni_at (k := K - 52) (c := 4503599627370496) (.inr (by omega)) (by omega)
  rw [show (K - 52) * 4503599627370496 + 4503599627370496 = o by omega] at h
  rw [h, show (4503599627370496 : Nat) = 2 ^ 52 from rfl, ← Nat.pow_add]
  congr 1; omega
theorem MulR.one {K o : Nat} {a d : Int} (hK : K = 1074) (ho : o = 4607182418800017408) (ha : U a) (hn : cls a ≠ 4) (h : MulR K a (o : Int) d) : d = a := by
  obtain ⟨c1, s1, p1, u1⟩ := one_parts hK ho
  obtain ⟨e1, e2⟩ := plc_put ha hn
  unfold MulR at h
  rw [c1, s1, p1, u1, if_neg (by omega), if_neg (by omega)] at h
  obtain ⟨p, rfl, h4⟩ := h
  conv => rhs; rw [e1]
  congr 1
  · cases sgn a <;> rfl
  · by_cases h3 : cls a = 3
    · rw [if_pos (.inl h3)] at h4; rw [h4, (inf_put ha h3).2]
    · rw [if_neg (by omega)] at h4
      exact near_unique (Nat.pow_pos (by omega)) (Nat.pow_pos (by omega)) h4 (near_exact (Nat.pow_pos (by omega)) e2) rfl
theorem DivR.one {K o : Nat} {a d : Int} (hK : K = 1074) (ho : o = 4607182418800017408) (ha : U a) (hn : cls a ≠ 4) (h : DivR K a (o : Int) d) : d = a := by
  obtain ⟨c1, s1, p1, u1⟩ := one_parts hK ho
  obtain ⟨e1, e2⟩ := plc_put ha hn
  unfold DivR at h
  rw [c1, s1, p1, u1, if_neg (by omega), if_neg (by omega)] at h
  obtain ⟨p, rfl, h4⟩ := h
  conv => rhs; rw [e1]
  congr 1
  · cases sgn a <;> rfl
  · by_cases h3 : cls a = 3
    · rw [if_pos (.inl h3)] at h4; rw [h4, (inf_put ha h3).2]
    · rw [if_neg (by omega)] at h4
      by_cases h0 : cls a = 0
      · rw [if_pos (.inl h0)] at h4; rw [h4, cls_zero.1 h0]
      · rw [if_neg (by omega)] at h4
        exact near_unique (Nat.pow_pos (by omega)) (Nat.pow_pos (by omega)) h4 (near_exact (Nat.pow_pos (by omega)) e2) rfl
/-! ### Fma -/
theorem FmaR.symm {K : Nat} {a b c d : Int} (h : FmaR K a b c d) : FmaR K b a c d := by
  have es : (sgn b != sgn a) = (sgn a != sgn b) := by cases sgn a <;> cases sgn b <;> rfl
  unfold FmaR at h ⊢
  rw [es, Int.mul_comm (sval b)]
  by_cases h1 : cls a = 4 ∨ cls b = 4 ∨ cls c = 4
  · rw [if_pos h1] at h; rw [if_pos (by omega)]; exact h
  rw [if_neg h1] at h; rw [if_neg (by omega)]
  by_cases h2 : (cls a = 3 ∧ cls b = 0) ∨ (cls a = 0 ∧ cls b = 3)
  · rw [if_pos h2] at h; rw [if_pos (by omega)]; exact h
  rw [if_neg h2] at h; rw [if_neg (by omega)]
  have e3 : (cls b = 3 ∨ cls a = 3) = (cls a = 3 ∨ cls b = 3) := propext ⟨Or.symm, Or.symm⟩
  simp only [e3]
  exact h
theorem rdm_rd {d v : Int} {M : Nat} {z : Bool} (hM : 0 < M) (h : RdM d (v * (M : Int)) M z) : Rd d v z := by
  obtain ⟨s, p, rfl, h1, h2, h3⟩ := h
  have hm : (v * (M : Int)).natAbs = v.natAbs * M := by rw [Int.natAbs_mul]; rfl
  rw [hm] at h1
  refine ⟨s, p, rfl, near_congr hM (by omega) h1 (by rw [Nat.mul_one]), fun hv => ?_, fun hv => h3 (by rw [hv, Int.zero_mul])⟩
  have hM' : (0 : Int) < (M : Int) := by omega
  rw [h2 (fun e => hv ((Int.mul_eq_zero.1 e).resolve_right (by omega)))]
  refine decide_eq_decide.2 ?_
  constructor
  · intro hl
    rcases Int.lt_or_le v 0 with h5 | h5
    · exact h5
    · have := Int.mul_nonneg h5 (Int.le_of_lt hM'); omega
  · intro hl; exact Int.mul_neg_of_neg_of_pos hl hM'
theorem FmaR.one {K o : Nat} {a b d : Int} (hK : K = 1074) (ho : o = 4607182418800017408) (ha : U a) (hb : U b) (h : FmaR K a (o : Int) b d) : AddR a b d := by
  obtain ⟨c1, s1, p1, u1⟩ := one_parts hK ho
  have v1 : sval (o : Int) = ((2 ^ K : Nat) : Int) := by unfold sval; rw [s1, p1, u1]; rfl
  have es : (sgn a != false) = sgn a := by cases sgn a <;> rfl
  unfold FmaR at h
  unfold AddR
  rw [c1, s1, v1, es] at h
  by_cases h1 : cls a = 4 ∨ cls b = 4
  · rw [if_pos (by omega)] at h; rw [if_pos h1]; exact h
  rw [if_neg (by omega), if_neg (by omega)] at h; rw [if_neg h1]
  have e3 : (cls a = 3 ∨ (2 : Int) = 3) = (cls a = 3) := propext ⟨fun k => k.resolve_right (by decide), .inl⟩
  simp only [e3] at h
  by_cases h2 : cls a = 3 ∧ cls b = 3 ∧ sgn b ≠ sgn a
  · rw [if_pos h2] at h; rw [if_pos ⟨h2.1, h2.2.1, fun e => h2.2.2 e.symm⟩]; exact h
  rw [if_neg h2] at h; rw [if_neg (fun k => h2 ⟨k.1, k.2.1, fun e => k.2.2 e.symm⟩)]
  by_cases h3 : cls a = 3
  · rw [if_pos h3] at h; rw [if_pos h3, h]; exact (inf_put ha h3).1.symm
  rw [if_neg h3] at h; rw [if_neg h3]
  by_cases h4 : cls b = 3
  · rw [if_pos h4] at h; rw [if_pos h4]; exact h
  rw [if_neg h4] at h; rw [if_neg h4]
  rw [← Int.add_mul] at h
  exact rdm_rd (Nat.pow_pos (by omega)) h
theorem FmaR.nought {K : Nat} {a b z d : Int} (hz : z = 9223372036854775808) (h : FmaR K a b z d) : MulR K a b d := by
  subst hz
  have c0 : cls 9223372036854775808 = 0 := rfl
  have s0 : sgn 9223372036854775808 = true := rfl
  have p0 : sval 9223372036854775808 = 0 := rfl
  unfold FmaR at h
  unfold MulR
  rw [c0, s0, p0, Int.zero_mul, Int.add_zero, Bool.and_true] at h
  by_cases h1 : cls a = 4 ∨ cls b = 4
  · rw [if_pos (by omega)] at h; rw [if_pos h1]; exact h
  rw [if_neg (by omega)] at h; rw [if_neg h1]
  by_cases h2 : (cls a = 3 ∧ cls b = 0) ∨ (cls a = 0 ∧ cls b = 3)
  · rw [if_pos h2] at h; rw [if_pos h2]; exact h
  rw [if_neg h2, if_neg (by omega)] at h; rw [if_neg h2]
  by_cases h3 : cls a = 3 ∨ cls b = 3
  · rw [if_pos h3] at h; exact ⟨inf, h, by rw [if_pos h3]⟩
  · rw [if_neg h3, if_neg (by omega)] at h
    obtain ⟨p, h4, h5⟩ := prod_sign h
    exact ⟨p, h4, by rw [if_neg h3]; exact h5⟩
theorem zon_eq {d : Int} (h : U d) : abacuslaw05_zeroOrNaN.f d = some (decide (zon d)) := by
  unfold abacuslaw05_zeroOrNaN.f abacuslaw05_zeroOrNaN.b0
  rw [bit_abs h]
  have hz : zon d ↔ d % 9223372036854775808 = 0 ∨ d % 9223372036854775808 > 9218868437227405312 := by
    unfold zon cls
    constructor
    · intro h; repeat' split at h
      all_goals omega
    · intro h; repeat' split
      all_goals omega
  by_cases h0 : d % 9223372036854775808 = 0
  · rw [if_pos h0, decide_eq_true (hz.2 (.inl h0))]
  · rw [if_neg h0]
    congr 1
    refine decide_eq_decide.2 ?_
    rw [hz]
    exact ⟨.inr, fun k => k.resolve_left h0⟩
theorem AddR.U {a b d : Int} (ha : U a) (hb : U b) (h : AddR a b d) : U d := by
  unfold AddR at h
  by_cases h1 : cls a = 4 ∨ cls b = 4
  · rw [if_pos h1] at h; subst h; exact ⟨by decide, by decide⟩
  rw [if_neg h1] at h
  by_cases h2 : cls a = 3 ∧ cls b = 3 ∧ sgn a ≠ sgn b
  · rw [if_pos h2] at h; subst h; exact ⟨by decide, by decide⟩
  rw [if_neg h2] at h
  by_cases h3 : cls a = 3
  · rw [if_pos h3] at h; subst h; exact ha
  rw [if_neg h3] at h
  by_cases h4 : cls b = 3
  · rw [if_pos h4] at h; subst h; exact hb
  rw [if_neg h4] at h
  obtain ⟨s, p, rfl, k1, _⟩ := h
  exact (put_U k1.top).1
theorem MulR.U {K : Nat} {a b d : Int} (h : MulR K a b d) : U d := by
  unfold MulR at h
  by_cases h1 : cls a = 4 ∨ cls b = 4
  · rw [if_pos h1] at h; subst h; exact ⟨by decide, by decide⟩
  rw [if_neg h1] at h
  by_cases h2 : (cls a = 3 ∧ cls b = 0) ∨ (cls a = 0 ∧ cls b = 3)
  · rw [if_pos h2] at h; subst h; exact ⟨by decide, by decide⟩
  rw [if_neg h2] at h
  obtain ⟨p, rfl, h4⟩ := h
  exact (put_U (near_or_inf h4)).1
theorem DivR.U {K : Nat} {a b d : Int} (h : DivR K a b d) : U d := by
  unfold DivR at h
  by_cases h1 : cls a = 4 ∨ cls b = 4
  · rw [if_pos h1] at h; subst h; exact ⟨by decide, by decide⟩
  rw [if_neg h1] at h
  by_cases h2 : cls a = cls b ∧ (cls a = 3 ∨ cls a = 0)
  · rw [if_pos h2] at h; subst h; exact ⟨by decide, by decide⟩
  rw [if_neg h2] at h
  obtain ⟨p, rfl, h4⟩ := h
  exact (put_U (DivR.top h4)).1
theorem flip_neg {d : Int} (h : U d) : Go.bits .xor .u64 d 9223372036854775808 = neg d := by rw [bit_flip h]; rfl
/-! ### the law, from its end -/
section
variable {a b c s p q : Int} {K : Nat}
theorem l2047_ev (hK : K = 1074) (ha : U a) : Ev (fun k _ _ => abacuslaw05_SoftSigns.l2047 k a) true := by
  simp only [abacuslaw05_SoftSigns.l2047, abacuslaw05_SoftSigns.b2047, bit_abs ha]
  by_cases hn : a % 9223372036854775808 > 9218868437227405312
  · exact Ev_pos hn (Ev_some rfl)
  · have hc : cls a ≠ 4 := by
      unfold cls; repeat' split
      all_goals omega
    obtain ⟨o, ho⟩ : ∃ o : Nat, o = 4607182418800017408 := ⟨_, rfl⟩
    have hoU : U (o : Int) := by subst ho; exact ⟨by decide, by decide⟩
    obtain ⟨d1, e1, r1⟩ := Mul_tot hK ha hoU
    obtain ⟨d2, e2, r2⟩ := Div_tot hK ha hoU
    obtain ⟨d3, e3, r3⟩ := Sub_tot (b := 0) ha ⟨by decide, by decide⟩
    obtain ⟨d4, e4, r4⟩ := Add_tot (b := 9223372036854775808) ha ⟨by decide, by decide⟩
    have k1 := MulR.one hK ho ha hc r1
    have k2 := DivR.one hK ho ha hc r2
    have k3 := AddR.zero ha (by rfl) hc r3
    have k4 := AddR.zero ha rfl hc r4
    rw [show (o : Int) = 4607182418800017408 by omega] at e1 e2
    exact Ev_neg hn (Ev.bind e1 (Ev_pos k1 (Ev.bind e2 (Ev_pos k2 (Ev.bind e3 (Ev_pos k3 (Ev.bind e4 (Ev_some (decide_eq_true k4)))))))))
theorem l1023_ev (hK : K = 1074) (ha : U a) (hb : U b) (hq : DivR K a b q) : Ev (fun k _ _ => abacuslaw05_SoftSigns.l1023 k a b q) true := by
  simp only [abacuslaw05_SoftSigns.l1023, abacuslaw05_SoftSigns.b1023, flip_neg ha, flip_neg hb, flip_neg (DivR.U hq)]
  by_cases hn : q = 9221120237041090560
  · exact Ev_neg (fun k => k hn) (l2047_ev hK ha)
  · obtain ⟨n1, n2⟩ := DivR.neg ha hb hq hn
    obtain ⟨d1, e1, r1⟩ := Div_tot hK (U_neg ha) hb
    obtain ⟨d2, e2, r2⟩ := Div_tot hK ha (U_neg hb)
    exact Ev_pos hn (Ev.bind e1 (Ev_neg (fun k => k (DivR.unique r1 n1)) (Ev.bind e2 (Ev_neg (fun k => k (DivR.unique r2 n2)) (l2047_ev hK ha)))))
theorem l511_ev (hK : K = 1074) (ha : U a) (hb : U b) (hp : MulR K a b p) (hq : DivR K a b q) : Ev (fun k _ _ => abacuslaw05_SoftSigns.l511 k a b p q) true := by
  simp only [abacuslaw05_SoftSigns.l511, abacuslaw05_SoftSigns.b511, flip_neg ha, flip_neg hb, flip_neg (MulR.U hp)]
  by_cases hn : p = 9221120237041090560
  · exact Ev_neg (fun k => k hn) (l1023_ev hK ha hb hq)
  · have n1 := MulR.neg1 ha hp hn
    have n2 := MulR.symm (MulR.neg1 hb (MulR.symm hp) hn)
    obtain ⟨d1, e1, r1⟩ := Mul_tot hK (U_neg ha) hb
    obtain ⟨d2, e2, r2⟩ := Mul_tot hK ha (U_neg hb)
    exact Ev_pos hn (Ev.bind e1 (Ev_neg (fun k => k (MulR.unique r1 n1)) (Ev.bind e2 (Ev_neg (fun k => k (MulR.unique r2 n2)) (l1023_ev hK ha hb hq)))))
theorem l509_ev (hK : K = 1074) (ha : U a) (hb : U b) (hs : AddR a b s) (hp : MulR K a b p) (hq : DivR K a b q) : Ev (fun k _ _ => abacuslaw05_SoftSigns.l509 k a b s p q false) true := by
  have hsU := AddR.U ha hb hs
  simp only [abacuslaw05_SoftSigns.l509, abacuslaw05_SoftSigns.b509, flip_neg ha, flip_neg hb, flip_neg hsU]
  refine Ev_neg (by simp) (Ev_bind_eq (zon_eq hsU) ?_)
  by_cases hz : zon s
  · exact Ev_neg (by simp [hz]) (l511_ev hK ha hb hp hq)
  · obtain ⟨d1, e1, r1⟩ := Add_tot (U_neg ha) (U_neg hb)
    exact Ev_pos (by simp [hz]) (Ev.bind e1 (Ev_neg (fun k => k (AddR.unique r1 (AddR.neg ha hb hs hz))) (l511_ev hK ha hb hp hq)))
end
theorem SoftSigns {a b c : Int} (ha : U a) (hb : U b) (hc : U c) : ∃ n, abacuslaw05_SoftSigns.f n a b c = some true := by
  refine Ev.rounds (g := fun n => abacuslaw05_SoftSigns.f n a b c) ?_
  obtain ⟨K, hK⟩ : ∃ K, K = 1074 := ⟨_, rfl⟩
  obtain ⟨o, ho⟩ : ∃ o : Nat, o = 4607182418800017408 := ⟨_, rfl⟩
  have hoU : U (o : Int) := by subst ho; exact ⟨by decide, by decide⟩
  obtain ⟨s, e1, r1⟩ := Add_tot ha hb
  obtain ⟨p, e2, r2⟩ := Mul_tot hK ha hb
  obtain ⟨q, e3, r3⟩ := Div_tot hK ha hb
  obtain ⟨s', e4, r4⟩ := Add_tot hb ha
  obtain ⟨p', e5, r5⟩ := Mul_tot hK hb ha
  obtain ⟨f1, e6, r6⟩ := Fma_tot hK ha hb hc
  obtain ⟨f2, e7, r7⟩ := Fma_tot hK hb ha hc
  obtain ⟨d1, e8, r8⟩ := Sub_tot ha hb
  obtain ⟨d2, e9, r9⟩ := Add_tot ha (U_neg hb)
  obtain ⟨f3, e10, r10⟩ := Fma_tot hK ha hoU hb
  obtain ⟨f4, e11, r11⟩ := Fma_tot (c := 9223372036854775808) hK ha hb ⟨by decide, by decide⟩
  have k4 := AddR.unique r4 (AddR.symm ha hb r1)
  have k5 := MulR.unique r5 (MulR.symm r2)
  have k7 := FmaR.unique r6 (FmaR.symm r7)
  have k9 := AddR.unique r8 r9
  have k10 := AddR.unique (FmaR.one hK ho ha hb r10) r1
  have k11 := MulR.unique (FmaR.nought rfl r11) r2
  rw [show (o : Int) = 4607182418800017408 by omega] at e10
  simp only [abacuslaw05_SoftSigns.f, abacuslaw05_SoftSigns.b0, flip_neg hb]
  refine Ev.bind adds_ev (Ev_neg (by simp) (Ev.bind six_ev (Ev_neg (by simp) (Ev.bind three_ev (Ev_neg (by simp) (Ev.bind nine_ev (Ev_neg (by simp) ?_)))))))
  refine Ev.bind e1 (Ev.bind e2 (Ev.bind e3 (Ev.bind e4 (Ev_neg (fun k => k k4) (Ev.bind e5 (Ev_neg (fun k => k k5) (Ev.bind e6 (Ev.bind e7 (Ev_neg (fun k => k k7) (Ev.bind e8 (Ev.bind e9 (Ev_neg (fun k => k k9) (Ev.bind e10 (Ev_neg (fun k => k k10) (Ev.bind e11 ?_)))))))))))))))
  rw [decide_eq_false (fun k => k k11)]
  exact l509_ev hK ha hb r1 r2 r3
end Go.Proofs.YtcdnoklokoplaaaDoor.Pure
