/- Sterbenz's lemma holds for every input. No conditions. -/
import Derived.Test.YtcdnoklokoplaaaDoorASoft1
import Derived.Test.YtcdnoklokoplaaaDoorPAx10
import Derived.Test.YtcdnoklokoplaaaDoorPAx2
import Derived.Test.YtcdnoklokoplaaaDoorPAx9
namespace Go.Proofs.YtcdnoklokoplaaaDoor.Pure
open Go.RowKit Go.Proofs.YtcdnoklokoplaaaDoorW.PrintWords Go.Proofs.YtcdnoklokoplaaaDoorW.PrintLast Go.Proofs.YtcdnoklokoplaaaDoorW.PrintMore Go.Proofs.YtcdnoklokoplaaaDoor.Lib Go.Proofs.YtcdnoklokoplaaaDoor.LibB Go.Proofs.YtcdnoklokoplaaaDoor.PA Go.Proofs.YtcdnoklokoplaaaDoor.ANat1 Go.Proofs.YtcdnoklokoplaaaDoor.ANat2 Go.Proofs.YtcdnoklokoplaaaDoor.ABits Go.Proofs.YtcdnoklokoplaaaDoor.AIeee1 Go.Proofs.YtcdnoklokoplaaaDoor.AMag Go.Proofs.YtcdnoklokoplaaaDoor.AIeee2 Go.Proofs.YtcdnoklokoplaaaDoor.ASoft1 Go.Proofs.YtcdnoklokoplaaaDoor.Rnd
set_option linter.unusedVariables false
/-- A difference of two doubles neither of which is more than twice the other is a double. -/
theorem sterbenz {p q : Nat} (hp : p < inf) (hq : q < inf) (h1 : uni p ≤ 2 * uni q) (h2 : uni q ≤ 2 * uni p) : ∃ r, r < inf ∧ ((uni p : Int) - (uni q : Int)).natAbs = uni r := by
  have key : ∀ {p q : Nat}, p < inf → q < inf → uni q ≤ uni p → uni p ≤ 2 * uni q → ∃ r, r < inf ∧ uni p - uni q = uni r := by
    intro p q hp hq hle h1
    obtain ⟨k, c, e1, c1, c2, u1, -⟩ := place_parts p
    obtain ⟨l, d, e2, d1, d2, u2, -⟩ := place_parts q
    have hk : k ≤ 2045 := by unfold inf at hp; omega
    have hl : l ≤ 2045 := by unfold inf at hq; omega
    have fin' : ∀ r, uni r ≤ uni p → r < inf := fun r hr => Nat.lt_of_le_of_lt (uni_le_iff.1 hr) hp
    rcases Nat.le_total k l with h | h
    · have e : uni q = d * 2 ^ (l - k) * 2 ^ k := by rw [u2, Nat.mul_assoc, ← Nat.pow_add]; congr 2; omega
      have hd : uni p - uni q = (c - d * 2 ^ (l - k)) * 2 ^ k := by rw [u1, e, Nat.sub_mul]
      obtain ⟨r, r1, r2⟩ := uni_rep k (c - d * 2 ^ (l - k)) (by omega) hk
      exact ⟨r, fin' r (by rw [r2, ← hd]; exact Nat.sub_le _ _), by rw [hd, r2]⟩
    · have e : uni p = c * 2 ^ (k - l) * 2 ^ l := by rw [u1, Nat.mul_assoc, ← Nat.pow_add]; congr 2; omega
      have hd : uni p - uni q = (c * 2 ^ (k - l) - d) * 2 ^ l := by rw [u2, e, Nat.sub_mul]
      have hm : c * 2 ^ (k - l) - d ≤ d := by
        have hp2 : 0 < 2 ^ l := Nat.pow_pos (by omega)
        have h3 : uni p - uni q ≤ uni q := by omega
        rw [hd, u2] at h3
        exact Nat.le_of_mul_le_mul_right h3 hp2
      obtain ⟨r, r1, r2⟩ := uni_rep l (c * 2 ^ (k - l) - d) (by omega) hl
      exact ⟨r, fin' r (by rw [r2, ← hd]; exact Nat.sub_le _ _), by rw [hd, r2]⟩
  rcases Nat.le_total (uni q) (uni p) with h | h
  · obtain ⟨r, r1, r2⟩ := key hp hq h h1
    exact ⟨r, r1, by omega⟩
  · obtain ⟨r, r1, r2⟩ := key hq hp h h2
    exact ⟨r, r1, by omega⟩
theorem works_ev : Ev (fun k => abacuslaw05_works.f k) true := by
  refine Ev_of_at 150 ?_ (fun k => abacuslaw05_works.mono k)
  kernel_rfl
theorem adds_ev : Ev (fun k => abacuslaw05_adds.f k) true := by
  refine Ev_of_at 3000 ?_ (fun k => abacuslaw05_adds.mono k)
  kernel_rfl
theorem two_B {x n : Nat} (h : x < 2 ^ n) (hn : n < 262144) : x + x < B 4096 := by
  exact pow_B (n := n + 1) (Nat.lt_of_lt_of_eq (Nat.add_lt_add h h) (twice n)) (by omega)
theorem sterbenz_j2 {a b : Int} (ha : U a) (hb : U b) (fa : fin a) (fb : fin b) (hs : sgn a = sgn b) (h1 : uni (plc a) ≤ 2 * uni (plc b)) (h2 : uni (plc b) ≤ 2 * uni (plc a)) :
    Ev (fun k => abacuslaw05_SoftSterbenz.j2 k a b false (sgn a) (lim (uni (plc a))) (sgn b) (lim (uni (plc b)))) true := by
  obtain ⟨r, r1, r2⟩ := sterbenz (plc_fin.1 fa) (plc_fin.1 fb) h1 h2
  obtain ⟨d, d1, d2⟩ := Sub_ev ha hb fa fb
  have hv : (sval a - sval b).natAbs = uni r := by
    unfold sval
    rw [hs, ← r2]
    unfold sv
    cases sgn b <;> simp <;> omega
  obtain ⟨e1, e2, e3⟩ := rd_exact d2 (Nat.le_of_lt r1) hv
  have fd : fin d := plc_fin.2 (by rw [e1]; exact r1)
  obtain ⟨F, hF⟩ : ∃ F, F = 2098 := ⟨_, rfl⟩
  have ua := uni_lt_pow hF (plc_fin.1 fa)
  have ub := uni_lt_pow hF (plc_fin.1 fb)
  have ud := uni_lt_pow hF (plc_fin.1 fd)
  have pv := pl_val (sgn a) (uni (plc a)) (!sgn b) (uni (plc b))
  rw [sv_not] at pv
  have pe : (pl (sgn a) (uni (plc a)) (!sgn b) (uni (plc b))).2 = uni (plc d) := by
    have h3 := congrArg Int.natAbs pv
    rw [sv_abs, ← Int.sub_eq_add_neg] at h3
    unfold sval at hv
    rw [h3, hv, e1]
  have hB1 : uni (plc a) + uni (plc b) < B 4096 := by
    exact pow_B (n := F + 1) (Nat.lt_of_lt_of_eq (Nat.add_lt_add ua ub) (twice F)) (by omega)
  refine Ev_succ ?_
  simp only [abacuslaw05_SoftSterbenz.j2]
  refine Ev_neg (by simp) (Ev.bind d1 (Ev_bind_eq (finite_eq e2) (Ev_pos (decide_eq_true fd) (Ev.bind (units_ev e2 fd) (Ev.bind (plus_ev hB1) (Ev.bind (same_ev ?_) (Ev_some ?_)))))))
  · rw [pe]
    exact two_B ud (by omega)
  · refine decide_eq_true ?_
    rw [pv, e3]
    unfold sval
    rw [Int.sub_eq_add_neg]
theorem SoftSterbenz : abacuslaw05_SoftSterbenz.Pure := by
  intro a b w0 w1
  suffices h : Ev (fun k => abacuslaw05_SoftSterbenz.f k a b) true by
    obtain ⟨K, hK⟩ := h
    exact ⟨K, hK K (Nat.le_refl _)⟩
  have hU : ∀ x : Int, (Lit.int .u64 x).wf = true → U x := by
    intro x w
    simp [Lit.wf] at w
    have h1 : IntKind.u64.min = 0 := rfl
    have h2 : IntKind.u64.max = 18446744073709551615 := rfl
    unfold U; omega
  have ha := hU a w0
  have hb := hU b w1
  have out1 : Ev (fun k => abacuslaw05_SoftSterbenz.j1 k a b true) true := by
    refine Ev_succ ?_
    simp only [abacuslaw05_SoftSterbenz.j1]
    exact Ev_pos (by first | rfl | trivial) (Ev_some rfl)
  have out2 : ∀ (s t : Bool) (l m : List Int), Ev (fun k => abacuslaw05_SoftSterbenz.j2 k a b true s l t m) true := by
    intro s t l m
    refine Ev_succ ?_
    simp only [abacuslaw05_SoftSterbenz.j2]
    exact Ev_pos (by first | rfl | trivial) (Ev_some rfl)
  simp only [abacuslaw05_SoftSterbenz.f]
  refine Ev.bind works_ev (Ev_pos (by first | rfl | trivial) (Ev.bind adds_ev (Ev_succ ?_)))
  simp only [abacuslaw05_SoftSterbenz.j0]
  refine Ev_neg (by simp) (Ev_bind_eq (finite_eq ha) ?_)
  by_cases fa : fin a
  · refine Ev_pos (decide_eq_true fa) (Ev_bind_eq (finite_eq hb) ?_)
    by_cases fb : fin b
    · rw [decide_eq_true fb]
      obtain ⟨F, hF⟩ : ∃ F, F = 2098 := ⟨_, rfl⟩
      have ua := uni_lt_pow hF (plc_fin.1 fa)
      have ub := uni_lt_pow hF (plc_fin.1 fb)
      have la := lifted_ev (b := sgn a) (x := uni (plc a)) (n := 1) (pow_B ua (by omega)) (by rw [Nat.pow_one, Nat.mul_two]; exact two_B ua (by omega)) (by omega)
      have lb := lifted_ev (b := sgn b) (x := uni (plc b)) (n := 1) (pow_B ub (by omega)) (by rw [Nat.pow_one, Nat.mul_two]; exact two_B ub (by omega)) (by omega)
      rw [Nat.pow_one, Nat.mul_comm] at la lb
      have ca := cmp_lim (x := uni (plc a)) (y := 2 * uni (plc b)) (pow_B ua (by omega)) (by rw [Nat.two_mul]; exact two_B ub (by omega))
      have cb := cmp_lim (x := uni (plc b)) (y := 2 * uni (plc a)) (pow_B ub (by omega)) (by rw [Nat.two_mul]; exact two_B ua (by omega))
      have xa := cmp_pos (uni (plc a)) (2 * uni (plc b))
      have xb := cmp_pos (uni (plc b)) (2 * uni (plc a))
      have ea := units_ev ha fa
      have eb := units_ev hb fb
      refine Ev_succ ?_
      simp only [abacuslaw05_SoftSterbenz.j1]
      refine Ev_neg (by simp) (Ev.bind ea (Ev.bind eb ?_))
      clear ua ub
      by_cases hs : sgn a = sgn b
      · refine Ev_neg (by simp [hs]) (Ev.bind lb (Ev.bind ca ?_))
        by_cases h1 : uni (plc a) ≤ 2 * uni (plc b)
        · refine Ev_neg (fun h => by have := xa.1 h; omega) (Ev.bind la (Ev.bind cb ?_))
          by_cases h2 : uni (plc b) ≤ 2 * uni (plc a)
          · rw [decide_eq_false (fun h => by have := xb.1 h; omega)]
            exact sterbenz_j2 ha hb fa fb hs h1 h2
          · rw [decide_eq_true (xb.2 (by omega))]
            exact out2 _ _ _ _
        · exact Ev_pos (xa.2 (by omega)) (out2 _ _ _ _)
      · exact Ev_pos (by simp [hs]) (out2 _ _ _ _)
    · rw [decide_eq_false fb]
      exact out1
  · exact Ev_neg (by simp [fa]) out1
end Go.Proofs.YtcdnoklokoplaaaDoor.Pure
