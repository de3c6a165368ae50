/- The root lies between the middles beside what Sqrt answers, for every input. No conditions. -/
import Derived.Test.YtcdnoklokoplaaaDoorQSoftSqrt
import Derived.Test.YtcdnoklokoplaaaDoorQSoftNear1
namespace Go.Proofs.YtcdnoklokoplaaaDoor.Pure
open Go.RowKit Go.Proofs.YtcdnoklokoplaaaDoor.Lib Go.Proofs.YtcdnoklokoplaaaDoor.LibB Go.Proofs.YtcdnoklokoplaaaDoor.F Go.Proofs.YtcdnoklokoplaaaDoor.Nat1 Go.Proofs.YtcdnoklokoplaaaDoor.Nat2 Go.Proofs.YtcdnoklokoplaaaDoor.Bits Go.Proofs.YtcdnoklokoplaaaDoor.Ieee1 Go.Proofs.YtcdnoklokoplaaaDoor.Mag Go.Proofs.YtcdnoklokoplaaaDoor.Ieee2 Go.Proofs.YtcdnoklokoplaaaDoor.Soft1 Go.Proofs.YtcdnoklokoplaaaDoor.Soft2 Go.Proofs.YtcdnoklokoplaaaDoor.SoftDiv Go.Proofs.YtcdnoklokoplaaaDoor.SoftSqrt Go.Proofs.YtcdnoklokoplaaaDoor.SoftNear1 Go.Proofs.YtcdnoklokoplaaaDoor.Rnd
set_option linter.unusedVariables false
set_option linter.unusedSimpArgs false
theorem works_ev : Ev (fun k _ _ => abacuslaw05_works.f k) true := Ev_at 150 fun d => by kernel_rfl
theorem nine_ev : Ev (fun k _ _ => soft_Sqrt.f k 4621256167635550208) 4613937818241073152 := Ev_at 6000 fun d => by kernel_rfl
theorem up_put {p : Nat} (hp : p < inf) : upd (p : Int) = put false (p + 1) := by
  unfold inf at hp
  have hn : ¬ nan (p : Int) := by unfold nan; omega
  have e : rk (p : Int) = (p : Int) := by unfold rk; rw [if_pos (by omega)]
  unfold upd
  rw [if_neg hn, e, if_neg (by omega), if_neg (by omega)]
  unfold at' put
  rw [if_neg (by omega), if_neg (by omega)]
  simp
theorem dn_put {p : Nat} (hp : p ≤ inf) (h0 : p ≠ 0) : down (p : Int) = put false (p - 1) := by
  have hp' := hp
  unfold inf at hp
  have hn : ¬ nan (p : Int) := by unfold nan; omega
  have e1 : neg (p : Int) = (p : Int) + 9223372036854775808 := by unfold neg; rw [if_pos (by omega)]
  have hn2 : ¬ nan ((p : Int) + 9223372036854775808) := by unfold nan; omega
  have e : rk ((p : Int) + 9223372036854775808) = -(p : Int) := by unfold rk; rw [if_neg (by omega)]; omega
  have e2 : upd ((p : Int) + 9223372036854775808) = ((p - 1 : Nat) : Int) + 9223372036854775808 := by
    unfold upd
    rw [if_neg hn2, e, if_neg (by omega)]
    by_cases h1 : p = 1
    · subst h1; rfl
    · rw [if_neg (by omega)]
      unfold at'
      rw [if_neg (by omega), if_pos (by omega)]
      dsimp only
      omega
  unfold down
  rw [if_neg hn, e1, e2]
  unfold neg put
  rw [if_neg (by omega), if_neg (by simp)]
  omega
theorem look_ev {p V : Nat} {x : Int} {b c d : Bool} (hx : x = (p : Int)) (R : RootNear p V) (h4 : 4 * V < B 4096) (h1 : (uni p + uni (p + 1)) * (uni p + uni (p + 1)) < B 4096) (hs : uni p + uni (p + 1) < B 4096) (hs2 : uni (p - 1) + uni p < B 4096) (h2 : (uni (p - 1) + uni p) * (uni (p - 1) + uni p) < B 4096) :
    Ev (fun k _ _ => abacuslaw05_SoftNearRoot.l511 k x b (lim (4 * V)) c (lim (uni p + uni (p + 1))) d (lim (uni (p - 1) + uni p))) true := by
  have t1 := times_ev (b := c) (c := c) h1 hs hs
  have t2 := times_ev (b := d) (c := d) h2 hs2 hs2
  have c1 := cmp_lim h4 h1
  have c2 := cmp_lim h4 h2
  have hi := R.hi
  have hie := R.hie
  have lo := R.lo
  have loe := R.loe
  have hpt := R.top
  have hU : U x := by subst hx; unfold U; unfold inf at hpt; omega
  have bl := bit_last hU
  have p1 := cmp_pos (4 * V) ((uni p + uni (p + 1)) * (uni p + uni (p + 1)))
  have p2 := cmp_neg (4 * V) ((uni p + uni (p + 1)) * (uni p + uni (p + 1)))
  have q1 := cmp_pos (4 * V) ((uni (p - 1) + uni p) * (uni (p - 1) + uni p))
  have q2 := cmp_neg (4 * V) ((uni (p - 1) + uni p) * (uni (p - 1) + uni p))
  simp only [abacuslaw05_SoftNearRoot.l511, abacuslaw05_SoftNearRoot.b511, bl]
  refine Ev.bind t1 (Ev.bind c1 (Ev.bind t2 (Ev.bind c2 ?_)))
  clear t1 t2 c1 c2 h1 h2 hs hs2 h4 hU bl
  generalize (uni p + uni (p + 1)) * (uni p + uni (p + 1)) = H at *
  generalize (uni (p - 1) + uni p) * (uni (p - 1) + uni p) = L at *
  generalize cmp (4 * V) H = ch at *
  generalize cmp (4 * V) L = cl at *
  refine Ev_neg (fun h => by have := p1.1 h; omega) (Ev_neg (fun h => by have := q2.1 h; omega) ?_)
  by_cases h1 : ch < 0
  · refine Ev_pos h1 ?_
    by_cases h2 : cl > 0
    · exact Ev_pos h2 (Ev_some rfl)
    · refine Ev_neg h2 (Ev_some (decide_eq_true ?_))
      have hev := loe (by
        rcases Nat.lt_or_ge L (4 * V) with h3 | h3
        · exact absurd (q1.2 h3) h2
        · omega)
      subst hx; omega
  · refine Ev_neg h1 (Ev_some (decide_eq_true ?_))
    have hev := hie (by
      rcases Nat.lt_or_ge (4 * V) H with h3 | h3
      · exact absurd (p2.2 h3) h1
      · omega)
    subst hx; omega
theorem sgn_pos {a : Int} (ha : U a) : (a < 9223372036854775808 ↔ sgn a = false) := by
  unfold sgn
  simp
theorem SoftNearRoot {a : Int} (ha : U a) : ∃ n, abacuslaw05_SoftNearRoot.f n a = some true := by
  refine Ev.rounds (g := fun n => abacuslaw05_SoftNearRoot.f n a) ?_
  simp only [abacuslaw05_SoftNearRoot.f, abacuslaw05_SoftNearRoot.b0]
  refine Ev.bind works_ev (Ev_neg (by simp) (Ev.bind nine_ev (Ev_neg (by simp) (Ev_bind_eq (finite_eq ha) ?_))))
  by_cases fa : fin a
  · refine Ev_neg (by simp [fa]) ?_
    by_cases h0 : a = 0
    · exact Ev_pos h0 (Ev_some rfl)
    refine Ev_neg h0 ?_
    by_cases hneg : a ≥ 9223372036854775808
    · exact Ev_pos hneg (Ev_some rfl)
    refine Ev_neg hneg ?_
    have hs : sgn a = false := (sgn_pos ha).1 (by omega)
    have a0 : plc a ≠ 0 := by
      unfold plc
      have := ha.1
      omega
    obtain ⟨K, hK⟩ : ∃ K, K = 1074 := ⟨_, rfl⟩
    obtain ⟨F, hF⟩ : ∃ F, F = 2098 := ⟨_, rfl⟩
    obtain ⟨p, e1, R⟩ := Sqrt_ev hK ha fa hs a0
    have hpt := R.top
    have p0 := R.pos
    have hU : U (p : Int) := by unfold U; unfold inf at hpt; omega
    have hfp : fin (p : Int) := by unfold fin; unfold inf at hpt; omega
    have up := units_any (s := false) (p := p) (Nat.le_of_lt hpt)
    have upU := Up_ev hU
    rw [up_put hpt] at upU
    have upv := units_any (s := false) (p := p + 1) hpt
    have dnU := Down_ev hU
    rw [dn_put (Nat.le_of_lt hpt) p0] at dnU
    have dnv := units_any (s := false) (p := p - 1) (by omega)
    have hup : put false p = (p : Int) := rfl
    rw [hup] at up
    have ua := uni_lt_pow hF (plc_fin.1 fa)
    have hi : uni inf = 2 ^ F := by
      rw [uni_inf (E := F - 52) (by omega), show (4503599627370496 : Nat) = 2 ^ 52 from rfl, ← Nat.pow_add]
      congr 1; omega
    have m1 := uni_mono (show p + 1 ≤ inf from hpt)
    have m0 := uni_mono (show p ≤ inf from Nat.le_of_lt hpt)
    have m2 := uni_mono (show p - 1 ≤ inf by omega)
    rw [hi] at m0 m1 m2
    have tw : 2 ^ (F + 2) = 4 * 2 ^ F := by rw [Nat.pow_add, Nat.mul_comm]
    have tw0 := Nat.pow_pos (n := F) (show 0 < 2 by omega)
    have s1 : uni p + uni (p + 1) < 2 ^ (F + 2) := by
      rw [tw]
      omega
    have s2 : uni (p - 1) + uni p < 2 ^ (F + 2) := by
      rw [tw]
      omega
    have q1 := Nat.mul_lt_mul'' s1 s1
    have q2 := Nat.mul_lt_mul'' s2 s2
    rw [← Nat.pow_add] at q1 q2
    have hv : uni (plc a) * 2 ^ (K + 2) < 2 ^ (F + (K + 2)) := by
      rw [Nat.pow_add 2 F]
      exact Nat.mul_lt_mul_of_pos_right ua (Nat.pow_pos (by omega))
    have hve : uni (plc a) * 2 ^ (K + 2) = 4 * (uni (plc a) * 2 ^ K) := by
      rw [Nat.pow_add, ← Nat.mul_assoc, Nat.mul_comm _ (2 ^ 2)]
    have x2 := lifted_ev (b := sgn a) (n := K + 2) (pow_B ua (by omega)) (pow_B hv (by omega)) (by omega)
    rw [show ((K + 2 : Nat) : Int) = 1076 by omega, hve] at x2
    have y1 := plus_ev (b := false) (c := false) (x := uni p) (y := uni (p + 1)) (pow_B s1 (by omega))
    have y2 := plus_ev (b := false) (c := false) (x := uni p) (y := uni (p - 1)) (pow_B (x := uni p + uni (p - 1)) (n := F + 2) (by omega) (by omega))
    rw [show pl false (uni p) false (uni (p + 1)) = (false, uni p + uni (p + 1)) from by unfold pl; rw [if_pos rfl]] at y1
    rw [show pl false (uni p) false (uni (p - 1)) = (false, uni (p - 1) + uni p) from by unfold pl; rw [if_pos rfl, Nat.add_comm]] at y2
    have lk := look_ev (p := p) (V := uni (plc a) * 2 ^ K) (x := (p : Int)) (b := sgn a) (c := false) (d := false) rfl R (by rw [← hve]; exact pow_B hv (by omega)) (pow_B q1 (by omega)) (pow_B s1 (by omega)) (pow_B s2 (by omega)) (pow_B q2 (by omega))
    have c2 : ¬ ((p : Int) = 0) := by omega
    have c3 : ¬ ((p : Int) ≥ 9223372036854775808) := by unfold inf at hpt; omega
    clear ua hi m0 m1 m2 tw tw0 s1 s2 q1 q2 hv hve R
    exact Ev.bind e1 (Ev_bind_eq (finite_eq hU) (Ev_neg (by simp [hfp]) (Ev_neg c2 (Ev_neg c3 (Ev.bind (units_ev ha fa) (Ev.bind x2 (Ev.bind up (Ev.bind upU (Ev.bind upv (Ev.bind y1 (Ev.bind up (Ev.bind dnU (Ev.bind dnv (Ev.bind y2 lk))))))))))))))
  · exact Ev_pos (by simp [fa]) (Ev_some rfl)
end Go.Proofs.YtcdnoklokoplaaaDoor.Pure
