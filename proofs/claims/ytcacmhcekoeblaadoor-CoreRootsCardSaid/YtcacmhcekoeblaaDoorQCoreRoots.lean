/- The root of a double lies between the middles beside it: four times a against the sum's square, exactly. No conditions. -/
import Derived.Test.YtcacmhcekoeblaaDoorQGdot
import Derived.Test.YtcacmhcekoeblaaDoorQSoftSqrt
namespace Go.Proofs.YtcacmhcekoeblaaDoor.Pure
open Go.RowKit Go.Proofs.YtcacmhcekoeblaaDoor.Lib Go.Proofs.YtcacmhcekoeblaaDoor.LibB Go.Proofs.YtcacmhcekoeblaaDoor.F Go.Proofs.YtcacmhcekoeblaaDoor.Nat1 Go.Proofs.YtcacmhcekoeblaaDoor.Nat2 Go.Proofs.YtcacmhcekoeblaaDoor.Rnd Go.Proofs.YtcacmhcekoeblaaDoor.Ieee1 Go.Proofs.YtcacmhcekoeblaaDoor.Ieee2 Go.Proofs.YtcacmhcekoeblaaDoor.Gat Go.Proofs.YtcacmhcekoeblaaDoor.Gac Go.Proofs.YtcacmhcekoeblaaDoor.Gdot
open Go.Proofs.YtcacmhcekoeblaaDoorA (rd ln ln_eq mx mn shl shr wr wr_eq)
open Go.Proofs.YtcacmhcekoeblaaDoor.Soft1 (sv sval put_U)
open Go.Proofs.YtcacmhcekoeblaaDoor.SoftDiv (RootNear)
open Go.Proofs.YtcacmhcekoeblaaDoor.SoftSqrt (Sqrt_ev)
set_option linter.unusedVariables false
set_option linter.unusedSimpArgs false
theorem and_low {n : Nat} (h : n < 9223372036854775808) : Go.bits .and .i64 (n : Int) 2047 = ((n % 2048 : Nat) : Int) := by
  have h1 : (BitVec.ofInt 64 2047).toNat = 2 ^ 11 - 1 := by decide
  have key : (BitVec.ofInt 64 (n : Int) &&& BitVec.ofInt 64 2047).toNat = ((n : Int) % ((2 ^ 64 : Nat) : Int)).toNat % 2 ^ 11 := by
    rw [BitVec.toNat_and, BitVec.toNat_ofInt, h1, Nat.and_two_pow_sub_one_eq_mod]
  show IntKind.i64.wrap ((BitVec.ofInt 64 (n : Int) &&& BitVec.ofInt 64 2047).toNat : Nat) = _
  rw [key, IntKind.wrap_i64]
  omega
/-- A double of a middling power of two. -/
theorem middle_eq {d : Int} (h : U d) : abacustop_middle.f d = some (decide (623 * 4503599627370496 ≤ plc d ∧ plc d < 1424 * 4503599627370496)) := by
  have h1 := h.1
  have h2 := h.2
  unfold abacustop_middle.f abacustop_middle.b0
  obtain ⟨n, hn⟩ : ∃ n : Nat, d / 4503599627370496 = (n : Int) := ⟨(d / 4503599627370496).toNat, by omega⟩
  have w : wrap64 (d / 4503599627370496) = (n : Int) := by rw [hn]; unfold wrap64; omega
  rw [w, and_low (by omega)]
  have hp : n % 2048 = plc d / 4503599627370496 := by unfold plc; omega
  rw [hp]
  by_cases g1 : ((plc d / 4503599627370496 : Nat) : Int) ≥ 623
  · rw [if_pos g1]
    congr 1
    rw [decide_eq_decide]
    omega
  · rw [if_neg g1]
    rw [decide_eq_false (by omega)]
theorem rk_put {s : Bool} {p : Nat} (hp : p ≤ inf) : ¬ nan (put s p) ∧ rk (put s p) = if s = true then -(p : Int) else (p : Int) := by
  unfold inf at hp
  unfold nan rk put
  cases s with
  | false => simp only [Bool.false_eq_true, if_false]; exact ⟨by omega, by rw [if_pos (by omega)]⟩
  | true => simp only [if_true]; exact ⟨by omega, by rw [if_neg (by omega)]; omega⟩
theorem up_put {s : Bool} {p : Nat} (h2 : 2 ≤ p) (hp : p + 1 < inf) : upd (put s p) = put s (if s then p - 1 else p + 1) := by
  obtain ⟨n1, r1⟩ := rk_put (s := s) (p := p) (by omega)
  unfold inf at hp
  unfold upd
  rw [if_neg n1, r1]
  cases s with
  | false =>
    simp only [Bool.false_eq_true, if_false]
    rw [if_neg (by omega), if_neg (by omega)]
    unfold at' put
    rw [if_neg (by omega), if_neg (by omega)]
    rfl
  | true =>
    simp only [if_true]
    rw [if_neg (by omega), if_neg (by omega)]
    unfold at' put
    rw [if_neg (by omega), if_pos (by omega)]
    show 9223372036854775808 - (-(p : Int) + 1) = ((p - 1 : Nat) : Int) + 9223372036854775808
    omega
theorem neg_put {s : Bool} {p : Nat} (hp : p ≤ inf) : neg (put s p) = put (!s) p := by
  unfold inf at hp
  unfold neg put
  cases s with
  | true => simp only [if_true, Bool.not_true, Bool.false_eq_true, if_false]; rw [if_neg (by omega)]; omega
  | false => simp only [if_true, Bool.not_false, Bool.false_eq_true, if_false]; rw [if_pos (by omega)]
theorem down_put {s : Bool} {p : Nat} (h2 : 2 ≤ p) (hp : p + 1 < inf) : down (put s p) = put s (if s then p + 1 else p - 1) := by
  unfold down
  have hn : ¬ nan (put s p) := by unfold inf at hp; unfold nan put; cases s <;> simp <;> omega
  rw [if_neg hn, neg_put (by omega), up_put h2 hp, neg_put (by cases s <;> simp <;> omega), Bool.not_not]
  cases s <;> rfl
theorem uni_mid {k F : Nat} (hF : F = k + 52) : uni ((k + 1) * 4503599627370496) = 2 ^ F := by
  have h1 : (k + 1) * 4503599627370496 = k * 4503599627370496 + 4503599627370496 := by omega
  rw [h1, uni_at (.inr (Nat.le_refl _)) (by omega), hF, Nat.pow_add, Nat.mul_comm]
theorem pow_sq (a : Nat) : 2 ^ a * 2 ^ a = 2 ^ (a + a) := (Nat.pow_add 2 a a).symm
/-- The root of a middling double is one. -/
theorem root_mid {p q K : Nat} (hK : K = 1074) (h1 : 623 * 4503599627370496 ≤ q) (h2 : q < 1424 * 4503599627370496) (h : RootNear p (uni q * 2 ^ K)) : 623 * 4503599627370496 ≤ p ∧ p < 1424 * 4503599627370496 := by
  obtain ⟨E, hE⟩ : ∃ E, E = 622 + 52 := ⟨_, rfl⟩
  obtain ⟨F, hF⟩ : ∃ F, F = 1423 + 52 := ⟨_, rfl⟩
  have e1 : uni (623 * 4503599627370496) = 2 ^ E := uni_mid (k := 622) hE
  have e2 : uni (1424 * 4503599627370496) = 2 ^ F := uni_mid (k := 1423) hF
  have q1 : 2 ^ E ≤ uni q := by rw [← e1]; exact uni_mono h1
  have q2 : uni q ≤ 2 ^ F := by rw [← e2]; exact uni_mono (Nat.le_of_lt h2)
  have v1 : 2 ^ E * 2 ^ K ≤ uni q * 2 ^ K := Nat.mul_le_mul_right _ q1
  have v2 : uni q * 2 ^ K ≤ 2 ^ F * 2 ^ K := Nat.mul_le_mul_right _ q2
  rw [← Nat.pow_add] at v1 v2
  have four : ∀ n : Nat, 4 * 2 ^ n = 2 ^ (n + 2) := fun n => by rw [Nat.pow_add]; omega
  constructor
  · rcases Nat.lt_or_ge p (623 * 4503599627370496) with hlt | hge
    · exfalso
      have a1 : uni p ≤ 2 ^ E := by rw [← e1]; exact uni_mono (Nat.le_of_lt hlt)
      have a2 : uni (p + 1) ≤ 2 ^ E := by rw [← e1]; exact uni_mono hlt
      have a3 : uni p + uni (p + 1) ≤ 2 ^ (E + 1) := by rw [Nat.pow_succ]; omega
      have a4 := Nat.mul_le_mul a3 a3
      rw [pow_sq] at a4
      have a5 := Nat.le_trans h.hi a4
      have a6 : 2 ^ (E + K + 2) ≤ 2 ^ (E + 1 + (E + 1)) := by
        rw [← four]
        exact Nat.le_trans (Nat.mul_le_mul_left 4 v1) a5
      have a7 := (Nat.pow_le_pow_iff_right (a := 2) (by omega)).1 a6
      omega
    · exact hge
  · rcases Nat.lt_or_ge p (1424 * 4503599627370496) with hlt | hge
    · exact hlt
    · exfalso
      have a1 : 2 ^ F ≤ uni p := by rw [← e2]; exact uni_mono hge
      have a3 : 2 ^ F ≤ uni (p - 1) + uni p := by omega
      have a4 := Nat.mul_le_mul a3 a3
      rw [pow_sq] at a4
      have a5 := Nat.le_trans a4 h.lo
      have a6 : 2 ^ (F + F) ≤ 2 ^ (F + K + 2) := by
        rw [← four]
        exact Nat.le_trans a5 (Nat.mul_le_mul_left 4 v2)
      have a7 := (Nat.pow_le_pow_iff_right (a := 2) (by omega)).1 a6
      omega
theorem five_sum {x y z w a K : Nat} {A : Int} (hA : A = ((4 * 2 ^ K : Nat) : Int)) :
    (x : Int) * x + ((y : Int) * y + ((x : Int) * y + ((y : Int) * x + ((a : Int) * (-A) + 0)))) = (((y + x) * (y + x) : Nat) : Int) - ((4 * (a * 2 ^ K) : Nat) : Int) := by
  subst hA
  simp only [Int.natCast_mul, Int.natCast_add, Int.mul_neg, Int.mul_add, Int.add_mul]
  have e : (a : Int) * (((4 : Nat) : Int) * ((2 ^ K : Nat) : Int)) = ((4 : Nat) : Int) * ((a : Int) * ((2 ^ K : Nat) : Int)) := Int.mul_left_comm _ _ _
  rw [e]
  omega
theorem nine_ev : Ev (fun k _ _ => soft_Sqrt.f k 4621256167635550208) 4613937818241073152 := Ev_at 6000 fun d => by kernel_rfl
theorem sval_put {s : Bool} {p : Nat} (hp : p ≤ inf) : sval (put s p) = sv s (uni p) := by
  obtain ⟨_, h1, h2⟩ := put_U (s := s) hp
  unfold sval
  rw [h1, h2]
theorem put_fin {s : Bool} {p : Nat} (hp : p < inf) : fin (put s p) := by
  obtain ⟨_, h1, _⟩ := put_U (s := s) (Nat.le_of_lt hp)
  rw [plc_fin, h1]
  exact hp
theorem put_false (p : Nat) : put false p = (p : Int) := rfl
/-- Four times a against the square of x and y together. -/
theorem dot_five {a : Int} {x y K : Nat} (hK : K = 1074) (ha : U a) (fa : fin a) (hs : sgn a = false) (hx : x < inf) (hy : y < inf) (x0 : x ≠ 0) :
    ∃ q, Ev (fun n _ _ => gather_Dot.f n [(x : Int), (y : Int), (x : Int), (y : Int), a] [(x : Int), (y : Int), (y : Int), (x : Int), 13839561654909534208]) (q, 0) ∧ RdQ q ((((uni y + uni x) * (uni y + uni x) : Nat) : Int) - ((4 * (uni (plc a) * 2 ^ K) : Nat) : Int)) (2 ^ K) false := by
  have ux := put_U (s := false) (Nat.le_of_lt hx)
  have uy := put_U (s := false) (Nat.le_of_lt hy)
  have fx := put_fin (s := false) hx
  have fy := put_fin (s := false) hy
  rw [put_false] at ux uy fx fy
  have u4 : U (13839561654909534208 : Int) ∧ fin (13839561654909534208 : Int) := by unfold U fin; decide
  have U1 : ∀ z ∈ [(x : Int), (y : Int), (x : Int), (y : Int), a], U z := by
    intro z hz
    simp only [List.mem_cons, List.not_mem_nil, or_false] at hz
    rcases hz with rfl | rfl | rfl | rfl | rfl
    · exact ux.1
    · exact uy.1
    · exact ux.1
    · exact uy.1
    · exact ha
  have U2 : ∀ z ∈ [(x : Int), (y : Int), (y : Int), (x : Int), 13839561654909534208], U z := by
    intro z hz
    simp only [List.mem_cons, List.not_mem_nil, or_false] at hz
    rcases hz with rfl | rfl | rfl | rfl | rfl
    · exact ux.1
    · exact uy.1
    · exact uy.1
    · exact ux.1
    · exact u4.1
  have F1 : ∀ z ∈ [(x : Int), (y : Int), (x : Int), (y : Int), a], fin z := by
    intro z hz
    simp only [List.mem_cons, List.not_mem_nil, or_false] at hz
    rcases hz with rfl | rfl | rfl | rfl | rfl
    · exact fx
    · exact fy
    · exact fx
    · exact fy
    · exact fa
  have F2 : ∀ z ∈ [(x : Int), (y : Int), (y : Int), (x : Int), 13839561654909534208], fin z := by
    intro z hz
    simp only [List.mem_cons, List.not_mem_nil, or_false] at hz
    rcases hz with rfl | rfl | rfl | rfl | rfl
    · exact fx
    · exact fy
    · exact fy
    · exact fx
    · exact u4.2
  obtain ⟨q, h1, h2⟩ := dot_ev (N := 5) hK (xs := [(x : Int), (y : Int), (x : Int), (y : Int), a]) (ys := [(x : Int), (y : Int), (y : Int), (x : Int), 13839561654909534208]) rfl rfl (by omega) (rd_U U1) (rd_U U2) (rd_fin F1) (rd_fin F2)
  refine ⟨q, h1, ?_⟩
  have sx : sval (x : Int) = (uni x : Int) := by have := sval_put (s := false) (Nat.le_of_lt hx); rw [put_false] at this; rw [this]; rfl
  have sy : sval (y : Int) = (uni y : Int) := by have := sval_put (s := false) (Nat.le_of_lt hy); rw [put_false] at this; rw [this]; rfl
  have sa : sval a = (uni (plc a) : Int) := by unfold sval sv; rw [hs, if_neg (by simp)]
  obtain ⟨A, hA⟩ : ∃ A : Int, A = ((4 * 2 ^ K : Nat) : Int) := ⟨_, rfl⟩
  have s4 : sval 13839561654909534208 = -A := by
    have e1 : (13839561654909534208 : Int) = put true 4616189618054758400 := rfl
    rw [e1, sval_put (by unfold inf; omega), sv, if_pos rfl, hA]
    have e2 : (4616189618054758400 : Nat) = (1024 + 1) * 4503599627370496 := rfl
    obtain ⟨F, hF⟩ : ∃ F, F = 1024 + 52 := ⟨_, rfl⟩
    have e3 : F = K + 2 := by omega
    rw [e2, uni_mid hF, e3, Nat.pow_add, Nat.mul_comm]
  have hS : dotS [(x : Int), (y : Int), (x : Int), (y : Int), a] [(x : Int), (y : Int), (y : Int), (x : Int), 13839561654909534208] = (((uni y + uni x) * (uni y + uni x) : Nat) : Int) - ((4 * (uni (plc a) * 2 ^ K) : Nat) : Int) := by
    simp only [dotS, sx, sy, sa, s4]
    exact five_sum (z := 0) (w := 0) hA
  have hO : dotO [(x : Int), (y : Int), (x : Int), (y : Int), a] [(x : Int), (y : Int), (y : Int), (x : Int), 13839561654909534208] = true := by
    have : (sgn (x : Int) != sgn (x : Int)) = false := by cases sgn (x : Int) <;> rfl
    simp only [dotO, this, Bool.false_and, Bool.not_false, Bool.true_or]
  rw [hS, hO] at h2
  exact h2
theorem CoreRoots {a : Int} (ha : U a) : ∃ k, abacustop_CoreRoots.f k a = some true := by
  refine Ev.rounds (g := fun k => abacustop_CoreRoots.f k a) ?_
  simp only [abacustop_CoreRoots.f, abacustop_CoreRoots.b0]
  refine Ev.bind nine_ev (Ev_neg (by decide) (Ev_bind_eq (middle_eq ha) ?_))
  by_cases hm : 623 * 4503599627370496 ≤ plc a ∧ plc a < 1424 * 4503599627370496
  · rw [decide_eq_true hm]
    refine Ev_neg (by decide) ?_
    by_cases hs : a / 9223372036854775808 = 1
    · exact Ev_pos hs (Ev.now _)
    · refine Ev_neg hs ?_
      obtain ⟨K, hK⟩ : ∃ K, K = 1074 := ⟨_, rfl⟩
      have fa : fin a := by rw [plc_fin]; unfold inf; omega
      have hsg : sgn a = false := by
        unfold sgn
        have h1 := ha.1
        have h2 := ha.2
        exact decide_eq_false (by omega)
      obtain ⟨p, h1, h2⟩ := Sqrt_ev hK ha fa hsg (by omega)
      obtain ⟨m1, m2⟩ := root_mid hK hm.1 hm.2 h2
      have pt := h2.top
      have up := put_U (s := false) (p := p) (Nat.le_of_lt pt)
      rw [put_false] at up
      refine Ev.bind h1 (Ev_bind_eq (middle_eq up.1) ?_)
      rw [up.2.1, decide_eq_true ⟨m1, m2⟩]
      refine Ev_neg (by decide) ?_
      have dn : Ev (fun _ _ _ => ieee_Down.f (p : Int)) ((p - 1 : Nat) : Int) := by
        have h3 := Down_ev up.1
        have h4 : down (p : Int) = ((p - 1 : Nat) : Int) := by rw [← put_false p, down_put (by omega) (by unfold inf; omega)]; rfl
        rw [h4] at h3
        exact h3
      have ue : Ev (fun _ _ _ => ieee_Up.f (p : Int)) ((p + 1 : Nat) : Int) := by
        have h3 := Up_ev up.1
        have h4 : upd (p : Int) = ((p + 1 : Nat) : Int) := by rw [← put_false p, up_put (by omega) (by unfold inf; omega)]; rfl
        rw [h4] at h3
        exact h3
      obtain ⟨q1, l1, l2⟩ := dot_five (y := p - 1) hK ha fa hsg pt (by omega) h2.pos
      obtain ⟨q2, g1, g2⟩ := dot_five (y := p + 1) hK ha fa hsg pt (by unfold inf; omega) h2.pos
      refine Ev.bind dn (Ev.bind dn (Ev.bind dn (Ev.bind dn (Ev.bind l1 (Ev.bind ue (Ev.bind ue (Ev.bind ue (Ev.bind ue (Ev.bind g1 ?_)))))))))
      simp only [abacustop_CoreRoots.l255, abacustop_CoreRoots.b255]
      have hlow := h2.lo
      have hhigh := h2.hi
      have e2 : q2 / 9223372036854775808 = 0 := g2.pos (by
        rw [Nat.add_comm (uni (p + 1))]
        omega) (fun _ => rfl)
      by_cases ht : (((uni (p - 1) + uni p) * (uni (p - 1) + uni p) : Nat) : Int) - ((4 * (uni (plc a) * 2 ^ K) : Nat) : Int) < 0
      · exact Ev_pos (l2.neg ht) (Ev_some (decide_eq_true e2))
      · have hz : (((uni (p - 1) + uni p) * (uni (p - 1) + uni p) : Nat) : Int) - ((4 * (uni (plc a) * 2 ^ K) : Nat) : Int) = 0 := by omega
        rw [hz] at l2
        have h3 : q1 = 0 := l2.zero (Nat.pow_pos (by omega))
        rw [h3]
        exact Ev_neg (by decide) (Ev_pos rfl (Ev_some (decide_eq_true e2)))
  · rw [decide_eq_false hm]
    exact Ev_pos rfl (Ev.now _)
end Go.Proofs.YtcacmhcekoeblaaDoor.Pure
