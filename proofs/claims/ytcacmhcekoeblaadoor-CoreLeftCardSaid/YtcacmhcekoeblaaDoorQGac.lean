/- What the printed functions of gather compute: an accumulator, by the values of its rows. Conditions: fewer than 2^40 addends. -/
import Derived.Test.YtcacmhcekoeblaaDoorQGat
import Derived.Test.YtcacmhcekoeblaaDoorQSoft1
namespace Go.Proofs.YtcacmhcekoeblaaDoor.Gac
open Go.RowKit Go.Proofs.YtcacmhcekoeblaaDoor.Lib Go.Proofs.YtcacmhcekoeblaaDoor.LibB Go.Proofs.YtcacmhcekoeblaaDoor.F Go.Proofs.YtcacmhcekoeblaaDoor.Nat1 Go.Proofs.YtcacmhcekoeblaaDoor.Nat2 Go.Proofs.YtcacmhcekoeblaaDoor.Rnd Go.Proofs.YtcacmhcekoeblaaDoor.Ieee1 Go.Proofs.YtcacmhcekoeblaaDoor.Ieee2 Go.Proofs.YtcacmhcekoeblaaDoor.Gat
open Go.Proofs.YtcacmhcekoeblaaDoorA (rd ln ln_eq mx mn shl shr wr wr_eq)
open Go.Proofs.YtcacmhcekoeblaaDoor.Soft1 (sv sval sv_abs sv_mul sv_zero)
open Go.Proofs.YtcacmhcekoeblaaDoor.Ratio (clamp clamp_in RoundRatio_ev)
set_option linter.unusedVariables false
set_option linter.unusedSimpArgs false
/-- Rows that hold what c addends may come to. -/
structure RowsOK (c : Int) (u v : List Int) : Prop where
  c0 : 0 ≤ c
  c1 : c ≤ 1099511627776
  ou : ok u
  lu : u.length = 72
  bu : val u ≤ c.toNat * B 66
  ov : ok v
  lv : v.length = 72
  bv : val v ≤ c.toNat * B 66
/-- What the rows come to. -/
def tot (u v : List Int) : Int := (val u : Int) - (val v : Int)
theorem B_67 {c : Int} {x : Nat} (h1 : c ≤ 1099511627776) (h : x ≤ c.toNat * B 66) : x < B 67 := by
  have h2 : c.toNat * B 66 ≤ 1099511627776 * B 66 := Nat.mul_le_mul_right _ (by omega)
  have h3 : B 67 = 18446744073709551616 * B 66 := B_succ 66
  have h4 := B_pos 66
  omega
theorem B_room {c : Int} {x y : Nat} (h0 : 0 ≤ c) (h1 : c < 1099511627776) (h : x ≤ c.toNat * B 66) (hy : y ≤ B 66) : x + y ≤ (c + 1).toNat * B 66 ∧ x + y < B 72 := by
  have h2 : (c + 1).toNat = c.toNat + 1 := by omega
  have h3 : x + y ≤ (c + 1).toNat * B 66 := by rw [h2, Nat.add_mul, Nat.one_mul]; omega
  refine ⟨h3, Nat.lt_of_lt_of_le (B_67 (c := c + 1) (by omega) h3) (B_mono (by omega))⟩
theorem B_grow {c : Int} {x : Nat} (h0 : 0 ≤ c) (h : x ≤ c.toNat * B 66) : x ≤ (c + 1).toNat * B 66 := by
  have h2 : (c + 1).toNat = c.toNat + 1 := by omega
  rw [h2, Nat.add_mul, Nat.one_mul]
  omega
theorem RowsOK.zero : RowsOK 0 (List.replicate 72 0) (List.replicate 72 0) :=
  ⟨by omega, by omega, ok_replicate _, by simp, by rw [val_replicate]; omega, ok_replicate _, by simp, by rw [val_replicate]; omega⟩
theorem RowsOK.same {c : Int} {u v : List Int} (h : RowsOK c u v) (hc : c < 1099511627776) : RowsOK (c + 1) u v :=
  ⟨by have := h.c0; omega, by omega, h.ou, h.lu, B_grow h.c0 h.bu, h.ov, h.lv, B_grow h.c0 h.bv⟩
theorem tot_zero : tot (List.replicate 72 0) (List.replicate 72 0) = 0 := by unfold tot; rw [val_replicate]; rfl
theorem side_eq (s : Bool) : gather_Acc_side.f s = some (if s = true then 77 else 5) := by cases s <;> rfl
theorem zero_eq (s : Bool) : gather_zero.f s = some (put s 0) := by cases s <;> rfl
theorem odd_eq {a b c e : Bool} {d : Int} (h : U d) : gather_kinds_odd.f a b c e d = some (if cls d = 4 then ((true, b, c, true), true) else if cls d = 3 then (if d = 9218868437227405312 then ((a, true, c, true), true) else ((a, b, true, true), true)) else ((a, b, c, e), false)) := by
  unfold gather_kinds_odd.f gather_kinds_odd.b0
  rw [Class_eq h, Option.bind_some]
  by_cases h4 : cls d = 4
  · rw [if_pos h4, if_pos h4]
  · rw [if_neg h4, if_neg h4]
    by_cases h3 : cls d = 3
    · rw [if_pos h3, if_pos h3]
      by_cases hi : d = 9218868437227405312
      · rw [if_pos hi, if_pos hi]
      · rw [if_neg hi, if_neg hi]
    · rw [if_neg h3, if_neg h3]
theorem beyond_eq (a b c e : Bool) : gather_kinds_beyond.f a b c e = some (if a = true ∨ (b = true ∧ c = true) then (9221120237041090560, true) else if b = true then (9218868437227405312, true) else if c = true then (18442240474082181120, true) else (0, false)) := by
  cases a <;> cases b <;> cases c <;> rfl
/-- A magnitude for one of the sides. -/
theorem side_put {c : Int} {u v : List Int} {s : Bool} {H L at' : Nat} {hi lo a : Int} {X : Nat} (h : RowsOK c u v) (hc : c < 1099511627776) (hhi : hi = (H : Int)) (hlo : lo = (L : Int)) (ha : a = (at' : Int)) (hH : H < 18446744073709551616) (hL : L < 18446744073709551616) (hat : at' ≤ 4400) (hX : (H * 18446744073709551616 + L) * 2 ^ at' = X) (hB : X ≤ B 66) :
    ∃ u' v', RowsOK (c + 1) u' v' ∧ tot u' v' = tot u v + sv s X ∧ ((s = false ∧ v' = v ∧ Ev (fun n _ _ => gather_row_put.f n u hi lo a) (u', ())) ∨ (s = true ∧ u' = u ∧ Ev (fun n _ _ => gather_row_put.f n v hi lo a) (v', ()))) := by
  cases s with
  | false =>
    have h1 := B_room h.c0 hc h.bu hB
    obtain ⟨u', h2, h3, h4, h5⟩ := put_ev h.ou h.lu hhi hlo ha hH hL hat (by rw [hX]; exact h1.2)
    rw [hX] at h5
    refine ⟨u', v, ⟨by have := h.c0; omega, by omega, h3, h4, by rw [h5]; exact h1.1, h.ov, h.lv, B_grow h.c0 h.bv⟩, ?_, .inl ⟨rfl, rfl, h2⟩⟩
    unfold tot sv
    rw [h5, if_neg (by simp)]
    omega
  | true =>
    have h1 := B_room h.c0 hc h.bv hB
    obtain ⟨v', h2, h3, h4, h5⟩ := put_ev h.ov h.lv hhi hlo ha hH hL hat (by rw [hX]; exact h1.2)
    rw [hX] at h5
    refine ⟨u, v', ⟨by have := h.c0; omega, by omega, h.ou, h.lu, B_grow h.c0 h.bu, h3, h4, by rw [h5]; exact h1.1⟩, ?_, .inr ⟨rfl, rfl, h2⟩⟩
    unfold tot sv
    rw [h5, if_pos rfl]
    omega
theorem pow_le_B {e k : Nat} (h : e ≤ 64 * k) : 2 ^ e ≤ B k := by rw [B_two]; exact Nat.pow_le_pow_right (by omega) h
/-- A double in the rows' unit. -/
theorem one_units {d : Int} {K : Nat} (hK : K = 1074) (h : fin d) : (0 * 18446744073709551616 + (manOf d).toNat) * 2 ^ (expOf d + 2148).toNat = uni (plc d) * 2 ^ K ∧ uni (plc d) * 2 ^ K ≤ B 66 := by
  have he := exp_range h
  have hm := man_range h
  have h1 : (expOf d + 2148).toNat = (expOf d + 1074).toNat + K := by omega
  have h2 : (0 * 18446744073709551616 + (manOf d).toNat) * 2 ^ (expOf d + 2148).toNat = uni (plc d) * 2 ^ K := by
    rw [Nat.zero_mul, Nat.zero_add, h1, uni_parts h, Nat.mul_assoc, ← Nat.pow_add]
  refine ⟨h2, ?_⟩
  rw [← h2, Nat.zero_mul, Nat.zero_add]
  have h3 : (manOf d).toNat < 2 ^ 53 := by omega
  obtain ⟨E, hE⟩ : ∃ E, E = 3119 := ⟨_, rfl⟩
  have h4 : (2 : Nat) ^ (expOf d + 2148).toNat ≤ 2 ^ E := Nat.pow_le_pow_right (by omega) (by omega)
  have h5 := Nat.mul_le_mul (Nat.le_of_lt h3) h4
  rw [← Nat.pow_add] at h5
  exact Nat.le_trans h5 (pow_le_B (by omega))
theorem two_units {a b : Int} (ha : fin a) (hb : fin b) {P : Nat} (hP : P = (manOf a).toNat * (manOf b).toNat) : (P / 18446744073709551616 * 18446744073709551616 + P % 18446744073709551616) * 2 ^ (expOf a + expOf b + 2148).toNat = uni (plc a) * uni (plc b) ∧ uni (plc a) * uni (plc b) ≤ B 66 ∧ P / 18446744073709551616 < 18446744073709551616 := by
  have he := exp_range ha
  have hm := man_range ha
  have he' := exp_range hb
  have hm' := man_range hb
  have h0 : P / 18446744073709551616 * 18446744073709551616 + P % 18446744073709551616 = P := by omega
  have h1 : (expOf a + expOf b + 2148).toNat = (expOf a + 1074).toNat + (expOf b + 1074).toNat := by omega
  have h2 : P * 2 ^ (expOf a + expOf b + 2148).toNat = uni (plc a) * uni (plc b) := by
    rw [h1, uni_parts ha, uni_parts hb, Nat.pow_add, hP, Nat.mul_mul_mul_comm]
  have hP2 : P < 2 ^ 106 := by
    have h3 : (manOf a).toNat < 9007199254740992 := by omega
    have h4 : (manOf b).toNat < 9007199254740992 := by omega
    have h5 := Nat.mul_lt_mul'' h3 h4
    rw [← hP] at h5
    exact h5
  refine ⟨by rw [h0]; exact h2, ?_, ?_⟩
  · rw [← h2]
    obtain ⟨E, hE⟩ : ∃ E, E = 4090 := ⟨_, rfl⟩
    have h4 : (2 : Nat) ^ (expOf a + expOf b + 2148).toNat ≤ 2 ^ E := Nat.pow_le_pow_right (by omega) (by omega)
    have h5 := Nat.mul_le_mul (Nat.le_of_lt hP2) h4
    rw [← Nat.pow_add] at h5
    exact Nat.le_trans h5 (pow_le_B (by omega))
  · rw [Nat.div_lt_iff_lt_mul (by omega)]
    refine Nat.lt_trans hP2 ?_
    decide
theorem add_fin {c : Int} {u v : List Int} {a b e o : Bool} {d : Int} {K : Nat} (hK : K = 1074) (h : RowsOK c u v) (hc : c < 1099511627776) (hd : U d) (fd : fin d) :
    ∃ u' v', Ev (fun n _ _ => gather_Acc_Add.f n a b e o c u v d) ((a, b, e, (o || decide (¬ d = 9223372036854775808)), c + 1, u', v'), ()) ∧ RowsOK (c + 1) u' v' ∧ tot u' v' = tot u v + sval d * ((2 ^ K : Nat) : Int) := by
  have he := exp_range fd
  have hm := man_range fd
  have hcl := (cls_fin (d := d))
  have hc3 : ¬ cls d ≥ 3 := fun hh => hcl.1 hh fd
  obtain ⟨q1, q2⟩ := one_units hK fd
  obtain ⟨u', v', h1, h2, h3⟩ := side_put (s := sgn d) (hi := 0) (lo := manOf d) (a := expOf d + 2148) (H := 0) (L := (manOf d).toNat) (at' := (expOf d + 2148).toNat) h hc rfl (by omega) (by omega) (by omega) (by omega) (by omega) q1 q2
  have hodd : gather_kinds_odd.f a b e o d = some ((a, b, e, o), false) := by
    rw [odd_eq hd, if_neg (by omega), if_neg (by omega)]
  have e1 : wrap64 (c + 1) = c + 1 := by have := h.c0; unfold wrap64; omega
  have e2 : wrap64 (expOf d - (-2148)) = expOf d + 2148 := by unfold wrap64; omega
  have l31 : ∀ o' : Bool, Ev (fun n _ _ => gather_Acc_Add.l31 n d a b e o' (c + 1) u v) ((a, b, e, o', c + 1, u', v'), ()) := by
    intro o'
    simp only [gather_Acc_Add.l31, gather_Acc_Add.b31]
    refine Ev_bind_eq (Decode_eq hd) (Ev_bind_eq (side_eq _) ?_)
    simp only [e2]
    rcases h3 with ⟨hs, rfl, h3⟩ | ⟨hs, rfl, h3⟩
    · rw [hs]
      exact Ev_pos rfl (Ev.bind h3 (Ev.now _))
    · rw [hs]
      exact Ev_neg (by simp) (Ev_pos rfl (Ev.bind h3 (Ev.now _)))
  refine ⟨u', v', ?_, h1, ?_⟩
  · simp only [gather_Acc_Add.f, gather_Acc_Add.b0]
    refine Ev_neg (by omega) (Ev_bind_eq hodd (Ev_neg Bool.false_ne_true ?_))
    simp only [e1]
    by_cases hz : d = 9223372036854775808
    · refine Ev_neg (fun hh => hh hz) ?_
      have : (o || decide (¬ d = 9223372036854775808)) = o := by rw [decide_eq_false (fun hh => hh hz)]; simp
      rw [this]
      exact l31 o
    · refine Ev_pos hz ?_
      have : (o || decide (¬ d = 9223372036854775808)) = true := by rw [decide_eq_true hz]; simp
      rw [this]
      exact l31 true
  · rw [h2, sv_mul]
    rfl
theorem product_fin {c : Int} {u v : List Int} {a b e o : Bool} {x y : Int} {K : Nat} (hK : K = 1074) (h : RowsOK c u v) (hc : c < 1099511627776) (hx : U x) (fx : fin x) (hy : U y) (fy : fin y) :
    ∃ u' v', Ev (fun n _ _ => gather_Acc_AddProduct.f n a b e o c u v x y) ((a, b, e, (o || !((sgn x != sgn y) && decide (plc x = 0 ∨ plc y = 0))), c + 1, u', v'), ()) ∧ RowsOK (c + 1) u' v' ∧ tot u' v' = tot u v + sval x * sval y := by
  have ex := exp_range fx
  have mx' := man_range fx
  have ey := exp_range fy
  have my := man_range fy
  have hx3 : ¬ cls x ≥ 3 := fun hh => cls_fin.1 hh fx
  have hy3 : ¬ cls y ≥ 3 := fun hh => cls_fin.1 hh fy
  have zx : manOf x = 0 ↔ plc x = 0 := by
    have h1 := uni_parts fx
    have hp : 0 < 2 ^ (expOf x + 1074).toNat := Nat.pow_pos (by omega)
    constructor
    · intro h0
      rw [h0, Int.toNat_zero, Nat.zero_mul] at h1
      exact uni_inj (h1.trans uni_zero.symm)
    · intro h0
      rw [h0, uni_zero] at h1
      rcases Nat.mul_eq_zero.1 h1.symm with h2 | h2 <;> omega
  have zy : manOf y = 0 ↔ plc y = 0 := by
    have h1 := uni_parts fy
    have hp : 0 < 2 ^ (expOf y + 1074).toNat := Nat.pow_pos (by omega)
    constructor
    · intro h0
      rw [h0, Int.toNat_zero, Nat.zero_mul] at h1
      exact uni_inj (h1.trans uni_zero.symm)
    · intro h0
      rw [h0, uni_zero] at h1
      rcases Nat.mul_eq_zero.1 h1.symm with h2 | h2 <;> omega
  have hsv : sval x * sval y = sv (sgn x != sgn y) (uni (plc x) * uni (plc y)) := by
    unfold sval sv
    cases sgn x <;> cases sgn y <;> simp [Int.neg_mul, Int.mul_neg]
  by_cases hz : plc x = 0 ∨ plc y = 0
  · have hp : fin (put (sgn x != sgn y) 0) ∧ U (put (sgn x != sgn y) 0) := by cases (sgn x != sgn y) <;> (unfold put fin U; decide)
    obtain ⟨u', v', h1, h2, h3⟩ := add_fin (a := a) (b := b) (e := e) (o := o) hK h hc hp.2 hp.1
    have hS : sval (put (sgn x != sgn y) 0) = 0 := by cases (sgn x != sgn y) <;> rfl
    have hP : sval x * sval y = 0 := by
      rw [hsv]
      have : uni (plc x) * uni (plc y) = 0 := by rcases hz with hz | hz <;> rw [hz, uni_zero] <;> simp
      rw [this, sv_zero]
    have ho : (o || decide (¬ put (sgn x != sgn y) 0 = 9223372036854775808)) = (o || !((sgn x != sgn y) && decide (plc x = 0 ∨ plc y = 0))) := by
      rw [decide_eq_true hz]
      cases (sgn x != sgn y) <;> rfl
    rw [ho] at h1
    refine ⟨u', v', ?_, h2, by rw [h3, hS, hP]; simp⟩
    simp only [gather_Acc_AddProduct.f, gather_Acc_AddProduct.b0]
    refine Ev_neg (by omega) (Ev_bind_eq (Decode_eq hx) (Ev_bind_eq (Decode_eq hy) (Ev_neg hx3 (Ev_neg hy3 ?_))))
    simp only [gather_Acc_AddProduct.l31, gather_Acc_AddProduct.b31]
    by_cases hx0 : plc x = 0
    · exact Ev_pos (zx.2 hx0) (Ev_bind_eq (zero_eq _) (Ev.bind h1 (Ev.now _)))
    · exact Ev_neg (fun hh => hx0 (zx.1 hh)) (Ev_pos (zy.2 (hz.resolve_left hx0)) (Ev_bind_eq (zero_eq _) (Ev.bind h1 (Ev.now _))))
  · obtain ⟨q1, q2, q3⟩ := two_units fx fy (P := (manOf x).toNat * (manOf y).toNat) rfl
    obtain ⟨X, hX⟩ : ∃ X : Nat, manOf x = (X : Int) := ⟨_, (Int.toNat_of_nonneg mx'.1).symm⟩
    obtain ⟨Y, hY⟩ : ∃ Y : Nat, manOf y = (Y : Int) := ⟨_, (Int.toNat_of_nonneg my.1).symm⟩
    have hmul : bits_Mul64.f (manOf x) (manOf y) = some (((((manOf x).toNat * (manOf y).toNat) / 18446744073709551616 : Nat) : Int), ((((manOf x).toNat * (manOf y).toNat) % 18446744073709551616 : Nat) : Int)) := by
      rw [mul64 ⟨mx'.1, by omega⟩ ⟨my.1, by omega⟩, hX, hY]
      simp
    obtain ⟨u', v', h1, h2, h3⟩ := side_put (s := (sgn x != sgn y)) (hi := ((((manOf x).toNat * (manOf y).toNat) / 18446744073709551616 : Nat) : Int)) (lo := ((((manOf x).toNat * (manOf y).toNat) % 18446744073709551616 : Nat) : Int)) (a := expOf x + expOf y + 2148) (at' := (expOf x + expOf y + 2148).toNat) h hc rfl rfl (by omega) q3 (Nat.mod_lt _ (by omega)) (by omega) q1 q2
    have e1 : wrap64 (c + 1) = c + 1 := by have := h.c0; unfold wrap64; omega
    have e2 : wrap64 (wrap64 (expOf x + expOf y) - (-2148)) = expOf x + expOf y + 2148 := by
      have : wrap64 (expOf x + expOf y) = expOf x + expOf y := by unfold wrap64; omega
      rw [this]
      unfold wrap64
      omega
    have ho : (o || !((sgn x != sgn y) && decide (plc x = 0 ∨ plc y = 0))) = true := by rw [decide_eq_false hz]; simp
    rw [ho]
    refine ⟨u', v', ?_, h1, by rw [h2, hsv]⟩
    simp only [gather_Acc_AddProduct.f, gather_Acc_AddProduct.b0]
    refine Ev_neg (by omega) (Ev_bind_eq (Decode_eq hx) (Ev_bind_eq (Decode_eq hy) (Ev_neg hx3 (Ev_neg hy3 ?_))))
    simp only [gather_Acc_AddProduct.l31, gather_Acc_AddProduct.b31]
    refine Ev_neg (fun hh => hz (.inl (zx.1 hh))) (Ev_neg (fun hh => hz (.inr (zy.1 hh))) (Ev_bind_eq hmul (Ev_bind_eq (side_eq _) ?_)))
    simp only [e1, e2]
    rcases h3 with ⟨hs, rfl, h3⟩ | ⟨hs, rfl, h3⟩
    · rw [hs]
      exact Ev_pos rfl (Ev.bind h3 (Ev.now _))
    · rw [hs]
      exact Ev_neg (by simp) (Ev_pos rfl (Ev.bind h3 (Ev.now _)))
/-- The sum as a sign and a magnitude. -/
theorem exact_ev {c : Int} {u v : List Int} {a b e o : Bool} (h : RowsOK c u v) :
    ∃ s, Ev (fun n _ _ => gather_Acc_exact.f n a b e o c u v) (s, lim (tot u v).natAbs) ∧ (tot u v ≠ 0 → s = decide (tot u v < 0)) ∧ (tot u v = 0 → s = (decide (c > 0) && !o)) := by
  have hcmp := nat_Cmp_ev h.ou h.ov (by rw [h.lu]; omega) (by rw [h.lv]; omega)
  have hb : ∀ {x : Nat}, x ≤ c.toNat * B 66 → x < B 4096 := fun hx => Nat.lt_of_lt_of_le (B_67 h.c1 hx) (B_mono (by omega))
  have hlim : val u < B 4096 ∧ val v < B 4096 := ⟨hb h.bu, hb h.bv⟩
  unfold tot
  rcases Nat.lt_trichotomy (val v) (val u) with hlt | heq | hgt
  · have hs := nat_Sub_ev h.ou h.ov (by rw [h.lu]; omega) (by rw [h.lv]; omega)
    unfold subAns ans2 at hs
    rw [if_pos hlim, if_neg (by omega)] at hs
    refine ⟨false, ?_, fun _ => (decide_eq_false (by omega)).symm, fun hh => by omega⟩
    simp only [gather_Acc_exact.f, gather_Acc_exact.b0]
    refine Ev.bind hcmp ?_
    rw [cmp_gt hlt]
    rw [show ((val u : Int) - (val v : Int)).natAbs = val u - val v from by omega]
    exact Ev_pos rfl (Ev.bind hs (Ev.now _))
  · refine ⟨decide (c > 0) && !o, ?_, fun hh => by omega, fun _ => rfl⟩
    simp only [gather_Acc_exact.f, gather_Acc_exact.b0]
    refine Ev.bind hcmp ?_
    rw [heq, cmp_self]
    rw [show ((val u : Int) - (val u : Int)).natAbs = 0 from by omega, lim_zero]
    refine Ev_neg (by decide) (Ev_neg (by decide) ?_)
    by_cases hc : c > 0
    · rw [decide_eq_true hc, Bool.true_and]
      exact Ev_pos hc (Ev.now _)
    · rw [decide_eq_false hc, Bool.false_and]
      exact Ev_neg hc (Ev.now _)
  · have hs := nat_Sub_ev h.ov h.ou (by rw [h.lv]; omega) (by rw [h.lu]; omega)
    unfold subAns ans2 at hs
    rw [if_pos ⟨hlim.2, hlim.1⟩, if_neg (by omega)] at hs
    refine ⟨true, ?_, fun _ => (decide_eq_true (by omega)).symm, fun hh => by omega⟩
    simp only [gather_Acc_exact.f, gather_Acc_exact.b0]
    refine Ev.bind hcmp ?_
    rw [cmp_lt hgt]
    rw [show ((val u : Int) - (val v : Int)).natAbs = val v - val u from by omega]
    exact Ev_neg (by decide) (Ev_pos rfl (Ev.bind hs (Ev.now _)))
theorem tot_lt {c : Int} {u v : List Int} (h : RowsOK c u v) : (tot u v).natAbs < B 67 := by
  have h1 := B_67 h.c1 h.bu
  have h2 := B_67 h.c1 h.bv
  unfold tot
  omega
/-- The sum divided by m, rounded once. -/
theorem over_fin {c : Int} {u v : List Int} {o : Bool} {m K : Nat} (hK : K = 1074) (h : RowsOK c u v) (hm : m < 18446744073709551616) (m0 : m ≠ 0) :
    ∃ s p, Ev (fun n _ _ => gather_Acc_over.f n false false false o c u v (m : Int)) (put s p) ∧ Near p (tot u v).natAbs (m * 2 ^ K) ∧ (tot u v ≠ 0 → s = decide (tot u v < 0)) ∧ (tot u v = 0 → s = (decide (c > 0) && !o)) := by
  obtain ⟨s, h1, h2, h3⟩ := exact_ev (a := false) (b := false) (e := false) (o := o) h
  have hB : (tot u v).natAbs < B 4096 := Nat.lt_of_lt_of_le (tot_lt h) (B_mono (by omega))
  have hv : val [(m : Int)] = m := by rw [val_cons, val_nil, Nat.mul_zero, Nat.add_zero, Int.toNat_natCast]
  obtain ⟨p, h4, h5⟩ := RoundRatio_ev (n := lim (tot u v).natAbs) (d := [(m : Int)]) (neg := s) (e := -2148) (ok_lim _) (fun x hx => by
    simp only [List.mem_cons, List.not_mem_nil, or_false] at hx
    subst hx; exact nlt hm) (by have := (lim_len_le (tot u v).natAbs 4096).2 hB; omega) (by simp) (by rw [val_lim]; exact hB) (by rw [hv]; exact Nat.lt_of_lt_of_le hm (by rw [← B_one]; exact B_mono (by omega))) (by rw [hv]; exact m0)
  refine ⟨s, p, ?_, ?_, h2, h3⟩
  · simp only [gather_Acc_over.f, gather_Acc_over.b0]
    refine Ev_bind_eq (beyond_eq _ _ _ _) (Ev_neg (by decide) (Ev.bind h1 (Ev.bind h4 (Ev.now _))))
  · have h6 := h5 0 K (by rw [clamp_in (by omega) (by omega)]; omega)
    rw [val_lim, hv, Nat.pow_zero, Nat.mul_one] at h6
    exact h6
end Go.Proofs.YtcacmhcekoeblaaDoor.Gac
