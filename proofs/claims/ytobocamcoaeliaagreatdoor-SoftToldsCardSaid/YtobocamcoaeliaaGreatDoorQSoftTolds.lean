/- Every Told is the reference's: answer, flags, error. No conditions. -/
import Derived.Test.YtobocamcoaeliaaGreatDoorQR5
import Derived.Test.YtobocamcoaeliaaGreatDoorQSoftFmas
import Derived.Test.YtobocamcoaeliaaGreatDoorQSoftSqrt
namespace Go.Proofs.YtobocamcoaeliaaGreatDoor.Pure
open Go.RowKit Go.Proofs.YtobocamcoaeliaaGreatDoor.Lib Go.Proofs.YtobocamcoaeliaaGreatDoor.LibB Go.Proofs.YtobocamcoaeliaaGreatDoor.F Go.Proofs.YtobocamcoaeliaaGreatDoor.Nat1 Go.Proofs.YtobocamcoaeliaaGreatDoor.Nat2 Go.Proofs.YtobocamcoaeliaaGreatDoor.Bits Go.Proofs.YtobocamcoaeliaaGreatDoor.Ieee1 Go.Proofs.YtobocamcoaeliaaGreatDoor.Mag Go.Proofs.YtobocamcoaeliaaGreatDoor.Ieee2 Go.Proofs.YtobocamcoaeliaaGreatDoor.Rnd Go.Proofs.YtobocamcoaeliaaGreatDoor.R1 Go.Proofs.YtobocamcoaeliaaGreatDoor.R4 Go.Proofs.YtobocamcoaeliaaGreatDoor.R5 Go.Proofs.YtobocamcoaeliaaGreatDoor.R5t
open Go.Proofs.YtobocamcoaeliaaGreatDoor.Soft1 (sv sval Rd sv_zero sv_mul sv_abs neg_parts)
open Go.Proofs.YtobocamcoaeliaaGreatDoor.Soft2 (RdM sv_prod)
open Go.Proofs.YtobocamcoaeliaaGreatDoor.SoftDiv (RootNear cls_zero)
open Go.Proofs.YtobocamcoaeliaaGreatDoor.SoftTot (AddR MulR DivR FmaR add_tot mul_tot div_tot fma_tot fin_cls withSign_inf)
open Go.Proofs.YtobocamcoaeliaaGreatDoor.SoftFl (flg inf_of put_cls add_fl mul_fl div_fl fma_fl sqrt_fl)
open Go.Proofs.YtobocamcoaeliaaGreatDoorA (rd ln ln_eq mx mn shl shr wr wr_eq)
set_option linter.unusedVariables false
set_option linter.unusedSimpArgs false
theorem Ev.one {α : Type} {g : Nat → Nat → Nat → Option α} {r r' : α} (h : Ev g r) (k : Ev g r') : r = r' := by
  obtain ⟨K, h⟩ := h
  obtain ⟨L, k⟩ := k
  have a := h (max K L) (max K L) (max K L) (by omega) (by omega) (by omega)
  have b := k (max K L) (max K L) (max K L) (by omega) (by omega) (by omega)
  rw [a] at b
  exact Option.some.inj b
theorem PU (s : Bool) {p : Nat} (h : p ≤ inf) : U (put s p) ∧ plc (put s p) = p ∧ sgn (put s p) = s := Go.Proofs.YtobocamcoaeliaaGreatDoor.Soft1.put_U h
/-- The flags on operands that aren't both finite. -/
def N2 (op a b d n : Int) : Prop := if cls a = 4 ∨ cls b = 4 then n = 0 else if cls d = 4 then n = 1 else if op = 4 ∧ cls b = 0 ∧ fin a ∧ fin b then n = 2 else n = 0
theorem n_nan {op a b d : Int} (h : cls a = 4 ∨ cls b = 4) : N2 op a b d 0 := by unfold N2; rw [if_pos h]
theorem n_inv {op a b : Int} (h : ¬ (cls a = 4 ∨ cls b = 4)) : N2 op a b 9221120237041090560 1 := by unfold N2; rw [if_neg h, if_pos cls_nan]
theorem n_inf {op a b d : Int} (h : ¬ (cls a = 4 ∨ cls b = 4)) (hd : cls d ≠ 4) (hf : ¬ (fin a ∧ fin b)) : N2 op a b d 0 := by unfold N2; rw [if_neg h, if_neg hd, if_neg (fun k => hf k.2.2)]
theorem n_zero {a b d : Int} (h : ¬ (cls a = 4 ∨ cls b = 4)) (hd : cls d ≠ 4) (hz : cls b = 0) (hf : fin a ∧ fin b) : N2 4 a b d 2 := by unfold N2; rw [if_neg h, if_neg hd, if_pos ⟨rfl, hz, hf⟩]
theorem nf_a {a b : Int} (h : cls a = 3) : ¬ (fin a ∧ fin b) := fun k => (fin_cls.1 k.1).1 h
theorem nf_b {a b : Int} (h : cls b = 3) : ¬ (fin a ∧ fin b) := fun k => (fin_cls.1 k.2).1 h
theorem cls_inf (s : Bool) : cls (put s inf) ≠ 4 := put_cls (Nat.le_refl _)
theorem add_sp {op a b c : Int} (ha : U a) (hb : U b) (hf : ¬ (fin a ∧ fin b)) : ∃ d f, Ev (fun k _ _ => soft_add.f k a b c) (d, f) ∧ N2 op a b d f := by
  by_cases na : cls a = 4
  · exact ⟨_, 0, by simp only [soft_add.f, soft_add.b0]; exact Ev_bind_eq (Decode_eq ha) (Ev_bind_eq (Decode_eq hb) (Ev_pos na (Ev_some rfl))), n_nan (.inl na)⟩
  by_cases nb : cls b = 4
  · exact ⟨_, 0, by simp only [soft_add.f, soft_add.b0]; exact Ev_bind_eq (Decode_eq ha) (Ev_bind_eq (Decode_eq hb) (Ev_neg na (Ev_pos nb (Ev_some rfl)))), n_nan (.inr nb)⟩
  have hnn : ¬ (cls a = 4 ∨ cls b = 4) := by rintro (h | h); exact na h; exact nb h
  by_cases ia : cls a = 3
  · by_cases ib : cls b = 3
    · by_cases hs : sgn a = sgn b
      · refine ⟨a, 0, ?_, n_inf hnn na hf⟩
        simp only [soft_add.f, soft_add.b0, soft_add.l231, soft_add.b231]
        exact Ev_bind_eq (Decode_eq ha) (Ev_bind_eq (Decode_eq hb) (Ev_neg na (Ev_neg nb (Ev_pos ia (Ev_pos ib (Ev_neg (by simp [hs]) (Ev_pos ia (Ev_some rfl))))))))
      · refine ⟨_, 1, ?_, n_inv hnn⟩
        simp only [soft_add.f, soft_add.b0, soft_add.l231, soft_add.b231]
        exact Ev_bind_eq (Decode_eq ha) (Ev_bind_eq (Decode_eq hb) (Ev_neg na (Ev_neg nb (Ev_pos ia (Ev_pos ib (Ev_pos (by simp [hs]) (Ev_bind_eq rfl (Ev_some rfl))))))))
    · refine ⟨a, 0, ?_, n_inf hnn na hf⟩
      simp only [soft_add.f, soft_add.b0, soft_add.l231, soft_add.b231]
      exact Ev_bind_eq (Decode_eq ha) (Ev_bind_eq (Decode_eq hb) (Ev_neg na (Ev_neg nb (Ev_pos ia (Ev_neg ib (Ev_neg (by simp) (Ev_pos ia (Ev_some rfl))))))))
  · have ib : cls b = 3 := Decidable.byContradiction fun h => hf ⟨fin_cls.2 ⟨ia, na⟩, fin_cls.2 ⟨h, nb⟩⟩
    refine ⟨b, 0, ?_, n_inf hnn nb hf⟩
    simp only [soft_add.f, soft_add.b0, soft_add.l231, soft_add.b231]
    exact Ev_bind_eq (Decode_eq ha) (Ev_bind_eq (Decode_eq hb) (Ev_neg na (Ev_neg nb (Ev_neg ia (Ev_neg (by simp) (Ev_neg ia (Ev_pos ib (Ev_some rfl))))))))
theorem mul_sp {op a b c : Int} (ha : U a) (hb : U b) (hf : ¬ (fin a ∧ fin b)) : ∃ d f, Ev (fun k _ _ => soft_mul.f k a b c) (d, f) ∧ N2 op a b d f := by
  by_cases na : cls a = 4
  · exact ⟨_, 0, by simp only [soft_mul.f, soft_mul.b0]; exact Ev_bind_eq (Decode_eq ha) (Ev_bind_eq (Decode_eq hb) (Ev_pos na (Ev_some rfl))), n_nan (.inl na)⟩
  by_cases nb : cls b = 4
  · exact ⟨_, 0, by simp only [soft_mul.f, soft_mul.b0]; exact Ev_bind_eq (Decode_eq ha) (Ev_bind_eq (Decode_eq hb) (Ev_neg na (Ev_pos nb (Ev_some rfl)))), n_nan (.inr nb)⟩
  have hnn : ¬ (cls a = 4 ∨ cls b = 4) := by rintro (h | h); exact na h; exact nb h
  by_cases ia : cls a = 3
  · by_cases zb : cls b = 0
    · refine ⟨_, 1, ?_, n_inv hnn⟩
      simp only [soft_mul.f, soft_mul.b0, soft_mul.l487, soft_mul.b487]
      exact Ev_bind_eq (Decode_eq ha) (Ev_bind_eq (Decode_eq hb) (Ev_neg na (Ev_neg nb (Ev_pos ia (Ev_pos zb (Ev_pos (by simp) (Ev_bind_eq rfl (Ev_some rfl))))))))
    · refine ⟨put (sgn a != sgn b) inf, 0, ?_, n_inf hnn (cls_inf _) hf⟩
      simp only [soft_mul.f, soft_mul.b0, soft_mul.l487, soft_mul.b487]
      exact Ev_bind_eq (Decode_eq ha) (Ev_bind_eq (Decode_eq hb) (Ev_neg na (Ev_neg nb (Ev_pos ia (Ev_neg zb (Ev_neg (by dsimp only; omega) (Ev_neg (by simp) (Ev_pos ia (Ev_bind_eq (withSign_inf _) (Ev_some rfl))))))))))
  · have ib : cls b = 3 := Decidable.byContradiction fun h => hf ⟨fin_cls.2 ⟨ia, na⟩, fin_cls.2 ⟨h, nb⟩⟩
    by_cases za : cls a = 0
    · refine ⟨_, 1, ?_, n_inv hnn⟩
      simp only [soft_mul.f, soft_mul.b0, soft_mul.l487, soft_mul.b487]
      exact Ev_bind_eq (Decode_eq ha) (Ev_bind_eq (Decode_eq hb) (Ev_neg na (Ev_neg nb (Ev_neg ia (Ev_pos za (Ev_pos (by simp [ib]) (Ev_bind_eq rfl (Ev_some rfl))))))))
    · refine ⟨put (sgn a != sgn b) inf, 0, ?_, n_inf hnn (cls_inf _) hf⟩
      simp only [soft_mul.f, soft_mul.b0, soft_mul.l487, soft_mul.b487]
      exact Ev_bind_eq (Decode_eq ha) (Ev_bind_eq (Decode_eq hb) (Ev_neg na (Ev_neg nb (Ev_neg ia (Ev_neg za (Ev_neg (by simp) (Ev_neg ia (Ev_pos ib (Ev_bind_eq (withSign_inf _) (Ev_some rfl))))))))))
theorem div_sp {a b c : Int} (ha : U a) (hb : U b) (hf : ¬ (fin a ∧ fin b ∧ cls b ≠ 0)) : ∃ d f, Ev (fun k _ _ => soft_div.f k a b c) (d, f) ∧ N2 4 a b d f := by
  by_cases na : cls a = 4
  · exact ⟨_, 0, by simp only [soft_div.f, soft_div.b0]; exact Ev_bind_eq (Decode_eq ha) (Ev_bind_eq (Decode_eq hb) (Ev_pos na (Ev_some rfl))), n_nan (.inl na)⟩
  by_cases nb : cls b = 4
  · exact ⟨_, 0, by simp only [soft_div.f, soft_div.b0]; exact Ev_bind_eq (Decode_eq ha) (Ev_bind_eq (Decode_eq hb) (Ev_neg na (Ev_pos nb (Ev_some rfl)))), n_nan (.inr nb)⟩
  have hnn : ¬ (cls a = 4 ∨ cls b = 4) := by rintro (h | h); exact na h; exact nb h
  have c0 (s : Bool) : cls (put s 0) ≠ 4 := put_cls (by decide)
  by_cases hab : cls a = cls b
  · by_cases ia : cls a = 3
    · refine ⟨_, 1, ?_, n_inv hnn⟩
      simp only [soft_div.f, soft_div.b0]
      exact Ev_bind_eq (Decode_eq ha) (Ev_bind_eq (Decode_eq hb) (Ev_neg na (Ev_neg nb (Ev_pos hab (Ev_pos ia (Ev_bind_eq rfl (Ev_some rfl)))))))
    · have za : cls a = 0 := Decidable.byContradiction fun h => hf ⟨fin_cls.2 ⟨ia, na⟩, fin_cls.2 ⟨by omega, nb⟩, by omega⟩
      refine ⟨_, 1, ?_, n_inv hnn⟩
      simp only [soft_div.f, soft_div.b0]
      exact Ev_bind_eq (Decode_eq ha) (Ev_bind_eq (Decode_eq hb) (Ev_neg na (Ev_neg nb (Ev_pos hab (Ev_neg ia (Ev_pos za (Ev_bind_eq rfl (Ev_some rfl))))))))
  · by_cases ia : cls a = 3
    · refine ⟨put (sgn a != sgn b) inf, 0, ?_, n_inf hnn (cls_inf _) (nf_a ia)⟩
      simp only [soft_div.f, soft_div.b0]
      exact Ev_bind_eq (Decode_eq ha) (Ev_bind_eq (Decode_eq hb) (Ev_neg na (Ev_neg nb (Ev_neg hab (Ev_pos ia (Ev_bind_eq (withSign_inf _) (Ev_some rfl)))))))
    · by_cases zb : cls b = 0
      · refine ⟨put (sgn a != sgn b) inf, 2, ?_, n_zero hnn (cls_inf _) zb ⟨fin_cls.2 ⟨ia, na⟩, fin_cls.2 ⟨by omega, nb⟩⟩⟩
        simp only [soft_div.f, soft_div.b0]
        exact Ev_bind_eq (Decode_eq ha) (Ev_bind_eq (Decode_eq hb) (Ev_neg na (Ev_neg nb (Ev_neg hab (Ev_neg ia (Ev_pos zb (Ev_bind_eq (withSign_inf _) (Ev_some rfl))))))))
      · have ib : cls b = 3 := Decidable.byContradiction fun h => hf ⟨fin_cls.2 ⟨ia, na⟩, fin_cls.2 ⟨h, nb⟩, zb⟩
        by_cases za : cls a = 0
        · refine ⟨put (sgn a != sgn b) 0, 0, ?_, n_inf hnn (c0 _) (nf_b ib)⟩
          simp only [soft_div.f, soft_div.b0]
          exact Ev_bind_eq (Decode_eq ha) (Ev_bind_eq (Decode_eq hb) (Ev_neg na (Ev_neg nb (Ev_neg hab (Ev_neg ia (Ev_neg zb (Ev_pos za (Ev_bind_eq (Go.Proofs.YtobocamcoaeliaaGreatDoor.Soft1.withSign_zero _) (Ev_some rfl)))))))))
        · refine ⟨put (sgn a != sgn b) 0, 0, ?_, n_inf hnn (c0 _) (nf_b ib)⟩
          simp only [soft_div.f, soft_div.b0]
          exact Ev_bind_eq (Decode_eq ha) (Ev_bind_eq (Decode_eq hb) (Ev_neg na (Ev_neg nb (Ev_neg hab (Ev_neg ia (Ev_neg zb (Ev_neg za (Ev_pos ib (Ev_bind_eq (Go.Proofs.YtobocamcoaeliaaGreatDoor.Soft1.withSign_zero _) (Ev_some rfl))))))))))
/-! ### two operands -/
theorem told_two {op a b c d n : Int} (h1 : 1 ≤ op) (h6 : op ≤ 6) (hans : Ev (fun k _ _ => abacusref05_answer.f k op a b c) d) (hd : U d) (ha : U a) (hb : U b) (h5 : op ≠ 5) (h6' : op ≠ 6)
    (h : (fin a ∧ fin b ∧ (op = 4 → cls b ≠ 0) ∧ cls d ≠ 4 ∧ Ev (fun k _ _ => abacusref05_flags.f k op a b c d) n) ∨ (¬ (fin a ∧ fin b ∧ (op = 4 → cls b ≠ 0)) ∧ N2 op a b d n ∧ (fin a → fin b → op = 4))) :
    Ev (fun k _ _ => abacusref05_Told.f k op a b c) (d, n, 0) := by
  refine told_ev (us := [a, b]) h1 h6 hans hd hb (by rw [if_neg h5, if_neg h6']) (by intro x hx; simp at hx; rcases hx with rfl | rfl; exact ha; exact hb) ?_ ?_
  · rintro ⟨x, hx, h4⟩
    have hn : cls a = 4 ∨ cls b = 4 := by simp at hx; rcases hx with rfl | rfl; exact .inl h4; exact .inr h4
    rcases h with ⟨fa, fb, _⟩ | ⟨_, h2, _⟩
    · exact (hn.elim (fin_cls.1 fa).2 (fin_cls.1 fb).2).elim
    · unfold N2 at h2; rwa [if_pos hn] at h2
  · intro hn
    have na : cls a ≠ 4 := hn a (by simp)
    have nb : cls b ≠ 4 := hn b (by simp)
    have hall : ([a, b].all fun x => decide (fin x)) = decide (fin a ∧ fin b) := by
      by_cases fa : fin a <;> by_cases fb : fin b <;> simp [fa, fb]
    rw [hall]
    rcases h with ⟨fa, fb, hz, h4, hf⟩ | ⟨hnf, h2, ho⟩
    · rw [if_neg h4, if_neg (fun k => hz k.1 k.2.1), if_neg (by rw [decide_eq_true ⟨fa, fb⟩]; simp)]
      exact hf
    · unfold N2 at h2
      rw [if_neg (by rintro (k | k); exact na k; exact nb k)] at h2
      by_cases h4 : cls d = 4
      · rw [if_pos h4] at h2 ⊢; exact h2
      rw [if_neg h4] at h2 ⊢
      by_cases h3 : op = 4 ∧ cls b = 0 ∧ fin a ∧ fin b
      · rw [if_pos h3] at h2
        rw [if_pos ⟨h3.1, h3.2.1, decide_eq_true h3.2.2⟩]; exact h2
      · rw [if_neg h3] at h2
        rw [if_neg (fun k => h3 ⟨k.1, k.2.1, of_decide_eq_true k.2.2⟩)]
        by_cases hff : fin a ∧ fin b
        · exact absurd ⟨hff.1, hff.2, fun o z => h3 ⟨o, z, hff⟩⟩ hnf
        · rw [if_pos (decide_eq_false hff)]; exact h2
/-- The reference's flags from what was rounded. -/
theorem rflags_fin {op a b c : Int} {s r : Bool} {p V M cc N D x y : Nat} {l m : List Int} {e : Int} (h5 : op ≠ 5) (hres : Ev (fun k _ _ => abacusref05_result.f k op a b c) (r, l, m, e)) (hn : Near p V M) (hM : 0 < M) (hl : ok l) (hm : ok m) (ll : l.length ≤ 4096) (lm : m.length ≤ 64) (vl : val l = N) (vm : val m = D) (he : -10000 ≤ e ∧ e ≤ 10000) (hab : (x : Int) - y = e + 1074)
    (hX : N * 2 ^ x = V * cc) (hY : D * 2 ^ y = M * cc) (hcc : 0 < cc) (hs : V ≠ 0 → s = r) : Ev (fun k _ _ => abacusref05_flags.f k op a b c (put s p)) (flg V M (put s p)) := by
  obtain ⟨u1, u2, u3⟩ := PU s hn.top
  have px : 0 < 2 ^ x := Nat.pow_pos (by decide)
  have hv : V = 0 ↔ N = 0 := by
    constructor
    · intro h
      rw [h, Nat.zero_mul] at hX
      exact (Nat.mul_eq_zero.1 hX).resolve_right (by omega)
    · intro h
      rw [h, Nat.zero_mul] at hX
      exact (Nat.mul_eq_zero.1 hX.symm).resolve_right (by omega)
  have hD : D ≠ 0 := by
    intro h
    rw [h, Nat.zero_mul] at hY
    exact absurd (Nat.mul_eq_zero.1 hY.symm) (by omega)
  have := rflags_ev (d := put s p) h5 hres u1 (put_cls hn.top) hl hm ll lm vl vm he hab (fun h => by
      rw [u2]
      have hn' := hn
      rw [hv.2 h] at hn'
      exact put_zero_near hM hn') (fun h _ => by rw [u3]; exact hs (fun k => h (hv.1 k))) (fun h k => by
      rw [u2] at h
      subst h
      rw [hX, hY, ← Nat.mul_assoc, Nat.mul_lt_mul_right hcc] at k
      exact near_inf hM hn k) hD
  rwa [flg_scale (c := 1) (c' := cc) (X' := V) (Y' := M) (by decide) hcc (by rw [Nat.mul_one, hX]) (by rw [Nat.mul_one, hY])] at this
theorem sum_fin {a b : Int} (ha : U a) (hb : U b) (fa : fin a) (fb : fin b) : ∃ (r : Bool) (Z : Nat) (g : Int) (A C : Nat), Ev (fun k _ _ => abacusref05_sum.f k (sgn a) [manOf a] [1] (expOf a) (sgn b) [manOf b] [1] (expOf b)) (r, lim Z, [1], g) ∧ Z < B 4096 ∧ -4000 ≤ g ∧ g ≤ 4000 ∧ (A : Int) - (C : Int) = g + 1074 ∧
    Z * 2 ^ A = (sval a + sval b).natAbs * 2 ^ C ∧ (sval a + sval b ≠ 0 → r = decide (sval a + sval b < 0)) := by
  obtain ⟨m, am, rm, um, e0, e1⟩ := parts' ha fa
  obtain ⟨n, bn, rn, un, f0, f1⟩ := parts' hb fb
  obtain ⟨r, Z, g, es, hs⟩ := sum_ev (s := sgn a) (t := sgn b) (den := [1]) (ns := [1]) (e := expOf a) (f := expOf b) (limb_ok (m := m) (by omega)) (limb_ok (m := n) (by omega)) (by simp) (by simp) limb_val limb_val (m110 rm) (m110 rn) (by omega) (by omega)
  rw [← am, ← bn] at es
  have g0 := hs.g0
  have g1 := hs.g1
  obtain ⟨C, hC⟩ : ∃ C, C = 2926 := ⟨_, rfl⟩
  have hv := hs.v
  have key : sv (sgn a) m * ((2 ^ (expOf a + 4000).toNat : Nat) : Int) + sv (sgn b) n * ((2 ^ (expOf b + 4000).toNat : Nat) : Int) = (sval a + sval b) * ((2 ^ C : Nat) : Int) := by
    rw [sval, sval, um, un, sv_mul, sv_mul, show (expOf a + 4000).toNat = (expOf a + 1074).toNat + C by omega, show (expOf b + 4000).toNat = (expOf b + 1074).toNat + C by omega, Nat.pow_add, Nat.pow_add, Int.natCast_mul, Int.natCast_mul, Int.add_mul, Int.mul_assoc, Int.mul_assoc]
  rw [key] at hv
  obtain ⟨q1, q2, q3⟩ := sign_sum (Nat.pow_pos (by omega)) hv
  obtain ⟨vz, vn⟩ := neg_scale (v := sval a + sval b) (Q := 2 ^ C) (Nat.pow_pos (by decide))
  refine ⟨r, Z, g, (g + 4000).toNat, C, es, hs.lim, g0, g1, by omega, ?_, fun k => ?_⟩
  · rw [q1, Int.natAbs_mul, Int.natAbs_natCast]
  · rw [q2 (fun h => k (vz.1 h))]
    exact decide_eq_decide.2 vn
theorem val_one : val [1] = 1 := limb_val (m := 1)
theorem ok_one : ok [1] := limb_ok (m := 1) (by decide)
theorem len4 {Z : Nat} (h : Z < B 4096) : (lim Z).length ≤ 4096 := (lim_len_le Z 4096).2 h
theorem soft_told {op a b c d n : Int} (h : op = 1 ∧ Ev (fun k _ _ => soft_add.f k a b c) (d, n) ∨ op = 2 ∧ Ev (fun k _ _ => soft_sub.f k a b c) (d, n) ∨ op = 3 ∧ Ev (fun k _ _ => soft_mul.f k a b c) (d, n) ∨ op = 4 ∧ Ev (fun k _ _ => soft_div.f k a b c) (d, n) ∨ op = 5 ∧ Ev (fun k _ _ => soft_sqrt.f k a b c) (d, n) ∨ op = 6 ∧ Ev (fun k _ _ => soft_fma.f k a b c) (d, n)) :
    Ev (fun k _ _ => soft_Told.f k op a b c) (d, n, 0) := by
  simp only [soft_Told.f, soft_Told.b0]
  rcases h with ⟨rfl, h⟩ | ⟨rfl, h⟩ | ⟨rfl, h⟩ | ⟨rfl, h⟩ | ⟨rfl, h⟩ | ⟨rfl, h⟩
  · exact Ev_bind_eq (a := ()) rfl (Ev_neg (by decide) (Ev_neg (by decide) (Ev_pos (by decide) (Ev_pos (by decide) (Ev_neg (by decide) (Ev_pos (by decide) (Ev.bind h (Ev_some rfl))))))))
  · exact Ev_bind_eq (a := ()) rfl (Ev_neg (by decide) (Ev_neg (by decide) (Ev_pos (by decide) (Ev_pos (by decide) (Ev_neg (by decide) (Ev_neg (by decide) (Ev_pos (by decide) (Ev.bind h (Ev_some rfl)))))))))
  · exact Ev_bind_eq (a := ()) rfl (Ev_neg (by decide) (Ev_neg (by decide) (Ev_pos (by decide) (Ev_pos (by decide) (Ev_neg (by decide) (Ev_neg (by decide) (Ev_neg (by decide) (Ev_pos (by decide) (Ev.bind h (Ev_some rfl))))))))))
  · exact Ev_bind_eq (a := ()) rfl (Ev_neg (by decide) (Ev_neg (by decide) (Ev_pos (by decide) (Ev_pos (by decide) (Ev_neg (by decide) (Ev_neg (by decide) (Ev_neg (by decide) (Ev_neg (by decide) (Ev_pos (by decide) (Ev.bind h (Ev_some rfl)))))))))))
  · exact Ev_bind_eq (a := ()) rfl (Ev_neg (by decide) (Ev_neg (by decide) (Ev_pos (by decide) (Ev_pos (by decide) (Ev_neg (by decide) (Ev_neg (by decide) (Ev_neg (by decide) (Ev_neg (by decide) (Ev_neg (by decide) (Ev_pos (by decide) (Ev.bind h (Ev_some rfl))))))))))))
  · exact Ev_bind_eq (a := ()) rfl (Ev_neg (by decide) (Ev_neg (by decide) (Ev_pos (by decide) (Ev_pos (by decide) (Ev_neg (by decide) (Ev_neg (by decide) (Ev_neg (by decide) (Ev_neg (by decide) (Ev_neg (by decide) (Ev_neg (by decide) (Ev_pos (by decide) (Ev.bind h (Ev_some rfl)))))))))))))
/-- Both tell the same. -/
def Both (op a b c : Int) : Prop := ∃ r, Ev (fun k _ _ => soft_Told.f k op a b c) r ∧ Ev (fun k _ _ => abacusref05_Told.f k op a b c) r
theorem addR_U' {a b d : Int} (ha : U a) (hb : U b) (h : AddR a b d) : U d := by
  unfold AddR at h
  by_cases h1 : cls a = 4 ∨ cls b = 4
  · rw [if_pos h1] at h; subst h; exact U_nan
  rw [if_neg h1] at h
  by_cases h2 : cls a = 3 ∧ cls b = 3 ∧ sgn a ≠ sgn b
  · rw [if_pos h2] at h; subst h; exact U_nan
  rw [if_neg h2] at h
  by_cases h3 : cls a = 3
  · rw [if_pos h3] at h; subst h; exact ha
  rw [if_neg h3] at h
  by_cases h4 : cls b = 3
  · rw [if_pos h4] at h; subst h; exact hb
  rw [if_neg h4] at h
  obtain ⟨s, p, rfl, k1, _⟩ := h
  exact U_put s k1.top
theorem both_1 {a b c : Int} (ha : U a) (hb : U b) : Both 1 a b c := by
  obtain ⟨d, n, e1, r1⟩ := add_tot (c := c) ha hb
  obtain ⟨d', e2, r2⟩ := rAdd_ev ha hb
  obtain rfl := r1.unique r2
  have hd := addR_U' ha hb r1
  have hans : Ev (fun k _ _ => abacusref05_answer.f k 1 a b c) d := by
    simp only [abacusref05_answer.f, abacusref05_answer.b0]
    exact Ev_pos (by decide) (Ev.bind e2 (Ev.now _))
  refine ⟨_, soft_told (.inl ⟨rfl, e1⟩), told_two (by decide) (by decide) hans hd ha hb (by decide) (by decide) ?_⟩
  by_cases hf : fin a ∧ fin b
  · left
    obtain ⟨fa, fb⟩ := hf
    obtain ⟨d', e3, r3⟩ := add_fl (c := c) ha hb fa fb
    obtain ⟨rfl, rfl⟩ := Prod.mk.inj (Ev.one e1 e3)
    obtain ⟨s, p, rfl, hn, h1, h2⟩ := r3
    obtain ⟨r, Z, g, A, C, es, hZ, g0, g1, hab, hX, hr⟩ := sum_fin ha hb fa fb
    refine ⟨fa, fb, fun h => absurd h (by decide), put_cls hn.top, ?_⟩
    have hres : Ev (fun k _ _ => abacusref05_result.f k 1 a b c) (r, lim Z, [1], g) := by
      simp only [abacusref05_result.f, abacusref05_result.b0]
      exact Ev_pos (by decide) (Ev_bind_eq (of_eq ha) (Ev_bind_eq (of_eq hb) (Ev.bind es (Ev.now _))))
    exact rflags_fin (by decide) hres hn (by decide) (ok_lim Z) ok_one (len4 hZ) (by simp) (val_lim Z) val_one ⟨by omega, by omega⟩ hab hX rfl (Nat.pow_pos (by decide)) (fun h => by rw [h1 (by omega), hr (by omega)])
  · right
    obtain ⟨d', n', e3, r3⟩ := add_sp (op := 1) (c := c) ha hb hf
    obtain ⟨rfl, rfl⟩ := Prod.mk.inj (Ev.one e1 e3)
    exact ⟨fun h => hf ⟨h.1, h.2.1⟩, r3, fun x y => absurd ⟨x, y⟩ hf⟩
theorem cls_neg {b : Int} (hb : U b) : cls (neg b) = 4 ↔ cls b = 4 := by
  obtain ⟨q1, q2, q3⟩ := neg_parts hb
  have e1 : ∀ x : Int, cls x = 4 ↔ ¬ fin x ∧ plc x ≠ inf := by
    intro x
    have h1 := @inf_of x
    have h2 := @fin_cls x
    constructor
    · intro h
      exact ⟨fun k => (h2.1 k).2 h, fun k => by have := h1.2 k; omega⟩
    · rintro ⟨h, k⟩
      exact Decidable.byContradiction fun h4 => h (h2.2 ⟨fun h3 => k (h1.1 h3), h4⟩)
  rw [e1, e1, q2, q3]
theorem both_2 {a b c : Int} (ha : U a) (hb : U b) : Both 2 a b c := by
  have hb' := U_neg hb
  obtain ⟨q1, q2, q3⟩ := neg_parts hb
  have hsub : ∀ {r}, Ev (fun k _ _ => soft_add.f k a (neg b) c) r → Ev (fun k _ _ => soft_sub.f k a b c) r := by
    intro r h
    simp only [soft_sub.f, soft_sub.b0]
    exact Ev_bind_eq (Neg_eq hb) (Ev.bind h (Ev_some rfl))
  obtain ⟨d, n, e1, r1⟩ := add_tot (c := c) ha hb'
  obtain ⟨d', e2, r2⟩ := rSub_ev ha hb
  obtain rfl := r1.unique r2
  have hd := addR_U' ha hb' r1
  have hans : Ev (fun k _ _ => abacusref05_answer.f k 2 a b c) d := by
    simp only [abacusref05_answer.f, abacusref05_answer.b0]
    exact Ev_neg (by decide) (Ev_pos (by decide) (Ev.bind e2 (Ev.now _)))
  refine ⟨_, soft_told (.inr (.inl ⟨rfl, hsub e1⟩)), told_two (by decide) (by decide) hans hd ha hb (by decide) (by decide) ?_⟩
  by_cases hf : fin a ∧ fin b
  · left
    obtain ⟨fa, fb⟩ := hf
    obtain ⟨d', e3, r3⟩ := add_fl (c := c) ha hb' fa (q3.2 fb)
    obtain ⟨rfl, rfl⟩ := Prod.mk.inj (Ev.one e1 e3)
    obtain ⟨s, p, rfl, hn, h1, h2⟩ := r3
    obtain ⟨r, Z, g, A, C, es, hZ, g0, g1, hab, hX, hr⟩ := sum_fin ha hb' fa (q3.2 fb)
    refine ⟨fa, fb, fun h => absurd h (by decide), put_cls hn.top, ?_⟩
    have hres : Ev (fun k _ _ => abacusref05_result.f k 2 a b c) (r, lim Z, [1], g) := by
      simp only [abacusref05_result.f, abacusref05_result.b0]
      exact Ev_neg (by decide) (Ev_pos (by decide) (Ev_bind_eq (of_eq ha) (Ev_bind_eq (rNeg_eq hb) (Ev_bind_eq (of_eq hb') (Ev.bind es (Ev.now _))))))
    exact rflags_fin (by decide) hres hn (by decide) (ok_lim Z) ok_one (len4 hZ) (by simp) (val_lim Z) val_one ⟨by omega, by omega⟩ hab hX rfl (Nat.pow_pos (by decide)) (fun h => by rw [h1 (by omega), hr (by omega)])
  · right
    obtain ⟨d', n', e3, r3⟩ := add_sp (op := 2) (c := c) ha hb' (fun h => hf ⟨h.1, q3.1 h.2⟩)
    obtain ⟨rfl, rfl⟩ := Prod.mk.inj (Ev.one e1 e3)
    refine ⟨fun h => hf ⟨h.1, h.2.1⟩, ?_, fun x y => absurd ⟨x, y⟩ hf⟩
    unfold N2 at r3 ⊢
    simp only [cls_neg hb] at r3
    rw [if_neg (c := (2 : Int) = 4 ∧ cls (neg b) = 0 ∧ fin a ∧ fin (neg b)) (fun h => absurd h.1 (by decide))] at r3
    rw [if_neg (c := (2 : Int) = 4 ∧ cls b = 0 ∧ fin a ∧ fin b) (fun h => absurd h.1 (by decide))]
    exact r3
theorem mulR_U' {K : Nat} {a b d : Int} (h : MulR K a b d) : U d := by
  unfold MulR at h
  by_cases h1 : cls a = 4 ∨ cls b = 4
  · rw [if_pos h1] at h; subst h; exact U_nan
  rw [if_neg h1] at h
  by_cases h2 : (cls a = 3 ∧ cls b = 0) ∨ (cls a = 0 ∧ cls b = 3)
  · rw [if_pos h2] at h; subst h; exact U_nan
  rw [if_neg h2] at h
  obtain ⟨p, rfl, h4⟩ := h
  refine U_put _ ?_
  by_cases h5 : cls a = 3 ∨ cls b = 3
  · rw [if_pos h5] at h4; omega
  · rw [if_neg h5] at h4; exact h4.top
theorem prod_ev {a b : Int} (ha : U a) (hb : U b) (fa : fin a) (fb : fin b) : Ev (fun k _ _ => abacusref05_product.f k (sgn a) [manOf a] [1] (expOf a) (sgn b) [manOf b] [1] (expOf b)) (sgn a != sgn b, lim ((manOf a).toNat * (manOf b).toNat), [1], expOf a + expOf b) := by
  obtain ⟨m, am, rm, um, e0, e1⟩ := parts' ha fa
  obtain ⟨n, bn, rn, un, f0, f1⟩ := parts' hb fb
  rw [am, bn, Int.toNat_natCast, Int.toNat_natCast]
  have tm := Times_ev (a := [(m : Int)]) (b := [(n : Int)]) (limb_ok (by omega)) (limb_ok (by omega)) (by simp) (by simp)
  rw [limb_val, limb_val] at tm
  have w : wrap64 (expOf a + expOf b) = expOf a + expOf b := by unfold wrap64; omega
  simp only [abacusref05_product.f, abacusref05_product.b0, w]
  exact Ev.bind tm (Ev.now _)
theorem prod_lim {a b : Int} (ha : U a) (hb : U b) (fa : fin a) (fb : fin b) : (manOf a).toNat * (manOf b).toNat < B 4096 ∧ -2148 ≤ expOf a + expOf b ∧ expOf a + expOf b ≤ 1942 ∧
    (manOf a).toNat * (manOf b).toNat * 2 ^ ((expOf a + 1074).toNat + (expOf b + 1074).toNat) = uni (plc a) * uni (plc b) := by
  obtain ⟨m, am, rm, um, e0, e1⟩ := parts' ha fa
  obtain ⟨n, bn, rn, un, f0, f1⟩ := parts' hb fb
  rw [am, bn, Int.toNat_natCast, Int.toNat_natCast, um, un]
  refine ⟨pow_B' (n := 106) (Nat.lt_of_lt_of_le (Nat.mul_lt_mul'' rm rn) (by decide)) (by omega), by omega, by omega, ?_⟩
  rw [Nat.pow_add]
  ac_rfl
theorem both_3 {a b c : Int} (ha : U a) (hb : U b) : Both 3 a b c := by
  obtain ⟨K, hK⟩ : ∃ K, K = 1074 := ⟨_, rfl⟩
  obtain ⟨d, n, e1, r1⟩ := mul_tot (c := c) hK ha hb
  obtain ⟨d', e2, r2⟩ := rMul_ev hK ha hb
  obtain rfl := r1.unique r2
  have hd := mulR_U' r1
  have hans : Ev (fun k _ _ => abacusref05_answer.f k 3 a b c) d := by
    simp only [abacusref05_answer.f, abacusref05_answer.b0]
    exact Ev_neg (by decide) (Ev_neg (by decide) (Ev_pos (by decide) (Ev.bind e2 (Ev.now _))))
  refine ⟨_, soft_told (.inr (.inr (.inl ⟨rfl, e1⟩))), told_two (by decide) (by decide) hans hd ha hb (by decide) (by decide) ?_⟩
  by_cases hf : fin a ∧ fin b
  · left
    obtain ⟨fa, fb⟩ := hf
    obtain ⟨d', e3, r3⟩ := mul_fl (c := c) hK ha hb fa fb
    obtain ⟨rfl, rfl⟩ := Prod.mk.inj (Ev.one e1 e3)
    have na := fin_cls.1 fa
    have nb := fin_cls.1 fb
    unfold MulR at r1
    rw [if_neg (by omega), if_neg (by omega)] at r1
    obtain ⟨p, rfl, hn⟩ := r1
    rw [if_neg (by omega)] at hn
    have hV : (sval a * sval b).natAbs = uni (plc a) * uni (plc b) := by rw [sval, sval, sv_prod, sv_abs]
    rw [hV]
    obtain ⟨hl, he0, he1, hX⟩ := prod_lim ha hb fa fb
    refine ⟨fa, fb, fun h => absurd h (by decide), put_cls hn.top, ?_⟩
    have hres : Ev (fun k _ _ => abacusref05_result.f k 3 a b c) (sgn a != sgn b, lim ((manOf a).toNat * (manOf b).toNat), [1], expOf a + expOf b) := by
      simp only [abacusref05_result.f, abacusref05_result.b0]
      exact Ev_neg (by decide) (Ev_neg (by decide) (Ev_pos (by decide) (Ev_bind_eq (of_eq ha) (Ev_bind_eq (of_eq hb) (Ev.bind (prod_ev ha hb fa fb) (Ev.now _))))))
    have ea := exp_range fa
    have eb := exp_range fb
    exact rflags_fin (cc := 1) (x := (expOf a + 1074).toNat + (expOf b + 1074).toNat) (y := K) (by decide) hres hn (Nat.pow_pos (by decide)) (ok_lim _) ok_one (len4 hl) (by simp) (val_lim _) val_one ⟨by omega, by omega⟩ (by omega) (by rw [Nat.mul_one]; exact hX) (by rw [Nat.mul_one, Nat.one_mul]) (by decide) (fun _ => rfl)
  · right
    obtain ⟨d', n', e3, r3⟩ := mul_sp (op := 3) (c := c) ha hb hf
    obtain ⟨rfl, rfl⟩ := Prod.mk.inj (Ev.one e1 e3)
    exact ⟨fun h => hf ⟨h.1, h.2.1⟩, r3, fun x y => absurd ⟨x, y⟩ hf⟩
theorem divR_U' {K : Nat} {a b d : Int} (h : DivR K a b d) : U d := by
  unfold DivR at h
  by_cases h1 : cls a = 4 ∨ cls b = 4
  · rw [if_pos h1] at h; subst h; exact U_nan
  rw [if_neg h1] at h
  by_cases h2 : cls a = cls b ∧ (cls a = 3 ∨ cls a = 0)
  · rw [if_pos h2] at h; subst h; exact U_nan
  rw [if_neg h2] at h
  obtain ⟨p, rfl, h4⟩ := h
  refine U_put _ ?_
  by_cases h5 : cls a = 3 ∨ cls b = 0
  · rw [if_pos h5] at h4; omega
  rw [if_neg h5] at h4
  by_cases h6 : cls a = 0 ∨ cls b = 3
  · rw [if_pos h6] at h4; omega
  rw [if_neg h6] at h4; exact h4.top
theorem both_4 {a b c : Int} (ha : U a) (hb : U b) : Both 4 a b c := by
  obtain ⟨K, hK⟩ : ∃ K, K = 1074 := ⟨_, rfl⟩
  obtain ⟨d, n, e1, r1⟩ := div_tot (c := c) hK ha hb
  obtain ⟨d', e2, r2⟩ := rDiv_ev hK ha hb
  obtain rfl := r1.unique r2
  have hd := divR_U' r1
  have hans : Ev (fun k _ _ => abacusref05_answer.f k 4 a b c) d := by
    simp only [abacusref05_answer.f, abacusref05_answer.b0]
    exact Ev_neg (by decide) (Ev_neg (by decide) (Ev_neg (by decide) (Ev_pos (by decide) (Ev.bind e2 (Ev.now _)))))
  refine ⟨_, soft_told (.inr (.inr (.inr (.inl ⟨rfl, e1⟩)))), told_two (by decide) (by decide) hans hd ha hb (by decide) (by decide) ?_⟩
  by_cases hf : fin a ∧ fin b ∧ cls b ≠ 0
  · left
    obtain ⟨fa, fb, zb⟩ := hf
    have b0 : plc b ≠ 0 := fun h => zb (cls_zero.2 h)
    obtain ⟨p, e3, hn⟩ := div_fl (c := c) hK ha hb fa fb b0
    obtain ⟨rfl, rfl⟩ := Prod.mk.inj (Ev.one e1 e3)
    obtain ⟨m, am, rm, um, f0, f1⟩ := parts' ha fa
    obtain ⟨q, bq, rq, uq, g0, g1⟩ := parts' hb fb
    have hY : 0 < uni (plc b) := Nat.pos_of_ne_zero fun h => b0 (uni_zero_iff.1 h)
    refine ⟨fa, fb, fun _ => zb, put_cls hn.top, ?_⟩
    have hres : Ev (fun k _ _ => abacusref05_result.f k 4 a b c) (sgn a != sgn b, [manOf a], [manOf b], expOf a - expOf b) := by
      simp only [abacusref05_result.f, abacusref05_result.b0]
      have w : wrap64 (expOf a - expOf b) = expOf a - expOf b := by unfold wrap64; omega
      refine Ev_neg (by decide) (Ev_neg (by decide) (Ev_neg (by decide) (Ev_pos (by decide) (Ev_bind_eq (a := (sgn a != sgn b, [manOf a], [manOf b], expOf a - expOf b)) ?_ (Ev.now _)))))
      unfold abacusref05_ratio.f abacusref05_ratio.b0
      rw [of_eq ha, of_eq hb, Option.bind_some, Option.bind_some, w]
    rw [am, bq] at hres
    exact rflags_fin (cc := 1) (x := (expOf a + 1074).toNat + K) (y := (expOf b + 1074).toNat) (by decide) hres hn hY (limb_ok (by omega)) (limb_ok (by omega)) (by simp) (by simp) limb_val limb_val ⟨by omega, by omega⟩ (by omega) (by rw [Nat.mul_one, um, Nat.pow_add, Nat.mul_assoc]) (by rw [Nat.mul_one, uq]) (by decide) (fun _ => rfl)
  · right
    obtain ⟨d', n', e3, r3⟩ := div_sp (c := c) ha hb hf
    obtain ⟨rfl, rfl⟩ := Prod.mk.inj (Ev.one e1 e3)
    exact ⟨fun h => hf ⟨h.1, h.2.1, h.2.2 rfl⟩, r3, fun _ _ => rfl⟩
theorem fma_sum {a b c : Int} {K L : Nat} (hK : K = 1074) (hL : L = 1852) (ha : U a) (hb : U b) (hc : U c) (fa : fin a) (fb : fin b) (fc : fin c) :
    ∃ (r : Bool) (Z : Nat) (g : Int) (A : Nat), Ev (fun k _ _ => abacusref05_sum.f k (sgn a != sgn b) (lim ((manOf a).toNat * (manOf b).toNat)) [1] (expOf a + expOf b) (sgn c) [manOf c] [1] (expOf c)) (r, lim Z, [1], g) ∧ Z < B 4096 ∧ -4000 ≤ g ∧ g ≤ 4000 ∧ (A : Int) - ((K + L : Nat) : Int) = g + 1074 ∧
    Z * 2 ^ A = (sval a * sval b + sval c * ((2 ^ K : Nat) : Int)).natAbs * 2 ^ L ∧ (sval a * sval b + sval c * ((2 ^ K : Nat) : Int) ≠ 0 → r = decide (sval a * sval b + sval c * ((2 ^ K : Nat) : Int) < 0)) := by
  obtain ⟨m, am, rm, um, e0, e1⟩ := parts' ha fa
  obtain ⟨n, bn, rn, un, f0, f1⟩ := parts' hb fb
  obtain ⟨o, co, ro, uo, g0, g1⟩ := parts' hc fc
  rw [am, bn, co, Int.toNat_natCast, Int.toNat_natCast]
  have mn : m * n < 2 ^ 106 := Nat.lt_of_lt_of_le (Nat.mul_lt_mul'' rm rn) (by decide)
  have mn2 : m * n < 2 ^ 110 := Nat.lt_of_lt_of_le mn (by decide)
  have lmn : (lim (m * n)).length ≤ 64 := by
    refine (lim_len_le _ 64).2 (Nat.lt_of_lt_of_le (show m * n < B 2 from ?_) (B_mono (by decide)))
    rw [B_two]
    exact Nat.lt_of_lt_of_le mn (by decide)
  obtain ⟨r, Z, g, es, hs⟩ := sum_ev (s := (sgn a != sgn b)) (t := sgn c) (den := [1]) (ns := [1]) (e := expOf a + expOf b) (f := expOf c) (ok_lim (m * n)) (limb_ok (m := o) (by omega)) lmn (by simp) (val_lim _) limb_val mn2 (m110 ro) (by omega) (by omega)
  have g2 := hs.g0
  have g3 := hs.g1
  have hv := fma_val (v := sval a * sval b + sval c * ((2 ^ K : Nat) : Int)) (sa := sgn a) (sb := sgn b) (sc := sgn c) (m := m) (n := n) (o := o) (i := (expOf a + 1074).toNat) (j := (expOf b + 1074).toNat) (l := (expOf c + 1074).toNat) (K := K) (L := L) (by rw [sval, sval, sval, um, un, uo]) (by omega) (by omega) hs.v
  obtain ⟨q1, q2, q3⟩ := sign_sum (Nat.pow_pos (by decide)) hv
  obtain ⟨vz, vn⟩ := neg_scale (v := sval a * sval b + sval c * ((2 ^ K : Nat) : Int)) (Q := 2 ^ L) (Nat.pow_pos (by decide))
  refine ⟨r, Z, g, (g + 4000).toNat, es, hs.lim, g2, g3, by omega, ?_, fun k => ?_⟩
  · rw [q1, Int.natAbs_mul, Int.natAbs_natCast]
  · rw [q2 (fun h => k (vz.1 h))]
    exact decide_eq_decide.2 vn
theorem fmaR_U' {K : Nat} {a b c d : Int} (hc : U c) (h : FmaR K a b c d) : U d := by
  unfold FmaR at h
  repeat' split at h
  all_goals first | (subst h; exact U_nan) | (subst h; exact hc) | (subst h; exact U_put _ (Nat.le_refl _)) | (obtain ⟨s, p, rfl, k1, _⟩ := h; exact U_put s k1.top)
/-- The flags of three operands that aren't all finite. -/
def N3 (a b c d n : Int) : Prop := if cls a = 4 ∨ cls b = 4 ∨ cls c = 4 then n = 0 else if cls d = 4 then n = 1 else n = 0
theorem fma_sp {a b c : Int} (ha : U a) (hb : U b) (hc : U c) (hf : ¬ (fin a ∧ fin b ∧ fin c)) : ∃ d f, Ev (fun k _ _ => soft_fma.f k a b c) (d, f) ∧ N3 a b c d f := by
  have head : ∀ (w : Bool) d f, w = decide (cls a = 3 ∨ cls b = 3) → Ev (fun k _ _ => soft_fma.l15 k c w (sgn a) (cls a) (manOf a) (expOf a) (sgn b) (cls b) (manOf b) (expOf b) (sgn c) (cls c) (manOf c) (expOf c)) (d, f) → Ev (fun k _ _ => soft_fma.f k a b c) (d, f) := by
    intro w d f hw h
    simp only [soft_fma.f, soft_fma.b0]
    refine Ev_bind_eq (Decode_eq ha) (Ev_bind_eq (Decode_eq hb) (Ev_bind_eq (Decode_eq hc) ?_))
    dsimp only
    by_cases ia : cls a = 3
    · rw [hw, decide_eq_true (.inl ia)] at h
      exact Ev_pos ia h
    · rw [hw, show decide (cls a = 3 ∨ cls b = 3) = decide (cls b = 3) from decide_eq_decide.2 ⟨fun h => h.resolve_left ia, .inr⟩] at h
      exact Ev_neg ia h
  by_cases na : cls a = 4
  · exact ⟨9221120237041090560, 0, head _ _ _ rfl (by simp only [soft_fma.l15, soft_fma.b15]; exact Ev_pos na (Ev_some rfl)), by unfold N3; rw [if_pos (.inl na)]⟩
  by_cases nb : cls b = 4
  · exact ⟨9221120237041090560, 0, head _ _ _ rfl (by simp only [soft_fma.l15, soft_fma.b15]; exact Ev_neg na (Ev_pos nb (Ev_some rfl))), by unfold N3; rw [if_pos (.inr (.inl nb))]⟩
  by_cases nc : cls c = 4
  · exact ⟨9221120237041090560, 0, head _ _ _ rfl (by simp only [soft_fma.l15, soft_fma.b15]; exact Ev_neg na (Ev_neg nb (Ev_pos nc (Ev_some rfl)))), by unfold N3; rw [if_pos (.inr (.inr nc))]⟩
  have hnn : ¬ (cls a = 4 ∨ cls b = 4 ∨ cls c = 4) := by rintro (h | h | h); exact na h; exact nb h; exact nc h
  have inv : N3 a b c 9221120237041090560 1 := by unfold N3; rw [if_neg hnn, if_pos cls_nan]
  have okn : ∀ {d : Int}, cls d ≠ 4 → N3 a b c d 0 := fun h => by unfold N3; rw [if_neg hnn, if_neg h]
  by_cases wild : cls a = 3 ∨ cls b = 3
  · have hw : true = decide (cls a = 3 ∨ cls b = 3) := (decide_eq_true wild).symm
    by_cases za : cls a = 0
    · exact ⟨9221120237041090560, 1, head true _ _ hw (by simp only [soft_fma.l15, soft_fma.b15]; exact Ev_neg na (Ev_neg nb (Ev_neg nc (Ev_pos (by simp) (Ev_pos za (Ev_bind_eq rfl (Ev_some rfl))))))), inv⟩
    by_cases zb : cls b = 0
    · exact ⟨9221120237041090560, 1, head true _ _ hw (by simp only [soft_fma.l15, soft_fma.b15]; exact Ev_neg na (Ev_neg nb (Ev_neg nc (Ev_pos (by simp) (Ev_neg za (Ev_pos zb (Ev_bind_eq rfl (Ev_some rfl)))))))), inv⟩
    by_cases ic : cls c = 3
    · by_cases hs : sgn c = (sgn a != sgn b)
      · exact ⟨put (sgn a != sgn b) inf, 0, head true _ _ hw (by simp only [soft_fma.l15, soft_fma.b15, soft_fma.l3999, soft_fma.b3999]; exact Ev_neg na (Ev_neg nb (Ev_neg nc (Ev_pos (by simp) (Ev_neg za (Ev_neg zb (Ev_pos (by simp) (Ev_pos ic (Ev_neg (by rw [hs]; simp) (Ev_pos (by simp) (Ev_bind_eq (withSign_inf _) (Ev_some rfl)))))))))))), okn (cls_inf _)⟩
      · exact ⟨9221120237041090560, 1, head true _ _ hw (by simp only [soft_fma.l15, soft_fma.b15, soft_fma.l3999, soft_fma.b3999]; exact Ev_neg na (Ev_neg nb (Ev_neg nc (Ev_pos (by simp) (Ev_neg za (Ev_neg zb (Ev_pos (by simp) (Ev_pos ic (Ev_pos (by simpa using hs) (Ev_bind_eq rfl (Ev_some rfl))))))))))), inv⟩
    · exact ⟨put (sgn a != sgn b) inf, 0, head true _ _ hw (by simp only [soft_fma.l15, soft_fma.b15, soft_fma.l3999, soft_fma.b3999]; exact Ev_neg na (Ev_neg nb (Ev_neg nc (Ev_pos (by simp) (Ev_neg za (Ev_neg zb (Ev_pos (by simp) (Ev_neg ic (Ev_neg (by simp) (Ev_pos (by simp) (Ev_bind_eq (withSign_inf _) (Ev_some rfl)))))))))))), okn (cls_inf _)⟩
  · have hw : false = decide (cls a = 3 ∨ cls b = 3) := (decide_eq_false wild).symm
    have ic : cls c = 3 := Decidable.byContradiction fun h => hf ⟨fin_cls.2 ⟨by omega, na⟩, fin_cls.2 ⟨by omega, nb⟩, fin_cls.2 ⟨h, nc⟩⟩
    exact ⟨c, 0, head false _ _ hw (by simp only [soft_fma.l15, soft_fma.b15, soft_fma.l3999, soft_fma.b3999]; exact Ev_neg na (Ev_neg nb (Ev_neg nc (Ev_neg (by simp) (Ev_neg (by simp) (Ev_neg (by simp) (Ev_neg (by simp) (Ev_pos ic (Ev_some rfl)))))))) ), okn nc⟩
theorem both_6 {a b c : Int} (ha : U a) (hb : U b) (hc : U c) : Both 6 a b c := by
  obtain ⟨K, hK⟩ : ∃ K, K = 1074 := ⟨_, rfl⟩
  obtain ⟨L, hL⟩ : ∃ L, L = 1852 := ⟨_, rfl⟩
  obtain ⟨d, n, e1, r1⟩ := fma_tot hK ha hb hc
  obtain ⟨d', e2, r2⟩ := rFma_ev hK ha hb hc
  obtain rfl := r1.unique r2
  have hd := fmaR_U' hc r1
  have hans : Ev (fun k _ _ => abacusref05_answer.f k 6 a b c) d := by
    simp only [abacusref05_answer.f, abacusref05_answer.b0]
    exact Ev_neg (by decide) (Ev_neg (by decide) (Ev_neg (by decide) (Ev_neg (by decide) (Ev_neg (by decide) (Ev.bind e2 (Ev.now _))))))
  refine ⟨_, soft_told (.inr (.inr (.inr (.inr (.inr ⟨rfl, e1⟩))))), ?_⟩
  refine told_ev (us := [a, b, c]) (by decide) (by decide) hans hd hb rfl (by intro x hx; simp at hx; rcases hx with rfl | rfl | rfl; exact ha; exact hb; exact hc) ?_ ?_
  · rintro ⟨x, hx, h4⟩
    have hn : cls a = 4 ∨ cls b = 4 ∨ cls c = 4 := by simp at hx; rcases hx with rfl | rfl | rfl; exact .inl h4; exact .inr (.inl h4); exact .inr (.inr h4)
    obtain ⟨d', n', e3, r3⟩ := fma_sp ha hb hc (fun h => hn.elim (fin_cls.1 h.1).2 (fun k => k.elim (fin_cls.1 h.2.1).2 (fin_cls.1 h.2.2).2))
    obtain ⟨rfl, rfl⟩ := Prod.mk.inj (Ev.one e1 e3)
    unfold N3 at r3
    rwa [if_pos hn] at r3
  · intro hn
    have na : cls a ≠ 4 := hn a (by simp)
    have nb : cls b ≠ 4 := hn b (by simp)
    have nc : cls c ≠ 4 := hn c (by simp)
    have hall : ([a, b, c].all fun x => decide (fin x)) = decide (fin a ∧ fin b ∧ fin c) := by
      by_cases fa : fin a <;> by_cases fb : fin b <;> by_cases fc : fin c <;> simp [fa, fb, fc]
    rw [hall]
    rw [if_neg (c := (6 : Int) = 4 ∧ cls b = 0 ∧ decide (fin a ∧ fin b ∧ fin c) = true) (fun h => absurd h.1 (by decide))]
    by_cases hf : fin a ∧ fin b ∧ fin c
    · obtain ⟨fa, fb, fc⟩ := hf
      obtain ⟨d', e3, r3⟩ := fma_fl hK ha hb hc fa fb fc
      obtain ⟨rfl, rfl⟩ := Prod.mk.inj (Ev.one e1 e3)
      obtain ⟨s, p, rfl, hn', h1, h2⟩ := r3
      obtain ⟨r, Z, g, A, es, hZ, g0, g1, hab, hX, hr⟩ := fma_sum hK hL ha hb hc fa fb fc
      rw [if_neg (put_cls hn'.top), if_neg (by rw [decide_eq_true ⟨fa, fb, fc⟩]; simp)]
      have hres : Ev (fun k _ _ => abacusref05_result.f k 6 a b c) (r, lim Z, [1], g) := by
        simp only [abacusref05_result.f, abacusref05_result.b0]
        exact Ev_neg (by decide) (Ev_neg (by decide) (Ev_neg (by decide) (Ev_neg (by decide) (Ev_bind_eq (of_eq ha) (Ev_bind_eq (of_eq hb) (Ev.bind (prod_ev ha hb fa fb) (Ev_bind_eq (of_eq hc) (Ev.bind es (Ev.now _)))))))))
      exact rflags_fin (cc := 2 ^ L) (x := A) (y := K + L) (by decide) hres hn' (Nat.pow_pos (by decide)) (ok_lim Z) ok_one (len4 hZ) (by simp) (val_lim Z) val_one ⟨by omega, by omega⟩ hab hX (by rw [Nat.one_mul, Nat.pow_add]) (Nat.pow_pos (by decide)) (fun h => by rw [h1 (by omega), hr (by omega)])
    · obtain ⟨d', n', e3, r3⟩ := fma_sp ha hb hc hf
      obtain ⟨rfl, rfl⟩ := Prod.mk.inj (Ev.one e1 e3)
      unfold N3 at r3
      rw [if_neg (by rintro (k | k | k); exact na k; exact nb k; exact nc k)] at r3
      by_cases h4 : cls d = 4
      · rw [if_pos h4] at r3 ⊢; exact r3
      · rw [if_neg h4] at r3 ⊢
        rw [if_pos (decide_eq_false hf)]; exact r3
theorem flags5_ev {a b c d : Int} {K : Nat} (hK : K = 1074) (ha : U a) (fa : fin a) (hs : cls a ≠ 0 → sgn a = false) (hd : U d) (fd : fin d) :
    Ev (fun k _ _ => abacusref05_flags.f k 5 a b c d) (if cls a = 0 ∨ uni (plc d) * uni (plc d) = uni (plc a) * 2 ^ K then 0 else 16) := by
  have pr := prod_ev hd hd fd fd
  obtain ⟨hl, he0, he1, hX⟩ := prod_lim hd hd fd fd
  have ed := exp_range fd
  have ie := infinite_eq hd
  rw [decide_eq_false (fin_cls.1 fd).1] at ie
  have ise := is_ev (d := a) (s := (sgn d != sgn d)) (a := (expOf d + 1074).toNat + (expOf d + 1074).toNat) (b := K) (e := expOf d + expOf d) ha fa (ok_lim ((manOf d).toNat * (manOf d).toNat)) ok_one (len4 hl) (by simp) (val_lim _) val_one ⟨by omega, by omega⟩ (by omega)
  obtain ⟨N, hN⟩ : ∃ N, N = (manOf d).toNat * (manOf d).toNat := ⟨_, rfl⟩
  rw [hX, Nat.one_mul, ← hN] at ise
  rw [← hN] at hX
  have tail : Ev (fun k _ _ => abacusref05_flags.l245 k 5 a d) (if cls a = 0 ∨ uni (plc d) * uni (plc d) = uni (plc a) * 2 ^ K then 0 else 16) := by
    simp only [abacusref05_flags.l245, abacusref05_flags.b245, abacusref05_flags.l31, abacusref05_flags.b31, abacusref05_flags.l127, abacusref05_flags.b127]
    rw [hN] at ise
    refine Ev_bind_eq (of_eq hd) (Ev.bind pr (Ev.bind ise ?_))
    rw [← hN]
    by_cases hx : N = 0 ∧ plc a = 0 ∨ N ≠ 0 ∧ plc a ≠ 0 ∧ sgn a = (sgn d != sgn d) ∧ uni (plc d) * uni (plc d) = uni (plc a) * 2 ^ K
    · rw [decide_eq_true hx, if_pos (hx.elim (fun h => .inl (cls_zero.2 h.2)) (fun h => .inr h.2.2.2))]
      exact Ev_pos rfl (Ev_bind_eq ie (Ev_neg (by simp) (Ev_neg (by simp) (Ev.now _))))
    · rw [decide_eq_false hx]
      refine Ev_neg (by simp) (Ev_bind_eq (zero_eq ha) ?_)
      by_cases h0 : cls a = 0
      · rw [decide_eq_true h0, if_pos (.inl h0)]
        exact Ev_bind_eq ie (Ev_neg (by simp) (Ev_neg (by simp) (Ev.now _)))
      · rw [decide_eq_false h0, if_neg]
        · exact Ev_bind_eq ie (Ev_neg (by simp) (Ev_pos (by simp) (Ev_neg (by simp) (Ev_some (by kernel_rfl)))))
        · rintro (h | h)
          · exact h0 h
          · have pa : plc a ≠ 0 := fun k => h0 (cls_zero.2 k)
            have ua : uni (plc a) ≠ 0 := fun k => pa (uni_zero_iff.1 k)
            have hp : uni (plc a) * 2 ^ K ≠ 0 := Nat.mul_ne_zero ua (Nat.pos_iff_ne_zero.1 (Nat.pow_pos (by decide)))
            refine hx (.inr ⟨fun k => ?_, pa, by rw [hs h0]; cases sgn d <;> rfl, h⟩)
            rw [k, Nat.zero_mul] at hX
            exact hp (by rw [← h, ← hX])
  simp only [abacusref05_flags.f, abacusref05_flags.b0]
  refine Ev_pos (by decide) (Ev_bind_eq (zero_eq ha) ?_)
  by_cases h0 : cls a = 0
  · rw [decide_eq_true h0]
    exact Ev_neg (by simp) tail
  · rw [decide_eq_false h0]
    exact Ev_pos (by simp) (Ev_bind_eq (negative_eq a) (Ev_neg (by rw [hs h0]; simp) tail))
theorem both_5 {a b c : Int} (ha : U a) (hb : U b) : Both 5 a b c := by
  obtain ⟨K, hK⟩ : ∃ K, K = 1074 := ⟨_, rfl⟩
  have dec := Decode_eq ha
  obtain ⟨d, e2, r2⟩ := rSqrt_ev hK ha
  have hans : Ev (fun k _ _ => abacusref05_answer.f k 5 a b c) d := by
    simp only [abacusref05_answer.f, abacusref05_answer.b0]
    exact Ev_neg (by decide) (Ev_neg (by decide) (Ev_neg (by decide) (Ev_neg (by decide) (Ev_pos (by decide) (Ev.bind e2 (Ev.now _))))))
  have hU : ∀ x ∈ [a], U x := by intro x hx; simp at hx; subst hx; exact ha
  have nan_a : (∃ x ∈ [a], cls x = 4) → cls a = 4 := by rintro ⟨x, hx, h⟩; simp at hx; subst hx; exact h
  have hall : ([a].all fun x => decide (fin x)) = decide (fin a) := by simp
  have soft : ∀ {r : Int × Int}, Ev (fun k _ _ => soft_sqrt.f k a b c) r → Ev (fun k _ _ => soft_Told.f k 5 a b c) (r.1, r.2, 0) := fun h => soft_told (.inr (.inr (.inr (.inr (.inl ⟨rfl, h⟩)))))
  unfold SqrtR at r2
  by_cases h1 : cls a = 4
  · rw [if_pos h1] at r2
    subst r2
    exact ⟨_, soft (r := (9221120237041090560, 0)) (by simp only [soft_sqrt.f, soft_sqrt.b0]; exact Ev_bind_eq dec (Ev_pos h1 (Ev.now _))), told_ev (us := [a]) (by decide) (by decide) hans U_nan hb rfl hU (fun _ => rfl) (fun h => absurd h1 (h a (by simp)))⟩
  rw [if_neg h1] at r2
  have o4 : ∀ (P : Prop), ¬ ((5 : Int) = 4 ∧ P) := fun P h => absurd h.1 (by decide)
  by_cases h2 : cls a = 0
  · rw [if_pos h2] at r2
    subst r2
    have fa : fin d := fin_cls.2 ⟨by omega, h1⟩
    have fl := flags5_ev (b := b) (c := c) hK ha fa (fun h => absurd h2 h) ha fa
    rw [if_pos (.inl h2)] at fl
    refine ⟨_, soft (r := (d, 0)) (by simp only [soft_sqrt.f, soft_sqrt.b0]; exact Ev_bind_eq dec (Ev_neg h1 (Ev_pos h2 (Ev.now _)))), told_ev (us := [d]) (by decide) (by decide) hans ha hb rfl hU (fun _ => rfl) (fun h => ?_)⟩
    rw [if_neg h1, if_neg (o4 _), hall, if_neg (by rw [decide_eq_true fa]; simp)]
    exact fl
  rw [if_neg h2] at r2
  have a0 : plc a ≠ 0 := fun h => h2 (cls_zero.2 h)
  by_cases h3 : sgn a = true
  · rw [if_pos h3] at r2
    subst r2
    refine ⟨_, soft (r := (9221120237041090560, 1)) (by simp only [soft_sqrt.f, soft_sqrt.b0]; exact Ev_bind_eq dec (Ev_neg h1 (Ev_neg h2 (Ev_pos h3 (Ev_bind_eq (a := (9221120237041090560, 1)) rfl (Ev.now _)))))), told_ev (us := [a]) (by decide) (by decide) hans U_nan hb rfl hU (fun h => absurd (nan_a h) h1) (fun h => ?_)⟩
    rw [if_pos cls_nan]
  rw [if_neg h3] at r2
  by_cases h4 : cls a = 3
  · rw [if_pos h4] at r2
    subst r2
    refine ⟨_, soft (r := (d, 0)) (by simp only [soft_sqrt.f, soft_sqrt.b0]; exact Ev_bind_eq dec (Ev_neg h1 (Ev_neg h2 (Ev_neg h3 (Ev_pos h4 (Ev.now _)))))), told_ev (us := [d]) (by decide) (by decide) hans ha hb rfl hU (fun _ => rfl) (fun h => ?_)⟩
    rw [if_neg h1, if_neg (o4 _), hall, if_pos (decide_eq_false (fun k => (fin_cls.1 k).1 h4))]
  rw [if_neg h4] at r2
  have fa : fin a := fin_cls.2 ⟨h4, h1⟩
  have hs : sgn a = false := by simpa using h3
  obtain ⟨p, f, e1, rn, hf, hfe⟩ := sqrt_fl (b := b) (c := c) hK ha fa hs a0
  obtain ⟨q, rfl, rq⟩ := r2
  obtain rfl := root_unique rn rq
  obtain ⟨u1, u2, u3⟩ := PU false (Nat.le_of_lt rn.top)
  have u1' : U (p : Int) := u1
  have u2' : plc (p : Int) = p := u2
  have fp : fin (p : Int) := plc_fin.2 (by rw [u2']; exact rn.top)
  have fl := flags5_ev (b := b) (c := c) hK ha fa (fun _ => hs) u1' fp
  rw [u2'] at fl
  refine ⟨_, soft e1, told_ev (us := [a]) (by decide) (by decide) hans u1' hb rfl hU (fun h => absurd (nan_a h) h1) (fun h => ?_)⟩
  rw [if_neg (fin_cls.1 fp).2, if_neg (o4 _), hall, if_neg (by rw [decide_eq_true fa]; simp)]
  rcases hf with rfl | rfl
  · rwa [if_pos (.inr (hfe.1 rfl))] at fl
  · rwa [if_neg (by rintro (k | k); exact h2 k; exact absurd (hfe.2 k) (by decide))] at fl
theorem both_out {op a b c : Int} (h : op < 1 ∨ 6 < op) : Both op a b c := by
  refine ⟨(0, 0, 50), ?_, ?_⟩
  · simp only [soft_Told.f, soft_Told.b0]
    refine Ev_bind_eq (a := ()) rfl ?_
    rcases h with h | h
    · exact Ev_pos h (Ev.now _)
    · exact Ev_neg (by omega) (Ev_pos (by omega) (Ev.now _))
  · simp only [abacusref05_Told.f, abacusref05_Told.b0]
    rcases h with h | h
    · exact Ev_pos h (Ev.now _)
    · exact Ev_neg (by omega) (Ev_pos h (Ev.now _))
theorem told_all {op a b c : Int} (ha : U a) (hb : U b) (hc : U c) : Ev (fun k _ _ => abacuslaw05_told.f k op a b c) true := by
  have hB : Both op a b c := by
    by_cases h : op < 1 ∨ 6 < op
    · exact both_out h
    · have : op = 1 ∨ op = 2 ∨ op = 3 ∨ op = 4 ∨ op = 5 ∨ op = 6 := by omega
      rcases this with rfl | rfl | rfl | rfl | rfl | rfl
      · exact both_1 ha hb
      · exact both_2 ha hb
      · exact both_3 ha hb
      · exact both_4 ha hb
      · exact both_5 ha hb
      · exact both_6 ha hb hc
  obtain ⟨r, h1, h2⟩ := hB
  simp only [abacuslaw05_told.f, abacuslaw05_told.b0]
  exact Ev.bind h2 (Ev.bind h1 (Ev_pos rfl (Ev_pos rfl (Ev_some (by simp)))))
theorem SoftTolds {n : Int} {A C D : List Int} {other : Int} (hn : 0 ≤ n ∧ n ≤ 140737488351232) (h : ∀ j, 0 ≤ j → j < n → U (rd A j) ∧ U (rd C j) ∧ U (rd D j)) (ho : -9223372036854775808 ≤ other ∧ other < 9223372036854775808) : ∃ k, abacuslaw05_SoftTolds.f k n A C D other = some true := by
  refine Ev.rounds ?_
  simp only [abacuslaw05_SoftTolds.f, abacuslaw05_SoftTolds.b0]
  obtain ⟨N, rfl⟩ := Int.eq_ofNat_of_zero_le hn.1
  refine Ev.bind (told_all ⟨by decide, by decide⟩ ⟨by decide, by decide⟩ ⟨by decide, by decide⟩) (Ev_neg (by simp) ?_)
  refine Ev_in (g := fun k m _ => abacuslaw05_SoftTolds.l117 k m (N : Int) A C D other 0) ?_
  have go (d : Nat) : ∀ i : Nat, i + d = N → Ev (fun k m _ => abacuslaw05_SoftTolds.l117 k m (N : Int) A C D other (i : Int)) true := by
    induction d with
    | zero =>
      intro i hi
      refine Ev_succ ?_
      simp only [abacuslaw05_SoftTolds.l117, abacuslaw05_SoftTolds.b117]
      exact Ev_neg (by omega) (Ev.now _)
    | succ d ih =>
      intro i hi
      obtain ⟨ua, ub, uc⟩ := h i (by omega) (by omega)
      have e1 : wrap64 ((i : Int) + 1) = ((i + 1 : Nat) : Int) := by unfold wrap64; omega
      have next := ih (i + 1) (by omega)
      have inner (t : Nat) : ∀ j : Nat, j + t = 8 → Ev (fun k m p => abacuslaw05_SoftTolds.l14917 k (abacuslaw05_SoftTolds.l117 k m) p (N : Int) A C D other (i : Int) (j : Int)) true := by
        induction t with
        | zero =>
          intro j hj
          refine Ev_succ2 ?_
          simp only [abacuslaw05_SoftTolds.l14917, abacuslaw05_SoftTolds.b14917, abacuslaw05_SoftTolds.l1865, abacuslaw05_SoftTolds.b1865, e1]
          exact Ev_neg (by omega) (Ev_pos (by omega) (Ev_pos (by omega) (Ev.bind (told_all ua ub uc) (Ev_neg (by simp) next))))
        | succ t ih2 =>
          intro j hj
          have e2 : wrap64 ((j : Int) + 1) = ((j + 1 : Nat) : Int) := by unfold wrap64; omega
          have nx := ih2 (j + 1) (by omega)
          refine Ev_succ2 ?_
          simp only [abacuslaw05_SoftTolds.l14917, abacuslaw05_SoftTolds.b14917, e2]
          exact Ev_pos (by omega) (Ev_pos (by omega) (Ev_pos (by omega) (Ev.bind (told_all ua ub uc) (Ev_neg (by simp) nx))))
      refine Ev_succ ?_
      simp only [abacuslaw05_SoftTolds.l117, abacuslaw05_SoftTolds.b117]
      exact Ev_pos (by omega) (Ev_in2 (inner 8 0 rfl))
  exact go N 0 (by omega)
end Go.Proofs.YtobocamcoaeliaaGreatDoor.Pure
