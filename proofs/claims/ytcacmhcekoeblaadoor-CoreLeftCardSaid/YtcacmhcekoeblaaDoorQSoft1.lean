/- What the printed sums of soft compute on finite doubles, and the signed whole numbers that the laws of its chapter measure with. Conditions: patterns below 2^64. -/
import Derived.Test.YtcacmhcekoeblaaDoorQIeee2
import Derived.Test.YtcacmhcekoeblaaDoorQNat2
namespace Go.Proofs.YtcacmhcekoeblaaDoor.Soft1
open Go.RowKit Go.Proofs.YtcacmhcekoeblaaDoor.Lib Go.Proofs.YtcacmhcekoeblaaDoor.LibB Go.Proofs.YtcacmhcekoeblaaDoor.F Go.Proofs.YtcacmhcekoeblaaDoor.Nat1 Go.Proofs.YtcacmhcekoeblaaDoor.Nat2 Go.Proofs.YtcacmhcekoeblaaDoor.Bits Go.Proofs.YtcacmhcekoeblaaDoor.Ieee1 Go.Proofs.YtcacmhcekoeblaaDoor.Mag Go.Proofs.YtcacmhcekoeblaaDoor.Ieee2 Go.Proofs.YtcacmhcekoeblaaDoor.Rnd
open Go.Proofs.YtcacmhcekoeblaaDoorA (rd ln ln_eq mx mn shl shr wr wr_eq)
set_option linter.unusedVariables false
set_option linter.unusedSimpArgs false

/-! ### signed whole numbers -/
def sv (b : Bool) (n : Nat) : Int := if b then -(n : Int) else (n : Int)
/-- A finite double's value, counted in 2^-1074. -/
def sval (d : Int) : Int := sv (sgn d) (uni (plc d))
theorem sv_abs (b : Bool) (n : Nat) : (sv b n).natAbs = n := by unfold sv; cases b <;> simp
theorem sv_mul (b : Bool) (n m : Nat) : sv b (n * m) = sv b n * (m : Int) := by unfold sv; cases b <;> simp [Int.neg_mul]
theorem sv_zero (b : Bool) : sv b 0 = 0 := by unfold sv; cases b <;> rfl
theorem put_U {s : Bool} {p : Nat} (h : p ≤ inf) : U (put s p) ∧ plc (put s p) = p ∧ sgn (put s p) = s := by
  unfold inf at h
  unfold plc put U sgn
  cases s with
  | false => simp only [Bool.false_eq_true, if_false]; exact ⟨by omega, by omega, decide_eq_false (by omega)⟩
  | true => simp only [if_true]; exact ⟨by omega, by omega, decide_eq_true (by omega)⟩

/-! ### the measuring words -/
theorem lt_B' {x n k : Nat} (h : x < 2 ^ n) (hn : n ≤ 64 * k) : x < B k := by rw [B_two]; exact Nat.lt_of_lt_of_le h (Nat.pow_le_pow_right (by omega) hn)
theorem len_lim' {n : Nat} (h : n < B 4096) : (lim n).length ≤ 4096 := (lim_len_le n 4096).2 h
theorem ans_ok' {n : Nat} (h : n < B 4096) : ans n = (lim n, 0) := by rw [ans, if_pos h]
theorem shl_lim {a n : Nat} (ha : a < B 4096) (h : a * 2 ^ n < B 4096) (hn : n ≤ 262144) : Ev (fun k _ _ => nat_Shl.f k (lim a) (n : Int)) (lim (a * 2 ^ n), 0) := by
  have hs := nat_Shl_ev (a := lim a) (n := (n : Int)) (ok_lim a) (by have := len_lim' ha; omega) (by omega)
  have : shlAns (val (lim a)) (n : Int) = (lim (a * 2 ^ n), 0) := by
    rw [val_lim]
    unfold shlAns
    rw [if_pos ha, if_neg (by omega)]
    by_cases h0 : a = 0
    · rw [if_pos h0, h0, Nat.zero_mul, lim_zero]
    · rw [if_neg h0, if_neg (by omega), Int.toNat_natCast, ans_ok' h]
  rwa [this] at hs
theorem lift2 {m k : Nat} (hm : m < 9007199254740992) (hk : k ≤ 5000) : m * 2 ^ k < 2 ^ (53 + k) ∧ m * 2 ^ k < B 4096 := by
  have h1 : m * 2 ^ k < 2 ^ (53 + k) := by
    rw [Nat.pow_add]
    exact Nat.mul_lt_mul_of_pos_right hm (Nat.pow_pos (by omega))
  exact ⟨h1, lt_B' h1 (by omega)⟩
theorem pow_B {x n : Nat} (h : x < 2 ^ n) (hn : n ≤ 262144) : x < B 4096 := lt_B' h (by omega)
theorem man_any (d : Int) : 0 ≤ manOf d ∧ manOf d < 9007199254740992 := by
  unfold manOf
  by_cases h1 : cls d = 1
  · have h2 : d % 9223372036854775808 < 4503599627370496 := by
      unfold cls at h1
      repeat' split at h1
      all_goals omega
    rw [if_pos h1]
    omega
  · rw [if_neg h1]
    repeat' split
    all_goals omega
theorem cls_lt {d : Int} (h : fin d) : cls d ≠ 3 ∧ cls d ≠ 4 := by
  have := cls_fin (d := d)
  constructor <;> intro h2 <;> exact absurd h (this.1 (by omega))
theorem FromUint_man (d : Int) : nat_FromUint.f (manOf d) = some (lim (manOf d).toNat) := by
  have h := man_any d
  have := FromUint_lim (n := (manOf d).toNat) (by omega)
  rwa [Int.toNat_of_nonneg h.1] at this
theorem add_lim {x y : Nat} (h : x + y < B 4096) : Ev (fun k _ _ => nat_Add.f k (lim x) (lim y)) (lim (x + y), 0) := by
  have hx : x < B 4096 := Nat.lt_of_le_of_lt (Nat.le_add_right _ _) h
  have hy : y < B 4096 := Nat.lt_of_le_of_lt (Nat.le_add_left _ _) h
  have := nat_Add_ev (ok_lim x) (ok_lim y) (by have := len_lim' hx; omega) (by have := len_lim' hy; omega)
  rwa [val_lim, val_lim, ans2, if_pos ⟨hx, hy⟩, ans_ok' h] at this
theorem sub_lim {x y : Nat} (hx : x < B 4096) (h : y ≤ x) : Ev (fun k _ _ => nat_Sub.f k (lim x) (lim y)) (lim (x - y), 0) := by
  have hy := Nat.lt_of_le_of_lt h hx
  have := nat_Sub_ev (ok_lim x) (ok_lim y) (by have := len_lim' hx; omega) (by have := len_lim' hy; omega)
  rwa [val_lim, val_lim, subAns, ans2, if_pos ⟨hx, hy⟩, if_neg (Nat.not_lt.2 h)] at this
theorem cmp_lim {x y : Nat} (hx : x < B 4096) (hy : y < B 4096) : Ev (fun k _ _ => nat_Cmp.f k (lim x) (lim y)) (cmp x y) := by
  have := nat_Cmp_ev (ok_lim x) (ok_lim y) (by have := len_lim' hx; omega) (by have := len_lim' hy; omega)
  rwa [val_lim, val_lim] at this

/-! ### sums of terms -/
theorem aligned_ev {X Y a b : Nat} {ex ey e : Int} (hx : ex - e = (a : Int)) (hy : ey - e = (b : Int)) (hab : a = 0 ∨ b = 0) (ha : a ≤ 100000) (hb : b ≤ 100000) (hXB : X * 2 ^ a < B 4096) (hYB : Y * 2 ^ b < B 4096) :
    Ev (fun k _ _ => soft_aligned.f k (lim X) ex (lim Y) ey) (lim (X * 2 ^ a), lim (Y * 2 ^ b), e) := by
  simp only [soft_aligned.f, soft_aligned.b0, ln_eq]
  have gX : X < B 4096 := Nat.lt_of_le_of_lt (Nat.le_mul_of_pos_right _ (Nat.pow_pos (by omega))) hXB
  have gY : Y < B 4096 := Nat.lt_of_le_of_lt (Nat.le_mul_of_pos_right _ (Nat.pow_pos (by omega))) hYB
  have s1 := shl_lim gX hXB (by omega)
  have s2 := shl_lim gY hYB (by omega)
  clear hXB hYB gX gY
  by_cases h : ex > ey
  · obtain rfl : b = 0 := by omega
    refine Ev_pos h ?_
    rw [show wrap64 (ex - ey) = (a : Int) by unfold wrap64; omega]
    refine Ev.bind s1 (Ev_some ?_)
    rw [Nat.pow_zero, Nat.mul_one, show ey = e by omega]
  · obtain rfl : a = 0 := by omega
    refine Ev_neg h ?_
    rw [show wrap64 (ey - ex) = (b : Int) by unfold wrap64; omega]
    refine Ev.bind s2 (Ev_some ?_)
    rw [Nat.pow_zero, Nat.mul_one, show ex = e by omega]
theorem tplus_ev {sx sy : Bool} {X Y a b : Nat} {ex ey e : Int} (hx : ex - e = (a : Int)) (hy : ey - e = (b : Int)) (hab : a = 0 ∨ b = 0) (ha : a ≤ 100000) (hb : b ≤ 100000) (hB : X * 2 ^ a + Y * 2 ^ b < B 4096) :
    ∃ s Z e', Ev (fun k _ _ => soft_term_plus.f k sx (lim X) ex sy (lim Y) ey) (s, lim Z, e') ∧ sv s Z = sv sx (X * 2 ^ a) + sv sy (Y * 2 ^ b) ∧ (e' = e ∨ Z = 0) ∧ (Z = 0 → s = (sx && sy)) := by
  have hXB : X * 2 ^ a < B 4096 := Nat.lt_of_le_of_lt (Nat.le_add_right _ _) hB
  have hYB : Y * 2 ^ b < B 4096 := Nat.lt_of_le_of_lt (Nat.le_add_left _ _) hB
  have hal := aligned_ev hx hy hab ha hb hXB hYB
  have had := add_lim hB
  have hcm := cmp_lim hXB hYB
  have hs1 := fun h => sub_lim (x := X * 2 ^ a) (y := Y * 2 ^ b) hXB h
  have hs2 := fun h => sub_lim (x := Y * 2 ^ b) (y := X * 2 ^ a) hYB h
  clear hXB hYB hB
  simp only [soft_term_plus.f, soft_term_plus.b0, ln_eq]
  generalize X * 2 ^ a = x at *
  generalize Y * 2 ^ b = y at *
  by_cases hs : sx = sy
  · subst hs
    refine ⟨sx, x + y, e, Ev.bind hal (Ev_pos (by simp) (Ev.bind had (Ev_some rfl))), ?_, .inl rfl, fun _ => by cases sx <;> rfl⟩
    unfold sv; cases sx <;> simp <;> omega
  · have hne : ¬ (sx == sy) = true := by simp [hs]
    have c0 := cmp_zero x y
    have c1 := cmp_pos x y
    have c2 := cmp_neg x y
    have hand : (sx && sy) = false := by cases sx <;> cases sy <;> simp_all
    rcases Nat.lt_trichotomy x y with h | h | h
    · refine ⟨sy, y - x, e, Ev.bind hal (Ev_neg hne (Ev.bind hcm (Ev_neg (by omega) (Ev_neg (by rw [cmp_lt h]; decide) (Ev.bind (hs2 (by omega)) (Ev_some rfl)))))), ?_, .inl rfl, fun h0 => by omega⟩
      unfold sv; cases sx <;> cases sy <;> simp at hs ⊢ <;> omega
    · refine ⟨false, 0, 0, Ev.bind hal (Ev_neg hne (Ev.bind hcm (Ev_pos (c0.2 h) (Ev_some ?_)))), ?_, .inr rfl, fun _ => hand.symm⟩
      · rw [lim_zero]
      · unfold sv; cases sx <;> cases sy <;> simp at hs ⊢ <;> omega
    · refine ⟨sx, x - y, e, Ev.bind hal (Ev_neg hne (Ev.bind hcm (Ev_neg (by omega) (Ev_pos (by rw [cmp_gt h]) (Ev.bind (hs1 (by omega)) (Ev_some rfl)))))), ?_, .inl rfl, fun h0 => by omega⟩
      unfold sv; cases sx <;> cases sy <;> simp at hs ⊢ <;> omega

/-! ### the flags come out -/
theorem wrap_top (n : Int) : wrap64 n < 9223372036854775808 := by unfold wrap64; omega
theorem shl_tot {l : List Int} {n : Int} (h : ok l) (hl : l.length ≤ 35184372088832) : ∃ r, Ev (fun k _ _ => nat_Shl.f k l (wrap64 n)) r ∧ ok r.1 ∧ r.1.length ≤ 35184372088832 := by
  refine ⟨_, nat_Shl_ev h (by omega) (wrap_top n), ?_⟩
  unfold shlAns
  split
  · split
    · exact ⟨ok_nil, by simp⟩
    · split
      · exact ⟨ok_nil, by simp⟩
      · split
        · exact ⟨ok_nil, by simp⟩
        · unfold ans
          split
          · rename_i h1
            exact ⟨ok_lim _, by have := len_lim' h1; dsimp only; omega⟩
          · exact ⟨ok_nil, by simp⟩
  · exact ⟨ok_nil, by simp⟩
theorem mul_tot {l m : List Int} (h : ok l) (hl : l.length ≤ 35184372088832) (g : ok m) (gl : m.length ≤ 35184372088832) : ∃ r, Ev (fun k _ _ => nat_Mul.f k l m) r ∧ ok r.1 ∧ r.1.length ≤ 35184372088832 := by
  refine ⟨_, nat_Mul_ev h g (by omega) (by omega), ?_⟩
  unfold mulAns ans2
  split
  · split
    · exact ⟨ok_nil, by simp⟩
    · split
      · exact ⟨ok_nil, by simp⟩
      · unfold ans
        split
        · rename_i h1
          exact ⟨ok_lim _, by have := len_lim' h1; dsimp only; omega⟩
        · exact ⟨ok_nil, by simp⟩
  · exact ⟨ok_nil, by simp⟩
theorem aligned_tot {l m : List Int} {ex ey : Int} (h : ok l) (hl : l.length ≤ 35184372088832) (g : ok m) (gl : m.length ≤ 35184372088832) :
    ∃ r, Ev (fun k _ _ => soft_aligned.f k l ex m ey) r ∧ ok r.1 ∧ r.1.length ≤ 35184372088832 ∧ ok r.2.1 ∧ r.2.1.length ≤ 35184372088832 := by
  simp only [soft_aligned.f, soft_aligned.b0, ln_eq]
  by_cases hx : ex > ey
  · obtain ⟨r, r1, r2, r3⟩ := shl_tot (n := ex - ey) h hl
    exact ⟨_, Ev_pos hx (Ev.bind r1 (Ev_some rfl)), r2, r3, g, gl⟩
  · obtain ⟨r, r1, r2, r3⟩ := shl_tot (n := ey - ex) g gl
    exact ⟨_, Ev_neg hx (Ev.bind r1 (Ev_some rfl)), h, hl, r2, r3⟩
theorem flags_tot {b : Bool} {l m : List Int} {e d : Int} (h : ok l) (hl : l.length ≤ 35184372088832) (g : ok m) (gl : m.length ≤ 35184372088832) (hd : U d) :
    ∃ f, Ev (fun k _ _ => soft_fraction_flags.f k b l m e d) f := by
  simp only [soft_fraction_flags.f, soft_fraction_flags.b0, ln_eq]
  by_cases h3 : cls d = 3
  · exact ⟨20, Ev_bind_eq (Decode_eq hd) (Ev_pos h3 (Ev_some rfl))⟩
  have hm := man_any d
  have hmB : (manOf d).toNat < B 4096 := small_limit (by omega)
  obtain ⟨r, r1, r2, r3⟩ := mul_tot g gl (ok_lim (manOf d).toNat) (by have := len_lim' hmB; omega)
  obtain ⟨q, q1, q2, q3, q4, q5⟩ := aligned_tot (ex := e) (ey := expOf d) h hl r2 r3
  obtain ⟨t, t1, t2, t3, t4, t5⟩ := aligned_tot (ex := e) (ey := -1022) h hl g gl
  have c1 := nat_Cmp_ev q2 q4 (by omega) (by omega)
  have c2 := nat_Cmp_ev t2 t4 (by omega) (by omega)
  by_cases h0 : cmp (val q.1) (val q.2.1) = 0
  · exact ⟨0, Ev_bind_eq (Decode_eq hd) (Ev_neg h3 (Ev_bind_eq (FromUint_man d) (Ev.bind r1 (Ev.bind q1 (Ev.bind c1 (Ev_pos h0 (Ev_some rfl)))))))⟩
  by_cases h1 : cmp (val t.1) (val t.2.1) < 0
  · exact ⟨24, Ev_bind_eq (Decode_eq hd) (Ev_neg h3 (Ev_bind_eq (FromUint_man d) (Ev.bind r1 (Ev.bind q1 (Ev.bind c1 (Ev_neg h0 (Ev.bind t1 (Ev.bind c2 (Ev_pos h1 (Ev_some rfl))))))))))⟩
  · exact ⟨16, Ev_bind_eq (Decode_eq hd) (Ev_neg h3 (Ev_bind_eq (FromUint_man d) (Ev.bind r1 (Ev.bind q1 (Ev.bind c1 (Ev_neg h0 (Ev.bind t1 (Ev.bind c2 (Ev_neg h1 (Ev_some rfl))))))))))⟩
theorem withSign_zero (s : Bool) : soft_withSign.f s 0 = some (put s 0) := by
  unfold soft_withSign.f soft_withSign.b0 put
  cases s with
  | false => rfl
  | true => rw [if_pos rfl, if_pos rfl]; rfl
theorem rounded_ev {s : Bool} {Z : Nat} {e : Int} (hZ : Z < B 4096) : ∃ f, Ev (fun k _ _ => soft_term_rounded.f k s (lim Z) e) (put s (rnd Z e false), f) := by
  have hl := @lim_len_zero Z
  simp only [soft_term_rounded.f, soft_term_rounded.b0, ln_eq]
  by_cases h0 : Z = 0
  · refine ⟨0, Ev_pos (by omega) (Ev_bind_eq (withSign_zero s) (Ev_some ?_))⟩
    rw [h0]
    rfl
  · have hU := (put_U (s := s) (rnd_top Z e false)).1
    obtain ⟨f, hf⟩ := flags_tot (b := s) (e := e) (ok_lim Z) (by have := len_lim' hZ; omega) (m := [1]) (fun x hx => by simp at hx; omega) (by simp) hU
    exact ⟨f, Ev_neg (by omega) (Ev.bind (limb_ev hZ) (Ev.bind hf (Ev_some rfl)))⟩

/-! ### sums of doubles -/
/-- d is the double nearest to v (in 2^-1074); nothing's sign is z. -/
def Rd (d v : Int) (z : Bool) : Prop := ∃ s p, d = put s p ∧ Near p v.natAbs 1 ∧ (v ≠ 0 → s = decide (v < 0)) ∧ (v = 0 → s = z)
theorem rd_term {s z : Bool} {Z a0 : Nat} {e e' v : Int} (he : e + 1074 = (a0 : Int)) (hv : v = sv s Z * ((2 ^ a0 : Nat) : Int)) (h : e' = e ∨ Z = 0) (hz : Z = 0 → s = z) : Rd (put s (rnd Z e' false)) v z := by
  have hp : 0 < 2 ^ a0 := Nat.pow_pos (by omega)
  have habs : v.natAbs = Z * 2 ^ a0 := by rw [hv, ← sv_mul, sv_abs]
  refine ⟨s, _, rfl, ?_, fun hne => ?_, fun h0 => ?_⟩
  · rw [habs]
    by_cases h0 : Z = 0
    · rw [h0, Nat.zero_mul, show rnd 0 e' false = 0 from by unfold rnd; rw [if_pos (.inl rfl)]]
      exact near_zero (by omega)
    · obtain rfl : e' = e := by rcases h with h | h; exact h; exact absurd h h0
      have := rnd_near Z e' (a := a0) (b := 0) (by omega)
      rwa [Nat.pow_zero] at this
  · have hZ : 0 < Z * 2 ^ a0 := by omega
    rw [← sv_mul] at hv
    rw [hv]
    generalize Z * 2 ^ a0 = q at *
    unfold sv
    cases s with
    | false => exact (decide_eq_false (by simp)).symm
    | true => exact (decide_eq_true (by simp; omega)).symm
  · refine hz ?_
    rw [h0] at habs
    rcases Nat.eq_zero_or_pos Z with h1 | h1
    · exact h1
    · have := Nat.mul_pos h1 hp
      simp at habs
      omega
theorem twice (n : Nat) : 2 ^ n + 2 ^ n = 2 ^ (n + 1) := by rw [Nat.pow_succ, Nat.mul_two]
theorem add_ev {a b c : Int} (ha : U a) (hb : U b) (fa : fin a) (fb : fin b) : ∃ d f, Ev (fun k _ _ => soft_add.f k a b c) (d, f) ∧ Rd d (sval a + sval b) (sgn a && sgn b) := by
  have ea := exp_range fa
  have eb := exp_range fb
  have ma := man_any a
  have mb := man_any b
  obtain ⟨e, he⟩ : ∃ e, e = if expOf a ≤ expOf b then expOf a else expOf b := ⟨_, rfl⟩
  obtain ⟨i, j, hi, hj, hij⟩ : ∃ i j : Nat, expOf a - e = (i : Int) ∧ expOf b - e = (j : Int) ∧ (i = 0 ∨ j = 0) := by
    refine ⟨(expOf a - e).toNat, (expOf b - e).toNat, ?_, ?_, ?_⟩ <;> split at he <;> omega
  obtain ⟨a0, ha0⟩ : ∃ a0 : Nat, e + 1074 = (a0 : Int) := ⟨(e + 1074).toNat, by split at he <;> omega⟩
  have he2 : e ≤ 971 := by split at he <;> omega
  have l1 := (lift2 (m := (manOf a).toNat) (k := i) (by omega) (by omega)).1
  have l2 := (lift2 (m := (manOf b).toNat) (k := j) (by omega) (by omega)).1
  obtain ⟨E, hE⟩ : ∃ E, E = 2199 := ⟨_, rfl⟩
  have hB : (manOf a).toNat * 2 ^ i + (manOf b).toNat * 2 ^ j < 2 ^ (E + 1) := by
    have p1 : 2 ^ (53 + i) ≤ 2 ^ E := Nat.pow_le_pow_right (by omega) (by omega)
    have p2 : 2 ^ (53 + j) ≤ 2 ^ E := Nat.pow_le_pow_right (by omega) (by omega)
    exact Nat.lt_of_lt_of_le (Nat.add_lt_add (Nat.lt_of_lt_of_le l1 p1) (Nat.lt_of_lt_of_le l2 p2)) (Nat.le_of_eq (twice E))
  have hBB := pow_B hB (by omega)
  clear hB l1 l2
  obtain ⟨s, Z, e', h1, h2, h3, h4⟩ := tplus_ev (sx := sgn a) (sy := sgn b) hi hj hij (by omega) (by omega) hBB
  have hZ : Z < B 4096 := by
    have : Z ≤ (manOf a).toNat * 2 ^ i + (manOf b).toNat * 2 ^ j := by
      have h5 := congrArg Int.natAbs h2
      rw [sv_abs] at h5
      have h6 := Int.natAbs_add_le (sv (sgn a) ((manOf a).toNat * 2 ^ i)) (sv (sgn b) ((manOf b).toNat * 2 ^ j))
      rw [sv_abs, sv_abs] at h6
      rw [h5]
      exact h6
    exact Nat.lt_of_le_of_lt this hBB
  obtain ⟨f, hf⟩ := rounded_ev (s := s) (e := e') hZ
  refine ⟨_, f, ?_, rd_term ha0 ?_ h3 h4⟩
  · simp only [soft_add.f, soft_add.b0, ln_eq]
    have n1 := cls_lt fa
    have n2 := cls_lt fb
    refine Ev_bind_eq (Decode_eq ha) (Ev_bind_eq (Decode_eq hb) (Ev_neg n1.2 (Ev_neg n2.2 (Ev_neg n1.1 ?_))))
    simp only [soft_add.l231, soft_add.b231]
    refine Ev_neg (by simp) (Ev_neg n1.1 (Ev_neg n2.1 ?_))
    refine Ev_bind_eq (a := (sgn a, lim (manOf a).toNat, expOf a)) (by unfold soft_termOf.f soft_termOf.b0; rw [FromUint_man]; rfl) ?_
    refine Ev_bind_eq (a := (sgn b, lim (manOf b).toNat, expOf b)) (by unfold soft_termOf.f soft_termOf.b0; rw [FromUint_man]; rfl) ?_
    exact Ev.bind h1 (Ev.bind hf (Ev_some rfl))
  · unfold sval
    have k1 : (expOf a + 1074).toNat = i + a0 := by omega
    have k2 : (expOf b + 1074).toNat = j + a0 := by omega
    rw [uni_parts fa, uni_parts fb, h2, k1, k2, Nat.pow_add, Nat.pow_add, ← Nat.mul_assoc, ← Nat.mul_assoc, sv_mul _ ((manOf a).toNat * 2 ^ i), sv_mul _ ((manOf b).toNat * 2 ^ j), ← Int.add_mul]
theorem Add_ev {a b : Int} (ha : U a) (hb : U b) (fa : fin a) (fb : fin b) : ∃ d, Ev (fun k _ _ => soft_Add.f k a b) d ∧ Rd d (sval a + sval b) (sgn a && sgn b) := by
  obtain ⟨d, f, h1, h2⟩ := add_ev (c := 0) ha hb fa fb
  refine ⟨d, ?_, h2⟩
  simp only [soft_Add.f, soft_Add.b0, ln_eq]
  exact Ev.bind h1 (Ev_some rfl)
end Go.Proofs.YtcacmhcekoeblaaDoor.Soft1
