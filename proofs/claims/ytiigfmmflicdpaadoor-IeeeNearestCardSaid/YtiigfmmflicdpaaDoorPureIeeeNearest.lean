/- The law of the nearest double holds for every input. No conditions. -/
import Derived.Test.YtiigfmmflicdpaaDoorNRatio
import Derived.Test.YtiigfmmflicdpaaDoorPNx10
import Derived.Test.YtiigfmmflicdpaaDoorPNx11
import Derived.Test.YtiigfmmflicdpaaDoorPNx8
namespace Go.Proofs.YtiigfmmflicdpaaDoor.Pure
open Go.RowKit Go.Proofs.YtiigfmmflicdpaaDoorW.PrintWords Go.Proofs.YtiigfmmflicdpaaDoorW.PrintLast Go.Proofs.YtiigfmmflicdpaaDoorW.PrintMore Go.Proofs.YtiigfmmflicdpaaDoor.Lib Go.Proofs.YtiigfmmflicdpaaDoor.LibB Go.Proofs.YtiigfmmflicdpaaDoor.PN Go.Proofs.YtiigfmmflicdpaaDoor.NNat1 Go.Proofs.YtiigfmmflicdpaaDoor.NNat2 Go.Proofs.YtiigfmmflicdpaaDoor.NBits Go.Proofs.YtiigfmmflicdpaaDoor.NIeee1 Go.Proofs.YtiigfmmflicdpaaDoor.NMag Go.Proofs.YtiigfmmflicdpaaDoor.NIeee2 Go.Proofs.YtiigfmmflicdpaaDoor.Rnd Go.Proofs.YtiigfmmflicdpaaDoor.NRatio
open Go.Proofs.YtiigfmmflicdpaaDoor.NQuot1 (shlAns_ok len_lim val_limb ok_limb)
open Go.Proofs.YtiigfmmflicdpaaDoor.NPow (ans_ok mulAns_eq)
set_option linter.unusedVariables false
theorem cmp_scale {x y s : Nat} (hs : 0 < s) : cmp (x * s) (y * s) = cmp x y := by
  have a : x * s < y * s ↔ x < y := Nat.mul_lt_mul_right hs
  have b : y * s < x * s ↔ y < x := Nat.mul_lt_mul_right hs
  unfold cmp
  simp only [a, b]
theorem cmp_move {x y a b c d : Nat} (h : a + d = c + b) : cmp (x * 2 ^ a) (y * 2 ^ b) = cmp (x * 2 ^ c) (y * 2 ^ d) := by
  rw [← cmp_scale (s := 2 ^ d) (Nat.pow_pos (by omega)), ← cmp_scale (x := x * 2 ^ c) (s := 2 ^ b) (Nat.pow_pos (by omega)), Nat.mul_assoc, Nat.mul_assoc, Nat.mul_assoc, Nat.mul_assoc, ← Nat.pow_add, ← Nat.pow_add, ← Nat.pow_add, ← Nat.pow_add, h, Nat.add_comm b d]
theorem near_B {x s m : Nat} (hx : x < B m) (h : m * 64 + s ≤ 262144) : x * 2 ^ s < B 4096 := by
  rw [B_two] at hx
  have : x * 2 ^ s < 2 ^ (64 * m) * 2 ^ s := Nat.mul_lt_mul_of_pos_right hx (Nat.pow_pos (by omega))
  rw [← Nat.pow_add] at this
  exact lt_B this (by omega)
theorem held_ev {n d : List Int} {m : Nat} {k e : Int} {K a b : Nat} (hn : ok n) (hd : ok d) (hnl : n.length ≤ 60) (hdl : d.length ≤ 60) (hm : m < 18446744073709551616) (hk : -1200 ≤ k ∧ k ≤ 1200) (he : -9000 ≤ e ∧ e ≤ 9000)
    (hK : (K : Int) = k + 1075) (hab : (a : Int) - b = e + 1074) :
    Ev (fun j => abacuslaw04_held.f j (m : Int) k n d e) (cmp (m * 2 ^ K * (val d * 2 ^ b)) (2 * (val n * 2 ^ a)), true) := by
  have hnB : val n < B 60 := Nat.lt_of_lt_of_le (val_lt hn) (B_mono hnl)
  have hdB : val d < B 60 := Nat.lt_of_lt_of_le (val_lt hd) (B_mono hdl)
  have hdm : val d * m < B 61 := by
    have h0 := B_add 60 1
    rw [B_one] at h0
    rw [show (61 : Nat) = 60 + 1 from rfl, h0]
    exact Nat.mul_lt_mul'' hdB hm
  have g1 : val d * m < B 4096 := Nat.lt_of_lt_of_le hdm (B_mono (by omega))
  have g2 : val d < B 4096 := Nat.lt_of_lt_of_le hdB (B_mono (by omega))
  have g3 : val n < B 4096 := Nat.lt_of_lt_of_le hnB (B_mono (by omega))
  have hm1 : m < B 4096 := by
    have := B_mono (show 1 ≤ 4096 by omega)
    rw [B_one] at this
    omega
  have hmul := nat_Mul_ev (a := d) (b := [(m : Int)]) hd (ok_limb hm) (by omega) (by simp)
  rw [val_limb, mulAns_eq g2 hm1, ans_ok g1] at hmul
  have htr := nat_Trim_ev (l := n) hn (by omega)
  -- the two, moved
  have key : ∀ s t : Nat, (s : Int) - t = k - e → cmp (val d * m * 2 ^ s) (val n * 2 ^ t) = cmp (m * 2 ^ K * (val d * 2 ^ b)) (2 * (val n * 2 ^ a)) := by
    intro s t hst
    rw [show m * 2 ^ K * (val d * 2 ^ b) = val d * m * 2 ^ (K + b) by rw [Nat.pow_add, Nat.mul_mul_mul_comm, Nat.mul_comm m], show 2 * (val n * 2 ^ a) = val n * 2 ^ (a + 1) by rw [Nat.pow_succ, Nat.mul_comm (2 ^ a) 2, Nat.mul_left_comm]]
    exact cmp_move (by omega)
  simp only [abacuslaw04_held.f]
  refine Ev.bind hmul (Ev.bind htr (Ev_pos (by first | rfl | trivial) ?_))
  by_cases hke : k ≥ e
  · obtain ⟨s, hs⟩ : ∃ s : Nat, k - e = (s : Int) := ⟨(k - e).toNat, by omega⟩
    have hB := near_B (s := s) hdm (by omega)
    have hsh := nat_Shl_ev (a := lim (val d * m)) (n := (s : Int)) (ok_lim _) (by have := len_lim g1; omega) (by omega)
    rw [val_lim, shlAns_ok g1 hB (by omega)] at hsh
    have hc := nat_Cmp_ev (a := lim (val d * m * 2 ^ s)) (b := lim (val n)) (ok_lim _) (ok_lim _) (by have := len_lim hB; omega) (by have := len_lim g3; omega)
    have hkey := key s 0 (by omega)
    rw [Nat.pow_zero, Nat.mul_one] at hkey
    rw [val_lim, val_lim, hkey] at hc
    refine Ev_pos hke ?_
    rw [hs, show wrap64 (s : Int) = (s : Int) by unfold wrap64; omega]
    exact Ev.bind hsh (Ev_pos (by first | rfl | trivial) (Ev.bind hc (Ev_some rfl)))
  · obtain ⟨s, hs⟩ : ∃ s : Nat, e - k = (s : Int) := ⟨(e - k).toNat, by omega⟩
    have hB := near_B (s := s) hnB (by omega)
    have hsh := nat_Shl_ev (a := lim (val n)) (n := (s : Int)) (ok_lim _) (by have := len_lim g3; omega) (by omega)
    rw [val_lim, shlAns_ok g3 hB (by omega)] at hsh
    have hc := nat_Cmp_ev (a := lim (val d * m)) (b := lim (val n * 2 ^ s)) (ok_lim _) (ok_lim _) (by have := len_lim g1; omega) (by have := len_lim hB; omega)
    have hkey := key 0 s (by omega)
    rw [Nat.pow_zero, Nat.mul_one] at hkey
    rw [val_lim, val_lim, hkey] at hc
    refine Ev_neg hke ?_
    rw [hs, show wrap64 (s : Int) = (s : Int) by unfold wrap64; omega]
    exact Ev.bind hsh (Ev_pos (by first | rfl | trivial) (Ev.bind hc (Ev_some rfl)))
theorem parts_pos {p : Nat} (hp : p < inf) (h0 : p ≠ 0) : ∃ k c : Nat, p = k * 4503599627370496 + c ∧ (k = 0 ∨ 4503599627370496 ≤ c) ∧ c < 9007199254740992 ∧ k ≤ 2045 ∧ 0 < c ∧ manOf (p : Int) = (c : Int) ∧ expOf (p : Int) = (k : Int) - 1074 := by
  unfold inf at hp
  rcases cls_cases (p : Int) (by unfold fin; omega) with ⟨h1, h2⟩ | ⟨h1, h2, h3⟩ | ⟨h1, h2⟩
  · omega
  · refine ⟨0, p, by omega, .inl rfl, by omega, by omega, by omega, ?_, ?_⟩
    · unfold manOf; rw [if_pos h1]; omega
    · unfold expOf; rw [if_pos h1]; omega
  · have n1 : ¬ cls (p : Int) = 1 := by omega
    refine ⟨p / 4503599627370496 - 1, 4503599627370496 + p % 4503599627370496, by omega, .inr (by omega), by omega, by omega, by omega, ?_, ?_⟩
    · unfold manOf; rw [if_neg n1, if_pos h1]; omega
    · unfold expOf; rw [if_neg n1, if_pos h1]; omega
theorem sum_up {k c : Nat} (h : k = 0 ∨ 4503599627370496 ≤ c) (hc : c < 9007199254740992) : uni (k * 4503599627370496 + c) + uni (k * 4503599627370496 + c + 1) = (2 * c + 1) * 2 ^ k := by
  rw [Nat.add_assoc, uni_at h (by omega), uni_at (c := c + 1) (by omega) (by omega), ← Nat.add_mul]
  congr 1; omega
theorem sum_down {k c : Nat} (h : k = 0 ∨ 4503599627370496 < c) (hc : c < 9007199254740992) (h0 : 0 < c) : uni (k * 4503599627370496 + c - 1) + uni (k * 4503599627370496 + c) = (2 * c - 1) * 2 ^ k := by
  rw [show k * 4503599627370496 + c - 1 = k * 4503599627370496 + (c - 1) by omega, uni_at (c := c - 1) (by omega) (by omega), uni_at (k := k) (c := c) (by omega) (by omega), ← Nat.add_mul]
  congr 1; omega
theorem sum_edge (k : Nat) : uni ((k + 1) * 4503599627370496 + 4503599627370496 - 1) + uni ((k + 1) * 4503599627370496 + 4503599627370496) = (4 * 4503599627370496 - 1) * 2 ^ k := by
  rw [show (k + 1) * 4503599627370496 + 4503599627370496 - 1 = k * 4503599627370496 + 9007199254740991 by omega, uni_at (k := k) (c := 9007199254740991) (by omega) (by omega), uni_at (k := k + 1) (c := 4503599627370496) (by omega) (by omega), Nat.pow_succ]
  omega
theorem cmp_of_le {a b : Nat} (h : a ≤ b) : cmp a b < 0 ∨ (cmp a b = 0 ∧ a = b) := by
  rcases Nat.lt_or_ge a b with h1 | h1
  · exact .inl ((cmp_neg a b).2 h1)
  · exact .inr ⟨(cmp_zero a b).2 (by omega), by omega⟩
theorem cmp_of_ge {a b : Nat} (h : b ≤ a) : cmp a b > 0 ∨ (cmp a b = 0 ∧ a = b) := by
  rcases Nat.lt_or_ge b a with h1 | h1
  · exact .inl ((cmp_pos a b).2 h1)
  · exact .inr ⟨(cmp_zero a b).2 (by omega), by omega⟩
theorem nearest_low {n d : List Int} {p m : Nat} {k e : Int} {K a b : Nat} {ev : Bool} (hn : ok n) (hd : ok d) (hnl : n.length ≤ 60) (hdl : d.length ≤ 60) (hm : m < 18446744073709551616) (hk : -1200 ≤ k ∧ k ≤ 1200) (he : -9000 ≤ e ∧ e ≤ 9000)
    (hK : (K : Int) = k + 1075) (hab : (a : Int) - b = e + 1074) (N : Near p (val n * 2 ^ a) (val d * 2 ^ b)) (h0 : p ≠ 0) (hev : ev = decide (p % 2 = 0)) (hs : uni (p - 1) + uni p = m * 2 ^ K) :
    Ev (fun j => (abacuslaw04_held.f j (m : Int) k n d e).bind fun bt => (if bt.2 = true then (if bt.1 < 0 then (some true) else (if bt.1 = 0 then (some ev) else (some false))) else (some false))) true := by
  refine Ev.bind (held_ev hn hd hnl hdl hm hk he hK hab) (Ev_pos (by first | rfl | trivial) ?_)
  rw [← hs]
  dsimp only
  rcases cmp_of_le (N.lo h0) with h | ⟨h, h2⟩
  · exact Ev_pos h (Ev_some rfl)
  · refine Ev_neg (by omega) (Ev_pos h (Ev_some ?_))
    rw [hev]
    exact decide_eq_true (N.loe h0 h2)
theorem nearest_j2 {n d : List Int} {p m : Nat} {k e : Int} {K a b : Nat} {ev : Bool} {c0 : Bool} {c1 c2 c3 : Int} (hn : ok n) (hd : ok d) (hnl : n.length ≤ 60) (hdl : d.length ≤ 60) (hm : m < 9223372036854775808) (hk : -1200 ≤ k ∧ k ≤ 1200) (he : -9000 ≤ e ∧ e ≤ 9000)
    (hK : (K : Int) = k + 1075) (hab : (a : Int) - b = e + 1074) (N : Near p (val n * 2 ^ a) (val d * 2 ^ b)) (hp : p < inf) (hev : ev = decide (p % 2 = 0)) (hs : uni p + uni (p + 1) = (m + 1) * 2 ^ K)
    (h3 : Ev (fun j => abacuslaw04_IeeeNearest.j3 j n d e (p : Int) ev (m : Int) k false c0 c1 c2 c3) true) :
    Ev (fun j => abacuslaw04_IeeeNearest.j2 j n d e (p : Int) ev (m : Int) k c0 c1 c2 c3) true := by
  refine Ev_succ ?_
  simp only [abacuslaw04_IeeeNearest.j2]
  have e1 : IntKind.u64.wrap ((m : Int) + 1) = ((m + 1 : Nat) : Int) := by rw [IntKind.wrap_u64]; omega
  rw [e1]
  refine Ev.bind (held_ev hn hd hnl hdl (by omega) hk he hK hab) (Ev_pos (by first | rfl | trivial) ?_)
  rw [← hs]
  dsimp only
  rcases cmp_of_ge (N.hi hp) with h | ⟨h, h2⟩
  · exact Ev_neg (by omega) (Ev_neg (by omega) h3)
  · refine Ev_neg (by omega) (Ev_pos h ?_)
    have : ev = true := by rw [hev]; exact decide_eq_true (N.hie hp h2.symm)
    rw [this] at h3 ⊢
    exact h3
theorem tmod_nat {p : Nat} : Int.tmod (p : Int) 2 = ((p % 2 : Nat) : Int) := by
  rw [Int.tmod_eq_emod_of_nonneg (by omega)]; omega
theorem nearest_j1 {n d : List Int} {neg : Bool} {p : Nat} {e : Int} {a b : Nat} (hn : ok n) (hd : ok d) (hnl : n.length ≤ 60) (hdl : d.length ≤ 60) (he : -9000 ≤ e ∧ e ≤ 9000) (hab : (a : Int) - b = e + 1074) (N : Near p (val n * 2 ^ a) (val d * 2 ^ b)) :
    Ev (fun j => abacuslaw04_IeeeNearest.j1 j n d e (put neg p) false) true := by
  have ht := N.top
  have hp0 : Int.tmod (put neg p) 9223372036854775808 = (p : Int) := by
    unfold inf at ht
    unfold put
    cases neg with
    | false => rw [if_neg (by simp), Int.tmod_eq_emod_of_nonneg (by omega)]; omega
    | true => rw [if_pos rfl, Int.tmod_eq_emod_of_nonneg (by omega)]; omega
  refine Ev_succ ?_
  simp only [abacuslaw04_IeeeNearest.j1, hp0, tmod_nat]
  refine Ev_neg (by simp) ?_
  have hev : (((p % 2 : Nat) : Int) == 0) = decide (p % 2 = 0) := by
    by_cases h : p % 2 = 0
    · rw [h]; rfl
    · rw [decide_eq_false h]; simp; omega
  by_cases hi : p = inf
  · obtain ⟨K, hK⟩ : ∃ K, K = 2045 := ⟨_, rfl⟩
    have e1 : uni (p - 1) = 9007199254740991 * 2 ^ K := by
      rw [hi, show inf - 1 = 2045 * 4503599627370496 + 9007199254740991 from rfl, ← hK]
      exact uni_at (by omega) (by omega)
    have e2 : uni p = 9007199254740992 * 2 ^ K := by
      rw [hi, show inf = 2045 * 4503599627370496 + 9007199254740992 from rfl, ← hK]
      exact uni_at (by omega) (by omega)
    have hs : uni (p - 1) + uni p = 18014398509481983 * 2 ^ K := by rw [e1, e2, ← Nat.add_mul]
    refine Ev_pos (by rw [hi]; rfl) (Ev.bind (held_ev (m := 18014398509481983) hn hd hnl hdl (by omega) (by omega) he (K := K) (by omega) hab) (Ev_pos (by first | rfl | trivial) (Ev_some ?_)))
    rw [← hs]
    refine decide_eq_true ?_
    dsimp only
    rcases cmp_of_le (N.lo (by rw [hi]; unfold inf; omega)) with h | ⟨h, h2⟩ <;> omega
  · have hp : p < inf := by omega
    have hU : U (p : Int) := by unfold inf at ht; unfold U; omega
    refine Ev_neg (by unfold inf at hi; omega) (Ev_bind_eq (Decode_eq hU) ?_)
    by_cases h0 : p = 0
    · subst h0
      refine Ev_pos (by first | rfl | trivial) ?_
      refine nearest_j2 (m := 0) (K := 0) hn hd hnl hdl (by omega) (by omega) he (by omega) hab N hp hev (by rw [uni_zero, uni_one]) ?_
      refine Ev_succ ?_
      simp only [abacuslaw04_IeeeNearest.j3]
      exact Ev_neg (by simp) (Ev_pos (by first | rfl | trivial) (Ev_some rfl))
    · obtain ⟨k, c, h1, h2, h3, h4, h5, h6, h7⟩ := parts_pos hp h0
      refine Ev_neg (by omega) ?_
      dsimp only
      have w1 : IntKind.u64.wrap (2 * manOf (p : Int)) = ((2 * c : Nat) : Int) := by rw [IntKind.wrap_u64, h6]; omega
      have w2 : wrap64 (expOf (p : Int) - 1) = (k : Int) - 1075 := by rw [h7]; unfold wrap64; omega
      rw [w1, w2]
      refine nearest_j2 (m := 2 * c) (K := k) hn hd hnl hdl (by omega) (by omega) he (by omega) hab N hp hev (by rw [h1]; exact sum_up h2 h3) ?_
      refine Ev_succ ?_
      have w3 : IntKind.u64.wrap (((2 * c : Nat) : Int) - 1) = ((2 * c - 1 : Nat) : Int) := by rw [IntKind.wrap_u64]; omega
      have w4 : IntKind.u64.wrap (IntKind.u64.wrap (2 * ((2 * c : Nat) : Int)) - 1) = ((4 * c - 1 : Nat) : Int) := by rw [IntKind.wrap_u64, IntKind.wrap_u64]; omega
      have w5 : wrap64 ((k : Int) - 1075 - 1) = (k : Int) - 1076 := by unfold wrap64; omega
      simp only [abacuslaw04_IeeeNearest.j3, w3, w4, w5]
      refine Ev_neg (by simp) (Ev_neg (by omega) ?_)
      have low : (k = 0 ∨ 4503599627370496 < c) → Ev (fun j => (abacuslaw04_held.f j ((2 * c - 1 : Nat) : Int) ((k : Int) - 1075) n d e).bind fun bt => (if bt.2 = true then (if bt.1 < 0 then (some true) else (if bt.1 = 0 then (some (((p % 2 : Nat) : Int) == 0)) else (some false))) else (some false))) true :=
        fun h => nearest_low (K := k) hn hd hnl hdl (by omega) (by omega) he (by omega) hab N h0 hev (by rw [h1]; exact sum_down h h3 h5)
      by_cases hc : manOf (p : Int) = 4503599627370496
      · refine Ev_pos hc ?_
        by_cases hx : expOf (p : Int) > -1074
        · obtain ⟨j, rfl⟩ : ∃ j, k = j + 1 := ⟨k - 1, by omega⟩
          obtain rfl : c = 4503599627370496 := by omega
          refine Ev_pos hx ?_
          exact nearest_low (K := j) hn hd hnl hdl (by omega) (by omega) he (by omega) hab N h0 hev (by rw [h1]; exact sum_edge j)
        · exact Ev_neg hx (low (.inl (by omega)))
      · exact Ev_neg hc (low (by omega))
theorem IeeeNearest : abacuslaw04_IeeeNearest.Pure := by
  intro a0 n l2 d e a5 hn1 hn2 hn3 _ _ _ hd1 hd2 hd3 w4 _
  suffices h : Ev (fun k => abacuslaw04_IeeeNearest.f k a0 n l2 d e a5) true by
    obtain ⟨K, hK⟩ := h
    exact ⟨K, hK K (Nat.le_refl _)⟩
  have hn := ok_of_wf hn3
  have hd := ok_of_wf hd3
  have out : Ev (fun k => abacuslaw04_IeeeNearest.j0 k a0 n d e true) true := by
    refine Ev_succ ?_
    simp only [abacuslaw04_IeeeNearest.j0]
    exact Ev_pos (by first | rfl | trivial) (Ev_some rfl)
  simp only [abacuslaw04_IeeeNearest.f]
  refine Ev.bind awake_ev (Ev_pos (by first | rfl | trivial) ?_)
  by_cases h1 : (n.length : Int) > 60
  · exact Ev_pos h1 out
  refine Ev_neg h1 ?_
  by_cases h2 : (d.length : Int) > 60
  · exact Ev_pos h2 out
  refine Ev_neg h2 ?_
  by_cases h3 : e > 9000
  · exact Ev_pos h3 out
  refine Ev_neg h3 ?_
  by_cases h4 : e < -9000
  · exact Ev_pos h4 out
  refine Ev_neg h4 (Ev.bind (nat_BitLen_ev hd (by omega)) ?_)
  have hb := blen_pos (n := val d)
  by_cases h5 : val d = 0
  · rw [h5, blen_zero]
    exact out
  · have e5 : (((blen (val d) : Nat) : Int) == 0) = false := by simp; omega
    rw [e5]
    have hnB : val n < B 4096 := Nat.lt_of_lt_of_le (val_lt hn) (B_mono (by omega))
    have hdB : val d < B 4096 := Nat.lt_of_lt_of_le (val_lt hd) (B_mono (by omega))
    obtain ⟨p, g1, g2⟩ := RoundRatio_ev (neg := a0) (e := e) hn hd (by omega) (by omega) hnB hdB h5
    obtain ⟨a, b, hab⟩ : ∃ a b : Nat, (a : Int) - b = e + 1074 := ⟨(e + 1074).toNat, (-(e + 1074)).toNat, by omega⟩
    have N := g2 a b (by rw [clamp_in (by omega) (by omega)]; exact hab)
    refine Ev_succ ?_
    simp only [abacuslaw04_IeeeNearest.j0]
    refine Ev_neg (by simp) (Ev.bind g1 (Ev_pos (by first | rfl | trivial) ?_))
    have ht := N.top
    unfold inf at ht
    have hneg : decide (put a0 p ≥ 9223372036854775808) = a0 := by
      unfold put
      cases a0 with
      | false => exact decide_eq_false (by simp; omega)
      | true => exact decide_eq_true (by simp; omega)
    have hb2 : decide (Int.tmod (put a0 p) 9223372036854775808 > 9218868437227405312) = false := by
      refine decide_eq_false ?_
      unfold put
      cases a0 with
      | false => rw [if_neg (by simp), Int.tmod_eq_emod_of_nonneg (by omega)]; omega
      | true => rw [if_pos rfl, Int.tmod_eq_emod_of_nonneg (by omega)]; omega
    dsimp only
    rw [hneg, hb2]
    refine Ev_neg (by simp) ?_
    exact nearest_j1 hn hd (by omega) (by omega) (by omega) hab N
end Go.Proofs.YtiigfmmflicdpaaDoor.Pure
