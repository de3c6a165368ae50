/- What the long division of quot computes: quotient and remainder. Conditions: trimmed lists within the limit, the divisor of two limbs at least and not above. -/
import Derived.Test.YtiigfmmflicdpaaDoorNBits
import Derived.Test.YtiigfmmflicdpaaDoorNDiv
import Derived.Test.YtiigfmmflicdpaaDoorNNat2
import Derived.Test.YtiigfmmflicdpaaDoorLongL
import Derived.Test.YtiigfmmflicdpaaDoorPNx4
import Derived.Test.YtiigfmmflicdpaaDoorPNx6
import Derived.Test.YtiigfmmflicdpaaDoorPNx7
namespace Go.Proofs.YtiigfmmflicdpaaDoor.NLong
open Go.RowKit Go.Proofs.YtiigfmmflicdpaaDoorW.PrintWords Go.Proofs.YtiigfmmflicdpaaDoorW.PrintLast Go.Proofs.YtiigfmmflicdpaaDoorW.PrintMore Go.Proofs.YtiigfmmflicdpaaDoor.Lib Go.Proofs.YtiigfmmflicdpaaDoor.LibB Go.Proofs.YtiigfmmflicdpaaDoor.LongL Go.Proofs.YtiigfmmflicdpaaDoor.PN Go.Proofs.YtiigfmmflicdpaaDoor.NNat1 Go.Proofs.YtiigfmmflicdpaaDoor.NNat2 Go.Proofs.YtiigfmmflicdpaaDoor.NBits Go.Proofs.YtiigfmmflicdpaaDoor.NDiv
set_option linter.unusedVariables false
theorem raise_digit {x old : Int} {p : Nat} (hp : p < 64) (hx : 0 ≤ x ∧ x < 18446744073709551616) (ho : 0 ≤ old ∧ old.toNat < 2 ^ p) :
    ∃ d e : Int, Go.bits .or .u64 old (shl .u64 x (p : Int)) = d ∧ shr .u64 x ((64 - p : Nat) : Int) = e ∧ (0 ≤ d ∧ d < 18446744073709551616) ∧ (0 ≤ e ∧ e < 18446744073709551616 ∧ e.toNat < 2 ^ p) ∧ d.toNat + 18446744073709551616 * e.toNat = old.toNat + x.toNat * 2 ^ p := by
  obtain ⟨X, rfl⟩ := Int.eq_ofNat_of_zero_le hx.1
  obtain ⟨O, rfl⟩ := Int.eq_ofNat_of_zero_le ho.1
  have h64 := pow_lt_64 hp
  have hpp := Nat.pow_pos (n := p) (show 0 < 2 by omega)
  have e1 : shr .u64 (X : Int) ((64 - p : Nat) : Int) = ((X / 2 ^ (64 - p) : Nat) : Int) := by
    rw [shr_u64 (by omega)]; omega
  have e2 : shl .u64 (X : Int) (p : Int) = ((X % 2 ^ (64 - p) * 2 ^ p : Nat) : Int) := by
    rw [shl_u64 hx.1 (by omega), ← Int.natCast_mul, show (18446744073709551616 : Int) = ((18446744073709551616 : Nat) : Int) from rfl, ← Int.natCast_emod, pow_parts (s := p) (by omega), Nat.mul_mod_mul_right]
  have hX : X < 18446744073709551616 := by omega
  have hO : O < 2 ^ p := by simpa using ho.2
  have he : X / 2 ^ (64 - p) < 2 ^ p := by
    rw [pow_parts (s := p) (by omega)] at hX
    exact Nat.div_lt_of_lt_mul hX
  have hd := low_fits (x := X) (s := p) (by omega) O hO
  refine ⟨((X % 2 ^ (64 - p) * 2 ^ p + O : Nat) : Int), ((X / 2 ^ (64 - p) : Nat) : Int), by rw [e2]; exact or_low' hO hd, e1, nat_lt hd, ⟨(nat_lt (Nat.lt_trans he h64)).1, (nat_lt (Nat.lt_trans he h64)).2, by rw [Int.toNat_natCast]; exact he⟩, ?_⟩
  have h1 := Nat.div_add_mod X (2 ^ (64 - p))
  simp only [Int.toNat_natCast]
  conv => rhs; rw [← h1]
  rw [pow_parts (s := p) (by omega), Nat.add_mul, Nat.mul_right_comm]
  omega
theorem val_take_le (l : List Int) (i : Nat) : val (l.take i) ≤ val l := by
  have := val_split l i
  omega
theorem raise_row {V P o d e x q : Nat} (h2 : d + 18446744073709551616 * e = o + x * q) {W : Nat} (h1 : W + P * o = V + P * d) : W + 18446744073709551616 * P * e = V + P * x * q := by
  have : P * (d + 18446744073709551616 * e) = P * (o + x * q) := by rw [h2]
  rw [Nat.mul_add, Nat.mul_add, ← Nat.mul_assoc P, ← Nat.mul_assoc P, Nat.mul_comm P 18446744073709551616] at this
  omega
theorem raised_l {a : List Int} {n s : Nat} (ha : ok a) (hs : s < 64) (hal : a.length ≤ n) (hn : n ≤ 35184372088832) (hfit : val a * 2 ^ s < B n) (d : Nat) :
    ∀ (i : Nat) (out : List Int), i + d = a.length → out.length = n → ok out → Aside0 (val out = val (a.take i) * 2 ^ s) → (i < n → (rd out (i : Int)).toNat < 2 ^ s) → (∀ k, i < k → rd out ((k : Nat) : Int) = 0) →
      ∃ r, Ev (fun k => quot_raised.l0 k (s : Int) (n : Int) out a (a.length : Int) (i : Int)) r ∧ r.length = n ∧ ok r ∧ val r = val a * 2 ^ s := by
  induction d with
  | zero =>
    intro i out hi ho h6 hv hc hz
    obtain rfl : i = a.length := by omega
    refine ⟨out, Ev_succ ?_, ho, h6, ?_⟩
    · simp only [quot_raised.l0]
      exact Ev_neg (by omega) (Ev_some rfl)
    · rw [hv.out, val_take_all a (Nat.le_refl _)]
  | succ d ih =>
    intro i out hi ho h6 hv hc hz
    have hin : i < n := by omega
    have e : wrap64 ((i : Int) + 1) = ((i + 1 : Nat) : Int) := by unfold wrap64; omega
    have ws : IntKind.u64.wrap (s : Int) = (s : Int) := by rw [IntKind.wrap_u64]; omega
    have ws2 : IntKind.u64.wrap (wrap64 (64 - (s : Int))) = ((64 - s : Nat) : Int) := by
      rw [show wrap64 (64 - (s : Int)) = ((64 - s : Nat) : Int) by unfold wrap64; omega, IntKind.wrap_u64]; omega
    have rx := ok_rd ha (i : Int)
    have ro := ok_rd h6 (i : Int)
    obtain ⟨dg, cr, e1, e2, d0, c0, hdg⟩ := raise_digit hs rx ⟨ro.1, hc hin⟩
    have ok1 := ok_set h6 i d0.1 d0.2
    have hv1 := val_set out i dg (by omega)
    have hrow := raise_row hdg hv1
    have hrow2 : val (out.set i dg) + B (i + 1) * cr.toNat = val (a.take (i + 1)) * 2 ^ s := by
      rw [B_succ, hrow, hv.out, val_take_succ, Nat.add_mul]
    have hnext : (∀ r, r.length = n → ok r → val r = val (a.take (i + 1)) * 2 ^ s → (i + 1 < n → (rd r ((i + 1 : Nat) : Int)).toNat < 2 ^ s) → (∀ k, i + 1 < k → rd r ((k : Nat) : Int) = 0) →
        ∃ q, Ev (fun k => quot_raised.l0 k (s : Int) (n : Int) r a (a.length : Int) ((i + 1 : Nat) : Int)) q ∧ q.length = n ∧ ok q ∧ val q = val a * 2 ^ s) :=
      fun r h1 h2 h3 h4 h5 => ih (i + 1) r (by omega) h1 h2 ⟨h3⟩ h4 h5
    have hz1 : ∀ k, i < k → rd (out.set i dg) ((k : Nat) : Int) = 0 := fun k hk => by rw [rd_set_ne _ _ _ _ (by omega)]; exact hz k hk
    by_cases hlast : i + 1 < n
    · by_cases hs0 : 0 < s
      · have hl1 : (out.set i dg).length = n := by rw [List.length_set, ho]
        have hv2 := val_set (out.set i dg) (i + 1) cr (by omega)
        rw [hz1 (i + 1) (by omega), show (0 : Int).toNat = 0 from rfl, Nat.mul_zero, Nat.add_zero] at hv2
        obtain ⟨r, hr1, hr2⟩ := hnext ((out.set i dg).set (i + 1) cr) (by rw [List.length_set, hl1]) (ok_set ok1 _ c0.1 c0.2.1) (by rw [hv2, hrow2]) (fun _ => by rw [rd_set_self _ _ _ (by omega)]; exact c0.2.2) (fun k hk => by rw [rd_set_ne _ _ _ _ (by omega)]; exact hz1 k (by omega))
        refine ⟨r, Ev_succ ?_, hr2⟩
        simp only [quot_raised.l0, e, ws, ws2, Int.toNat_natCast, e1, e2, Option.bind_some]
        refine Ev_pos (by omega) (Ev_pos (by omega) (Ev_pos (by omega) (Ev_pos (by omega) (Ev_pos (by omega) (Ev_pos (by omega) (Ev_pos (by omega) (Ev_pos (by omega) (Ev_pos (by omega) (Ev_pos (by omega) ?_)))))))))
        exact hr1
      · have hs1 : s = 0 := by omega
        have hcr : cr.toNat = 0 := by have := c0.2.2; rw [hs1] at this; omega
        rw [hcr, Nat.mul_zero, Nat.add_zero] at hrow2
        obtain ⟨r, hr1, hr2⟩ := hnext (out.set i dg) (by rw [List.length_set, ho]) ok1 hrow2 (fun _ => by rw [hz1 (i + 1) (by omega)]; exact Nat.pow_pos (by omega)) (fun k hk => hz1 k (by omega))
        refine ⟨r, Ev_succ ?_, hr2⟩
        simp only [quot_raised.l0, e, ws, Int.toNat_natCast, e1, Option.bind_some]
        refine Ev_pos (by omega) (Ev_pos (by omega) (Ev_pos (by omega) (Ev_pos (by omega) (Ev_pos (by omega) (Ev_pos (by omega) (Ev_neg (by omega) ?_))))))
        exact hr1
    · have hcr : cr.toNat = 0 := by
        have h1 := Nat.mul_le_mul_right (2 ^ s) (val_take_le a (i + 1))
        rcases Nat.eq_zero_or_pos cr.toNat with h | h
        · exact h
        · have h2 := Nat.le_mul_of_pos_right (B (i + 1)) h
          rw [show i + 1 = n by omega] at h2 hrow2 h1
          omega
      rw [hcr, Nat.mul_zero, Nat.add_zero] at hrow2
      obtain ⟨r, hr1, hr2⟩ := hnext (out.set i dg) (by rw [List.length_set, ho]) ok1 hrow2 (fun h => absurd h hlast) (fun k hk => hz1 k (by omega))
      refine ⟨r, Ev_succ ?_, hr2⟩
      simp only [quot_raised.l0, e, ws, Int.toNat_natCast, e1, Option.bind_some]
      refine Ev_pos (by omega) (Ev_pos (by omega) (Ev_pos (by omega) (Ev_pos (by omega) (Ev_pos (by omega) (Ev_neg (by omega) ?_)))))
      exact hr1
theorem quot_raised_ev {a : List Int} {n s : Nat} (ha : ok a) (hs : s < 64) (hal : a.length ≤ n) (hn : n ≤ 35184372088832) (hfit : val a * 2 ^ s < B n) :
    ∃ r, Ev (fun k => quot_raised.f k a (s : Int) (n : Int)) r ∧ r.length = n ∧ ok r ∧ val r = val a * 2 ^ s := by
  obtain ⟨r, h1, h2⟩ := raised_l ha hs hal hn hfit a.length 0 (List.replicate n 0) (by omega) (List.length_replicate ..) (ok_replicate n) ⟨by rw [val_replicate, List.take_zero, val_nil, Nat.zero_mul]⟩
    (fun h => by rw [rd_nat, List.getD_eq_getElem?_getD, List.getElem?_replicate, if_pos h]; exact Nat.pow_pos (by omega))
    (fun k hk => by
      rw [rd_nat, List.getD_eq_getElem?_getD, List.getElem?_replicate]
      split <;> rfl)
  refine ⟨r, ?_, h2⟩
  simp only [quot_raised.f]
  refine Ev_pos (by omega) (Ev_pos (by omega) ?_)
  rw [Int.toNat_natCast]
  exact h1
theorem swap3 (a b c : Nat) : a * (b * c) = c * (b * a) := by rw [Nat.mul_comm a, Nat.mul_assoc, Nat.mul_left_comm c]
theorem quot_guess_ev {p v : List Int} (hp : ok p) (hv : ok v) (hl : p.length = v.length + 1) (hn : 2 ≤ v.length) (hmax : v.length ≤ 35184372088832) (hb : 9223372036854775808 * B (v.length - 1) ≤ val v) (hlt : val p < 18446744073709551616 * val v) :
    ∃ k d, quot_guess.f k p v = some d ∧ 0 ≤ d ∧ d < 18446744073709551616 ∧ val p < (d.toNat + 1) * val v := by
  obtain ⟨n, hn1⟩ : ∃ n, v.length = n + 1 := ⟨v.length - 1, by omega⟩
  have e1 : wrap64 ((v.length : Int) - 1) = (n : Int) := by unfold wrap64; omega
  have ra := ok_rd hp ((n + 1 : Nat) : Int)
  have rb := ok_rd hp (n : Int)
  have rc := ok_rd hv (n : Int)
  have sv := val_take_succ v n
  rw [val_take_all v (by omega)] at sv
  have sp := val_take_succ p (n + 1)
  rw [val_take_all p (by omega), val_take_succ p n] at sp
  have lv := val_lt (ok_take hv n)
  have lp := val_lt (ok_take hp n)
  rw [List.length_take, Nat.min_eq_left (by omega)] at lv lp
  by_cases hg : rd p (v.length : Int) ≥ rd v (n : Int)
  · refine ⟨0, 18446744073709551615, ?_, by omega, by omega, ?_⟩
    · unfold quot_guess.f
      rw [e1, if_pos (by omega), if_pos (by omega), if_pos (by omega), if_pos (by omega), if_pos hg]
    · exact hlt
  · have hh : rd p (v.length : Int) < rd v (n : Int) := by omega
    rw [show (v.length : Int) = ((n + 1 : Nat) : Int) by omega] at hh
    obtain ⟨K, hK⟩ := div64_ev ra.1 rb rc.2 hh
    have hd := hK K (Nat.le_refl _)
    dsimp only at hd
    have q0 : 0 ≤ (rd p ((n + 1 : Nat) : Int) * 18446744073709551616 + rd p (n : Int)) / rd v (n : Int) := Int.ediv_nonneg (by omega) rc.1
    have q1 : (rd p ((n + 1 : Nat) : Int) * 18446744073709551616 + rd p (n : Int)) / rd v (n : Int) < 18446744073709551616 := by
      rw [Int.ediv_lt_iff_lt_mul (by omega)]; omega
    refine ⟨K, _, ?_, q0, q1, ?_⟩
    · unfold quot_guess.f
      rw [e1, show (v.length : Int) = ((n + 1 : Nat) : Int) by omega, if_pos (by omega), if_pos (by omega), if_pos (by omega), if_pos (by omega), if_neg (by omega), if_pos (by omega), hd]
      rfl
    · have g := guess_ge (lp := val (p.take n)) (lv := val (v.take n)) (P := B n) (T := (rd p ((n + 1 : Nat) : Int)).toNat * 18446744073709551616 + (rd p (n : Int)).toNat) (t := 0) (v := (rd v (n : Int)).toNat) lp (by omega) rfl
      have ed : ((rd p ((n + 1 : Nat) : Int) * 18446744073709551616 + rd p (n : Int)) / rd v (n : Int)).toNat = ((rd p ((n + 1 : Nat) : Int)).toNat * 18446744073709551616 + (rd p (n : Int)).toNat) / (rd v (n : Int)).toNat := by
        generalize rd p ((n + 1 : Nat) : Int) = x at *
        generalize rd p (n : Int) = y at *
        generalize rd v (n : Int) = z at *
        obtain ⟨X, rfl⟩ := Int.eq_ofNat_of_zero_le ra.1
        obtain ⟨Y, rfl⟩ := Int.eq_ofNat_of_zero_le rb.1
        obtain ⟨Z, rfl⟩ := Int.eq_ofNat_of_zero_le rc.1
        simp only [Int.toNat_natCast]
        rw [show (X : Int) * 18446744073709551616 + (Y : Int) = ((X * 18446744073709551616 + Y : Nat) : Int) by omega, ← Int.natCast_ediv, Int.toNat_natCast]
      rw [ed, sv, sp]
      refine Nat.lt_of_le_of_lt ?_ g
      rw [Nat.mul_add, B_succ, Nat.mul_left_comm (B n), Nat.mul_assoc 18446744073709551616, swap3]
      omega
theorem blen_top {l : List Int} {n : Nat} (h : ok l) (hn : l.length = n + 1) (h0 : rd l (n : Int) ≠ 0) : B n * 2 ^ (blen (rd l (n : Int)).toNat - 1) ≤ val l ∧ val l < B n * 2 ^ blen (rd l (n : Int)).toNat := by
  have sv := val_take_succ l n
  rw [val_take_all l (by omega)] at sv
  have lv := val_lt (ok_take h n)
  rw [List.length_take, Nat.min_eq_left (by omega)] at lv
  have r := ok_rd h (n : Int)
  have g := blen_ge (n := (rd l (n : Int)).toNat) (by omega)
  have u := blen_lt (rd l (n : Int)).toNat
  have g2 := Nat.mul_le_mul_left (B n) g
  have u2 : B n * ((rd l (n : Int)).toNat + 1) ≤ B n * 2 ^ blen (rd l (n : Int)).toNat := Nat.mul_le_mul_left _ u
  rw [Nat.mul_add, Nat.mul_one] at u2
  omega
theorem long_eq {a b : Nat} (ha : a < B 4096) (hba : b ≤ a) (hb : 2 ≤ (lim b).length) : quot_long.f (lim a) (lim b) = some (lim (a / b), lim (a % b)) := by
  have la := (lim_len_le a 4096).2 ha
  have hab : (lim b).length ≤ (lim a).length := by
    rcases Nat.lt_or_ge (lim a).length (lim b).length with h | h
    · have := lim_len_lt h; omega
    · exact h
  have hb0 : b ≠ 0 := fun h => by rw [h, lim_zero] at hb; simp at hb
  obtain ⟨n, hn⟩ : ∃ n, (lim b).length = n + 1 := ⟨(lim b).length - 1, by omega⟩
  have htop := rd_lim_last b hb0
  rw [hn, Nat.add_sub_cancel] at htop
  have rt := ok_rd (ok_lim b) (n : Int)
  obtain ⟨t, ht⟩ : ∃ t, t = (rd (lim b) (n : Int)).toNat := ⟨_, rfl⟩
  have bt := blen_top (ok_lim b) hn htop
  rw [val_lim, ← ht] at bt
  have t0 : t ≠ 0 := by omega
  have tp := (blen_pos (n := t)).2 t0
  have t64 : blen t ≤ 64 := (blen_le t 64).2 (by have h : t < 18446744073709551616 := by omega
                                                 exact h)
  obtain ⟨s, hs⟩ : ∃ s, s = 64 - blen t := ⟨_, rfl⟩
  have lz : bits_LeadingZeros64.f (rd (lim b) (((lim b).length : Int) - 1)) = some (s : Int) := by
    rw [show ((lim b).length : Int) - 1 = (n : Int) by omega]
    unfold bits_LeadingZeros64.f
    rw [len64 rt, Option.bind_some, ← ht]
    congr 1
    unfold wrap64; omega
  have p2 : 2 ^ (blen t) * 2 ^ s = 18446744073709551616 := by rw [← Nat.pow_add, show blen t + s = 64 by omega]
  have p1 : 2 ^ (blen t - 1) * 2 ^ s = 9223372036854775808 := by rw [← Nat.pow_add, show blen t - 1 + s = 63 by omega]
  have vfit : val (lim b) * 2 ^ s < B (lim b).length := by
    rw [val_lim, hn, B_succ]
    have := Nat.mul_lt_mul_of_pos_right bt.2 (Nat.pow_pos (n := s) (show 0 < 2 by omega))
    rw [Nat.mul_assoc, p2, Nat.mul_comm (B n)] at this
    exact this
  have vlow : 9223372036854775808 * B ((lim b).length - 1) ≤ val (lim b) * 2 ^ s := by
    rw [val_lim, hn, Nat.add_sub_cancel]
    have := Nat.mul_le_mul_right (2 ^ s) bt.1
    rw [Nat.mul_assoc, p1, Nat.mul_comm (B n)] at this
    exact this
  have hval : a < B (lim a).length := (lim_len_le a _).1 (Nat.le_refl _)
  have s63 : 2 ^ s ≤ 9223372036854775808 := by
    have := Nat.pow_le_pow_right (n := 2) (by omega) (show s ≤ 63 by omega)
    exact this
  have ufit1 : val (lim a) * 2 ^ s < 9223372036854775808 * B (lim a).length := by
    rw [val_lim]
    have h1 := Nat.mul_le_mul_left a s63
    have h2 := Nat.mul_lt_mul_of_pos_right hval (show 0 < 9223372036854775808 by omega)
    omega
  have ufit : val (lim a) * 2 ^ s < B ((lim a).length + 1) := by
    rw [B_succ]
    have := B_pos (lim a).length
    omega
  obtain ⟨v, hv1, hv2, hv3, hv4⟩ := quot_raised_ev (n := (lim b).length) (s := s) (ok_lim b) (by omega) (Nat.le_refl _) (by omega) vfit
  obtain ⟨u, hu1, hu2, hu3, hu4⟩ := quot_raised_ev (n := (lim a).length + 1) (s := s) (ok_lim a) (by omega) (by omega) (by omega) ufit
  rw [val_lim] at hv4 hu4
  have hpp := Nat.pow_pos (n := s) (show 0 < 2 by omega)
  have hq : val u / val v = a / b := by rw [hu4, hv4, Nat.mul_div_mul_right _ _ hpp]
  have hr : val u % val v = a % b * 2 ^ s := by rw [hu4, hv4, Nat.mul_mod_mul_right]
  have hV0 : 0 < val v := by rw [hv4]; exact Nat.mul_pos (by omega) hpp
  have hvB : val v < B (lim b).length := by rw [← hv2]; exact val_lt hv3
  have hrB : val u % val v < B (lim b).length := Nat.lt_trans (Nat.mod_lt _ hV0) hvB
  have sh := nat_Shr_ev (a := fixl (lim b).length (val u % val v)) (n := (s : Int)) (fixl_ok _ _) (by rw [fixl_len]; omega) (by omega)
  rw [fixl_val _ _ hrB, shrAns, if_pos (Nat.lt_of_lt_of_le hrB (B_mono (by omega))), if_neg (by omega), Int.toNat_natCast, hr, Nat.mul_div_cancel _ hpp] at sh
  generalize decide (a % b * 2 ^ s ≠ 0 ∧ ((tz (a % b * 2 ^ s) : Nat) : Int) < (s : Int)) = lost at sh
  have hqB : val u / val v < B ((lim a).length - (lim b).length + 1) := by
    rw [hq]
    refine (Nat.div_lt_iff_lt_mul (by omega)).2 ?_
    have h1 := lim_len_ge b hb0
    have h2 := Nat.mul_le_mul_left (B ((lim a).length - (lim b).length + 1)) h1
    rw [← B_add, show (lim a).length - (lim b).length + 1 + ((lim b).length - 1) = (lim a).length by omega] at h2
    omega
  have tr := nat_Trim_ev (l := fixl ((lim a).length - (lim b).length + 1) (val u / val v)) (fixl_ok _ _) (by rw [fixl_len]; omega)
  rw [fixl_val _ _ hqB, hq] at tr
  rw [← hq] at tr
  obtain ⟨K1, k1⟩ := hv1
  obtain ⟨K2, k2⟩ := hu1
  obtain ⟨K3, k3⟩ := sh
  obtain ⟨K4, k4⟩ := tr
  rw [← hr] at k3
  have good : ∃ k s' v' u' lost er, quot_long.Good (lim a) (lim b) k s' v' u' lost er := by
    refine ⟨K1 + K2 + K3 + K4, (s : Int), v, u, lost, 0, ⟨hb, hab, la, lz, k1 _ (by omega), k2 _ (by omega), hv2, hu2, hv3, hu3, by rw [hv4]; have h := vlow; rw [val_lim] at h; exact h, by rw [hu4]; have h := ufit1; rw [val_lim] at h; exact h, ?_, ?_, ?_⟩⟩
    · intro p h1 h2 h3
      exact quot_guess_ev h2 hv3 (by rw [h1, hv2]) (by omega) (by omega) (by rw [hv2, hv4]; have h := vlow; rw [val_lim] at h; exact h) h3
    · rw [val_lim, val_lim]
      exact k3 _ (by omega)
    · rw [val_lim, val_lim, ← hq]
      exact k4 _ (by omega)
  unfold quot_long.f
  rw [if_pos good, val_lim, val_lim]
end Go.Proofs.YtiigfmmflicdpaaDoor.NLong
