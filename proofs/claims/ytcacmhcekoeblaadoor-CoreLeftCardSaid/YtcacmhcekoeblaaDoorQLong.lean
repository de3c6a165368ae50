/- What the long division of quot computes: quotient and remainder. Conditions: trimmed lists within the limit, the divisor of two limbs at least and not above. -/
import Derived.Test.YtcacmhcekoeblaaDoorQBits
import Derived.Test.YtcacmhcekoeblaaDoorQDiv
import Derived.Test.YtcacmhcekoeblaaDoorQNat2
import Derived.Test.YtcacmhcekoeblaaDoorQLongL
namespace Go.Proofs.YtcacmhcekoeblaaDoor.Long
open Go.RowKit Go.Proofs.YtcacmhcekoeblaaDoor.Lib Go.Proofs.YtcacmhcekoeblaaDoor.LibB Go.Proofs.YtcacmhcekoeblaaDoor.LongL Go.Proofs.YtcacmhcekoeblaaDoor.F Go.Proofs.YtcacmhcekoeblaaDoor.Nat1 Go.Proofs.YtcacmhcekoeblaaDoor.Nat2 Go.Proofs.YtcacmhcekoeblaaDoor.Bits Go.Proofs.YtcacmhcekoeblaaDoor.Div
open Go.Proofs.YtcacmhcekoeblaaDoorA (rd ln ln_eq mx mn shl shr wr wr_eq)
set_option linter.unusedVariables false
set_option linter.unusedSimpArgs false

/-! ### raised -/
theorem raise_digit {x old : Int} {p : Nat} (hp : p < 64) (hx : 0 ≤ x ∧ x < 18446744073709551616) (ho : 0 ≤ old ∧ old.toNat < 2 ^ p) :
    ∃ d e : Int, Go.bits .or .u64 old (shl .u64 x (p : Int)) = d ∧ shr .u64 x ((64 - p : Nat) : Int) = e ∧ (0 ≤ d ∧ d < 18446744073709551616) ∧ (0 ≤ e ∧ e < 18446744073709551616 ∧ e.toNat < 2 ^ p) ∧ d.toNat + 18446744073709551616 * e.toNat = old.toNat + x.toNat * 2 ^ p := by
  obtain ⟨X, rfl⟩ := Int.eq_ofNat_of_zero_le hx.1
  obtain ⟨O, rfl⟩ := Int.eq_ofNat_of_zero_le ho.1
  have h64 := pow_lt_64 hp
  have hpp := Nat.pow_pos (n := p) (show 0 < 2 by omega)
  have e1 : shr .u64 (X : Int) ((64 - p : Nat) : Int) = ((X / 2 ^ (64 - p) : Nat) : Int) := by
    rw [shr_u64 (by omega)]; omega
  have e2 : shl .u64 (X : Int) (p : Int) = ((X % 2 ^ (64 - p) * 2 ^ p : Nat) : Int) := by
    rw [shl_u64 hx.1 (by omega), ← Int.natCast_mul, show (18446744073709551616 : Int) = ((18446744073709551616 : Nat) : Int) from rfl, ← Int.natCast_emod, pow_parts (s := p) (by omega), Nat.mul_mod_mul_right]
  have hX : X < 18446744073709551616 := by omega
  have hO : O < 2 ^ p := by simpa using ho.2
  have he : X / 2 ^ (64 - p) < 2 ^ p := by
    rw [pow_parts (s := p) (by omega)] at hX
    exact Nat.div_lt_of_lt_mul hX
  have hd := low_fits (x := X) (s := p) (by omega) O hO
  refine ⟨((X % 2 ^ (64 - p) * 2 ^ p + O : Nat) : Int), ((X / 2 ^ (64 - p) : Nat) : Int), by rw [e2]; exact or_low' hO hd, e1, nat_lt hd, ⟨(nat_lt (Nat.lt_trans he h64)).1, (nat_lt (Nat.lt_trans he h64)).2, by rw [Int.toNat_natCast]; exact he⟩, ?_⟩
  have h1 := Nat.div_add_mod X (2 ^ (64 - p))
  simp only [Int.toNat_natCast]
  conv => rhs; rw [← h1]
  rw [pow_parts (s := p) (by omega), Nat.add_mul, Nat.mul_right_comm]
  omega
theorem val_take_le (l : List Int) (i : Nat) : val (l.take i) ≤ val l := by
  have := val_split l i
  omega
theorem raise_row {V P o d e x q : Nat} (h2 : d + 18446744073709551616 * e = o + x * q) {W : Nat} (h1 : W + P * o = V + P * d) : W + 18446744073709551616 * P * e = V + P * x * q := by
  have : P * (d + 18446744073709551616 * e) = P * (o + x * q) := by rw [h2]
  rw [Nat.mul_add, Nat.mul_add, ← Nat.mul_assoc P, ← Nat.mul_assoc P, Nat.mul_comm P 18446744073709551616] at this
  omega
theorem raised_l {a : List Int} {n s : Nat} (ha : ok a) (hs : s < 64) (hal : a.length ≤ n) (hn : n ≤ 35184372088832) (hfit : val a * 2 ^ s < B n) (d : Nat) :
    ∀ (i : Nat) (out : List Int), i + d = a.length → out.length = n → ok out → Aside0 (val out = val (a.take i) * 2 ^ s) → (i < n → (rd out (i : Int)).toNat < 2 ^ s) → (∀ k, i < k → rd out ((k : Nat) : Int) = 0) →
      ∃ r, Ev (fun k m _ => quot_raised.l117 k m (s : Int) (n : Int) a (a.length : Int) (i : Int) out) r ∧ r.length = n ∧ ok r ∧ val r = val a * 2 ^ s := by
  induction d with
  | zero =>
    intro i out hi ho h6 hv hc hz
    obtain rfl : i = a.length := by omega
    refine ⟨out, Ev_succ ?_, ho, h6, ?_⟩
    · simp only [quot_raised.l117, quot_raised.b117]
      exact Ev_neg (by omega) (Ev_some rfl)
    · rw [hv.out, val_take_all a (Nat.le_refl _)]
  | succ d ih =>
    intro i out hi ho h6 hv hc hz
    have hin : i < n := by omega
    have e : wrap64 ((i : Int) + 1) = ((i + 1 : Nat) : Int) := by unfold wrap64; omega
    have ws : IntKind.u64.wrap (s : Int) = (s : Int) := by rw [IntKind.wrap_u64]; omega
    have ws2 : IntKind.u64.wrap (wrap64 (64 - (s : Int))) = ((64 - s : Nat) : Int) := by
      rw [show wrap64 (64 - (s : Int)) = ((64 - s : Nat) : Int) by unfold wrap64; omega, IntKind.wrap_u64]; omega
    have rx := ok_rd ha (i : Int)
    have ro := ok_rd h6 (i : Int)
    obtain ⟨dg, cr, e1, e2, d0, c0, hdg⟩ := raise_digit hs rx ⟨ro.1, hc hin⟩
    have ok1 := ok_set h6 i d0.1 d0.2
    have hv1 := val_set out i dg (by omega)
    have hrow := raise_row hdg hv1
    have hrow2 : val (out.set i dg) + B (i + 1) * cr.toNat = val (a.take (i + 1)) * 2 ^ s := by
      rw [B_succ, hrow, hv.out, val_take_succ, Nat.add_mul]
    have hnext : (∀ r, r.length = n → ok r → val r = val (a.take (i + 1)) * 2 ^ s → (i + 1 < n → (rd r ((i + 1 : Nat) : Int)).toNat < 2 ^ s) → (∀ k, i + 1 < k → rd r ((k : Nat) : Int) = 0) →
        ∃ q, Ev (fun k m _ => quot_raised.l117 k m (s : Int) (n : Int) a (a.length : Int) ((i + 1 : Nat) : Int) r) q ∧ q.length = n ∧ ok q ∧ val q = val a * 2 ^ s) :=
      fun r h1 h2 h3 h4 h5 => ih (i + 1) r (by omega) h1 h2 ⟨h3⟩ h4 h5
    have hz1 : ∀ k, i < k → rd (out.set i dg) ((k : Nat) : Int) = 0 := fun k hk => by rw [rd_set_ne _ _ _ _ (by omega)]; exact hz k hk
    by_cases hlast : i + 1 < n
    · by_cases hs0 : 0 < s
      · have hl1 : (out.set i dg).length = n := by rw [List.length_set, ho]
        have hv2 := val_set (out.set i dg) (i + 1) cr (by omega)
        rw [hz1 (i + 1) (by omega), show (0 : Int).toNat = 0 from rfl, Nat.mul_zero, Nat.add_zero] at hv2
        obtain ⟨r, hr1, hr2⟩ := hnext ((out.set i dg).set (i + 1) cr) (by rw [List.length_set, hl1]) (ok_set ok1 _ c0.1 c0.2.1) (by rw [hv2, hrow2]) (fun _ => by rw [rd_set_self _ _ _ (by omega)]; exact c0.2.2) (fun k hk => by rw [rd_set_ne _ _ _ _ (by omega)]; exact hz1 k (by omega))
        refine ⟨r, Ev_succ ?_, hr2⟩
        simp only [quot_raised.l117, quot_raised.b117, ln_eq, List.length_set, e, ws, ws2, Int.toNat_natCast, e1, e2, Option.bind_some]
        refine Ev_pos (by omega) (Ev_pos (by omega) (Ev_pos (by omega) (Ev_pos (by omega) (Ev_pos (by omega) (Ev_pos (by omega) (Ev_pos (by omega) (Ev_pos (by omega) (Ev_pos (by omega) (Ev_pos (by omega) (Ev_pos (by omega) (Ev_pos (by omega) (Ev_pos (by omega) (?_)))))))))))))
        exact hr1
      · have hs1 : s = 0 := by omega
        have hcr : cr.toNat = 0 := by have := c0.2.2; rw [hs1] at this; omega
        rw [hcr, Nat.mul_zero, Nat.add_zero] at hrow2
        obtain ⟨r, hr1, hr2⟩ := hnext (out.set i dg) (by rw [List.length_set, ho]) ok1 hrow2 (fun _ => by rw [hz1 (i + 1) (by omega)]; exact Nat.pow_pos (by omega)) (fun k hk => hz1 k (by omega))
        refine ⟨r, Ev_succ ?_, hr2⟩
        simp only [quot_raised.l117, quot_raised.b117, ln_eq, List.length_set, e, ws, Int.toNat_natCast, e1, Option.bind_some]
        refine Ev_pos (by omega) (Ev_pos (by omega) (Ev_pos (by omega) (Ev_pos (by omega) (Ev_pos (by omega) (Ev_pos (by omega) (Ev_pos (by omega) (Ev_pos (by omega) (Ev_pos (by omega) (Ev_neg (by omega) ?_)))))))))
        exact hr1
    · have hcr : cr.toNat = 0 := by
        have h1 := Nat.mul_le_mul_right (2 ^ s) (val_take_le a (i + 1))
        rcases Nat.eq_zero_or_pos cr.toNat with h | h
        · exact h
        · have h2 := Nat.le_mul_of_pos_right (B (i + 1)) h
          rw [show i + 1 = n by omega] at h2 hrow2 h1
          omega
      rw [hcr, Nat.mul_zero, Nat.add_zero] at hrow2
      obtain ⟨r, hr1, hr2⟩ := hnext (out.set i dg) (by rw [List.length_set, ho]) ok1 hrow2 (fun h => absurd h hlast) (fun k hk => hz1 k (by omega))
      refine ⟨r, Ev_succ ?_, hr2⟩
      simp only [quot_raised.l117, quot_raised.b117, ln_eq, List.length_set, e, ws, Int.toNat_natCast, e1, Option.bind_some]
      refine Ev_pos (by omega) (Ev_pos (by omega) (Ev_pos (by omega) (Ev_pos (by omega) (Ev_pos (by omega) (Ev_pos (by omega) (Ev_pos (by omega) (Ev_pos (by omega) (Ev_neg (by omega) ?_))))))))
      exact hr1
theorem quot_raised_ev {a : List Int} {n s : Nat} (ha : ok a) (hs : s < 64) (hal : a.length ≤ n) (hn : n ≤ 35184372088832) (hfit : val a * 2 ^ s < B n) :
    ∃ r, Ev (fun k _ _ => quot_raised.f k a (s : Int) (n : Int)) r ∧ r.length = n ∧ ok r ∧ val r = val a * 2 ^ s := by
  obtain ⟨r, h1, h2⟩ := raised_l ha hs hal hn hfit a.length 0 (List.replicate n 0) (by omega) (List.length_replicate ..) (ok_replicate n) ⟨by rw [val_replicate, List.take_zero, val_nil, Nat.zero_mul]⟩
    (fun h => by rw [rd_nat, List.getD_eq_getElem?_getD, List.getElem?_replicate, if_pos h]; exact Nat.pow_pos (by omega))
    (fun k hk => by
      rw [rd_nat, List.getD_eq_getElem?_getD, List.getElem?_replicate]
      split <;> rfl)
  refine ⟨r, ?_, h2⟩
  simp only [quot_raised.f, quot_raised.b0, ln_eq]
  refine Ev_pos (by omega) (Ev_pos (by omega) ?_)
  rw [Int.toNat_natCast]
  exact Ev_in (g := fun k m _ => quot_raised.l117 k m (s : Int) (n : Int) a (a.length : Int) 0 (List.replicate n 0)) h1

/-! ### guess -/
theorem swap3 (a b c : Nat) : a * (b * c) = c * (b * a) := by rw [Nat.mul_comm a, Nat.mul_assoc, Nat.mul_left_comm c]
theorem quot_guess_ev {p v : List Int} (hp : ok p) (hv : ok v) (hl : p.length = v.length + 1) (hn : 2 ≤ v.length) (hmax : v.length ≤ 35184372088832) (hb : 9223372036854775808 * B (v.length - 1) ≤ val v) (hlt : val p < 18446744073709551616 * val v) :
    ∃ d, Ev (fun k _ _ => quot_guess.f k p v) d ∧ 0 ≤ d ∧ d < 18446744073709551616 ∧ val p < (d.toNat + 1) * val v := by
  obtain ⟨n, hn1⟩ : ∃ n, v.length = n + 1 := ⟨v.length - 1, by omega⟩
  have e1 : wrap64 ((v.length : Int) - 1) = (n : Int) := by unfold wrap64; omega
  have ra := ok_rd hp ((n + 1 : Nat) : Int)
  have rb := ok_rd hp (n : Int)
  have rc := ok_rd hv (n : Int)
  have sv := val_take_succ v n
  rw [val_take_all v (by omega)] at sv
  have sp := val_take_succ p (n + 1)
  rw [val_take_all p (by omega), val_take_succ p n] at sp
  have lv := val_lt (ok_take hv n)
  have lp := val_lt (ok_take hp n)
  rw [List.length_take, Nat.min_eq_left (by omega)] at lv lp
  by_cases hg : rd p (v.length : Int) ≥ rd v (n : Int)
  · refine ⟨18446744073709551615, ?_, by omega, by omega, ?_⟩
    · simp only [quot_guess.f, quot_guess.b0, ln_eq, e1]
      exact Ev_pos (by omega) (Ev_pos (by omega) (Ev_pos (by omega) (Ev_pos (by omega) (Ev_pos hg (Ev_some rfl)))))
    · exact hlt
  · have hh : rd p (v.length : Int) < rd v (n : Int) := by omega
    rw [show (v.length : Int) = ((n + 1 : Nat) : Int) by omega] at hh
    have hd := div64_ev ra.1 rb rc.2 hh
    have q0 : 0 ≤ (rd p ((n + 1 : Nat) : Int) * 18446744073709551616 + rd p (n : Int)) / rd v (n : Int) := Int.ediv_nonneg (by omega) rc.1
    have q1 : (rd p ((n + 1 : Nat) : Int) * 18446744073709551616 + rd p (n : Int)) / rd v (n : Int) < 18446744073709551616 := by
      rw [Int.ediv_lt_iff_lt_mul (by omega)]; omega
    refine ⟨_, ?_, q0, q1, ?_⟩
    · simp only [quot_guess.f, quot_guess.b0, ln_eq, e1]
      rw [show (v.length : Int) = ((n + 1 : Nat) : Int) by omega]
      exact Ev_pos (by omega) (Ev_pos (by omega) (Ev_pos (by omega) (Ev_pos (by omega) (Ev_neg (by omega) (Ev_pos (by omega) (Ev_pos (by omega) (Ev_pos (by omega) (Ev_pos (by omega) (Ev_pos (by omega) (Ev_pos (by omega) (Ev.bind hd (Ev_some rfl))))))))))))
    · have g := guess_ge (lp := val (p.take n)) (lv := val (v.take n)) (P := B n) (T := (rd p ((n + 1 : Nat) : Int)).toNat * 18446744073709551616 + (rd p (n : Int)).toNat) (t := 0) (v := (rd v (n : Int)).toNat) lp (by omega) rfl
      have ed : ((rd p ((n + 1 : Nat) : Int) * 18446744073709551616 + rd p (n : Int)) / rd v (n : Int)).toNat = ((rd p ((n + 1 : Nat) : Int)).toNat * 18446744073709551616 + (rd p (n : Int)).toNat) / (rd v (n : Int)).toNat := by
        generalize rd p ((n + 1 : Nat) : Int) = x at *
        generalize rd p (n : Int) = y at *
        generalize rd v (n : Int) = z at *
        obtain ⟨X, rfl⟩ := Int.eq_ofNat_of_zero_le ra.1
        obtain ⟨Y, rfl⟩ := Int.eq_ofNat_of_zero_le rb.1
        obtain ⟨Z, rfl⟩ := Int.eq_ofNat_of_zero_le rc.1
        simp only [Int.toNat_natCast]
        rw [show (X : Int) * 18446744073709551616 + (Y : Int) = ((X * 18446744073709551616 + Y : Nat) : Int) by omega, ← Int.natCast_ediv, Int.toNat_natCast]
      rw [ed, sv, sp]
      refine Nat.lt_of_le_of_lt ?_ g
      rw [Nat.mul_add, B_succ, Nat.mul_left_comm (B n), Nat.mul_assoc 18446744073709551616, swap3]
      omega

/-! ### takeOff -/
theorem lo_range (m : Int) : 0 ≤ m % 18446744073709551616 ∧ m % 18446744073709551616 < 18446744073709551616 := by omega
theorem mul_bound {d x m : Int} (hd : 0 ≤ d ∧ d < 18446744073709551616) (hx : 0 ≤ x ∧ x < 18446744073709551616) (hm : d * x = m) : 0 ≤ m ∧ m ≤ 340282366920938463426481119284349108225 := by
  subst hm
  refine ⟨Int.mul_nonneg hd.1 hx.1, ?_⟩
  have := Int.mul_le_mul (show d ≤ 18446744073709551615 by omega) (show x ≤ 18446744073709551615 by omega) hx.1 (by omega)
  exact this
theorem takeOff_l {p v : List Int} {d : Int} (hp : ok p) (hv : ok v) (hl : p.length = v.length + 1) (hn : v.length ≤ 35184372088832) (hd : 0 ≤ d ∧ d < 18446744073709551616) (e : Nat) :
    ∀ (i : Nat) (xs : List Int) (c b : Int), i + e = v.length → Tk p v 0 d i xs c b → ∃ ys b', Ev (fun k m _ => quot_takeOff.l117 k m v d c b (i : Int) (v.length : Int) xs) (ys, b' != 0) ∧ TkDone p v 0 v.length d ys b' := by
  induction e with
  | zero =>
    intro i xs c b hi T
    obtain rfl : i = v.length := by omega
    have F := T.finish rfl (by omega)
    simp only [Nat.zero_add] at F
    have rx := ok_rd T.ok (v.length : Int)
    have c0 := T.c0
    have b0 := T.b0
    have xl := T.len
    refine ⟨_, _, Ev_succ ?_, F⟩
    simp only [quot_takeOff.l117, quot_takeOff.b117, quot_takeOff.l15, quot_takeOff.b15, ln_eq]
    refine Ev_neg (by omega) (Ev_pos (by omega) (Ev_pos (by omega) ?_))
    refine Ev_bind_eq (by unfold bits_Sub64.f; rw [if_pos ⟨rx.1, c0.1, c0.2, b0.1, b0.2⟩]) (Ev_pos (by omega) (Ev_pos (by omega) (Ev_some ?_)))
    rw [Int.toNat_natCast]
    congr 1
    dsimp only
    split <;> simp
  | succ e ih =>
    intro i xs c b hi T
    have hlt : 0 + i < p.length := by omega
    have xl := T.len
    have e1 : wrap64 ((i : Int) + 1) = ((i + 1 : Nat) : Int) := by unfold wrap64; omega
    have go : ∃ x y z w, bits_Mul64.f d (rd v (i : Int)) = some (x, y) ∧ bits_Add64.f y c 0 = some (z, w) ∧ ∃ q r, bits_Sub64.f (rd xs (i : Int)) z b = some (q, r) ∧ Tk p v 0 d (i + 1) (xs.set i q) (IntKind.u64.wrap (x + w)) r := by
      have hx := ok_rd hv (i : Int)
      have rx := ok_rd T.ok (i : Int)
      have c0 := T.c0
      have b0 := T.b0
      obtain ⟨m, hm⟩ : ∃ m, d * rd v (i : Int) = m := ⟨_, rfl⟩
      have hml := mul64 hd hx
      rw [hm] at hml
      have mb := mul_bound hd hx hm
      have S := T.step hlt hd hv hm mb.1 mb.2
      simp only [Nat.zero_add] at S
      have cc := tk_carry (c := c) c0 mb.1 mb.2
      have lo := lo_range m
      have lo2 := lo_range (m % 18446744073709551616 + c + 0)
      have had := add64 (c := 0) lo c0 (by decide)
      refine ⟨_, _, _, _, hml, had, _, _, by unfold bits_Sub64.f; rw [if_pos ⟨rx.1, lo2.1, lo2.2, b0.1, b0.2⟩], ?_⟩
      rw [wrapU cc.1 cc.2]
      exact S
    obtain ⟨x, y, z, w, hml, had, q, r, hsb, S⟩ := go
    obtain ⟨ys, b', h1, h2⟩ := ih (i + 1) _ _ _ (by omega) S
    refine ⟨ys, b', Ev_succ ?_, h2⟩
    clear S T h2 hd
    simp only [quot_takeOff.l117, quot_takeOff.b117, ln_eq, e1, Int.toNat_natCast]
    exact Ev_pos (by omega) (Ev_pos (by omega) (Ev_pos (by omega) (Ev_bind_eq hml (Ev_bind_eq had (Ev_pos (by omega) (Ev_pos (by omega) (Ev_bind_eq hsb (Ev_pos (by omega) (Ev_pos (by omega) h1)))))))))
theorem takeOff_ev {p v : List Int} {d : Int} (hp : ok p) (hv : ok v) (hl : p.length = v.length + 1) (hn : v.length ≤ 35184372088832) (hd : 0 ≤ d ∧ d < 18446744073709551616) :
    ∃ ys b, Ev (fun k _ _ => quot_takeOff.f k p v d) (ys, b != 0) ∧ TkDone p v 0 v.length d ys b := by
  obtain ⟨ys, b, h1, h2⟩ := takeOff_l hp hv hl hn hd v.length 0 p 0 0 (by omega) (Tk.start hp)
  refine ⟨ys, b, ?_, h2⟩
  simp only [quot_takeOff.f, quot_takeOff.b0, ln_eq]
  exact Ev_in (g := fun k m _ => quot_takeOff.l117 k m v d 0 0 0 (v.length : Int) p) h1

/-! ### putBack -/
theorem putBack_l {p v : List Int} (hp : ok p) (hv : ok v) (hl : p.length = v.length + 1) (hn : v.length ≤ 35184372088832) (e : Nat) :
    ∀ (i : Nat) (xs : List Int) (c : Int), i + e = v.length → Pb p v 0 i xs c → ∃ ys c', Ev (fun k m _ => quot_putBack.l117 k m v c (i : Int) (v.length : Int) xs) (ys, c' != 0) ∧ PbDone p v 0 v.length ys c' := by
  induction e with
  | zero =>
    intro i xs c hi T
    obtain rfl : i = v.length := by omega
    have F := T.finish rfl (by omega)
    simp only [Nat.zero_add] at F
    have rx := ok_rd T.ok (v.length : Int)
    have c0 := T.c0
    have xl := T.len
    refine ⟨_, _, Ev_succ ?_, F⟩
    simp only [quot_putBack.l117, quot_putBack.b117, quot_putBack.l15, quot_putBack.b15, ln_eq]
    refine Ev_neg (by omega) (Ev_pos (by omega) (Ev_pos (by omega) ?_))
    refine Ev_bind_eq (add64 rx (by omega) c0) (Ev_pos (by omega) (Ev_pos (by omega) (Ev_some ?_)))
    rw [Int.toNat_natCast]
    congr 1
    dsimp only
    generalize (rd xs (v.length : Int) + 0 + c) / 18446744073709551616 = z
    by_cases hz : z = 0 <;> simp [hz]
  | succ e ih =>
    intro i xs c hi T
    have hx := ok_rd hv (i : Int)
    have rx := ok_rd T.ok (i : Int)
    have c0 := T.c0
    have xl := T.len
    have e1 : wrap64 ((i : Int) + 1) = ((i + 1 : Nat) : Int) := by unfold wrap64; omega
    have S := T.step (by omega) hv
    simp only [Nat.zero_add] at S
    obtain ⟨ys, b', h1, h2⟩ := ih (i + 1) _ _ (by omega) S
    refine ⟨ys, b', Ev_succ ?_, h2⟩
    simp only [quot_putBack.l117, quot_putBack.b117, ln_eq, e1, Int.toNat_natCast]
    refine Ev_pos (by omega) (Ev_pos (by omega) (Ev_pos (by omega) (Ev_pos (by omega) (Ev_pos (by omega) ?_))))
    refine Ev_bind_eq (add64 rx hx c0) (Ev_pos (by omega) (Ev_pos (by omega) ?_))
    exact h1
theorem putBack_ev {p v : List Int} (hp : ok p) (hv : ok v) (hl : p.length = v.length + 1) (hn : v.length ≤ 35184372088832) :
    ∃ ys c, Ev (fun k _ _ => quot_putBack.f k p v) (ys, c != 0) ∧ PbDone p v 0 v.length ys c := by
  obtain ⟨ys, b, h1, h2⟩ := putBack_l hp hv hl hn v.length 0 p 0 (by omega) (Pb.start hp)
  refine ⟨ys, b, ?_, h2⟩
  simp only [quot_putBack.f, quot_putBack.b0, ln_eq]
  exact Ev_in (g := fun k m _ => quot_putBack.l117 k m v 0 0 (v.length : Int) p) h1

/-! ### a window written back -/
def wb (us ys : List Int) (j n : Nat) : List Int := us.take j ++ ys ++ us.drop (j + n)
theorem wb_len {us ys : List Int} {j n : Nat} (hj : j + n ≤ us.length) (hy : ys.length = n) : (wb us ys j n).length = us.length := by
  unfold wb
  simp only [List.length_append, List.length_take, List.length_drop, hy]
  omega
theorem wb_rd {us ys : List Int} {j n : Nat} (hj : j + n ≤ us.length) (hy : ys.length = n) (k : Nat) (hk : k < j ∨ j + n ≤ k) : rd (wb us ys j n) (k : Int) = rd us (k : Int) := by
  rw [rd_nat, rd_nat]
  unfold wb
  simp only [List.getD_eq_getElem?_getD]
  congr 1
  rcases hk with hk | hk
  · rw [List.append_assoc, List.getElem?_append_left (by rw [List.length_take]; omega), List.getElem?_take, if_pos hk]
  · rw [List.getElem?_append_right (by simp only [List.length_append, List.length_take, hy]; omega), List.getElem?_drop]
    congr 1
    simp only [List.length_append, List.length_take, hy]
    omega
theorem wb_win {us ys : List Int} {j n : Nat} (hj : j + n ≤ us.length) (hy : ys.length = n) : win (wb us ys j n) j n = val ys := by
  unfold win wb
  rw [List.append_assoc, List.drop_left' (by rw [List.length_take]; omega), List.take_left' hy]
theorem wb_ok {us ys : List Int} {j n : Nat} (h : ok us) (hy : ok ys) : ok (wb us ys j n) := by
  unfold wb
  exact ok_append (ok_append (ok_take h j) hy) (ok_drop h _)
theorem part_val {us : List Int} {j n : Nat} : val ((us.take (j + n)).drop j) = win us j n := by
  unfold win
  rw [List.drop_take, Nat.add_sub_cancel_left]
theorem win_self {p : List Int} {n : Nat} (h : p.length = n) : win p 0 n = val p := by
  unfold win
  rw [List.drop_zero, List.take_of_length_le (by omega)]
theorem tk_lift {us v ys : List Int} {j : Nat} {d b : Int} (ou : ok us) (hj : j + (v.length + 1) ≤ us.length) (T : TkDone ((us.take (j + (v.length + 1))).drop j) v 0 v.length d ys b) : TkDone us v j v.length d (wb us ys j (v.length + 1)) b := by
  have hpl : ((us.take (j + (v.length + 1))).drop j).length = v.length + 1 := by simp; omega
  have hyl : ys.length = v.length + 1 := by rw [T.len, hpl]
  have e := T.eq
  rw [win_self hyl, win_self hpl, part_val] at e
  refine ⟨wb_len hj hyl, wb_ok ou T.ok, fun k hk => wb_rd hj hyl k (by omega), T.b0, ?_⟩
  rw [wb_win hj hyl]
  exact e
theorem pb_lift {us v ys : List Int} {j : Nat} {c : Int} (ou : ok us) (hj : j + (v.length + 1) ≤ us.length) (T : PbDone ((us.take (j + (v.length + 1))).drop j) v 0 v.length ys c) : PbDone us v j v.length (wb us ys j (v.length + 1)) c := by
  have hpl : ((us.take (j + (v.length + 1))).drop j).length = v.length + 1 := by simp; omega
  have hyl : ys.length = v.length + 1 := by rw [T.len, hpl]
  have e := T.eq
  rw [win_self hyl, win_self hpl, part_val] at e
  refine ⟨wb_len hj hyl, wb_ok ou T.ok, fun k hk => wb_rd hj hyl k (by omega), T.c0, ?_⟩
  rw [wb_win hj hyl]
  exact e

/-! ### long -/
section
variable {U V m : Nat} {v : List Int} {s : Nat} {R : List Int × List Int}
theorem long_in (hv : ok v) (hV : val v = V) (hVB : V ≤ B v.length) (hV0 : 0 < V) (hm : m + v.length ≤ 17592186044416) {j : Nat} (hj : j < m) {us0 qs : List Int} (L : Lg U V v.length m (j + 1) us0 qs)
    (ih : ∀ us qs, Lg U V v.length m j us qs → Ev (fun i k _ => quot_long.l7157 i k (v.length : Int) (s : Int) ((j : Int) - 1) v us qs) R) (e : Nat) :
    ∀ (us : List Int) (d : Int) (neg : Bool), d.toNat ≤ e → Aside0 (Dg U V v.length m j us0 qs us d neg) →
      Ev (fun i k p => quot_long.l1832093 i (quot_long.l7157 i k) p (v.length : Int) (s : Int) (j : Int) ((j + (v.length + 1) : Nat) : Int) d neg v us qs) R := by
  have hql := L.ql
  have hul := L.ul
  have w1 : wrap64 ((j : Int) - 1) = (j : Int) - 1 := by unfold wrap64; omega
  have stop : ∀ (us : List Int) (d : Int), Dg U V v.length m j us0 qs us d false → Ev (fun i k p => quot_long.l1832093 i (quot_long.l7157 i k) p (v.length : Int) (s : Int) (j : Int) ((j + (v.length + 1) : Nat) : Int) d false v us qs) R := by
    intro us d D
    refine Ev_succ2 ?_
    simp only [quot_long.l1832093, quot_long.b1832093, ln_eq, w1, Int.toNat_natCast]
    exact Ev_pos rfl (Ev_pos (by omega) (Ev_pos (by omega) (ih _ _ (L.step hVB hV0 hj D))))
  induction e with
  | zero =>
    intro us d neg hd D
    cases neg with
    | false => exact stop us d D.out
    | true =>
      have := D.out.pos hV0
      omega
  | succ e ihe =>
    intro us d neg hd D
    cases neg with
    | false => exact stop us d D.out
    | true =>
      have hdl := D.out.len
      have d0 := D.out.d0
      obtain ⟨ys, c, h1, h2⟩ := putBack_ev (p := (us.take (j + (v.length + 1))).drop j) (v := v) (ok_drop (ok_take D.out.uo _) _) hv (by simp; omega) (by omega)
      have P := pb_lift D.out.uo (by omega) h2
      obtain ⟨d1, D2⟩ := D.out.back hV hV0 P
      refine Ev_succ2 ?_
      simp only [quot_long.l1832093, quot_long.b1832093, ln_eq, Int.toNat_natCast]
      refine Ev_neg (by simp) (Ev_pos (by omega) (Ev.bind h1 ?_))
      dsimp only
      rw [wrapU (n := d - 1) (by omega) (by omega)]
      exact ihe _ (d - 1) _ (by omega) ⟨D2⟩
theorem long_l (hv : ok v) (hV : val v = V) (hVB : V ≤ B v.length) (hV0 : 0 < V) (hn : 2 ≤ v.length) (hVn : 9223372036854775808 * B (v.length - 1) ≤ V) (hm : m + v.length ≤ 17592186044416)
    (hfin : ∀ us qs, Lg U V v.length m 0 us qs → Ev (fun i _ _ => quot_long.l895 i (v.length : Int) (s : Int) us qs) R) :
    ∀ (j : Nat) (us qs : List Int), j ≤ m → Aside0 (Lg U V v.length m j us qs) → Ev (fun i k _ => quot_long.l7157 i k (v.length : Int) (s : Int) ((j : Int) - 1) v us qs) R := by
  intro j
  induction j with
  | zero =>
    intro us qs _ L
    refine Ev_succ ?_
    simp only [quot_long.l7157, quot_long.b7157]
    exact Ev_neg (by omega) (hfin us qs L.out)
  | succ j ih =>
    intro us qs hj L
    have hul := L.out.ul
    have e0 : ((j + 1 : Nat) : Int) - 1 = (j : Int) := by omega
    have e1 : wrap64 (wrap64 ((j : Int) + (v.length : Int)) + 1) = ((j + (v.length + 1) : Nat) : Int) := by unfold wrap64; omega
    have hA : j + (v.length + 1) ≤ us.length := by omega
    have hj' : j < m := by omega
    have go : ∃ d, Ev (fun k _ _ => quot_guess.f k ((us.take (j + (v.length + 1))).drop j) v) d ∧ ∃ (ys : List Int) (b : Int), Ev (fun k _ _ => quot_takeOff.f k ((us.take (j + (v.length + 1))).drop j) v d) (ys, b != 0) ∧ Aside0 (Dg U V v.length m j us qs (wb us ys j (v.length + 1)) d (b != 0)) := by
      have op : ok ((us.take (j + (v.length + 1))).drop j) := ok_drop (ok_take L.out.uo _) _
      have lp : ((us.take (j + (v.length + 1))).drop j).length = v.length + 1 := by simp; omega
      have hl4 : v.length ≤ 35184372088832 := by omega
      obtain ⟨wq, wlt⟩ := L.out.win_eq hVB hj'
      obtain ⟨d, g1, g2, g3, g4⟩ := quot_guess_ev op hv lp hn hl4 (by rw [hV]; exact hVn) (by rw [part_val, hV]; exact wlt)
      rw [part_val] at g4
      obtain ⟨ys, b, h1, h2⟩ := takeOff_ev op hv lp hl4 ⟨g2, g3⟩
      have T := tk_lift L.out.uo hA h2
      exact ⟨d, g1, ys, b, h1, ⟨Dg.start L.out hV ⟨g2, g3⟩ hV0 (by rw [← hV]; exact g4) T⟩⟩
    obtain ⟨d, g1, ys, b, h1, D⟩ := go
    have inner := Ev_in2 (long_in (s := s) hv hV hVB hV0 hm hj' L.out (fun us qs L' => ih us qs (Nat.le_of_lt hj') ⟨L'⟩) d.toNat _ d _ (Nat.le_refl _) D)
    refine Ev_succ ?_
    clear hVn hVB hV0 D hV
    simp only [quot_long.l7157, quot_long.b7157, ln_eq, e0, e1, Int.toNat_natCast]
    exact Ev_pos (by omega) (Ev_pos (by omega) (Ev_pos (by omega) (Ev_pos (by omega) (Ev_pos (by omega) (Ev.bind g1 (Ev_pos (by omega) (Ev.bind h1 inner)))))))
end
theorem blen_top {l : List Int} {n : Nat} (h : ok l) (hn : l.length = n + 1) (h0 : rd l (n : Int) ≠ 0) : B n * 2 ^ (blen (rd l (n : Int)).toNat - 1) ≤ val l ∧ val l < B n * 2 ^ blen (rd l (n : Int)).toNat := by
  have sv := val_take_succ l n
  rw [val_take_all l (by omega)] at sv
  have lv := val_lt (ok_take h n)
  rw [List.length_take, Nat.min_eq_left (by omega)] at lv
  have r := ok_rd h (n : Int)
  have g := blen_ge (n := (rd l (n : Int)).toNat) (by omega)
  have u := blen_lt (rd l (n : Int)).toNat
  have g2 := Nat.mul_le_mul_left (B n) g
  have u2 : B n * ((rd l (n : Int)).toNat + 1) ≤ B n * 2 ^ blen (rd l (n : Int)).toNat := Nat.mul_le_mul_left _ u
  rw [Nat.mul_add, Nat.mul_one] at u2
  omega
theorem long_go {a b s : Nat} {u v : List Int} (la : (lim a).length ≤ 4096) (hab : (lim b).length ≤ (lim a).length) (hb : 2 ≤ (lim b).length) (hs : s < 64) (hu2 : u.length = (lim a).length + 1) (hu3 : ok u) (hv2 : v.length = (lim b).length) (hv3 : ok v)
    (K : Aside0 (9223372036854775808 * B ((lim b).length - 1) ≤ val v ∧ val u < 9223372036854775808 * B (lim a).length ∧ 0 < val v ∧ val u / val v = a / b ∧ val u % val v = a % b * 2 ^ s))
    (lz : bits_LeadingZeros64.f (rd (lim b) (((lim b).length : Int) - 1)) = some (s : Int)) (hv1 : Ev (fun k _ _ => quot_raised.f k (lim b) (s : Int) ((lim b).length : Int)) v) (hu1 : Ev (fun k _ _ => quot_raised.f k (lim a) (s : Int) (((lim a).length + 1 : Nat) : Int)) u) :
    Ev (fun i _ _ => quot_long.f i (lim a) (lim b)) (lim (a / b), lim (a % b)) := by
  obtain ⟨m, hm⟩ : ∃ m, m = (lim a).length - (lim b).length + 1 := ⟨_, rfl⟩
  have i1 : u.length = m + v.length := by omega
  have i2 : 0 < v.length := by omega
  have i3 : m + v.length - 1 = (lim a).length := by omega
  have i4 : 2 ≤ v.length := by omega
  have i5 : m + v.length ≤ 17592186044416 := by omega
  have i6 : (lim b).length ≤ 4096 := by omega
  have hvB : val v < B v.length := val_lt hv3
  have L0 : Aside0 (Lg (val u) (val v) v.length m m u (List.replicate m 0)) := ⟨Lg.start i1 hu3 rfl i2 (by rw [hv2]; exact K.out.1) (by rw [i3]; exact K.out.2.1)⟩
  have fin : ∀ us qs, Lg (val u) (val v) v.length m 0 us qs → Ev (fun i _ _ => quot_long.l895 i (v.length : Int) (s : Int) us qs) (lim (a / b), lim (a % b)) := by
    intro us qs L
    have hul := L.ul
    have hql := L.ql
    have l1 : ((us.take v.length).drop 0).length ≤ 35184372088832 := by simp; omega
    have l2 : qs.length ≤ 35184372088832 := by omega
    have sh := nat_Shr_ev (a := (us.take v.length).drop 0) (n := (s : Int)) (ok_drop (ok_take L.uo _) _) l1 (by omega)
    have tr := nat_Trim_ev (l := qs) L.qo l2
    have c1 : (0 : Int) ≤ (v.length : Int) := by omega
    have c2 : (v.length : Int) ≤ (us.length : Int) := by omega
    have c3 : ¬ (s : Int) < 0 := by omega
    obtain ⟨f1, f2⟩ := L.finish (Nat.le_of_lt hvB) K.out.2.2.1
    rw [K.out.2.2.2.1] at f1
    rw [K.out.2.2.2.2] at f2
    have hr : a % b * 2 ^ s < B 4096 := by
      rw [← K.out.2.2.2.2]
      exact Nat.lt_of_lt_of_le (Nat.lt_trans (Nat.mod_lt _ K.out.2.2.1) hvB) (B_mono (by rw [hv2]; exact i6))
    rw [List.drop_zero, f2] at sh
    rw [shrAns, if_pos hr, if_neg c3, Int.toNat_natCast, Nat.mul_div_cancel _ (Nat.pow_pos (by decide))] at sh
    rw [f1] at tr
    simp only [quot_long.l895, quot_long.b895, ln_eq, Int.toNat_natCast, List.drop_zero]
    exact Ev_pos c1 (Ev_pos c2 (Ev.bind sh (Ev.bind tr (Ev_some rfl))))
  have main := long_l (s := s) hv3 rfl (Nat.le_of_lt hvB) K.out.2.2.1 i4 (by rw [hv2]; exact K.out.1) i5 fin m u (List.replicate m 0) (Nat.le_refl _) L0
  clear fin L0 K hvB
  have e1 : wrap64 (((lim b).length : Int) - 1) = ((lim b).length : Int) - 1 := by unfold wrap64; omega
  have e2 : wrap64 (((lim a).length : Int) + 1) = (((lim a).length + 1 : Nat) : Int) := by unfold wrap64; omega
  have e3 : wrap64 (wrap64 (((lim a).length : Int) - ((lim b).length : Int)) + 1) = (m : Int) := by unfold wrap64; omega
  have e4 : wrap64 ((m : Int) - 1) = (m : Int) - 1 := by unfold wrap64; omega
  simp only [quot_long.f, quot_long.b0, ln_eq, e1, e2, e3, Int.toNat_natCast, List.length_replicate, e4]
  rw [hv2] at main
  have c1 : (0 : Int) ≤ ((lim b).length : Int) - 1 := by omega
  have c2 : ((lim b).length : Int) - 1 < ((lim b).length : Int) := by omega
  have c3 : (0 : Int) ≤ (m : Int) := by omega
  have c4 : m ≤ 35184372088832 := by omega
  refine Ev_pos c1 (Ev_pos c2 (Ev_bind_eq lz (Ev.bind hv1 (Ev.bind hu1 (Ev_pos c3 (Ev_pos c4 ?_))))))
  exact Ev_in (g := fun i k _ => quot_long.l7157 i k ((lim b).length : Int) (s : Int) ((m : Int) - 1) v u (List.replicate m 0)) main
theorem long_ev {a b : Nat} (ha : a < B 4096) (hba : b ≤ a) (hb : 2 ≤ (lim b).length) : Ev (fun i _ _ => quot_long.f i (lim a) (lim b)) (lim (a / b), lim (a % b)) := by
  have la := (lim_len_le a 4096).2 ha
  have hab : (lim b).length ≤ (lim a).length := by
    rcases Nat.lt_or_ge (lim a).length (lim b).length with h | h
    · have := lim_len_lt h; omega
    · exact h
  have hb0 : b ≠ 0 := fun h => by rw [h, lim_zero] at hb; simp at hb
  obtain ⟨n, hn⟩ : ∃ n, (lim b).length = n + 1 := ⟨(lim b).length - 1, by omega⟩
  have htop := rd_lim_last b hb0
  rw [hn, Nat.add_sub_cancel] at htop
  have rt := ok_rd (ok_lim b) (n : Int)
  obtain ⟨t, ht⟩ : ∃ t, t = (rd (lim b) (n : Int)).toNat := ⟨_, rfl⟩
  have bt := blen_top (ok_lim b) hn htop
  rw [val_lim, ← ht] at bt
  have t0 : t ≠ 0 := by omega
  have tp := (blen_pos (n := t)).2 t0
  have t64 : blen t ≤ 64 := (blen_le t 64).2 (by have h : t < 18446744073709551616 := by omega
                                                 exact h)
  obtain ⟨s, hs⟩ : ∃ s, s = 64 - blen t := ⟨_, rfl⟩
  have lz : bits_LeadingZeros64.f (rd (lim b) (((lim b).length : Int) - 1)) = some (s : Int) := by
    rw [show ((lim b).length : Int) - 1 = (n : Int) by omega]
    unfold bits_LeadingZeros64.f bits_LeadingZeros64.b0
    rw [len64 rt, Option.bind_some, ← ht]
    congr 1
    unfold wrap64; omega
  have p2 : 2 ^ (blen t) * 2 ^ s = 18446744073709551616 := by rw [← Nat.pow_add, show blen t + s = 64 by omega]
  have p1 : 2 ^ (blen t - 1) * 2 ^ s = 9223372036854775808 := by rw [← Nat.pow_add, show blen t - 1 + s = 63 by omega]
  have vfit : val (lim b) * 2 ^ s < B (lim b).length := by
    rw [val_lim, hn, B_succ]
    have := Nat.mul_lt_mul_of_pos_right bt.2 (Nat.pow_pos (n := s) (show 0 < 2 by omega))
    rw [Nat.mul_assoc, p2, Nat.mul_comm (B n)] at this
    exact this
  have vlow : 9223372036854775808 * B ((lim b).length - 1) ≤ val (lim b) * 2 ^ s := by
    rw [val_lim, hn, Nat.add_sub_cancel]
    have := Nat.mul_le_mul_right (2 ^ s) bt.1
    rw [Nat.mul_assoc, p1, Nat.mul_comm (B n)] at this
    exact this
  have hval : a < B (lim a).length := (lim_len_le a _).1 (Nat.le_refl _)
  have s63 : 2 ^ s ≤ 9223372036854775808 := by
    have := Nat.pow_le_pow_right (n := 2) (by omega) (show s ≤ 63 by omega)
    exact this
  have ufit1 : val (lim a) * 2 ^ s < 9223372036854775808 * B (lim a).length := by
    rw [val_lim]
    have h1 := Nat.mul_le_mul_left a s63
    have h2 := Nat.mul_lt_mul_of_pos_right hval (show 0 < 9223372036854775808 by omega)
    omega
  have ufit : val (lim a) * 2 ^ s < B ((lim a).length + 1) := by
    rw [B_succ]
    have := B_pos (lim a).length
    omega
  obtain ⟨v, hv1, hv2, hv3, hv4⟩ := quot_raised_ev (n := (lim b).length) (s := s) (ok_lim b) (by omega) (Nat.le_refl _) (by omega) vfit
  obtain ⟨u, hu1, hu2, hu3, hu4⟩ := quot_raised_ev (n := (lim a).length + 1) (s := s) (ok_lim a) (by omega) (by omega) (by omega) ufit
  rw [val_lim] at hv4 hu4
  have hpp := Nat.pow_pos (n := s) (show 0 < 2 by omega)
  have hq : val u / val v = a / b := by rw [hu4, hv4, Nat.mul_div_mul_right _ _ hpp]
  have hr : val u % val v = a % b * 2 ^ s := by rw [hu4, hv4, Nat.mul_mod_mul_right]
  have hV0 : 0 < val v := by rw [hv4]; exact Nat.mul_pos (by omega) hpp
  have hvB : val v < B (lim b).length := by rw [← hv2]; exact val_lt hv3
  have hrB : val u % val v < B (lim b).length := Nat.lt_trans (Nat.mod_lt _ hV0) hvB
  exact long_go la hab hb (by omega) hu2 hu3 hv2 hv3 ⟨by rw [hv4]; have h := vlow; rw [val_lim] at h; exact h, by rw [hu4]; have h := ufit1; rw [val_lim] at h; exact h, hV0, hq, hr⟩ lz hv1 hu1
end Go.Proofs.YtcacmhcekoeblaaDoor.Long
