/- Plain laws of long division by limbs: a row of which a window is written. No conditions. -/
import Derived.Test.YtcacmhcekoeblaaDoorQLB
namespace Go.Proofs.YtcacmhcekoeblaaDoor.LongL
open Go.RowKit Go.Proofs.YtcacmhcekoeblaaDoor.Lib Go.Proofs.YtcacmhcekoeblaaDoor.LibB
open Go.Proofs.YtcacmhcekoeblaaDoorA (rd ln ln_eq mx mn shl shr wr wr_eq)
set_option linter.unusedVariables false
set_option linter.unusedSimpArgs false

/-- The number in the n limbs of us from place j on. -/
def win (us : List Int) (j n : Nat) : Nat := val ((us.drop j).take n)
theorem win_zero (us : List Int) (j : Nat) : win us j 0 = 0 := by unfold win; rw [List.take_zero, val_nil]
theorem rd_drop (us : List Int) (j i : Nat) : rd (us.drop j) (i : Int) = rd us ((j + i : Nat) : Int) := by
  rw [rd_nat, rd_nat, List.getD_eq_getElem?_getD, List.getElem?_drop, List.getD_eq_getElem?_getD]
theorem win_succ (us : List Int) (j i : Nat) : win us j (i + 1) = win us j i + B i * (rd us ((j + i : Nat) : Int)).toNat := by
  unfold win; rw [val_take_succ, rd_drop]
theorem win_congr {us xs : List Int} {j : Nat} : ∀ n, (∀ k, j ≤ k → k < j + n → rd us (k : Int) = rd xs (k : Int)) → win us j n = win xs j n := by
  intro n
  induction n with
  | zero => intro _; rw [win_zero, win_zero]
  | succ n ih =>
    intro h
    rw [win_succ, win_succ, ih (fun k h1 h2 => h k h1 (by omega)), h (j + n) (by omega) (by omega)]
theorem win_set_out {us : List Int} {j n k : Nat} {x : Int} (h : k < j ∨ j + n ≤ k) : win (us.set k x) j n = win us j n :=
  win_congr n fun k' h1 h2 => rd_set_ne us k k' x (by omega)
theorem win_lt {us : List Int} (h : ok us) (j n : Nat) : win us j n < B n := by
  unfold win
  have h1 := val_lt (ok_take (ok_drop h j) n)
  exact Nat.lt_of_lt_of_le h1 (B_mono (List.length_take_le _ _))
theorem win_all {us : List Int} {j n : Nat} (h : us.length ≤ j + n) : win us j n = val (us.drop j) := by
  unfold win; rw [val_take_all _ (by rw [List.length_drop]; omega)]
/-! ### the digit's laws -/
theorem tk_digit {p d x c b : Int} (hp : 0 ≤ p ∧ p < 18446744073709551616) (hd : 0 ≤ d ∧ d < 18446744073709551616) (hx : 0 ≤ x ∧ x < 18446744073709551616) (hc : 0 ≤ c ∧ c < 18446744073709551616) (hb : 0 ≤ b ∧ b ≤ 1)
    {m : Int} (hm : d * x = m) (hm0 : 0 ≤ m) (hm1 : m ≤ 340282366920938463426481119284349108225) :
    ((p - (m % 18446744073709551616 + c + 0) % 18446744073709551616 - b) % 18446744073709551616).toNat + m.toNat + c.toNat + b.toNat
      = p.toNat + 18446744073709551616 * ((m / 18446744073709551616 + (m % 18446744073709551616 + c + 0) / 18446744073709551616).toNat + (if p < (m % 18446744073709551616 + c + 0) % 18446744073709551616 + b then (1 : Int) else 0).toNat) := by
  split <;> omega
theorem tk_carry {c m : Int} (hc : 0 ≤ c ∧ c < 18446744073709551616) (hm0 : 0 ≤ m) (hm1 : m ≤ 340282366920938463426481119284349108225) :
    0 ≤ m / 18446744073709551616 + (m % 18446744073709551616 + c + 0) / 18446744073709551616 ∧ m / 18446744073709551616 + (m % 18446744073709551616 + c + 0) / 18446744073709551616 < 18446744073709551616 := by omega
theorem tk_last {p c b : Int} (hp : 0 ≤ p ∧ p < 18446744073709551616) (hc : 0 ≤ c ∧ c < 18446744073709551616) (hb : 0 ≤ b ∧ b ≤ 1) :
    ((p - c - b) % 18446744073709551616).toNat + c.toNat + b.toNat = p.toNat + 18446744073709551616 * (if p < c + b then (1 : Int) else 0).toNat := by
  split <;> omega
theorem tk_row {X U P V C p' p q c c' b b' : Nat} (h1 : X + V = U + P * (c + b)) (h2 : p' + q + c + b = p + 18446744073709551616 * (c' + b')) :
    X + P * p' + (V + P * q) = U + P * p + 18446744073709551616 * P * (c' + b') := by
  have : P * (p' + q + c + b) = P * (p + 18446744073709551616 * (c' + b')) := by rw [h2]
  rw [Nat.mul_add P p, ← Nat.mul_assoc P, Nat.mul_comm P 18446744073709551616, Nat.mul_add P (p' + q + c), Nat.mul_add P (p' + q), Nat.mul_add P p'] at this
  rw [Nat.mul_add P c] at h1
  omega

/-! ### takeOff -/
structure Tk (us vs : List Int) (j : Nat) (d : Int) (i : Nat) (xs : List Int) (c b : Int) : Prop where
  len : xs.length = us.length
  ok : ok xs
  same : ∀ k, k < j ∨ j + i ≤ k → rd xs ((k : Nat) : Int) = rd us ((k : Nat) : Int)
  c0 : 0 ≤ c ∧ c < 18446744073709551616
  b0 : 0 ≤ b ∧ b ≤ 1
  eq : win xs j i + d.toNat * val (vs.take i) = win us j i + B i * (c.toNat + b.toNat)
theorem Tk.start {us vs : List Int} {j : Nat} {d : Int} (h : Lib.ok us) : Tk us vs j d 0 us 0 0 :=
  ⟨rfl, h, fun _ _ => rfl, by omega, by omega, by rw [List.take_zero, val_nil]; rfl⟩
theorem Tk.step {us vs : List Int} {j : Nat} {d : Int} {i : Nat} {xs : List Int} {c b : Int} (T : Tk us vs j d i xs c b) (hj : j + i < us.length) (hd : 0 ≤ d ∧ d < 18446744073709551616) (hv : Lib.ok vs)
    {m : Int} (hm : d * rd vs (i : Int) = m) (hm0 : 0 ≤ m) (hm1 : m ≤ 340282366920938463426481119284349108225) :
    Tk us vs j d (i + 1) (xs.set (j + i) ((rd xs ((j + i : Nat) : Int) - (m % 18446744073709551616 + c + 0) % 18446744073709551616 - b) % 18446744073709551616))
      (m / 18446744073709551616 + (m % 18446744073709551616 + c + 0) / 18446744073709551616) (if rd xs ((j + i : Nat) : Int) < (m % 18446744073709551616 + c + 0) % 18446744073709551616 + b then 1 else 0) := by
  have hx := ok_rd hv (i : Int)
  have hp := ok_rd T.ok ((j + i : Nat) : Int)
  have g := tk_digit hp hd hx T.c0 T.b0 hm hm0 hm1
  refine ⟨by rw [List.length_set, T.len], ok_set T.ok _ (by omega) (by omega), fun k hk => ?_, tk_carry T.c0 hm0 hm1, by split <;> omega, ?_⟩
  · rw [rd_set_ne _ _ _ _ (by omega), T.same k (by omega)]
  · have e1 : d.toNat * (rd vs (i : Int)).toNat = m.toNat := by rw [← hm, Int.toNat_mul hd.1 hx.1]
    have e2 := T.same (j + i) (by omega)
    rw [win_succ, win_succ, win_set_out (.inr (Nat.le_refl _)), rd_set_self _ _ _ (by rw [T.len]; exact hj), val_take_succ, B_succ, Nat.mul_add d.toNat, ← Nat.mul_assoc d.toNat, Nat.mul_comm d.toNat (B i), Nat.mul_assoc (B i), e1, ← e2]
    exact tk_row (C := 0) T.eq g
structure TkDone (us vs : List Int) (j n : Nat) (d : Int) (ys : List Int) (b : Int) : Prop where
  len : ys.length = us.length
  ok : ok ys
  same : ∀ k, k < j ∨ j + n < k → rd ys ((k : Nat) : Int) = rd us ((k : Nat) : Int)
  b0 : 0 ≤ b ∧ b ≤ 1
  eq : win ys j (n + 1) + d.toNat * val vs = win us j (n + 1) + B (n + 1) * b.toNat
theorem Tk.finish {us vs : List Int} {j n : Nat} {d : Int} {xs : List Int} {c b : Int} (T : Tk us vs j d n xs c b) (hn : vs.length = n) (hj : j + n < us.length) :
    TkDone us vs j n d (xs.set (j + n) ((rd xs ((j + n : Nat) : Int) - c - b) % 18446744073709551616)) (if rd xs ((j + n : Nat) : Int) < c + b then 1 else 0) := by
  have hp := ok_rd T.ok ((j + n : Nat) : Int)
  have g := tk_last hp T.c0 T.b0
  refine ⟨by rw [List.length_set, T.len], ok_set T.ok _ (by omega) (by omega), fun k hk => ?_, by split <;> omega, ?_⟩
  · rw [rd_set_ne _ _ _ _ (by omega), T.same k (by omega)]
  · have e2 := T.same (j + n) (by omega)
    have h1 := T.eq
    rw [val_take_all vs (by omega)] at h1
    rw [win_succ, win_succ, win_set_out (.inr (Nat.le_refl _)), rd_set_self _ _ _ (by rw [T.len]; exact hj), B_succ, ← e2]
    generalize (if rd xs ((j + n : Nat) : Int) < c + b then (1 : Int) else 0) = b' at *
    generalize (rd xs ((j + n : Nat) : Int) - c - b) % 18446744073709551616 = p' at *
    have := tk_row (C := 0) (q := 0) (c' := 0) (p' := p'.toNat) (p := (rd xs ((j + n : Nat) : Int)).toNat) (b' := b'.toNat) h1 (by omega)
    rw [Nat.mul_zero, Nat.add_zero, Nat.zero_add] at this
    exact this

/-! ### putBack -/
theorem pb_digit {p x c : Int} (hp : 0 ≤ p ∧ p < 18446744073709551616) (hx : 0 ≤ x ∧ x < 18446744073709551616) (hc : 0 ≤ c ∧ c ≤ 1) :
    ((p + x + c) % 18446744073709551616).toNat + 18446744073709551616 * ((p + x + c) / 18446744073709551616).toNat = p.toNat + x.toNat + c.toNat ∧ 0 ≤ (p + x + c) / 18446744073709551616 ∧ (p + x + c) / 18446744073709551616 ≤ 1 := by omega
theorem pb_row {X U P V p' p x c c' : Nat} (h1 : X + P * c = U + V) (h2 : p' + 18446744073709551616 * c' = p + x + c) : X + P * p' + 18446744073709551616 * P * c' = U + P * p + (V + P * x) := by
  have : P * (p' + 18446744073709551616 * c') = P * (p + x + c) := by rw [h2]
  rw [Nat.mul_add, ← Nat.mul_assoc P, Nat.mul_comm P 18446744073709551616, Nat.mul_add P (p + x), Nat.mul_add P p] at this
  omega
structure Pb (us vs : List Int) (j : Nat) (i : Nat) (xs : List Int) (c : Int) : Prop where
  len : xs.length = us.length
  ok : ok xs
  same : ∀ k, k < j ∨ j + i ≤ k → rd xs ((k : Nat) : Int) = rd us ((k : Nat) : Int)
  c0 : 0 ≤ c ∧ c ≤ 1
  eq : win xs j i + B i * c.toNat = win us j i + val (vs.take i)
theorem Pb.start {us vs : List Int} {j : Nat} (h : Lib.ok us) : Pb us vs j 0 us 0 :=
  ⟨rfl, h, fun _ _ => rfl, by omega, by rw [List.take_zero, val_nil]; rfl⟩
theorem Pb.step {us vs : List Int} {j i : Nat} {xs : List Int} {c : Int} (T : Pb us vs j i xs c) (hj : j + i < us.length) (hv : Lib.ok vs) :
    Pb us vs j (i + 1) (xs.set (j + i) ((rd xs ((j + i : Nat) : Int) + rd vs (i : Int) + c) % 18446744073709551616)) ((rd xs ((j + i : Nat) : Int) + rd vs (i : Int) + c) / 18446744073709551616) := by
  have hx := ok_rd hv (i : Int)
  have hp := ok_rd T.ok ((j + i : Nat) : Int)
  have g := pb_digit hp hx T.c0
  refine ⟨by rw [List.length_set, T.len], ok_set T.ok _ (by omega) (by omega), fun k hk => ?_, g.2, ?_⟩
  · rw [rd_set_ne _ _ _ _ (by omega), T.same k (by omega)]
  · have e2 := T.same (j + i) (by omega)
    rw [win_succ, win_succ, win_set_out (.inr (Nat.le_refl _)), rd_set_self _ _ _ (by rw [T.len]; exact hj), val_take_succ, B_succ, ← e2]
    exact pb_row T.eq g.1
structure PbDone (us vs : List Int) (j n : Nat) (ys : List Int) (c : Int) : Prop where
  len : ys.length = us.length
  ok : ok ys
  same : ∀ k, k < j ∨ j + n < k → rd ys ((k : Nat) : Int) = rd us ((k : Nat) : Int)
  c0 : 0 ≤ c ∧ c ≤ 1
  eq : win ys j (n + 1) + B (n + 1) * c.toNat = win us j (n + 1) + val vs
theorem Pb.finish {us vs : List Int} {j n : Nat} {xs : List Int} {c : Int} (T : Pb us vs j n xs c) (hn : vs.length = n) (hj : j + n < us.length) :
    PbDone us vs j n (xs.set (j + n) ((rd xs ((j + n : Nat) : Int) + 0 + c) % 18446744073709551616)) ((rd xs ((j + n : Nat) : Int) + 0 + c) / 18446744073709551616) := by
  have hp := ok_rd T.ok ((j + n : Nat) : Int)
  have g := pb_digit (x := 0) hp (by omega) T.c0
  refine ⟨by rw [List.length_set, T.len], ok_set T.ok _ (by omega) (by omega), fun k hk => ?_, g.2, ?_⟩
  · rw [rd_set_ne _ _ _ _ (by omega), T.same k (by omega)]
  · have e2 := T.same (j + n) (by omega)
    have h1 := T.eq
    rw [val_take_all vs (by omega)] at h1
    rw [win_succ, win_succ, win_set_out (.inr (Nat.le_refl _)), rd_set_self _ _ _ (by rw [T.len]; exact hj), B_succ, ← e2]
    have := pb_row h1 g.1
    rw [show (0 : Int).toNat = 0 from rfl, Nat.mul_zero, Nat.add_zero] at this
    exact this

/-! ### the guess -/
theorem guess_ge {lp lv P T t v d : Nat} (hl : lp < P) (hv : 0 < v) (hd : T / v = d) : lp + P * T < (d + 1) * (lv + P * v) := by
  have h1 : T < (d + 1) * v := by rw [← hd]; exact (Nat.div_lt_iff_lt_mul hv).1 (Nat.lt_succ_self _)
  have h2 : P * (T + 1) ≤ P * ((d + 1) * v) := Nat.mul_le_mul_left _ h1
  have h3 : (d + 1) * (lv + P * v) = (d + 1) * lv + P * ((d + 1) * v) := by rw [Nat.mul_add, Nat.mul_left_comm]
  rw [Nat.mul_add, Nat.mul_one] at h2
  omega

/-! ### the rounds -/
/-- At the head of the loop, j digits still to be found: what is left of U, the digits so far. -/
structure Lg (U V n m : Nat) (j : Nat) (us qs : List Int) : Prop where
  ul : us.length = m + n
  uo : ok us
  ql : qs.length = m
  qo : ok qs
  qz : ∀ k, k < j → rd qs ((k : Nat) : Int) = 0
  eq : val qs * V + val us = U
  lt : val (us.drop j) < V
/-- Digit j under way: d at hand, neg: too much was taken off. -/
structure Dg (U V n m : Nat) (j : Nat) (us0 qs : List Int) (us : List Int) (d : Int) (neg : Bool) : Prop where
  len : us.length = us0.length
  uo : ok us
  same : ∀ k, k < j ∨ j + n < k → rd us ((k : Nat) : Int) = rd us0 ((k : Nat) : Int)
  d0 : 0 ≤ d ∧ d < 18446744073709551616
  ge : win us0 j (n + 1) / V ≤ d.toNat
  eq : win us j (n + 1) + d.toNat * V = win us0 j (n + 1) + (if neg then B (n + 1) else 0)
theorem drop_high {us : List Int} {j k V : Nat} (h : val (us.drop j) < V) (hV : V ≤ B k) : val (us.drop (j + k)) = 0 := by
  have h1 := val_split (us.drop j) k
  rw [List.drop_drop] at h1
  rcases Nat.lt_or_ge k (us.drop j).length with hk | hk
  · rw [Nat.min_eq_left (Nat.le_of_lt hk)] at h1
    rcases Nat.eq_zero_or_pos (val (us.drop (j + k))) with h2 | h2
    · exact h2
    · have := Nat.le_mul_of_pos_right (B k) h2
      omega
  · rw [List.drop_of_length_le (by rw [List.length_drop] at hk; omega), val_nil]
theorem Lg.win_eq {U V n m j : Nat} {us qs : List Int} (L : Lg U V n m (j + 1) us qs) (hV : V ≤ B n) (hj : j < m) : win us j (n + 1) = val (us.drop j) ∧ win us j (n + 1) < 18446744073709551616 * V := by
  have h1 := drop_high L.lt hV
  have h2 := val_split (us.drop j) (n + 1)
  rw [List.drop_drop, show j + (n + 1) = j + 1 + n by omega, h1, Nat.mul_zero, Nat.add_zero] at h2
  refine ⟨h2.symm, ?_⟩
  have h3 : win us j (n + 1) = val (us.drop j) := h2.symm
  have hjl : j < us.length := by rw [L.ul]; omega
  rw [h3, val_drop_cons us j hjl]
  have := ok_rd L.uo (j : Int)
  have h4 := L.lt
  omega
theorem Dg.start {U V n m j : Nat} {us qs ys : List Int} {vs : List Int} {d b : Int} (L : Lg U V n m (j + 1) us qs) (hv : val vs = V) (hd : 0 ≤ d ∧ d < 18446744073709551616) (hV : 0 < V) (hg : win us j (n + 1) < (d.toNat + 1) * V)
    (T : TkDone us vs j n d ys b) : Dg U V n m j us qs ys d (b != 0) := by
  refine ⟨T.len, T.ok, T.same, hd, ?_, ?_⟩
  · exact Nat.le_of_lt_succ ((Nat.div_lt_iff_lt_mul hV).2 hg)
  · rw [← hv, T.eq]
    congr 1
    rcases (by have := T.b0; omega : b = 0 ∨ b = 1) with rfl | rfl
    · rfl
    · simp
theorem Dg.pos {U V n m j : Nat} {us0 qs us : List Int} {d : Int} (D : Dg U V n m j us0 qs us d true) (hV : 0 < V) : 1 ≤ d := by
  have e := D.eq
  rw [if_pos rfl] at e
  have hw := win_lt D.uo j (n + 1)
  have d1 : win us0 j (n + 1) / V < d.toNat := (Nat.div_lt_iff_lt_mul hV).2 (by omega)
  have d2 : 0 < d.toNat := Nat.lt_of_le_of_lt (Nat.zero_le _) d1
  omega
theorem Dg.back {U V n m j : Nat} {us0 qs us ys : List Int} {vs : List Int} {d c : Int} (D : Dg U V n m j us0 qs us d true) (hv : val vs = V) (hV : 0 < V) (P : PbDone us vs j n ys c) :
    1 ≤ d ∧ Dg U V n m j us0 qs ys (d - 1) (!(c != 0)) := by
  have e := D.eq
  rw [if_pos rfl] at e
  have hw := win_lt D.uo j (n + 1)
  have d1 : win us0 j (n + 1) / V < d.toNat := (Nat.div_lt_iff_lt_mul hV).2 (by omega)
  have d0 := D.d0
  have d2 : 0 < d.toNat := Nat.lt_of_le_of_lt (Nat.zero_le _) d1
  have hdn : d.toNat = (d - 1).toNat + 1 := by omega
  refine ⟨by omega, by rw [P.len, D.len], P.ok, fun k hk => by rw [P.same k hk, D.same k hk], by omega, Nat.le_of_lt_succ (by rw [hdn] at d1; exact d1), ?_⟩
  have e2 := P.eq
  rw [hv] at e2
  rw [hdn, Nat.add_mul, Nat.one_mul] at e
  have e3 : win ys j (n + 1) + (d - 1).toNat * V + B (n + 1) * c.toNat = win us0 j (n + 1) + B (n + 1) := by omega
  rcases (by have := P.c0; omega : c = 0 ∨ c = 1) with rfl | rfl
  · have : (if (!((0 : Int) != 0)) = true then B (n + 1) else 0) = B (n + 1) := by rw [if_pos (by decide)]
    rw [this]
    rw [show (0 : Int).toNat = 0 from rfl, Nat.mul_zero, Nat.add_zero] at e3
    exact e3
  · have : (if (!((1 : Int) != 0)) = true then B (n + 1) else 0) = 0 := by rw [if_neg (by decide)]
    rw [this]
    rw [show (1 : Int).toNat = 1 from rfl, Nat.mul_one] at e3
    omega
theorem val_of_win {us us0 : List Int} (hl : us.length = us0.length) (j n : Nat) (hj : j ≤ us0.length) (h : ∀ k, k < j ∨ j + n ≤ k → rd us ((k : Nat) : Int) = rd us0 ((k : Nat) : Int)) :
    val us + B j * win us0 j n = val us0 + B j * win us j n ∧ val (us.drop j) + win us0 j n = val (us0.drop j) + win us j n := by
  have t : val (us.take j) = val (us0.take j) := by
    have := win_congr (us := us) (xs := us0) (j := 0) j (fun k _ hk => h k (.inl (by omega)))
    unfold win at this; simpa using this
  have hi : val (us.drop (j + n)) = val (us0.drop (j + n)) := by
    have := win_congr (us := us) (xs := us0) (j := j + n) us.length (fun k hk _ => h k (.inr hk))
    rw [win_all (by omega), win_all (by omega)] at this
    exact this
  have a1 := val_split (us.drop j) n
  have a2 := val_split (us0.drop j) n
  rw [List.drop_drop] at a1 a2
  have b1 := val_split us j
  have b2 := val_split us0 j
  rw [Nat.min_eq_left (by omega)] at b1 b2
  have hd : val (us.drop j) + win us0 j n = val (us0.drop j) + win us j n := by
    unfold win
    rw [a1, a2, hi, List.length_drop, List.length_drop, hl]
    omega
  refine ⟨?_, hd⟩
  rw [b1, b2, t]
  have : B j * (val (us.drop j) + win us0 j n) = B j * (val (us0.drop j) + win us j n) := by rw [hd]
  rw [Nat.mul_add, Nat.mul_add] at this
  omega
theorem Lg.step {U V n m j : Nat} {us0 qs us : List Int} {d : Int} (L : Lg U V n m (j + 1) us0 qs) (hV : V ≤ B n) (hV0 : 0 < V) (hj : j < m) (D : Dg U V n m j us0 qs us d false) : Lg U V n m j us (qs.set j d) := by
  obtain ⟨w1, w2⟩ := L.win_eq hV hj
  have e := D.eq
  rw [if_neg (by decide), Nat.add_zero] at e
  have hge := D.ge
  have d0 := D.d0
  have hle : d.toNat ≤ win us0 j (n + 1) / V := (Nat.le_div_iff_mul_le hV0).2 (by omega)
  have hdv : d.toNat = win us0 j (n + 1) / V := Nat.le_antisymm hle hge
  have hlt : win us j (n + 1) < V := by
    have h1 := Nat.lt_mul_div_succ (win us0 j (n + 1)) hV0
    rw [Nat.mul_comm, Nat.add_mul, Nat.one_mul, ← hdv] at h1
    omega
  obtain ⟨v1, v2⟩ := val_of_win D.len j (n + 1) (by rw [L.ul]; omega) (fun k hk => D.same k (by omega))
  refine ⟨by rw [D.len, L.ul], D.uo, by rw [List.length_set, L.ql], ok_set L.qo j d0.1 d0.2, fun k hk => ?_, ?_, ?_⟩
  · rw [rd_set_ne _ _ _ _ (by omega)]; exact L.qz k (by omega)
  · have hs := val_set qs j d (by rw [L.ql]; exact hj)
    rw [L.qz j (by omega), show (0 : Int).toNat = 0 from rfl, Nat.mul_zero, Nat.add_zero] at hs
    have e2 := L.eq
    rw [hs, Nat.add_mul, Nat.mul_assoc]
    have : B j * (win us j (n + 1) + d.toNat * V) = B j * win us0 j (n + 1) := by rw [e, Nat.add_zero]
    rw [Nat.mul_add] at this
    omega
  · omega
theorem Lg.finish {U V n m : Nat} {us qs : List Int} (L : Lg U V n m 0 us qs) (hV : V ≤ B n) (hV0 : 0 < V) : val qs = U / V ∧ val (us.take n) = U % V := by
  have h1 := L.lt
  have h2 := drop_high h1 hV
  rw [Nat.zero_add] at h2
  have h3 := val_drop_zero h2
  rw [List.drop_zero] at h1
  rw [← h3]
  have e := L.eq
  have : U = V * val qs + val us := by rw [Nat.mul_comm]; exact e.symm
  constructor
  · rw [this, Nat.mul_add_div hV0, Nat.div_eq_of_lt h1, Nat.add_zero]
  · rw [this, Nat.mul_add_mod, Nat.mod_eq_of_lt h1]
theorem Lg.start {U V n m : Nat} {us : List Int} (hl : us.length = m + n) (ho : ok us) (hU : val us = U) (hn : 0 < n) (hV : 9223372036854775808 * B (n - 1) ≤ V) (hu : U < 9223372036854775808 * B (m + n - 1)) : Lg U V n m m us (List.replicate m 0) := by
  refine ⟨hl, ho, List.length_replicate .., ok_replicate m, fun k hk => ?_, by rw [val_replicate, Nat.zero_mul, Nat.zero_add, hU], ?_⟩
  · rw [rd_nat, List.getD_eq_getElem?_getD, List.getElem?_replicate, if_pos hk]; rfl
  · have h1 := val_split us m
    rw [Nat.min_eq_left (by omega), hU] at h1
    rw [show m + n - 1 = m + (n - 1) by omega, B_add] at hu
    have h2 : B m * val (us.drop m) < B m * (9223372036854775808 * B (n - 1)) := by rw [Nat.mul_left_comm]; omega
    exact Nat.lt_of_lt_of_le (Nat.lt_of_mul_lt_mul_left h2) hV
end Go.Proofs.YtcacmhcekoeblaaDoor.LongL
