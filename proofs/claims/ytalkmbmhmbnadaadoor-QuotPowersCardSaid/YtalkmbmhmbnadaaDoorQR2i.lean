/- What the logarithms of the program and of the second reference compute. Conditions: lists of limbs below 2^64, of lengths that a slice has. -/
import Derived.Test.YtalkmbmhmbnadaaDoorQR2h
namespace Go.Proofs.YtalkmbmhmbnadaaDoor.R2
open Go.RowKit Go.Proofs.YtalkmbmhmbnadaaDoor.Lib Go.Proofs.YtalkmbmhmbnadaaDoor.LibB Go.Proofs.YtalkmbmhmbnadaaDoor.F Go.Proofs.YtalkmbmhmbnadaaDoor.Nat1 Go.Proofs.YtalkmbmhmbnadaaDoor.Nat2 Go.Proofs.YtalkmbmhmbnadaaDoor.Bits Go.Proofs.YtalkmbmhmbnadaaDoor.Pow Go.Proofs.YtalkmbmhmbnadaaDoor.Quot1
open Go.Proofs.YtalkmbmhmbnadaaDoorA (rd rdr ln ln_eq lnr lnr_eq mx mn shl shr wr wr_eq)
set_option linter.unusedVariables false
set_option linter.unusedSimpArgs false
/-- The squares b, b^2, b^4 .. as far as they are at most v. -/
structure Sq (b v J : Nat) (ms : List (List Int)) : Prop where
  len : ms.length = J
  el : ∀ i : Nat, i < J → rdr ms (i : Int) = lim (b ^ 2 ^ i) ∧ b ^ 2 ^ i ≤ v
theorem Sq.nil (b v : Nat) : Sq b v 0 [] := ⟨rfl, fun i h => by cases h⟩
theorem rdr_at (ms : List (List Int)) (j : Nat) : rdr ms (j : Int) = ms.getD j [] := by simp [rdr]
theorem Sq.snoc {b v J : Nat} {ms : List (List Int)} (h : Sq b v J ms) (hp : b ^ 2 ^ J ≤ v) : Sq b v (J + 1) (ms ++ [lim (b ^ 2 ^ J)]) := by
  refine ⟨by rw [List.length_append, h.len]; rfl, fun i hi => ?_⟩
  rw [rdr_at, List.getD_eq_getElem?_getD, List.getElem?_append, h.len]
  rcases Nat.lt_or_ge i J with hlt | hge
  · rw [if_pos hlt, ← List.getD_eq_getElem?_getD, ← rdr_at]
    exact h.el i hlt
  · obtain rfl : i = J := Nat.le_antisymm (Nat.le_of_lt_succ hi) hge
    rw [if_neg (Nat.lt_irrefl _), Nat.sub_self]
    exact ⟨rfl, hp⟩
theorem pow2_mono {m n : Nat} (h : m ≤ n) : 2 ^ m ≤ 2 ^ n := Nat.pow_le_pow_right (by decide) h
theorem exp_lt {b v n : Nat} (h2 : 2 ≤ b) (hb : v < B 4096) (h : b ^ n ≤ v) : n < 262144 := by
  refine Nat.lt_of_not_le fun k => ?_
  have h1 := two_pow_limit k
  have h3 : 2 ^ n ≤ b ^ n := Nat.pow_le_pow_left h2 n
  exact absurd (Nat.le_trans h1 (Nat.le_trans h3 h)) (Nat.not_le.2 hb)
theorem J_lt {b v J : Nat} (h2 : 2 ≤ b) (hb : v < B 4096) (h : b ^ 2 ^ J ≤ v) : J < 18 := by
  refine Nat.lt_of_not_le fun k => ?_
  have h1 := exp_lt h2 hb h
  have h3 := pow2_mono k
  have h4 : (2 : Nat) ^ 18 = 262144 := by decide
  omega
theorem sq_pow (b J : Nat) : b ^ 2 ^ J * b ^ 2 ^ J = b ^ 2 ^ (J + 1) := by rw [← Nat.pow_add, Nat.pow_succ]; congr 1; omega
theorem shl1 {i : Nat} (h : i ≤ 20) : shl .i64 1 (IntKind.u64.wrap (i : Int)) = ((2 ^ i : Nat) : Int) := by
  rw [wrapU64 (by omega) (by omega)]
  have h1 := pow2_mono h
  have h2 : (2 : Nat) ^ 20 = 1048576 := by decide
  unfold shl
  rw [Int.toNat_natCast, Nat.min_eq_left (show i ≤ IntKind.i64.bits from Nat.le_trans h (by decide)), Int.one_mul]
  show wrap64 _ = _
  rw [show ((2 : Int) ^ i) = ((2 ^ i : Nat) : Int) by rw [Int.natCast_pow]; rfl]
  generalize 2 ^ i = p at *
  unfold wrap64; omega
theorem w_add {n i : Nat} (hn : n < 262144) (h : i ≤ 20) : wrap64 ((n : Int) + ((2 ^ i : Nat) : Int)) = ((n + 2 ^ i : Nat) : Int) := by
  have h1 := pow2_mono h
  have h2 : (2 : Nat) ^ 20 = 1048576 := by decide
  generalize 2 ^ i = p at *
  unfold wrap64; omega
theorem w_pred {i : Nat} (h : i ≤ 20) : wrap64 ((i : Int) - 1) = (i : Int) - 1 ∧ ((i + 1 : Nat) : Int) - 1 = (i : Int) ∧ 0 ≤ IntKind.u64.wrap (i : Int) := by
  rw [wrapU64 (by omega) (by omega)]
  unfold wrap64; omega
theorem log_unique {b v m n : Nat} (h2 : 2 ≤ b) (h1 : b ^ m ≤ v) (h3 : v < b ^ (m + 1)) (h4 : b ^ n ≤ v) (h5 : v < b ^ (n + 1)) : m = n := by
  have a := Nat.lt_of_le_of_lt h1 h5
  have c := Nat.lt_of_le_of_lt h4 h3
  have a1 := (Nat.pow_lt_pow_iff_right (show 1 < b by omega)).1 a
  have c1 := (Nat.pow_lt_pow_iff_right (show 1 < b by omega)).1 c
  omega
theorem log_ex {b v : Nat} (h2 : 2 ≤ b) (h0 : v ≠ 0) : ∃ L, b ^ L ≤ v ∧ v < b ^ (L + 1) := by
  have key : ∀ d, v < b ^ d → ∃ L, b ^ L ≤ v ∧ v < b ^ (L + 1) := by
    intro d
    induction d with
    | zero => intro h; rw [Nat.pow_zero] at h; omega
    | succ d ih =>
      intro h
      by_cases h1 : v < b ^ d
      · exact ih h1
      · exact ⟨d, Nat.le_of_not_lt h1, h⟩
  exact key v (Nat.lt_of_lt_of_le (Nat.lt_two_pow_self) (Nat.pow_le_pow_left h2 v))
theorem len_ok {n : Nat} (h : n < B 4096) : (lim n).length ≤ 35184372088832 := Nat.le_trans (len_lim h) (by decide)
theorem cmp_le {a b : Nat} : cmp a b ≤ 0 ↔ a ≤ b := by
  unfold cmp
  split
  · exact ⟨fun _ => by omega, fun _ => by decide⟩
  · split
    · exact ⟨fun h => absurd h (by decide), fun h => by omega⟩
    · exact ⟨fun _ => by omega, fun _ => by decide⟩
theorem cmp_ge {a b : Nat} : cmp a b ≥ 0 ↔ b ≤ a := by
  unfold cmp
  split
  · exact ⟨fun h => absurd h (by decide), fun h => by omega⟩
  · split
    · exact ⟨fun _ => by omega, fun _ => by decide⟩
    · exact ⟨fun _ => by omega, fun _ => by decide⟩
theorem room {J : Nat} {ms : List (List Int)} {p : List Int} (h : ms.length = J) (hJ : J < 18) : ms.length + [p].length ≤ 5864062014805 := by rw [h, List.length_singleton]; omega
/-! ### the program's -/
theorem q_loop2 {b v L J : Nat} {ms : List (List Int)} (h2 : 2 ≤ b) (hv : v < B 4096) (hL1 : b ^ L ≤ v) (hL2 : v < b ^ (L + 1)) (S : Sq b v J ms) (hJ : J ≤ 20) (i : Nat) : ∀ n : Nat, i ≤ J → b ^ n ≤ v → v / b ^ n < b ^ 2 ^ i →
    Ev (fun k m _ => quot_Log.l4085 k m (lim (v / b ^ n)) (n : Int) ((i : Int) - 1) ms) ((L : Int), 0) := by
  have hb0 : ∀ k, 0 < b ^ k := fun k => Nat.pow_pos (by omega)
  induction i with
  | zero =>
    intro n _ h1 h3
    refine Ev_succ ?_
    simp only [quot_Log.l4085, quot_Log.b4085]
    refine Ev_neg (by omega) (Ev_some ?_)
    rw [Nat.pow_zero, Nat.pow_one, Nat.div_lt_iff_lt_mul (hb0 n), Nat.mul_comm, ← Nat.pow_succ] at h3
    rw [log_unique h2 hL1 hL2 h1 h3]
  | succ i ih =>
    intro n hi h1 h3
    obtain ⟨w1, w2, w3⟩ := w_pred (i := i) (by omega)
    obtain ⟨r1, r2⟩ := S.el i (by omega)
    have hx : v / b ^ n < B 4096 := Nat.lt_of_le_of_lt (Nat.div_le_self _ _) hv
    have hs : b ^ 2 ^ i < B 4096 := Nat.lt_of_le_of_lt r2 hv
    have hn := exp_lt h2 hv h1
    have hlt : (i : Int) < lnr ms := by rw [lnr_eq, S.len]; omega
    refine Ev_succ ?_
    simp only [quot_Log.l4085, quot_Log.b4085, w2, r1, w1, shl1 (show i ≤ 20 by omega), w_add hn (show i ≤ 20 by omega)]
    refine Ev_pos (Int.natCast_nonneg _) (Ev_pos (Int.natCast_nonneg _) (Ev_pos hlt (Ev.bind (cmp_ev hx hs) ?_)))
    by_cases hc : b ^ 2 ^ i ≤ v / b ^ n
    · refine Ev_pos (cmp_ge.2 hc) (Ev_pos (Int.natCast_nonneg _) (Ev_pos hlt (Ev.bind (dm_ev hx hs (Nat.ne_of_gt (hb0 _))) (Ev_pos w3 ?_))))
      have e1 : v / b ^ n / b ^ 2 ^ i = v / b ^ (n + 2 ^ i) := by rw [Nat.div_div_eq_div_mul, Nat.pow_add]
      rw [e1]
      refine ih (n + 2 ^ i) (by omega) ?_ ?_
      · rw [Nat.pow_add, Nat.mul_comm]
        exact (Nat.le_div_iff_mul_le (hb0 n)).1 hc
      · rw [← e1, Nat.div_lt_iff_lt_mul (hb0 _), sq_pow]
        exact h3
    · exact Ev_neg (fun h => hc (cmp_ge.1 h)) (ih n (by omega) h1 (Nat.lt_of_not_le hc))
theorem q_start {b v L J : Nat} {ms : List (List Int)} (h2 : 2 ≤ b) (hv : v < B 4096) (h0 : v ≠ 0) (hL1 : b ^ L ≤ v) (hL2 : v < b ^ (L + 1)) (S : Sq b v J ms) (hJ : J ≤ 20) (hlt : v < b ^ 2 ^ J) : Ev (fun k _ _ => quot_Log.l127 k (lim v) ms) ((L : Int), 0) := by
  simp only [quot_Log.l127, quot_Log.b127, lnr_eq, S.len, (w_pred hJ).1]
  have := q_loop2 h2 hv hL1 hL2 S hJ J 0 (Nat.le_refl _) (by rw [Nat.pow_zero]; omega) (by rw [Nat.pow_zero, Nat.div_one]; exact hlt)
  rw [Nat.pow_zero, Nat.div_one] at this
  exact Ev_in (g := fun k m _ => quot_Log.l4085 k m (lim v) ((0 : Nat) : Int) ((J : Int) - 1) ms) this
theorem q_loop1 {b v L : Nat} (h2 : 2 ≤ b) (hv : v < B 4096) (h0 : v ≠ 0) (hL1 : b ^ L ≤ v) (hL2 : v < b ^ (L + 1)) (d : Nat) : ∀ (J : Nat) (ms : List (List Int)), J + d = 20 → Sq b v J ms → b ^ 2 ^ J < B 4096 →
    Ev (fun k m _ => quot_Log.l505 k m (lim v) (lim (b ^ 2 ^ J)) ms) ((L : Int), 0) := by
  induction d with
  | zero =>
    intro J ms hJ S hp
    have hgt : ¬ b ^ 2 ^ J ≤ v := fun h => by have := J_lt h2 hv h; omega
    refine Ev_succ ?_
    simp only [quot_Log.l505, quot_Log.b505]
    exact Ev.bind (cmp_ev hp hv) (Ev_neg (fun h => hgt (cmp_le.1 h)) (q_start h2 hv h0 hL1 hL2 S (by omega) (Nat.lt_of_not_le hgt)))
  | succ d ih =>
    intro J ms hJ S hp
    refine Ev_succ ?_
    simp only [quot_Log.l505, quot_Log.b505]
    refine Ev.bind (cmp_ev hp hv) ?_
    by_cases hle : b ^ 2 ^ J ≤ v
    · have hJ18 := J_lt h2 hv hle
      have hm := mul_ev hp hp
      rw [sq_pow] at hm
      refine Ev_pos (cmp_le.2 hle) (Ev_pos (room S.len hJ18) (Ev.bind hm ?_))
      have S' := S.snoc hle
      by_cases hf : b ^ 2 ^ (J + 1) < B 4096
      · rw [ans_ok hf]
        exact Ev_neg (by simp) (ih (J + 1) _ (by omega) S' hf)
      · rw [ans_big hf]
        exact Ev_pos (by simp) (q_start h2 hv h0 hL1 hL2 S' (by omega) (Nat.lt_of_lt_of_le hv (Nat.le_of_not_lt hf)))
    · exact Ev_neg (fun h => hle (cmp_le.1 h)) (q_start h2 hv h0 hL1 hL2 S (by omega) (Nat.lt_of_not_le hle))
/-! ### the reference's -/
theorem over {u w v T : Nat} (hu : u ≠ 0) (hw : w ≠ 0) (hT : (lim v).length = T) (h : T + 2 ≤ (lim u).length + (lim w).length) : v < u * w := by
  have h1 := lim_len_ge u hu
  have h2 := Nat.mul_le_mul h1 (lim_len_ge w hw)
  rw [← B_add] at h2
  have h3 := (lim_len_le v T).1 (Nat.le_of_eq hT)
  exact Nat.lt_of_lt_of_le h3 (Nat.le_trans (B_mono (by omega)) h2)
theorem len_pos {u : Nat} (h : u ≠ 0) : 0 < (lim u).length := Nat.pos_of_ne_zero fun k => h (lim_len_zero.1 k)
theorem w_two {L M : Nat} (h1 : 0 < L) (h2 : 0 < M) (h3 : L ≤ 4096) (h4 : M ≤ 4096) : wrap64 (wrap64 ((L : Int) + (M : Int)) - 2) = ((L + M - 2 : Nat) : Int) ∧ wrap64 (2 * wrap64 ((L : Int) - 1)) = ((2 * (L - 1) : Nat) : Int) := by unfold wrap64; omega
theorem ge_of {L M T : Nat} (h : T + 2 ≤ L + M) : ((L + M - 2 : Nat) : Int) ≥ (T : Int) := by omega
theorem nge_of {L M T : Nat} (h : ¬ T + 2 ≤ L + M) (h1 : 0 < L) (h2 : 0 < M) : ¬ ((L + M - 2 : Nat) : Int) ≥ (T : Int) := by omega
theorem top_lim {u : Nat} (h : (lim u).length ≤ 35184372088832) : Ev (fun k _ _ => abacusref02_Top.f k (lim u)) ((lim u).length : Int) := by
  have := abacusref02_Top_ev (ok_lim u) (Nat.le_trans h (by decide))
  rwa [val_lim] at this
theorem r_loop2 {a : List Int} {b v L J : Nat} {ms : List (List Int)} (ha : ok a) (hla : a.length ≤ 35184372088832) (hav : val a = v) (h2 : 2 ≤ b) (hv : v < B 4096) (hL1 : b ^ L ≤ v) (hL2 : v < b ^ (L + 1)) (S : Sq b v J ms) (hJ : J ≤ 20) (i : Nat) : ∀ n : Nat, i ≤ J → b ^ n ≤ v → v < b ^ (n + 2 ^ i) →
    Ev (fun k m _ => abacusref02_Log.l16373 k m a (n : Int) (lim (b ^ n)) ((i : Int) - 1) ms) ((L : Int), 0) := by
  have hb0 : ∀ k, b ^ k ≠ 0 := fun k => Nat.ne_of_gt (Nat.pow_pos (by omega))
  have htop := abacusref02_Top_ev ha (Nat.le_trans hla (by decide))
  rw [hav] at htop
  induction i with
  | zero =>
    intro n _ h1 h3
    refine Ev_succ ?_
    simp only [abacusref02_Log.l16373, abacusref02_Log.b16373]
    refine Ev_neg (by omega) (Ev_some ?_)
    rw [Nat.pow_zero] at h3
    rw [log_unique h2 hL1 hL2 h1 h3]
  | succ i ih =>
    intro n hi h1 h3
    obtain ⟨w1, w2, w3⟩ := w_pred (i := i) (by omega)
    obtain ⟨r1, r2⟩ := S.el i (by omega)
    have hx : b ^ n < B 4096 := Nat.lt_of_le_of_lt h1 hv
    have hs : b ^ 2 ^ i < B 4096 := Nat.lt_of_le_of_lt r2 hv
    have hn := exp_lt h2 hv h1
    have hlt : (i : Int) < lnr ms := by rw [lnr_eq, S.len]; omega
    have l1 := len_pos (hb0 n)
    have l2 := len_pos (hb0 (2 ^ i))
    have m1 := len_lim hx
    have m2 := len_lim hs
    refine Ev_succ ?_
    simp only [abacusref02_Log.l16373, abacusref02_Log.b16373, w2, r1, w1, shl1 (show i ≤ 20 by omega), w_add hn (show i ≤ 20 by omega)]
    refine Ev_pos (Int.natCast_nonneg _) (Ev.bind (top_lim (len_ok hx)) (Ev_pos (Int.natCast_nonneg _) (Ev_pos hlt (Ev.bind (top_lim (len_ok hs)) (Ev.bind htop ?_)))))
    rw [(w_two l1 l2 m1 m2).1]
    have skip : v < b ^ (n + 2 ^ i) → Ev (fun k m _ => abacusref02_Log.l16373 k m a (n : Int) (lim (b ^ n)) ((i : Int) - 1) ms) ((L : Int), 0) := fun h => ih n (by omega) h1 h
    by_cases hc : (lim v).length + 2 ≤ (lim (b ^ n)).length + (lim (b ^ 2 ^ i)).length
    · refine Ev_pos (ge_of hc) (skip ?_)
      rw [Nat.pow_add]
      exact over (hb0 n) (hb0 _) rfl hc
    · have ht := times_lim hx hs
      rw [← Nat.pow_add] at ht
      have hT : (lim (b ^ (n + 2 ^ i))).length ≤ 8192 := by
        refine (lim_len_le _ _).2 ?_
        rw [Nat.pow_add, show 8192 = 4096 + 4096 from rfl, B_add]
        exact Nat.mul_lt_mul_of_lt_of_lt hx hs
      have ho := Order_ev (ok_lim (b ^ (n + 2 ^ i))) ha (Nat.le_trans hT (by decide)) (Nat.le_trans hla (by decide))
      rw [val_lim, hav] at ho
      refine Ev_neg (nge_of hc l1 l2) (Ev_pos (Int.natCast_nonneg _) (Ev_pos hlt (Ev.bind ht (Ev.bind ho ?_))))
      by_cases hle : b ^ (n + 2 ^ i) ≤ v
      · refine Ev_pos (cmp_le.2 hle) (Ev_pos w3 (ih (n + 2 ^ i) (by omega) hle ?_))
        rw [Nat.add_assoc, show 2 ^ i + 2 ^ i = 2 ^ (i + 1) by rw [Nat.pow_succ]; omega]
        exact h3
      · exact Ev_neg (fun h => hle (cmp_le.1 h)) (skip (Nat.lt_of_not_le hle))
theorem r_start {a : List Int} {b v L J : Nat} {ms : List (List Int)} (ha : ok a) (hla : a.length ≤ 35184372088832) (hav : val a = v) (h2 : 2 ≤ b) (hv : v < B 4096) (h0 : v ≠ 0) (hL1 : b ^ L ≤ v) (hL2 : v < b ^ (L + 1)) (S : Sq b v J ms) (hJ : J ≤ 20) (hlt : v < b ^ 2 ^ J) : Ev (fun k _ _ => abacusref02_Log.l255 k a ms) ((L : Int), 0) := by
  simp only [abacusref02_Log.l255, abacusref02_Log.b255, lnr_eq, S.len, (w_pred hJ).1]
  have := r_loop2 ha hla hav h2 hv hL1 hL2 S hJ J 0 (Nat.le_refl _) (by rw [Nat.pow_zero]; omega) (by rw [Nat.zero_add]; exact hlt)
  rw [Nat.pow_zero, lim_one_len (n := 1) (by decide) (by decide)] at this
  exact Ev_in (g := fun k m _ => abacusref02_Log.l16373 k m a ((0 : Nat) : Int) [1] ((J : Int) - 1) ms) this
theorem r_loop1 {a : List Int} {b v L : Nat} (ha : ok a) (hla : a.length ≤ 35184372088832) (hav : val a = v) (h2 : 2 ≤ b) (hv : v < B 4096) (h0 : v ≠ 0) (hL1 : b ^ L ≤ v) (hL2 : v < b ^ (L + 1)) (d : Nat) : ∀ (J : Nat) (ms : List (List Int)), J + d = 20 → Sq b v J ms → (lim (b ^ 2 ^ J)).length ≤ 8192 →
    Ev (fun k m _ => abacusref02_Log.l1017 k m a (lim (b ^ 2 ^ J)) ms) ((L : Int), 0) := by
  have htop := abacusref02_Top_ev ha (Nat.le_trans hla (by decide))
  rw [hav] at htop
  have ho (J : Nat) (h : (lim (b ^ 2 ^ J)).length ≤ 8192) : Ev (fun k _ _ => abacusref02_Order.f k (lim (b ^ 2 ^ J)) a) (cmp (b ^ 2 ^ J) v) := by
    have := Order_ev (ok_lim (b ^ 2 ^ J)) ha (Nat.le_trans h (by decide)) (Nat.le_trans hla (by decide))
    rwa [val_lim, hav] at this
  have hb0 : ∀ k, b ^ k ≠ 0 := fun k => Nat.ne_of_gt (Nat.pow_pos (by omega))
  induction d with
  | zero =>
    intro J ms hJ S hp
    have hgt : ¬ b ^ 2 ^ J ≤ v := fun h => by have := J_lt h2 hv h; omega
    refine Ev_succ ?_
    simp only [abacusref02_Log.l1017, abacusref02_Log.b1017]
    exact Ev.bind (ho J hp) (Ev_neg (fun h => hgt (cmp_le.1 h)) (r_start ha hla hav h2 hv h0 hL1 hL2 S (by omega) (Nat.lt_of_not_le hgt)))
  | succ d ih =>
    intro J ms hJ S hp
    refine Ev_succ ?_
    simp only [abacusref02_Log.l1017, abacusref02_Log.b1017]
    refine Ev.bind (ho J hp) ?_
    by_cases hle : b ^ 2 ^ J ≤ v
    · have hJ18 := J_lt h2 hv hle
      have hf : b ^ 2 ^ J < B 4096 := Nat.lt_of_le_of_lt hle hv
      have l1 := len_pos (hb0 (2 ^ J))
      have m1 := len_lim hf
      have S' := S.snoc hle
      refine Ev_pos (cmp_le.2 hle) (Ev_pos (room S.len hJ18) (Ev.bind (top_lim (len_ok hf)) (Ev.bind htop ?_)))
      rw [(w_two l1 l1 m1 m1).2]
      by_cases hc : (lim v).length + 2 ≤ (lim (b ^ 2 ^ J)).length + (lim (b ^ 2 ^ J)).length
      · refine Ev_pos (by omega) (r_start ha hla hav h2 hv h0 hL1 hL2 S' (by omega) ?_)
        rw [← sq_pow]
        exact over (hb0 _) (hb0 _) rfl hc
      · have ht := times_lim hf hf
        rw [sq_pow] at ht
        refine Ev_neg (by omega) (Ev.bind ht (ih (J + 1) _ (by omega) S' ?_))
        refine (lim_len_le _ _).2 ?_
        rw [← sq_pow, show 8192 = 4096 + 4096 from rfl, B_add]
        exact Nat.mul_lt_mul_of_lt_of_lt hf hf
    · exact Ev_neg (fun h => hle (cmp_le.1 h)) (r_start ha hla hav h2 hv h0 hL1 hL2 S (by omega) (Nat.lt_of_not_le hle))
/-- Both logarithms answer the same. -/
theorem logs_same {a : List Int} {x : Int} (ha : ok a) (hla : a.length ≤ 35184372088832) (hx : 0 ≤ x ∧ x < 18446744073709551616) : ∃ r, Ev (fun k _ _ => abacusref02_Log.f k a x) r ∧ Ev (fun k _ _ => quot_Log.f k a x) r := by
  have htop := abacusref02_Top_ev ha (Nat.le_trans hla (by decide))
  have hsm := quot_small_ev (m := 4096) ha hla
  have h4 := lim_len_le (val a) 4096
  simp only [abacusref02_Log.f, abacusref02_Log.b0, quot_Log.f, quot_Log.b0, ln_eq]
  generalize hav : val a = v at *
  by_cases h1 : v < B 4096
  · have hl := h4.2 h1
    rw [decide_eq_true (show ((lim v).length : Int) ≤ 4096 by omega)] at hsm
    by_cases h0 : v = 0
    · subst h0
      refine ⟨(0, 4), Ev.bind htop (Ev_neg (ngt_of hl) (Ev.bind htop (Ev_pos (by rw [lim_zero]; rfl) (Ev.now _)))), Ev.bind hsm (Ev_neg (by simp) (Ev_pos (by rw [lim_zero]; rfl) (Ev.now _)))⟩
    · have hne : ¬ ((lim v).length : Int) = 0 := fun h => h0 (lim_len_zero.1 (by omega))
      by_cases hb : x < 2
      · exact ⟨(0, 1), Ev.bind htop (Ev_neg (ngt_of hl) (Ev.bind htop (Ev_neg hne (Ev_pos hb (Ev.now _))))), Ev.bind hsm (Ev_neg (by simp) (Ev_neg hne (Ev_pos hb (Ev.now _))))⟩
      · obtain ⟨b, rfl⟩ := Int.eq_ofNat_of_zero_le hx.1
        have h2 : 2 ≤ b := by omega
        have hb64 : b < 18446744073709551616 := by omega
        obtain ⟨L, hL1, hL2⟩ := log_ex h2 h0
        have e : lim b = lim (b ^ 2 ^ 0) := by rw [Nat.pow_zero, Nat.pow_one]
        have s1 : (lim (b ^ 2 ^ 0)).length ≤ 8192 := by rw [← e]; exact Nat.le_trans (len_lim (small_limit hb64)) (by decide)
        have s2 : b ^ 2 ^ 0 < B 4096 := by rw [Nat.pow_zero, Nat.pow_one]; exact small_limit hb64
        have hr := r_loop1 ha hla hav h2 h1 h0 hL1 hL2 20 0 [] (by decide) (Sq.nil b v) s1
        have hq := q_loop1 h2 h1 h0 hL1 hL2 20 0 [] (by decide) (Sq.nil b v) s2
        rw [← e] at hr hq
        refine ⟨((L : Int), 0), Ev.bind htop (Ev_neg (ngt_of hl) (Ev.bind htop (Ev_neg hne (Ev_neg hb ?_)))), Ev.bind hsm (Ev_neg (by simp) (Ev_neg hne (Ev_neg hb (Ev_bind_eq (FromUint_eq hb64) ?_))))⟩
        · rw [lim_limb hb64 (by omega)]
          exact Ev_in (g := fun k m _ => abacusref02_Log.l1017 k m a (lim b) []) hr
        · exact Ev_in (g := fun k m _ => quot_Log.l505 k m (lim v) (lim b) []) hq
  · have hl : ¬ (lim v).length ≤ 4096 := fun h => h1 (h4.1 h)
    rw [decide_eq_false (show ¬ ((lim v).length : Int) ≤ 4096 by omega)] at hsm
    exact ⟨(0, 2), Ev.bind htop (Ev_pos (gt_of hl) (Ev.now _)), Ev.bind hsm (Ev_pos (by simp) (Ev.now _))⟩
end Go.Proofs.YtalkmbmhmbnadaaDoor.R2
