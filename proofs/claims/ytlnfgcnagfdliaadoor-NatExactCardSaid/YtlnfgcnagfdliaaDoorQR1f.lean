/- The first reference's division by a limb, bit by bit. Conditions: lists as a call gets them. -/
import Derived.Test.YtlnfgcnagfdliaaDoorQR1e
namespace Go.Proofs.YtlnfgcnagfdliaaDoor.R1
open Go.RowKit Go.Proofs.YtlnfgcnagfdliaaDoor.Lib Go.Proofs.YtlnfgcnagfdliaaDoor.LibB Go.Proofs.YtlnfgcnagfdliaaDoor.F Go.Proofs.YtlnfgcnagfdliaaDoor.Nat1 Go.Proofs.YtlnfgcnagfdliaaDoor.Nat2 Go.Proofs.YtlnfgcnagfdliaaDoor.Bits Go.Proofs.YtlnfgcnagfdliaaDoor.R4
open Go.Proofs.YtlnfgcnagfdliaaDoor.Div (nat_DivSmall_ev divAns)
open Go.Proofs.YtlnfgcnagfdliaaDoorA (rd rdb rdr ln ln_eq lnr lnr_eq mx mn shl shr wr wr_eq)
set_option linter.unusedVariables false
set_option linter.unusedSimpArgs false
theorem bit_next {X k : Nat} (hk : k < 64) : X / 2 ^ (63 - k) = 2 * (X / 2 ^ (64 - k)) + X / 2 ^ (63 - k) % 2 := by
  have e : 2 ^ (64 - k) = 2 ^ (63 - k) * 2 := by rw [← Nat.pow_succ]; congr 1; omega
  rw [e, ← Nat.div_div_eq_div_mul]
  omega
theorem top_lt {X k : Nat} (hX : X < 18446744073709551616) (hk : k ≤ 64) : X / 2 ^ (64 - k) < 2 ^ k := by
  refine Nat.div_lt_of_lt_mul ?_
  rw [← Nat.pow_add, show 64 - k + k = 64 by omega]
  exact hX
theorem quo_small {d R P Q r k : Nat} (hR : R < d) (hP : P < 2 ^ k) (h : R * 2 ^ k + P = Q * d + r) : Q < 2 ^ k := by
  have h1 : (R + 1) * 2 ^ k ≤ d * 2 ^ k := Nat.mul_le_mul_right _ hR
  rw [Nat.succ_mul] at h1
  have h2 : Q * d < 2 ^ k * d := by rw [Nat.mul_comm (2 ^ k)]; omega
  exact Nat.lt_of_mul_lt_mul_right h2
theorem full_step {d R P P' Q r b k : Nat} (h : R * 2 ^ k + P = Q * d + r) (hP : P' = 2 * P + b) : R * 2 ^ (k + 1) + P' = 2 * (Q * d) + (2 * r + b) := by
  rw [hP, Nat.pow_succ, ← Nat.mul_assoc]
  omega
theorem low_bit {X k : Nat} (hX : X < 18446744073709551616) (hk : k < 64) : shl .u64 (X : Int) (k : Int) / 9223372036854775808 = ((X / 2 ^ (63 - k) % 2 : Nat) : Int) := by
  have e1 : X * 2 ^ k / 9223372036854775808 = X / 2 ^ (63 - k) := by
    rw [show 9223372036854775808 = 2 ^ (63 - k) * 2 ^ k by rw [← Nat.pow_add, show 63 - k + k = 63 by omega]]
    exact Nat.mul_div_mul_right _ _ (Nat.pow_pos (by omega))
  rw [shl_u64 (by omega) (by omega), ← e1, ← Int.natCast_mul]
  generalize X * 2 ^ k = Y
  omega
theorem join_bit {r b : Nat} (hr : r < 18446744073709551616) (hb : b < 2) : Go.bits .or .u64 (IntKind.u64.wrap ((r : Int) * 2)) (b : Int) = ((r % 9223372036854775808 * 2 + b : Nat) : Int) := by
  have e : IntKind.u64.wrap ((r : Int) * 2) = ((r % 9223372036854775808 : Nat) : Int) * ((2 ^ 1 : Nat) : Int) := by rw [IntKind.wrap_u64]; omega
  rw [e, or_low (s := 1) (by omega) (by omega) (by omega) (by omega)]
  omega
theorem rd_set_self {l : List Int} {i : Nat} {x : Int} (h : i < l.length) : rd (l.set i x) (i : Int) = x := by
  simp only [rd, Int.toNat_natCast, List.getD_eq_getElem?_getD]
  rw [List.getElem?_set_self h]; rfl
theorem w2q {Q : Nat} (h : Q < 9223372036854775808) : IntKind.u64.wrap ((Q : Int) * 2) = ((2 * Q : Nat) : Int) := by rw [IntKind.wrap_u64]; omega
theorem w2q1 {Q : Nat} (h : Q < 9223372036854775808) : IntKind.u64.wrap (((2 * Q : Nat) : Int) + 1) = ((2 * Q + 1 : Nat) : Int) := by rw [IntKind.wrap_u64]; omega
theorem wfull {r b d : Nat} (ht : (r : Int) / 9223372036854775808 = 1) (hb : b < 2) (hr : r < d) (hd : d < 18446744073709551616) : IntKind.u64.wrap (((r % 9223372036854775808 * 2 + b : Nat) : Int) - (d : Int)) = ((2 * r + b - d : Nat) : Int) := by rw [IntKind.wrap_u64]; omega
theorem wtop {r b d : Nat} (ht : (r : Int) / 9223372036854775808 = 1) (hd : d < 18446744073709551616) : d ≤ 2 * r + b := by omega
theorem wpart {r b d : Nat} (h : d ≤ 2 * r + b) (hb : b < 2) (hr : r < d) (hd : d < 18446744073709551616) : IntKind.u64.wrap (((2 * r + b : Nat) : Int) - (d : Int)) = ((2 * r + b - d : Nat) : Int) := by rw [IntKind.wrap_u64]; omega
theorem wlow {r b d : Nat} (ht : ¬ (r : Int) / 9223372036854775808 = 1) (hr : r < d) (hd : d < 18446744073709551616) : r % 9223372036854775808 * 2 + b = 2 * r + b := by omega
theorem rest_lt {r b d : Nat} (h : d ≤ 2 * r + b) (hb : b < 2) (hr : r < d) : 2 * r + b - d < d := by omega
theorem up_eq {A Q d r b : Nat} (h : d ≤ 2 * r + b) : 2 * A + (2 * r + b) = 2 * A + d + (2 * r + b - d) := by omega
theorem ge_int {d x : Nat} (h : d ≤ x) : (x : Int) ≥ (d : Int) := Int.ofNat_le.2 h
theorem nge_int {d x : Nat} (h : ¬ d ≤ x) : ¬ (x : Int) ≥ (d : Int) := fun k => h (Int.ofNat_le.1 k)
theorem hs63 (k : Nat) : 64 - (k + 1) = 63 - k := by omega
theorem hke {k e : Nat} (h : k + (e + 1) = 64) : k < 64 ∧ k ≤ 63 ∧ k + 1 + e = 64 := by omega
theorem k_lt {k : Nat} (h : k < 64) : (k : Int) < 64 := by omega
theorem rdiv_in {a : List Int} {d i R X : Nat} {q0 : List Int} {ANS : List Int × Int × Int} (hi : i < a.length) (hiq : i < q0.length) (hx : rd a (i : Int) = (X : Int)) (hX : X < 18446744073709551616) (hd : d < 18446744073709551616) (hR : R < d) (hal : a.length ≤ 9223372036854775807)
    (next : ∀ Q r : Nat, r < d → Q < 18446744073709551616 → R * 18446744073709551616 + X = Q * d + r → Ev (fun k m _ => abacusref01_DivSmall.l2037 k m a (d : Int) (r : Int) ((i : Int) - 1) (q0.set i (Q : Int))) ANS) (e : Nat) :
    ∀ k Q r : Nat, k + e = 64 → r < d → Aside0 (R * 2 ^ k + X / 2 ^ (64 - k) = Q * d + r) → Ev (fun n m p => abacusref01_DivSmall.l130341 n (abacusref01_DivSmall.l2037 n m) p a (d : Int) (r : Int) (k : Int) (i : Int) (q0.set i (Q : Int))) ANS := by
  have wi : wrap64 ((i : Int) - 1) = (i : Int) - 1 := by unfold wrap64; omega
  induction e with
  | zero =>
    intro k Q r hk hr h
    obtain rfl : k = 64 := by omega
    have h := h.out
    rw [Nat.sub_self, Nat.pow_zero, Nat.div_one] at h
    have hQ := quo_small hR (show X < 2 ^ 64 from hX) h
    refine Ev_succ2 ?_
    simp only [abacusref01_DivSmall.l130341, abacusref01_DivSmall.b130341, wi]
    have := next Q r hr hQ h
    clear h hQ
    exact Ev_neg (by omega) this
  | succ e ih =>
    intro k Q r hk hr h
    obtain ⟨hk64, hk63, hke'⟩ := hke hk
    have hQ := quo_small hR (top_lt hX (Nat.le_of_lt hk64)) h.out
    have hQ2 : Q < 9223372036854775808 := Nat.lt_of_lt_of_le hQ (pow63 hk63)
    have hs := full_step h.out (bit_next (X := X) hk64)
    obtain ⟨b, hb⟩ : ∃ b, b = X / 2 ^ (63 - k) % 2 := ⟨_, rfl⟩
    have hb2 : b < 2 := by rw [hb]; exact Nat.mod_lt _ (by omega)
    rw [← hb] at hs
    have lb := low_bit hX hk64
    rw [← hb] at lb
    have hr64 : r < 18446744073709551616 := Nat.lt_trans hr hd
    have jb := join_bit hr64 hb2
    have e1 : wrap64 ((k : Int) + 1) = ((k + 1 : Nat) : Int) := wone (n := 64) hk64 (by decide)
    have hsub : 64 - (k + 1) = 63 - k := hs63 k
    have r1 : rd (q0.set i (Q : Int)) (i : Int) = (Q : Int) := rd_set_self hiq
    have w1 : IntKind.u64.wrap ((Q : Int) * 2) = ((2 * Q : Nat) : Int) := w2q hQ2
    have r2 : rd (q0.set i ((2 * Q : Nat) : Int)) (i : Int) = ((2 * Q : Nat) : Int) := rd_set_self hiq
    have w2 : IntKind.u64.wrap (((2 * Q : Nat) : Int) + 1) = ((2 * Q + 1 : Nat) : Int) := w2q1 hQ2
    have hs' := Aside0.mk hs
    clear hs h hQ hb
    have up (hge : d ≤ 2 * r + b) : Ev (fun n m p => abacusref01_DivSmall.l130341 n (abacusref01_DivSmall.l2037 n m) p a (d : Int) ((2 * r + b - d : Nat) : Int) ((k + 1 : Nat) : Int) (i : Int) (q0.set i ((2 * Q + 1 : Nat) : Int))) ANS := by
      refine ih (k + 1) (2 * Q + 1) (2 * r + b - d) hke' (rest_lt hge hb2 hr) ⟨?_⟩
      have hq : (2 * Q + 1) * d = 2 * (Q * d) + d := by rw [Nat.add_mul, Nat.one_mul, Nat.mul_assoc]
      rw [hsub, hs'.out, hq]
      exact up_eq (Q := 0) hge
    have stay (hlt : 2 * r + b < d) : Ev (fun n m p => abacusref01_DivSmall.l130341 n (abacusref01_DivSmall.l2037 n m) p a (d : Int) ((2 * r + b : Nat) : Int) ((k + 1 : Nat) : Int) (i : Int) (q0.set i ((2 * Q : Nat) : Int))) ANS := by
      refine ih (k + 1) (2 * Q) (2 * r + b) hke' hlt ⟨?_⟩
      have hq : 2 * Q * d = 2 * (Q * d) := Nat.mul_assoc ..
      rw [hsub, hs'.out, hq]
    have hset : (q0.set i (Q : Int)).length = q0.length := List.length_set
    refine Ev_succ2 ?_
    simp only [abacusref01_DivSmall.l130341, abacusref01_DivSmall.b130341, ln_eq, hx, lb, jb, Int.toNat_natCast, r1, w1, List.set_set, r2, w2, e1, List.length_set]
    have ciq : (i : Int) < (q0.length : Int) := nlt hiq
    refine Ev_pos (k_lt hk64) (Ev_pos (n0 i) (Ev_pos (nlt hi) (Ev_pos (n0 k) (Ev_pos (n0 i) (Ev_pos ciq (Ev_pos (n0 i) (Ev_pos ciq ?_)))))))
    clear hx lb jb hs'
    by_cases ht : (r : Int) / 9223372036854775808 = 1
    · have hge : d ≤ 2 * r + b := wtop ht hd
      rw [wfull ht hb2 hr hd]
      exact Ev_pos ht (Ev_pos (n0 i) (Ev_pos ciq (Ev_pos (n0 i) (Ev_pos ciq (up hge)))))
    · rw [wlow ht hr hd]
      refine Ev_neg ht ?_
      by_cases hge : d ≤ 2 * r + b
      · rw [wpart hge hb2 hr hd]
        exact Ev_pos (ge_int hge) (Ev_pos (n0 i) (Ev_pos ciq (Ev_pos (n0 i) (Ev_pos ciq (up hge)))))
      · exact Ev_neg (nge_int hge) (stay (Nat.lt_of_not_le hge))
theorem set_rd0 {q : List Int} {i : Nat} (h : i < q.length) (hz : rd q (i : Int) = 0) : q.set i ((0 : Nat) : Int) = q := by
  have h1 : q[i] = 0 := by
    simp only [rd, Int.toNat_natCast, List.getD_eq_getElem?_getD, List.getElem?_eq_getElem h] at hz
    exact hz
  rw [show ((0 : Nat) : Int) = q[i] from h1.symm]
  exact List.set_getElem_self h
theorem val_set_drop (s : List Int) (k : Nat) (x : Int) (h : k < s.length) : val ((s.set k x).drop k) = x.toNat + 18446744073709551616 * val (s.drop (k + 1)) := by
  rw [val_drop_cons _ _ (by rw [List.length_set]; exact h), rd_set_self h, List.drop_set, if_pos (by omega)]
theorem rd_replicate0 (n j : Nat) : rd (List.replicate n 0) (j : Int) = 0 := by
  simp only [rd, Int.toNat_natCast, List.getD_eq_getElem?_getD, List.getElem?_replicate]
  split <;> rfl
theorem long_step {V d R g Q r W : Nat} (h : V * d + R = W) (hq : R * 18446744073709551616 + g = Q * d + r) : (Q + 18446744073709551616 * V) * d + r = g + 18446744073709551616 * W := by
  subst h
  have e : 18446744073709551616 * (V * d + R) = 18446744073709551616 * V * d + R * 18446744073709551616 := by rw [Nat.mul_add, Nat.mul_assoc, Nat.mul_comm 18446744073709551616 R]
  rw [e, Nat.add_mul]
  omega
theorem rDivSmall_ev {a : List Int} {d : Int} (ha : Arg a) (hd : 0 ≤ d ∧ d < 18446744073709551616) : Ev (fun k _ _ => abacusref01_DivSmall.f k a d) (divAns (val a) d) := by
  simp only [abacusref01_DivSmall.f, abacusref01_DivSmall.b0]
  unfold divAns
  by_cases h1 : val a < B 4096
  · rw [if_pos h1]
    refine Ev.bind (big_no ha h1) (Ev_neg (by simp) ?_)
    by_cases h2 : d = 0
    · rw [if_pos h2]
      exact Ev_pos h2 (Ev.now _)
    rw [if_neg h2]
    refine Ev_neg h2 (Ev.bind (abacusref01_Size_ev ha.ok (ha.lt (by decide))) ?_)
    obtain ⟨D, rfl⟩ := nat_of hd.1
    have hD : D < 18446744073709551616 := by omega
    have hD0 : 0 < D := by omega
    have hn := (lim_len_le (val a) 4096).2 h1
    have hla := lim_len_val_le ha.ok
    have hal := ha.len
    obtain ⟨n, hnn⟩ : ∃ n, n = (lim (val a)).length := ⟨_, rfl⟩
    rw [← hnn] at hn hla ⊢
    have htop : val (a.drop n) = 0 := by
      have t1 := take_lim ha.ok
      rw [← hnn] at t1
      have t2 : val a = val (a.take n) := by rw [t1, val_lim]
      have t3 := val_split a n
      rw [Nat.min_eq_left hla] at t3
      have t4 : B n * val (a.drop n) = 0 := by omega
      exact (Nat.mul_eq_zero.1 t4).resolve_left (Nat.ne_of_gt (B_pos _))
    rw [Int.toNat_natCast, Int.toNat_natCast]
    have w0 : wrap64 ((n : Int) - 1) = (n : Int) - 1 := by unfold wrap64; omega
    rw [w0]
    have go (i : Nat) : ∀ (r : Nat) (q : List Int), i ≤ n → q.length = n → ok q → r < D → Aside0 (∀ j : Nat, j < i → rd q (j : Int) = 0) → Aside0 (val (q.drop i) * D + r = val (a.drop i)) →
        Ev (fun k m _ => abacusref01_DivSmall.l2037 k m a (D : Int) (r : Int) ((i : Int) - 1) q) (lim (val a / D), ((val a % D : Nat) : Int), 0) := by
      induction i with
      | zero =>
        intro r q hi hl hq hr hz hv
        have hv := hv.out
        rw [List.drop_zero, List.drop_zero] at hv
        have e1 : val a / D = val q := by rw [← hv, Nat.mul_comm, Nat.mul_add_div hD0, Nat.div_eq_of_lt hr, Nat.add_zero]
        have e2 : val a % D = r := by rw [← hv, Nat.mul_comm, Nat.mul_add_mod, Nat.mod_eq_of_lt hr]
        rw [e1, e2]
        refine Ev_succ ?_
        simp only [abacusref01_DivSmall.l2037, abacusref01_DivSmall.b2037, abacusref01_DivSmall.l255, abacusref01_DivSmall.b255]
        have tr := Trim_ev hq (by omega)
        clear hv e1 e2
        exact Ev_neg (by omega) (Ev.bind tr (Ev.now _))
      | succ i ih =>
        intro r q hi hl hq hr hz hv
        have hia : i < a.length := by omega
        have hiq : i < q.length := by omega
        obtain ⟨X, hX⟩ := nat_of (ok_rd ha.ok (i : Int)).1
        have hX2 := (ok_rd ha.ok (i : Int)).2
        rw [hX] at hX2
        have ei : ((i + 1 : Nat) : Int) - 1 = (i : Int) := by omega
        have hz0 := set_rd0 hiq (hz.out i (Nat.lt_succ_self i))
        have inn := rdiv_in (q0 := q) (ANS := (lim (val a / D), ((val a % D : Nat) : Int), 0)) hia hiq hX (Int.ofNat_lt.1 hX2) hD hr (by omega) (fun Q r' hr' hQ he => by
          refine ih r' (q.set i (Q : Int)) (by omega) (by rw [List.length_set]; exact hl) (ok_set hq _ (n0 _) (by omega)) hr' ⟨fun j hj => ?_⟩ ⟨?_⟩
          · rw [rd_set_ne _ _ _ _ (by omega)]
            exact hz.out j (Nat.lt_succ_of_lt hj)
          · rw [val_set_drop _ _ _ hiq, Int.toNat_natCast, val_drop_cons a i hia, hX, Int.toNat_natCast]
            exact long_step hv.out he) 64 0 0 r rfl hr ⟨by
            rw [Nat.pow_zero, Nat.mul_one, Nat.zero_mul, Nat.zero_add, Nat.sub_zero, Nat.div_eq_of_lt (show X < 2 ^ 64 from Int.ofNat_lt.1 hX2), Nat.add_zero]⟩
        rw [hz0] at inn
        rw [ei]
        refine Ev_succ ?_
        simp only [abacusref01_DivSmall.l2037, abacusref01_DivSmall.b2037]
        exact Ev_pos (n0 i) (Ev_in2 inn)
    have := go n 0 (List.replicate n 0) (Nat.le_refl _) (List.length_replicate ..) (ok_replicate n) hD0 ⟨fun j _ => rd_replicate0 n j⟩ ⟨by rw [htop, List.drop_eq_nil_of_le (by rw [List.length_replicate]; exact Nat.le_refl _), val_nil]; simp⟩
    exact Ev_pos (n0 _) (Ev_pos (by omega) (Ev_in this))
  · rw [if_neg h1]
    exact Ev.bind (big_yes ha h1) (Ev_pos rfl (Ev.now _))
end Go.Proofs.YtlnfgcnagfdliaaDoor.R1
