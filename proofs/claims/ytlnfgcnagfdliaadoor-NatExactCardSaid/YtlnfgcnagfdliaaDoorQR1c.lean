/- What the first reference's shift and comparison compute. Conditions: lists of limbs below 2^64, of lengths that a slice has. -/
import Derived.Test.YtlnfgcnagfdliaaDoorQR1b
namespace Go.Proofs.YtlnfgcnagfdliaaDoor.R1
open Go.RowKit Go.Proofs.YtlnfgcnagfdliaaDoor.Lib Go.Proofs.YtlnfgcnagfdliaaDoor.LibB Go.Proofs.YtlnfgcnagfdliaaDoor.F Go.Proofs.YtlnfgcnagfdliaaDoor.Nat1 Go.Proofs.YtlnfgcnagfdliaaDoor.Nat2 Go.Proofs.YtlnfgcnagfdliaaDoor.Bits
open Go.Proofs.YtlnfgcnagfdliaaDoorA (rd ln ln_eq mx mn shl shr wr wr_eq)
set_option linter.unusedVariables false
set_option linter.unusedSimpArgs false
theorem v32_zeros (i : Nat) : v32 (List.replicate i 0) = 0 := v32_replicate i
theorem lin4 {A HC S r k m q : Nat} (h1 : A + HC = S) (h2 : r + k = HC + m) (h3 : q = S + m) : A + r + k = q := by omega
theorem wmul2 {x : Nat} (h : x < 9223372036854775808) : IntKind.u64.wrap ((x : Int) * 2) = ((x * 2 : Nat) : Int) := by rw [IntKind.wrap_u64]; omega
theorem two31 {i : Nat} (h : i ≤ 31) : 2 ^ i ≤ 2147483648 := by
  have := Nat.pow_le_pow_right (show 2 > 0 by omega) h
  omega
theorem mcLt {M c : Nat} (h : M ≤ 4294967295 * 2147483648) (hc : c < 4294967296) : M + c < 18446744073709551616 := by omega
theorem Lift_evS {a : List Int} {n : Nat} (ha : ok a) (hla : Sz a) (hn : n ≤ 1099511627776) : Ev (fun k _ _ => abacusref01_Lift.f k a (n : Int)) (lim (val a * 2 ^ n)) := by
  obtain ⟨x, ex, dx, lx⟩ := halves_evS ha hla
  simp only [abacusref01_Lift.f, abacusref01_Lift.b0, ln_eq]
  refine Ev.bind ex ?_
  by_cases x0 : x.length = 0
  · rw [dx.len0.1 x0, Nat.zero_mul, lim_zero]
    exact Ev_pos (by omega) (Ev.now _)
  obtain ⟨q, hq⟩ : ∃ q, q = n / 32 := ⟨_, rfl⟩
  obtain ⟨f, hf⟩ : ∃ f, f = n % 32 := ⟨_, rfl⟩
  have t1 : wrap64 (Int.tdiv (n : Int) 32) = (q : Int) := by rw [Int.tdiv_eq_ediv_of_nonneg (by omega)]; unfold wrap64; omega
  have t2 : Int.tmod (n : Int) 32 = (f : Int) := by rw [Int.tmod_eq_emod_of_nonneg (by omega)]; omega
  have w : wrap64 (wrap64 (wrap64 (Int.tdiv (n : Int) 32) + (x.length : Int)) + 1) = ((q + x.length + 1 : Nat) : Int) := by
    rw [t1, show wrap64 ((q : Int) + (x.length : Int)) = ((q + x.length : Nat) : Int) by unfold wrap64; omega]
    unfold wrap64; omega
  have hf32 : f < 32 := by omega
  have big : q + x.length + 1 ≤ 17592186044416 := by omega
  have bq : q ≤ 34359738368 := by omega
  have hpow : Aside0 (2 ^ n = H q * 2 ^ f) := ⟨by rw [H_two, ← Nat.pow_add]; congr 1; omega⟩
  have hp2 : Aside0 (2 ^ f ≤ 2147483648) := ⟨two31 (by omega)⟩
  rw [w]
  clear w hq hf hn
  refine Ev_neg (by omega) (Ev_pos (by omega) (Ev_pos (by omega) (Ev_in (g := fun k m _ => abacusref01_Lift.l501 k m (n : Int) x 0 (List.replicate 0 (0 : Int))) ?_)))
  -- the digits
  have go (d : Nat) : ∀ (i c : Nat) (acc : List Int), i + d = x.length → acc.length = q + i → c < 4294967296 → ok32 acc → Aside0 (v32 acc + H (q + i) * c = H q * 2 ^ f * v32 (x.take i)) →
      Ev (fun k m _ => abacusref01_Lift.l8181 k m x ((2 ^ f : Nat) : Int) (c : Int) (i : Int) acc) (lim (val a * 2 ^ n)) := by
    induction d with
    | zero =>
      intro i c acc hi hl hc hk hv
      refine Ev_succ ?_
      simp only [abacusref01_Lift.l8181, abacusref01_Lift.b8181, abacusref01_Lift.l1023, abacusref01_Lift.b1023, ln_eq]
      have := limbs_ev (g := acc ++ [(c : Int)]) (ok32_snoc hk hc) (by simp; omega)
      rw [v32_snoc, hl, Int.toNat_natCast, hv.out, v32_take_over (by omega), dx.v, ← hpow.out, Nat.mul_comm] at this
      exact Ev_neg (by omega) (Ev_pos (by omega) (Ev.bind this (Ev.now _)))
    | succ d ih =>
      intro i c acc hi hl hc hk hv
      have hix : i < x.length := by omega
      have hb : acc.length + 1 ≤ 17592186044416 := by omega
      have hd1 : i + 1 + d = x.length := by omega
      have e1 : wrap64 ((i : Int) + 1) = ((i + 1 : Nat) : Int) := wone (n := 17592186044416) (by omega) (by omega)
      obtain ⟨p, hp⟩ := nat_of (ok32_rd dx.dig (i : Int)).1
      have hpl := (ok32_rd dx.dig (i : Int)).2
      rw [hp] at hpl
      obtain ⟨M, hM⟩ : ∃ M, M = p * 2 ^ f := ⟨_, rfl⟩
      have hm : M ≤ 4294967295 * 2147483648 := by rw [hM]; exact Nat.mul_le_mul (Nat.le_of_lt_succ (Int.ofNat_lt.1 hpl)) hp2.out
      have hMc : M + c < 18446744073709551616 := mcLt hm hc
      have e2 : IntKind.u64.wrap ((p : Int) * ((2 ^ f : Nat) : Int)) = (M : Int) := by rw [← Int.natCast_mul, ← hM]; exact wu (Nat.lt_of_le_of_lt (Nat.le_add_right _ _) hMc)
      have e3 : IntKind.u64.wrap ((M : Int) + (c : Int)) = ((M + c : Nat) : Int) := wadd rfl hMc
      refine Ev_succ ?_
      simp only [abacusref01_Lift.l8181, abacusref01_Lift.b8181, ln_eq, hp, e1, e2, e3, bit_32 hMc, high]
      refine Ev_pos (nlt hix) (Ev_pos (n0 i) (Ev_pos (nlt hix) (Ev_pos hb ?_)))
      refine ih (i + 1) _ _ hd1 (by rw [List.length_append, hl]; rfl) (Nat.div_lt_of_lt_mul hMc) (ok32_snoc hk (Nat.mod_lt _ (by omega))) ⟨?_⟩
      have e5 : H (q + (i + 1)) * ((M + c) / 4294967296) = H (q + i) * (4294967296 * ((M + c) / 4294967296)) := by
        rw [show q + (i + 1) = q + i + 1 from rfl, H_succ, Nat.mul_comm 4294967296, Nat.mul_assoc]
      have e6 : H (q + i) * ((M + c) % 4294967296) + H (q + i) * (4294967296 * ((M + c) / 4294967296)) = H (q + i) * c + H (q + i) * M := by
        rw [← Nat.mul_add, Nat.mod_add_div, Nat.add_comm M, Nat.mul_add]
      have e7 : H q * 2 ^ f * (v32 (x.take i) + H i * p) = H q * 2 ^ f * v32 (x.take i) + H (q + i) * M := by
        rw [Nat.mul_add, H_add, hM]
        congr 1
        simp only [Nat.mul_assoc, Nat.mul_comm, Nat.mul_left_comm]
      rw [v32_snoc, hl, v32_take_succ, hp, Int.toNat_natCast, Int.toNat_natCast, e5]
      exact lin4 hv.out e6 e7
  have fac (d : Nat) : ∀ i : Nat, i + d = f → Ev (fun k m _ => abacusref01_Lift.l2037 k m (n : Int) x ((2 ^ i : Nat) : Int) (i : Int) (List.replicate q (0 : Int))) (lim (val a * 2 ^ n)) := by
    induction d with
    | zero =>
      intro i hi
      obtain rfl : i = f := by omega
      refine Ev_succ ?_
      simp only [abacusref01_Lift.l2037, abacusref01_Lift.b2037, abacusref01_Lift.l255, abacusref01_Lift.b255, t2]
      exact Ev_neg (by omega) (Ev_in (go x.length 0 0 (List.replicate q 0) (by omega) (by simp) (by omega) (ok32_replicate _) ⟨by rw [v32_zeros, Nat.mul_zero, List.take_zero, v32_nil, Nat.mul_zero]⟩))
    | succ d ih =>
      intro i hi
      have hif : (i : Int) < (f : Int) := by omega
      have hi1 : i + 1 + d = f := by omega
      have e1 : wrap64 ((i : Int) + 1) = ((i + 1 : Nat) : Int) := wone (n := 32) (by omega) (by omega)
      have hp3 : 2 ^ i < 9223372036854775808 := Nat.lt_of_le_of_lt (two31 (by omega)) (by omega)
      refine Ev_succ ?_
      simp only [abacusref01_Lift.l2037, abacusref01_Lift.b2037, t2, e1, wmul2 hp3]
      rw [← Nat.pow_succ]
      exact Ev_pos hif (ih (i + 1) hi1)
  have zer (d : Nat) : ∀ i : Nat, i + d = q → Ev (fun k m _ => abacusref01_Lift.l501 k m (n : Int) x (i : Int) (List.replicate i (0 : Int))) (lim (val a * 2 ^ n)) := by
    induction d with
    | zero =>
      intro i hi
      obtain rfl : i = q := by omega
      refine Ev_succ ?_
      simp only [abacusref01_Lift.l501, abacusref01_Lift.b501, abacusref01_Lift.l63, abacusref01_Lift.b63, t1]
      have := fac f 0 (by omega)
      rw [Nat.pow_zero] at this
      exact Ev_neg (by omega) (Ev_in this)
    | succ d ih =>
      intro i hi
      have e1 : wrap64 ((i : Int) + 1) = ((i + 1 : Nat) : Int) := wone (n := 17592186044416) (by omega) (by omega)
      refine Ev_succ ?_
      simp only [abacusref01_Lift.l501, abacusref01_Lift.b501, t1, e1]
      have hs : List.replicate i (0 : Int) ++ [0] = List.replicate (i + 1) 0 := by rw [List.replicate_succ']
      rw [hs]
      exact Ev_pos (by omega) (Ev_pos (by simp; omega) (ih (i + 1) (by omega)))
  exact zer q 0 (by omega)
theorem rcmp_l {a b : List Int} (ha : ok a) (hb : ok b) (hl : a.length ≤ 9223372036854775807) (i : Nat) : i ≤ a.length → i ≤ b.length → val (a.drop i) = val (b.drop i) →
    Ev (fun n m _ => abacusref01_Cmp.l1013 n m a b ((i : Int) - 1)) (cmp (val a) (val b)) := by
  induction i with
  | zero =>
    intro _ _ hz
    refine Ev_succ ?_
    simp only [abacusref01_Cmp.l1013, abacusref01_Cmp.b1013, ln_eq]
    refine Ev_neg (by omega) (Ev_some ?_)
    rw [List.drop_zero, List.drop_zero] at hz
    rw [hz, cmp_self]
  | succ i ih =>
    intro hia hib hz
    have e0 : ((i + 1 : Nat) : Int) - 1 = (i : Int) := by omega
    have e1 : wrap64 ((i : Int) - 1) = (i : Int) - 1 := by unfold wrap64; omega
    refine Ev_succ ?_
    simp only [abacusref01_Cmp.l1013, abacusref01_Cmp.b1013, ln_eq, e0, e1]
    refine Ev_pos (by omega) (Ev_pos (by omega) (Ev_pos (by omega) (Ev_pos (by omega) (Ev_pos (by omega) ?_))))
    by_cases h2 : rd a (i : Int) < rd b (i : Int)
    · refine Ev_pos h2 (Ev_some ?_)
      rw [cmp_lt (val_cmp_at ha hb (by omega) (by omega) hz h2)]
    · refine Ev_neg h2 (Ev_pos (by omega) (Ev_pos (by omega) (Ev_pos (by omega) (Ev_pos (by omega) ?_))))
      by_cases h3 : rd a (i : Int) > rd b (i : Int)
      · refine Ev_pos h3 (Ev_some ?_)
        rw [cmp_gt (val_cmp_at hb ha (by omega) (by omega) hz.symm h3)]
      · refine Ev_neg h3 (ih (by omega) (by omega) ?_)
        rw [val_drop_cons a i (by omega), val_drop_cons b i (by omega), show rd a (i : Int) = rd b (i : Int) by omega, hz]
theorem rCmp_ev {a b : List Int} (ha : ok a) (hb : ok b) (hla : a.length ≤ 9223372036854775807) (hlb : b.length ≤ 9223372036854775807) : Ev (fun n _ _ => abacusref01_Cmp.f n a b) (cmp (val a) (val b)) := by
  simp only [abacusref01_Cmp.f, abacusref01_Cmp.b0]
  have sa := lim_len_val_le ha
  have sb := lim_len_val_le hb
  refine Ev.bind (abacusref01_Size_ev ha hla) (Ev.bind (abacusref01_Size_ev hb hlb) ?_)
  by_cases h2 : (lim (val a)).length < (lim (val b)).length
  · exact Ev_pos (by omega) (Ev_some (cmp_lt (lim_len_lt h2)).symm)
  refine Ev_neg (by omega) ?_
  by_cases h3 : (lim (val b)).length < (lim (val a)).length
  · exact Ev_pos (by omega) (Ev_some (cmp_gt (lim_len_lt h3)).symm)
  refine Ev_neg (by omega) ?_
  have h : (lim (val a)).length = (lim (val b)).length := by omega
  have e : wrap64 (((lim (val b)).length : Int) - 1) = ((lim (val b)).length : Int) - 1 := by unfold wrap64; omega
  rw [e]
  refine Ev_in (g := fun n m _ => abacusref01_Cmp.l1013 n m a b (((lim (val b)).length : Int) - 1)) ?_
  exact rcmp_l ha hb hla _ (by omega) sb (by rw [val_drop_lim hb, ← h, val_drop_lim ha])
end Go.Proofs.YtlnfgcnagfdliaaDoor.R1
