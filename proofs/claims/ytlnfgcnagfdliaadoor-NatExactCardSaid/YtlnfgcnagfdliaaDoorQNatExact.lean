/- Every call of nat and of its document, one answer. Conditions: numbers that there are, lists as a call gets them. -/
import Derived.Test.YtlnfgcnagfdliaaDoorQR1f
namespace Go.Proofs.YtlnfgcnagfdliaaDoor.Pure
open Go.RowKit Go.Proofs.YtlnfgcnagfdliaaDoor.Lib Go.Proofs.YtlnfgcnagfdliaaDoor.LibB Go.Proofs.YtlnfgcnagfdliaaDoor.F Go.Proofs.YtlnfgcnagfdliaaDoor.Nat1 Go.Proofs.YtlnfgcnagfdliaaDoor.Nat2 Go.Proofs.YtlnfgcnagfdliaaDoor.Bits Go.Proofs.YtlnfgcnagfdliaaDoor.R1 Go.Proofs.YtlnfgcnagfdliaaDoor.R4
open Go.Proofs.YtlnfgcnagfdliaaDoor.Div (nat_DivSmall_ev divAns)
open Go.Proofs.YtlnfgcnagfdliaaDoor.Mad (nat_MulAdd_ev mulAddAns)
open Go.Proofs.YtlnfgcnagfdliaaDoorA (rd rdb rdr ln ln_eq lnr lnr_eq mx mn shl shr wr wr_eq)
set_option linter.unusedVariables false
set_option linter.unusedSimpArgs false
theorem copied_eq {l : List Int} (h : Arg l) : abacuslaw01_copied.f l = some l := by
  have := h.len
  simp only [abacuslaw01_copied.f, abacuslaw01_copied.b0, ln_eq]
  rw [if_pos (by omega), if_pos (by omega), if_pos (by simp; omega)]
  simp
theorem same_self (l : List Int) (h : l.length ≤ 17592186044416) : Ev (fun k _ _ => abacusref01_Same.f k l l) true := by
  have go (d : Nat) : ∀ i : Nat, i + d = l.length → Ev (fun k m _ => abacusref01_Same.l117 k m l l (i : Int)) true := by
    induction d with
    | zero =>
      intro i hi
      refine Ev_succ ?_
      simp only [abacusref01_Same.l117, abacusref01_Same.b117, ln_eq]
      exact Ev_neg (by omega) (Ev.now _)
    | succ d ih =>
      intro i hi
      have e1 : wrap64 ((i : Int) + 1) = ((i + 1 : Nat) : Int) := by unfold wrap64; omega
      refine Ev_succ ?_
      simp only [abacusref01_Same.l117, abacusref01_Same.b117, ln_eq, e1]
      exact Ev_pos (by omega) (Ev_pos (by omega) (Ev_pos (by omega) (Ev_pos (by omega) (Ev_pos (by omega) (Ev_neg (by simp) (ih (i + 1) (by omega)))))))
  simp only [abacusref01_Same.f, abacusref01_Same.b0, ln_eq]
  exact Ev_neg (by simp) (Ev_in (go l.length 0 (by omega)))
section
variable {α β : Type} {L : β → Prop}
/-- Both of two computations come to one answer. -/
def Both (L : β → Prop) (f g : Nat → Nat → Nat → Option β) : Prop := ∃ r, Ev f r ∧ Ev g r ∧ L r
theorem both_neg {c : Prop} [Decidable c] {a b a' b' : Nat → Nat → Nat → Option β} (hc : ¬ c) (h : Both L b b') : Both L (fun n m p => if c then a n m p else b n m p) (fun n m p => if c then a' n m p else b' n m p) := by
  obtain ⟨r, h1, h2, h3⟩ := h
  exact ⟨r, Ev_neg hc h1, Ev_neg hc h2, h3⟩
theorem both_pos {c : Prop} [Decidable c] {a b a' b' : Nat → Nat → Nat → Option β} (hc : c) (h : Both L a a') : Both L (fun n m p => if c then a n m p else b n m p) (fun n m p => if c then a' n m p else b' n m p) := by
  obtain ⟨r, h1, h2, h3⟩ := h
  exact ⟨r, Ev_pos hc h1, Ev_pos hc h2, h3⟩
theorem both_bind {f g : Nat → Nat → Nat → Option α} {F : α → β} (h : ∃ a, Ev f a ∧ Ev g a ∧ L (F a)) : Both L (fun n m p => (f n m p).bind fun t => some (F t)) (fun n m p => (g n m p).bind fun t => some (F t)) := by
  obtain ⟨a, h1, h2, h3⟩ := h
  exact ⟨F a, Ev.bind h1 (Ev.now _), Ev.bind h2 (Ev.now _), h3⟩
theorem both_now (r : β) (h : L r) : Both L (fun _ _ _ => some r) (fun _ _ _ => some r) := ⟨r, Ev.now _, Ev.now _, h⟩
end
theorem ev_eq {α : Type} {f : Option α} {a : α} (h : f = some a) : Ev (fun _ _ _ => f) a := by subst h; exact Ev.now _
theorem lim_4096 {n : Nat} (h : n < B 4096) : (lim n).length ≤ 17592186044416 := Nat.le_trans ((lim_len_le n 4096).2 h) (by decide)
theorem ans_len (n : Nat) : (ans n).1.length ≤ 17592186044416 := by
  unfold ans
  split
  · rename_i h; exact lim_4096 h
  · simp
/-- One call: both answers. -/
theorem op_same {kind m c n : Int} {al bl : List Int} (hA : Arg al) (hB : Arg bl) (hm : 0 ≤ m ∧ m < 18446744073709551616) (hc : 0 ≤ c ∧ c < 18446744073709551616) (hn : -9223372036854775808 ≤ n ∧ n < 9223372036854775808) :
    Both (fun r : List Int × Int × Int × Bool × Int => r.1.length ≤ 17592186044416) (fun k _ _ => abacuslaw01_wanted.f k kind al bl m c n) (fun k _ _ => abacuslaw01_asked.f k kind al bl m c n) := by
  simp only [abacuslaw01_wanted.f, abacuslaw01_wanted.b0, abacuslaw01_asked.f, abacuslaw01_asked.b0]
  have big := val_lt hA.ok
  have bigl := lim_len_val_le hA.ok
  have bigl2 := hA.len
  by_cases h1 : kind = 1
  · exact both_pos h1 (both_bind ⟨_, Trim_ev hA.ok (hA.lt (by decide)), nat_Trim_ev hA.ok (hA.lt (by decide)), by dsimp only; omega⟩)
  refine both_neg h1 ?_
  by_cases h2 : kind = 2
  · refine both_pos h2 (both_bind ?_)
    simp only [abacusref01_FromUint.f, abacusref01_FromUint.b0, nat_FromUint.f, nat_FromUint.b0]
    by_cases m0 : m = 0
    · exact ⟨_, Ev_pos m0 (Ev.now _), Ev_pos m0 (Ev.now _), by simp⟩
    · exact ⟨_, Ev_neg m0 (Ev.now _), Ev_neg m0 (Ev.now _), by simp⟩
  refine both_neg h2 ?_
  by_cases h3 : kind = 3
  · obtain ⟨r, r1, r2⟩ := toUint_same hA
    exact both_pos h3 (both_bind ⟨r, r1, r2, by simp⟩)
  refine both_neg h3 ?_
  by_cases h4 : kind = 4
  · exact both_pos h4 (both_bind ⟨_, rBitLen_ev hA.ok (hA.lt (by decide)), nat_BitLen_ev hA.ok (hA.lt (by decide)), by simp⟩)
  refine both_neg h4 ?_
  by_cases h5 : kind = 5
  · refine both_pos h5 (both_bind ⟨_, rBit_ev hA.ok (hA.lt (by decide)) hn.2, ev_eq ?_, by simp⟩)
    rw [nat_Bit_eq hA.ok (hA.lt (by decide)) n hn.2]
    unfold bitAt
    split <;> rfl
  refine both_neg h5 ?_
  by_cases h6 : kind = 6
  · exact both_pos h6 (both_bind ⟨_, rTrail_ev hA.ok (hA.lt (by decide)), nat_Trail_ev hA.ok (hA.lt (by decide)), by simp⟩)
  refine both_neg h6 ?_
  by_cases h7 : kind = 7
  · exact both_pos h7 (both_bind ⟨_, rCmp_ev hA.ok hB.ok (hA.lt (by decide)) (hB.lt (by decide)), nat_Cmp_ev hA.ok hB.ok (hA.lt (by decide)) (hB.lt (by decide)), by simp⟩)
  refine both_neg h7 ?_
  by_cases h8 : kind = 8
  · refine both_pos h8 (both_bind ⟨_, rAdd_ev hA hB, nat_Add_ev hA.ok hB.ok (hA.lt (by decide)) (hB.lt (by decide)), ?_⟩)
    unfold ans2; split
    · exact ans_len _
    · simp
  refine both_neg h8 ?_
  by_cases h9 : kind = 9
  · refine both_pos h9 (both_bind ⟨_, rSub_ev hA hB, nat_Sub_ev hA.ok hB.ok (hA.lt (by decide)) (hB.lt (by decide)), ?_⟩)
    unfold subAns ans2; split
    · rename_i hh
      split
      · simp
      · exact lim_4096 (Nat.lt_of_le_of_lt (Nat.sub_le _ _) hh.1)
    · simp
  refine both_neg h9 ?_
  by_cases h10 : kind = 10
  · refine both_pos h10 (both_bind ⟨_, rMul_ev hA hB, nat_Mul_ev hA.ok hB.ok (hA.lt (by decide)) (hB.lt (by decide)), ?_⟩)
    unfold mulAns ans2
    repeat' split
    all_goals first | exact ans_len _ | simp
  refine both_neg h10 ?_
  by_cases h11 : kind = 11
  · refine both_pos h11 (both_bind ⟨_, rMulAdd_ev hA hm hc, nat_MulAdd_ev hA.ok (hA.lt (by decide)) hm hc, ?_⟩)
    unfold mulAddAns; split
    · exact ans_len _
    · simp
  refine both_neg h11 ?_
  by_cases h12 : kind = 12
  · refine both_pos h12 (both_bind ⟨_, rDivSmall_ev hA hm, nat_DivSmall_ev hA.ok (hA.lt (by decide)) hm, ?_⟩)
    unfold divAns; split
    · rename_i hh
      split
      · simp
      · exact lim_4096 (Nat.lt_of_le_of_lt (Nat.div_le_self _ _) hh)
    · simp
  refine both_neg h12 ?_
  by_cases h13 : kind = 13
  · refine both_pos h13 (both_bind ⟨_, rShl_ev hA hn.2, nat_Shl_ev hA.ok (hA.lt (by decide)) hn.2, ?_⟩)
    unfold shlAns
    repeat' split
    all_goals first | exact ans_len _ | simp
  refine both_neg h13 ?_
  by_cases h14 : kind = 14
  · refine both_pos h14 (both_bind ⟨_, rShr_ev hA hn.2, nat_Shr_ev hA.ok (hA.lt (by decide)) hn.2, ?_⟩)
    unfold shrAns; split
    · rename_i hh
      split
      · simp
      · exact lim_4096 (Nat.lt_of_le_of_lt (Nat.div_le_self _ _) hh)
    · simp
  refine both_neg h14 ?_
  by_cases h15 : kind = 15
  · have hr : ∀ i : Nat, i < 3 → Arg (rdr [al, bl, al] (i : Int)) := by
      intro i hi
      match i, hi with
      | 0, _ => exact hA
      | 1, _ => exact hB
      | 2, _ => exact hA
    have e : lnr [al, bl, al] = ((3 : Nat) : Int) := rfl
    rw [e]
    refine both_pos h15 (both_bind ⟨_, rSum_ev (by decide) hr, nat_Sum_ev (by decide) hr, ?_⟩)
    unfold sumAns; split
    · exact ans_len _
    · simp
  refine both_neg h15 ?_
  by_cases h16 : kind = 16
  · refine both_pos h16 (both_bind ⟨_, rLow_ev hA hn.2, nat_Low_ev hA.ok (hA.lt (by decide)) hn.2, ?_⟩)
    unfold lowAns; split
    · rename_i hh
      split
      · simp
      · exact lim_4096 (Nat.lt_of_le_of_lt (Nat.mod_le _ _) hh)
    · simp
  exact both_neg h16 (both_now _ (by simp))
theorem alike_self {a1 a2 a4 : Int} {a3 : Bool} {l0 : List Int} (h : l0.length ≤ 17592186044416) : Ev (fun k _ _ => abacuslaw01_alike.f k l0 a1 a2 a3 a4 l0 a1 a2 a3 a4) true := by
  simp only [abacuslaw01_alike.f, abacuslaw01_alike.b0]
  exact Ev_pos trivial (Ev_pos trivial (Ev_pos (by simp) (Ev_pos trivial (Ev.bind (same_self l0 h) (Ev.now _)))))
theorem awake_ev : Ev (fun k _ _ => abacuslaw01_awake.f k) true := Ev_at 150 fun d => by kernel_rfl
theorem NatExact {n : Int} {K M C I : List Int} {Al Bl : List (List Int)} (hn : 0 ≤ n ∧ n ≤ 140737488351232)
    (h : ∀ j, 0 ≤ j → j < n → (-9223372036854775808 ≤ rd K j ∧ rd K j < 9223372036854775808) ∧ (ok (rdr Al j) ∧ (rdr Al j).length * 8 ≤ 140737488351232) ∧ (ok (rdr Bl j) ∧ (rdr Bl j).length * 8 ≤ 140737488351232) ∧ (0 ≤ rd M j ∧ rd M j < 18446744073709551616) ∧ (0 ≤ rd C j ∧ rd C j < 18446744073709551616) ∧ (-9223372036854775808 ≤ rd I j ∧ rd I j < 9223372036854775808)) :
    ∃ k, abacuslaw01_NatExact.f k n K Al Bl M C I = some true := by
  refine Ev.rounds ?_
  simp only [abacuslaw01_NatExact.f, abacuslaw01_NatExact.b0]
  obtain ⟨N, rfl⟩ := Int.eq_ofNat_of_zero_le hn.1
  refine Ev.bind awake_ev (Ev_neg (by simp) (Ev_in (g := fun k m _ => abacuslaw01_NatExact.l117 k m (N : Int) K Al Bl M C I 0) ?_))
  have go (d : Nat) : ∀ i : Nat, i + d = N → Ev (fun k m _ => abacuslaw01_NatExact.l117 k m (N : Int) K Al Bl M C I (i : Int)) true := by
    induction d with
    | zero =>
      intro i hi
      refine Ev_succ ?_
      simp only [abacuslaw01_NatExact.l117, abacuslaw01_NatExact.b117]
      exact Ev_neg (by omega) (Ev.now _)
    | succ d ih =>
      intro i hi
      have hiN : i < N := by omega
      obtain ⟨_, hA, hB, hM, hC, hI⟩ := h i (n0 i) (nlt hiN)
      have e1 : wrap64 ((i : Int) + 1) = ((i + 1 : Nat) : Int) := by unfold wrap64; omega
      have aA : Arg (rdr Al (i : Int)) := ⟨hA.1, by omega⟩
      have aB : Arg (rdr Bl (i : Int)) := ⟨hB.1, by omega⟩
      obtain ⟨r, h1, h2, h3⟩ := op_same (kind := rd K i) aA aB hM hC hI
      have next := ih (i + 1) (by omega)
      refine Ev_succ ?_
      simp only [abacuslaw01_NatExact.l117, abacuslaw01_NatExact.b117, e1]
      exact Ev_pos (nlt hiN) (Ev_pos (n0 i) (Ev_pos (nlt hiN) (Ev.bind h1 (Ev_bind_eq (copied_eq aA) (Ev_bind_eq (copied_eq aB) (Ev.bind h2 (Ev.bind (alike_self h3) (Ev_neg (by simp) next))))))))
  exact go N 0 (by omega)
end Go.Proofs.YtlnfgcnagfdliaaDoor.Pure
