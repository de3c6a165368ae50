/- What the first reference's calls of any size compute: sums, differences, products, shifts, comparisons, bits. Conditions: lists of limbs below 2^64, of lengths that a slice has. -/
import Derived.Test.YtlnfgcnagfdliaaDoorQR1
import Derived.Test.YtlnfgcnagfdliaaDoorQNat2
namespace Go.Proofs.YtlnfgcnagfdliaaDoor.R1
open Go.RowKit Go.Proofs.YtlnfgcnagfdliaaDoor.Lib Go.Proofs.YtlnfgcnagfdliaaDoor.LibB Go.Proofs.YtlnfgcnagfdliaaDoor.F Go.Proofs.YtlnfgcnagfdliaaDoor.Nat1 Go.Proofs.YtlnfgcnagfdliaaDoor.Nat2 Go.Proofs.YtlnfgcnagfdliaaDoor.Bits
open Go.Proofs.YtlnfgcnagfdliaaDoorA (rd ln ln_eq mx mn shl shr wr wr_eq)
set_option linter.unusedVariables false
set_option linter.unusedSimpArgs false
theorem rd32_over {l : List Int} {i : Nat} (h : l.length ≤ i) : rd l (i : Int) = 0 := by
  rw [rd_nat, List.getD_eq_getElem?_getD, List.getElem?_eq_none h]; rfl
theorem v32_take_over {l : List Int} {i : Nat} (h : l.length ≤ i) : v32 (l.take i) = v32 l := by rw [List.take_of_length_le h]
theorem nlt {a b : Nat} (h : a < b) : (a : Int) < (b : Int) := by omega
theorem n0 (a : Nat) : (0 : Int) ≤ (a : Int) := by omega
theorem nnlt {a b : Nat} (h : ¬ a < b) : ¬ (a : Int) < (b : Int) := by omega
theorem wadd {a b c : Nat} (h : a + b = c) (hc : c < 18446744073709551616) : IntKind.u64.wrap ((a : Int) + (b : Int)) = (c : Int) := by rw [IntKind.wrap_u64]; omega
theorem wsub {z s r : Nat} (h : r + s = z) (hr : r < 18446744073709551616) : IntKind.u64.wrap ((z : Int) - (s : Int)) = (r : Int) := by rw [IntKind.wrap_u64]; omega
theorem wone {i n : Nat} (h : i < n) (hn : n ≤ 9223372036854775807) : wrap64 ((i : Int) + 1) = ((i + 1 : Nat) : Int) := by unfold wrap64; omega
theorem wjoin {i j n : Nat} (h : i + j < n) (hn : n ≤ 9223372036854775807) : wrap64 ((i : Int) + (j : Int)) = ((i + j : Nat) : Int) := by unfold wrap64; omega
theorem high (n : Nat) : (n : Int) / 4294967296 = ((n / 4294967296 : Nat) : Int) := by omega
theorem modlt (n : Nat) : ((n % 4294967296 : Nat) : Int) < 4294967296 := by omega
theorem lin1 {A Y X r q c p k : Nat} (h1 : A + Y = X + c) (h2 : r + (c + q) = p + k) : A + r + (Y + q) = X + p + k := by omega
theorem lin2 {P' P Ho Hr Hc HK HM S T : Nat} (h1 : P' + Ho = P + Hr) (h2 : P + Hc = S + T) (h3 : Hr + HK = HM + Ho + Hc) : P' + HK = S + (T + HM) := by omega
theorem lin3 {A X Y HC r k p q : Nat} (h1 : A + HC = X + Y) (h2 : r + k = HC + p + q) : A + r + k = X + p + (Y + q) := by omega
theorem c_zero {A b a h c : Nat} (h1 : A < h) (hle : b ≤ a) (hv : A + b = a + h * c) : c = 0 := by
  rcases Nat.eq_zero_or_pos c with h2 | h2
  · exact h2
  · have := Nat.le_mul_of_pos_right h h2
    omega
theorem Plus_evS {a b : List Int} (ha : ok a) (hb : ok b) (hla : Sz a) (hlb : Sz b) : Ev (fun k _ _ => abacusref01_Plus.f k a b) (lim (val a + val b)) := by
  obtain ⟨x, ex, dx, lx⟩ := halves_evS ha hla
  obtain ⟨y, ey, dy, ly⟩ := halves_evS hb hlb
  simp only [abacusref01_Plus.f, abacusref01_Plus.b0, ln_eq]
  have w : wrap64 (wrap64 ((x.length : Int) + (y.length : Int)) + 1) = ((x.length + y.length + 1 : Nat) : Int) := by unfold wrap64; omega
  refine Ev.bind ex (Ev.bind ey ?_)
  rw [w]
  refine Ev_pos (by omega) (Ev_pos (by omega) (Ev_in (g := fun k m _ => abacusref01_Plus.l1013 k m x y 0 ((0 : Nat) : Int) (List.replicate 0 (0 : Int))) ?_))
  have go (d : Nat) : ∀ (i c : Nat) (acc : List Int), x.length + y.length ≤ i + d → acc.length = i → i ≤ x.length + y.length → c ≤ 1 → ok32 acc → Aside0 (v32 acc + H i * c = v32 (x.take i) + v32 (y.take i)) →
      Ev (fun k m _ => abacusref01_Plus.l1013 k m x y (c : Int) (i : Int) acc) (lim (val a + val b)) := by
    have stop (i c : Nat) (acc : List Int) (h1 : ¬ i < x.length) (h2 : ¬ i < y.length) (hl : acc.length = i) (hi : i ≤ x.length + y.length) (hc : c ≤ 1) (hk : ok32 acc) (hv : Aside0 (v32 acc + H i * c = v32 (x.take i) + v32 (y.take i))) :
        Ev (fun k m _ => abacusref01_Plus.l1013 k m x y (c : Int) (i : Int) acc) (lim (val a + val b)) := by
      refine Ev_succ ?_
      simp only [abacusref01_Plus.l1013, abacusref01_Plus.b1013, ln_eq, abacusref01_Plus.l127, abacusref01_Plus.b127]
      have := limbs_ev (g := acc ++ [(c : Int)]) (ok32_snoc hk (by omega)) (by simp; omega)
      rw [v32_snoc, hl, Int.toNat_natCast, hv.out, v32_take_over (by omega), v32_take_over (by omega), dx.v, dy.v] at this
      exact Ev_neg (by omega) (Ev_neg (by omega) (Ev_pos (by omega) (Ev.bind this (Ev.now _))))
    induction d with
    | zero =>
      intro i c acc hd hl hi hc hk hv
      exact stop i c acc (by omega) (by omega) hl hi hc hk hv
    | succ d ih =>
      intro i c acc hd hl hi hc hk hv
      have hb : acc.length + 1 ≤ 17592186044416 := by omega
      have hxy : x.length + y.length ≤ 17592186044416 := by omega
      by_cases hlt : i < x.length ∨ i < y.length
      · have hi1 : i + 1 ≤ x.length + y.length := by omega
        have hd1 : x.length + y.length ≤ i + 1 + d := by omega
        have e1 : wrap64 ((i : Int) + 1) = ((i + 1 : Nat) : Int) := wone (n := 17592186044416) (by omega) (by omega)
        obtain ⟨p, hp⟩ := nat_of (ok32_rd dx.dig (i : Int)).1
        have hp2 := (ok32_rd dx.dig (i : Int)).2
        obtain ⟨q, hq⟩ := nat_of (ok32_rd dy.dig (i : Int)).1
        have hq2 := (ok32_rd dy.dig (i : Int)).2
        rw [hp] at hp2
        rw [hq] at hq2
        have hcp : c + p + q < 8589934592 := by clear hlt hd hd1 hi hi1 hb hxy; omega
        have next : Ev (fun k m _ => abacusref01_Plus.l1013 k m x y (((c + p + q) / 4294967296 : Nat) : Int) ((i + 1 : Nat) : Int) (acc ++ [(((c + p + q) % 4294967296 : Nat) : Int)])) (lim (val a + val b)) := by
          refine ih (i + 1) _ _ hd1 (by simp [hl]) hi1 (Nat.le_of_lt_succ (Nat.div_lt_of_lt_mul (Nat.lt_of_lt_of_le hcp (by decide)))) (ok32_snoc hk (Nat.mod_lt _ (by omega))) ⟨?_⟩
          rw [v32_snoc, hl, v32_take_succ, v32_take_succ, hp, hq, H_succ, Int.toNat_natCast, Int.toNat_natCast, Int.toNat_natCast]
          have e5 : 4294967296 * H i * ((c + p + q) / 4294967296) = H i * (4294967296 * ((c + p + q) / 4294967296)) := by rw [Nat.mul_comm 4294967296, Nat.mul_assoc]
          have e6 : H i * ((c + p + q) % 4294967296) + H i * (4294967296 * ((c + p + q) / 4294967296)) = H i * (c + p + q) := by rw [← Nat.mul_add, Nat.mod_add_div]
          rw [Nat.mul_add, Nat.mul_add] at e6
          rw [e5]
          exact lin3 hv.out e6
        have step2 : Ev (fun k m _ => abacusref01_Plus.l16201 k (abacusref01_Plus.l1013 k m) x y ((c + p : Nat) : Int) (i : Int) acc) (lim (val a + val b)) := by
          simp only [abacusref01_Plus.l16201, abacusref01_Plus.b16201, ln_eq, e1, hq]
          by_cases h2 : i < y.length
          · have w1 : IntKind.u64.wrap (((c + p : Nat) : Int) + (q : Int)) = ((c + p + q : Nat) : Int) := wadd rfl (Nat.lt_trans hcp (by decide))
            simp only [w1, bit_32 (Nat.lt_trans hcp (by decide)), high]
            exact Ev_pos (nlt h2) (Ev_pos (n0 i) (Ev_pos (nlt h2) (Ev_pos hb next)))
          · have q0 : q = 0 := by have := rd32_over (l := y) (i := i) (Nat.le_of_not_lt h2); rw [hq] at this; exact Int.ofNat.inj this
            subst q0
            rw [Nat.add_zero] at next
            simp only [bit_32 (show c + p < 18446744073709551616 from Nat.lt_trans hcp (by omega)), high]
            exact Ev_neg (nnlt h2) (Ev_pos hb next)
        have step1 : Ev (fun k m _ => abacusref01_Plus.l2025 k (abacusref01_Plus.l1013 k m) x y (c : Int) (i : Int) acc) (lim (val a + val b)) := by
          simp only [abacusref01_Plus.l2025, abacusref01_Plus.b2025, ln_eq, hp]
          by_cases h1 : i < x.length
          · have w1 : IntKind.u64.wrap ((c : Int) + (p : Int)) = ((c + p : Nat) : Int) := wadd rfl (Nat.lt_of_le_of_lt (Nat.le_add_right _ q) (Nat.lt_trans hcp (by decide)))
            rw [w1]
            exact Ev_pos (nlt h1) (Ev_pos (n0 i) (Ev_pos (nlt h1) step2))
          · have p0 : p = 0 := by have := rd32_over (l := x) (i := i) (Nat.le_of_not_lt h1); rw [hp] at this; exact Int.ofNat.inj this
            subst p0
            exact Ev_neg (nnlt h1) step2
        refine Ev_succ ?_
        simp only [abacusref01_Plus.l1013, abacusref01_Plus.b1013, ln_eq]
        by_cases h1 : i < x.length
        · exact Ev_pos (nlt h1) step1
        · exact Ev_neg (nnlt h1) (Ev_pos (nlt (hlt.resolve_left h1)) step1)
      · exact stop i c acc (by omega) (by omega) hl hi hc hk hv
  exact go (x.length + y.length) 0 0 [] (by omega) rfl (by omega) (by omega) ok32_nil ⟨by simp [v32_nil]⟩
theorem Plus_ev {a b : List Int} (ha : ok a) (hb : ok b) (hla : a.length ≤ 549755813888) (hlb : b.length ≤ 549755813888) : Ev (fun k _ _ => abacusref01_Plus.f k a b) (lim (val a + val b)) := Plus_evS ha hb (Sz_len ha hla) (Sz_len hb hlb)
theorem Less_evS {a b : List Int} (ha : ok a) (hb : ok b) (hla : Sz a) (hlb : Sz b) (hle : val b ≤ val a) : Ev (fun k _ _ => abacusref01_Less.f k a b) (lim (val a - val b)) := by
  obtain ⟨x, ex, dx, lx⟩ := halves_evS ha hla
  obtain ⟨y, ey, dy, ly⟩ := halves_evS hb hlb
  have hyx : y.length ≤ x.length := dy.le (Nat.lt_of_le_of_lt hle (by rw [← dx.v]; exact v32_lt dx.dig))
  simp only [abacusref01_Less.f, abacusref01_Less.b0, ln_eq]
  refine Ev.bind ex (Ev.bind ey (Ev_pos (by omega) (Ev_pos (by omega) (Ev_in (g := fun k m _ => abacusref01_Less.l1013 k m x y ((0 : Nat) : Int) ((0 : Nat) : Int) (List.replicate 0 (0 : Int))) ?_))))
  have go (d : Nat) : ∀ (i c : Nat) (acc : List Int), i + d = x.length → acc.length = i → c ≤ 1 → ok32 acc → Aside0 (v32 acc + v32 (y.take i) = v32 (x.take i) + H i * c) →
      Ev (fun k m _ => abacusref01_Less.l1013 k m x y (c : Int) (i : Int) acc) (lim (val a - val b)) := by
    induction d with
    | zero =>
      intro i c acc hd hl hc hk hv
      have hv := hv.out
      rw [v32_take_over (by omega), v32_take_over (by omega), dx.v, dy.v] at hv
      refine Ev_succ ?_
      simp only [abacusref01_Less.l1013, abacusref01_Less.b1013, ln_eq, abacusref01_Less.l127, abacusref01_Less.b127]
      have h1 := v32_lt hk
      rw [hl] at h1
      have c0 : c = 0 := c_zero h1 hle hv
      subst c0
      rw [Nat.mul_zero, Nat.add_zero] at hv
      have he : v32 acc = val a - val b := by clear h1; omega
      have := limbs_ev hk (by clear hv; omega)
      rw [he] at this
      clear hv h1 he
      exact Ev_neg (by omega) (Ev.bind this (Ev.now _))
    | succ d ih =>
      intro i c acc hd hl hc hk hv
      have hb : acc.length + 1 ≤ 17592186044416 := by omega
      have hix : i < x.length := by omega
      have hd1 : i + 1 + d = x.length := by omega
      have e1 : wrap64 ((i : Int) + 1) = ((i + 1 : Nat) : Int) := wone (n := 17592186044416) (by omega) (by omega)
      obtain ⟨p, hp⟩ := nat_of (ok32_rd dx.dig (i : Int)).1
      have hp2 := (ok32_rd dx.dig (i : Int)).2
      obtain ⟨q, hq⟩ := nat_of (ok32_rd dy.dig (i : Int)).1
      have hq2 := (ok32_rd dy.dig (i : Int)).2
      rw [hp] at hp2
      rw [hq] at hq2
      have next (c' r : Nat) (hc' : c' ≤ 1) (hr : r + (c + q) = p + 4294967296 * c') (hr2 : r < 4294967296) : Ev (fun k m _ => abacusref01_Less.l1013 k m x y (c' : Int) ((i + 1 : Nat) : Int) (acc ++ [(r : Int)])) (lim (val a - val b)) := by
        refine ih (i + 1) _ _ hd1 (by simp [hl]) hc' (ok32_snoc hk hr2) ⟨?_⟩
        rw [v32_snoc, hl, v32_take_succ, v32_take_succ, hp, hq, H_succ, Int.toNat_natCast, Int.toNat_natCast, Int.toNat_natCast]
        have e5 : 4294967296 * H i * c' = H i * (4294967296 * c') := by rw [Nat.mul_comm 4294967296, Nat.mul_assoc]
        have e6 : H i * (r + (c + q)) = H i * (p + 4294967296 * c') := by rw [hr]
        rw [Nat.mul_add, Nat.mul_add, Nat.mul_add] at e6
        rw [e5]
        exact lin1 hv.out e6
      have fin' (c' z r : Nat) (hc' : c' ≤ 1) (hz : z = p + 4294967296 * c') (hr : r + (c + q) = z) (hr2 : r < 4294967296) : Ev (fun k m _ => abacusref01_Less.l259231 k (abacusref01_Less.l1013 k m) x y (c' : Int) (i : Int) ((c + q : Nat) : Int) (z : Int) acc) (lim (val a - val b)) := by
        simp only [abacusref01_Less.l259231, abacusref01_Less.b259231, e1]
        have w1 : IntKind.u64.wrap ((z : Int) - ((c + q : Nat) : Int)) = (r : Int) := wsub hr (Nat.lt_trans hr2 (by omega))
        rw [w1]
        exact Ev_pos hb (next c' r hc' (hr.trans hz) hr2)
      have step2 : Ev (fun k m _ => abacusref01_Less.l32403 k (abacusref01_Less.l1013 k m) x y (i : Int) ((c + q : Nat) : Int) acc) (lim (val a - val b)) := by
        simp only [abacusref01_Less.l32403, abacusref01_Less.b32403, ln_eq, hp]
        refine Ev_pos (n0 i) (Ev_pos (nlt hix) ?_)
        clear hd hd1 hb hix hl
        by_cases hlt : p < c + q
        · have w1 : IntKind.u64.wrap ((p : Int) + 4294967296) = ((p + 4294967296 : Nat) : Int) := by rw [IntKind.wrap_u64]; omega
          rw [w1]
          exact Ev_pos (nlt hlt) (fin' 1 (p + 4294967296) (p + 4294967296 - (c + q)) (by omega) (by omega) (by omega) (by omega))
        · exact Ev_neg (nnlt hlt) (fin' 0 p (p - (c + q)) (by omega) (by omega) (by omega) (by omega))
      refine Ev_succ ?_
      simp only [abacusref01_Less.l1013, abacusref01_Less.b1013, ln_eq, hq]
      refine Ev_pos (nlt hix) ?_
      by_cases h2 : i < y.length
      · have w1 : IntKind.u64.wrap ((c : Int) + (q : Int)) = ((c + q : Nat) : Int) := wadd rfl (by clear hd hd1 hb hix hl; omega)
        rw [w1]
        exact Ev_pos (nlt h2) (Ev_pos (n0 i) (Ev_pos (nlt h2) step2))
      · have q0 : q = 0 := by have := rd32_over (l := y) (i := i) (Nat.le_of_not_lt h2); rw [hq] at this; exact Int.ofNat.inj this
        subst q0
        exact Ev_neg (nnlt h2) step2
  exact go x.length 0 0 [] (by omega) rfl (by omega) ok32_nil ⟨by simp [v32_nil]⟩
theorem Times_evS {a b : List Int} (ha : ok a) (hb : ok b) (hla : Sz a) (hlb : Sz b) : Ev (fun k _ _ => abacusref01_Times.f k a b) (lim (val a * val b)) := by
  obtain ⟨x, ex, dx, lx⟩ := halves_evS ha hla
  obtain ⟨y, ey, dy, ly⟩ := halves_evS hb hlb
  simp only [abacusref01_Times.f, abacusref01_Times.b0, ln_eq]
  refine Ev.bind ex (Ev.bind ey ?_)
  by_cases x0 : x.length = 0
  · rw [dx.len0.1 x0, Nat.zero_mul, lim_zero]
    exact Ev_pos (by omega) (Ev.now _)
  refine Ev_neg (by omega) ?_
  by_cases y0 : y.length = 0
  · rw [dy.len0.1 y0, Nat.mul_zero, lim_zero]
    exact Ev_pos (by omega) (Ev.now _)
  have w : wrap64 ((x.length : Int) + (y.length : Int)) = ((x.length + y.length : Nat) : Int) := by unfold wrap64; omega
  rw [w, Int.toNat_natCast]
  refine Ev_neg (by omega) (Ev_pos (by omega) (Ev_pos (by omega) (Ev_in (g := fun k m _ => abacusref01_Times.l1013 k m x y ((0 : Nat) : Int) (List.replicate (x.length + y.length) (0 : Int))) ?_)))
  -- one row
  have row (i : Nat) (hi : i < x.length) (S : Nat) (R : Nat) (next : ∀ p : List Int, p.length = x.length + y.length → ok32 p → Aside0 (∀ q, i + 1 + y.length ≤ q → rd p (q : Int) = 0) → Aside0 (v32 p = S + H i * ((rd x (i : Int)).toNat * v32 y)) → Ev (fun k m _ => abacusref01_Times.l1013 k m x y ((i + 1 : Nat) : Int) p) (lim (val a * val b))) (d : Nat) :
      ∀ (j c : Nat) (p : List Int), j + d = y.length → p.length = x.length + y.length → ok32 p → c < 4294967296 → Aside0 (∀ q, i + y.length ≤ q → rd p (q : Int) = 0) → Aside0 (v32 p + H (i + j) * c = S + H i * ((rd x (i : Int)).toNat * v32 (y.take j))) →
      Ev (fun k m q => abacusref01_Times.l259221 k (abacusref01_Times.l1013 k m) q x y (i : Int) (c : Int) (j : Int) p) (lim (val a * val b)) := by
    induction d with
    | zero =>
      intro j c p hj hl hk hc hz hv
      have hi2 : i + y.length < p.length := by omega
      have hi3 : i + y.length < 17592186044416 := by omega
      obtain rfl : j = y.length := by omega
      refine Ev_succ2 ?_
      simp only [abacusref01_Times.l259221, abacusref01_Times.b259221, abacusref01_Times.l32403, abacusref01_Times.b32403, ln_eq]
      have w1 : wrap64 ((i : Int) + (y.length : Int)) = ((i + y.length : Nat) : Int) := wjoin hi3 (by omega)
      have w2 : wrap64 ((i : Int) + 1) = ((i + 1 : Nat) : Int) := wone (n := 17592186044416) (by omega) (by omega)
      rw [w1, w2, Int.toNat_natCast]
      refine Ev_neg (nnlt (Nat.lt_irrefl _)) (Ev_pos (n0 _) (Ev_pos (nlt hi2) (next _ (by simp [hl]) (ok32_set hk _ (n0 c) (by clear hv hz; omega)) ⟨fun q hq => ?_⟩ ⟨?_⟩)))
      · rw [rd_set_ne _ _ _ _ (by omega)]; exact hz.out q (by omega)
      · have hs := v32_set p (i + y.length) (c : Int) hi2
        have hv := hv.out
        rw [List.take_length] at hv
        rw [hz.out _ (Nat.le_refl _), Int.toNat_natCast, show Int.toNat 0 = 0 from rfl, Nat.mul_zero, Nat.add_zero] at hs
        exact hs.trans hv
    | succ d ih =>
      intro j c p hj hl hk hc hz hv
      have hjy : j < y.length := by omega
      have hij : i + j < p.length := by omega
      have hij3 : i + j < 17592186044416 := by omega
      have hj1 : j + 1 + d = y.length := by omega
      have w1 : wrap64 ((i : Int) + (j : Int)) = ((i + j : Nat) : Int) := wjoin hij3 (by omega)
      have w2 : wrap64 ((j : Int) + 1) = ((j + 1 : Nat) : Int) := wone (n := 17592186044416) (by omega) (by omega)
      obtain ⟨u, hu⟩ := nat_of (ok32_rd dx.dig (i : Int)).1
      have hu2 := (ok32_rd dx.dig (i : Int)).2
      obtain ⟨s, hs⟩ := nat_of (ok32_rd dy.dig (j : Int)).1
      have hs2 := (ok32_rd dy.dig (j : Int)).2
      obtain ⟨o, ho⟩ := nat_of (ok32_rd hk ((i + j : Nat) : Int)).1
      have ho2 := (ok32_rd hk ((i + j : Nat) : Int)).2
      rw [hu] at hu2
      rw [hs] at hs2
      rw [ho] at ho2
      have hm : u * s ≤ 4294967295 * 4294967295 := Nat.mul_le_mul (by clear hj hl hjy hij hij3 hj1; omega) (by clear hj hl hjy hij hij3 hj1; omega)
      obtain ⟨M, hM⟩ : ∃ M, M = u * s := ⟨_, rfl⟩
      rw [← hM] at hm
      have e1 : IntKind.u64.wrap ((u : Int) * (s : Int)) = (M : Int) := by rw [← Int.natCast_mul, ← hM]; exact wu (by clear hj hl hjy hij hij3 hj1; omega)
      have hMoc : M + o + c < 18446744073709551616 := by clear hj hl hjy hij hij3 hj1 hM; omega
      have e2 : IntKind.u64.wrap ((M : Int) + (o : Int)) = ((M + o : Nat) : Int) := wadd rfl (Nat.lt_of_le_of_lt (Nat.le_add_right _ _) hMoc)
      have e3 : IntKind.u64.wrap (((M + o : Nat) : Int) + (c : Int)) = ((M + o + c : Nat) : Int) := wadd rfl hMoc
      refine Ev_succ2 ?_
      simp only [abacusref01_Times.l259221, abacusref01_Times.b259221, ln_eq, w1, w2, hu, hs, ho, e1, e2, e3, bit_32 hMoc, high, Int.toNat_natCast]
      refine Ev_pos (nlt hjy) (Ev_pos (n0 _) (Ev_pos (nlt hi) (Ev_pos (n0 _) (Ev_pos (nlt hjy) (Ev_pos (n0 _) (Ev_pos (nlt hij) (Ev_pos (n0 _) (Ev_pos (nlt hij) ?_))))))))
      refine ih (j + 1) _ _ hj1 (by simp [hl]) (ok32_set hk _ (n0 _) (modlt _)) (Nat.div_lt_of_lt_mul hMoc) ⟨fun q hq => ?_⟩ ⟨?_⟩
      · rw [rd_set_ne _ _ _ _ (Nat.ne_of_lt (Nat.lt_of_lt_of_le (Nat.add_lt_add_left hjy i) hq))]; exact hz.out q hq
      · have hset := v32_set p (i + j) (((M + o + c) % 4294967296 : Nat) : Int) hij
        rw [ho, Int.toNat_natCast, Int.toNat_natCast] at hset
        rw [v32_take_succ, hs, hu, Int.toNat_natCast, Int.toNat_natCast, show i + (j + 1) = i + j + 1 by omega, H_succ]
        have hv := hv.out
        rw [hu, Int.toNat_natCast] at hv
        have e5 : 4294967296 * H (i + j) * ((M + o + c) / 4294967296) = H (i + j) * (4294967296 * ((M + o + c) / 4294967296)) := by rw [Nat.mul_comm 4294967296, Nat.mul_assoc]
        have e6 : H (i + j) * ((M + o + c) % 4294967296) + H (i + j) * (4294967296 * ((M + o + c) / 4294967296)) = H (i + j) * (M + o + c) := by rw [← Nat.mul_add, Nat.mod_add_div]
        have e7 : H i * (u * (v32 (y.take j) + H j * s)) = H i * (u * v32 (y.take j)) + H (i + j) * M := by
          rw [Nat.mul_add, Nat.mul_add, H_add, hM]
          congr 1
          simp only [Nat.mul_assoc, Nat.mul_comm, Nat.mul_left_comm]
        rw [e7, e5]
        rw [Nat.mul_add, Nat.mul_add] at e6
        exact lin2 hset hv e6
  have go (d : Nat) : ∀ (i : Nat) (p : List Int), i + d = x.length → p.length = x.length + y.length → ok32 p → Aside0 (∀ q, i + y.length ≤ q → rd p (q : Int) = 0) → Aside0 (v32 p = v32 (x.take i) * v32 y) →
      Ev (fun k m _ => abacusref01_Times.l1013 k m x y (i : Int) p) (lim (val a * val b)) := by
    induction d with
    | zero =>
      intro i p hi hl hk hz hv
      refine Ev_succ ?_
      simp only [abacusref01_Times.l1013, abacusref01_Times.b1013, abacusref01_Times.l127, abacusref01_Times.b127, ln_eq]
      have := limbs_ev hk (by omega)
      rw [hv.out, v32_take_over (by omega), dx.v, dy.v] at this
      exact Ev_neg (by omega) (Ev.bind this (Ev.now _))
    | succ d ih =>
      intro i p hi hl hk hz hv
      refine Ev_succ ?_
      simp only [abacusref01_Times.l1013, abacusref01_Times.b1013, ln_eq]
      refine Ev_pos (by omega) ?_
      have := row i (by omega) (v32 (x.take i) * v32 y) 0 (fun p' h1 h2 h3 h4 => ih (i + 1) p' (by omega) h1 h2 h3 ⟨by rw [h4.out, v32_take_succ, Nat.add_mul, Nat.mul_assoc]⟩) y.length 0 0 p (by omega) hl hk (by omega) hz ⟨by rw [hv.out]; simp [v32_nil]⟩
      exact Ev_in2 this
  exact go x.length 0 (List.replicate (x.length + y.length) 0) (by omega) (by simp) (ok32_replicate _) ⟨fun q hq => by
    rw [rd_nat, List.getD_eq_getElem?_getD, List.getElem?_replicate]
    split <;> rfl⟩ ⟨by rw [v32_replicate, List.take_zero, v32_nil, Nat.zero_mul]⟩
end Go.Proofs.YtlnfgcnagfdliaaDoor.R1
