/- What the second reference's products and powers compute. Conditions: lists of limbs below 2^64, of lengths that a slice has. -/
import Derived.Test.YtalkmbmhmbnadaaDoorQR2
import Derived.Test.YtalkmbmhmbnadaaDoorQR1b
namespace Go.Proofs.YtalkmbmhmbnadaaDoor.R2
open Go.RowKit Go.Proofs.YtalkmbmhmbnadaaDoor.Lib Go.Proofs.YtalkmbmhmbnadaaDoor.LibB Go.Proofs.YtalkmbmhmbnadaaDoor.F Go.Proofs.YtalkmbmhmbnadaaDoor.Nat1 Go.Proofs.YtalkmbmhmbnadaaDoor.Nat2 Go.Proofs.YtalkmbmhmbnadaaDoor.Bits Go.Proofs.YtalkmbmhmbnadaaDoor.Pow Go.Proofs.YtalkmbmhmbnadaaDoor.Quot1
open Go.Proofs.YtalkmbmhmbnadaaDoor.R1 (H H_succ H_add ok32 ok32_set ok32_rd ok32_replicate v32 v32_nil v32_append v32_take_succ v32_take_set v32_set v32_replicate v32_take_all v32_take_over v32_drop_cons H_pos B_H bit_32 nat_of wu nnlt n0 wadd wone wjoin high modlt lin2)
open Go.Proofs.YtalkmbmhmbnadaaDoorA (rd rdr ln ln_eq lnr lnr_eq mx mn shl shr wr wr_eq)
set_option linter.unusedVariables false
set_option linter.unusedSimpArgs false
theorem nlt' {a b : Nat} (h : a < b) : (a : Int) < (b : Int) := by omega
/-! ### half words -/
theorem half_digit (P x : Nat) : P * (x % 4294967296) + 4294967296 * P * (x / 4294967296) = P * x := by
  have h : x % 4294967296 + 4294967296 * (x / 4294967296) = x := by omega
  rw [Nat.mul_comm 4294967296 P, Nat.mul_assoc, ← Nat.mul_add, h]
theorem dbl_w {i : Nat} (h : i ≤ 17592186044416) : wrap64 (2 * (i : Int)) = ((2 * i : Nat) : Int) ∧ wrap64 (((2 * i : Nat) : Int) + 1) = ((2 * i + 1 : Nat) : Int) ∧ wrap64 ((i : Int) + 1) = ((i + 1 : Nat) : Int) := by
  unfold wrap64; omega
theorem halfWords_l {l : List Int} {n : Nat} (h : ok l) (hn : n ≤ l.length) (hl : n ≤ 8796093022208) (d : Nat) : ∀ (i : Nat) (out : List Int), i + d = n → out.length = 2 * n → ok32 out → Aside0 (v32 (out.take (2 * i)) = val (l.take i)) →
    ∃ r, Ev (fun k m _ => abacusref02_halfWords.l245 k m l (n : Int) (i : Int) out) r ∧ ok32 r ∧ r.length = 2 * n ∧ Aside0 (v32 r = val (l.take n)) := by
  induction d with
  | zero =>
    intro i out hi ho hk hv
    obtain rfl : i = n := by omega
    refine ⟨out, Ev_succ ?_, hk, ho, ⟨by rw [← hv.out, v32_take_all _ (by omega)]⟩⟩
    simp only [abacusref02_halfWords.l245, abacusref02_halfWords.b245, ln_eq]
    exact Ev_neg (by omega) (Ev.now _)
  | succ d ih =>
    intro i out hi ho hk hv
    obtain ⟨x, hx⟩ := nat_of (ok_rd h (i : Int)).1
    have hx2 := (ok_rd h (i : Int)).2
    rw [hx] at hx2
    have hx3 : x < 18446744073709551616 := by omega
    obtain ⟨w1, w2, w3⟩ := dbl_w (i := i) (by omega)
    have b1 : 2 * i < out.length := by omega
    have b2 : 2 * i + 1 < (out.set (2 * i) ((x % 4294967296 : Nat) : Int)).length := by rw [List.length_set]; omega
    have b3 : i < l.length := by omega
    have b4 : i < n := by omega
    have b5 : x / 4294967296 < 4294967296 := by omega
    obtain ⟨r, e1, e2⟩ := ih (i + 1) ((out.set (2 * i) ((x % 4294967296 : Nat) : Int)).set (2 * i + 1) ((x / 4294967296 : Nat) : Int)) (by omega) (by rw [List.length_set, List.length_set]; exact ho)
      (ok32_set (ok32_set hk _ (n0 _) (modlt _)) _ (n0 _) (by omega)) ⟨by
        rw [show 2 * (i + 1) = 2 * i + 1 + 1 by omega, v32_take_set _ _ _ b2, v32_take_set _ _ _ b1, hv.out, Int.toNat_natCast, Int.toNat_natCast, val_take_succ, hx, Int.toNat_natCast, B_H, H_succ, Nat.add_assoc, half_digit]⟩
    refine ⟨r, Ev_succ ?_, e2⟩
    simp only [abacusref02_halfWords.l245, abacusref02_halfWords.b245, ln_eq, w1, w2, w3, hx, bit_32 hx3, high, Int.toNat_natCast]
    exact Ev_pos (nlt' b4) (Ev_pos (n0 _) (Ev_pos (nlt' b3) (Ev_pos (n0 _) (Ev_pos (nlt' b1) (Ev_pos (n0 _) (Ev_pos (nlt' b3) (Ev_pos (n0 _) (Ev_pos (nlt' b2) e1))))))))
theorem halfWords_ev {l : List Int} (h : ok l) (hl : l.length ≤ 35184372088832) (hs : (lim (val l)).length ≤ 8796093022208) : ∃ r, Ev (fun k _ _ => abacusref02_halfWords.f k l) r ∧ ok32 r ∧ r.length = 2 * (lim (val l)).length ∧ Aside0 (v32 r = val l) := by
  have hle := lim_len_val_le h
  obtain ⟨w1, _, _⟩ := dbl_w (i := (lim (val l)).length) (by omega)
  obtain ⟨r, e1, e2, e3, e4⟩ := halfWords_l h hle (by omega) _ 0 (List.replicate (2 * (lim (val l)).length) 0) (Nat.zero_add _) (List.length_replicate ..) (ok32_replicate _) ⟨by rw [Nat.mul_zero, List.take_zero, List.take_zero, v32_nil, val_nil]⟩
  refine ⟨r, ?_, e2, e3, ⟨by rw [e4.out, take_lim h, val_lim]⟩⟩
  simp only [abacusref02_halfWords.f, abacusref02_halfWords.b0]
  refine Ev.bind (abacusref02_Top_ev h (by omega)) ?_
  rw [w1, Int.toNat_natCast]
  exact Ev_pos (n0 _) (Ev_pos (by omega) (Ev_in (g := fun k m _ => abacusref02_halfWords.l245 k m l ((lim (val l)).length : Int) 0 (List.replicate (2 * (lim (val l)).length) (0 : Int))) e1))
/-! ### the limbs of half words -/
theorem or_half {x y : Nat} (hx : x < 4294967296) (hy : y < 4294967296) : Go.bits .or .u64 (x : Int) (IntKind.u64.wrap ((y : Int) * 4294967296)) = ((x + 4294967296 * y : Nat) : Int) := by
  have e : IntKind.u64.wrap ((y : Int) * 4294967296) = ((y * 2 ^ 32 : Nat) : Int) := by rw [IntKind.wrap_u64]; omega
  rw [e, or_low2 (p := y) (x := x) (s := 32) (by omega) (by omega)]
  congr 1
  omega
theorem pair_digit {P x y R : Nat} : P * (x + 4294967296 * y) = P * x + 4294967296 * P * y := by rw [Nat.mul_add, Nat.mul_comm 4294967296 P, Nat.mul_assoc]
theorem pair_lt {x y : Nat} (hx : x < 4294967296) (hy : y < 4294967296) : ((x + 4294967296 * y : Nat) : Int) < 18446744073709551616 := by omega
theorem dig {z : List Int} (hz : ok32 z) (j : Nat) : ∃ x : Nat, rd z (j : Int) = (x : Int) ∧ x < 4294967296 := by
  have h := ok32_rd hz (j : Int)
  exact ⟨(rd z (j : Int)).toNat, by omega, by omega⟩
theorem pairs_l {z : List Int} {n : Nat} (hz : ok32 z) (hn : z.length = 2 * n) (hl : n ≤ 8796093022208) (d : Nat) : ∀ (i : Nat) (out : List Int), i + d = n → out.length = n → ok out → Aside0 (val (out.take i) = v32 (z.take (2 * i))) →
    Ev (fun k m _ => abacusref02_Times.l2037 k m (i : Int) z out) (lim (v32 z)) := by
  induction d with
  | zero =>
    intro i out hi ho hk hv
    obtain rfl : i = n := by omega
    refine Ev_succ ?_
    simp only [abacusref02_Times.l2037, abacusref02_Times.b2037, abacusref02_Times.l255, abacusref02_Times.b255, ln_eq]
    have hv := hv.out
    rw [v32_take_all _ (by omega), List.take_of_length_le (by omega)] at hv
    have := Short_ev hk (by omega)
    rw [hv] at this
    exact Ev_neg (by omega) (Ev.bind this (Ev.now _))
  | succ d ih =>
    intro i out hi ho hk hv
    obtain ⟨w1, w2, w3⟩ := dbl_w (i := i) (by omega)
    have b1 : i < out.length := by omega
    have b2 : 2 * i < z.length := by omega
    have b3 : 2 * i + 1 < z.length := by omega
    have b4 : i + 1 + d = n := by omega
    obtain ⟨x, hx, hx2⟩ := dig hz (2 * i)
    obtain ⟨y, hy, hy2⟩ := dig hz (2 * i + 1)
    refine Ev_succ ?_
    simp only [abacusref02_Times.l2037, abacusref02_Times.b2037, ln_eq, w1, w2, w3, hx, hy, or_half hx2 hy2, Int.toNat_natCast]
    refine Ev_pos (nlt' b1) (Ev_pos (n0 _) (Ev_pos (nlt' b2) (Ev_pos (n0 _) (Ev_pos (nlt' b3) (Ev_pos (n0 _) (Ev_pos (nlt' b1) ?_))))))
    refine ih (i + 1) _ b4 (by rw [List.length_set]; exact ho) (ok_set hk _ (n0 _) (pair_lt hx2 hy2)) ⟨?_⟩
    rw [val_take_set _ _ _ b1, hv.out, Int.toNat_natCast, show 2 * (i + 1) = 2 * i + 1 + 1 by omega, v32_take_succ, v32_take_succ, hx, hy, Int.toNat_natCast, Int.toNat_natCast, B_H, H_succ, Nat.add_assoc, pair_digit (R := 0)]
theorem limbs_of {z : List Int} {n : Nat} (hz : ok32 z) (hn : z.length = 2 * n) (hl : n ≤ 8796093022208) : Ev (fun k _ _ => abacusref02_Times.l63 k z) (lim (v32 z)) := by
  simp only [abacusref02_Times.l63, abacusref02_Times.b63, ln_eq]
  have w : wrap64 (Int.tdiv (z.length : Int) 2) = (n : Int) := by
    rw [Int.tdiv_eq_ediv_of_nonneg (by omega)]
    unfold wrap64; omega
  rw [w, Int.toNat_natCast]
  refine Ev_pos (n0 _) (Ev_pos (by omega) (Ev_in (g := fun k m _ => abacusref02_Times.l2037 k m ((0 : Nat) : Int) z (List.replicate n (0 : Int))) ?_))
  exact pairs_l hz hn hl n 0 _ (by omega) (List.length_replicate ..) (ok_replicate _) ⟨by rw [Nat.mul_zero, List.take_zero, List.take_zero, v32_nil, val_nil]⟩
/-! ### products -/
theorem past {i L q : Nat} (h : i + 1 + L ≤ q) : i + L ≤ q ∧ i + L < q := by omega
theorem row_idx {i j d X Y : Nat} (hi : i < X) (hxy : X + Y ≤ 17592186044416) (hj : j + (d + 1) = Y) : j < Y ∧ i + j < X + Y ∧ i + j < 17592186044416 ∧ j + 1 + d = Y ∧ j < 17592186044416 := by omega
theorem row_digit {u s o c : Nat} (hu : u < 4294967296) (hs : s < 4294967296) (ho : o < 4294967296) (hc : c < 4294967296) : ∃ M, M = u * s ∧ M + o + c < 18446744073709551616 ∧ IntKind.u64.wrap ((u : Int) * (s : Int)) = (M : Int) ∧ IntKind.u64.wrap ((M : Int) + (o : Int)) = ((M + o : Nat) : Int) ∧ IntKind.u64.wrap (((M + o : Nat) : Int) + (c : Int)) = ((M + o + c : Nat) : Int) := by
  have hm : u * s ≤ 4294967295 * 4294967295 := Nat.mul_le_mul (by omega) (by omega)
  obtain ⟨M, hM⟩ : ∃ M, M = u * s := ⟨_, rfl⟩
  rw [← hM] at hm
  have hMoc : M + o + c < 18446744073709551616 := by clear hM; omega
  exact ⟨M, hM, hMoc, by rw [← Int.natCast_mul, ← hM]; exact wu (by clear hM; omega), wadd rfl (Nat.lt_of_le_of_lt (Nat.le_add_right _ _) hMoc), wadd rfl hMoc⟩
theorem rTimes_ev {a b : List Int} (ha : ok a) (hb : ok b) (hka : a.length ≤ 35184372088832) (hkb : b.length ≤ 35184372088832) (hla : (lim (val a)).length ≤ 1099511627776) (hlb : (lim (val b)).length ≤ 1099511627776) : Ev (fun k _ _ => abacusref02_Times.f k a b) (lim (val a * val b)) := by
  obtain ⟨x, ex, ox, lx, vx⟩ := halfWords_ev ha hka (Nat.le_trans hla (by decide))
  obtain ⟨y, ey, oy, ly, vy⟩ := halfWords_ev hb hkb (Nat.le_trans hlb (by decide))
  obtain ⟨na, ka, hna⟩ : ∃ na, x.length = 2 * na ∧ na ≤ 1099511627776 := ⟨_, lx, hla⟩
  obtain ⟨nb, kb, hnb⟩ : ∃ nb, y.length = 2 * nb ∧ nb ≤ 1099511627776 := ⟨_, ly, hlb⟩
  clear lx ly
  simp only [abacusref02_Times.f, abacusref02_Times.b0, ln_eq]
  have w : wrap64 ((x.length : Int) + (y.length : Int)) = ((x.length + y.length : Nat) : Int) := by unfold wrap64; omega
  refine Ev.bind ex (Ev.bind ey ?_)
  rw [w, Int.toNat_natCast]
  refine Ev_pos (n0 _) (Ev_pos (by omega) (Ev_in (g := fun k m _ => abacusref02_Times.l501 k m x y ((0 : Nat) : Int) (List.replicate (x.length + y.length) (0 : Int))) ?_))
  have hxy : x.length + y.length ≤ 17592186044416 := by clear w; omega
  clear w
  -- one row
  have row (i : Nat) (hi : i < x.length) (S : Nat) (R : Nat) (next : ∀ p : List Int, p.length = x.length + y.length → ok32 p → Aside0 (∀ q, i + 1 + y.length ≤ q → rd p (q : Int) = 0) → Aside0 (v32 p = S + H i * ((rd x (i : Int)).toNat * v32 y)) → Ev (fun k m _ => abacusref02_Times.l501 k m x y ((i + 1 : Nat) : Int) p) (lim (val a * val b))) (d : Nat) :
      ∀ (j c : Nat) (p : List Int), j + d = y.length → p.length = x.length + y.length → ok32 p → c < 4294967296 → Aside0 (∀ q, i + y.length ≤ q → rd p (q : Int) = 0) → Aside0 (v32 p + H (i + j) * c = S + H i * ((rd x (i : Int)).toNat * v32 (y.take j))) →
      Ev (fun k m q => abacusref02_Times.l128149 k (abacusref02_Times.l501 k m) q x y (i : Int) (c : Int) (j : Int) p) (lim (val a * val b)) := by
    induction d with
    | zero =>
      intro j c p hj hl hk hc hz hv
      have hi2 : i + y.length < p.length := hl ▸ Nat.add_lt_add_right hi _
      have hi3 : i + y.length < 17592186044416 := Nat.lt_of_lt_of_le (Nat.add_lt_add_right hi _) hxy
      obtain rfl : j = y.length := hj
      refine Ev_succ2 ?_
      simp only [abacusref02_Times.l128149, abacusref02_Times.b128149, abacusref02_Times.l16019, abacusref02_Times.b16019, ln_eq]
      have w1 : wrap64 ((i : Int) + (y.length : Int)) = ((i + y.length : Nat) : Int) := wjoin hi3 (by decide)
      have w2 : wrap64 ((i : Int) + 1) = ((i + 1 : Nat) : Int) := wone (n := 17592186044416) (Nat.lt_of_le_of_lt (Nat.le_add_right _ _) hi3) (by decide)
      rw [w1, w2, Int.toNat_natCast]
      refine Ev_neg (nnlt (Nat.lt_irrefl _)) (Ev_pos (n0 _) (Ev_pos (nlt' hi2) (next _ (by simp [hl]) (ok32_set hk _ (n0 c) (nlt' hc)) ⟨fun q hq => ?_⟩ ⟨?_⟩)))
      · rw [rd_set_ne _ _ _ _ (Nat.ne_of_lt (past hq).2)]; exact hz.out q (past hq).1
      · have hs := v32_set p (i + y.length) (c : Int) hi2
        have hv := hv.out
        rw [List.take_length] at hv
        rw [hz.out _ (Nat.le_refl _), Int.toNat_natCast, show Int.toNat 0 = 0 from rfl, Nat.mul_zero, Nat.add_zero] at hs
        exact hs.trans hv
    | succ d ih =>
      intro j c p hj hl hk hc hz hv
      obtain ⟨hjy, hij, hij3, hj1, hj4⟩ := row_idx hi hxy hj
      rw [← hl] at hij
      have w1 : wrap64 ((i : Int) + (j : Int)) = ((i + j : Nat) : Int) := wjoin hij3 (by decide)
      have w2 : wrap64 ((j : Int) + 1) = ((j + 1 : Nat) : Int) := wone hj4 (by decide)
      obtain ⟨u, hu, hu2⟩ := dig ox i
      obtain ⟨s, hs, hs2⟩ := dig oy j
      obtain ⟨o, ho, ho2⟩ := dig hk (i + j)
      obtain ⟨M, hM, hMoc, e1, e2, e3⟩ := row_digit hu2 hs2 ho2 hc
      refine Ev_succ2 ?_
      simp only [abacusref02_Times.l128149, abacusref02_Times.b128149, ln_eq, w1, w2, hu, hs, ho, e1, e2, e3, bit_32 hMoc, high, Int.toNat_natCast]
      refine Ev_pos (nlt' hjy) (Ev_pos (n0 _) (Ev_pos (nlt' hi) (Ev_pos (n0 _) (Ev_pos (nlt' hjy) (Ev_pos (n0 _) (Ev_pos (nlt' hij) (Ev_pos (n0 _) (Ev_pos (nlt' hij) ?_))))))))
      refine ih (j + 1) _ _ hj1 (by simp [hl]) (ok32_set hk _ (n0 _) (modlt _)) (Nat.div_lt_of_lt_mul hMoc) ⟨fun q hq => ?_⟩ ⟨?_⟩
      · rw [rd_set_ne _ _ _ _ (Nat.ne_of_lt (Nat.lt_of_lt_of_le (Nat.add_lt_add_left hjy i) hq))]; exact hz.out q hq
      · have hset := v32_set p (i + j) (((M + o + c) % 4294967296 : Nat) : Int) hij
        rw [ho, Int.toNat_natCast, Int.toNat_natCast] at hset
        rw [v32_take_succ, hs, hu, Int.toNat_natCast, Int.toNat_natCast, show i + (j + 1) = i + j + 1 by omega, H_succ]
        have hv := hv.out
        rw [hu, Int.toNat_natCast] at hv
        have e5 : 4294967296 * H (i + j) * ((M + o + c) / 4294967296) = H (i + j) * (4294967296 * ((M + o + c) / 4294967296)) := by rw [Nat.mul_comm 4294967296, Nat.mul_assoc]
        have e6 : H (i + j) * ((M + o + c) % 4294967296) + H (i + j) * (4294967296 * ((M + o + c) / 4294967296)) = H (i + j) * (M + o + c) := by rw [← Nat.mul_add, Nat.mod_add_div]
        have e7 : H i * (u * (v32 (y.take j) + H j * s)) = H i * (u * v32 (y.take j)) + H (i + j) * M := by
          rw [Nat.mul_add, Nat.mul_add, H_add, hM]
          congr 1
          simp only [Nat.mul_assoc, Nat.mul_comm, Nat.mul_left_comm]
        rw [e7, e5]
        rw [Nat.mul_add, Nat.mul_add] at e6
        exact lin2 hset hv e6
  have go (d : Nat) : ∀ (i : Nat) (p : List Int), i + d = x.length → p.length = x.length + y.length → ok32 p → Aside0 (∀ q, i + y.length ≤ q → rd p (q : Int) = 0) → Aside0 (v32 p = v32 (x.take i) * v32 y) →
      Ev (fun k m _ => abacusref02_Times.l501 k m x y (i : Int) p) (lim (val a * val b)) := by
    induction d with
    | zero =>
      intro i p hi hl hk hz hv
      refine Ev_succ ?_
      simp only [abacusref02_Times.l501, abacusref02_Times.b501, ln_eq]
      have := limbs_of (n := na + nb) hk (by omega) (by omega)
      rw [hv.out, v32_take_over (by omega), vx.out, vy.out] at this
      exact Ev_neg (by omega) this
    | succ d ih =>
      intro i p hi hl hk hz hv
      refine Ev_succ ?_
      simp only [abacusref02_Times.l501, abacusref02_Times.b501, ln_eq]
      refine Ev_pos (by omega) ?_
      have := row i (by omega) (v32 (x.take i) * v32 y) 0 (fun p' h1 h2 h3 h4 => ih (i + 1) p' (by omega) h1 h2 h3 ⟨by rw [h4.out, v32_take_succ, Nat.add_mul, Nat.mul_assoc]⟩) y.length 0 0 p (by omega) hl hk (by omega) hz ⟨by rw [hv.out]; simp [v32_nil]⟩
      exact Ev_in2 this
  exact go x.length 0 (List.replicate (x.length + y.length) 0) (by omega) (by simp) (ok32_replicate _) ⟨fun q hq => by
    rw [rd_nat, List.getD_eq_getElem?_getD, List.getElem?_replicate]
    split <;> rfl⟩ ⟨by rw [v32_replicate, List.take_zero, v32_nil, Nat.zero_mul]⟩
theorem times_lim {u v : Nat} (hu : u < B 4096) (hv : v < B 4096) : Ev (fun k _ _ => abacusref02_Times.f k (lim u) (lim v)) (lim (u * v)) := by
  have h1 := len_lim hu
  have h2 := len_lim hv
  have := rTimes_ev (ok_lim u) (ok_lim v) (Nat.le_trans h1 (by decide)) (Nat.le_trans h2 (by decide)) (by rw [val_lim]; exact Nat.le_trans h1 (by decide)) (by rw [val_lim]; exact Nat.le_trans h2 (by decide))
  rwa [val_lim, val_lim] at this
end Go.Proofs.YtalkmbmhmbnadaaDoor.R2
