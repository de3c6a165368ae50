/- The second reference's sum and nearest quotient. Conditions: lists of limbs below 2^64, of lengths that a slice has. -/
import Derived.Test.YtceihajjpeoloaaDoorQR2e
namespace Go.Proofs.YtceihajjpeoloaaDoor.R2
open Go.RowKit Go.Proofs.YtceihajjpeoloaaDoor.Lib Go.Proofs.YtceihajjpeoloaaDoor.LibB Go.Proofs.YtceihajjpeoloaaDoor.F Go.Proofs.YtceihajjpeoloaaDoor.Nat1 Go.Proofs.YtceihajjpeoloaaDoor.Nat2 Go.Proofs.YtceihajjpeoloaaDoor.Bits Go.Proofs.YtceihajjpeoloaaDoor.Pow
open Go.Proofs.YtceihajjpeoloaaDoor.Quot1 (dmAns nearAns nearN)
open Go.Proofs.YtceihajjpeoloaaDoorA (rd rdr ln ln_eq lnr lnr_eq mx mn shl shr wr wr_eq)
set_option linter.unusedVariables false
set_option linter.unusedSimpArgs false
theorem plus_digit {x y c : Nat} (hx : x < 18446744073709551616) (hy : y < 18446744073709551616) (hc : c ≤ 1) : ∃ s d e : Nat, IntKind.u64.wrap ((x : Int) + (y : Int)) = (s : Int) ∧ IntKind.u64.wrap ((s : Int) + (c : Int)) = (d : Int) ∧ d < 18446744073709551616 ∧ e ≤ 1 ∧ d + 18446744073709551616 * e = x + y + c ∧ (d < c → e = 1) ∧ (¬ d < c → s < x → e = 1) ∧ (¬ d < c → ¬ s < x → e = 0) := by
  refine ⟨(x + y) % 18446744073709551616, (x + y + c) % 18446744073709551616, (x + y + c) / 18446744073709551616, ?_, ?_, by omega, by omega, by omega, by omega, by omega, by omega⟩
  · rw [IntKind.wrap_u64]; omega
  · rw [IntKind.wrap_u64]; omega
theorem plus_l {a b : List Int} {n : Nat} (ha : ok a) (hb : ok b) (la : a.length ≤ n) (lb : b.length ≤ n) (hn : n ≤ 17592186044416) (d : Nat) : ∀ (i c : Nat) (out : List Int), i + d = n → c ≤ 1 → out.length = n + 1 → ok out → Aside0 (val (out.take i) + B i * c = val (a.take i) + val (b.take i)) →
    Ev (fun k m _ => abacusref02_Plus.l1013 k m a b (n : Int) (c : Int) (i : Int) out) (lim (val a + val b)) := by
  induction d with
  | zero =>
    intro i c out hi hc ho hk hv
    have hi' : i = n := hi
    rw [hi'] at hv ⊢
    have jl : n < out.length := by omega
    have h1 := val_take_set out n (c : Int) jl
    rw [val_take_all _ (by rw [List.length_set]; omega), Int.toNat_natCast, hv.out, val_take_all _ la, val_take_all _ lb] at h1
    have sh := Short_ev (ok_set hk n (x := (c : Int)) (Int.natCast_nonneg _) (by omega)) (by rw [List.length_set]; omega)
    rw [h1] at sh
    refine Ev_succ ?_
    simp only [abacusref02_Plus.l1013, abacusref02_Plus.b1013, abacusref02_Plus.l127, abacusref02_Plus.b127, ln_eq, Int.toNat_natCast]
    exact Ev_neg (by omega) (Ev_pos (Int.natCast_nonneg _) (Ev_pos (nlt2 jl) (Ev.bind sh (Ev.now _))))
  | succ d ih =>
    intro i c out hi hc ho hk hv
    obtain ⟨x, hx, hxl⟩ := nat_rd ha i
    obtain ⟨y, hy, hyl⟩ := nat_rd hb i
    have i1 : i < n := by omega
    have i2 : i + 1 + d = n := by omega
    have i3 : i ≤ 35184372088832 := by omega
    have jl : i < out.length := by omega
    obtain ⟨s, q, e, w1, w2, ql, e1, he, c1, c2, c3⟩ := plus_digit hxl hyl hc
    have h1 := val_take_set out i (q : Int) jl
    have h2 := val_take_succ a i
    have h3 := val_take_succ b i
    rw [Int.toNat_natCast] at h1
    rw [hx, Int.toNat_natCast] at h2
    rw [hy, Int.toNat_natCast] at h3
    have hp := place hv.out he
    have hv' : val ((out.set i (q : Int)).take (i + 1)) + B (i + 1) * e = val (a.take (i + 1)) + val (b.take (i + 1)) := by
      rw [h1, h2, h3, B_succ, hp]
      omega
    have nx := ih (i + 1) e (out.set i (q : Int)) i2 e1 (by rw [List.length_set]; exact ho) (ok_set hk _ (Int.natCast_nonneg _) (Int.ofNat_lt.2 ql)) ⟨hv'⟩
    clear h1 h2 h3 hp hv hv' he ih hi
    have last (z : Nat) (hz : ¬ q < c → e = z) : Ev (fun k m _ => abacusref02_Plus.l1036927 k (abacusref02_Plus.l1013 k m) a b (n : Int) (c : Int) (i : Int) (s : Int) (z : Int) out) (lim (val a + val b)) := by
      simp only [abacusref02_Plus.l1036927, abacusref02_Plus.b1036927, ln_eq, w2, next i i3, Int.toNat_natCast]
      by_cases g : q < c
      · have := c1 g
        subst this
        exact Ev_pos (nlt2 g) (Ev_pos (Int.natCast_nonneg _) (Ev_pos (nlt2 jl) nx))
      · have := hz g
        subst this
        exact Ev_neg (fun k => g (Int.ofNat_lt.1 k)) (Ev_pos (Int.natCast_nonneg _) (Ev_pos (nlt2 jl) nx))
    have mid : Ev (fun k m _ => abacusref02_Plus.l129615 k (abacusref02_Plus.l1013 k m) a b (n : Int) (c : Int) (i : Int) (x : Int) (y : Int) out) (lim (val a + val b)) := by
      simp only [abacusref02_Plus.l129615, abacusref02_Plus.b129615, w1]
      by_cases g : s < x
      · exact Ev_pos (nlt2 g) (last 1 (fun k => c2 k g))
      · exact Ev_neg (fun k => g (Int.ofNat_lt.1 k)) (last 0 (fun k => c3 k g))
    have yy : Ev (fun k m _ => abacusref02_Plus.l32403 k (abacusref02_Plus.l1013 k m) a b (n : Int) (c : Int) (i : Int) (x : Int) out) (lim (val a + val b)) := by
      simp only [abacusref02_Plus.l32403, abacusref02_Plus.b32403, ln_eq, hy]
      by_cases g : i < b.length
      · exact Ev_pos (nlt2 g) (Ev_pos (Int.natCast_nonneg _) (Ev_pos (nlt2 g) mid))
      · have y0 : y = 0 := by have := rd_over (l := b) (i := i) (Nat.not_lt.1 g); rw [hy] at this; exact Int.ofNat_inj.1 this
        rw [y0] at mid
        exact Ev_neg (fun k => g (Int.ofNat_lt.1 k)) mid
    refine Ev_succ ?_
    simp only [abacusref02_Plus.l1013, abacusref02_Plus.b1013, ln_eq, hx]
    refine Ev_pos (nlt2 i1) ?_
    by_cases g : i < a.length
    · exact Ev_pos (nlt2 g) (Ev_pos (Int.natCast_nonneg _) (Ev_pos (nlt2 g) yy))
    · have x0 : x = 0 := by have := rd_over (l := a) (i := i) (Nat.not_lt.1 g); rw [hx] at this; exact Int.ofNat_inj.1 this
      rw [x0] at yy
      exact Ev_neg (fun k => g (Int.ofNat_lt.1 k)) yy
theorem plus_in {a b : List Int} {n : Nat} (ha : ok a) (hb : ok b) (la : a.length ≤ n) (lb : b.length ≤ n) (hn : n ≤ 17592186044416) : Ev (fun k _ _ => abacusref02_Plus.l15 k a b (n : Int)) (lim (val a + val b)) := by
  simp only [abacusref02_Plus.l15, abacusref02_Plus.b15]
  rw [next n (by omega), Int.toNat_natCast]
  refine Ev_pos (Int.natCast_nonneg _) (Ev_pos (by omega) (Ev_in (g := fun k m _ => abacusref02_Plus.l1013 k m a b (n : Int) 0 0 (List.replicate (n + 1) (0 : Int))) ?_))
  exact plus_l ha hb la lb hn n 0 0 _ (Nat.zero_add _) (by decide) (List.length_replicate ..) (ok_replicate _) ⟨by rw [List.take_zero, List.take_zero, List.take_zero, val_nil, Nat.mul_zero]⟩
theorem Plus_ev {a b : List Int} (ha : ok a) (hb : ok b) (la : a.length ≤ 17592186044416) (lb : b.length ≤ 17592186044416) : Ev (fun k _ _ => abacusref02_Plus.f k a b) (lim (val a + val b)) := by
  simp only [abacusref02_Plus.f, abacusref02_Plus.b0, ln_eq]
  by_cases h : a.length < b.length
  · exact Ev_pos (nlt2 h) (plus_in ha hb (Nat.le_of_lt h) (Nat.le_refl _) lb)
  · exact Ev_neg (fun k => h (Int.ofNat_lt.1 k)) (plus_in ha hb (Nat.le_refl _) (Nat.not_lt.1 h) la)
theorem near_fits {a b : Nat} (ha : a < B 4096) (h0 : b ≠ 0) : nearN a b < B 4096 := by
  unfold nearN
  by_cases h : b - a % b < a % b ∨ (b - a % b = a % b ∧ a / b % 2 = 1)
  · rw [if_pos h]
    have hr := Nat.mod_lt a (Nat.pos_of_ne_zero h0)
    have hb : 2 ≤ b := by omega
    have h1 := Nat.div_le_div_left hb (show 0 < 2 by decide) (a := a)
    have h2 := Nat.mod_le a b
    omega
  · rw [if_neg h, Nat.add_zero]; exact Nat.lt_of_le_of_lt (Nat.div_le_self _ _) ha
theorem rNear_ev {x y : List Int} (hx : ok x) (hy : ok y) (hlx : x.length ≤ 35184372088832) (hly : y.length ≤ 35184372088832) : Ev (fun k _ _ => abacusref02_Near.f k x y) (nearAns (val x) (val y)) := by
  have dm := rDivMod_ev hx hy hlx hly
  simp only [abacusref02_Near.f, abacusref02_Near.b0]
  refine Ev.bind dm ?_
  unfold dmAns nearAns
  by_cases h1 : val x < B 4096 ∧ val y < B 4096
  · rw [if_pos h1, if_pos h1]
    by_cases h0 : val y = 0
    · rw [if_pos h0, if_pos h0]
      exact Ev_pos (by simp) (Ev.now _)
    · rw [if_neg h0, if_neg h0]
      rw [ans, if_pos (near_fits h1.1 h0)]
      have hr := Nat.mod_lt (val x) (Nat.pos_of_ne_zero h0)
      have lr : (lim (val x % val y)).length ≤ 4096 := (lim_len_le _ _).2 (Nat.lt_trans hr h1.2)
      have lq : (lim (val x / val y)).length ≤ 4096 := (lim_len_le _ _).2 (Nat.lt_of_le_of_lt (Nat.div_le_self _ _) h1.1)
      obtain ⟨t, t1, t2, t3, t4⟩ := doubled_ev (x := 0) (b := 0) rfl (by decide) (ok_lim (val x % val y)) (Nat.le_trans lr (by decide))
      rw [val_lim, Nat.add_zero] at t4
      have oc := Order_ev t2 hy (by rw [t3]; exact Nat.le_trans (Nat.succ_le_succ lr) (by decide)) (Nat.le_trans hly (by decide))
      rw [t4] at oc
      have pl := Plus_ev (b := [1]) (ok_lim (val x / val y)) (by intro z hz; simp at hz; subst hz; omega) (Nat.le_trans lq (by decide)) (by simp)
      rw [val_lim, show val [(1 : Int)] = 1 by rw [val_cons, val_nil]; rfl] at pl
      unfold nearN
      have c1 := cmp_pos (2 * (val x % val y)) (val y)
      have c0 := cmp_zero (2 * (val x % val y)) (val y)
      have hq := @lim_len_zero (val x / val y)
      have tail (odd : Bool) (ho : odd = decide (val x / val y % 2 = 1)) : Ev (fun k _ _ => abacusref02_Near.l63 k (lim (val x / val y)) (cmp (2 * (val x % val y)) (val y)) odd) (lim (val x / val y + if val y - val x % val y < val x % val y ∨ (val y - val x % val y = val x % val y ∧ val x / val y % 2 = 1) then 1 else 0), 0) := by
        simp only [abacusref02_Near.l63, abacusref02_Near.b63]
        generalize val x % val y = r at *
        generalize val x / val y = q at *
        by_cases g1 : val y < 2 * r
        · rw [if_pos (.inl (by omega))]
          exact Ev_pos (c1.2 g1) (Ev.bind pl (Ev.now _))
        · refine Ev_neg (fun k => g1 (c1.1 k)) ?_
          by_cases g2 : 2 * r = val y
          · refine Ev_pos (c0.2 g2) ?_
            by_cases g3 : q % 2 = 1
            · rw [if_pos (.inr ⟨by omega, g3⟩)]
              exact Ev_pos (by rw [ho]; exact decide_eq_true g3) (Ev.bind pl (Ev.now _))
            · rw [if_neg (by rintro (k | k); omega; exact g3 k.2), Nat.add_zero]
              exact Ev_neg (by rw [ho, decide_eq_false g3]; simp) (Ev.now _)
          · rw [if_neg (by omega), Nat.add_zero]
            exact Ev_neg (fun k => g2 (c0.1 k)) (Ev.now _)
      refine Ev_neg (by simp) (Ev.bind t1 (Ev.bind oc ?_))
      dsimp only
      simp only [ln_eq]
      by_cases hq0 : val x / val y = 0
      · refine Ev_neg (by omega) (tail false ?_)
        rw [hq0]; rfl
      · refine Ev_pos (by omega) (Ev_pos (by omega) (tail _ ?_))
        have hd : rd (lim (val x / val y)) 0 = ((val x / val y % 18446744073709551616 : Nat) : Int) := by rw [lim_pos hq0]; rfl
        rw [hd, Int.tmod_eq_emod_of_nonneg (by omega)]
        exact decide_eq_decide.2 (by omega)
  · rw [if_neg h1, if_neg h1]
    exact Ev_pos (by simp) (Ev.now _)
end Go.Proofs.YtceihajjpeoloaaDoor.R2
