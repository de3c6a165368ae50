/- The second reference's quotient and rest. Conditions: lists of limbs below 2^64, of lengths that a slice has. -/
import Derived.Test.YtceihajjpeoloaaDoorQR2d
namespace Go.Proofs.YtceihajjpeoloaaDoor.R2
open Go.RowKit Go.Proofs.YtceihajjpeoloaaDoor.Lib Go.Proofs.YtceihajjpeoloaaDoor.LibB Go.Proofs.YtceihajjpeoloaaDoor.F Go.Proofs.YtceihajjpeoloaaDoor.Nat1 Go.Proofs.YtceihajjpeoloaaDoor.Nat2 Go.Proofs.YtceihajjpeoloaaDoor.Bits Go.Proofs.YtceihajjpeoloaaDoor.LongL
open Go.Proofs.YtceihajjpeoloaaDoor.Quot1 (dmAns)
open Go.Proofs.YtceihajjpeoloaaDoorA (rd rdr ln ln_eq lnr lnr_eq mx mn shl shr wr wr_eq)
set_option linter.unusedVariables false
set_option linter.unusedSimpArgs false
theorem room1 (l : List Int) : ok (l ++ [0]) ↔ ok l := ⟨fun h x hx => h x (List.mem_append_left _ hx), fun h => ok_append h (fun x hx => by simp at hx; subst hx; omega)⟩
theorem val_room (l : List Int) : val (l ++ [0]) = val l := by rw [val_append, val_cons, val_nil]; simp
theorem len_room (l : List Int) : (l ++ [0]).length = l.length + 1 := by rw [List.length_append]; rfl
theorem lens {lu lv : Nat} (h0 : 0 < lv) (h1 : lv ≤ lu) (h2 : lu ≤ 4096) : wrap64 ((lu : Int) - (lv : Int)) = (((lu - lv + 1 : Nat) : Int) - 1) ∧ wrap64 (((lu - lv + 1 : Nat) : Int) - 1 + 1) = ((lu - lv + 1 : Nat) : Int) ∧ lu - lv + 1 ≤ 35184372088832 ∧ lu + 1 = lu - lv + 1 + lv ∧ lu - lv + 1 ≤ lu ∧ lu - (lu - lv + 1) = lv - 1 ∧ lu - lv + 1 + lv ≤ 17592186044416 := by
  refine ⟨?_, ?_, by omega, by omega, by omega, by omega, by omega⟩
  · unfold wrap64; omega
  · unfold wrap64; omega
theorem Lg_start {U V : Nat} (hV : V ≠ 0) (hVU : (lim V).length ≤ (lim U).length) (hU : (lim U).length ≤ 4096) : Lg U V (lim V).length ((lim U).length - (lim V).length + 1) ((lim U).length - (lim V).length + 1) (lim U ++ [0]) (List.replicate ((lim U).length - (lim V).length + 1) 0) := by
  have hz := @lim_len_zero V
  obtain ⟨_, _, _, e3, e4, e5, _⟩ := lens (lu := (lim U).length) (lv := (lim V).length) (Nat.pos_of_ne_zero (fun k => hV (hz.1 k))) hVU hU
  refine ⟨by rw [len_room]; exact e3, (room1 _).2 (ok_lim U), List.length_replicate .., ok_replicate _, fun k _ => ?_, by rw [val_replicate, Nat.zero_mul, Nat.zero_add, val_room, val_lim], ?_⟩
  · rw [rd_nat, List.getD_eq_getElem?_getD, List.getElem?_replicate]
    split <;> rfl
  · rw [List.drop_append_of_le_length e4, val_room]
    have h1 := val_lt (ok_drop (ok_lim U) ((lim U).length - (lim V).length + 1))
    rw [List.length_drop, e5] at h1
    exact Nat.lt_of_lt_of_le h1 (lim_len_ge V hV)
theorem len_mono' {m n : Nat} (h : m ≤ n) : (lim m).length ≤ (lim n).length := (lim_len_le _ _).2 (Nat.lt_of_le_of_lt h ((lim_len_le n _).1 (Nat.le_refl _)))
theorem Divide_ev {a b : List Int} {U V : Nat} (ha : ok a) (hb : ok b) (hla : a.length ≤ 35184372088832) (hlb : b.length ≤ 35184372088832) (hU : val a = U) (hV : val b = V) (bU : U < B 4096) (bV : V < B 4096) (h0 : V ≠ 0) :
    Ev (fun k _ _ => abacusref02_Divide.f k a b) (lim (U / V), lim (U % V)) := by
  have s1 := Short_ev ha hla
  have s2 := Short_ev hb hlb
  rw [hU] at s1
  rw [hV] at s2
  have lu : (lim U).length ≤ 4096 := (lim_len_le U 4096).2 bU
  have lv : (lim V).length ≤ 4096 := (lim_len_le V 4096).2 bV
  have oc := order_lim (u := U) (v := V) (Nat.le_trans lu (by decide)) (Nat.le_trans lv (by decide))
  simp only [abacusref02_Divide.f, abacusref02_Divide.b0]
  refine Ev.bind s1 (Ev.bind s2 (Ev.bind oc ?_))
  rcases Nat.lt_or_ge U V with h | h
  · rw [Nat.div_eq_of_lt h, Nat.mod_eq_of_lt h, lim_zero]
    exact Ev_pos ((cmp_neg U V).2 h) (Ev.now _)
  · have vu := len_mono' h
    have hz := @lim_len_zero V
    obtain ⟨w1, w2, w3, _, _, _, w4⟩ := lens (lu := (lim U).length) (lv := (lim V).length) (Nat.pos_of_ne_zero (fun k => h0 (hz.1 k))) vu lu
    refine Ev_neg (fun k => absurd ((cmp_neg U V).1 k) (Nat.not_lt.2 h)) (Ev.bind s2 (Ev_pos (Nat.le_trans (Nat.succ_le_succ lv) (by decide)) ?_))
    refine Ev_in (g := fun k w _ => abacusref02_Divide.l2037 k w a (lim V ++ [0]) 0 (lim U) (lim V) []) ?_
    refine moved_l (b := V) (n := (lim V).length) ((lim_len_le _ _).1 (Nat.le_refl _)) rfl lv (fun ms hm h64 => ?_) 64 0 (lim V ++ [0]) [] rfl rfl (fun j hj => absurd hj (Nat.not_lt_zero _)) ((room1 _).2 (ok_lim V)) (len_room _) (by rw [val_room, val_lim, Nat.pow_zero, Nat.mul_one])
    simp only [abacusref02_Divide.l255, abacusref02_Divide.b255, ln_eq, w1, w2, Int.toNat_natCast]
    refine Ev.bind s1 (Ev_pos (Nat.le_trans (Nat.succ_le_succ lu) (by decide)) (Ev_pos (Int.natCast_nonneg _) (Ev_pos w3 ?_)))
    exact Ev_in (g := fun k w _ => abacusref02_Divide.l16373 k w (((((lim U).length - (lim V).length + 1 : Nat)) : Int) - 1) ms (lim U ++ [0]) (List.replicate ((lim U).length - (lim V).length + 1) (0 : Int))) (digits_l hm h64 ((lim_len_le _ _).1 (Nat.le_refl _)) w4 _ _ _ (Lg_start h0 vu lu) (Nat.le_refl _))
theorem rDivMod_ev {x y : List Int} (hx : ok x) (hy : ok y) (hlx : x.length ≤ 35184372088832) (hly : y.length ≤ 35184372088832) : Ev (fun k _ _ => abacusref02_DivMod.f k x y) (dmAns (val x) (val y)) := by
  have tx := abacusref02_Top_ev hx (Nat.le_trans hlx (by decide))
  have ty := abacusref02_Top_ev hy (Nat.le_trans hly (by decide))
  have lx := lim_len_le (val x) 4096
  have ly := lim_len_le (val y) 4096
  have hz := @lim_len_zero (val y)
  simp only [abacusref02_DivMod.f, abacusref02_DivMod.b0]
  unfold dmAns
  by_cases h1 : val x < B 4096
  · have l1 := lx.2 h1
    by_cases h2 : val y < B 4096
    · have l2 := ly.2 h2
      rw [if_pos ⟨h1, h2⟩]
      refine Ev.bind tx (Ev_neg (by omega) (Ev.bind ty (Ev_neg (by omega) (Ev.bind ty ?_))))
      by_cases h0 : val y = 0
      · rw [if_pos h0]
        exact Ev_pos (by omega) (Ev.now _)
      · rw [if_neg h0]
        have hl0 : ¬ (lim (val y)).length = 0 := fun k => h0 (hz.1 k)
        exact Ev_neg (by omega) (Ev.bind (Divide_ev hx hy hlx hly rfl rfl h1 h2 h0) (Ev.now _))
    · rw [if_neg (fun k => h2 k.2)]
      have l2 : ¬ (lim (val y)).length ≤ 4096 := fun k => h2 (ly.1 k)
      exact Ev.bind tx (Ev_neg (by omega) (Ev.bind ty (Ev_pos (by omega) (Ev.now _))))
  · rw [if_neg (fun k => h1 k.1)]
    have l1 : ¬ (lim (val x)).length ≤ 4096 := fun k => h1 (lx.1 k)
    exact Ev.bind tx (Ev_pos (by omega) (Ev.now _))
end Go.Proofs.YtceihajjpeoloaaDoor.R2
