/- The four roundings of a double, of infinities and NaNs, and the order of doubles. No conditions. -/
import Derived.Test.YtobocamcoaeliaaDoorQRemRound
import Derived.Test.YtobocamcoaeliaaDoorQSoft1
namespace Go.Proofs.YtobocamcoaeliaaDoor.Pure
open Go.RowKit Go.Proofs.YtobocamcoaeliaaDoor.Lib Go.Proofs.YtobocamcoaeliaaDoor.LibB Go.Proofs.YtobocamcoaeliaaDoor.F Go.Proofs.YtobocamcoaeliaaDoor.Nat1 Go.Proofs.YtobocamcoaeliaaDoor.Nat2 Go.Proofs.YtobocamcoaeliaaDoor.Bits Go.Proofs.YtobocamcoaeliaaDoor.Div Go.Proofs.YtobocamcoaeliaaDoor.Quot1 Go.Proofs.YtobocamcoaeliaaDoor.Ieee1 Go.Proofs.YtobocamcoaeliaaDoor.Mag Go.Proofs.YtobocamcoaeliaaDoor.Ieee2 Go.Proofs.YtobocamcoaeliaaDoor.Rnd Go.Proofs.YtobocamcoaeliaaDoor.Rn
open Go.Proofs.YtobocamcoaeliaaDoorA (rd ln ln_eq mx mn shl shr wr wr_eq)
open Go.Proofs.YtobocamcoaeliaaDoor.Soft1 (Rd sv sval rd_exact)
set_option linter.unusedVariables false
set_option linter.unusedSimpArgs false
/-! ### the four roundings -/
def nearR (s : Bool) (w : Nat) (r : Int) : Bool := if r = 3 then true else if r = 2 then decide (w % 2 = 1) else false
theorem near_rule (s : Bool) (w : Nat) (r : Int) : remain_Near_1.f s (w : Int) r = some (nearR s w r) := by
  unfold remain_Near_1.f remain_Near_1.b0 nearR
  have e : Int.tmod (w : Int) 2 = ((w % 2 : Nat) : Int) := by rw [Int.tmod_eq_emod_of_nonneg (by omega)]; omega
  rw [e]
  repeat' split
  · rfl
  · congr 1; exact decide_eq_decide.2 (by omega)
  · rfl
/-- x is d cut, and one more where R says so. -/
def CutR (R : Bool → Nat → Int → Bool) (Z : Nat) (d x : Int) : Prop :=
  if fin d then ∃ p, x = put (sgn d) p ∧ p < inf ∧ uni p = (uni (plc d) / 2 ^ Z + (up R (sgn d) (uni (plc d) / 2 ^ Z) (uni (plc d) % 2 ^ Z) (2 ^ Z)).toNat) * 2 ^ Z
  else x = if cls d = 4 then 9221120237041090560 else d
theorem cut_ev {rule : Bool → Int → Int → Option Bool} {R : Bool → Nat → Int → Bool} (hr : ∀ s (w : Nat) r, rule s (w : Int) r = some (R s w r)) {d : Int} (hd : U d) {Z : Nat} (hZ : Z = 1074) : ∃ x, Ev (fun n _ _ => Gr n rule d) x ∧ CutR R Z d x := by
  unfold CutR
  by_cases hf : fin d
  · obtain ⟨p, h1, h2⟩ := round_ev hr hd hf hZ
    exact ⟨_, h1, by rw [if_pos hf]; exact ⟨p, rfl, h2⟩⟩
  · simp only [Gr, remain_round_64.b0, if_neg hf]
    have dd := Decode_eq hd
    have c3 := cls_fin.2 hf
    have c4 := cls_le d
    by_cases h4 : cls d = 4
    · exact ⟨_, Ev_bind_eq dd (Ev_pos h4 (Ev.now _)), by rw [if_pos h4]⟩
    · exact ⟨_, Ev_bind_eq dd (Ev_neg h4 (Ev_pos (show cls d = 3 by omega) (Ev.now _))), by rw [if_neg h4]⟩
theorem Floor_ev {d : Int} (hd : U d) {Z : Nat} (hZ : Z = 1074) : ∃ x, Ev (fun n _ _ => remain_Floor.f n d) x ∧ CutR (fun s _ _ => s) Z d x := by
  obtain ⟨x, h1, h2⟩ := cut_ev (rule := remain_Floor_1.f) (R := fun s _ _ => s) (fun _ _ _ => rfl) hd hZ
  exact ⟨x, Ev.bind h1 (Ev.now _), h2⟩
theorem Ceil_ev {d : Int} (hd : U d) {Z : Nat} (hZ : Z = 1074) : ∃ x, Ev (fun n _ _ => remain_Ceil.f n d) x ∧ CutR (fun s _ _ => !s) Z d x := by
  obtain ⟨x, h1, h2⟩ := cut_ev (rule := remain_Ceil_1.f) (R := fun s _ _ => !s) (fun _ _ _ => rfl) hd hZ
  exact ⟨x, Ev.bind h1 (Ev.now _), h2⟩
theorem Trunc_ev {d : Int} (hd : U d) {Z : Nat} (hZ : Z = 1074) : ∃ x, Ev (fun n _ _ => remain_Trunc.f n d) x ∧ CutR (fun _ _ _ => false) Z d x := by
  obtain ⟨x, h1, h2⟩ := cut_ev (rule := remain_Trunc_1.f) (R := fun _ _ _ => false) (fun _ _ _ => rfl) hd hZ
  exact ⟨x, Ev.bind h1 (Ev.now _), h2⟩
theorem Near_ev {d : Int} (hd : U d) {Z : Nat} (hZ : Z = 1074) : ∃ x, Ev (fun n _ _ => remain_Near.f n d) x ∧ CutR nearR Z d x := by
  obtain ⟨x, h1, h2⟩ := cut_ev (rule := remain_Near_1.f) (R := nearR) near_rule hd hZ
  exact ⟨x, Ev.bind h1 (Ev.now _), h2⟩
/-! ### infinities and NaNs -/
theorem inf_put {d : Int} (h : U d) (hc : cls d = 3) : d = put (sgn d) inf := by
  have h1 := (plc_put h (by omega)).1
  have h2 := (@cls_plc d).2.1.1 hc
  rw [show plc d = inf by unfold inf; omega] at h1
  exact h1
theorem signed_zero' (s : Bool) : remain_signed.f s 0 = some (put s 0) := by cases s <;> rfl
theorem bearers_ev {d : Int} (hd : U d) (hf : ¬ fin d) : Ev (fun n _ _ => abacuslaw06_bearers.f n d) true := by
  obtain ⟨Z, hZ⟩ : ∃ Z, Z = 1074 := ⟨_, rfl⟩
  obtain ⟨xf, ef, rf⟩ := Floor_ev hd hZ
  obtain ⟨xc, ec, rc⟩ := Ceil_ev hd hZ
  obtain ⟨xt, et, rt⟩ := Trunc_ev hd hZ
  obtain ⟨xn, en, rn⟩ := Near_ev hd hZ
  unfold CutR at rf rc rt rn
  rw [if_neg hf] at rf rc rt rn
  simp only [abacuslaw06_bearers.f, abacuslaw06_bearers.b0, tmod_pos hd]
  have c4 := (@cls_plc d).1
  have c3 := cls_fin.2 hf
  have c5 := cls_le d
  have dd := Decode_eq hd
  have go (w r : Int) (h1 : xf = w) (h2 : xc = w) (h3 : xt = w) (h4 : xn = w) (h5 : Ev (fun n _ _ => remain_Split.f n d) (w, r)) : Ev (fun n _ _ => abacuslaw06_bearers.l31 n d w r) true := by
    simp only [abacuslaw06_bearers.l31, abacuslaw06_bearers.b31]
    exact Ev.bind h5 (Ev_pos rfl (Ev_pos rfl (Ev.bind et (Ev_pos h3 (Ev.bind ef (Ev_pos h1 (Ev.bind ec (Ev_pos h2 (Ev.bind en (Ev_some (decide_eq_true h4)))))))))))
  by_cases h4 : cls d = 4
  · rw [if_pos h4] at rf rc rt rn
    refine Ev_pos (by have := c4.1 h4; omega) (go _ _ rf rc rt rn ?_)
    simp only [remain_Split.f, remain_Split.b0]
    exact Ev_bind_eq dd (Ev.bind et (Ev_pos h4 (Ev.now _)))
  · rw [if_neg h4] at rf rc rt rn
    have h3 : cls d = 3 := by omega
    refine Ev_neg (fun k => h4 (c4.2 (by omega))) ?_
    have e : IntKind.u64.wrap (d - 9218868437227405312) = put (sgn d) 0 := by
      have := inf_put hd h3
      unfold put inf at this
      unfold put
      rw [IntKind.wrap_u64]
      split at this <;> split <;> first | omega | (rename_i a b; exact absurd a b) | (rename_i a b; exact absurd b a)
    rw [e]
    refine go _ _ rf rc rt rn ?_
    simp only [remain_Split.f, remain_Split.b0]
    exact Ev_bind_eq dd (Ev.bind et (Ev_neg h4 (Ev_pos h3 (Ev_bind_eq (signed_zero' _) (Ev.now _)))))
/-! ### order -/
theorem rk_put {s : Bool} {p : Nat} (hp : p ≤ inf) : ¬ nan (put s p) ∧ rk (put s p) = sv s p := by
  unfold inf at hp
  unfold nan rk put sv
  cases s with
  | false => simp only [Bool.false_eq_true, if_false]; exact ⟨by omega, by rw [if_pos (by omega)]⟩
  | true => simp only [if_true]; exact ⟨by omega, by rw [if_neg (by omega)]; omega⟩
theorem comp_put {s t : Bool} {p q : Nat} (hp : p ≤ inf) (hq : q ≤ inf) : ieee_Compare.f (put s p) (put t q) = some (ord (sv s p) (sv t q), true) := by
  rw [Compare_eq (put_U hp).1 (put_U hq).1]
  obtain ⟨n1, r1⟩ := rk_put (s := s) hp
  obtain ⟨n2, r2⟩ := rk_put (s := t) hq
  unfold comp
  rw [if_neg n1, if_neg n2, r1, r2]
theorem below_put {s t : Bool} {p q : Nat} (hp : p ≤ inf) (hq : q ≤ inf) : abacuslaw06_below.f (put s p) (put t q) = some (decide (sv s p < sv t q)) := by
  unfold abacuslaw06_below.f abacuslaw06_below.b0
  rw [comp_put hp hq, Option.bind_some, if_pos rfl]
  unfold ord
  congr 1
  refine decide_eq_decide.2 ?_
  repeat' split
  all_goals omega
theorem integral_put {s : Bool} {p n Z : Nat} (hZ : Z = 1074) (hp : p < inf) (h : uni p = n) : ieee_Integral.f (put s p) = some (decide (n % 2 ^ Z = 0)) := by
  obtain ⟨u, e, _⟩ := put_U (s := s) (Nat.le_of_lt hp)
  rw [Integral_eq u]
  have hf : fin (put s p) := plc_fin.2 (by rw [e]; exact hp)
  congr 1
  refine decide_eq_decide.2 ?_
  rw [e, h, hZ]
  exact ⟨fun h => h.2, fun h => ⟨hf, h⟩⟩
theorem uni_one_ {Z : Nat} (hZ : Z = 1074) : uni 4607182418800017408 = 2 ^ Z := by
  obtain ⟨E, hE⟩ : ∃ E, E = 1022 := ⟨_, rfl⟩
  have h := uni_at (k := E) (c := 4503599627370496) (.inr (Nat.le_refl _)) (by omega)
  rw [show E * 4503599627370496 + 4503599627370496 = 4607182418800017408 by omega] at h
  rw [h, show Z = 52 + E by omega, Nat.pow_add]
end Go.Proofs.YtobocamcoaeliaaDoor.Pure
