/- The four roundings of a double, of infinities and NaNs, and the order of doubles. No conditions. -/
import Derived.Test.YtobocamcoaeliaaGreatDoorQRemRound
import Derived.Test.YtobocamcoaeliaaGreatDoorQSoft1
namespace Go.Proofs.YtobocamcoaeliaaGreatDoor.Pure
open Go.RowKit Go.Proofs.YtobocamcoaeliaaGreatDoor.Lib Go.Proofs.YtobocamcoaeliaaGreatDoor.LibB Go.Proofs.YtobocamcoaeliaaGreatDoor.F Go.Proofs.YtobocamcoaeliaaGreatDoor.Nat1 Go.Proofs.YtobocamcoaeliaaGreatDoor.Nat2 Go.Proofs.YtobocamcoaeliaaGreatDoor.Bits Go.Proofs.YtobocamcoaeliaaGreatDoor.Div Go.Proofs.YtobocamcoaeliaaGreatDoor.Quot1 Go.Proofs.YtobocamcoaeliaaGreatDoor.Ieee1 Go.Proofs.YtobocamcoaeliaaGreatDoor.Mag Go.Proofs.YtobocamcoaeliaaGreatDoor.Ieee2 Go.Proofs.YtobocamcoaeliaaGreatDoor.Rnd Go.Proofs.YtobocamcoaeliaaGreatDoor.Rn
open Go.Proofs.YtobocamcoaeliaaGreatDoorA (rd ln ln_eq mx mn shl shr wr wr_eq)
open Go.Proofs.YtobocamcoaeliaaGreatDoor.Soft1 (Rd sv sval rd_exact)
set_option linter.unusedVariables false
set_option linter.unusedSimpArgs false
/-! ### the four roundings -/
def nearR (s : Bool) (w : Nat) (r : Int) : Bool := if r = 3 then true else if r = 2 then decide (w % 2 = 1) else false
theorem near_rule (s : Bool) (w : Nat) (r : Int) : remain_Near_1.f s (w : Int) r = some (nearR s w r) := by
  unfold remain_Near_1.f remain_Near_1.b0 nearR
  have e : Int.tmod (w : Int) 2 = ((w % 2 : Nat) : Int) := by rw [Int.tmod_eq_emod_of_nonneg (by omega)]; omega
  rw [e]
  repeat' split
  · rfl
  · congr 1; exact decide_eq_decide.2 (by omega)
  · rfl
/-- x is d cut, and one more where R says so. -/
def CutR (R : Bool → Nat → Int → Bool) (Z : Nat) (d x : Int) : Prop :=
  if fin d then ∃ p, x = put (sgn d) p ∧ p < inf ∧ uni p = (uni (plc d) / 2 ^ Z + (up R (sgn d) (uni (plc d) / 2 ^ Z) (uni (plc d) % 2 ^ Z) (2 ^ Z)).toNat) * 2 ^ Z
  else x = if cls d = 4 then 9221120237041090560 else d
theorem cut_ev {rule : Bool → Int → Int → Option Bool} {R : Bool → Nat → Int → Bool} (hr : ∀ s (w : Nat) r, rule s (w : Int) r = some (R s w r)) {d : Int} (hd : U d) {Z : Nat} (hZ : Z = 1074) : ∃ x, Ev (fun n _ _ => Gr n rule d) x ∧ CutR R Z d x := by
  unfold CutR
  by_cases hf : fin d
  · obtain ⟨p, h1, h2⟩ := round_ev hr hd hf hZ
    exact ⟨_, h1, by rw [if_pos hf]; exact ⟨p, rfl, h2⟩⟩
  · simp only [Gr, remain_round_64.b0, if_neg hf]
    have dd := Decode_eq hd
    have c3 := cls_fin.2 hf
    have c4 := cls_le d
    by_cases h4 : cls d = 4
    · exact ⟨_, Ev_bind_eq dd (Ev_pos h4 (Ev.now _)), by rw [if_pos h4]⟩
    · exact ⟨_, Ev_bind_eq dd (Ev_neg h4 (Ev_pos (show cls d = 3 by omega) (Ev.now _))), by rw [if_neg h4]⟩
theorem Floor_ev {d : Int} (hd : U d) {Z : Nat} (hZ : Z = 1074) : ∃ x, Ev (fun n _ _ => remain_Floor.f n d) x ∧ CutR (fun s _ _ => s) Z d x := by
  obtain ⟨x, h1, h2⟩ := cut_ev (rule := remain_Floor_1.f) (R := fun s _ _ => s) (fun _ _ _ => rfl) hd hZ
  exact ⟨x, Ev.bind h1 (Ev.now _), h2⟩
theorem Ceil_ev {d : Int} (hd : U d) {Z : Nat} (hZ : Z = 1074) : ∃ x, Ev (fun n _ _ => remain_Ceil.f n d) x ∧ CutR (fun s _ _ => !s) Z d x := by
  obtain ⟨x, h1, h2⟩ := cut_ev (rule := remain_Ceil_1.f) (R := fun s _ _ => !s) (fun _ _ _ => rfl) hd hZ
  exact ⟨x, Ev.bind h1 (Ev.now _), h2⟩
theorem Trunc_ev {d : Int} (hd : U d) {Z : Nat} (hZ : Z = 1074) : ∃ x, Ev (fun n _ _ => remain_Trunc.f n d) x ∧ CutR (fun _ _ _ => false) Z d x := by
  obtain ⟨x, h1, h2⟩ := cut_ev (rule := remain_Trunc_1.f) (R := fun _ _ _ => false) (fun _ _ _ => rfl) hd hZ
  exact ⟨x, Ev.bind h1 (Ev.now _), h2⟩
theorem Near_ev {d : Int} (hd : U d) {Z : Nat} (hZ : Z = 1074) : ∃ x, Ev (fun n _ _ => remain_Near.f n d) x ∧ CutR nearR Z d x := by
  obtain ⟨x, h1, h2⟩ := cut_ev (rule := remain_Near_1.f) (R := nearR) near_rule hd hZ
  exact ⟨x, Ev.bind h1 (Ev.now _), h2⟩
/-! ### infinities and NaNs -/
theorem signed_zero' (s : Bool) : remain_signed.f s 0 = some (put s 0) := by cases s <;> rfl
/-! ### order -/
end Go.Proofs.YtobocamcoaeliaaGreatDoor.Pure
