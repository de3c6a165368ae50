/- What the laws' look 'nearest' answers of a rounded number. Conditions: naturals within the limit. -/
import Derived.Test.YtcdnoklokoplaaaDoorQSoft1
namespace Go.Proofs.YtcdnoklokoplaaaDoor.SoftNear1
open Go.RowKit Go.Proofs.YtcdnoklokoplaaaDoor.Lib Go.Proofs.YtcdnoklokoplaaaDoor.LibB Go.Proofs.YtcdnoklokoplaaaDoor.F Go.Proofs.YtcdnoklokoplaaaDoor.Nat1 Go.Proofs.YtcdnoklokoplaaaDoor.Nat2 Go.Proofs.YtcdnoklokoplaaaDoor.Bits Go.Proofs.YtcdnoklokoplaaaDoor.Ieee1 Go.Proofs.YtcdnoklokoplaaaDoor.Mag Go.Proofs.YtcdnoklokoplaaaDoor.Ieee2 Go.Proofs.YtcdnoklokoplaaaDoor.Soft1 Go.Proofs.YtcdnoklokoplaaaDoor.Rnd
open Go.Proofs.YtcdnoklokoplaaaDoorA (rd ln ln_eq mx mn shl shr wr wr_eq)
set_option linter.unusedVariables false
set_option linter.unusedSimpArgs false
theorem bit_last {d : Int} (h : U d) : Go.bits .and .u64 d 1 = d % 2 := by
  obtain ⟨n, rfl⟩ := Int.eq_ofNat_of_zero_le h.1
  have h2 := h.2
  rw [show (1 : Int) = ((2 ^ 1 - 1 : Nat) : Int) from rfl, u64_and_nat _ _ (by omega) (by omega), Nat.and_two_pow_sub_one_eq_mod]
  omega
theorem cls_inf {d : Int} (h : d % 9223372036854775808 = 9218868437227405312) : cls d = 3 := by
  unfold cls
  rw [if_neg (by omega), if_neg (by omega), if_neg (by omega), if_pos h]
theorem units_any {s : Bool} {p : Nat} (hp : p ≤ inf) : Ev (fun k _ _ => abacuslaw05_units.f k (put s p)) (s, lim (uni p)) := by
  obtain ⟨u1, u2, u3⟩ := put_U (s := s) hp
  by_cases hi : p = inf
  · have hc : cls (put s p) = 3 := by
      refine cls_inf ?_
      have := plc_lt (put s p)
      unfold plc at u2
      unfold inf at hi
      omega
    obtain ⟨F, hF⟩ : ∃ F, F = 2098 := ⟨_, rfl⟩
    have hs := shl_lim (a := 1) (n := F) (small_limit (by omega)) (by rw [Nat.one_mul]; exact pow_B (n := F + 1) (Nat.pow_lt_pow_right (by omega) (by omega)) (by omega)) (by omega)
    rw [Nat.one_mul, show ((F : Nat) : Int) = wrap64 (1024 + 1074) by unfold wrap64; omega] at hs
    have hu : uni p = 2 ^ F := by
      rw [hi, uni_inf (E := F - 52) (by omega), show (4503599627370496 : Nat) = 2 ^ 52 from rfl, ← Nat.pow_add]
      congr 1; omega
    simp only [abacuslaw05_units.f, abacuslaw05_units.b0, abacuslaw05_units.l63, abacuslaw05_units.b63, ln_eq]
    refine Ev_bind_eq (Decode_eq u1) (Ev_bind_eq (FromUint_man _) (Ev_pos hc (Ev_bind_eq (FromUint_lim (n := 1) (by omega)) (Ev.bind hs (Ev_some ?_)))))
    rw [u3, hu]
  · have hf : fin (put s p) := plc_fin.2 (by rw [u2]; omega)
    have := units_ev u1 hf
    rwa [u2, u3] at this
/-- The doubles beside a double. -/
def Beside (s : Bool) (p : Nat) (r : Bool) (q : Nat) : Prop := (r = s ∧ q = p + 1 ∧ p < inf) ∨ (r = s ∧ q = p ∧ p = inf) ∨ (r = s ∧ p = q + 1) ∨ (r = (!s) ∧ q = 1 ∧ p = 0)
theorem upd_put {s : Bool} {p : Nat} (hp : p ≤ inf) : ∃ r q, upd (put s p) = put r q ∧ Beside s p r q := by
  unfold inf at hp
  have hn : ¬ nan (put s p) := by unfold nan put; cases s <;> simp <;> omega
  unfold upd
  rw [if_neg hn]
  cases s with
  | false =>
    have e : rk (put false p) = (p : Int) := by unfold rk put; simp; omega
    rw [e]
    by_cases h : p = inf
    · rw [if_pos (by rw [h]; rfl)]
      exact ⟨false, p, rfl, .inr (.inl ⟨rfl, rfl, h⟩)⟩
    · unfold inf at h
      rw [if_neg (by omega), if_neg (by omega)]
      refine ⟨false, p + 1, ?_, .inl ⟨rfl, rfl, by unfold inf; omega⟩⟩
      unfold at' put
      rw [if_neg (by omega), if_neg (by omega)]
      simp
  | true =>
    have e : rk (put true p) = -(p : Int) := by unfold rk put; simp; omega
    rw [e, if_neg (by omega)]
    by_cases h1 : p = 1
    · rw [if_pos (by omega)]
      exact ⟨true, 0, rfl, .inr (.inr (.inl ⟨rfl, h1⟩))⟩
    rw [if_neg (by omega)]
    by_cases h0 : p = 0
    · refine ⟨false, 1, ?_, .inr (.inr (.inr ⟨rfl, rfl, h0⟩))⟩
      rw [h0]
      rfl
    · refine ⟨true, p - 1, ?_, .inr (.inr (.inl ⟨rfl, by omega⟩))⟩
      unfold at' put
      rw [if_neg (by omega), if_pos (by omega)]
      simp
      omega
theorem neg_put {s : Bool} {p : Nat} (hp : p ≤ inf) : neg (put s p) = put (!s) p := by
  unfold inf at hp
  unfold neg put
  cases s <;> simp <;> omega
theorem beside_le {s r : Bool} {p q : Nat} (hp : p ≤ inf) (h : Beside s p r q) : q ≤ inf := by
  unfold Beside at h
  unfold inf at *
  omega
theorem down_put {s : Bool} {p : Nat} (hp : p ≤ inf) : ∃ r q, down (put s p) = put r q ∧ Beside s p r q := by
  obtain ⟨r, q, h1, h2⟩ := upd_put (s := !s) hp
  have hn : ¬ nan (put s p) := by unfold inf at hp; unfold nan put; cases s <;> simp <;> omega
  refine ⟨!r, q, ?_, ?_⟩
  · unfold down
    rw [if_neg hn, neg_put hp, h1, neg_put (beside_le hp h2)]
  · unfold Beside at *
    rcases h2 with ⟨a, b⟩ | ⟨a, b⟩ | ⟨a, b⟩ | ⟨a, b⟩
    · exact .inl ⟨by rw [a]; simp, b⟩
    · exact .inr (.inl ⟨by rw [a]; simp, b⟩)
    · exact .inr (.inr (.inl ⟨by rw [a]; simp, b⟩))
    · exact .inr (.inr (.inr ⟨by rw [a]; simp, b⟩))
/-- How far v is from a double times M. -/
def gap (bv : Bool) (V : Nat) (r bm : Bool) (q M : Nat) : Nat := (sv bv V - sv (r != bm) (uni q * M)).natAbs
theorem gap_beside {bv bm s r : Bool} {V M p q : Nat} (h : Near p V M) (hM : 0 < M) (hs : V ≠ 0 → bv = (s != bm)) (hb : Beside s p r q) :
    gap bv V s bm p M ≤ gap bv V r bm q M ∧ (gap bv V s bm p M = gap bv V r bm q M → p % 2 = 0) := by
  by_cases hV : V = 0
  · subst hV
    have hp : p = 0 := near_unique hM hM h (near_zero (X := 0) (Y := M) (by omega)) (by omega)
    subst hp
    have e0 : gap bv 0 s bm 0 M = 0 := by unfold gap; rw [uni_zero, Nat.zero_mul, sv_zero, sv_zero]; rfl
    rw [e0]
    exact ⟨Nat.zero_le _, fun _ => rfl⟩
  · have hbv := hs hV
    have same : ∀ q, gap bv V s bm q M = ((V : Int) - ((uni q * M : Nat) : Int)).natAbs := by
      intro q
      unfold gap
      rw [← hbv]
      generalize uni q * M = x
      unfold sv
      cases bv <;> simp <;> omega
    rcases hb with ⟨rfl, rfl, hlt⟩ | ⟨rfl, rfl, hi⟩ | ⟨rfl, rfl⟩ | ⟨rfl, rfl, rfl⟩
    · rw [same, same]
      have h1 := h.hi hlt
      have h2 := h.hie hlt
      have h3 := Nat.mul_lt_mul_of_pos_right (uni_lt p) hM
      rw [Nat.add_mul] at h1 h2
      generalize uni p * M = x at *
      generalize uni (p + 1) * M = y at *
      exact ⟨by omega, fun e => h2 (by omega)⟩
    · exact ⟨Nat.le_refl _, fun _ => by rw [hi]; rfl⟩
    · rw [same, same]
      have h1 := h.lo (by omega)
      have h2 := h.loe (by omega)
      rw [Nat.add_sub_cancel] at h1 h2
      have h3 := Nat.mul_lt_mul_of_pos_right (uni_lt q) hM
      rw [Nat.add_mul] at h1 h2
      generalize uni q * M = x at *
      generalize uni (q + 1) * M = y at *
      exact ⟨by omega, fun e => h2 (by omega)⟩
    · have e1 : gap bv V (!s) bm 1 M = V + M := by
        unfold gap
        have : ((!s) != bm) = !bv := by rw [hbv]; cases s <;> cases bm <;> rfl
        rw [this, uni_one, Nat.one_mul, sv_not]
        unfold sv
        cases bv <;> simp <;> omega
      rw [same, e1, uni_zero, Nat.zero_mul]
      exact ⟨by omega, fun e => by omega⟩
theorem gap_ev {bv bm r : Bool} {V M q : Nat} (hq : q ≤ inf) (hB : V + uni inf * M < B 4096) (hM : 0 < M) {β : Type} {f : Nat → Nat → Nat → List Int → Option β} {z : β} (h : Ev (fun k i j => f k i j (lim (gap bv V r bm q M))) z) :
    Ev (fun k i j => (abacuslaw05_units.f k (put r q)).bind fun u => (abacuslaw05_times.f k u.1 u.2 bm (lim M)).bind fun t => (abacuslaw05_apart.f k bv (lim V) t.1 t.2).bind fun g => f k i j g) z := by
  have h1 : uni q * M ≤ uni inf * M := Nat.mul_le_mul_right _ (uni_mono hq)
  have h2 : uni q * M < B 4096 := by omega
  have h3 : uni q < B 4096 := Nat.lt_of_le_of_lt (Nat.le_mul_of_pos_right _ hM) h2
  have h4 : M ≤ uni inf * M := Nat.le_mul_of_pos_left _ (by have := uni_smono (show 0 < inf by unfold inf; omega); rw [uni_zero] at this; exact this)
  exact Ev.bind (units_any hq) (Ev.bind (times_ev h2 h3 (by omega)) (Ev.bind (apart_ev (by omega)) h))
theorem nearest_ev {bv bm s : Bool} {V M p : Nat} (h : Near p V M) (hM : 0 < M) (hs : V ≠ 0 → bv = (s != bm)) (hB : V + uni inf * M < B 4096) : Ev (fun k _ _ => abacuslaw05_nearest.f k bv (lim V) (put s p) bm (lim M)) true := by
  have hp := h.top
  obtain ⟨u1, u2, u3⟩ := put_U (s := s) hp
  obtain ⟨r1, q1, e1, b1⟩ := upd_put (s := s) hp
  obtain ⟨r2, q2, e2, b2⟩ := down_put (s := s) hp
  have k1 := beside_le hp b1
  have k2 := beside_le hp b2
  have g1 := gap_beside h hM hs b1
  have g2 := gap_beside h hM hs b2
  have hup := Up_ev u1
  have hdn := Down_ev u1
  rw [e1] at hup
  rw [e2] at hdn
  have gB : ∀ {r q}, q ≤ inf → gap bv V r bm q M < B 4096 := by
    intro r q hq
    have h1 : uni q * M ≤ uni inf * M := Nat.mul_le_mul_right _ (uni_mono hq)
    have h2 : gap bv V r bm q M ≤ V + uni q * M := by
      unfold gap
      have := Int.natAbs_sub_le (sv bv V) (sv (r != bm) (uni q * M))
      rwa [sv_abs, sv_abs] at this
    omega
  have c1 := cmp_lim (gB (r := s) hp) (gB (r := r1) k1)
  have c2 := cmp_lim (gB (r := s) hp) (gB (r := r2) k2)
  have hodd : decide (Go.bits .and .u64 (put s p) 1 = 0) = decide (p % 2 = 0) := by
    rw [bit_last u1]
    have : put s p % 2 = ((p % 2 : Nat) : Int) := by unfold put; cases s <;> simp <;> omega
    rw [this]
    exact decide_eq_decide.2 (by omega)
  simp only [abacuslaw05_nearest.f, abacuslaw05_nearest.b0, ln_eq]
  refine Ev_neg ?_ ?_
  · rw [bit_abs u1]
    unfold plc at u2
    unfold inf at hp
    omega
  refine gap_ev hp hB hM (Ev.bind hup (gap_ev k1 hB hM (Ev.bind hdn (gap_ev k2 hB hM (Ev.bind c1 ?_)))))
  simp only [abacuslaw05_nearest.l127, abacuslaw05_nearest.b127]
  refine Ev.bind c2 ?_
  clear hB gB c1 c2
  rw [hodd]
  generalize gap bv V s bm p M = x at *
  generalize gap bv V r1 bm q1 M = y at *
  generalize gap bv V r2 bm q2 M = z at *
  have p1 := cmp_pos x y
  have p2 := cmp_pos x z
  have n1 := cmp_neg x y
  have n2 := cmp_neg x z
  refine Ev_neg (by omega) (Ev_neg (by omega) ?_)
  by_cases h1 : x < y
  · refine Ev_pos (n1.2 h1) ?_
    by_cases h2 : x < z
    · exact Ev_pos (n2.2 h2) (Ev_some rfl)
    · exact Ev_neg (fun hh => h2 (n2.1 hh)) (Ev_some (decide_eq_true (g2.2 (by omega))))
  · exact Ev_neg (fun hh => h1 (n1.1 hh)) (Ev_some (decide_eq_true (g1.2 (by omega))))
end Go.Proofs.YtcdnoklokoplaaaDoor.SoftNear1
