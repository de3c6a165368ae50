/- What Add, Mul, Div and Fma of soft answer of all doubles. No conditions. -/
import Derived.Test.YtogkhfalgiajkaaDoorQSoftDiv
namespace Go.Proofs.YtogkhfalgiajkaaDoor.SoftTot
open Go.RowKit Go.Proofs.YtogkhfalgiajkaaDoor.Lib Go.Proofs.YtogkhfalgiajkaaDoor.LibB Go.Proofs.YtogkhfalgiajkaaDoor.F Go.Proofs.YtogkhfalgiajkaaDoor.Nat1 Go.Proofs.YtogkhfalgiajkaaDoor.Nat2 Go.Proofs.YtogkhfalgiajkaaDoor.Bits Go.Proofs.YtogkhfalgiajkaaDoor.Ieee1 Go.Proofs.YtogkhfalgiajkaaDoor.Mag Go.Proofs.YtogkhfalgiajkaaDoor.Ieee2 Go.Proofs.YtogkhfalgiajkaaDoor.Soft1 Go.Proofs.YtogkhfalgiajkaaDoor.Soft2 Go.Proofs.YtogkhfalgiajkaaDoor.SoftDiv Go.Proofs.YtogkhfalgiajkaaDoor.Rnd
open Go.Proofs.YtogkhfalgiajkaaDoorA (rd ln ln_eq mx mn shl shr wr wr_eq)
set_option linter.unusedVariables false
set_option linter.unusedSimpArgs false
theorem cls_five (d : Int) : cls d = 0 ∨ cls d = 1 ∨ cls d = 2 ∨ cls d = 3 ∨ cls d = 4 := by
  unfold cls; repeat' split
  all_goals omega
theorem fin_cls {d : Int} : fin d ↔ cls d ≠ 3 ∧ cls d ≠ 4 := by
  have h := cls_fin (d := d)
  have h5 := cls_five d
  constructor
  · exact cls_lt
  · intro h1
    rcases Decidable.em (fin d) with h2 | h2
    · exact h2
    · have := h.2 h2; omega
theorem withSign_inf (s : Bool) : soft_withSign.f s 9218868437227405312 = some (put s inf) := by
  cases s <;> rfl
theorem inf_put {d : Int} (h : U d) (hc : cls d = 3) : d = put (sgn d) inf ∧ plc d = inf := by
  have hp : d % 9223372036854775808 = 9218868437227405312 := by
    unfold cls at hc
    repeat' split at hc
    all_goals omega
  have h1 := h.1
  have h2 := h.2
  constructor
  · unfold put sgn inf
    by_cases hs : d < 9223372036854775808
    · simp [hs]; omega
    · simp [hs]; omega
  · unfold plc inf
    rw [hp]; rfl
theorem plc_put {d : Int} (h : U d) (hn : cls d ≠ 4) : d = put (sgn d) (plc d) ∧ plc d ≤ inf := by
  have h1 := h.1
  have h2 := h.2
  have hp : d % 9223372036854775808 ≤ 9218868437227405312 := by
    unfold cls at hn
    repeat' split at hn
    all_goals omega
  constructor
  · unfold put sgn plc
    by_cases hs : d < 9223372036854775808
    · simp [hs]; omega
    · simp [hs]; omega
  · unfold plc inf; omega
theorem put_inj {s t : Bool} {p q : Nat} (hp : p ≤ inf) (hq : q ≤ inf) (h : put s p = put t q) : s = t ∧ p = q := by
  obtain ⟨_, h2, h3⟩ := put_U (s := s) hp
  obtain ⟨_, k2, k3⟩ := put_U (s := t) hq
  exact ⟨by rw [← h3, h, k3], by rw [← h2, h, k2]⟩
theorem rd_unique {d d' v : Int} {z : Bool} (h : Rd d v z) (k : Rd d' v z) : d = d' := by
  obtain ⟨s, p, rfl, h1, h2, h3⟩ := h
  obtain ⟨t, q, rfl, k1, k2, k3⟩ := k
  obtain rfl := near_unique (by omega) (by omega) h1 k1 rfl
  by_cases hv : v = 0
  · rw [h3 hv, k3 hv]
  · rw [h2 hv, k2 hv]
theorem rdm_unique {d d' v : Int} {M : Nat} {z : Bool} (hM : 0 < M) (h : RdM d v M z) (k : RdM d' v M z) : d = d' := by
  obtain ⟨s, p, rfl, h1, h2, h3⟩ := h
  obtain ⟨t, q, rfl, k1, k2, k3⟩ := k
  obtain rfl := near_unique hM hM h1 k1 rfl
  by_cases hv : v = 0
  · rw [h3 hv, k3 hv]
  · rw [h2 hv, k2 hv]
/-- a + b. -/
def AddR (a b d : Int) : Prop :=
  if cls a = 4 ∨ cls b = 4 then d = 9221120237041090560 else if cls a = 3 ∧ cls b = 3 ∧ sgn a ≠ sgn b then d = 9221120237041090560
  else if cls a = 3 then d = a else if cls b = 3 then d = b else Rd d (sval a + sval b) (sgn a && sgn b)
theorem AddR.unique {a b d d' : Int} (h : AddR a b d) (k : AddR a b d') : d = d' := by
  unfold AddR at h k
  by_cases h1 : cls a = 4 ∨ cls b = 4
  · rw [if_pos h1] at h k; rw [h, k]
  rw [if_neg h1] at h k
  by_cases h2 : cls a = 3 ∧ cls b = 3 ∧ sgn a ≠ sgn b
  · rw [if_pos h2] at h k; rw [h, k]
  rw [if_neg h2] at h k
  by_cases h3 : cls a = 3
  · rw [if_pos h3] at h k; rw [h, k]
  rw [if_neg h3] at h k
  by_cases h4 : cls b = 3
  · rw [if_pos h4] at h k; rw [h, k]
  rw [if_neg h4] at h k
  exact rd_unique h k
/-- a * b. -/
def MulR (K : Nat) (a b d : Int) : Prop :=
  if cls a = 4 ∨ cls b = 4 then d = 9221120237041090560 else if (cls a = 3 ∧ cls b = 0) ∨ (cls a = 0 ∧ cls b = 3) then d = 9221120237041090560
  else ∃ p, d = put (sgn a != sgn b) p ∧ (if cls a = 3 ∨ cls b = 3 then p = inf else Near p (uni (plc a) * uni (plc b)) (2 ^ K))
theorem MulR.unique {K : Nat} {a b d d' : Int} (h : MulR K a b d) (k : MulR K a b d') : d = d' := by
  unfold MulR at h k
  by_cases h1 : cls a = 4 ∨ cls b = 4
  · rw [if_pos h1] at h k; rw [h, k]
  rw [if_neg h1] at h k
  by_cases h2 : (cls a = 3 ∧ cls b = 0) ∨ (cls a = 0 ∧ cls b = 3)
  · rw [if_pos h2] at h k; rw [h, k]
  rw [if_neg h2] at h k
  obtain ⟨p, rfl, hp⟩ := h
  obtain ⟨q, rfl, hq⟩ := k
  by_cases h3 : cls a = 3 ∨ cls b = 3
  · rw [if_pos h3] at hp hq; rw [hp, hq]
  · rw [if_neg h3] at hp hq
    rw [near_unique (Nat.pow_pos (by omega)) (Nat.pow_pos (by omega)) hp hq rfl]
theorem prod_sign {s t : Bool} {x y : Nat} {M : Nat} {d : Int} (h : RdM d (sv s x * sv t y) M (s != t)) : ∃ p, d = put (s != t) p ∧ Near p (x * y) M := by
  obtain ⟨r, p, rfl, h1, h2, h3⟩ := h
  rw [sv_prod, sv_abs] at h1
  refine ⟨p, ?_, h1⟩
  congr 1
  rw [sv_prod] at h2 h3
  by_cases h0 : sv (s != t) (x * y) = 0
  · exact h3 h0
  · rw [h2 h0]
    generalize (s != t) = r at *
    generalize x * y = q at *
    cases r <;> simp [sv] at h0 ⊢ <;> omega
/-- a / b. -/
def DivR (K : Nat) (a b d : Int) : Prop :=
  if cls a = 4 ∨ cls b = 4 then d = 9221120237041090560 else if cls a = cls b ∧ (cls a = 3 ∨ cls a = 0) then d = 9221120237041090560
  else ∃ p, d = put (sgn a != sgn b) p ∧ (if cls a = 3 ∨ cls b = 0 then p = inf else if cls a = 0 ∨ cls b = 3 then p = 0 else Near p (uni (plc a) * 2 ^ K) (uni (plc b)))
theorem DivR.unique {K : Nat} {a b d d' : Int} (h : DivR K a b d) (k : DivR K a b d') : d = d' := by
  unfold DivR at h k
  by_cases h1 : cls a = 4 ∨ cls b = 4
  · rw [if_pos h1] at h k; rw [h, k]
  rw [if_neg h1] at h k
  by_cases h2 : cls a = cls b ∧ (cls a = 3 ∨ cls a = 0)
  · rw [if_pos h2] at h k; rw [h, k]
  rw [if_neg h2] at h k
  obtain ⟨p, rfl, hp⟩ := h
  obtain ⟨q, rfl, hq⟩ := k
  by_cases h3 : cls a = 3 ∨ cls b = 0
  · rw [if_pos h3] at hp hq; rw [hp, hq]
  · rw [if_neg h3] at hp hq
    by_cases h4 : cls a = 0 ∨ cls b = 3
    · rw [if_pos h4] at hp hq; rw [hp, hq]
    · rw [if_neg h4] at hp hq
      have hb : 0 < uni (plc b) := by
        have hb0 : plc b ≠ 0 := fun h => h3 (.inr (cls_zero.2 h))
        have := uni_smono (show 0 < plc b by omega)
        rw [uni_zero] at this; exact this
      rw [near_unique hb hb hp hq rfl]
/-- a * b + c, rounded once. -/
def FmaR (K : Nat) (a b c d : Int) : Prop :=
  if cls a = 4 ∨ cls b = 4 ∨ cls c = 4 then d = 9221120237041090560 else if (cls a = 3 ∧ cls b = 0) ∨ (cls a = 0 ∧ cls b = 3) then d = 9221120237041090560
  else if (cls a = 3 ∨ cls b = 3) ∧ cls c = 3 ∧ sgn c ≠ (sgn a != sgn b) then d = 9221120237041090560
  else if cls a = 3 ∨ cls b = 3 then d = put (sgn a != sgn b) inf else if cls c = 3 then d = c
  else RdM d (sval a * sval b + sval c * ((2 ^ K : Nat) : Int)) (2 ^ K) ((sgn a != sgn b) && sgn c)
theorem FmaR.unique {K : Nat} {a b c d d' : Int} (h : FmaR K a b c d) (k : FmaR K a b c d') : d = d' := by
  unfold FmaR at h k
  by_cases h1 : cls a = 4 ∨ cls b = 4 ∨ cls c = 4
  · rw [if_pos h1] at h k; rw [h, k]
  rw [if_neg h1] at h k
  by_cases h2 : (cls a = 3 ∧ cls b = 0) ∨ (cls a = 0 ∧ cls b = 3)
  · rw [if_pos h2] at h k; rw [h, k]
  rw [if_neg h2] at h k
  by_cases h3 : (cls a = 3 ∨ cls b = 3) ∧ cls c = 3 ∧ sgn c ≠ (sgn a != sgn b)
  · rw [if_pos h3] at h k; rw [h, k]
  rw [if_neg h3] at h k
  by_cases h4 : cls a = 3 ∨ cls b = 3
  · rw [if_pos h4] at h k; rw [h, k]
  rw [if_neg h4] at h k
  by_cases h5 : cls c = 3
  · rw [if_pos h5] at h k; rw [h, k]
  rw [if_neg h5] at h k
  exact rdm_unique (Nat.pow_pos (by omega)) h k
theorem fma_tot {a b c : Int} {K : Nat} (hK : K = 1074) (ha : U a) (hb : U b) (hc : U c) : ∃ d f, Ev (fun k _ _ => soft_fma.f k a b c) (d, f) ∧ FmaR K a b c d := by
  -- the head: whether a or b is an infinity
  have head : ∀ (w : Bool) d f, w = decide (cls a = 3 ∨ cls b = 3) → Ev (fun k _ _ => soft_fma.l15 k c w (sgn a) (cls a) (manOf a) (expOf a) (sgn b) (cls b) (manOf b) (expOf b) (sgn c) (cls c) (manOf c) (expOf c)) (d, f) → Ev (fun k _ _ => soft_fma.f k a b c) (d, f) := by
    intro w d f hw h
    simp only [soft_fma.f, soft_fma.b0]
    refine Ev_bind_eq (Decode_eq ha) (Ev_bind_eq (Decode_eq hb) (Ev_bind_eq (Decode_eq hc) ?_))
    dsimp only
    by_cases ia : cls a = 3
    · rw [hw, decide_eq_true (.inl ia)] at h
      exact Ev_pos ia h
    · rw [hw, show decide (cls a = 3 ∨ cls b = 3) = decide (cls b = 3) from decide_eq_decide.2 ⟨fun h => h.resolve_left ia, .inr⟩] at h
      exact Ev_neg ia h
  by_cases na : cls a = 4
  · exact ⟨9221120237041090560, 0, head _ _ _ rfl (by simp only [soft_fma.l15, soft_fma.b15]; exact Ev_pos na (Ev_some rfl)), by unfold FmaR; rw [if_pos (.inl na)]⟩
  by_cases nb : cls b = 4
  · exact ⟨9221120237041090560, 0, head _ _ _ rfl (by simp only [soft_fma.l15, soft_fma.b15]; exact Ev_neg na (Ev_pos nb (Ev_some rfl))), by unfold FmaR; rw [if_pos (.inr (.inl nb))]⟩
  by_cases nc : cls c = 4
  · exact ⟨9221120237041090560, 0, head _ _ _ rfl (by simp only [soft_fma.l15, soft_fma.b15]; exact Ev_neg na (Ev_neg nb (Ev_pos nc (Ev_some rfl)))), by unfold FmaR; rw [if_pos (.inr (.inr nc))]⟩
  have hR : ∀ d, (if (cls a = 3 ∧ cls b = 0) ∨ (cls a = 0 ∧ cls b = 3) then d = 9221120237041090560
      else if (cls a = 3 ∨ cls b = 3) ∧ cls c = 3 ∧ sgn c ≠ (sgn a != sgn b) then d = 9221120237041090560
      else if cls a = 3 ∨ cls b = 3 then d = put (sgn a != sgn b) inf else if cls c = 3 then d = c
      else RdM d (sval a * sval b + sval c * ((2 ^ K : Nat) : Int)) (2 ^ K) ((sgn a != sgn b) && sgn c)) → FmaR K a b c d := by
    intro d h
    unfold FmaR
    rw [if_neg (by rintro (h | h | h); exact na h; exact nb h; exact nc h)]
    exact h
  by_cases wild : cls a = 3 ∨ cls b = 3
  · have hw : true = decide (cls a = 3 ∨ cls b = 3) := (decide_eq_true wild).symm
    by_cases za : cls a = 0
    · refine ⟨9221120237041090560, 1, head true _ _ hw (by simp only [soft_fma.l15, soft_fma.b15]; exact Ev_neg na (Ev_neg nb (Ev_neg nc (Ev_pos (by simp) (Ev_pos za (Ev_bind_eq rfl (Ev_some rfl))))))), hR _ ?_⟩
      rw [if_pos (.inr ⟨za, by omega⟩)]
    by_cases zb : cls b = 0
    · refine ⟨9221120237041090560, 1, head true _ _ hw (by simp only [soft_fma.l15, soft_fma.b15]; exact Ev_neg na (Ev_neg nb (Ev_neg nc (Ev_pos (by simp) (Ev_neg za (Ev_pos zb (Ev_bind_eq rfl (Ev_some rfl)))))))), hR _ ?_⟩
      rw [if_pos (.inl ⟨by omega, zb⟩)]
    have nz : ¬ ((cls a = 3 ∧ cls b = 0) ∨ (cls a = 0 ∧ cls b = 3)) := by omega
    by_cases ic : cls c = 3
    · by_cases hs : sgn c = (sgn a != sgn b)
      · refine ⟨put (sgn a != sgn b) inf, 0, head true _ _ hw (by simp only [soft_fma.l15, soft_fma.b15, soft_fma.l3999, soft_fma.b3999]; exact Ev_neg na (Ev_neg nb (Ev_neg nc (Ev_pos (by simp) (Ev_neg za (Ev_neg zb (Ev_pos (by simp) (Ev_pos ic (Ev_neg (by rw [hs]; simp) (Ev_pos (by simp) (Ev_bind_eq (withSign_inf _) (Ev_some rfl)))))))))))), hR _ ?_⟩
        rw [if_neg nz, if_neg (fun h => h.2.2 hs), if_pos wild]
      · refine ⟨9221120237041090560, 1, head true _ _ hw (by simp only [soft_fma.l15, soft_fma.b15, soft_fma.l3999, soft_fma.b3999]; exact Ev_neg na (Ev_neg nb (Ev_neg nc (Ev_pos (by simp) (Ev_neg za (Ev_neg zb (Ev_pos (by simp) (Ev_pos ic (Ev_pos (by simpa using hs) (Ev_bind_eq rfl (Ev_some rfl))))))))))), hR _ ?_⟩
        rw [if_neg nz, if_pos ⟨wild, ic, hs⟩]
    · refine ⟨put (sgn a != sgn b) inf, 0, head true _ _ hw (by simp only [soft_fma.l15, soft_fma.b15, soft_fma.l3999, soft_fma.b3999]; exact Ev_neg na (Ev_neg nb (Ev_neg nc (Ev_pos (by simp) (Ev_neg za (Ev_neg zb (Ev_pos (by simp) (Ev_neg ic (Ev_neg (by simp) (Ev_pos (by simp) (Ev_bind_eq (withSign_inf _) (Ev_some rfl)))))))))))), hR _ ?_⟩
      rw [if_neg nz, if_neg (fun h => ic h.2.1), if_pos wild]
  · have hw : false = decide (cls a = 3 ∨ cls b = 3) := (decide_eq_false wild).symm
    have nz : ¬ ((cls a = 3 ∧ cls b = 0) ∨ (cls a = 0 ∧ cls b = 3)) := by omega
    by_cases ic : cls c = 3
    · refine ⟨c, 0, head false _ _ hw (by simp only [soft_fma.l15, soft_fma.b15, soft_fma.l3999, soft_fma.b3999]; exact Ev_neg na (Ev_neg nb (Ev_neg nc (Ev_neg (by simp) (Ev_neg (by simp) (Ev_neg (by simp) (Ev_neg (by simp) (Ev_pos ic (Ev_some rfl)))))))) ), hR _ ?_⟩
      rw [if_neg nz, if_neg (fun h => wild h.1), if_neg wild, if_pos ic]
    · obtain ⟨d, f, h1, h2⟩ := fma_ev hK ha hb hc (fin_cls.2 ⟨by omega, na⟩) (fin_cls.2 ⟨by omega, nb⟩) (fin_cls.2 ⟨ic, nc⟩)
      refine ⟨d, f, h1, hR _ ?_⟩
      rw [if_neg nz, if_neg (fun h => wild h.1), if_neg wild, if_neg ic]
      exact h2
theorem Fma_tot {a b c : Int} {K : Nat} (hK : K = 1074) (ha : U a) (hb : U b) (hc : U c) : ∃ d, Ev (fun k _ _ => soft_Fma.f k a b c) d ∧ FmaR K a b c d := by
  obtain ⟨d, f, h1, h2⟩ := fma_tot hK ha hb hc
  refine ⟨d, ?_, h2⟩
  simp only [soft_Fma.f, soft_Fma.b0, ln_eq]
  exact Ev.bind h1 (Ev_some rfl)
end Go.Proofs.YtogkhfalgiajkaaDoor.SoftTot
