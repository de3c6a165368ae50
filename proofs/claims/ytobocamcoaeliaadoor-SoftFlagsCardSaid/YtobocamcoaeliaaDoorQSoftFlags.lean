/- Told answers what the operation's own function answers; its flags by whole numbers: for every input. No conditions. -/
import Derived.Test.YtobocamcoaeliaaDoorQSoftFlSq
namespace Go.Proofs.YtobocamcoaeliaaDoor.Pure
open Go.RowKit Go.Proofs.YtobocamcoaeliaaDoor.Lib Go.Proofs.YtobocamcoaeliaaDoor.LibB Go.Proofs.YtobocamcoaeliaaDoor.F Go.Proofs.YtobocamcoaeliaaDoor.Nat1 Go.Proofs.YtobocamcoaeliaaDoor.Nat2 Go.Proofs.YtobocamcoaeliaaDoor.Bits Go.Proofs.YtobocamcoaeliaaDoor.Ieee1 Go.Proofs.YtobocamcoaeliaaDoor.Mag Go.Proofs.YtobocamcoaeliaaDoor.Ieee2 Go.Proofs.YtobocamcoaeliaaDoor.Soft1 Go.Proofs.YtobocamcoaeliaaDoor.Soft2 Go.Proofs.YtobocamcoaeliaaDoor.SoftDiv Go.Proofs.YtobocamcoaeliaaDoor.SoftTot Go.Proofs.YtobocamcoaeliaaDoor.SoftFl Go.Proofs.YtobocamcoaeliaaDoor.Rnd
open Go.Proofs.YtobocamcoaeliaaDoorA (rd ln ln_eq mx mn shl shr wr wr_eq)
set_option linter.unusedVariables false
set_option linter.unusedSimpArgs false
theorem works_ev : Ev (fun k _ _ => abacuslaw05_works.f k) true := Ev_at 150 fun d => by kernel_rfl
theorem first_ev : Ev (fun k _ _ => soft_Told.f k 4 4607182418800017408 4613937818241073152 0) (4599676419421066581, 16, 0) := Ev_at 6000 fun d => by kernel_rfl
/-! ### the flags' range -/
def Rg (r : Int × Int) : Prop := 0 ≤ r.2 ∧ r.2 ≤ 31
theorem Ev.all {α : Type} {g : Nat → Option α} {r : α} {P : α → Prop} (h : Ev (fun k _ _ => g k) r) (hp : ∀ k r, g k = some r → P r) : P r := by
  obtain ⟨n, hn⟩ := h.rounds
  exact hp n r hn
theorem rg_mk {x k : Int} (h : 0 ≤ k ∧ k ≤ 31) : Rg (x, k) := h
theorem flags_rg {k : Nat} {b : Bool} {l m : List Int} {e d f : Int} (h : soft_fraction_flags.f k b l m e d = some f) : 0 ≤ f ∧ f ≤ 31 := by
  simp only [soft_fraction_flags.f, soft_fraction_flags.b0] at h
  obtain ⟨t1, _, h⟩ := Option.bind_eq_some_iff.1 h
  split at h
  · cases h; decide
  · obtain ⟨_, _, h⟩ := Option.bind_eq_some_iff.1 h
    obtain ⟨_, _, h⟩ := Option.bind_eq_some_iff.1 h
    obtain ⟨_, _, h⟩ := Option.bind_eq_some_iff.1 h
    obtain ⟨_, _, h⟩ := Option.bind_eq_some_iff.1 h
    split at h
    · cases h; decide
    · obtain ⟨_, _, h⟩ := Option.bind_eq_some_iff.1 h
      obtain ⟨_, _, h⟩ := Option.bind_eq_some_iff.1 h
      split at h
      · cases h; decide
      · cases h; decide
theorem rounded_rg {k : Nat} {b : Bool} {l : List Int} {e : Int} {r : Int × Int} (h : soft_term_rounded.f k b l e = some r) : Rg r := by
  simp only [soft_term_rounded.f, soft_term_rounded.b0] at h
  split at h
  · obtain ⟨_, _, h⟩ := Option.bind_eq_some_iff.1 h
    cases h; exact rg_mk (by decide)
  · obtain ⟨_, _, h⟩ := Option.bind_eq_some_iff.1 h
    obtain ⟨_, h2, h⟩ := Option.bind_eq_some_iff.1 h
    cases h; exact flags_rg h2
theorem inv_rg {r : Int × Int} (h : soft_invalid.f = some r) : Rg r := by
  simp only [soft_invalid.f, soft_invalid.b0] at h
  cases h; exact rg_mk (by decide)
theorem add_rg {k : Nat} {a b c : Int} {r : Int × Int} (h : soft_add.f k a b c = some r) : Rg r := by
  have tail : ∀ {x y : Int} {i s : Bool} {p q u : Int} {s' : Bool} {p' q' u' : Int} {r : Int × Int}, soft_add.l231 k x y i s p q u s' p' q' u' = some r → Rg r := by
    intro x y i s p q u s' p' q' u' r h
    simp only [soft_add.l231, soft_add.b231] at h
    split at h
    · obtain ⟨_, h2, h⟩ := Option.bind_eq_some_iff.1 h
      cases h; exact inv_rg h2
    · split at h
      · cases h; exact rg_mk (by decide)
      · split at h
        · cases h; exact rg_mk (by decide)
        · obtain ⟨_, _, h⟩ := Option.bind_eq_some_iff.1 h
          obtain ⟨_, _, h⟩ := Option.bind_eq_some_iff.1 h
          obtain ⟨_, _, h⟩ := Option.bind_eq_some_iff.1 h
          obtain ⟨_, h2, h⟩ := Option.bind_eq_some_iff.1 h
          cases h; exact rounded_rg h2
  simp only [soft_add.f, soft_add.b0] at h
  obtain ⟨_, _, h⟩ := Option.bind_eq_some_iff.1 h
  obtain ⟨_, _, h⟩ := Option.bind_eq_some_iff.1 h
  split at h
  · cases h; exact rg_mk (by decide)
  · split at h
    · cases h; exact rg_mk (by decide)
    · split at h
      · split at h <;> exact tail h
      · exact tail h
theorem sub_rg {k : Nat} {a b c : Int} {r : Int × Int} (h : soft_sub.f k a b c = some r) : Rg r := by
  simp only [soft_sub.f, soft_sub.b0] at h
  obtain ⟨_, _, h⟩ := Option.bind_eq_some_iff.1 h
  obtain ⟨_, h2, h⟩ := Option.bind_eq_some_iff.1 h
  cases h; exact add_rg h2
theorem mul_rg {k : Nat} {a b c : Int} {r : Int × Int} (h : soft_mul.f k a b c = some r) : Rg r := by
  have tail : ∀ {x i s : Bool} {p q u : Int} {s' : Bool} {p' q' u' : Int} {r : Int × Int}, soft_mul.l487 k x i s p q u s' p' q' u' = some r → Rg r := by
    intro x i s p q u s' p' q' u' r h
    simp only [soft_mul.l487, soft_mul.b487] at h
    split at h
    · obtain ⟨_, h2, h⟩ := Option.bind_eq_some_iff.1 h
      cases h; exact inv_rg h2
    · split at h
      · obtain ⟨_, _, h⟩ := Option.bind_eq_some_iff.1 h
        cases h; exact rg_mk (by decide)
      · split at h
        · obtain ⟨_, _, h⟩ := Option.bind_eq_some_iff.1 h
          cases h; exact rg_mk (by decide)
        · obtain ⟨_, _, h⟩ := Option.bind_eq_some_iff.1 h
          obtain ⟨_, h2, h⟩ := Option.bind_eq_some_iff.1 h
          cases h; exact rounded_rg h2
  simp only [soft_mul.f, soft_mul.b0] at h
  obtain ⟨_, _, h⟩ := Option.bind_eq_some_iff.1 h
  obtain ⟨_, _, h⟩ := Option.bind_eq_some_iff.1 h
  repeat' split at h
  all_goals first | (exact tail h) | (cases h; exact rg_mk (by decide))
theorem fma_rg {k : Nat} {a b c : Int} {r : Int × Int} (h : soft_fma.f k a b c = some r) : Rg r := by
  have tail2 : ∀ {c : Int} {x1 x2 x3 x4 : Bool} {x5 x6 x7 : Int} {x8 : Bool} {x9 x10 x11 : Int} {x12 : Bool} {x13 x14 x15 : Int} {r : Int × Int}, soft_fma.l3999 k c x1 x2 x3 x4 x5 x6 x7 x8 x9 x10 x11 x12 x13 x14 x15 = some r → Rg r := by
    intro c x1 x2 x3 x4 x5 x6 x7 x8 x9 x10 x11 x12 x13 x14 x15 r h
    simp only [soft_fma.l3999, soft_fma.b3999] at h
    split at h
    · obtain ⟨_, h2, h⟩ := Option.bind_eq_some_iff.1 h
      cases h; exact inv_rg h2
    · split at h
      · obtain ⟨_, _, h⟩ := Option.bind_eq_some_iff.1 h
        cases h; exact rg_mk (by decide)
      · split at h
        · cases h; exact rg_mk (by decide)
        · obtain ⟨_, _, h⟩ := Option.bind_eq_some_iff.1 h
          obtain ⟨_, _, h⟩ := Option.bind_eq_some_iff.1 h
          obtain ⟨_, _, h⟩ := Option.bind_eq_some_iff.1 h
          obtain ⟨_, h2, h⟩ := Option.bind_eq_some_iff.1 h
          cases h; exact rounded_rg h2
  have tail : ∀ {c : Int} {x1 x2 : Bool} {x3 x4 x5 : Int} {x6 : Bool} {x7 x8 x9 : Int} {x10 : Bool} {x11 x12 x13 : Int} {r : Int × Int}, soft_fma.l15 k c x1 x2 x3 x4 x5 x6 x7 x8 x9 x10 x11 x12 x13 = some r → Rg r := by
    intro c x1 x2 x3 x4 x5 x6 x7 x8 x9 x10 x11 x12 x13 r h
    simp only [soft_fma.l15, soft_fma.b15] at h
    have inv : ∀ {r : Int × Int}, (soft_invalid.f.bind fun t1 => some (t1.1, t1.2)) = some r → Rg r := by
      intro r h
      obtain ⟨_, h2, h⟩ := Option.bind_eq_some_iff.1 h
      cases h; exact inv_rg h2
    repeat' split at h
    all_goals first | (exact tail2 h) | (exact inv h) | (cases h; exact rg_mk (by decide))
  simp only [soft_fma.f, soft_fma.b0] at h
  obtain ⟨_, _, h⟩ := Option.bind_eq_some_iff.1 h
  obtain ⟨_, _, h⟩ := Option.bind_eq_some_iff.1 h
  obtain ⟨_, _, h⟩ := Option.bind_eq_some_iff.1 h
  split at h <;> exact tail h
theorem div_rg {k : Nat} {a b c : Int} {r : Int × Int} (h : soft_div.f k a b c = some r) : Rg r := by
  have tail : ∀ {x s : Bool} {p q u : Int} {s' : Bool} {p' q' u' : Int} {r : Int × Int}, soft_div.l31 k x s p q u s' p' q' u' = some r → Rg r := by
    intro x s p q u s' p' q' u' r h
    simp only [soft_div.l31, soft_div.b31] at h
    obtain ⟨_, _, h⟩ := Option.bind_eq_some_iff.1 h
    obtain ⟨_, _, h⟩ := Option.bind_eq_some_iff.1 h
    obtain ⟨_, _, h⟩ := Option.bind_eq_some_iff.1 h
    obtain ⟨_, h2, h⟩ := Option.bind_eq_some_iff.1 h
    cases h; exact flags_rg h2
  have inv : ∀ {r : Int × Int}, (soft_invalid.f.bind fun t1 => some (t1.1, t1.2)) = some r → Rg r := by
    intro r h
    obtain ⟨_, h2, h⟩ := Option.bind_eq_some_iff.1 h
    cases h; exact inv_rg h2
  have ws : ∀ {s : Bool} {x f : Int} {r : Int × Int}, 0 ≤ f ∧ f ≤ 31 → ((soft_withSign.f s x).bind fun t => some (t, f)) = some r → Rg r := by
    intro s x f r hf h
    obtain ⟨_, _, h⟩ := Option.bind_eq_some_iff.1 h
    cases h; exact hf
  simp only [soft_div.f, soft_div.b0] at h
  obtain ⟨_, _, h⟩ := Option.bind_eq_some_iff.1 h
  obtain ⟨_, _, h⟩ := Option.bind_eq_some_iff.1 h
  repeat' split at h
  all_goals first | (exact tail h) | (exact inv h) | (exact ws (by decide) h) | (cases h; exact rg_mk (by decide))
theorem sqrt_rg {k : Nat} {a b c : Int} {r : Int × Int} (h : soft_sqrt.f k a b c = some r) : Rg r := by
  have tail : ∀ {u : Int} {s : Bool} {x y z : Int} {r : Int × Int}, soft_sqrt.l63 k u s x y z = some r → Rg r := by
    intro u s x y z r h
    simp only [soft_sqrt.l63, soft_sqrt.b63] at h
    obtain ⟨_, _, h⟩ := Option.bind_eq_some_iff.1 h
    obtain ⟨_, _, h⟩ := Option.bind_eq_some_iff.1 h
    obtain ⟨_, _, h⟩ := Option.bind_eq_some_iff.1 h
    obtain ⟨_, _, h⟩ := Option.bind_eq_some_iff.1 h
    split at h
    · obtain ⟨_, _, h⟩ := Option.bind_eq_some_iff.1 h
      obtain ⟨_, _, h⟩ := Option.bind_eq_some_iff.1 h
      split at h <;> (cases h; exact rg_mk (by decide))
    · cases h; exact rg_mk (by decide)
  have inv : ∀ {r : Int × Int}, (soft_invalid.f.bind fun t1 => some (t1.1, t1.2)) = some r → Rg r := by
    intro r h
    obtain ⟨_, h2, h⟩ := Option.bind_eq_some_iff.1 h
    cases h; exact inv_rg h2
  simp only [soft_sqrt.f, soft_sqrt.b0] at h
  obtain ⟨_, _, h⟩ := Option.bind_eq_some_iff.1 h
  repeat' split at h
  all_goals first | (exact tail h) | (exact inv h) | (cases h; exact rg_mk (by decide))
/-! ### one operation -/
/-- What the flags say: d infinite; exact; inexact, below 2^-1022; inexact. -/
def Kd (n d : Int) (e : Bool) : Prop := (n = 20 ∧ plc d = inf) ∨ (n = 0 ∧ plc d < inf ∧ e = true) ∨ (n = 24 ∧ plc d < inf ∧ e = false ∧ plc d ≤ 4503599627370496) ∨ (n = 16 ∧ plc d < inf ∧ e = false ∧ 4503599627370496 ≤ plc d)
theorem uni_min : uni 4503599627370496 = 4503599627370496 := by
  have := uni_at (k := 0) (c := 4503599627370496) (.inl rfl) (by decide)
  rwa [Nat.zero_mul, Nat.zero_add, Nat.pow_zero, Nat.mul_one] at this
theorem kd_of {X Y : Nat} {d : Int} {e : Bool} (hY : 0 < Y) (hn : Near (plc d) X Y) (he : e = true ↔ X = uni (plc d) * Y) : Kd (flg X Y d) d e := by
  unfold Kd flg
  have ht := hn.top
  have hm := near_exact (p := 4503599627370496) (Y := Y) hY (by decide)
  rw [uni_min] at hm
  by_cases h1 : plc d = inf
  · rw [if_pos h1]; exact .inl ⟨rfl, h1⟩
  · rw [if_neg h1]
    have hlt : plc d < inf := Nat.lt_of_le_of_ne ht h1
    by_cases h2 : X = uni (plc d) * Y
    · rw [if_pos h2]; exact .inr (.inl ⟨rfl, hlt, he.2 h2⟩)
    · have hef : e = false := by cases e with
        | false => rfl
        | true => exact absurd (he.1 rfl) h2
      rw [if_neg h2]
      by_cases h3 : X < 4503599627370496 * Y
      · rw [if_pos h3]
        exact .inr (.inr (.inl ⟨rfl, hlt, hef, near_mono hY hY hn hm (Nat.mul_le_mul_right _ (Nat.le_of_lt h3))⟩))
      · rw [if_neg h3]
        exact .inr (.inr (.inr ⟨rfl, hlt, hef, near_mono hY hY hm hn (Nat.mul_le_mul_right _ (Nat.le_of_not_lt h3))⟩))
theorem off_eq {d : Int} (h : U d) : Go.bits .andNot .u64 d 9223372036854775808 = (plc d : Int) := by
  rw [bit_abs h]; unfold plc; unfold U at h; omega
theorem bits_n {n : Int} (h : n = 20 ∨ n = 0 ∨ n = 24 ∨ n = 16) : Go.bits .and .i64 n 3 = 0 ∧ (Go.bits .and .i64 n 16 = 0 ↔ n = 0) ∧ (Go.bits .and .i64 n 4 = 0 ↔ n ≠ 20) ∧ (Go.bits .and .i64 n 8 = 0 ↔ n ≠ 24) := by
  rcases h with rfl | rfl | rfl | rfl <;> exact ⟨by decide, by decide, by decide, by decide⟩
theorem flag_tail {op n d a b c : Int} {e : Bool} (hd : U d) (hk : Kd n d e) (hx : Ev (fun k _ _ => abacuslaw05_exactly.f k op a b c d) e ∨ plc d = inf) (next : Ev (fun k m _ => abacuslaw05_SoftFlags.l245 k m (wrap64 (op + 1)) a b c) true) :
    Ev (fun k m _ => if Go.bits .andNot .u64 d 9223372036854775808 = 9218868437227405312 then abacuslaw05_SoftFlags.l62623 k (abacuslaw05_SoftFlags.l245 k m) op d n (decide (Go.bits .andNot .u64 d 9223372036854775808 = 9218868437227405312)) true a b c else (abacuslaw05_finite.f d).bind fun t4 => if (!t4) = true then abacuslaw05_SoftFlags.l62623 k (abacuslaw05_SoftFlags.l245 k m) op d n (decide (Go.bits .andNot .u64 d 9223372036854775808 = 9218868437227405312)) true a b c else (abacuslaw05_exactly.f k op a b c d).bind fun t5 => abacuslaw05_SoftFlags.l62623 k (abacuslaw05_SoftFlags.l245 k m) op d n (decide (Go.bits .andNot .u64 d 9223372036854775808 = 9218868437227405312)) (!t5) a b c) true := by
  have hb := off_eq hd
  have hinf : ((plc d : Int) = 9218868437227405312) ↔ plc d = inf := by unfold inf; omega
  have hn : n = 20 ∨ n = 0 ∨ n = 24 ∨ n = 16 := by rcases hk with h | h | h | h <;> simp [h.1]
  obtain ⟨b3, b16, b4, b8⟩ := bits_n hn
  -- the end of a round
  have fin' : ∀ i : Bool, (i = true ↔ n ≠ 0) → (n = 24 → (plc d : Int) ≤ 4503599627370496) → ((plc d : Int) < 4503599627370496 → i = true → n = 24) → Ev (fun k m _ => abacuslaw05_SoftFlags.l62623 k (abacuslaw05_SoftFlags.l245 k m) op d n (decide ((plc d : Int) = 9218868437227405312)) i a b c) true := by
    intro i hi h24 hlow
    simp only [abacuslaw05_SoftFlags.l62623, abacuslaw05_SoftFlags.b62623, abacuslaw05_SoftFlags.l250495, abacuslaw05_SoftFlags.b250495, hb, b3]
    have c1 : ¬ (decide (¬ Go.bits .and .i64 n 16 = 0) != i) = true := by
      have : decide (¬ Go.bits .and .i64 n 16 = 0) = i := by
        cases i with
        | true => exact decide_eq_true (fun h => hi.1 rfl (b16.1 h))
        | false => exact decide_eq_false (fun h => h (b16.2 (Decidable.byContradiction fun k => by have := hi.2 k; cases this)))
      rw [this]; simp
    have c2 : ¬ (decide (¬ Go.bits .and .i64 n 4 = 0) != decide ((plc d : Int) = 9218868437227405312)) = true := by
      have : decide (¬ Go.bits .and .i64 n 4 = 0) = decide ((plc d : Int) = 9218868437227405312) := by
        refine decide_eq_decide.2 ⟨fun h => ?_, fun h k => ?_⟩
        · have h20 : n = 20 := Decidable.byContradiction fun k => h (b4.2 k)
          rcases hk with k | k | k | k
          · exact hinf.2 k.2
          · omega
          · omega
          · omega
        · have := b4.1 k
          rcases hk with k | k | k | k
          · exact this k.1
          · exact absurd (hinf.1 h) (Nat.ne_of_lt k.2.1)
          · exact absurd (hinf.1 h) (Nat.ne_of_lt k.2.1)
          · exact absurd (hinf.1 h) (Nat.ne_of_lt k.2.1)
      rw [this]; simp
    refine Ev_neg c1 (Ev_neg c2 (Ev_neg (fun h => h trivial) ?_))
    have last : Ev (fun k m _ => if i = true then if (plc d : Int) < 4503599627370496 then if Go.bits .and .i64 n 8 = 0 then some false else abacuslaw05_SoftFlags.l245 k m (wrap64 (op + 1)) a b c else abacuslaw05_SoftFlags.l245 k m (wrap64 (op + 1)) a b c else abacuslaw05_SoftFlags.l245 k m (wrap64 (op + 1)) a b c) true := by
      by_cases h1 : i = true
      · refine Ev_pos h1 ?_
        by_cases h2 : (plc d : Int) < 4503599627370496
        · exact Ev_pos h2 (Ev_neg (fun h => b8.1 h (hlow h2 h1)) next)
        · exact Ev_neg h2 next
      · exact Ev_neg h1 next
    by_cases h8 : Go.bits .and .i64 n 8 = 0
    · exact Ev_neg (fun h => h h8) last
    · have h24' : n = 24 := Decidable.byContradiction fun k => h8 (b8.2 k)
      have hi2 : i = true := hi.2 (by omega)
      have := h24 h24'
      exact Ev_pos h8 (Ev_neg (by rw [hi2]; simp) (Ev_neg (by omega) last))
  rw [hb]
  rcases hk with ⟨hn0, hp⟩ | hk
  · exact Ev_pos (hinf.2 hp) (fin' true ⟨fun _ => by omega, fun _ => rfl⟩ (fun h => by omega) (fun h _ => by have := hinf.2 hp; omega))
  · have hlt : plc d < inf := by rcases hk with h | h | h <;> exact h.2.1
    have hx' := hx.resolve_right (Nat.ne_of_lt hlt)
    have hfi := finite_eq hd
    rw [decide_eq_true (plc_fin.2 hlt)] at hfi
    refine Ev_neg (fun h => absurd (hinf.1 h) (Nat.ne_of_lt hlt)) (Ev_bind_eq hfi (Ev_neg (by simp) (Ev.bind hx' ?_)))
    rcases hk with ⟨h1, _, h2⟩ | ⟨h1, _, h2, h3⟩ | ⟨h1, _, h2, h3⟩
    · subst h2
      exact fin' false ⟨fun h => (by cases h), fun h => absurd h1 h⟩ (fun h => by omega) (fun _ h => (by cases h))
    · subst h2
      exact fin' true ⟨fun _ => by omega, fun _ => rfl⟩ (fun _ => by omega) (fun _ _ => h1)
    · subst h2
      exact fin' true ⟨fun _ => by omega, fun _ => rfl⟩ (fun h => by omega) (fun h _ => by omega)
theorem step_ev {op op' d n a b c : Int} {u : Bool} (ho : wrap64 (op + 1) = op') (h6 : op ≤ 6) (hd : U d) (hT : Ev (fun k _ _ => soft_Told.f k op a b c) (d, n, 0)) (hO : Ev (fun k _ _ => abacuslaw05_own.f k op a b c) d) (hr : 0 ≤ n ∧ n ≤ 31) (hu : abacuslaw05_usual.f op a b c = some u)
    (hg : u = true → ∃ e, Kd n d e ∧ (Ev (fun k _ _ => abacuslaw05_exactly.f k op a b c d) e ∨ plc d = inf)) (next : Ev (fun k m _ => abacuslaw05_SoftFlags.l245 k m op' a b c) true) :
    Ev (fun k m _ => abacuslaw05_SoftFlags.l245 k m op a b c) true := by
  subst ho
  refine Ev_succ ?_
  simp only [abacuslaw05_SoftFlags.l245, abacuslaw05_SoftFlags.b245]
  refine Ev_pos h6 (Ev.bind hT (Ev_neg (fun h => h rfl) (Ev.bind hO (Ev_neg (fun h => h rfl) (Ev_neg (by dsimp only; omega) (Ev_neg (by dsimp only; omega) (Ev_bind_eq hu ?_)))))))
  cases u with
  | false => exact Ev_pos rfl next
  | true =>
    obtain ⟨e, h1, h2⟩ := hg rfl
    exact Ev_neg (by simp) (flag_tail hd h1 h2 next)
/-! ### which operands are usual -/
theorem addR_U {a b d : Int} (ha : U a) (hb : U b) (h : AddR a b d) : U d := by
  unfold AddR at h
  by_cases h1 : cls a = 4 ∨ cls b = 4
  · rw [if_pos h1] at h; subst h; exact ⟨by decide, by decide⟩
  rw [if_neg h1] at h
  by_cases h2 : cls a = 3 ∧ cls b = 3 ∧ sgn a ≠ sgn b
  · rw [if_pos h2] at h; subst h; exact ⟨by decide, by decide⟩
  rw [if_neg h2] at h
  by_cases h3 : cls a = 3
  · rw [if_pos h3] at h; subst h; exact ha
  rw [if_neg h3] at h
  by_cases h4 : cls b = 3
  · rw [if_pos h4] at h; subst h; exact hb
  rw [if_neg h4] at h
  obtain ⟨s, p, rfl, k1, _⟩ := h
  exact (put_U k1.top).1
theorem near_or_inf {c : Prop} [Decidable c] {p X Y : Nat} (h : if c then p = inf else Near p X Y) : p ≤ inf := by
  by_cases hc : c
  · rw [if_pos hc] at h; omega
  · rw [if_neg hc] at h; exact h.top
theorem mulR_U {K : Nat} {a b d : Int} (h : MulR K a b d) : U d := by
  unfold MulR at h
  by_cases h1 : cls a = 4 ∨ cls b = 4
  · rw [if_pos h1] at h; subst h; exact ⟨by decide, by decide⟩
  rw [if_neg h1] at h
  by_cases h2 : (cls a = 3 ∧ cls b = 0) ∨ (cls a = 0 ∧ cls b = 3)
  · rw [if_pos h2] at h; subst h; exact ⟨by decide, by decide⟩
  rw [if_neg h2] at h
  obtain ⟨p, rfl, h4⟩ := h
  exact (put_U (near_or_inf h4)).1
theorem divR_top {K : Nat} {a b : Int} {p : Nat} (h4 : if cls a = 3 ∨ cls b = 0 then p = inf else if cls a = 0 ∨ cls b = 3 then p = 0 else Near p (uni (plc a) * 2 ^ K) (uni (plc b))) : p ≤ inf := by
  by_cases h5 : cls a = 3 ∨ cls b = 0
  · rw [if_pos h5] at h4; omega
  rw [if_neg h5] at h4
  by_cases h6 : cls a = 0 ∨ cls b = 3
  · rw [if_pos h6] at h4; omega
  rw [if_neg h6] at h4; exact h4.top
theorem divR_U {K : Nat} {a b d : Int} (h : DivR K a b d) : U d := by
  unfold DivR at h
  by_cases h1 : cls a = 4 ∨ cls b = 4
  · rw [if_pos h1] at h; subst h; exact ⟨by decide, by decide⟩
  rw [if_neg h1] at h
  by_cases h2 : cls a = cls b ∧ (cls a = 3 ∨ cls a = 0)
  · rw [if_pos h2] at h; subst h; exact ⟨by decide, by decide⟩
  rw [if_neg h2] at h
  obtain ⟨p, rfl, h4⟩ := h
  exact (put_U (divR_top h4)).1
theorem fmaR_U {K : Nat} {a b c d : Int} (hc : U c) (h : FmaR K a b c d) : U d := by
  unfold FmaR at h
  repeat' split at h
  all_goals first | (subst h; exact ⟨by decide, by decide⟩) | (subst h; exact hc) | (subst h; exact (put_U (Nat.le_refl _)).1) | (obtain ⟨s, p, rfl, k1, _⟩ := h; exact (put_U k1.top).1)
theorem usual_two {op a b c : Int} (ha : U a) (hb : U b) (h : op = 1 ∨ op = 2 ∨ op = 3) : abacuslaw05_usual.f op a b c = some (decide (fin a ∧ fin b)) := by
  simp only [abacuslaw05_usual.f, abacuslaw05_usual.b0, abacuslaw05_usual.l13, abacuslaw05_usual.b13, abacuslaw05_usual.l15, abacuslaw05_usual.b15, finite_eq ha, finite_eq hb, Option.bind_some]
  have h5 : ¬ op = 5 := by omega
  have h6 : ¬ op = 6 := by omega
  have h4 : ¬ op = 4 := by omega
  by_cases fa : fin a <;> by_cases fb : fin b <;> simp [fa, fb, h4, h5, h6]
theorem usual_div {a b c : Int} (ha : U a) (hb : U b) : abacuslaw05_usual.f 4 a b c = some (decide (fin a ∧ fin b ∧ plc b ≠ 0)) := by
  simp only [abacuslaw05_usual.f, abacuslaw05_usual.b0, abacuslaw05_usual.l13, abacuslaw05_usual.b13, abacuslaw05_usual.l15, abacuslaw05_usual.b15, finite_eq ha, finite_eq hb, Option.bind_some, off_eq hb]
  by_cases fa : fin a <;> by_cases fb : fin b <;> by_cases h0 : plc b = 0 <;> simp [fa, fb, h0]
theorem usual_sqrt {a b c : Int} (ha : U a) : abacuslaw05_usual.f 5 a b c = some (decide (fin a ∧ a ≤ 9223372036854775808)) := by
  simp only [abacuslaw05_usual.f, abacuslaw05_usual.b0, abacuslaw05_usual.l13, abacuslaw05_usual.b13, abacuslaw05_usual.l15, abacuslaw05_usual.b15, finite_eq ha, Option.bind_some]
  by_cases fa : fin a <;> by_cases h : a ≤ 9223372036854775808 <;> simp [fa, h]
theorem usual_fma {a b c : Int} (ha : U a) (hb : U b) (hc : U c) : abacuslaw05_usual.f 6 a b c = some (decide (fin a ∧ fin b ∧ fin c)) := by
  simp only [abacuslaw05_usual.f, abacuslaw05_usual.b0, abacuslaw05_usual.l13, abacuslaw05_usual.b13, abacuslaw05_usual.l15, abacuslaw05_usual.b15, finite_eq ha, finite_eq hb, finite_eq hc, Option.bind_some]
  by_cases fa : fin a <;> by_cases fb : fin b <;> by_cases fc : fin c <;> simp [fa, fb, fc]
/-! ### Told and the own functions -/
theorem told_1 {a b c d f : Int} (h : Ev (fun k _ _ => soft_add.f k a b c) (d, f)) : Ev (fun k _ _ => soft_Told.f k 1 a b c) (d, f, 0) ∧ Ev (fun k _ _ => abacuslaw05_own.f k 1 a b c) d := by
  simp only [soft_Told.f, soft_Told.b0, abacuslaw05_own.f, abacuslaw05_own.b0, soft_Add.f, soft_Add.b0]
  exact ⟨Ev_bind_eq (a := ()) rfl (Ev_neg (by decide) (Ev_neg (by decide) (Ev_pos (by decide) (Ev_pos (by decide) (Ev_neg (by decide) (Ev_pos (by decide) (Ev.bind h (Ev_some rfl)))))))), Ev_pos (by decide) (Ev.bind (Ev.bind h (Ev_some rfl)) (Ev_some rfl))⟩
theorem told_2 {a b c d f : Int} (h : Ev (fun k _ _ => soft_sub.f k a b c) (d, f)) : Ev (fun k _ _ => soft_Told.f k 2 a b c) (d, f, 0) ∧ Ev (fun k _ _ => abacuslaw05_own.f k 2 a b c) d := by
  simp only [soft_Told.f, soft_Told.b0, abacuslaw05_own.f, abacuslaw05_own.b0, soft_Sub.f, soft_Sub.b0]
  exact ⟨Ev_bind_eq (a := ()) rfl (Ev_neg (by decide) (Ev_neg (by decide) (Ev_pos (by decide) (Ev_pos (by decide) (Ev_neg (by decide) (Ev_neg (by decide) (Ev_pos (by decide) (Ev.bind h (Ev_some rfl))))))))), Ev_neg (by decide) (Ev_pos (by decide) (Ev.bind (Ev.bind h (Ev_some rfl)) (Ev_some rfl)))⟩
theorem told_3 {a b c d f : Int} (h : Ev (fun k _ _ => soft_mul.f k a b c) (d, f)) : Ev (fun k _ _ => soft_Told.f k 3 a b c) (d, f, 0) ∧ Ev (fun k _ _ => abacuslaw05_own.f k 3 a b c) d := by
  simp only [soft_Told.f, soft_Told.b0, abacuslaw05_own.f, abacuslaw05_own.b0, soft_Mul.f, soft_Mul.b0]
  exact ⟨Ev_bind_eq (a := ()) rfl (Ev_neg (by decide) (Ev_neg (by decide) (Ev_pos (by decide) (Ev_pos (by decide) (Ev_neg (by decide) (Ev_neg (by decide) (Ev_neg (by decide) (Ev_pos (by decide) (Ev.bind h (Ev_some rfl)))))))))), Ev_neg (by decide) (Ev_neg (by decide) (Ev_pos (by decide) (Ev.bind (Ev.bind h (Ev_some rfl)) (Ev_some rfl))))⟩
theorem told_4 {a b c d f : Int} (h : Ev (fun k _ _ => soft_div.f k a b c) (d, f)) : Ev (fun k _ _ => soft_Told.f k 4 a b c) (d, f, 0) ∧ Ev (fun k _ _ => abacuslaw05_own.f k 4 a b c) d := by
  simp only [soft_Told.f, soft_Told.b0, abacuslaw05_own.f, abacuslaw05_own.b0, soft_Div.f, soft_Div.b0]
  exact ⟨Ev_bind_eq (a := ()) rfl (Ev_neg (by decide) (Ev_neg (by decide) (Ev_pos (by decide) (Ev_pos (by decide) (Ev_neg (by decide) (Ev_neg (by decide) (Ev_neg (by decide) (Ev_neg (by decide) (Ev_pos (by decide) (Ev.bind h (Ev_some rfl))))))))))), Ev_neg (by decide) (Ev_neg (by decide) (Ev_neg (by decide) (Ev_pos (by decide) (Ev.bind (Ev.bind h (Ev_some rfl)) (Ev_some rfl)))))⟩
theorem told_5 {a b c d f : Int} (h : Ev (fun k _ _ => soft_sqrt.f k a b c) (d, f)) : Ev (fun k _ _ => soft_Told.f k 5 a b c) (d, f, 0) ∧ Ev (fun k _ _ => abacuslaw05_own.f k 5 a b c) d := by
  simp only [soft_Told.f, soft_Told.b0, abacuslaw05_own.f, abacuslaw05_own.b0, soft_Sqrt.f, soft_Sqrt.b0]
  exact ⟨Ev_bind_eq (a := ()) rfl (Ev_neg (by decide) (Ev_neg (by decide) (Ev_pos (by decide) (Ev_pos (by decide) (Ev_neg (by decide) (Ev_neg (by decide) (Ev_neg (by decide) (Ev_neg (by decide) (Ev_neg (by decide) (Ev_pos (by decide) (Ev.bind h (Ev_some rfl)))))))))))), Ev_neg (by decide) (Ev_neg (by decide) (Ev_neg (by decide) (Ev_neg (by decide) (Ev_pos (by decide) (Ev.bind (Ev.bind h (Ev_some rfl)) (Ev_some rfl))))))⟩
theorem told_6 {a b c d f : Int} (h : Ev (fun k _ _ => soft_fma.f k a b c) (d, f)) : Ev (fun k _ _ => soft_Told.f k 6 a b c) (d, f, 0) ∧ Ev (fun k _ _ => abacuslaw05_own.f k 6 a b c) d := by
  simp only [soft_Told.f, soft_Told.b0, abacuslaw05_own.f, abacuslaw05_own.b0, soft_Fma.f, soft_Fma.b0]
  exact ⟨Ev_bind_eq (a := ()) rfl (Ev_neg (by decide) (Ev_neg (by decide) (Ev_pos (by decide) (Ev_pos (by decide) (Ev_neg (by decide) (Ev_neg (by decide) (Ev_neg (by decide) (Ev_neg (by decide) (Ev_neg (by decide) (Ev_neg (by decide) (Ev_pos (by decide) (Ev.bind h (Ev_some rfl))))))))))))), Ev_neg (by decide) (Ev_neg (by decide) (Ev_neg (by decide) (Ev_neg (by decide) (Ev_neg (by decide) (Ev.bind (Ev.bind h (Ev_some rfl)) (Ev_some rfl))))))⟩
/-! ### exactly -/
theorem Ev.uniq {α : Type} {g : Nat → Nat → Nat → Option α} {r r' : α} (h : Ev g r) (k : Ev g r') : r = r' := by
  obtain ⟨K, h⟩ := h
  obtain ⟨L, k⟩ := k
  have a := h (max K L) (max K L) (max K L) (by omega) (by omega) (by omega)
  have b := k (max K L) (max K L) (max K L) (by omega) (by omega) (by omega)
  rw [a] at b
  exact Option.some.inj b
theorem abs_iff {v : Int} {s : Bool} {n : Nat} (h : v ≠ 0 → s = decide (v < 0)) : v = sv s n ↔ v.natAbs = n := by
  constructor
  · rintro rfl; exact sv_abs s n
  · intro hn
    by_cases h0 : v = 0
    · subst h0; rw [show n = 0 from hn.symm]; exact (sv_zero s).symm
    · rw [h h0]
      unfold sv
      by_cases h1 : v < 0
      · rw [decide_eq_true h1, if_pos rfl]; omega
      · rw [decide_eq_false h1, if_neg (by simp)]; omega
theorem unit_lt {d : Int} {F : Nat} (hF : F = 2098) (h : fin d) : uni (plc d) < 2 ^ F := uni_lt_pow hF (plc_fin.1 h)
theorem prod_lt {x y F : Nat} (hx : x < 2 ^ F) (hy : y < 2 ^ F) : x * y < 2 ^ (F + F) := by rw [Nat.pow_add]; exact Nat.mul_lt_mul'' hx hy
theorem lift_lt {x F K : Nat} (hx : x < 2 ^ F) : x * 2 ^ K < 2 ^ (F + K) := by rw [Nat.pow_add]; exact Nat.mul_lt_mul_of_pos_right hx (Nat.pow_pos (by decide))
theorem two_lt {x y F : Nat} (hx : x < 2 ^ F) (hy : y < 2 ^ F) : x + y < 2 ^ (F + 1) := by rw [Nat.pow_succ]; omega
theorem le_two {x F G : Nat} (hx : x < 2 ^ F) (h : F ≤ G) : x < 2 ^ G := Nat.lt_of_lt_of_le hx (Nat.pow_le_pow_right (by decide) h)
theorem units_tot {d : Int} (h : U d) : ∃ r, Ev (fun k _ _ => abacuslaw05_units.f k d) r := by
  have hl := len_lim' (small_limit (n := (manOf d).toNat) (by have := man_any d; omega))
  simp only [abacuslaw05_units.f, abacuslaw05_units.b0, ln_eq, abacuslaw05_units.l63, abacuslaw05_units.b63]
  by_cases h3 : cls d = 3
  · obtain ⟨r, hr, _⟩ := shl_tot (l := lim 1) (n := 1024 + 1074) (ok_lim _) (Nat.le_trans (len_lim' (small_limit (n := 1) (by decide))) (by decide))
    have h1 : nat_FromUint.f 1 = some (lim 1) := FromUint_lim (n := 1) (by decide)
    exact ⟨_, Ev_bind_eq (Decode_eq h) (Ev_bind_eq (FromUint_man d) (Ev_pos h3 (Ev_bind_eq h1 (Ev.bind hr (Ev.now _)))))⟩
  · obtain ⟨r, hr, _⟩ := shl_tot (l := lim (manOf d).toNat) (n := expOf d + 1074) (ok_lim _) (by omega)
    exact ⟨_, Ev_bind_eq (Decode_eq h) (Ev_bind_eq (FromUint_man d) (Ev_neg h3 (Ev.bind hr (Ev.now _))))⟩
theorem exact_add {op a b c d : Int} {s : Bool} {x : Nat} (ha : U a) (hb : U b) (hd : U d) (fa : fin a) (fb : fin b) (fd : fin d) (h : op = 1 ∧ s = sgn b ∨ op = 2 ∧ s = !sgn b) :
    Ev (fun k _ _ => abacuslaw05_exactly.f k op a b c d) (decide (sval a + sv s (uni (plc b)) = sval d)) := by
  obtain ⟨F, hF⟩ : ∃ F, F = 2098 := ⟨_, rfl⟩
  have la := unit_lt hF fa
  have lb := unit_lt hF fb
  have ld := unit_lt hF fd
  have s1 : uni (plc a) + uni (plc b) < B 4096 := pow_B (two_lt la lb) (by omega)
  have hpl := plus_ev (b := sgn a) (c := s) (x := uni (plc a)) (y := uni (plc b)) s1
  have le := pl_le (sgn a) (uni (plc a)) s (uni (plc b))
  have s2 : (pl (sgn a) (uni (plc a)) s (uni (plc b))).2 + uni (plc d) < B 4096 := by
    have h1 := two_lt la lb
    have h2 := le_two ld (show F ≤ F + 1 by omega)
    have h3 := two_lt (Nat.lt_of_le_of_lt le h1) h2
    exact pow_B h3 (by omega)
  have hsm := same_ev (b := (pl (sgn a) (uni (plc a)) s (uni (plc b))).1) (c := sgn d) s2
  rw [pl_val] at hsm
  have ua := units_ev ha fa
  have ub := units_ev hb fb
  have ud := units_ev hd fd
  simp only [abacuslaw05_exactly.f, abacuslaw05_exactly.b0]
  rcases h with ⟨rfl, rfl⟩ | ⟨rfl, rfl⟩
  · exact Ev.bind ua (Ev.bind ub (Ev_pos (by decide) (Ev.bind hpl (Ev.bind ud (Ev.bind hsm (Ev_some rfl))))))
  · exact Ev.bind ua (Ev.bind ub (Ev_neg (by decide) (Ev_pos (by decide) (Ev.bind hpl (Ev.bind ud (Ev.bind hsm (Ev_some rfl)))))))
theorem kk {K : Nat} (hK : K = 1074) : (1074 : Int) = (K : Int) := by rw [hK]; rfl
theorem exact_mul {a b c d : Int} {K : Nat} (hK : K = 1074) (ha : U a) (hb : U b) (hd : U d) (fa : fin a) (fb : fin b) (fd : fin d) :
    Ev (fun k _ _ => abacuslaw05_exactly.f k 3 a b c d) (decide (sval a * sval b = sv (sgn d) (uni (plc d) * 2 ^ K))) := by
  obtain ⟨F, hF⟩ : ∃ F, F = 2098 := ⟨_, rfl⟩
  have la := unit_lt hF fa
  have lb := unit_lt hF fb
  have ld := unit_lt hF fd
  have lab := prod_lt la lb
  have ldk := le_two (lift_lt (K := K) ld) (show F + K ≤ F + F by omega)
  have hti := times_ev (b := sgn a) (c := sgn b) (pow_B lab (by omega)) (pow_B la (by omega)) (pow_B lb (by omega))
  have hli := lifted_ev (b := sgn d) (n := K) (pow_B ld (by omega)) (pow_B ldk (by omega)) (by omega)
  have hsm := same_ev (b := (sgn a != sgn b)) (c := sgn d) (pow_B (two_lt lab ldk) (by omega))
  rw [← sv_prod] at hsm
  have ua := units_ev ha fa
  have ub := units_ev hb fb
  have ud := units_ev hd fd
  simp only [abacuslaw05_exactly.f, abacuslaw05_exactly.b0, kk hK]
  exact Ev.bind ua (Ev.bind ub (Ev_neg (by decide) (Ev_neg (by decide) (Ev_pos (by decide) (Ev.bind hti (Ev.bind ud (Ev.bind hli (Ev.bind hsm (Ev_some rfl)))))))))
theorem exact_div {a b c d : Int} {K : Nat} (hK : K = 1074) (ha : U a) (hb : U b) (hd : U d) (fa : fin a) (fb : fin b) (fd : fin d) :
    Ev (fun k _ _ => abacuslaw05_exactly.f k 4 a b c d) (decide (sv (sgn a) (uni (plc a) * 2 ^ K) = sv (sgn b != sgn d) (uni (plc b) * uni (plc d)))) := by
  obtain ⟨F, hF⟩ : ∃ F, F = 2098 := ⟨_, rfl⟩
  have la := unit_lt hF fa
  have lb := unit_lt hF fb
  have ld := unit_lt hF fd
  have lbd := prod_lt lb ld
  have lak := le_two (lift_lt (K := K) la) (show F + K ≤ F + F by omega)
  have hti := times_ev (b := sgn b) (c := sgn d) (pow_B lbd (by omega)) (pow_B lb (by omega)) (pow_B ld (by omega))
  have hli := lifted_ev (b := sgn a) (n := K) (pow_B la (by omega)) (pow_B lak (by omega)) (by omega)
  have hsm := same_ev (b := sgn a) (c := (sgn b != sgn d)) (pow_B (two_lt lak lbd) (by omega))
  have ua := units_ev ha fa
  have ub := units_ev hb fb
  have ud := units_ev hd fd
  simp only [abacuslaw05_exactly.f, abacuslaw05_exactly.b0, kk hK]
  exact Ev.bind ua (Ev.bind ub (Ev_neg (by decide) (Ev_neg (by decide) (Ev_neg (by decide) (Ev_pos (by decide) (Ev.bind hli (Ev.bind ud (Ev.bind hti (Ev.bind hsm (Ev_some rfl))))))))))
theorem exact_sqrt {a b c d : Int} {K : Nat} (hK : K = 1074) (ha : U a) (hb : U b) (hd : U d) (fa : fin a) (fd : fin d) :
    Ev (fun k _ _ => abacuslaw05_exactly.f k 5 a b c d) (decide (sv (sgn a) (uni (plc a) * 2 ^ K) = sv (sgn d != sgn d) (uni (plc d) * uni (plc d)))) := by
  obtain ⟨F, hF⟩ : ∃ F, F = 2098 := ⟨_, rfl⟩
  have la := unit_lt hF fa
  have ld := unit_lt hF fd
  have ldd := prod_lt ld ld
  have lak := le_two (lift_lt (K := K) la) (show F + K ≤ F + F by omega)
  have hti := times_ev (b := sgn d) (c := sgn d) (pow_B ldd (by omega)) (pow_B ld (by omega)) (pow_B ld (by omega))
  have hli := lifted_ev (b := sgn a) (n := K) (pow_B la (by omega)) (pow_B lak (by omega)) (by omega)
  have hsm := same_ev (b := sgn a) (c := (sgn d != sgn d)) (pow_B (two_lt lak ldd) (by omega))
  have ua := units_ev ha fa
  obtain ⟨r, ub⟩ := units_tot hb
  have ud := units_ev hd fd
  simp only [abacuslaw05_exactly.f, abacuslaw05_exactly.b0, kk hK]
  exact Ev.bind ua (Ev.bind ub (Ev_neg (by decide) (Ev_neg (by decide) (Ev_neg (by decide) (Ev_neg (by decide) (Ev_pos (by decide) (Ev.bind hli (Ev.bind ud (Ev.bind ud (Ev.bind hti (Ev.bind hsm (Ev_some rfl))))))))))))
theorem exact_fma {a b c d : Int} {K : Nat} (hK : K = 1074) (ha : U a) (hb : U b) (hc : U c) (hd : U d) (fa : fin a) (fb : fin b) (fc : fin c) (fd : fin d) :
    Ev (fun k _ _ => abacuslaw05_exactly.f k 6 a b c d) (decide (sval a * sval b + sval c * ((2 ^ K : Nat) : Int) = sv (sgn d) (uni (plc d) * 2 ^ K))) := by
  obtain ⟨F, hF⟩ : ∃ F, F = 2098 := ⟨_, rfl⟩
  have la := unit_lt hF fa
  have lb := unit_lt hF fb
  have lc := unit_lt hF fc
  have ld := unit_lt hF fd
  have lab := prod_lt la lb
  have lck := le_two (lift_lt (K := K) lc) (show F + K ≤ F + F by omega)
  have ldk := le_two (lift_lt (K := K) ld) (show F + K ≤ F + F by omega)
  have hti := times_ev (b := sgn a) (c := sgn b) (pow_B lab (by omega)) (pow_B la (by omega)) (pow_B lb (by omega))
  have hlc := lifted_ev (b := sgn c) (n := K) (pow_B lc (by omega)) (pow_B lck (by omega)) (by omega)
  have hld := lifted_ev (b := sgn d) (n := K) (pow_B ld (by omega)) (pow_B ldk (by omega)) (by omega)
  have hpl := plus_ev (b := (sgn a != sgn b)) (c := sgn c) (x := uni (plc a) * uni (plc b)) (y := uni (plc c) * 2 ^ K) (pow_B (two_lt lab lck) (by omega))
  have le := pl_le (sgn a != sgn b) (uni (plc a) * uni (plc b)) (sgn c) (uni (plc c) * 2 ^ K)
  have hsm := same_ev (b := (pl (sgn a != sgn b) (uni (plc a) * uni (plc b)) (sgn c) (uni (plc c) * 2 ^ K)).1) (c := sgn d) (x := (pl (sgn a != sgn b) (uni (plc a) * uni (plc b)) (sgn c) (uni (plc c) * 2 ^ K)).2) (y := uni (plc d) * 2 ^ K)
    (pow_B (two_lt (Nat.lt_of_le_of_lt le (two_lt lab lck)) (le_two ldk (show F + F ≤ F + F + 1 by omega))) (by omega))
  rw [pl_val, ← sv_prod, sv_mul (sgn c)] at hsm
  have ua := units_ev ha fa
  have ub := units_ev hb fb
  have uc := units_ev hc fc
  have ud := units_ev hd fd
  simp only [abacuslaw05_exactly.f, abacuslaw05_exactly.b0, kk hK]
  exact Ev.bind ua (Ev.bind ub (Ev_neg (by decide) (Ev_neg (by decide) (Ev_neg (by decide) (Ev_neg (by decide) (Ev_neg (by decide) (Ev.bind hti (Ev.bind uc (Ev.bind hlc (Ev.bind hpl (Ev.bind ud (Ev.bind hld (Ev.bind hsm (Ev_some rfl))))))))))))))
/-! ### the six operations -/
theorem kd_good {K : Nat} {op a b c d v : Int} {M : Nat} {z : Bool} (hM : 0 < M) (hr : RdM d v M z)
    (hx : fin d → Ev (fun k _ _ => abacuslaw05_exactly.f k op a b c d) (decide (v = sv (sgn d) (uni (plc d) * M)))) :
    ∃ e, Kd (flg v.natAbs M d) d e ∧ (Ev (fun k _ _ => abacuslaw05_exactly.f k op a b c d) e ∨ plc d = inf) := by
  obtain ⟨s, p, rfl, hn, h1, h2⟩ := hr
  obtain ⟨u1, u2, u3⟩ := put_U (s := s) hn.top
  rw [u2, u3] at hx
  refine ⟨decide (v = sv s (uni p * M)), kd_of hM (by rw [u2]; exact hn) (by rw [u2, decide_eq_true_iff]; exact abs_iff h1), ?_⟩
  by_cases hi : p = inf
  · exact .inr (by rw [u2]; exact hi)
  · exact .inl (hx (plc_fin.2 (by rw [u2]; exact Nat.lt_of_le_of_ne hn.top hi)))
theorem rd_rdm {d v : Int} {z : Bool} (h : Rd d v z) : RdM d v 1 z := h
theorem op_1 {a b c : Int} (ha : U a) (hb : U b) (hc : U c) (next : Ev (fun k m _ => abacuslaw05_SoftFlags.l245 k m 2 a b c) true) : Ev (fun k m _ => abacuslaw05_SoftFlags.l245 k m 1 a b c) true := by
  obtain ⟨d, n, e1, r1⟩ := add_tot (c := c) ha hb
  have hd := addR_U ha hb r1
  obtain ⟨t1, t2⟩ := told_1 e1
  refine step_ev (by kernel_rfl) (by decide) hd t1 t2 (Ev.all (P := Rg) e1 fun k r h => add_rg h) (usual_two ha hb (.inl rfl)) (fun hu => ?_) next
  obtain ⟨fa, fb⟩ := of_decide_eq_true hu
  obtain ⟨d', e2, r2⟩ := add_fl (c := c) ha hb fa fb
  obtain ⟨rfl, rfl⟩ := Prod.mk.inj (Ev.uniq e1 e2)
  exact kd_good (K := 0) (by decide) (rd_rdm r2) (fun fd => by rw [Nat.mul_one]; exact exact_add (x := 0) ha hb hd fa fb fd (.inl ⟨rfl, rfl⟩))
theorem op_2 {a b c : Int} (ha : U a) (hb : U b) (hc : U c) (next : Ev (fun k m _ => abacuslaw05_SoftFlags.l245 k m 3 a b c) true) : Ev (fun k m _ => abacuslaw05_SoftFlags.l245 k m 2 a b c) true := by
  have hb' := U_neg hb
  have hsub : ∀ {r}, Ev (fun k _ _ => soft_add.f k a (neg b) c) r → Ev (fun k _ _ => soft_sub.f k a b c) r := by
    intro r h
    simp only [soft_sub.f, soft_sub.b0]
    exact Ev_bind_eq (Neg_eq hb) (Ev.bind h (Ev_some rfl))
  obtain ⟨d, n, e1, r1⟩ := add_tot (c := c) ha hb'
  have hd := addR_U ha hb' r1
  obtain ⟨t1, t2⟩ := told_2 (hsub e1)
  refine step_ev (by kernel_rfl) (by decide) hd t1 t2 (Ev.all (P := Rg) e1 fun k r h => add_rg h) (usual_two ha hb (.inr (.inl rfl))) (fun hu => ?_) next
  obtain ⟨fa, fb⟩ := of_decide_eq_true hu
  obtain ⟨q1, q2, q3⟩ := neg_parts hb
  obtain ⟨d', e2, r2⟩ := add_fl (c := c) ha hb' fa (q3.2 fb)
  obtain ⟨rfl, rfl⟩ := Prod.mk.inj (Ev.uniq e1 e2)
  refine kd_good (K := 0) (by decide) (rd_rdm r2) (fun fd => ?_)
  rw [Nat.mul_one]
  have := exact_add (c := c) (x := 0) ha hb hd fa fb fd (.inr ⟨rfl, rfl⟩)
  have e3 : sval (neg b) = sv (!sgn b) (uni (plc b)) := by unfold sval; rw [q1, q2]
  rw [e3]
  exact this
theorem op_3 {a b c : Int} (ha : U a) (hb : U b) (hc : U c) (next : Ev (fun k m _ => abacuslaw05_SoftFlags.l245 k m 4 a b c) true) : Ev (fun k m _ => abacuslaw05_SoftFlags.l245 k m 3 a b c) true := by
  obtain ⟨K, hK⟩ : ∃ K, K = 1074 := ⟨_, rfl⟩
  obtain ⟨d, n, e1, r1⟩ := mul_tot (c := c) hK ha hb
  have hd := mulR_U r1
  obtain ⟨t1, t2⟩ := told_3 e1
  refine step_ev (by kernel_rfl) (by decide) hd t1 t2 (Ev.all (P := Rg) e1 fun k r h => mul_rg h) (usual_two ha hb (.inr (.inr rfl))) (fun hu => ?_) next
  obtain ⟨fa, fb⟩ := of_decide_eq_true hu
  obtain ⟨d', e2, r2⟩ := mul_fl (c := c) hK ha hb fa fb
  obtain ⟨rfl, rfl⟩ := Prod.mk.inj (Ev.uniq e1 e2)
  exact kd_good (K := 0) (Nat.pow_pos (by decide)) r2 (fun fd => exact_mul hK ha hb hd fa fb fd)
theorem op_4 {a b c : Int} (ha : U a) (hb : U b) (hc : U c) (next : Ev (fun k m _ => abacuslaw05_SoftFlags.l245 k m 5 a b c) true) : Ev (fun k m _ => abacuslaw05_SoftFlags.l245 k m 4 a b c) true := by
  obtain ⟨K, hK⟩ : ∃ K, K = 1074 := ⟨_, rfl⟩
  obtain ⟨d, n, e1, r1⟩ := div_tot (c := c) hK ha hb
  have hd := divR_U r1
  obtain ⟨t1, t2⟩ := told_4 e1
  refine step_ev (by kernel_rfl) (by decide) hd t1 t2 (Ev.all (P := Rg) e1 fun k r h => div_rg h) (usual_div ha hb) (fun hu => ?_) next
  obtain ⟨fa, fb, b0⟩ := of_decide_eq_true hu
  obtain ⟨p, e2, hn⟩ := div_fl (c := c) hK ha hb fa fb b0
  obtain ⟨rfl, rfl⟩ := Prod.mk.inj (Ev.uniq e1 e2)
  obtain ⟨u1, u2, u3⟩ := put_U (s := (sgn a != sgn b)) hn.top
  have hY : 0 < uni (plc b) := by
    have := uni_smono (show 0 < plc b by omega)
    rw [uni_zero] at this; exact this
  have hsg : (sgn b != (sgn a != sgn b)) = sgn a := by cases sgn a <;> cases sgn b <;> rfl
  refine ⟨decide (sv (sgn a) (uni (plc a) * 2 ^ K) = sv (sgn a) (uni (plc b) * uni p)), kd_of hY (by rw [u2]; exact hn) ?_, ?_⟩
  · rw [u2, decide_eq_true_iff, Nat.mul_comm (uni p)]
    exact ⟨fun h => sv_inj h, fun h => by rw [h]⟩
  · by_cases hi : p = inf
    · exact .inr (by rw [u2]; exact hi)
    · have := exact_div (c := c) hK ha hb u1 fa fb (plc_fin.2 (by rw [u2]; exact Nat.lt_of_le_of_ne hn.top hi))
      rw [u2, u3, hsg] at this
      exact .inl this
theorem sqrt_tot {a b c : Int} {K : Nat} (hK : K = 1074) (ha : U a) : ∃ d n, Ev (fun k _ _ => soft_sqrt.f k a b c) (d, n) ∧ U d ∧ (fin a → a ≤ 9223372036854775808 → ∃ e, Kd n d e ∧ (e = true ↔ uni (plc a) * 2 ^ K = uni (plc d) * uni (plc d)) ∧ fin d ∧ (sgn a = false ∨ plc a = 0)) := by
  have dec := Decode_eq ha
  by_cases h1 : cls a = 4
  · refine ⟨_, _, by simp only [soft_sqrt.f, soft_sqrt.b0]; exact Ev_bind_eq dec (Ev_pos h1 (Ev.now _)), ⟨by decide, by decide⟩, fun fa => absurd h1 (cls_lt fa).2⟩
  by_cases h2 : cls a = 0
  · have p0 := cls_zero.1 h2
    refine ⟨_, _, by simp only [soft_sqrt.f, soft_sqrt.b0]; exact Ev_bind_eq dec (Ev_neg h1 (Ev_pos h2 (Ev.now _))), ha, fun fa _ => ⟨true, .inr (.inl ⟨rfl, plc_fin.1 fa, rfl⟩), ⟨fun _ => by rw [p0, uni_zero, Nat.zero_mul, Nat.zero_mul], fun _ => rfl⟩, fa, .inr p0⟩⟩
  have a0 : plc a ≠ 0 := fun h => h2 (cls_zero.2 h)
  by_cases h3 : sgn a = true
  · refine ⟨9221120237041090560, 1, by simp only [soft_sqrt.f, soft_sqrt.b0]; exact Ev_bind_eq dec (Ev_neg h1 (Ev_neg h2 (Ev_pos h3 (Ev_bind_eq (a := (9221120237041090560, 1)) rfl (Ev.now _))))), ⟨by decide, by decide⟩, fun fa hle => ?_⟩
    exfalso
    unfold sgn at h3
    have := of_decide_eq_true h3
    unfold plc at a0
    omega
  by_cases h4 : cls a = 3
  · refine ⟨_, _, by simp only [soft_sqrt.f, soft_sqrt.b0]; exact Ev_bind_eq dec (Ev_neg h1 (Ev_neg h2 (Ev_neg h3 (Ev_pos h4 (Ev.now _))))), ha, fun fa => absurd h4 (cls_lt fa).1⟩
  · have fa : fin a := fin_cls.2 ⟨h4, h1⟩
    have hs : sgn a = false := by simpa using h3
    obtain ⟨p, f, e1, rn, hf, hfe⟩ := sqrt_fl (b := b) (c := c) hK ha fa hs a0
    obtain ⟨u1, u2, u3⟩ := put_U (s := false) (Nat.le_of_lt rn.top)
    have u1' : U (p : Int) := u1
    have u2' : plc (p : Int) = p := u2
    refine ⟨(p : Int), f, e1, u1', fun _ _ => ⟨decide (uni (plc a) * 2 ^ K = uni p * uni p), ?_, by rw [u2', decide_eq_true_iff], plc_fin.2 (by rw [u2']; exact rn.top), .inl hs⟩⟩
    rcases hf with rfl | rfl
    · exact .inr (.inl ⟨rfl, by rw [u2']; exact rn.top, decide_eq_true (hfe.1 rfl).symm⟩)
    · refine .inr (.inr (.inr ⟨rfl, by rw [u2']; exact rn.top, decide_eq_false (fun h => absurd (hfe.2 h.symm) (by decide)), ?_⟩))
      rw [u2']
      refine root_big rn ?_
      have hu : 1 ≤ uni (plc a) := by
        have := uni_smono (show 0 < plc a by omega)
        rw [uni_zero] at this; exact this
      have h104 : (4503599627370496 * 4503599627370496 : Nat) = 2 ^ 104 := by decide
      rw [h104]
      exact Nat.le_trans (Nat.pow_le_pow_right (by decide) (by omega)) (Nat.le_mul_of_pos_left _ hu)
theorem op_5 {a b c : Int} (ha : U a) (hb : U b) (hc : U c) (next : Ev (fun k m _ => abacuslaw05_SoftFlags.l245 k m 6 a b c) true) : Ev (fun k m _ => abacuslaw05_SoftFlags.l245 k m 5 a b c) true := by
  obtain ⟨K, hK⟩ : ∃ K, K = 1074 := ⟨_, rfl⟩
  obtain ⟨d, n, e1, hd, h2⟩ := sqrt_tot (b := b) (c := c) hK ha
  obtain ⟨t1, t2⟩ := told_5 e1
  refine step_ev (by kernel_rfl) (by decide) hd t1 t2 (Ev.all (P := Rg) e1 fun k r h => sqrt_rg h) (usual_sqrt ha) (fun hu => ?_) next
  obtain ⟨fa, hle⟩ := of_decide_eq_true hu
  obtain ⟨e, hk, he, fd, hs⟩ := h2 fa hle
  refine ⟨e, hk, .inl ?_⟩
  have hx := exact_sqrt (b := b) (c := c) hK ha hb hd fa fd
  have : decide (sv (sgn a) (uni (plc a) * 2 ^ K) = sv (sgn d != sgn d) (uni (plc d) * uni (plc d))) = e := by
    have hdd : (sgn d != sgn d) = false := by cases sgn d <;> rfl
    rw [hdd]
    have key : sv (sgn a) (uni (plc a) * 2 ^ K) = sv false (uni (plc d) * uni (plc d)) ↔ uni (plc a) * 2 ^ K = uni (plc d) * uni (plc d) := by
      rcases hs with hs | hs
      · rw [hs]; exact ⟨fun h => sv_inj h, fun h => by rw [h]⟩
      · rw [hs, uni_zero, Nat.zero_mul, sv_zero]
        unfold sv
        constructor
        · intro h; simp at h; omega
        · intro h; simp; omega
    cases e with
    | true => exact decide_eq_true (key.2 (he.1 rfl))
    | false => exact decide_eq_false (fun h => by have := he.2 (key.1 h); cases this)
  rw [this] at hx
  exact hx
theorem op_6 {a b c : Int} (ha : U a) (hb : U b) (hc : U c) (next : Ev (fun k m _ => abacuslaw05_SoftFlags.l245 k m 7 a b c) true) : Ev (fun k m _ => abacuslaw05_SoftFlags.l245 k m 6 a b c) true := by
  obtain ⟨K, hK⟩ : ∃ K, K = 1074 := ⟨_, rfl⟩
  obtain ⟨d, n, e1, r1⟩ := fma_tot hK ha hb hc
  have hd := fmaR_U hc r1
  obtain ⟨t1, t2⟩ := told_6 e1
  refine step_ev (by kernel_rfl) (by decide) hd t1 t2 (Ev.all (P := Rg) e1 fun k r h => fma_rg h) (usual_fma ha hb hc) (fun hu => ?_) next
  obtain ⟨fa, fb, fc⟩ := of_decide_eq_true hu
  obtain ⟨d', e2, r2⟩ := fma_fl hK ha hb hc fa fb fc
  obtain ⟨rfl, rfl⟩ := Prod.mk.inj (Ev.uniq e1 e2)
  exact kd_good (K := 0) (Nat.pow_pos (by decide)) r2 (fun fd => exact_fma hK ha hb hc hd fa fb fc fd)
theorem SoftFlags {a b c : Int} (ha : U a) (hb : U b) (hc : U c) : ∃ n, abacuslaw05_SoftFlags.f n a b c = some true := by
  refine Ev.rounds ?_
  simp only [abacuslaw05_SoftFlags.f, abacuslaw05_SoftFlags.b0]
  refine Ev.bind first_ev (Ev.bind works_ev (Ev_neg (by simp) (Ev_neg (fun h => h rfl) (Ev_neg (fun h => h rfl) (Ev_neg (fun h => h rfl) ?_)))))
  have last : Ev (fun k m _ => abacuslaw05_SoftFlags.l245 k m 7 a b c) true := by
    refine Ev_succ ?_
    simp only [abacuslaw05_SoftFlags.l245, abacuslaw05_SoftFlags.b245]
    exact Ev_neg (by decide) (Ev.now _)
  exact Ev_in (op_1 ha hb hc (op_2 ha hb hc (op_3 ha hb hc (op_4 ha hb hc (op_5 ha hb hc (op_6 ha hb hc last))))))
end Go.Proofs.YtobocamcoaeliaaDoor.Pure
