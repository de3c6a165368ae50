/- Answers that come after enough rounds: n for the callees, m for a loop, p for a loop within. No conditions. -/
import Derived.Test.YtcacmhcekoeblaaDoorA17
namespace Go.Proofs.YtcacmhcekoeblaaDoor.Lib
open Go.RowKit Go.Proofs.YtcacmhcekoeblaaDoorA
set_option linter.unusedVariables false
/-- A fact that is set aside: omega doesn't look into it. -/
structure Aside0 (p : Prop) : Prop where mk :: (out : p)
def Ev {α : Type} (g : Nat → Nat → Nat → Option α) (r : α) : Prop := ∃ K, ∀ n m p, K ≤ n → K ≤ m → K ≤ p → g n m p = some r
theorem Ev.now {α : Type} (r : α) : Ev (fun _ _ _ => some r) r := ⟨0, fun _ _ _ _ _ _ => rfl⟩
theorem Ev_some {α : Type} {a r : α} (h : a = r) : Ev (fun _ _ _ => some a) r := by subst h; exact Ev.now _
theorem Ev.rounds {α : Type} {g : Nat → Option α} {r : α} (h : Ev (fun n _ _ => g n) r) : ∃ n, g n = some r := by
  obtain ⟨K, h⟩ := h
  exact ⟨K, h K K K (Nat.le_refl _) (Nat.le_refl _) (Nat.le_refl _)⟩
theorem Ev.bind {α β : Type} {g : Nat → Nat → Nat → Option α} {f : Nat → Nat → Nat → α → Option β} {a : α} {r : β} (h : Ev g a) (k : Ev (fun n m p => f n m p a) r) : Ev (fun n m p => (g n m p).bind (f n m p)) r := by
  obtain ⟨K, h⟩ := h
  obtain ⟨K', k⟩ := k
  refine ⟨max K K', fun n m p hn hm hp => ?_⟩
  show (g n m p).bind (f n m p) = some r
  rw [h n m p (by omega) (by omega) (by omega), Option.bind_some]
  exact k n m p (by omega) (by omega) (by omega)
theorem Ev_pos {α : Type} {c : Prop} [Decidable c] {a b : Nat → Nat → Nat → Option α} {r : α} (hc : c) (h : Ev a r) : Ev (fun n m p => if c then a n m p else b n m p) r := by
  obtain ⟨K, h⟩ := h
  exact ⟨K, fun n m p hn hm hp => by simp only [if_pos hc]; exact h n m p hn hm hp⟩
theorem Ev_neg {α : Type} {c : Prop} [Decidable c] {a b : Nat → Nat → Nat → Option α} {r : α} (hc : ¬ c) (h : Ev b r) : Ev (fun n m p => if c then a n m p else b n m p) r := by
  obtain ⟨K, h⟩ := h
  exact ⟨K, fun n m p hn hm hp => by simp only [if_neg hc]; exact h n m p hn hm hp⟩
theorem Ev_bind_some {α β : Type} {a : α} {f : Nat → Nat → Nat → α → Option β} {r : β} (h : Ev (fun n m p => f n m p a) r) : Ev (fun n m p => (some a).bind (f n m p)) r := by
  obtain ⟨K, h⟩ := h
  exact ⟨K, fun n m p hn hm hp => by simp only [Option.bind_some]; exact h n m p hn hm hp⟩
theorem Ev_bind_eq {α β : Type} {o : Option α} {a : α} {f : Nat → Nat → Nat → α → Option β} {r : β} (ho : o = some a) (h : Ev (fun n m p => f n m p a) r) : Ev (fun n m p => o.bind (f n m p)) r := by
  subst ho
  exact Ev_bind_some h
/-- One more round of a loop. -/
theorem Ev_succ {α : Type} {g : Nat → Nat → Nat → Option α} {r : α} (h : Ev (fun n m p => g n (m + 1) p) r) : Ev g r := by
  obtain ⟨K, h⟩ := h
  refine ⟨K + 1, fun n m p hn hm hp => ?_⟩
  obtain ⟨m', rfl⟩ : ∃ m', m = m' + 1 := ⟨m - 1, by omega⟩
  exact h n m' p (by omega) (by omega) (by omega)
theorem Ev_succ2 {α : Type} {g : Nat → Nat → Nat → Option α} {r : α} (h : Ev (fun n m p => g n m (p + 1)) r) : Ev g r := by
  obtain ⟨K, h⟩ := h
  refine ⟨K + 1, fun n m p hn hm hp => ?_⟩
  obtain ⟨p', rfl⟩ : ∃ p', p = p' + 1 := ⟨p - 1, by omega⟩
  exact h n m p' (by omega) (by omega) (by omega)
/-- A loop is entered with n rounds. -/
theorem Ev_in {α : Type} {g : Nat → Nat → Nat → Option α} {r : α} (h : Ev g r) : Ev (fun n _ p => g n n p) r := by
  obtain ⟨K, h⟩ := h
  exact ⟨K, fun n m p hn hm hp => h n n p hn hn hp⟩
theorem Ev_in2 {α : Type} {g : Nat → Nat → Nat → Option α} {r : α} (h : Ev g r) : Ev (fun n m _ => g n m n) r := by
  obtain ⟨K, h⟩ := h
  exact ⟨K, fun n m p hn hm hp => h n m n hn hm hn⟩
/-- What any number of rounds from K on answers. -/
theorem Ev_at {α : Type} {g : Nat → Option α} {r : α} (K : Nat) (h : ∀ d, g (d + K) = some r) : Ev (fun n _ _ => g n) r := by
  refine ⟨K, fun n m p hn _ _ => ?_⟩
  obtain ⟨d, rfl⟩ : ∃ d, n = d + K := ⟨n - K, by omega⟩
  exact h d
theorem wrap64_nat {n : Int} (h0 : 0 ≤ n) (h1 : n < 9223372036854775808) : wrap64 n = n := by unfold wrap64; omega
end Go.Proofs.YtcacmhcekoeblaaDoor.Lib
