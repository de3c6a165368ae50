/- Functions that are told by hand: those without a body, and those that read a table. Conditions: the table stands as it was laid. -/
import Derived.Test.YtcacmhcekoeblaaDoorA16
import Derived.Test.YtcacmhcekoeblaaDoorG
import Derived.Laws.Bits64
import Derived.Laws.Bits64b
import Derived.Lib.TrailingZeros
namespace Go.Proofs.YtcacmhcekoeblaaDoorA
open Go.RowKit
/-- What is done at a cut. -/
abbrev Jt (α : Type) := Nat → (ASt → Option α) → ASt → Option α
set_option linter.unusedVariables false
theorem resV_scal {rs : List D} (h : rs.all D.scal = true) (m : Nat) (w : World) (AB : Nat → Prop) (w' : World) : ResV m w AB w' rs (packV rs) := by
  refine ⟨fun _ => none, fun _ => False, ?_, fun i u hi => (by cases hi), ?_, ?_, fun g hg => hg.elim, fun _ g hg => hg.elim⟩
  · match rs, h with
    | [d], h =>
      simp only [List.all_cons, Bool.and_eq_true] at h
      exact (scal_ofD h.1 m).2 rfl
    | [], h => exact ⟨_, rfl, (scal_ofDs h m).2 rfl⟩
    | d :: e :: r, h => exact ⟨_, rfl, (scal_ofDs h m).2 rfl⟩
  · rw [scal_blks h]
    intro k b hb
    simp at hb
  · rw [scal_blks h]
    intro j k u v g hj
    simp at hj
theorem calld_scal {P : Program} {H : World → Prop} {f : FuncId} {ds rs : List D} (hd : ds.all D.scal = true) (hr : rs.all D.scal = true)
    (h : ∀ w, H w → CallsE P f (ds.map D.val).toArray w fun v w' => v = packV rs ∧ w' = w) : CallD P H f ds rs := by
  intro w vals AB hH hv hAB
  rw [(scal_ofDs hd 0).1 hv]
  have key : ∀ v w', v = packV rs ∧ w' = w → Below w.heap.size w w' ∧ ∀ m, ResV m w AB w' rs v := by
    rintro v w' ⟨rfl, rfl⟩
    exact ⟨Below.refl _ _, fun m => resV_scal hr m _ _ _⟩
  rcases h w hH with ⟨fn, h1, h2, h3, h4⟩ | ⟨v, w', h1, h2⟩
  · refine .inl ⟨fn, h1, h2, h3, h4.mono ?_⟩
    rintro e w' ⟨v, e1, e2⟩
    exact ⟨v, e1, key _ _ e2⟩
  · exact .inr ⟨v, w', h1, key _ _ h2⟩
theorem resV_eq {rs : List D} (h : rs.all D.scal = true) {m : Nat} {w w' : World} {AB : Nat → Prop} {v : Value} (hv : ResV m w AB w' rs v) : v = packV rs := by
  obtain ⟨ρ, N, h1, _⟩ := hv
  match rs, h with
  | [d], h =>
    simp only [List.all_cons, Bool.and_eq_true] at h
    exact (scal_ofD h.1 m).1 h1
  | [], h => obtain ⟨vs, rfl, h2⟩ := h1; rw [show vs = #[] from by have := (scal_ofDs h m).1 h2; cases vs; simp_all]; rfl
  | d :: e :: r, h =>
    obtain ⟨vs, rfl, h2⟩ := h1
    have := (scal_ofDs h m).1 h2
    show Value.tuple vs = .tuple _
    congr 1
    cases vs
    simpa using this
/-- A law over numbers and truths. -/
theorem walk_scal {P : Program} {H : World → Prop} {f : FuncId} {ds rs : List D} (hd : ds.all D.scal = true) (hr : rs.all D.scal = true)
    (h : ∀ (w : World) (vals : List Value) (AB : Nat → Prop), H w → VRs (fun _ => none) AB w (ofDs ds 0) vals → (∀ g, AB g → g < w.heap.size) →
      Calls P f vals.toArray w fun e w' => ∃ v, e = .returned v ∧ Below w.heap.size w w' ∧ ∀ m, ResV m w AB w' rs v) {w : World} (hw : H w) :
    Calls P f (ds.map D.val).toArray w fun e w' => e = .returned (packV rs) ∧ Below w.heap.size w w' := by
  refine (h w (ds.map D.val) (fun _ => False) hw ((scal_ofDs hd 0).2 rfl) (fun g hg => hg.elim)).mono ?_
  rintro e w' ⟨v, rfl, hb, hv⟩
  exact ⟨by rw [resV_eq hr (hv 0)], hb⟩
/-- The table of math/bits.TrailingZeros64. -/
def tabL : List Int := Lib.deBruijn64tab.map (fun (n : Nat) => (n : Int))
theorem tabL_at {w : World} {g : Nat} (h : ∀ j, j < 64 → w.cell? ⟨g, j, none⟩ = some (.int .u8 (tabL.getD j 0))) (j : Nat) (hj : j < 64) : w.cell? ⟨g, j, none⟩ = some (.int .u8 ((Lib.deBruijn64tab.getD j 0 : Nat) : Int)) := by
  rw [h j hj]
  congr 2
  simp [tabL, List.getD_eq_getElem?_getD, List.getElem?_map]
  cases Lib.deBruijn64tab[j]? <;> rfl
/-! The model's rows for math/bits.Add64 and Sub64. -/
def sub64Entry : Array Value → Sem Value := fun args => do
  let (x, y, b) ← Extern.MathBitsCarry.three "Sub64" args
  pure (Extern.MathBitsCarry.pair ((x + Extern.MathBitsCarry.m64 - y - b) % Extern.MathBitsCarry.m64) (if x < y + b then 1 else 0))
theorem run_sub64 {P : Program} (x y b : Nat) (hb : b ≤ 1) (w : World) :
    (sub64Entry #[.int .u64 x, .int .u64 y, .int .u64 b]).run P w =
      .ok (.tuple #[.int .u64 (((x + 18446744073709551616 - y - b) % 18446744073709551616 : Nat) : Int), .int .u64 ((if x < y + b then 1 else 0 : Nat) : Int)]) w := by
  have : b = 0 ∨ b = 1 := by omega
  rcases this with rfl | rfl <;> rfl
theorem run_add64' {P : Program} {f : FuncId} {fn : Func} (hf : P.funcs[f]? = some fn) (hname : (fn.name == "runtime.NumGoroutine") = false) (hb : fn.body.isNone = true) (hn : Extern.findNext fn = none) (he : Extern.find fn = some add64Entry)
    (x y c : Int) (hx : 0 ≤ x) (hy : 0 ≤ y) (hc0 : 0 ≤ c) (hc : c ≤ 1) (w : World) :
    (callFunc f #[.int .u64 x, .int .u64 y, .int .u64 c]).run P w = .ok (.value (.tuple #[.int .u64 ((x + y + c) % 18446744073709551616), .int .u64 ((x + y + c) / 18446744073709551616)])) w := by
  rw [run_callFunc_extern hf hname hb hn he, run_add64 x y c hx hy hc0 hc]
  rfl
theorem run_sub64' {P : Program} {f : FuncId} {fn : Func} (hf : P.funcs[f]? = some fn) (hname : (fn.name == "runtime.NumGoroutine") = false) (hb : fn.body.isNone = true) (hn : Extern.findNext fn = none) (he : Extern.find fn = some sub64Entry)
    (x y c : Int) (hx : 0 ≤ x) (hy : 0 ≤ y) (hy' : y < 18446744073709551616) (hc0 : 0 ≤ c) (hc : c ≤ 1) (w : World) :
    (callFunc f #[.int .u64 x, .int .u64 y, .int .u64 c]).run P w = .ok (.value (.tuple #[.int .u64 ((x - y - c) % 18446744073709551616), .int .u64 (if x < y + c then 1 else 0)])) w := by
  obtain ⟨X, rfl⟩ := Int.eq_ofNat_of_zero_le hx
  obtain ⟨Y, rfl⟩ := Int.eq_ofNat_of_zero_le hy
  obtain ⟨c, rfl⟩ := Int.eq_ofNat_of_zero_le hc0
  rw [run_callFunc_extern hf hname hb hn he, run_sub64 X Y c (by omega)]
  simp only [Result.andThen]
  have e1 : (((X + 18446744073709551616 - Y - c) % 18446744073709551616 : Nat) : Int) = ((X : Int) - Y - c) % 18446744073709551616 := by omega
  have e2 : ((if X < Y + c then 1 else 0 : Nat) : Int) = if (X : Int) < Y + c then 1 else 0 := by split <;> split <;> omega
  rw [e1, e2]
theorem tz64_key (x a : Nat) (hx : x < 18446744073709551616) (hx0 : x ≠ 0) (hlow : x &&& (18446744073709551616 - x) = a) :
    IntKind.u64.wrap (bits BinOp.and IntKind.u64 (x : Int) (IntKind.u64.wrap (-(x : Int))) * 285870213051353865) / 288230376151711744 = ((a * 285870213051353865 % 18446744073709551616 / 288230376151711744 : Nat) : Int) := by
  have e1 : IntKind.u64.wrap (-(x : Int)) = ((18446744073709551616 - x : Nat) : Int) := by rw [IntKind.wrap_u64]; omega
  rw [e1, bits_and_u64_nat x _ hx (by omega), hlow, IntKind.wrap_u64]
  omega
/-! ### helpers of the printed texts -/
theorem fu1 {α0 β : Type} {f g : α0 → β} (h : ∀ a0, f a0 = g a0) : f = g := funext fun a0 => h a0
theorem cf1 {α0 β : Type} {f g : α0 → β} (h : f = g) (a0 : α0) : f a0 = g a0 := by rw [h]
theorem fu2 {α0 α1 β : Type} {f g : α0 → α1 → β} (h : ∀ a0 a1, f a0 a1 = g a0 a1) : f = g := funext fun a0 => funext fun a1 => h a0 a1
theorem cf2 {α0 α1 β : Type} {f g : α0 → α1 → β} (h : f = g) (a0 : α0) (a1 : α1) : f a0 a1 = g a0 a1 := by rw [h]
theorem fu3 {α0 α1 α2 β : Type} {f g : α0 → α1 → α2 → β} (h : ∀ a0 a1 a2, f a0 a1 a2 = g a0 a1 a2) : f = g := funext fun a0 => funext fun a1 => funext fun a2 => h a0 a1 a2
theorem cf3 {α0 α1 α2 β : Type} {f g : α0 → α1 → α2 → β} (h : f = g) (a0 : α0) (a1 : α1) (a2 : α2) : f a0 a1 a2 = g a0 a1 a2 := by rw [h]
theorem fu4 {α0 α1 α2 α3 β : Type} {f g : α0 → α1 → α2 → α3 → β} (h : ∀ a0 a1 a2 a3, f a0 a1 a2 a3 = g a0 a1 a2 a3) : f = g := funext fun a0 => funext fun a1 => funext fun a2 => funext fun a3 => h a0 a1 a2 a3
theorem cf4 {α0 α1 α2 α3 β : Type} {f g : α0 → α1 → α2 → α3 → β} (h : f = g) (a0 : α0) (a1 : α1) (a2 : α2) (a3 : α3) : f a0 a1 a2 a3 = g a0 a1 a2 a3 := by rw [h]
theorem fu5 {α0 α1 α2 α3 α4 β : Type} {f g : α0 → α1 → α2 → α3 → α4 → β} (h : ∀ a0 a1 a2 a3 a4, f a0 a1 a2 a3 a4 = g a0 a1 a2 a3 a4) : f = g := funext fun a0 => funext fun a1 => funext fun a2 => funext fun a3 => funext fun a4 => h a0 a1 a2 a3 a4
theorem cf5 {α0 α1 α2 α3 α4 β : Type} {f g : α0 → α1 → α2 → α3 → α4 → β} (h : f = g) (a0 : α0) (a1 : α1) (a2 : α2) (a3 : α3) (a4 : α4) : f a0 a1 a2 a3 a4 = g a0 a1 a2 a3 a4 := by rw [h]
theorem fu6 {α0 α1 α2 α3 α4 α5 β : Type} {f g : α0 → α1 → α2 → α3 → α4 → α5 → β} (h : ∀ a0 a1 a2 a3 a4 a5, f a0 a1 a2 a3 a4 a5 = g a0 a1 a2 a3 a4 a5) : f = g := funext fun a0 => funext fun a1 => funext fun a2 => funext fun a3 => funext fun a4 => funext fun a5 => h a0 a1 a2 a3 a4 a5
theorem cf6 {α0 α1 α2 α3 α4 α5 β : Type} {f g : α0 → α1 → α2 → α3 → α4 → α5 → β} (h : f = g) (a0 : α0) (a1 : α1) (a2 : α2) (a3 : α3) (a4 : α4) (a5 : α5) : f a0 a1 a2 a3 a4 a5 = g a0 a1 a2 a3 a4 a5 := by rw [h]
theorem fu7 {α0 α1 α2 α3 α4 α5 α6 β : Type} {f g : α0 → α1 → α2 → α3 → α4 → α5 → α6 → β} (h : ∀ a0 a1 a2 a3 a4 a5 a6, f a0 a1 a2 a3 a4 a5 a6 = g a0 a1 a2 a3 a4 a5 a6) : f = g := funext fun a0 => funext fun a1 => funext fun a2 => funext fun a3 => funext fun a4 => funext fun a5 => funext fun a6 => h a0 a1 a2 a3 a4 a5 a6
theorem cf7 {α0 α1 α2 α3 α4 α5 α6 β : Type} {f g : α0 → α1 → α2 → α3 → α4 → α5 → α6 → β} (h : f = g) (a0 : α0) (a1 : α1) (a2 : α2) (a3 : α3) (a4 : α4) (a5 : α5) (a6 : α6) : f a0 a1 a2 a3 a4 a5 a6 = g a0 a1 a2 a3 a4 a5 a6 := by rw [h]
theorem fu8 {α0 α1 α2 α3 α4 α5 α6 α7 β : Type} {f g : α0 → α1 → α2 → α3 → α4 → α5 → α6 → α7 → β} (h : ∀ a0 a1 a2 a3 a4 a5 a6 a7, f a0 a1 a2 a3 a4 a5 a6 a7 = g a0 a1 a2 a3 a4 a5 a6 a7) : f = g := funext fun a0 => funext fun a1 => funext fun a2 => funext fun a3 => funext fun a4 => funext fun a5 => funext fun a6 => funext fun a7 => h a0 a1 a2 a3 a4 a5 a6 a7
theorem cf8 {α0 α1 α2 α3 α4 α5 α6 α7 β : Type} {f g : α0 → α1 → α2 → α3 → α4 → α5 → α6 → α7 → β} (h : f = g) (a0 : α0) (a1 : α1) (a2 : α2) (a3 : α3) (a4 : α4) (a5 : α5) (a6 : α6) (a7 : α7) : f a0 a1 a2 a3 a4 a5 a6 a7 = g a0 a1 a2 a3 a4 a5 a6 a7 := by rw [h]
theorem fu9 {α0 α1 α2 α3 α4 α5 α6 α7 α8 β : Type} {f g : α0 → α1 → α2 → α3 → α4 → α5 → α6 → α7 → α8 → β} (h : ∀ a0 a1 a2 a3 a4 a5 a6 a7 a8, f a0 a1 a2 a3 a4 a5 a6 a7 a8 = g a0 a1 a2 a3 a4 a5 a6 a7 a8) : f = g := funext fun a0 => funext fun a1 => funext fun a2 => funext fun a3 => funext fun a4 => funext fun a5 => funext fun a6 => funext fun a7 => funext fun a8 => h a0 a1 a2 a3 a4 a5 a6 a7 a8
theorem cf9 {α0 α1 α2 α3 α4 α5 α6 α7 α8 β : Type} {f g : α0 → α1 → α2 → α3 → α4 → α5 → α6 → α7 → α8 → β} (h : f = g) (a0 : α0) (a1 : α1) (a2 : α2) (a3 : α3) (a4 : α4) (a5 : α5) (a6 : α6) (a7 : α7) (a8 : α8) : f a0 a1 a2 a3 a4 a5 a6 a7 a8 = g a0 a1 a2 a3 a4 a5 a6 a7 a8 := by rw [h]
theorem fu11 {α0 α1 α2 α3 α4 α5 α6 α7 α8 α9 α10 β : Type} {f g : α0 → α1 → α2 → α3 → α4 → α5 → α6 → α7 → α8 → α9 → α10 → β} (h : ∀ a0 a1 a2 a3 a4 a5 a6 a7 a8 a9 a10, f a0 a1 a2 a3 a4 a5 a6 a7 a8 a9 a10 = g a0 a1 a2 a3 a4 a5 a6 a7 a8 a9 a10) : f = g := funext fun a0 => funext fun a1 => funext fun a2 => funext fun a3 => funext fun a4 => funext fun a5 => funext fun a6 => funext fun a7 => funext fun a8 => funext fun a9 => funext fun a10 => h a0 a1 a2 a3 a4 a5 a6 a7 a8 a9 a10
theorem cf11 {α0 α1 α2 α3 α4 α5 α6 α7 α8 α9 α10 β : Type} {f g : α0 → α1 → α2 → α3 → α4 → α5 → α6 → α7 → α8 → α9 → α10 → β} (h : f = g) (a0 : α0) (a1 : α1) (a2 : α2) (a3 : α3) (a4 : α4) (a5 : α5) (a6 : α6) (a7 : α7) (a8 : α8) (a9 : α9) (a10 : α10) : f a0 a1 a2 a3 a4 a5 a6 a7 a8 a9 a10 = g a0 a1 a2 a3 a4 a5 a6 a7 a8 a9 a10 := by rw [h]
abbrev COK {α : Type} (P : Program) (H : World → Prop) (i : Nat) (c : List D → (List D → Option α) → Option α) : Prop := ∀ ds K r, c ds K = some r → ∃ rs, K rs = some r ∧ CallD P H i ds rs
theorem cok {α β : Type} {P : Program} {H : World → Prop} {i : Nat} {ds : List D} {x : Option β} {g : β → List D} {K : List D → Option α} {r : α} (h : x.bind (fun y => K (g y)) = some r) (hok : ∀ y, x = some y → CallD P H i ds (g y)) : ∃ rs, K rs = some r ∧ CallD P H i ds rs := by
  obtain ⟨y, hy, hk⟩ := Option.bind_eq_some_iff.1 h
  exact ⟨_, hk, hok y hy⟩
end Go.Proofs.YtcacmhcekoeblaaDoorA
