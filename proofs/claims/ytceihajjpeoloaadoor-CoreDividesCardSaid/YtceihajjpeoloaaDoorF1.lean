/- What the functions compute, and that calls of them answer so (printed by gen.py). Conditions: HW, a table as it was laid. -/
import Derived.Test.YtceihajjpeoloaaDoorF0
namespace Go.Proofs.YtceihajjpeoloaaDoor.F
open Go.RowKit Go.Proofs.YtceihajjpeoloaaDoorA
set_option linter.unusedVariables false
set_option maxRecDepth 100000
/-! ### soft_Div: function 11 -/
noncomputable def soft_Div.b0 (c45 : Int → Int → Int → Option (Int × Int)) (a0 : Int) (a1 : Int) : Option (Int) := ((c45 a0 a1 0).bind fun t1 => some t1.1)
noncomputable def soft_Div.f (n : Nat) (a0 : Int) (a1 : Int) : Option (Int) := soft_Div.b0 (soft_div.f n) a0 a1
noncomputable def soft_Div.sg : Sig (Int) := s1 (sInt .u64)
noncomputable def soft_Div.code : Code := (Tryd.f11.body).getD .skip
noncomputable def soft_Div.cfg (c45 : Int → Int → Int → Option (Int × Int)) : Cfg (Int) := { T := tys, call := orCall 45 (soft_div.call c45) (noCall) }
noncomputable def soft_Div.cuts : List (Nat × List (Nat × Want)) := []
theorem soft_Div.e0 (c45 : Int → Int → Int → Option (Int × Int)) (n : Nat) (J : Nat → (ASt → Option (Int)) → ASt → Option (Int)) (a0 : Int) (a1 : Int) : afun (soft_Div.cfg c45) J soft_Div.cuts n soft_Div.code Tryd.f11.results.toList [false] [.int .u64 a0, .int .u64 a1] soft_Div.sg.out = soft_Div.b0 c45 a0 a1 := by kernel_rfl
theorem soft_Div.eq (n : Nat) (a0 : Int) (a1 : Int) : afun (soft_Div.cfg (soft_div.f n)) idJ soft_Div.cuts n soft_Div.code Tryd.f11.results.toList [false] [.int .u64 a0, .int .u64 a1] soft_Div.sg.out = soft_Div.f n a0 a1 := (soft_Div.e0 (soft_div.f n) n idJ a0 a1).trans (rfl)
theorem soft_Div.ok {n : Nat} {a0 : Int} {a1 : Int} {r : Int} (h : soft_Div.f n a0 a1 = some r) : CallD Tryd.prog HW 11 [.int .u64 a0, .int .u64 a1] (soft_Div.sg.enc r) :=
  fun_some hwS Tryd.func11 (by kernel_rfl) (body := soft_Div.code) (by kernel_rfl) tys_ok (c := soft_Div.cfg (soft_div.f n)) (orCall_ok (soft_div.call_ok (n := n)) noCall_ok) noW_ok (by kernel_rfl) (by kernel_rfl) (Nat.le_of_ble_eq_true (by kernel_rfl)) ((soft_Div.eq n a0 a1).trans h)
noncomputable def soft_Div.call {α : Type} (g : Int → Int → Option (Int)) (ds : List D) (K : List D → Option α) : Option α := match ds with
  | [.int .u64 a0, .int .u64 a1] => (g a0 a1).bind fun r => K (soft_Div.sg.enc r)
  | _ => none
theorem soft_Div.call_ok {α : Type} {n : Nat} (ds : List D) (K : List D → Option α) (r : α) (h : soft_Div.call (soft_Div.f n) ds K = some r) : ∃ rs, K rs = some r ∧ CallD Tryd.prog HW 11 ds rs := by
  unfold soft_Div.call at h
  split at h
  · obtain ⟨x, hx, hk⟩ := Option.bind_eq_some_iff.1 h
    exact ⟨_, hk, soft_Div.ok (n := n) hx⟩
  · cases h
/-! ### abacustop_middle: function 12 -/
noncomputable def abacustop_middle.b0 (a0 : Int) : Option (Bool) := (if (Go.bits .and .i64 (wrap64 (a0 / 4503599627370496)) 2047) ≥ 623 then some (decide ((Go.bits .and .i64 (wrap64 (a0 / 4503599627370496)) 2047) ≤ 1423)) else some false)
noncomputable def abacustop_middle.f (a0 : Int) : Option (Bool) := abacustop_middle.b0 a0
noncomputable def abacustop_middle.sg : Sig (Bool) := s1 (sBool)
noncomputable def abacustop_middle.code : Code := (Tryd.f12.body).getD .skip
noncomputable def abacustop_middle.cfg : Cfg (Bool) := { T := tys, call := noCall }
noncomputable def abacustop_middle.cuts : List (Nat × List (Nat × Want)) := []
theorem abacustop_middle.e0 (n : Nat) (J : Nat → (ASt → Option (Bool)) → ASt → Option (Bool)) (a0 : Int) : afun (abacustop_middle.cfg) J abacustop_middle.cuts n abacustop_middle.code Tryd.f12.results.toList [false] [.int .u64 a0] abacustop_middle.sg.out = abacustop_middle.b0 a0 := by kernel_rfl
theorem abacustop_middle.eq (n : Nat) (a0 : Int) : afun (abacustop_middle.cfg) idJ abacustop_middle.cuts n abacustop_middle.code Tryd.f12.results.toList [false] [.int .u64 a0] abacustop_middle.sg.out = abacustop_middle.f a0 := (abacustop_middle.e0 n idJ a0).trans (rfl)
theorem abacustop_middle.ok {n : Nat} {a0 : Int} {r : Bool} (h : abacustop_middle.f a0 = some r) : CallD Tryd.prog HW 12 [.int .u64 a0] (abacustop_middle.sg.enc r) :=
  fun_some hwS Tryd.func12 (by kernel_rfl) (body := abacustop_middle.code) (by kernel_rfl) tys_ok (c := abacustop_middle.cfg) noCall_ok noW_ok (by kernel_rfl) (by kernel_rfl) (Nat.le_of_ble_eq_true (by kernel_rfl)) ((abacustop_middle.eq n a0).trans h)
noncomputable def abacustop_middle.call {α : Type} (g : Int → Option (Bool)) (ds : List D) (K : List D → Option α) : Option α := match ds with
  | [.int .u64 a0] => (g a0).bind fun r => K (abacustop_middle.sg.enc r)
  | _ => none
theorem abacustop_middle.call_ok {α : Type} {n : Nat} (ds : List D) (K : List D → Option α) (r : α) (h : abacustop_middle.call abacustop_middle.f ds K = some r) : ∃ rs, K rs = some r ∧ CallD Tryd.prog HW 12 ds rs := by
  unfold abacustop_middle.call at h
  split at h
  · obtain ⟨x, hx, hk⟩ := Option.bind_eq_some_iff.1 h
    exact ⟨_, hk, abacustop_middle.ok (n := n) hx⟩
  · cases h
/-! ### soft_product: function 143 -/
noncomputable def soft_product.b0 (c100 : List Int → List Int → Option (List Int × Int)) (c118 : Int → Option (List Int)) (a0 : Bool) (a1 : Int) (a2 : Int) (a3 : Int) (a4 : Bool) (a5 : Int) (a6 : Int) (a7 : Int) : Option (Bool × List Int × Int) := ((c118 a2).bind fun t1 => ((c118 a6).bind fun t2 => ((c100 t1 t2).bind fun t3 => some (a0 != a4, t3.1, wrap64 (a3 + a7)))))
noncomputable def soft_product.f (n : Nat) (a0 : Bool) (a1 : Int) (a2 : Int) (a3 : Int) (a4 : Bool) (a5 : Int) (a6 : Int) (a7 : Int) : Option (Bool × List Int × Int) := soft_product.b0 (nat_Mul.f n) nat_FromUint.f a0 a1 a2 a3 a4 a5 a6 a7
noncomputable def soft_product.sg : Sig (Bool × List Int × Int) := s1 (sAgg (s2 (sBool) (s2 (sRow .u64) (s1 (sInt .i64)))))
noncomputable def soft_product.code : Code := (Tryd.f143.body).getD .skip
noncomputable def soft_product.cfg (c100 : List Int → List Int → Option (List Int × Int)) (c118 : Int → Option (List Int)) : Cfg (Bool × List Int × Int) := { T := tys, call := orCall 100 (nat_Mul.call c100) (orCall 118 (nat_FromUint.call c118) (noCall)) }
noncomputable def soft_product.cuts : List (Nat × List (Nat × Want)) := []
theorem soft_product.e0 (c100 : List Int → List Int → Option (List Int × Int)) (c118 : Int → Option (List Int)) (n : Nat) (J : Nat → (ASt → Option (Bool × List Int × Int)) → ASt → Option (Bool × List Int × Int)) (a0 : Bool) (a1 : Int) (a2 : Int) (a3 : Int) (a4 : Bool) (a5 : Int) (a6 : Int) (a7 : Int) : afun (soft_product.cfg c100 c118) J soft_product.cuts n soft_product.code Tryd.f143.results.toList [false] [.agg [.bool a0, .int .i64 a1, .int .u64 a2, .int .i64 a3], .agg [.bool a4, .int .i64 a5, .int .u64 a6, .int .i64 a7]] soft_product.sg.out = soft_product.b0 c100 c118 a0 a1 a2 a3 a4 a5 a6 a7 := by kernel_rfl
theorem soft_product.eq (n : Nat) (a0 : Bool) (a1 : Int) (a2 : Int) (a3 : Int) (a4 : Bool) (a5 : Int) (a6 : Int) (a7 : Int) : afun (soft_product.cfg (nat_Mul.f n) nat_FromUint.f) idJ soft_product.cuts n soft_product.code Tryd.f143.results.toList [false] [.agg [.bool a0, .int .i64 a1, .int .u64 a2, .int .i64 a3], .agg [.bool a4, .int .i64 a5, .int .u64 a6, .int .i64 a7]] soft_product.sg.out = soft_product.f n a0 a1 a2 a3 a4 a5 a6 a7 := (soft_product.e0 (nat_Mul.f n) nat_FromUint.f n idJ a0 a1 a2 a3 a4 a5 a6 a7).trans (rfl)
theorem soft_product.ok {n : Nat} {a0 : Bool} {a1 : Int} {a2 : Int} {a3 : Int} {a4 : Bool} {a5 : Int} {a6 : Int} {a7 : Int} {r : Bool × List Int × Int} (h : soft_product.f n a0 a1 a2 a3 a4 a5 a6 a7 = some r) : CallD Tryd.prog HW 143 [.agg [.bool a0, .int .i64 a1, .int .u64 a2, .int .i64 a3], .agg [.bool a4, .int .i64 a5, .int .u64 a6, .int .i64 a7]] (soft_product.sg.enc r) :=
  fun_some hwS Tryd.func143 (by kernel_rfl) (body := soft_product.code) (by kernel_rfl) tys_ok (c := soft_product.cfg (nat_Mul.f n) nat_FromUint.f) (orCall_ok (nat_Mul.call_ok (n := n)) (orCall_ok (nat_FromUint.call_ok (n := n)) noCall_ok)) noW_ok (by kernel_rfl) (by kernel_rfl) (Nat.le_of_ble_eq_true (by kernel_rfl)) ((soft_product.eq n a0 a1 a2 a3 a4 a5 a6 a7).trans h)
noncomputable def soft_product.call {α : Type} (g : Bool → Int → Int → Int → Bool → Int → Int → Int → Option (Bool × List Int × Int)) (ds : List D) (K : List D → Option α) : Option α := match ds with
  | [.agg [.bool a0, .int .i64 a1, .int .u64 a2, .int .i64 a3], .agg [.bool a4, .int .i64 a5, .int .u64 a6, .int .i64 a7]] => (g a0 a1 a2 a3 a4 a5 a6 a7).bind fun r => K (soft_product.sg.enc r)
  | _ => none
theorem soft_product.call_ok {α : Type} {n : Nat} (ds : List D) (K : List D → Option α) (r : α) (h : soft_product.call (soft_product.f n) ds K = some r) : ∃ rs, K rs = some r ∧ CallD Tryd.prog HW 143 ds rs := by
  unfold soft_product.call at h
  split at h
  · obtain ⟨x, hx, hk⟩ := Option.bind_eq_some_iff.1 h
    exact ⟨_, hk, soft_product.ok (n := n) hx⟩
  · cases h
/-! ### soft_termOf: function 140 -/
noncomputable def soft_termOf.b0 (c118 : Int → Option (List Int)) (a0 : Bool) (a1 : Int) (a2 : Int) (a3 : Int) : Option (Bool × List Int × Int) := ((c118 a2).bind fun t1 => some (a0, t1, a3))
noncomputable def soft_termOf.f (a0 : Bool) (a1 : Int) (a2 : Int) (a3 : Int) : Option (Bool × List Int × Int) := soft_termOf.b0 nat_FromUint.f a0 a1 a2 a3
noncomputable def soft_termOf.sg : Sig (Bool × List Int × Int) := s1 (sAgg (s2 (sBool) (s2 (sRow .u64) (s1 (sInt .i64)))))
noncomputable def soft_termOf.code : Code := (Tryd.f140.body).getD .skip
noncomputable def soft_termOf.cfg (c118 : Int → Option (List Int)) : Cfg (Bool × List Int × Int) := { T := tys, call := orCall 118 (nat_FromUint.call c118) (noCall) }
noncomputable def soft_termOf.cuts : List (Nat × List (Nat × Want)) := []
theorem soft_termOf.e0 (c118 : Int → Option (List Int)) (n : Nat) (J : Nat → (ASt → Option (Bool × List Int × Int)) → ASt → Option (Bool × List Int × Int)) (a0 : Bool) (a1 : Int) (a2 : Int) (a3 : Int) : afun (soft_termOf.cfg c118) J soft_termOf.cuts n soft_termOf.code Tryd.f140.results.toList [false] [.agg [.bool a0, .int .i64 a1, .int .u64 a2, .int .i64 a3]] soft_termOf.sg.out = soft_termOf.b0 c118 a0 a1 a2 a3 := by kernel_rfl
theorem soft_termOf.eq (n : Nat) (a0 : Bool) (a1 : Int) (a2 : Int) (a3 : Int) : afun (soft_termOf.cfg nat_FromUint.f) idJ soft_termOf.cuts n soft_termOf.code Tryd.f140.results.toList [false] [.agg [.bool a0, .int .i64 a1, .int .u64 a2, .int .i64 a3]] soft_termOf.sg.out = soft_termOf.f a0 a1 a2 a3 := (soft_termOf.e0 nat_FromUint.f n idJ a0 a1 a2 a3).trans (rfl)
theorem soft_termOf.ok {n : Nat} {a0 : Bool} {a1 : Int} {a2 : Int} {a3 : Int} {r : Bool × List Int × Int} (h : soft_termOf.f a0 a1 a2 a3 = some r) : CallD Tryd.prog HW 140 [.agg [.bool a0, .int .i64 a1, .int .u64 a2, .int .i64 a3]] (soft_termOf.sg.enc r) :=
  fun_some hwS Tryd.func140 (by kernel_rfl) (body := soft_termOf.code) (by kernel_rfl) tys_ok (c := soft_termOf.cfg nat_FromUint.f) (orCall_ok (nat_FromUint.call_ok (n := n)) noCall_ok) noW_ok (by kernel_rfl) (by kernel_rfl) (Nat.le_of_ble_eq_true (by kernel_rfl)) ((soft_termOf.eq n a0 a1 a2 a3).trans h)
noncomputable def soft_termOf.call {α : Type} (g : Bool → Int → Int → Int → Option (Bool × List Int × Int)) (ds : List D) (K : List D → Option α) : Option α := match ds with
  | [.agg [.bool a0, .int .i64 a1, .int .u64 a2, .int .i64 a3]] => (g a0 a1 a2 a3).bind fun r => K (soft_termOf.sg.enc r)
  | _ => none
theorem soft_termOf.call_ok {α : Type} {n : Nat} (ds : List D) (K : List D → Option α) (r : α) (h : soft_termOf.call soft_termOf.f ds K = some r) : ∃ rs, K rs = some r ∧ CallD Tryd.prog HW 140 ds rs := by
  unfold soft_termOf.call at h
  split at h
  · obtain ⟨x, hx, hk⟩ := Option.bind_eq_some_iff.1 h
    exact ⟨_, hk, soft_termOf.ok (n := n) hx⟩
  · cases h
/-! ### soft_term_plus: function 141 -/
noncomputable def soft_term_plus.b0 (c42 : List Int → List Int → Option (Int)) (c99 : List Int → List Int → Option (List Int × Int)) (c122 : List Int → List Int → Option (List Int × Int)) (c175 : List Int → Int → List Int → Int → Option (List Int × List Int × Int)) (a0 : Bool) (l1 : List Int) (a2 : Int) (a3 : Bool) (l4 : List Int) (a5 : Int) : Option (Bool × List Int × Int) := ((c175 l1 a2 l4 a5).bind fun t1 => (if (a0 == a3) = true then ((c99 t1.1 t1.2.1).bind fun t2 => some (a0, t2.1, t1.2.2)) else ((c42 t1.1 t1.2.1).bind fun t3 => (if t3 = 0 then some (false, ([] : List Int), 0) else (if t3 = 1 then ((c122 t1.1 t1.2.1).bind fun t4 => some (a0, t4.1, t1.2.2)) else ((c122 t1.2.1 t1.1).bind fun t5 => some (a3, t5.1, t1.2.2)))))))
noncomputable def soft_term_plus.f (n : Nat) (a0 : Bool) (l1 : List Int) (a2 : Int) (a3 : Bool) (l4 : List Int) (a5 : Int) : Option (Bool × List Int × Int) := soft_term_plus.b0 (nat_Cmp.f n) (nat_Add.f n) (nat_Sub.f n) (soft_aligned.f n) a0 l1 a2 a3 l4 a5
noncomputable def soft_term_plus.sg : Sig (Bool × List Int × Int) := s1 (sAgg (s2 (sBool) (s2 (sRow .u64) (s1 (sInt .i64)))))
noncomputable def soft_term_plus.code : Code := (Tryd.f141.body).getD .skip
noncomputable def soft_term_plus.cfg (c42 : List Int → List Int → Option (Int)) (c99 : List Int → List Int → Option (List Int × Int)) (c122 : List Int → List Int → Option (List Int × Int)) (c175 : List Int → Int → List Int → Int → Option (List Int × List Int × Int)) : Cfg (Bool × List Int × Int) := { T := tys, call := orCall 42 (nat_Cmp.call c42) (orCall 99 (nat_Add.call c99) (orCall 122 (nat_Sub.call c122) (orCall 175 (soft_aligned.call c175) (noCall)))) }
noncomputable def soft_term_plus.cuts : List (Nat × List (Nat × Want)) := []
theorem soft_term_plus.e0 (c42 : List Int → List Int → Option (Int)) (c99 : List Int → List Int → Option (List Int × Int)) (c122 : List Int → List Int → Option (List Int × Int)) (c175 : List Int → Int → List Int → Int → Option (List Int × List Int × Int)) (n : Nat) (J : Nat → (ASt → Option (Bool × List Int × Int)) → ASt → Option (Bool × List Int × Int)) (a0 : Bool) (l1 : List Int) (a2 : Int) (a3 : Bool) (l4 : List Int) (a5 : Int) : afun (soft_term_plus.cfg c42 c99 c122 c175) J soft_term_plus.cuts n soft_term_plus.code Tryd.f141.results.toList [false] [.agg [.bool a0, .ro .u64 l1, .int .i64 a2], .agg [.bool a3, .ro .u64 l4, .int .i64 a5]] soft_term_plus.sg.out = soft_term_plus.b0 c42 c99 c122 c175 a0 l1 a2 a3 l4 a5 := by kernel_rfl
theorem soft_term_plus.eq (n : Nat) (a0 : Bool) (l1 : List Int) (a2 : Int) (a3 : Bool) (l4 : List Int) (a5 : Int) : afun (soft_term_plus.cfg (nat_Cmp.f n) (nat_Add.f n) (nat_Sub.f n) (soft_aligned.f n)) idJ soft_term_plus.cuts n soft_term_plus.code Tryd.f141.results.toList [false] [.agg [.bool a0, .ro .u64 l1, .int .i64 a2], .agg [.bool a3, .ro .u64 l4, .int .i64 a5]] soft_term_plus.sg.out = soft_term_plus.f n a0 l1 a2 a3 l4 a5 := (soft_term_plus.e0 (nat_Cmp.f n) (nat_Add.f n) (nat_Sub.f n) (soft_aligned.f n) n idJ a0 l1 a2 a3 l4 a5).trans (rfl)
theorem soft_term_plus.ok {n : Nat} {a0 : Bool} {l1 : List Int} {a2 : Int} {a3 : Bool} {l4 : List Int} {a5 : Int} {r : Bool × List Int × Int} (h : soft_term_plus.f n a0 l1 a2 a3 l4 a5 = some r) : CallD Tryd.prog HW 141 [.agg [.bool a0, .ro .u64 l1, .int .i64 a2], .agg [.bool a3, .ro .u64 l4, .int .i64 a5]] (soft_term_plus.sg.enc r) :=
  fun_some hwS Tryd.func141 (by kernel_rfl) (body := soft_term_plus.code) (by kernel_rfl) tys_ok (c := soft_term_plus.cfg (nat_Cmp.f n) (nat_Add.f n) (nat_Sub.f n) (soft_aligned.f n)) (orCall_ok (nat_Cmp.call_ok (n := n)) (orCall_ok (nat_Add.call_ok (n := n)) (orCall_ok (nat_Sub.call_ok (n := n)) (orCall_ok (soft_aligned.call_ok (n := n)) noCall_ok)))) noW_ok (by kernel_rfl) (by kernel_rfl) (Nat.le_of_ble_eq_true (by kernel_rfl)) ((soft_term_plus.eq n a0 l1 a2 a3 l4 a5).trans h)
noncomputable def soft_term_plus.call {α : Type} (g : Bool → List Int → Int → Bool → List Int → Int → Option (Bool × List Int × Int)) (ds : List D) (K : List D → Option α) : Option α := match ds with
  | [.agg [.bool a0, .ro .u64 l1, .int .i64 a2], .agg [.bool a3, .ro .u64 l4, .int .i64 a5]] => (g a0 l1 a2 a3 l4 a5).bind fun r => K (soft_term_plus.sg.enc r)
  | _ => none
theorem soft_term_plus.call_ok {α : Type} {n : Nat} (ds : List D) (K : List D → Option α) (r : α) (h : soft_term_plus.call (soft_term_plus.f n) ds K = some r) : ∃ rs, K rs = some r ∧ CallD Tryd.prog HW 141 ds rs := by
  unfold soft_term_plus.call at h
  split at h
  · obtain ⟨x, hx, hk⟩ := Option.bind_eq_some_iff.1 h
    exact ⟨_, hk, soft_term_plus.ok (n := n) hx⟩
  · cases h
/-! ### soft_term_rounded: function 142 -/
noncomputable def soft_term_rounded.b0 (c43 : Bool → List Int → Int → Bool → Option (Int × Int)) (c138 : Bool → Int → Option (Int)) (c139 : Bool → List Int → List Int → Int → Int → Option (Int)) (a0 : Bool) (l1 : List Int) (a2 : Int) : Option (Int × Int) := (if (ln l1) = 0 then ((c138 a0 0).bind fun t1 => some (t1, 0)) else ((c43 a0 l1 a2 false).bind fun t2 => ((c139 a0 l1 [1] a2 t2.1).bind fun t3 => some (t2.1, t3))))
noncomputable def soft_term_rounded.f (n : Nat) (a0 : Bool) (l1 : List Int) (a2 : Int) : Option (Int × Int) := soft_term_rounded.b0 (ieee_Round.f n) soft_withSign.f (soft_fraction_flags.f n) a0 l1 a2
noncomputable def soft_term_rounded.sg : Sig (Int × Int) := s2 (sInt .u64) (s1 (sInt .i64))
noncomputable def soft_term_rounded.code : Code := (Tryd.f142.body).getD .skip
noncomputable def soft_term_rounded.cfg (c43 : Bool → List Int → Int → Bool → Option (Int × Int)) (c138 : Bool → Int → Option (Int)) (c139 : Bool → List Int → List Int → Int → Int → Option (Int)) : Cfg (Int × Int) := { T := tys, call := orCall 43 (ieee_Round.call c43) (orCall 138 (soft_withSign.call c138) (orCall 139 (soft_fraction_flags.call c139) (noCall))) }
noncomputable def soft_term_rounded.cuts : List (Nat × List (Nat × Want)) := []
theorem soft_term_rounded.e0 (c43 : Bool → List Int → Int → Bool → Option (Int × Int)) (c138 : Bool → Int → Option (Int)) (c139 : Bool → List Int → List Int → Int → Int → Option (Int)) (n : Nat) (J : Nat → (ASt → Option (Int × Int)) → ASt → Option (Int × Int)) (a0 : Bool) (l1 : List Int) (a2 : Int) : afun (soft_term_rounded.cfg c43 c138 c139) J soft_term_rounded.cuts n soft_term_rounded.code Tryd.f142.results.toList [false, false] [.agg [.bool a0, .ro .u64 l1, .int .i64 a2]] soft_term_rounded.sg.out = soft_term_rounded.b0 c43 c138 c139 a0 l1 a2 := by kernel_rfl
theorem soft_term_rounded.eq (n : Nat) (a0 : Bool) (l1 : List Int) (a2 : Int) : afun (soft_term_rounded.cfg (ieee_Round.f n) soft_withSign.f (soft_fraction_flags.f n)) idJ soft_term_rounded.cuts n soft_term_rounded.code Tryd.f142.results.toList [false, false] [.agg [.bool a0, .ro .u64 l1, .int .i64 a2]] soft_term_rounded.sg.out = soft_term_rounded.f n a0 l1 a2 := (soft_term_rounded.e0 (ieee_Round.f n) soft_withSign.f (soft_fraction_flags.f n) n idJ a0 l1 a2).trans (rfl)
theorem soft_term_rounded.ok {n : Nat} {a0 : Bool} {l1 : List Int} {a2 : Int} {r : Int × Int} (h : soft_term_rounded.f n a0 l1 a2 = some r) : CallD Tryd.prog HW 142 [.agg [.bool a0, .ro .u64 l1, .int .i64 a2]] (soft_term_rounded.sg.enc r) :=
  fun_some hwS Tryd.func142 (by kernel_rfl) (body := soft_term_rounded.code) (by kernel_rfl) tys_ok (c := soft_term_rounded.cfg (ieee_Round.f n) soft_withSign.f (soft_fraction_flags.f n)) (orCall_ok (ieee_Round.call_ok (n := n)) (orCall_ok (soft_withSign.call_ok (n := n)) (orCall_ok (soft_fraction_flags.call_ok (n := n)) noCall_ok))) noW_ok (by kernel_rfl) (by kernel_rfl) (Nat.le_of_ble_eq_true (by kernel_rfl)) ((soft_term_rounded.eq n a0 l1 a2).trans h)
noncomputable def soft_term_rounded.call {α : Type} (g : Bool → List Int → Int → Option (Int × Int)) (ds : List D) (K : List D → Option α) : Option α := match ds with
  | [.agg [.bool a0, .ro .u64 l1, .int .i64 a2]] => (g a0 l1 a2).bind fun r => K (soft_term_rounded.sg.enc r)
  | _ => none
theorem soft_term_rounded.call_ok {α : Type} {n : Nat} (ds : List D) (K : List D → Option α) (r : α) (h : soft_term_rounded.call (soft_term_rounded.f n) ds K = some r) : ∃ rs, K rs = some r ∧ CallD Tryd.prog HW 142 ds rs := by
  unfold soft_term_rounded.call at h
  split at h
  · obtain ⟨x, hx, hk⟩ := Option.bind_eq_some_iff.1 h
    exact ⟨_, hk, soft_term_rounded.ok (n := n) hx⟩
  · cases h
/-! ### soft_fma: function 65 -/
noncomputable def soft_fma.b0 (c73 : Int → Option (Bool × Int × Int × Int)) (c137 : Option (Int × Int)) (c138 : Bool → Int → Option (Int)) (c140 : Bool → Int → Int → Int → Option (Bool × List Int × Int)) (c141 : Bool → List Int → Int → Bool → List Int → Int → Option (Bool × List Int × Int)) (c142 : Bool → List Int → Int → Option (Int × Int)) (c143 : Bool → Int → Int → Int → Bool → Int → Int → Int → Option (Bool × List Int × Int)) (k15 : Int → Bool → Bool → Int → Int → Int → Bool → Int → Int → Int → Bool → Int → Int → Int → Option (Int × Int)) (a0 : Int) (a1 : Int) (a2 : Int) : Option (Int × Int) := ((c73 a0).bind fun t1 => ((c73 a1).bind fun t2 => ((c73 a2).bind fun t3 => (if t1.2.1 = 3 then k15 a2 true t1.1 t1.2.1 t1.2.2.1 t1.2.2.2 t2.1 t2.2.1 t2.2.2.1 t2.2.2.2 t3.1 t3.2.1 t3.2.2.1 t3.2.2.2 else k15 a2 (decide (t2.2.1 = 3)) t1.1 t1.2.1 t1.2.2.1 t1.2.2.2 t2.1 t2.2.1 t2.2.2.1 t2.2.2.2 t3.1 t3.2.1 t3.2.2.1 t3.2.2.2))))
noncomputable def soft_fma.b15 (c73 : Int → Option (Bool × Int × Int × Int)) (c137 : Option (Int × Int)) (c138 : Bool → Int → Option (Int)) (c140 : Bool → Int → Int → Int → Option (Bool × List Int × Int)) (c141 : Bool → List Int → Int → Bool → List Int → Int → Option (Bool × List Int × Int)) (c142 : Bool → List Int → Int → Option (Int × Int)) (c143 : Bool → Int → Int → Int → Bool → Int → Int → Int → Option (Bool × List Int × Int)) (k3999 : Int → Bool → Bool → Bool → Bool → Int → Int → Int → Bool → Int → Int → Int → Bool → Int → Int → Int → Option (Int × Int)) (x0 : Int) (x1 : Bool) (x2 : Bool) (x3 : Int) (x4 : Int) (x5 : Int) (x6 : Bool) (x7 : Int) (x8 : Int) (x9 : Int) (x10 : Bool) (x11 : Int) (x12 : Int) (x13 : Int) : Option (Int × Int) := (if x3 = 4 then some (9221120237041090560, 0) else (if x7 = 4 then some (9221120237041090560, 0) else (if x11 = 4 then some (9221120237041090560, 0) else (if x1 = true then (if x3 = 0 then ((c137).bind fun t1 => some (t1.1, t1.2)) else (if x7 = 0 then ((c137).bind fun t2 => some (t2.1, t2.2)) else (if x1 = true then (if x11 = 3 then k3999 x0 x1 (x2 != x6) (x10 != (x2 != x6)) x2 x3 x4 x5 x6 x7 x8 x9 x10 x11 x12 x13 else k3999 x0 x1 (x2 != x6) false x2 x3 x4 x5 x6 x7 x8 x9 x10 x11 x12 x13) else k3999 x0 x1 (x2 != x6) false x2 x3 x4 x5 x6 x7 x8 x9 x10 x11 x12 x13))) else (if x1 = true then (if x11 = 3 then k3999 x0 x1 (x2 != x6) (x10 != (x2 != x6)) x2 x3 x4 x5 x6 x7 x8 x9 x10 x11 x12 x13 else k3999 x0 x1 (x2 != x6) false x2 x3 x4 x5 x6 x7 x8 x9 x10 x11 x12 x13) else k3999 x0 x1 (x2 != x6) false x2 x3 x4 x5 x6 x7 x8 x9 x10 x11 x12 x13)))))
noncomputable def soft_fma.b3999 (c73 : Int → Option (Bool × Int × Int × Int)) (c137 : Option (Int × Int)) (c138 : Bool → Int → Option (Int)) (c140 : Bool → Int → Int → Int → Option (Bool × List Int × Int)) (c141 : Bool → List Int → Int → Bool → List Int → Int → Option (Bool × List Int × Int)) (c142 : Bool → List Int → Int → Option (Int × Int)) (c143 : Bool → Int → Int → Int → Bool → Int → Int → Int → Option (Bool × List Int × Int)) (x0 : Int) (x1 : Bool) (x2 : Bool) (x3 : Bool) (x4 : Bool) (x5 : Int) (x6 : Int) (x7 : Int) (x8 : Bool) (x9 : Int) (x10 : Int) (x11 : Int) (x12 : Bool) (x13 : Int) (x14 : Int) (x15 : Int) : Option (Int × Int) := (if x3 = true then ((c137).bind fun t1 => some (t1.1, t1.2)) else (if x1 = true then ((c138 x2 9218868437227405312).bind fun t2 => some (t2, 0)) else (if x13 = 3 then some (x0, 0) else ((c143 x4 x5 x6 x7 x8 x9 x10 x11).bind fun t3 => ((c140 x12 x13 x14 x15).bind fun t4 => ((c141 t3.1 t3.2.1 t3.2.2 t4.1 t4.2.1 t4.2.2).bind fun t5 => ((c142 t5.1 t5.2.1 t5.2.2).bind fun t6 => some (t6.1, t6.2))))))))
noncomputable def soft_fma.l3999 (n : Nat) (x0 : Int) (x1 : Bool) (x2 : Bool) (x3 : Bool) (x4 : Bool) (x5 : Int) (x6 : Int) (x7 : Int) (x8 : Bool) (x9 : Int) (x10 : Int) (x11 : Int) (x12 : Bool) (x13 : Int) (x14 : Int) (x15 : Int) : Option (Int × Int) := soft_fma.b3999 ieee_Decode.f soft_invalid.f soft_withSign.f soft_termOf.f (soft_term_plus.f n) (soft_term_rounded.f n) (soft_product.f n) x0 x1 x2 x3 x4 x5 x6 x7 x8 x9 x10 x11 x12 x13 x14 x15
noncomputable def soft_fma.l15 (n : Nat) (x0 : Int) (x1 : Bool) (x2 : Bool) (x3 : Int) (x4 : Int) (x5 : Int) (x6 : Bool) (x7 : Int) (x8 : Int) (x9 : Int) (x10 : Bool) (x11 : Int) (x12 : Int) (x13 : Int) : Option (Int × Int) := soft_fma.b15 ieee_Decode.f soft_invalid.f soft_withSign.f soft_termOf.f (soft_term_plus.f n) (soft_term_rounded.f n) (soft_product.f n) (soft_fma.l3999 n) x0 x1 x2 x3 x4 x5 x6 x7 x8 x9 x10 x11 x12 x13
noncomputable def soft_fma.f (n : Nat) (a0 : Int) (a1 : Int) (a2 : Int) : Option (Int × Int) := soft_fma.b0 ieee_Decode.f soft_invalid.f soft_withSign.f soft_termOf.f (soft_term_plus.f n) (soft_term_rounded.f n) (soft_product.f n) (soft_fma.l15 n) a0 a1 a2
noncomputable def soft_fma.sg : Sig (Int × Int) := s2 (sInt .u64) (s1 (sInt .i64))
noncomputable def soft_fma.code : Code := (Tryd.f65.body).getD .skip
noncomputable def soft_fma.cfg (c73 : Int → Option (Bool × Int × Int × Int)) (c137 : Option (Int × Int)) (c138 : Bool → Int → Option (Int)) (c140 : Bool → Int → Int → Int → Option (Bool × List Int × Int)) (c141 : Bool → List Int → Int → Bool → List Int → Int → Option (Bool × List Int × Int)) (c142 : Bool → List Int → Int → Option (Int × Int)) (c143 : Bool → Int → Int → Int → Bool → Int → Int → Int → Option (Bool × List Int × Int)) : Cfg (Int × Int) := { T := tys, call := orCall 73 (ieee_Decode.call c73) (orCall 137 (soft_invalid.call c137) (orCall 138 (soft_withSign.call c138) (orCall 140 (soft_termOf.call c140) (orCall 141 (soft_term_plus.call c141) (orCall 142 (soft_term_rounded.call c142) (orCall 143 (soft_product.call c143) (noCall))))))) }
noncomputable def soft_fma.cuts : List (Nat × List (Nat × Want)) := [(15, [(2, .keep), (8, .keep), (9, .keep), (10, .keep), (11, .keep)]), (3999, [(2, .keep), (8, .keep), (9, .keep), (10, .keep), (11, .keep), (12, .keep), (61, .keep)])]
noncomputable def soft_fma.s15 (x0 : Int) (x1 : Bool) (x2 : Bool) (x3 : Int) (x4 : Int) (x5 : Int) (x6 : Bool) (x7 : Int) (x8 : Int) (x9 : Int) (x10 : Bool) (x11 : Int) (x12 : Int) (x13 : Int) : ASt := ⟨[(2, .int .u64 x0), (8, .ptr 0 0), (9, .ptr 1 0), (10, .ptr 2 0), (11, .bool x1)], [.cells 42 [.bool x2, .int .i64 x3, .int .u64 x4, .int .i64 x5], .cells 42 [.bool x6, .int .i64 x7, .int .u64 x8, .int .i64 x9], .cells 42 [.bool x10, .int .i64 x11, .int .u64 x12, .int .i64 x13]]⟩
noncomputable def soft_fma.s3999 (x0 : Int) (x1 : Bool) (x2 : Bool) (x3 : Bool) (x4 : Bool) (x5 : Int) (x6 : Int) (x7 : Int) (x8 : Bool) (x9 : Int) (x10 : Int) (x11 : Int) (x12 : Bool) (x13 : Int) (x14 : Int) (x15 : Int) : ASt := ⟨[(2, .int .u64 x0), (8, .ptr 0 0), (9, .ptr 1 0), (10, .ptr 2 0), (11, .bool x1), (12, .bool x2), (61, .bool x3)], [.cells 42 [.bool x4, .int .i64 x5, .int .u64 x6, .int .i64 x7], .cells 42 [.bool x8, .int .i64 x9, .int .u64 x10, .int .i64 x11], .cells 42 [.bool x12, .int .i64 x13, .int .u64 x14, .int .i64 x15]]⟩
noncomputable def soft_fma.A (c73 : Int → Option (Bool × Int × Int × Int)) (c137 : Option (Int × Int)) (c138 : Bool → Int → Option (Int)) (c140 : Bool → Int → Int → Int → Option (Bool × List Int × Int)) (c141 : Bool → List Int → Int → Bool → List Int → Int → Option (Bool × List Int × Int)) (c142 : Bool → List Int → Int → Option (Int × Int)) (c143 : Bool → Int → Int → Int → Bool → Int → Int → Int → Option (Bool × List Int × Int)) (n : Nat) (J : Nat → (ASt → Option (Int × Int)) → ASt → Option (Int × Int)) (q : Nat) (ms : List Nat) : ASt → Option (Int × Int) := acont (soft_fma.cfg c73 c137 c138 c140 c141 c142 c143) J soft_fma.cuts n q soft_fma.code 1 ms (aend (soft_fma.cfg c73 c137 c138 c140 c141 c142 c143) Tryd.f65.results.toList [false, false] soft_fma.sg.out)
theorem soft_fma.e0 (c73 : Int → Option (Bool × Int × Int × Int)) (c137 : Option (Int × Int)) (c138 : Bool → Int → Option (Int)) (c140 : Bool → Int → Int → Int → Option (Bool × List Int × Int)) (c141 : Bool → List Int → Int → Bool → List Int → Int → Option (Bool × List Int × Int)) (c142 : Bool → List Int → Int → Option (Int × Int)) (c143 : Bool → Int → Int → Int → Bool → Int → Int → Int → Option (Bool × List Int × Int)) (n : Nat) (J : Nat → (ASt → Option (Int × Int)) → ASt → Option (Int × Int)) (a0 : Int) (a1 : Int) (a2 : Int) : afun (soft_fma.cfg c73 c137 c138 c140 c141 c142 c143) J soft_fma.cuts n soft_fma.code Tryd.f65.results.toList [false, false] [.int .u64 a0, .int .u64 a1, .int .u64 a2] soft_fma.sg.out = soft_fma.b0 c73 c137 c138 c140 c141 c142 c143 (fun y0 y1 y2 y3 y4 y5 y6 y7 y8 y9 y10 y11 y12 y13 => J 15 (soft_fma.A c73 c137 c138 c140 c141 c142 c143 n J 15 []) (soft_fma.s15 y0 y1 y2 y3 y4 y5 y6 y7 y8 y9 y10 y11 y12 y13)) a0 a1 a2 := by kernel_rfl
theorem soft_fma.e15 (c73 : Int → Option (Bool × Int × Int × Int)) (c137 : Option (Int × Int)) (c138 : Bool → Int → Option (Int)) (c140 : Bool → Int → Int → Int → Option (Bool × List Int × Int)) (c141 : Bool → List Int → Int → Bool → List Int → Int → Option (Bool × List Int × Int)) (c142 : Bool → List Int → Int → Option (Int × Int)) (c143 : Bool → Int → Int → Int → Bool → Int → Int → Int → Option (Bool × List Int × Int)) (n : Nat) (J : Nat → (ASt → Option (Int × Int)) → ASt → Option (Int × Int)) (x0 : Int) (x1 : Bool) (x2 : Bool) (x3 : Int) (x4 : Int) (x5 : Int) (x6 : Bool) (x7 : Int) (x8 : Int) (x9 : Int) (x10 : Bool) (x11 : Int) (x12 : Int) (x13 : Int) : soft_fma.A c73 c137 c138 c140 c141 c142 c143 n J 15 [] (soft_fma.s15 x0 x1 x2 x3 x4 x5 x6 x7 x8 x9 x10 x11 x12 x13) = soft_fma.b15 c73 c137 c138 c140 c141 c142 c143 (fun y0 y1 y2 y3 y4 y5 y6 y7 y8 y9 y10 y11 y12 y13 y14 y15 => J 3999 (soft_fma.A c73 c137 c138 c140 c141 c142 c143 n J 3999 []) (soft_fma.s3999 y0 y1 y2 y3 y4 y5 y6 y7 y8 y9 y10 y11 y12 y13 y14 y15)) x0 x1 x2 x3 x4 x5 x6 x7 x8 x9 x10 x11 x12 x13 := by kernel_rfl
theorem soft_fma.e3999 (c73 : Int → Option (Bool × Int × Int × Int)) (c137 : Option (Int × Int)) (c138 : Bool → Int → Option (Int)) (c140 : Bool → Int → Int → Int → Option (Bool × List Int × Int)) (c141 : Bool → List Int → Int → Bool → List Int → Int → Option (Bool × List Int × Int)) (c142 : Bool → List Int → Int → Option (Int × Int)) (c143 : Bool → Int → Int → Int → Bool → Int → Int → Int → Option (Bool × List Int × Int)) (n : Nat) (J : Nat → (ASt → Option (Int × Int)) → ASt → Option (Int × Int)) (x0 : Int) (x1 : Bool) (x2 : Bool) (x3 : Bool) (x4 : Bool) (x5 : Int) (x6 : Int) (x7 : Int) (x8 : Bool) (x9 : Int) (x10 : Int) (x11 : Int) (x12 : Bool) (x13 : Int) (x14 : Int) (x15 : Int) : soft_fma.A c73 c137 c138 c140 c141 c142 c143 n J 3999 [] (soft_fma.s3999 x0 x1 x2 x3 x4 x5 x6 x7 x8 x9 x10 x11 x12 x13 x14 x15) = soft_fma.b3999 c73 c137 c138 c140 c141 c142 c143 x0 x1 x2 x3 x4 x5 x6 x7 x8 x9 x10 x11 x12 x13 x14 x15 := by kernel_rfl
theorem soft_fma.q3999 (n : Nat) (x0 : Int) (x1 : Bool) (x2 : Bool) (x3 : Bool) (x4 : Bool) (x5 : Int) (x6 : Int) (x7 : Int) (x8 : Bool) (x9 : Int) (x10 : Int) (x11 : Int) (x12 : Bool) (x13 : Int) (x14 : Int) (x15 : Int) : soft_fma.A ieee_Decode.f soft_invalid.f soft_withSign.f soft_termOf.f (soft_term_plus.f n) (soft_term_rounded.f n) (soft_product.f n) n idJ 3999 [] (soft_fma.s3999 x0 x1 x2 x3 x4 x5 x6 x7 x8 x9 x10 x11 x12 x13 x14 x15) = soft_fma.l3999 n x0 x1 x2 x3 x4 x5 x6 x7 x8 x9 x10 x11 x12 x13 x14 x15 := (soft_fma.e3999 ieee_Decode.f soft_invalid.f soft_withSign.f soft_termOf.f (soft_term_plus.f n) (soft_term_rounded.f n) (soft_product.f n) n idJ x0 x1 x2 x3 x4 x5 x6 x7 x8 x9 x10 x11 x12 x13 x14 x15).trans (rfl)
theorem soft_fma.q15 (n : Nat) (x0 : Int) (x1 : Bool) (x2 : Bool) (x3 : Int) (x4 : Int) (x5 : Int) (x6 : Bool) (x7 : Int) (x8 : Int) (x9 : Int) (x10 : Bool) (x11 : Int) (x12 : Int) (x13 : Int) : soft_fma.A ieee_Decode.f soft_invalid.f soft_withSign.f soft_termOf.f (soft_term_plus.f n) (soft_term_rounded.f n) (soft_product.f n) n idJ 15 [] (soft_fma.s15 x0 x1 x2 x3 x4 x5 x6 x7 x8 x9 x10 x11 x12 x13) = soft_fma.l15 n x0 x1 x2 x3 x4 x5 x6 x7 x8 x9 x10 x11 x12 x13 := (soft_fma.e15 ieee_Decode.f soft_invalid.f soft_withSign.f soft_termOf.f (soft_term_plus.f n) (soft_term_rounded.f n) (soft_product.f n) n idJ x0 x1 x2 x3 x4 x5 x6 x7 x8 x9 x10 x11 x12 x13).trans (congrFun (congrFun (congrFun (congrFun (congrFun (congrFun (congrFun (congrFun (congrFun (congrFun (congrFun (congrFun (congrFun (congrFun (congrArg (soft_fma.b15 ieee_Decode.f soft_invalid.f soft_withSign.f soft_termOf.f (soft_term_plus.f n) (soft_term_rounded.f n) (soft_product.f n)) (funext fun y0 => (funext fun y1 => (funext fun y2 => (funext fun y3 => (funext fun y4 => (funext fun y5 => (funext fun y6 => (funext fun y7 => (funext fun y8 => (funext fun y9 => (funext fun y10 => (funext fun y11 => (funext fun y12 => (funext fun y13 => (funext fun y14 => (funext fun y15 => soft_fma.q3999 n y0 y1 y2 y3 y4 y5 y6 y7 y8 y9 y10 y11 y12 y13 y14 y15))))))))))))))))) x0) x1) x2) x3) x4) x5) x6) x7) x8) x9) x10) x11) x12) x13)
theorem soft_fma.eq (n : Nat) (a0 : Int) (a1 : Int) (a2 : Int) : afun (soft_fma.cfg ieee_Decode.f soft_invalid.f soft_withSign.f soft_termOf.f (soft_term_plus.f n) (soft_term_rounded.f n) (soft_product.f n)) idJ soft_fma.cuts n soft_fma.code Tryd.f65.results.toList [false, false] [.int .u64 a0, .int .u64 a1, .int .u64 a2] soft_fma.sg.out = soft_fma.f n a0 a1 a2 := (soft_fma.e0 ieee_Decode.f soft_invalid.f soft_withSign.f soft_termOf.f (soft_term_plus.f n) (soft_term_rounded.f n) (soft_product.f n) n idJ a0 a1 a2).trans (congrFun (congrFun (congrFun (congrArg (soft_fma.b0 ieee_Decode.f soft_invalid.f soft_withSign.f soft_termOf.f (soft_term_plus.f n) (soft_term_rounded.f n) (soft_product.f n)) (funext fun y0 => (funext fun y1 => (funext fun y2 => (funext fun y3 => (funext fun y4 => (funext fun y5 => (funext fun y6 => (funext fun y7 => (funext fun y8 => (funext fun y9 => (funext fun y10 => (funext fun y11 => (funext fun y12 => (funext fun y13 => soft_fma.q15 n y0 y1 y2 y3 y4 y5 y6 y7 y8 y9 y10 y11 y12 y13))))))))))))))) a0) a1) a2)
theorem soft_fma.ok {n : Nat} {a0 : Int} {a1 : Int} {a2 : Int} {r : Int × Int} (h : soft_fma.f n a0 a1 a2 = some r) : CallD Tryd.prog HW 65 [.int .u64 a0, .int .u64 a1, .int .u64 a2] (soft_fma.sg.enc r) :=
  fun_some hwS Tryd.func65 (by kernel_rfl) (body := soft_fma.code) (by kernel_rfl) tys_ok (c := soft_fma.cfg ieee_Decode.f soft_invalid.f soft_withSign.f soft_termOf.f (soft_term_plus.f n) (soft_term_rounded.f n) (soft_product.f n)) (orCall_ok (ieee_Decode.call_ok (n := n)) (orCall_ok (soft_invalid.call_ok (n := n)) (orCall_ok (soft_withSign.call_ok (n := n)) (orCall_ok (soft_termOf.call_ok (n := n)) (orCall_ok (soft_term_plus.call_ok (n := n)) (orCall_ok (soft_term_rounded.call_ok (n := n)) (orCall_ok (soft_product.call_ok (n := n)) noCall_ok))))))) noW_ok (by kernel_rfl) (by kernel_rfl) (Nat.le_of_ble_eq_true (by kernel_rfl)) ((soft_fma.eq n a0 a1 a2).trans h)
noncomputable def soft_fma.call {α : Type} (g : Int → Int → Int → Option (Int × Int)) (ds : List D) (K : List D → Option α) : Option α := match ds with
  | [.int .u64 a0, .int .u64 a1, .int .u64 a2] => (g a0 a1 a2).bind fun r => K (soft_fma.sg.enc r)
  | _ => none
theorem soft_fma.call_ok {α : Type} {n : Nat} (ds : List D) (K : List D → Option α) (r : α) (h : soft_fma.call (soft_fma.f n) ds K = some r) : ∃ rs, K rs = some r ∧ CallD Tryd.prog HW 65 ds rs := by
  unfold soft_fma.call at h
  split at h
  · obtain ⟨x, hx, hk⟩ := Option.bind_eq_some_iff.1 h
    exact ⟨_, hk, soft_fma.ok (n := n) hx⟩
  · cases h
/-! ### soft_Fma: function 23 -/
noncomputable def soft_Fma.b0 (c65 : Int → Int → Int → Option (Int × Int)) (a0 : Int) (a1 : Int) (a2 : Int) : Option (Int) := ((c65 a0 a1 a2).bind fun t1 => some t1.1)
noncomputable def soft_Fma.f (n : Nat) (a0 : Int) (a1 : Int) (a2 : Int) : Option (Int) := soft_Fma.b0 (soft_fma.f n) a0 a1 a2
noncomputable def soft_Fma.sg : Sig (Int) := s1 (sInt .u64)
noncomputable def soft_Fma.code : Code := (Tryd.f23.body).getD .skip
noncomputable def soft_Fma.cfg (c65 : Int → Int → Int → Option (Int × Int)) : Cfg (Int) := { T := tys, call := orCall 65 (soft_fma.call c65) (noCall) }
noncomputable def soft_Fma.cuts : List (Nat × List (Nat × Want)) := []
theorem soft_Fma.e0 (c65 : Int → Int → Int → Option (Int × Int)) (n : Nat) (J : Nat → (ASt → Option (Int)) → ASt → Option (Int)) (a0 : Int) (a1 : Int) (a2 : Int) : afun (soft_Fma.cfg c65) J soft_Fma.cuts n soft_Fma.code Tryd.f23.results.toList [false] [.int .u64 a0, .int .u64 a1, .int .u64 a2] soft_Fma.sg.out = soft_Fma.b0 c65 a0 a1 a2 := by kernel_rfl
theorem soft_Fma.eq (n : Nat) (a0 : Int) (a1 : Int) (a2 : Int) : afun (soft_Fma.cfg (soft_fma.f n)) idJ soft_Fma.cuts n soft_Fma.code Tryd.f23.results.toList [false] [.int .u64 a0, .int .u64 a1, .int .u64 a2] soft_Fma.sg.out = soft_Fma.f n a0 a1 a2 := (soft_Fma.e0 (soft_fma.f n) n idJ a0 a1 a2).trans (rfl)
theorem soft_Fma.ok {n : Nat} {a0 : Int} {a1 : Int} {a2 : Int} {r : Int} (h : soft_Fma.f n a0 a1 a2 = some r) : CallD Tryd.prog HW 23 [.int .u64 a0, .int .u64 a1, .int .u64 a2] (soft_Fma.sg.enc r) :=
  fun_some hwS Tryd.func23 (by kernel_rfl) (body := soft_Fma.code) (by kernel_rfl) tys_ok (c := soft_Fma.cfg (soft_fma.f n)) (orCall_ok (soft_fma.call_ok (n := n)) noCall_ok) noW_ok (by kernel_rfl) (by kernel_rfl) (Nat.le_of_ble_eq_true (by kernel_rfl)) ((soft_Fma.eq n a0 a1 a2).trans h)
noncomputable def soft_Fma.call {α : Type} (g : Int → Int → Int → Option (Int)) (ds : List D) (K : List D → Option α) : Option α := match ds with
  | [.int .u64 a0, .int .u64 a1, .int .u64 a2] => (g a0 a1 a2).bind fun r => K (soft_Fma.sg.enc r)
  | _ => none
theorem soft_Fma.call_ok {α : Type} {n : Nat} (ds : List D) (K : List D → Option α) (r : α) (h : soft_Fma.call (soft_Fma.f n) ds K = some r) : ∃ rs, K rs = some r ∧ CallD Tryd.prog HW 23 ds rs := by
  unfold soft_Fma.call at h
  split at h
  · obtain ⟨x, hx, hk⟩ := Option.bind_eq_some_iff.1 h
    exact ⟨_, hk, soft_Fma.ok (n := n) hx⟩
  · cases h
/-! ### abacustop_rest: function 13 -/
noncomputable def abacustop_rest.b0 (c23 : Int → Int → Int → Option (Int)) (c46 : Int → Option (Int)) (c47 : Int → Option (Int)) (a0 : Int) (a1 : Int) (a2 : Int) : Option (Int) := ((c47 a2).bind fun t1 => ((c23 t1 a1 a0).bind fun t2 => ((c46 t2).bind fun t3 => some t3)))
noncomputable def abacustop_rest.f (n : Nat) (a0 : Int) (a1 : Int) (a2 : Int) : Option (Int) := abacustop_rest.b0 (soft_Fma.f n) ieee_Abs.f ieee_Neg.f a0 a1 a2
noncomputable def abacustop_rest.sg : Sig (Int) := s1 (sInt .u64)
noncomputable def abacustop_rest.code : Code := (Tryd.f13.body).getD .skip
noncomputable def abacustop_rest.cfg (c23 : Int → Int → Int → Option (Int)) (c46 : Int → Option (Int)) (c47 : Int → Option (Int)) : Cfg (Int) := { T := tys, call := orCall 23 (soft_Fma.call c23) (orCall 46 (ieee_Abs.call c46) (orCall 47 (ieee_Neg.call c47) (noCall))) }
noncomputable def abacustop_rest.cuts : List (Nat × List (Nat × Want)) := []
theorem abacustop_rest.e0 (c23 : Int → Int → Int → Option (Int)) (c46 : Int → Option (Int)) (c47 : Int → Option (Int)) (n : Nat) (J : Nat → (ASt → Option (Int)) → ASt → Option (Int)) (a0 : Int) (a1 : Int) (a2 : Int) : afun (abacustop_rest.cfg c23 c46 c47) J abacustop_rest.cuts n abacustop_rest.code Tryd.f13.results.toList [false] [.int .u64 a0, .int .u64 a1, .int .u64 a2] abacustop_rest.sg.out = abacustop_rest.b0 c23 c46 c47 a0 a1 a2 := by kernel_rfl
theorem abacustop_rest.eq (n : Nat) (a0 : Int) (a1 : Int) (a2 : Int) : afun (abacustop_rest.cfg (soft_Fma.f n) ieee_Abs.f ieee_Neg.f) idJ abacustop_rest.cuts n abacustop_rest.code Tryd.f13.results.toList [false] [.int .u64 a0, .int .u64 a1, .int .u64 a2] abacustop_rest.sg.out = abacustop_rest.f n a0 a1 a2 := (abacustop_rest.e0 (soft_Fma.f n) ieee_Abs.f ieee_Neg.f n idJ a0 a1 a2).trans (rfl)
theorem abacustop_rest.ok {n : Nat} {a0 : Int} {a1 : Int} {a2 : Int} {r : Int} (h : abacustop_rest.f n a0 a1 a2 = some r) : CallD Tryd.prog HW 13 [.int .u64 a0, .int .u64 a1, .int .u64 a2] (abacustop_rest.sg.enc r) :=
  fun_some hwS Tryd.func13 (by kernel_rfl) (body := abacustop_rest.code) (by kernel_rfl) tys_ok (c := abacustop_rest.cfg (soft_Fma.f n) ieee_Abs.f ieee_Neg.f) (orCall_ok (soft_Fma.call_ok (n := n)) (orCall_ok (ieee_Abs.call_ok (n := n)) (orCall_ok (ieee_Neg.call_ok (n := n)) noCall_ok))) noW_ok (by kernel_rfl) (by kernel_rfl) (Nat.le_of_ble_eq_true (by kernel_rfl)) ((abacustop_rest.eq n a0 a1 a2).trans h)
noncomputable def abacustop_rest.call {α : Type} (g : Int → Int → Int → Option (Int)) (ds : List D) (K : List D → Option α) : Option α := match ds with
  | [.int .u64 a0, .int .u64 a1, .int .u64 a2] => (g a0 a1 a2).bind fun r => K (abacustop_rest.sg.enc r)
  | _ => none
theorem abacustop_rest.call_ok {α : Type} {n : Nat} (ds : List D) (K : List D → Option α) (r : α) (h : abacustop_rest.call (abacustop_rest.f n) ds K = some r) : ∃ rs, K rs = some r ∧ CallD Tryd.prog HW 13 ds rs := by
  unfold abacustop_rest.call at h
  split at h
  · obtain ⟨x, hx, hk⟩ := Option.bind_eq_some_iff.1 h
    exact ⟨_, hk, abacustop_rest.ok (n := n) hx⟩
  · cases h
/-! ### ieee_Rank: function 48 -/
noncomputable def ieee_Rank.b0 (c46 : Int → Option (Int)) (a0 : Int) : Option (Int × Bool) := ((c46 a0).bind fun t1 => (if (wrap64 t1) > 9218868437227405312 then some (0, false) else (if ¬ (Go.bits .and .u64 a0 9223372036854775808) = 0 then some (wrap64 (-(wrap64 t1)), true) else some (wrap64 t1, true))))
noncomputable def ieee_Rank.f (a0 : Int) : Option (Int × Bool) := ieee_Rank.b0 ieee_Abs.f a0
noncomputable def ieee_Rank.sg : Sig (Int × Bool) := s2 (sInt .i64) (s1 (sBool))
noncomputable def ieee_Rank.code : Code := (Tryd.f48.body).getD .skip
noncomputable def ieee_Rank.cfg (c46 : Int → Option (Int)) : Cfg (Int × Bool) := { T := tys, call := orCall 46 (ieee_Abs.call c46) (noCall) }
noncomputable def ieee_Rank.cuts : List (Nat × List (Nat × Want)) := []
theorem ieee_Rank.e0 (c46 : Int → Option (Int)) (n : Nat) (J : Nat → (ASt → Option (Int × Bool)) → ASt → Option (Int × Bool)) (a0 : Int) : afun (ieee_Rank.cfg c46) J ieee_Rank.cuts n ieee_Rank.code Tryd.f48.results.toList [false, false] [.int .u64 a0] ieee_Rank.sg.out = ieee_Rank.b0 c46 a0 := by kernel_rfl
theorem ieee_Rank.eq (n : Nat) (a0 : Int) : afun (ieee_Rank.cfg ieee_Abs.f) idJ ieee_Rank.cuts n ieee_Rank.code Tryd.f48.results.toList [false, false] [.int .u64 a0] ieee_Rank.sg.out = ieee_Rank.f a0 := (ieee_Rank.e0 ieee_Abs.f n idJ a0).trans (rfl)
theorem ieee_Rank.ok {n : Nat} {a0 : Int} {r : Int × Bool} (h : ieee_Rank.f a0 = some r) : CallD Tryd.prog HW 48 [.int .u64 a0] (ieee_Rank.sg.enc r) :=
  fun_some hwS Tryd.func48 (by kernel_rfl) (body := ieee_Rank.code) (by kernel_rfl) tys_ok (c := ieee_Rank.cfg ieee_Abs.f) (orCall_ok (ieee_Abs.call_ok (n := n)) noCall_ok) noW_ok (by kernel_rfl) (by kernel_rfl) (Nat.le_of_ble_eq_true (by kernel_rfl)) ((ieee_Rank.eq n a0).trans h)
noncomputable def ieee_Rank.call {α : Type} (g : Int → Option (Int × Bool)) (ds : List D) (K : List D → Option α) : Option α := match ds with
  | [.int .u64 a0] => (g a0).bind fun r => K (ieee_Rank.sg.enc r)
  | _ => none
theorem ieee_Rank.call_ok {α : Type} {n : Nat} (ds : List D) (K : List D → Option α) (r : α) (h : ieee_Rank.call ieee_Rank.f ds K = some r) : ∃ rs, K rs = some r ∧ CallD Tryd.prog HW 48 ds rs := by
  unfold ieee_Rank.call at h
  split at h
  · obtain ⟨x, hx, hk⟩ := Option.bind_eq_some_iff.1 h
    exact ⟨_, hk, ieee_Rank.ok (n := n) hx⟩
  · cases h
/-! ### ieee_AtRank: function 49 -/
noncomputable def ieee_AtRank.b0 (c47 : Int → Option (Int)) (a0 : Int) : Option (Int × Bool) := (if a0 > 9218868437227405312 then some (0, false) else (if a0 < (-9218868437227405312) then some (0, false) else (if a0 < 0 then ((c47 (IntKind.u64.wrap (wrap64 (-a0)))).bind fun t1 => some (t1, true)) else some (IntKind.u64.wrap a0, true))))
noncomputable def ieee_AtRank.f (a0 : Int) : Option (Int × Bool) := ieee_AtRank.b0 ieee_Neg.f a0
noncomputable def ieee_AtRank.sg : Sig (Int × Bool) := s2 (sInt .u64) (s1 (sBool))
noncomputable def ieee_AtRank.code : Code := (Tryd.f49.body).getD .skip
noncomputable def ieee_AtRank.cfg (c47 : Int → Option (Int)) : Cfg (Int × Bool) := { T := tys, call := orCall 47 (ieee_Neg.call c47) (noCall) }
noncomputable def ieee_AtRank.cuts : List (Nat × List (Nat × Want)) := []
theorem ieee_AtRank.e0 (c47 : Int → Option (Int)) (n : Nat) (J : Nat → (ASt → Option (Int × Bool)) → ASt → Option (Int × Bool)) (a0 : Int) : afun (ieee_AtRank.cfg c47) J ieee_AtRank.cuts n ieee_AtRank.code Tryd.f49.results.toList [false, false] [.int .i64 a0] ieee_AtRank.sg.out = ieee_AtRank.b0 c47 a0 := by kernel_rfl
theorem ieee_AtRank.eq (n : Nat) (a0 : Int) : afun (ieee_AtRank.cfg ieee_Neg.f) idJ ieee_AtRank.cuts n ieee_AtRank.code Tryd.f49.results.toList [false, false] [.int .i64 a0] ieee_AtRank.sg.out = ieee_AtRank.f a0 := (ieee_AtRank.e0 ieee_Neg.f n idJ a0).trans (rfl)
theorem ieee_AtRank.ok {n : Nat} {a0 : Int} {r : Int × Bool} (h : ieee_AtRank.f a0 = some r) : CallD Tryd.prog HW 49 [.int .i64 a0] (ieee_AtRank.sg.enc r) :=
  fun_some hwS Tryd.func49 (by kernel_rfl) (body := ieee_AtRank.code) (by kernel_rfl) tys_ok (c := ieee_AtRank.cfg ieee_Neg.f) (orCall_ok (ieee_Neg.call_ok (n := n)) noCall_ok) noW_ok (by kernel_rfl) (by kernel_rfl) (Nat.le_of_ble_eq_true (by kernel_rfl)) ((ieee_AtRank.eq n a0).trans h)
noncomputable def ieee_AtRank.call {α : Type} (g : Int → Option (Int × Bool)) (ds : List D) (K : List D → Option α) : Option α := match ds with
  | [.int .i64 a0] => (g a0).bind fun r => K (ieee_AtRank.sg.enc r)
  | _ => none
theorem ieee_AtRank.call_ok {α : Type} {n : Nat} (ds : List D) (K : List D → Option α) (r : α) (h : ieee_AtRank.call ieee_AtRank.f ds K = some r) : ∃ rs, K rs = some r ∧ CallD Tryd.prog HW 49 ds rs := by
  unfold ieee_AtRank.call at h
  split at h
  · obtain ⟨x, hx, hk⟩ := Option.bind_eq_some_iff.1 h
    exact ⟨_, hk, ieee_AtRank.ok (n := n) hx⟩
  · cases h
/-! ### ieee_Up: function 14 -/
noncomputable def ieee_Up.b0 (c48 : Int → Option (Int × Bool)) (c49 : Int → Option (Int × Bool)) (a0 : Int) : Option (Int) := ((c48 a0).bind fun t1 => (if (!t1.2) = true then some 9221120237041090560 else (if t1.1 = 9218868437227405312 then some a0 else (if t1.1 = (-1) then some 9223372036854775808 else ((c49 (wrap64 (t1.1 + 1))).bind fun t2 => some t2.1)))))
noncomputable def ieee_Up.f (a0 : Int) : Option (Int) := ieee_Up.b0 ieee_Rank.f ieee_AtRank.f a0
noncomputable def ieee_Up.sg : Sig (Int) := s1 (sInt .u64)
noncomputable def ieee_Up.code : Code := (Tryd.f14.body).getD .skip
noncomputable def ieee_Up.cfg (c48 : Int → Option (Int × Bool)) (c49 : Int → Option (Int × Bool)) : Cfg (Int) := { T := tys, call := orCall 48 (ieee_Rank.call c48) (orCall 49 (ieee_AtRank.call c49) (noCall)) }
noncomputable def ieee_Up.cuts : List (Nat × List (Nat × Want)) := []
theorem ieee_Up.e0 (c48 : Int → Option (Int × Bool)) (c49 : Int → Option (Int × Bool)) (n : Nat) (J : Nat → (ASt → Option (Int)) → ASt → Option (Int)) (a0 : Int) : afun (ieee_Up.cfg c48 c49) J ieee_Up.cuts n ieee_Up.code Tryd.f14.results.toList [false] [.int .u64 a0] ieee_Up.sg.out = ieee_Up.b0 c48 c49 a0 := by kernel_rfl
theorem ieee_Up.eq (n : Nat) (a0 : Int) : afun (ieee_Up.cfg ieee_Rank.f ieee_AtRank.f) idJ ieee_Up.cuts n ieee_Up.code Tryd.f14.results.toList [false] [.int .u64 a0] ieee_Up.sg.out = ieee_Up.f a0 := (ieee_Up.e0 ieee_Rank.f ieee_AtRank.f n idJ a0).trans (rfl)
theorem ieee_Up.ok {n : Nat} {a0 : Int} {r : Int} (h : ieee_Up.f a0 = some r) : CallD Tryd.prog HW 14 [.int .u64 a0] (ieee_Up.sg.enc r) :=
  fun_some hwS Tryd.func14 (by kernel_rfl) (body := ieee_Up.code) (by kernel_rfl) tys_ok (c := ieee_Up.cfg ieee_Rank.f ieee_AtRank.f) (orCall_ok (ieee_Rank.call_ok (n := n)) (orCall_ok (ieee_AtRank.call_ok (n := n)) noCall_ok)) noW_ok (by kernel_rfl) (by kernel_rfl) (Nat.le_of_ble_eq_true (by kernel_rfl)) ((ieee_Up.eq n a0).trans h)
noncomputable def ieee_Up.call {α : Type} (g : Int → Option (Int)) (ds : List D) (K : List D → Option α) : Option α := match ds with
  | [.int .u64 a0] => (g a0).bind fun r => K (ieee_Up.sg.enc r)
  | _ => none
theorem ieee_Up.call_ok {α : Type} {n : Nat} (ds : List D) (K : List D → Option α) (r : α) (h : ieee_Up.call ieee_Up.f ds K = some r) : ∃ rs, K rs = some r ∧ CallD Tryd.prog HW 14 ds rs := by
  unfold ieee_Up.call at h
  split at h
  · obtain ⟨x, hx, hk⟩ := Option.bind_eq_some_iff.1 h
    exact ⟨_, hk, ieee_Up.ok (n := n) hx⟩
  · cases h
/-! ### ieee_Down: function 15 -/
noncomputable def ieee_Down.b0 (c14 : Int → Option (Int)) (c47 : Int → Option (Int)) (c50 : Int → Option (Int)) (a0 : Int) : Option (Int) := ((c50 a0).bind fun t1 => (if t1 = 4 then some 9221120237041090560 else ((c47 a0).bind fun t2 => ((c14 t2).bind fun t3 => ((c47 t3).bind fun t4 => some t4)))))
noncomputable def ieee_Down.f (a0 : Int) : Option (Int) := ieee_Down.b0 ieee_Up.f ieee_Neg.f ieee_Class.f a0
noncomputable def ieee_Down.sg : Sig (Int) := s1 (sInt .u64)
noncomputable def ieee_Down.code : Code := (Tryd.f15.body).getD .skip
noncomputable def ieee_Down.cfg (c14 : Int → Option (Int)) (c47 : Int → Option (Int)) (c50 : Int → Option (Int)) : Cfg (Int) := { T := tys, call := orCall 14 (ieee_Up.call c14) (orCall 47 (ieee_Neg.call c47) (orCall 50 (ieee_Class.call c50) (noCall))) }
noncomputable def ieee_Down.cuts : List (Nat × List (Nat × Want)) := []
theorem ieee_Down.e0 (c14 : Int → Option (Int)) (c47 : Int → Option (Int)) (c50 : Int → Option (Int)) (n : Nat) (J : Nat → (ASt → Option (Int)) → ASt → Option (Int)) (a0 : Int) : afun (ieee_Down.cfg c14 c47 c50) J ieee_Down.cuts n ieee_Down.code Tryd.f15.results.toList [false] [.int .u64 a0] ieee_Down.sg.out = ieee_Down.b0 c14 c47 c50 a0 := by kernel_rfl
theorem ieee_Down.eq (n : Nat) (a0 : Int) : afun (ieee_Down.cfg ieee_Up.f ieee_Neg.f ieee_Class.f) idJ ieee_Down.cuts n ieee_Down.code Tryd.f15.results.toList [false] [.int .u64 a0] ieee_Down.sg.out = ieee_Down.f a0 := (ieee_Down.e0 ieee_Up.f ieee_Neg.f ieee_Class.f n idJ a0).trans (rfl)
theorem ieee_Down.ok {n : Nat} {a0 : Int} {r : Int} (h : ieee_Down.f a0 = some r) : CallD Tryd.prog HW 15 [.int .u64 a0] (ieee_Down.sg.enc r) :=
  fun_some hwS Tryd.func15 (by kernel_rfl) (body := ieee_Down.code) (by kernel_rfl) tys_ok (c := ieee_Down.cfg ieee_Up.f ieee_Neg.f ieee_Class.f) (orCall_ok (ieee_Up.call_ok (n := n)) (orCall_ok (ieee_Neg.call_ok (n := n)) (orCall_ok (ieee_Class.call_ok (n := n)) noCall_ok))) noW_ok (by kernel_rfl) (by kernel_rfl) (Nat.le_of_ble_eq_true (by kernel_rfl)) ((ieee_Down.eq n a0).trans h)
noncomputable def ieee_Down.call {α : Type} (g : Int → Option (Int)) (ds : List D) (K : List D → Option α) : Option α := match ds with
  | [.int .u64 a0] => (g a0).bind fun r => K (ieee_Down.sg.enc r)
  | _ => none
theorem ieee_Down.call_ok {α : Type} {n : Nat} (ds : List D) (K : List D → Option α) (r : α) (h : ieee_Down.call ieee_Down.f ds K = some r) : ∃ rs, K rs = some r ∧ CallD Tryd.prog HW 15 ds rs := by
  unfold ieee_Down.call at h
  split at h
  · obtain ⟨x, hx, hk⟩ := Option.bind_eq_some_iff.1 h
    exact ⟨_, hk, ieee_Down.ok (n := n) hx⟩
  · cases h
/-! ### abacustop_CoreDivides: function 3 -/
noncomputable def abacustop_CoreDivides.b0 (c11 : Int → Int → Option (Int)) (c12 : Int → Option (Bool)) (c13 : Int → Int → Int → Option (Int)) (c14 : Int → Option (Int)) (c15 : Int → Option (Int)) (a0 : Int) (a1 : Int) : Option (Bool) := ((c11 4618441417868443648 4611686018427387904).bind fun t1 => (if ¬ t1 = 4613937818241073152 then some false else ((c11 a0 a1).bind fun t2 => ((c12 a0).bind fun t3 => (if t3 = true then ((c12 a1).bind fun t4 => (if t4 = true then ((c12 t2).bind fun t5 => (if t5 = true then ((c13 a0 a1 t2).bind fun t6 => ((c14 t2).bind fun t7 => ((c13 a0 a1 t7).bind fun t8 => (if t6 ≤ t8 then ((c15 t2).bind fun t9 => ((c13 a0 a1 t9).bind fun t10 => some (decide (t6 ≤ t10)))) else some false)))) else some true)) else some true)) else some true)))))
noncomputable def abacustop_CoreDivides.f (n : Nat) (a0 : Int) (a1 : Int) : Option (Bool) := abacustop_CoreDivides.b0 (soft_Div.f n) abacustop_middle.f (abacustop_rest.f n) ieee_Up.f ieee_Down.f a0 a1
noncomputable def abacustop_CoreDivides.sg : Sig (Bool) := s1 (sBool)
noncomputable def abacustop_CoreDivides.code : Code := (Tryd.f3.body).getD .skip
noncomputable def abacustop_CoreDivides.cfg (c11 : Int → Int → Option (Int)) (c12 : Int → Option (Bool)) (c13 : Int → Int → Int → Option (Int)) (c14 : Int → Option (Int)) (c15 : Int → Option (Int)) : Cfg (Bool) := { T := tys, call := orCall 11 (soft_Div.call c11) (orCall 12 (abacustop_middle.call c12) (orCall 13 (abacustop_rest.call c13) (orCall 14 (ieee_Up.call c14) (orCall 15 (ieee_Down.call c15) (noCall))))) }
noncomputable def abacustop_CoreDivides.cuts : List (Nat × List (Nat × Want)) := []
theorem abacustop_CoreDivides.e0 (c11 : Int → Int → Option (Int)) (c12 : Int → Option (Bool)) (c13 : Int → Int → Int → Option (Int)) (c14 : Int → Option (Int)) (c15 : Int → Option (Int)) (n : Nat) (J : Nat → (ASt → Option (Bool)) → ASt → Option (Bool)) (a0 : Int) (a1 : Int) : afun (abacustop_CoreDivides.cfg c11 c12 c13 c14 c15) J abacustop_CoreDivides.cuts n abacustop_CoreDivides.code Tryd.f3.results.toList [false] [.int .u64 a0, .int .u64 a1] abacustop_CoreDivides.sg.out = abacustop_CoreDivides.b0 c11 c12 c13 c14 c15 a0 a1 := by kernel_rfl
theorem abacustop_CoreDivides.eq (n : Nat) (a0 : Int) (a1 : Int) : afun (abacustop_CoreDivides.cfg (soft_Div.f n) abacustop_middle.f (abacustop_rest.f n) ieee_Up.f ieee_Down.f) idJ abacustop_CoreDivides.cuts n abacustop_CoreDivides.code Tryd.f3.results.toList [false] [.int .u64 a0, .int .u64 a1] abacustop_CoreDivides.sg.out = abacustop_CoreDivides.f n a0 a1 := (abacustop_CoreDivides.e0 (soft_Div.f n) abacustop_middle.f (abacustop_rest.f n) ieee_Up.f ieee_Down.f n idJ a0 a1).trans (rfl)
theorem abacustop_CoreDivides.ok {n : Nat} {a0 : Int} {a1 : Int} {r : Bool} (h : abacustop_CoreDivides.f n a0 a1 = some r) : CallD Tryd.prog HW 3 [.int .u64 a0, .int .u64 a1] (abacustop_CoreDivides.sg.enc r) :=
  fun_some hwS Tryd.func3 (by kernel_rfl) (body := abacustop_CoreDivides.code) (by kernel_rfl) tys_ok (c := abacustop_CoreDivides.cfg (soft_Div.f n) abacustop_middle.f (abacustop_rest.f n) ieee_Up.f ieee_Down.f) (orCall_ok (soft_Div.call_ok (n := n)) (orCall_ok (abacustop_middle.call_ok (n := n)) (orCall_ok (abacustop_rest.call_ok (n := n)) (orCall_ok (ieee_Up.call_ok (n := n)) (orCall_ok (ieee_Down.call_ok (n := n)) noCall_ok))))) noW_ok (by kernel_rfl) (by kernel_rfl) (Nat.le_of_ble_eq_true (by kernel_rfl)) ((abacustop_CoreDivides.eq n a0 a1).trans h)
theorem abacustop_CoreDivides.walk {n : Nat} {a0 : Int} {a1 : Int} {r : Bool} (h : abacustop_CoreDivides.f n a0 a1 = some r) {w : World} (hw : HW w) : Calls Tryd.prog 3 (([.int .u64 a0, .int .u64 a1] : List D).map D.val).toArray w fun e w' => e = .returned (packV (abacustop_CoreDivides.sg.enc r)) ∧ Below w.heap.size w w' :=
  walk_scal (H := HW) rfl rfl (fun_calls hwS Tryd.func3 (by kernel_rfl) (body := abacustop_CoreDivides.code) (by kernel_rfl) tys_ok (c := abacustop_CoreDivides.cfg (soft_Div.f n) abacustop_middle.f (abacustop_rest.f n) ieee_Up.f ieee_Down.f) (orCall_ok (soft_Div.call_ok (n := n)) (orCall_ok (abacustop_middle.call_ok (n := n)) (orCall_ok (abacustop_rest.call_ok (n := n)) (orCall_ok (ieee_Up.call_ok (n := n)) (orCall_ok (ieee_Down.call_ok (n := n)) noCall_ok))))) noW_ok (by kernel_rfl) (by kernel_rfl) (Nat.le_of_ble_eq_true (by kernel_rfl)) ((abacustop_CoreDivides.eq n a0 a1).trans h)) hw
noncomputable def abacustop_CoreDivides.call {α : Type} (g : Int → Int → Option (Bool)) (ds : List D) (K : List D → Option α) : Option α := match ds with
  | [.int .u64 a0, .int .u64 a1] => (g a0 a1).bind fun r => K (abacustop_CoreDivides.sg.enc r)
  | _ => none
theorem abacustop_CoreDivides.call_ok {α : Type} {n : Nat} (ds : List D) (K : List D → Option α) (r : α) (h : abacustop_CoreDivides.call (abacustop_CoreDivides.f n) ds K = some r) : ∃ rs, K rs = some r ∧ CallD Tryd.prog HW 3 ds rs := by
  unfold abacustop_CoreDivides.call at h
  split at h
  · obtain ⟨x, hx, hk⟩ := Option.bind_eq_some_iff.1 h
    exact ⟨_, hk, abacustop_CoreDivides.ok (n := n) hx⟩
  · cases h
end Go.Proofs.YtceihajjpeoloaaDoor.F
