/- What the functions compute, and that calls of them answer so (printed by gen.py). Conditions: HW, a table as it was laid. -/
import Derived.Test.YtobocamcoaeliaaDoorF0
namespace Go.Proofs.YtobocamcoaeliaaDoor.F
open Go.RowKit Go.Proofs.YtobocamcoaeliaaDoorA
set_option linter.unusedVariables false
set_option maxRecDepth 100000
/-! ### ieee_Rank: function 56 -/
namespace ieee_Rank
noncomputable def b0 (c17 : Int→Ω (Int)) (a0 : Int) : Ω (Int × Bool) := ((c17 a0).bind fun t1 => (if (wrap64 t1) > 9218868437227405312 then some (0, false) else (if ¬ (Go.bits .and .u64 a0 9223372036854775808) = 0 then some (wrap64 (-(wrap64 t1)), true) else some (wrap64 t1, true))))
noncomputable def f (a0 : Int) : Ω (Int × Bool) := b0 ieee_Abs.f a0
noncomputable def sg : Sig (Int × Bool) := s2 (sInt .i64) (s1 (sBool))
noncomputable def code : Code := (Tryd.f56.body).getD .skip
noncomputable def cfg (c17 : Int→Ω (Int)) : Cfg (Int × Bool) := { T := tys, call := orCall 17 (ieee_Abs.call c17) (noCall) }
noncomputable def cuts : List (Nat × List (Nat × Want)) := []
theorem e0 {c17 n J a0} : afun (cfg c17) J cuts n code Tryd.f56.results.toList [false, false] [.int .u64 a0] sg.out = b0 c17 a0 := by kernel_rfl
theorem ok {a0 r} (h : f a0 = some r) : CallD Tryd.prog HW 56 [.int .u64 a0] (sg.enc r) :=
  fun_some hwS Tryd.func56 (by kernel_rfl) (body := code) (by kernel_rfl) tys_ok (c := cfg ieee_Abs.f) (orCall_ok ieee_Abs.call_ok noCall_ok) noW_ok (by kernel_rfl) (by kernel_rfl) (Nat.le_of_ble_eq_true (by kernel_rfl)) (Eq.trans ((e0 (n := 0))) h)
noncomputable def call {α : Type} (g : Int→Ω (Int × Bool)) (ds : List D) (K : List D→Ω α) : Ω α := match ds with
  | [.int .u64 a0] => (g a0).bind fun r => K (sg.enc r)
  | _ => none
theorem call_ok {α : Type} : COK Tryd.prog HW 56 (call (α := α) f) := fun _ _ _ h => by
  unfold call at h; split at h
  · exact cok h fun _ => ok
  · cases h
end ieee_Rank
/-! ### ieee_AtRank: function 57 -/
namespace ieee_AtRank
noncomputable def b0 (c79 : Int→Ω (Int)) (a0 : Int) : Ω (Int × Bool) := (if a0 > 9218868437227405312 then some (0, false) else (if a0 < (-9218868437227405312) then some (0, false) else (if a0 < 0 then ((c79 (IntKind.u64.wrap (wrap64 (-a0)))).bind fun t1 => some (t1, true)) else some (IntKind.u64.wrap a0, true))))
noncomputable def f (a0 : Int) : Ω (Int × Bool) := b0 ieee_Neg.f a0
noncomputable def sg : Sig (Int × Bool) := s2 (sInt .u64) (s1 (sBool))
noncomputable def code : Code := (Tryd.f57.body).getD .skip
noncomputable def cfg (c79 : Int→Ω (Int)) : Cfg (Int × Bool) := { T := tys, call := orCall 79 (ieee_Neg.call c79) (noCall) }
noncomputable def cuts : List (Nat × List (Nat × Want)) := []
theorem e0 {c79 n J a0} : afun (cfg c79) J cuts n code Tryd.f57.results.toList [false, false] [.int .i64 a0] sg.out = b0 c79 a0 := by kernel_rfl
theorem ok {a0 r} (h : f a0 = some r) : CallD Tryd.prog HW 57 [.int .i64 a0] (sg.enc r) :=
  fun_some hwS Tryd.func57 (by kernel_rfl) (body := code) (by kernel_rfl) tys_ok (c := cfg ieee_Neg.f) (orCall_ok ieee_Neg.call_ok noCall_ok) noW_ok (by kernel_rfl) (by kernel_rfl) (Nat.le_of_ble_eq_true (by kernel_rfl)) (Eq.trans ((e0 (n := 0))) h)
noncomputable def call {α : Type} (g : Int→Ω (Int × Bool)) (ds : List D) (K : List D→Ω α) : Ω α := match ds with
  | [.int .i64 a0] => (g a0).bind fun r => K (sg.enc r)
  | _ => none
theorem call_ok {α : Type} : COK Tryd.prog HW 57 (call (α := α) f) := fun _ _ _ h => by
  unfold call at h; split at h
  · exact cok h fun _ => ok
  · cases h
end ieee_AtRank
/-! ### ieee_Up: function 22 -/
namespace ieee_Up
noncomputable def b0 (c56 : Int→Ω (Int × Bool)) (c57 : Int→Ω (Int × Bool)) (a0 : Int) : Ω (Int) := ((c56 a0).bind fun t1 => (if (!t1.2) = true then some 9221120237041090560 else (if t1.1 = 9218868437227405312 then some a0 else (if t1.1 = (-1) then some 9223372036854775808 else ((c57 (wrap64 (t1.1 + 1))).bind fun t2 => some t2.1)))))
noncomputable def f (a0 : Int) : Ω (Int) := b0 ieee_Rank.f ieee_AtRank.f a0
noncomputable def sg : Sig (Int) := s1 (sInt .u64)
noncomputable def code : Code := (Tryd.f22.body).getD .skip
noncomputable def cfg (c56 : Int→Ω (Int × Bool)) (c57 : Int→Ω (Int × Bool)) : Cfg (Int) := { T := tys, call := orCall 56 (ieee_Rank.call c56) (orCall 57 (ieee_AtRank.call c57) (noCall)) }
noncomputable def cuts : List (Nat × List (Nat × Want)) := []
theorem e0 {c56 c57 n J a0} : afun (cfg c56 c57) J cuts n code Tryd.f22.results.toList [false] [.int .u64 a0] sg.out = b0 c56 c57 a0 := by kernel_rfl
theorem ok {a0 r} (h : f a0 = some r) : CallD Tryd.prog HW 22 [.int .u64 a0] (sg.enc r) :=
  fun_some hwS Tryd.func22 (by kernel_rfl) (body := code) (by kernel_rfl) tys_ok (c := cfg ieee_Rank.f ieee_AtRank.f) (orCall_ok ieee_Rank.call_ok (orCall_ok ieee_AtRank.call_ok noCall_ok)) noW_ok (by kernel_rfl) (by kernel_rfl) (Nat.le_of_ble_eq_true (by kernel_rfl)) (Eq.trans ((e0 (n := 0))) h)
noncomputable def call {α : Type} (g : Int→Ω (Int)) (ds : List D) (K : List D→Ω α) : Ω α := match ds with
  | [.int .u64 a0] => (g a0).bind fun r => K (sg.enc r)
  | _ => none
theorem call_ok {α : Type} : COK Tryd.prog HW 22 (call (α := α) f) := fun _ _ _ h => by
  unfold call at h; split at h
  · exact cok h fun _ => ok
  · cases h
end ieee_Up
/-! ### abacuslaw05_works: function 6 -/
namespace abacuslaw05_works
noncomputable def b0 (c19 : Λ→Λ→Ω (Λ × Int)) (c20 : Int→Ω (Bool × Int × Int × Int)) (c21 : Λ→Λ→Ω (Int)) (c22 : Int→Ω (Int)) : Ω (Bool) := ((c19 [3] [5]).bind fun t1 => ((c20 4613937818241073152).bind fun t2 => (if t1.2 = 0 then ((c21 t1.1 [15]).bind fun t3 => (if t3 = 0 then ((c22 0).bind fun t4 => (if t4 = 1 then (if t2.2.2.1 = 6755399441055744 then some (decide (t2.2.2.2 = (-51))) else some false) else some false)) else some false)) else some false)))
noncomputable def f (n : Nat) : Ω (Bool) := b0 (nat_Mul.f n) ieee_Decode.f (nat_Cmp.f n) ieee_Up.f
noncomputable def sg : Sig (Bool) := s1 (sBool)
noncomputable def code : Code := (Tryd.f6.body).getD .skip
noncomputable def cfg (c19 : Λ→Λ→Ω (Λ × Int)) (c20 : Int→Ω (Bool × Int × Int × Int)) (c21 : Λ→Λ→Ω (Int)) (c22 : Int→Ω (Int)) : Cfg (Bool) := { T := tys, call := orCall 19 (nat_Mul.call c19) (orCall 20 (ieee_Decode.call c20) (orCall 21 (nat_Cmp.call c21) (orCall 22 (ieee_Up.call c22) (noCall)))) }
noncomputable def cuts : List (Nat × List (Nat × Want)) := []
theorem e0 {c19 c20 c21 c22 n J} : afun (cfg c19 c20 c21 c22) J cuts n code Tryd.f6.results.toList [false] [] sg.out = b0 c19 c20 c21 c22 := by kernel_rfl
theorem ok {n r} (h : f n = some r) : CallD Tryd.prog HW 6 [] (sg.enc r) :=
  fun_some hwS Tryd.func6 (by kernel_rfl) (body := code) (by kernel_rfl) tys_ok (c := cfg (nat_Mul.f n) ieee_Decode.f (nat_Cmp.f n) ieee_Up.f) (orCall_ok (nat_Mul.call_ok (n := n)) (orCall_ok ieee_Decode.call_ok (orCall_ok (nat_Cmp.call_ok (n := n)) (orCall_ok ieee_Up.call_ok noCall_ok)))) noW_ok (by kernel_rfl) (by kernel_rfl) (Nat.le_of_ble_eq_true (by kernel_rfl)) (Eq.trans ((e0 (n := n))) h)
noncomputable def call {α : Type} (g : Ω (Bool)) (ds : List D) (K : List D→Ω α) : Ω α := match ds with
  | [] => (g).bind fun r => K (sg.enc r)
  | _ :: _ => none
theorem call_ok {α : Type} {n : Nat} : COK Tryd.prog HW 6 (call (α := α) (f n)) := fun _ _ _ h => by
  unfold call at h; split at h
  · exact cok h fun _ => ok
  · cases h
end abacuslaw05_works
/-! ### soft_Add: function 23 -/
namespace soft_Add
noncomputable def b0 (c44 : Int→Int→Int→Ω (Int × Int)) (a0 a1 : Int) : Ω (Int) := ((c44 a0 a1 0).bind fun t1 => some t1.1)
noncomputable def f (n : Nat) (a0 a1 : Int) : Ω (Int) := b0 (soft_add.f n) a0 a1
noncomputable def sg : Sig (Int) := s1 (sInt .u64)
noncomputable def code : Code := (Tryd.f23.body).getD .skip
noncomputable def cfg (c44 : Int→Int→Int→Ω (Int × Int)) : Cfg (Int) := { T := tys, call := orCall 44 (soft_add.call c44) (noCall) }
noncomputable def cuts : List (Nat × List (Nat × Want)) := []
theorem e0 {c44 n J a0 a1} : afun (cfg c44) J cuts n code Tryd.f23.results.toList [false] [.int .u64 a0, .int .u64 a1] sg.out = b0 c44 a0 a1 := by kernel_rfl
theorem ok {n  a0 a1 r} (h : f n a0 a1 = some r) : CallD Tryd.prog HW 23 [.int .u64 a0, .int .u64 a1] (sg.enc r) :=
  fun_some hwS Tryd.func23 (by kernel_rfl) (body := code) (by kernel_rfl) tys_ok (c := cfg (soft_add.f n)) (orCall_ok (soft_add.call_ok (n := n)) noCall_ok) noW_ok (by kernel_rfl) (by kernel_rfl) (Nat.le_of_ble_eq_true (by kernel_rfl)) (Eq.trans ((e0 (n := n))) h)
noncomputable def call {α : Type} (g : Int→Int→Ω (Int)) (ds : List D) (K : List D→Ω α) : Ω α := match ds with
  | [.int .u64 a0, .int .u64 a1] => (g a0 a1).bind fun r => K (sg.enc r)
  | _ => none
theorem call_ok {α : Type} {n : Nat} : COK Tryd.prog HW 23 (call (α := α) (f n)) := fun _ _ _ h => by
  unfold call at h; split at h
  · exact cok h fun _ => ok
  · cases h
end soft_Add
/-! ### soft_Sub: function 24 -/
namespace soft_Sub
noncomputable def b0 (c45 : Int→Int→Int→Ω (Int × Int)) (a0 a1 : Int) : Ω (Int) := ((c45 a0 a1 0).bind fun t1 => some t1.1)
noncomputable def f (n : Nat) (a0 a1 : Int) : Ω (Int) := b0 (soft_sub.f n) a0 a1
noncomputable def sg : Sig (Int) := s1 (sInt .u64)
noncomputable def code : Code := (Tryd.f24.body).getD .skip
noncomputable def cfg (c45 : Int→Int→Int→Ω (Int × Int)) : Cfg (Int) := { T := tys, call := orCall 45 (soft_sub.call c45) (noCall) }
noncomputable def cuts : List (Nat × List (Nat × Want)) := []
theorem e0 {c45 n J a0 a1} : afun (cfg c45) J cuts n code Tryd.f24.results.toList [false] [.int .u64 a0, .int .u64 a1] sg.out = b0 c45 a0 a1 := by kernel_rfl
theorem ok {n  a0 a1 r} (h : f n a0 a1 = some r) : CallD Tryd.prog HW 24 [.int .u64 a0, .int .u64 a1] (sg.enc r) :=
  fun_some hwS Tryd.func24 (by kernel_rfl) (body := code) (by kernel_rfl) tys_ok (c := cfg (soft_sub.f n)) (orCall_ok (soft_sub.call_ok (n := n)) noCall_ok) noW_ok (by kernel_rfl) (by kernel_rfl) (Nat.le_of_ble_eq_true (by kernel_rfl)) (Eq.trans ((e0 (n := n))) h)
noncomputable def call {α : Type} (g : Int→Int→Ω (Int)) (ds : List D) (K : List D→Ω α) : Ω α := match ds with
  | [.int .u64 a0, .int .u64 a1] => (g a0 a1).bind fun r => K (sg.enc r)
  | _ => none
theorem call_ok {α : Type} {n : Nat} : COK Tryd.prog HW 24 (call (α := α) (f n)) := fun _ _ _ h => by
  unfold call at h; split at h
  · exact cok h fun _ => ok
  · cases h
end soft_Sub
/-! ### soft_Mul: function 25 -/
namespace soft_Mul
noncomputable def b0 (c46 : Int→Int→Int→Ω (Int × Int)) (a0 a1 : Int) : Ω (Int) := ((c46 a0 a1 0).bind fun t1 => some t1.1)
noncomputable def f (n : Nat) (a0 a1 : Int) : Ω (Int) := b0 (soft_mul.f n) a0 a1
noncomputable def sg : Sig (Int) := s1 (sInt .u64)
noncomputable def code : Code := (Tryd.f25.body).getD .skip
noncomputable def cfg (c46 : Int→Int→Int→Ω (Int × Int)) : Cfg (Int) := { T := tys, call := orCall 46 (soft_mul.call c46) (noCall) }
noncomputable def cuts : List (Nat × List (Nat × Want)) := []
theorem e0 {c46 n J a0 a1} : afun (cfg c46) J cuts n code Tryd.f25.results.toList [false] [.int .u64 a0, .int .u64 a1] sg.out = b0 c46 a0 a1 := by kernel_rfl
theorem ok {n  a0 a1 r} (h : f n a0 a1 = some r) : CallD Tryd.prog HW 25 [.int .u64 a0, .int .u64 a1] (sg.enc r) :=
  fun_some hwS Tryd.func25 (by kernel_rfl) (body := code) (by kernel_rfl) tys_ok (c := cfg (soft_mul.f n)) (orCall_ok (soft_mul.call_ok (n := n)) noCall_ok) noW_ok (by kernel_rfl) (by kernel_rfl) (Nat.le_of_ble_eq_true (by kernel_rfl)) (Eq.trans ((e0 (n := n))) h)
noncomputable def call {α : Type} (g : Int→Int→Ω (Int)) (ds : List D) (K : List D→Ω α) : Ω α := match ds with
  | [.int .u64 a0, .int .u64 a1] => (g a0 a1).bind fun r => K (sg.enc r)
  | _ => none
theorem call_ok {α : Type} {n : Nat} : COK Tryd.prog HW 25 (call (α := α) (f n)) := fun _ _ _ h => by
  unfold call at h; split at h
  · exact cok h fun _ => ok
  · cases h
end soft_Mul
/-! ### soft_Div: function 26 -/
namespace soft_Div
noncomputable def b0 (c47 : Int→Int→Int→Ω (Int × Int)) (a0 a1 : Int) : Ω (Int) := ((c47 a0 a1 0).bind fun t1 => some t1.1)
noncomputable def f (n : Nat) (a0 a1 : Int) : Ω (Int) := b0 (soft_div.f n) a0 a1
noncomputable def sg : Sig (Int) := s1 (sInt .u64)
noncomputable def code : Code := (Tryd.f26.body).getD .skip
noncomputable def cfg (c47 : Int→Int→Int→Ω (Int × Int)) : Cfg (Int) := { T := tys, call := orCall 47 (soft_div.call c47) (noCall) }
noncomputable def cuts : List (Nat × List (Nat × Want)) := []
theorem e0 {c47 n J a0 a1} : afun (cfg c47) J cuts n code Tryd.f26.results.toList [false] [.int .u64 a0, .int .u64 a1] sg.out = b0 c47 a0 a1 := by kernel_rfl
theorem ok {n  a0 a1 r} (h : f n a0 a1 = some r) : CallD Tryd.prog HW 26 [.int .u64 a0, .int .u64 a1] (sg.enc r) :=
  fun_some hwS Tryd.func26 (by kernel_rfl) (body := code) (by kernel_rfl) tys_ok (c := cfg (soft_div.f n)) (orCall_ok (soft_div.call_ok (n := n)) noCall_ok) noW_ok (by kernel_rfl) (by kernel_rfl) (Nat.le_of_ble_eq_true (by kernel_rfl)) (Eq.trans ((e0 (n := n))) h)
noncomputable def call {α : Type} (g : Int→Int→Ω (Int)) (ds : List D) (K : List D→Ω α) : Ω α := match ds with
  | [.int .u64 a0, .int .u64 a1] => (g a0 a1).bind fun r => K (sg.enc r)
  | _ => none
theorem call_ok {α : Type} {n : Nat} : COK Tryd.prog HW 26 (call (α := α) (f n)) := fun _ _ _ h => by
  unfold call at h; split at h
  · exact cok h fun _ => ok
  · cases h
end soft_Div
/-! ### soft_Sqrt: function 27 -/
namespace soft_Sqrt
noncomputable def b0 (c48 : Int→Int→Int→Ω (Int × Int)) (a0 : Int) : Ω (Int) := ((c48 a0 0 0).bind fun t1 => some t1.1)
noncomputable def f (n : Nat) (a0 : Int) : Ω (Int) := b0 (soft_sqrt.f n) a0
noncomputable def sg : Sig (Int) := s1 (sInt .u64)
noncomputable def code : Code := (Tryd.f27.body).getD .skip
noncomputable def cfg (c48 : Int→Int→Int→Ω (Int × Int)) : Cfg (Int) := { T := tys, call := orCall 48 (soft_sqrt.call c48) (noCall) }
noncomputable def cuts : List (Nat × List (Nat × Want)) := []
theorem e0 {c48 n J a0} : afun (cfg c48) J cuts n code Tryd.f27.results.toList [false] [.int .u64 a0] sg.out = b0 c48 a0 := by kernel_rfl
theorem ok {n  a0 r} (h : f n a0 = some r) : CallD Tryd.prog HW 27 [.int .u64 a0] (sg.enc r) :=
  fun_some hwS Tryd.func27 (by kernel_rfl) (body := code) (by kernel_rfl) tys_ok (c := cfg (soft_sqrt.f n)) (orCall_ok (soft_sqrt.call_ok (n := n)) noCall_ok) noW_ok (by kernel_rfl) (by kernel_rfl) (Nat.le_of_ble_eq_true (by kernel_rfl)) (Eq.trans ((e0 (n := n))) h)
noncomputable def call {α : Type} (g : Int→Ω (Int)) (ds : List D) (K : List D→Ω α) : Ω α := match ds with
  | [.int .u64 a0] => (g a0).bind fun r => K (sg.enc r)
  | _ => none
theorem call_ok {α : Type} {n : Nat} : COK Tryd.prog HW 27 (call (α := α) (f n)) := fun _ _ _ h => by
  unfold call at h; split at h
  · exact cok h fun _ => ok
  · cases h
end soft_Sqrt
/-! ### soft_Fma: function 28 -/
namespace soft_Fma
noncomputable def b0 (c49 : Int→Int→Int→Ω (Int × Int)) (a0 a1 a2 : Int) : Ω (Int) := ((c49 a0 a1 a2).bind fun t1 => some t1.1)
noncomputable def f (n : Nat) (a0 a1 a2 : Int) : Ω (Int) := b0 (soft_fma.f n) a0 a1 a2
noncomputable def sg : Sig (Int) := s1 (sInt .u64)
noncomputable def code : Code := (Tryd.f28.body).getD .skip
noncomputable def cfg (c49 : Int→Int→Int→Ω (Int × Int)) : Cfg (Int) := { T := tys, call := orCall 49 (soft_fma.call c49) (noCall) }
noncomputable def cuts : List (Nat × List (Nat × Want)) := []
theorem e0 {c49 n J a0 a1 a2} : afun (cfg c49) J cuts n code Tryd.f28.results.toList [false] [.int .u64 a0, .int .u64 a1, .int .u64 a2] sg.out = b0 c49 a0 a1 a2 := by kernel_rfl
theorem ok {n  a0 a1 a2 r} (h : f n a0 a1 a2 = some r) : CallD Tryd.prog HW 28 [.int .u64 a0, .int .u64 a1, .int .u64 a2] (sg.enc r) :=
  fun_some hwS Tryd.func28 (by kernel_rfl) (body := code) (by kernel_rfl) tys_ok (c := cfg (soft_fma.f n)) (orCall_ok (soft_fma.call_ok (n := n)) noCall_ok) noW_ok (by kernel_rfl) (by kernel_rfl) (Nat.le_of_ble_eq_true (by kernel_rfl)) (Eq.trans ((e0 (n := n))) h)
noncomputable def call {α : Type} (g : Int→Int→Int→Ω (Int)) (ds : List D) (K : List D→Ω α) : Ω α := match ds with
  | [.int .u64 a0, .int .u64 a1, .int .u64 a2] => (g a0 a1 a2).bind fun r => K (sg.enc r)
  | _ => none
theorem call_ok {α : Type} {n : Nat} : COK Tryd.prog HW 28 (call (α := α) (f n)) := fun _ _ _ h => by
  unfold call at h; split at h
  · exact cok h fun _ => ok
  · cases h
end soft_Fma
/-! ### abacuslaw05_own: function 7 -/
namespace abacuslaw05_own
noncomputable def b0 (c23 : Int→Int→Ω (Int)) (c24 : Int→Int→Ω (Int)) (c25 : Int→Int→Ω (Int)) (c26 : Int→Int→Ω (Int)) (c27 : Int→Ω (Int)) (c28 : Int→Int→Int→Ω (Int)) (a0 a1 a2 a3 : Int) : Ω (Int) := (if a0 = 1 then ((c23 a1 a2).bind fun t1 => some t1) else (if a0 = 2 then ((c24 a1 a2).bind fun t2 => some t2) else (if a0 = 3 then ((c25 a1 a2).bind fun t3 => some t3) else (if a0 = 4 then ((c26 a1 a2).bind fun t4 => some t4) else (if a0 = 5 then ((c27 a1).bind fun t5 => some t5) else ((c28 a1 a2 a3).bind fun t6 => some t6))))))
noncomputable def f (n : Nat) (a0 a1 a2 a3 : Int) : Ω (Int) := b0 (soft_Add.f n) (soft_Sub.f n) (soft_Mul.f n) (soft_Div.f n) (soft_Sqrt.f n) (soft_Fma.f n) a0 a1 a2 a3
noncomputable def sg : Sig (Int) := s1 (sInt .u64)
noncomputable def code : Code := (Tryd.f7.body).getD .skip
noncomputable def cfg (c23 : Int→Int→Ω (Int)) (c24 : Int→Int→Ω (Int)) (c25 : Int→Int→Ω (Int)) (c26 : Int→Int→Ω (Int)) (c27 : Int→Ω (Int)) (c28 : Int→Int→Int→Ω (Int)) : Cfg (Int) := { T := tys, call := orCall 23 (soft_Add.call c23) (orCall 24 (soft_Sub.call c24) (orCall 25 (soft_Mul.call c25) (orCall 26 (soft_Div.call c26) (orCall 27 (soft_Sqrt.call c27) (orCall 28 (soft_Fma.call c28) (noCall)))))) }
noncomputable def cuts : List (Nat × List (Nat × Want)) := []
theorem e0 {c23 c24 c25 c26 c27 c28 n J a0 a1 a2 a3} : afun (cfg c23 c24 c25 c26 c27 c28) J cuts n code Tryd.f7.results.toList [false] [.int .i64 a0, .agg [.int .u64 a1, .int .u64 a2, .int .u64 a3]] sg.out = b0 c23 c24 c25 c26 c27 c28 a0 a1 a2 a3 := by kernel_rfl
theorem ok {n  a0 a1 a2 a3 r} (h : f n a0 a1 a2 a3 = some r) : CallD Tryd.prog HW 7 [.int .i64 a0, .agg [.int .u64 a1, .int .u64 a2, .int .u64 a3]] (sg.enc r) :=
  fun_some hwS Tryd.func7 (by kernel_rfl) (body := code) (by kernel_rfl) tys_ok (c := cfg (soft_Add.f n) (soft_Sub.f n) (soft_Mul.f n) (soft_Div.f n) (soft_Sqrt.f n) (soft_Fma.f n)) (orCall_ok (soft_Add.call_ok (n := n)) (orCall_ok (soft_Sub.call_ok (n := n)) (orCall_ok (soft_Mul.call_ok (n := n)) (orCall_ok (soft_Div.call_ok (n := n)) (orCall_ok (soft_Sqrt.call_ok (n := n)) (orCall_ok (soft_Fma.call_ok (n := n)) noCall_ok)))))) noW_ok (by kernel_rfl) (by kernel_rfl) (Nat.le_of_ble_eq_true (by kernel_rfl)) (Eq.trans ((e0 (n := n))) h)
noncomputable def call {α : Type} (g : Int→Int→Int→Int→Ω (Int)) (ds : List D) (K : List D→Ω α) : Ω α := match ds with
  | [.int .i64 a0, .agg [.int .u64 a1, .int .u64 a2, .int .u64 a3]] => (g a0 a1 a2 a3).bind fun r => K (sg.enc r)
  | _ => none
theorem call_ok {α : Type} {n : Nat} : COK Tryd.prog HW 7 (call (α := α) (f n)) := fun _ _ _ h => by
  unfold call at h; split at h
  · exact cok h fun _ => ok
  · cases h
end abacuslaw05_own
/-! ### abacuslaw05_finite: function 9 -/
namespace abacuslaw05_finite
noncomputable def b0 (a0 : Int) : Ω (Bool) := some (decide ((Go.bits .andNot .u64 a0 9223372036854775808) < 9218868437227405312))
noncomputable def f (a0 : Int) : Ω (Bool) := b0 a0
noncomputable def sg : Sig (Bool) := s1 (sBool)
noncomputable def code : Code := (Tryd.f9.body).getD .skip
noncomputable def cfg : Cfg (Bool) := { T := tys, call := noCall }
noncomputable def cuts : List (Nat × List (Nat × Want)) := []
theorem e0 {n J a0} : afun cfg J cuts n code Tryd.f9.results.toList [false] [.int .u64 a0] sg.out = b0 a0 := by kernel_rfl
theorem ok {a0 r} (h : f a0 = some r) : CallD Tryd.prog HW 9 [.int .u64 a0] (sg.enc r) :=
  fun_some hwS Tryd.func9 (by kernel_rfl) (body := code) (by kernel_rfl) tys_ok (c := cfg) noCall_ok noW_ok (by kernel_rfl) (by kernel_rfl) (Nat.le_of_ble_eq_true (by kernel_rfl)) (Eq.trans ((e0 (n := 0))) h)
noncomputable def call {α : Type} (g : Int→Ω (Bool)) (ds : List D) (K : List D→Ω α) : Ω α := match ds with
  | [.int .u64 a0] => (g a0).bind fun r => K (sg.enc r)
  | _ => none
theorem call_ok {α : Type} : COK Tryd.prog HW 9 (call (α := α) f) := fun _ _ _ h => by
  unfold call at h; split at h
  · exact cok h fun _ => ok
  · cases h
end abacuslaw05_finite
/-! ### abacuslaw05_usual: function 8 -/
namespace abacuslaw05_usual
noncomputable def b0 (c9 : Int→Ω (Bool)) (k13 : Int→Bool→Int→Int→Int→Ω (Bool)) (a0 a1 a2 a3 : Int) : Ω (Bool) := ((c9 a1).bind fun t1 => (if (!t1) = true then k13 a0 true a1 a2 a3 else (if ¬ a0 = 5 then ((c9 a2).bind fun t2 => (if (!t2) = true then k13 a0 true a1 a2 a3 else (if a0 = 6 then ((c9 a3).bind fun t3 => k13 a0 (!t3) a1 a2 a3) else k13 a0 false a1 a2 a3))) else (if a0 = 6 then ((c9 a3).bind fun t4 => k13 a0 (!t4) a1 a2 a3) else k13 a0 false a1 a2 a3))))
noncomputable def b13 (c9 : Int→Ω (Bool)) (k15 : Int→Int→Int→Int→Ω (Bool)) (x0 : Int) (x1 : Bool) (x2 x3 x4 : Int) : Ω (Bool) := (if x1 = true then some false else (if x0 = 4 then (if (Go.bits .andNot .u64 x3 9223372036854775808) = 0 then some false else k15 x0 x2 x3 x4) else k15 x0 x2 x3 x4))
noncomputable def b15 (c9 : Int→Ω (Bool)) (x0 x1 x2 x3 : Int) : Ω (Bool) := (if ¬ x0 = 5 then some true else some (decide (x1 ≤ 9223372036854775808)))
noncomputable def l15 (x0 x1 x2 x3 : Int) : Ω (Bool) := b15 abacuslaw05_finite.f x0 x1 x2 x3
noncomputable def l13 (x0 : Int) (x1 : Bool) (x2 x3 x4 : Int) : Ω (Bool) := b13 abacuslaw05_finite.f (l15) x0 x1 x2 x3 x4
noncomputable def f (a0 a1 a2 a3 : Int) : Ω (Bool) := b0 abacuslaw05_finite.f (l13) a0 a1 a2 a3
noncomputable def sg : Sig (Bool) := s1 (sBool)
noncomputable def code : Code := (Tryd.f8.body).getD .skip
noncomputable def cfg (c9 : Int→Ω (Bool)) : Cfg (Bool) := { T := tys, call := orCall 9 (abacuslaw05_finite.call c9) (noCall) }
noncomputable def cuts : List (Nat × List (Nat × Want)) := [(13, [(0, .keep), (3, .keep), (28, .keep)]), (15, [(0, .keep), (3, .keep)])]
noncomputable def s13 (x0 : Int) (x1 : Bool) (x2 x3 x4 : Int) : ASt := ⟨[(0, .int .i64 x0), (3, .ptr 0 0), (28, .bool x1)], [.cells 24 [.int .u64 x2, .int .u64 x3, .int .u64 x4]]⟩
noncomputable def s15 (x0 x1 x2 x3 : Int) : ASt := ⟨[(0, .int .i64 x0), (3, .ptr 0 0)], [.cells 24 [.int .u64 x1, .int .u64 x2, .int .u64 x3]]⟩
noncomputable def A (c9 : Int→Ω (Bool)) (n : Nat) (J : Jt (Bool)) (q : Nat) (ms : List Nat) : ASt→Ω (Bool) := acont (cfg c9) J cuts n q code 1 ms (aend (cfg c9) Tryd.f8.results.toList [false] sg.out)
theorem e0 {c9 n J a0 a1 a2 a3} : afun (cfg c9) J cuts n code Tryd.f8.results.toList [false] [.int .i64 a0, .agg [.int .u64 a1, .int .u64 a2, .int .u64 a3]] sg.out = b0 c9 (fun y0 y1 y2 y3 y4 => J 13 (A c9 n J 13 []) (s13 y0 y1 y2 y3 y4)) a0 a1 a2 a3 := by kernel_rfl
theorem e13 {c9 n J x0 x1 x2 x3 x4} : A c9 n J 13 [] (s13 x0 x1 x2 x3 x4) = b13 c9 (fun y0 y1 y2 y3 => J 15 (A c9 n J 15 []) (s15 y0 y1 y2 y3)) x0 x1 x2 x3 x4 := by kernel_rfl
theorem e15 {c9 n J x0 x1 x2 x3} : A c9 n J 15 [] (s15 x0 x1 x2 x3) = b15 c9 x0 x1 x2 x3 := by kernel_rfl
noncomputable abbrev I (n : Nat) := A abacuslaw05_finite.f n idJ
theorem q15 (n x0 x1 x2 x3) : I n 15 [] (s15 x0 x1 x2 x3) = l15 x0 x1 x2 x3 := e15
theorem q13 (n x0 x1 x2 x3 x4) : I n 13 [] (s13 x0 x1 x2 x3 x4) = l13 x0 x1 x2 x3 x4 := e13.trans (Eq.trans (cf5 (congrArg (b13 _) (fu4 (q15 n))) _ _ _ _ _) rfl)
theorem ok {a0 a1 a2 a3 r} (h : f a0 a1 a2 a3 = some r) : CallD Tryd.prog HW 8 [.int .i64 a0, .agg [.int .u64 a1, .int .u64 a2, .int .u64 a3]] (sg.enc r) :=
  fun_some hwS Tryd.func8 (by kernel_rfl) (body := code) (by kernel_rfl) tys_ok (c := cfg abacuslaw05_finite.f) (orCall_ok abacuslaw05_finite.call_ok noCall_ok) noW_ok (by kernel_rfl) (by kernel_rfl) (Nat.le_of_ble_eq_true (by kernel_rfl)) (Eq.trans ((e0 (n := 0)).trans (Eq.trans (cf4 (congrArg (b0 _) (fu5 (q13 0))) _ _ _ _) rfl)) h)
noncomputable def call {α : Type} (g : Int→Int→Int→Int→Ω (Bool)) (ds : List D) (K : List D→Ω α) : Ω α := match ds with
  | [.int .i64 a0, .agg [.int .u64 a1, .int .u64 a2, .int .u64 a3]] => (g a0 a1 a2 a3).bind fun r => K (sg.enc r)
  | _ => none
theorem call_ok {α : Type} : COK Tryd.prog HW 8 (call (α := α) f) := fun _ _ _ h => by
  unfold call at h; split at h
  · exact cok h fun _ => ok
  · cases h
end abacuslaw05_usual
/-! ### abacuslaw05_units: function 29 -/
namespace abacuslaw05_units
noncomputable def b0 (c20 : Int→Ω (Bool × Int × Int × Int)) (c58 : Int→Ω (Λ)) (c59 : Λ→Int→Ω (Λ × Int)) (k63 : Λ→Int→Bool→Int→Int→Int→Ω (Bool × Λ)) (a0 : Int) : Ω (Bool × Λ) := ((c20 a0).bind fun t1 => ((c58 t1.2.2.1).bind fun t2 => (if t1.2.1 = 3 then ((c58 1).bind fun t3 => k63 t3 1024 t1.1 t1.2.1 t1.2.2.1 t1.2.2.2) else k63 t2 t1.2.2.2 t1.1 t1.2.1 t1.2.2.1 t1.2.2.2)))
noncomputable def b63 (c20 : Int→Ω (Bool × Int × Int × Int)) (c58 : Int→Ω (Λ)) (c59 : Λ→Int→Ω (Λ × Int)) (x0 : Λ) (x1 : Int) (x2 : Bool) (x3 x4 x5 : Int) : Ω (Bool × Λ) := ((c59 x0 (wrap64 (x1 + 1074))).bind fun t1 => some (x2, t1.1))
noncomputable def l63 (n : Nat) (x0 : Λ) (x1 : Int) (x2 : Bool) (x3 x4 x5 : Int) : Ω (Bool × Λ) := b63 ieee_Decode.f nat_FromUint.f (nat_Shl.f n) x0 x1 x2 x3 x4 x5
noncomputable def f (n : Nat) (a0 : Int) : Ω (Bool × Λ) := b0 ieee_Decode.f nat_FromUint.f (nat_Shl.f n) (l63 n) a0
noncomputable def sg : Sig (Bool × Λ) := s1 (sAgg (s2 (sBool) (s1 (sRow .u64))))
noncomputable def code : Code := (Tryd.f29.body).getD .skip
noncomputable def cfg (c20 : Int→Ω (Bool × Int × Int × Int)) (c58 : Int→Ω (Λ)) (c59 : Λ→Int→Ω (Λ × Int)) : Cfg (Bool × Λ) := { T := tys, call := orCall 20 (ieee_Decode.call c20) (orCall 58 (nat_FromUint.call c58) (orCall 59 (nat_Shl.call c59) (noCall))) }
noncomputable def cuts : List (Nat × List (Nat × Want)) := [(63, [(2, .keep), (3, .keep), (4, .keep), (5, .keep)])]
noncomputable def s63 (x0 : Λ) (x1 : Int) (x2 : Bool) (x3 x4 x5 : Int) : ASt := ⟨[(2, .ptr 0 0), (3, .ptr 1 0), (4, .ro .u64 x0), (5, .int .i64 x1)], [.cells 52 [.bool false, .nil], .cells 46 [.bool x2, .int .i64 x3, .int .u64 x4, .int .i64 x5]]⟩
noncomputable def A (c20 : Int→Ω (Bool × Int × Int × Int)) (c58 : Int→Ω (Λ)) (c59 : Λ→Int→Ω (Λ × Int)) (n : Nat) (J : Jt (Bool × Λ)) (q : Nat) (ms : List Nat) : ASt→Ω (Bool × Λ) := acont (cfg c20 c58 c59) J cuts n q code 1 ms (aend (cfg c20 c58 c59) Tryd.f29.results.toList [false] sg.out)
theorem e0 {c20 c58 c59 n J a0} : afun (cfg c20 c58 c59) J cuts n code Tryd.f29.results.toList [false] [.int .u64 a0] sg.out = b0 c20 c58 c59 (fun y0 y1 y2 y3 y4 y5 => J 63 (A c20 c58 c59 n J 63 []) (s63 y0 y1 y2 y3 y4 y5)) a0 := by kernel_rfl
theorem e63 {c20 c58 c59 n J x0 x1 x2 x3 x4 x5} : A c20 c58 c59 n J 63 [] (s63 x0 x1 x2 x3 x4 x5) = b63 c20 c58 c59 x0 x1 x2 x3 x4 x5 := by kernel_rfl
noncomputable abbrev I (n : Nat) := A ieee_Decode.f nat_FromUint.f (nat_Shl.f n) n idJ
theorem q63 (n x0 x1 x2 x3 x4 x5) : I n 63 [] (s63 x0 x1 x2 x3 x4 x5) = l63 n x0 x1 x2 x3 x4 x5 := e63
theorem ok {n  a0 r} (h : f n a0 = some r) : CallD Tryd.prog HW 29 [.int .u64 a0] (sg.enc r) :=
  fun_some hwS Tryd.func29 (by kernel_rfl) (body := code) (by kernel_rfl) tys_ok (c := cfg ieee_Decode.f nat_FromUint.f (nat_Shl.f n)) (orCall_ok ieee_Decode.call_ok (orCall_ok nat_FromUint.call_ok (orCall_ok (nat_Shl.call_ok (n := n)) noCall_ok))) noW_ok (by kernel_rfl) (by kernel_rfl) (Nat.le_of_ble_eq_true (by kernel_rfl)) (Eq.trans ((e0 (n := n)).trans (Eq.trans (cf1 (congrArg (b0 _ _ _) (fu6 (q63 n))) _) rfl)) h)
noncomputable def call {α : Type} (g : Int→Ω (Bool × Λ)) (ds : List D) (K : List D→Ω α) : Ω α := match ds with
  | [.int .u64 a0] => (g a0).bind fun r => K (sg.enc r)
  | _ => none
theorem call_ok {α : Type} {n : Nat} : COK Tryd.prog HW 29 (call (α := α) (f n)) := fun _ _ _ h => by
  unfold call at h; split at h
  · exact cok h fun _ => ok
  · cases h
end abacuslaw05_units
/-! ### abacuslaw05_plus: function 31 -/
namespace abacuslaw05_plus
noncomputable def b0 (c21 : Λ→Λ→Ω (Int)) (c61 : Λ→Λ→Ω (Λ × Int)) (c62 : Λ→Λ→Ω (Λ × Int)) (a0 : Bool) (l1 : Λ) (a2 : Bool) (l3 : Λ) : Ω (Bool × Λ) := (if (a0 == a2) = true then ((c61 l1 l3).bind fun t1 => some (a0, t1.1)) else ((c21 l1 l3).bind fun t2 => (if t2 ≥ 0 then ((c62 l1 l3).bind fun t3 => some (a0, t3.1)) else ((c62 l3 l1).bind fun t4 => some (a2, t4.1)))))
noncomputable def f (n : Nat) (a0 : Bool) (l1 : Λ) (a2 : Bool) (l3 : Λ) : Ω (Bool × Λ) := b0 (nat_Cmp.f n) (nat_Add.f n) (nat_Sub.f n) a0 l1 a2 l3
noncomputable def sg : Sig (Bool × Λ) := s1 (sAgg (s2 (sBool) (s1 (sRow .u64))))
noncomputable def code : Code := (Tryd.f31.body).getD .skip
noncomputable def cfg (c21 : Λ→Λ→Ω (Int)) (c61 : Λ→Λ→Ω (Λ × Int)) (c62 : Λ→Λ→Ω (Λ × Int)) : Cfg (Bool × Λ) := { T := tys, call := orCall 21 (nat_Cmp.call c21) (orCall 61 (nat_Add.call c61) (orCall 62 (nat_Sub.call c62) (noCall))) }
noncomputable def cuts : List (Nat × List (Nat × Want)) := []
theorem e0 {c21 c61 c62 n J a0 l1 a2 l3} : afun (cfg c21 c61 c62) J cuts n code Tryd.f31.results.toList [false] [.agg [.bool a0, .ro .u64 l1], .agg [.bool a2, .ro .u64 l3]] sg.out = b0 c21 c61 c62 a0 l1 a2 l3 := by kernel_rfl
theorem ok {n  a0 l1 a2 l3 r} (h : f n a0 l1 a2 l3 = some r) : CallD Tryd.prog HW 31 [.agg [.bool a0, .ro .u64 l1], .agg [.bool a2, .ro .u64 l3]] (sg.enc r) :=
  fun_some hwS Tryd.func31 (by kernel_rfl) (body := code) (by kernel_rfl) tys_ok (c := cfg (nat_Cmp.f n) (nat_Add.f n) (nat_Sub.f n)) (orCall_ok (nat_Cmp.call_ok (n := n)) (orCall_ok (nat_Add.call_ok (n := n)) (orCall_ok (nat_Sub.call_ok (n := n)) noCall_ok))) noW_ok (by kernel_rfl) (by kernel_rfl) (Nat.le_of_ble_eq_true (by kernel_rfl)) (Eq.trans ((e0 (n := n))) h)
noncomputable def call {α : Type} (g : Bool→Λ→Bool→Λ→Ω (Bool × Λ)) (ds : List D) (K : List D→Ω α) : Ω α := match ds with
  | [.agg [.bool a0, .ro .u64 l1], .agg [.bool a2, .ro .u64 l3]] => (g a0 l1 a2 l3).bind fun r => K (sg.enc r)
  | _ => none
theorem call_ok {α : Type} {n : Nat} : COK Tryd.prog HW 31 (call (α := α) (f n)) := fun _ _ _ h => by
  unfold call at h; split at h
  · exact cok h fun _ => ok
  · cases h
end abacuslaw05_plus
/-! ### abacuslaw05_apart: function 60 -/
namespace abacuslaw05_apart
noncomputable def b0 (c31 : Bool→Λ→Bool→Λ→Ω (Bool × Λ)) (a0 : Bool) (l1 : Λ) (a2 : Bool) (l3 : Λ) : Ω (Λ) := ((c31 a0 l1 (!a2) l3).bind fun t1 => some t1.2)
noncomputable def f (n : Nat) (a0 : Bool) (l1 : Λ) (a2 : Bool) (l3 : Λ) : Ω (Λ) := b0 (abacuslaw05_plus.f n) a0 l1 a2 l3
noncomputable def sg : Sig (Λ) := s1 (sRow .u64)
noncomputable def code : Code := (Tryd.f60.body).getD .skip
noncomputable def cfg (c31 : Bool→Λ→Bool→Λ→Ω (Bool × Λ)) : Cfg (Λ) := { T := tys, call := orCall 31 (abacuslaw05_plus.call c31) (noCall) }
noncomputable def cuts : List (Nat × List (Nat × Want)) := []
theorem e0 {c31 n J a0 l1 a2 l3} : afun (cfg c31) J cuts n code Tryd.f60.results.toList [false] [.agg [.bool a0, .ro .u64 l1], .agg [.bool a2, .ro .u64 l3]] sg.out = b0 c31 a0 l1 a2 l3 := by kernel_rfl
theorem ok {n  a0 l1 a2 l3 r} (h : f n a0 l1 a2 l3 = some r) : CallD Tryd.prog HW 60 [.agg [.bool a0, .ro .u64 l1], .agg [.bool a2, .ro .u64 l3]] (sg.enc r) :=
  fun_some hwS Tryd.func60 (by kernel_rfl) (body := code) (by kernel_rfl) tys_ok (c := cfg (abacuslaw05_plus.f n)) (orCall_ok (abacuslaw05_plus.call_ok (n := n)) noCall_ok) noW_ok (by kernel_rfl) (by kernel_rfl) (Nat.le_of_ble_eq_true (by kernel_rfl)) (Eq.trans ((e0 (n := n))) h)
noncomputable def call {α : Type} (g : Bool→Λ→Bool→Λ→Ω (Λ)) (ds : List D) (K : List D→Ω α) : Ω α := match ds with
  | [.agg [.bool a0, .ro .u64 l1], .agg [.bool a2, .ro .u64 l3]] => (g a0 l1 a2 l3).bind fun r => K (sg.enc r)
  | _ => none
theorem call_ok {α : Type} {n : Nat} : COK Tryd.prog HW 60 (call (α := α) (f n)) := fun _ _ _ h => by
  unfold call at h; split at h
  · exact cok h fun _ => ok
  · cases h
end abacuslaw05_apart
/-! ### abacuslaw05_same: function 30 -/
namespace abacuslaw05_same
noncomputable def b0 (c60 : Bool→Λ→Bool→Λ→Ω (Λ)) (a0 : Bool) (l1 : Λ) (a2 : Bool) (l3 : Λ) : Ω (Bool) := ((c60 a0 l1 a2 l3).bind fun t1 => some (decide ((ln t1) = 0)))
noncomputable def f (n : Nat) (a0 : Bool) (l1 : Λ) (a2 : Bool) (l3 : Λ) : Ω (Bool) := b0 (abacuslaw05_apart.f n) a0 l1 a2 l3
noncomputable def sg : Sig (Bool) := s1 (sBool)
noncomputable def code : Code := (Tryd.f30.body).getD .skip
noncomputable def cfg (c60 : Bool→Λ→Bool→Λ→Ω (Λ)) : Cfg (Bool) := { T := tys, call := orCall 60 (abacuslaw05_apart.call c60) (noCall) }
noncomputable def cuts : List (Nat × List (Nat × Want)) := []
theorem e0 {c60 n J a0 l1 a2 l3} : afun (cfg c60) J cuts n code Tryd.f30.results.toList [false] [.agg [.bool a0, .ro .u64 l1], .agg [.bool a2, .ro .u64 l3]] sg.out = b0 c60 a0 l1 a2 l3 := by kernel_rfl
theorem ok {n  a0 l1 a2 l3 r} (h : f n a0 l1 a2 l3 = some r) : CallD Tryd.prog HW 30 [.agg [.bool a0, .ro .u64 l1], .agg [.bool a2, .ro .u64 l3]] (sg.enc r) :=
  fun_some hwS Tryd.func30 (by kernel_rfl) (body := code) (by kernel_rfl) tys_ok (c := cfg (abacuslaw05_apart.f n)) (orCall_ok (abacuslaw05_apart.call_ok (n := n)) noCall_ok) noW_ok (by kernel_rfl) (by kernel_rfl) (Nat.le_of_ble_eq_true (by kernel_rfl)) (Eq.trans ((e0 (n := n))) h)
noncomputable def call {α : Type} (g : Bool→Λ→Bool→Λ→Ω (Bool)) (ds : List D) (K : List D→Ω α) : Ω α := match ds with
  | [.agg [.bool a0, .ro .u64 l1], .agg [.bool a2, .ro .u64 l3]] => (g a0 l1 a2 l3).bind fun r => K (sg.enc r)
  | _ => none
theorem call_ok {α : Type} {n : Nat} : COK Tryd.prog HW 30 (call (α := α) (f n)) := fun _ _ _ h => by
  unfold call at h; split at h
  · exact cok h fun _ => ok
  · cases h
end abacuslaw05_same
/-! ### abacuslaw05_times: function 32 -/
namespace abacuslaw05_times
noncomputable def b0 (c19 : Λ→Λ→Ω (Λ × Int)) (a0 : Bool) (l1 : Λ) (a2 : Bool) (l3 : Λ) : Ω (Bool × Λ) := ((c19 l1 l3).bind fun t1 => some (a0 != a2, t1.1))
noncomputable def f (n : Nat) (a0 : Bool) (l1 : Λ) (a2 : Bool) (l3 : Λ) : Ω (Bool × Λ) := b0 (nat_Mul.f n) a0 l1 a2 l3
noncomputable def sg : Sig (Bool × Λ) := s1 (sAgg (s2 (sBool) (s1 (sRow .u64))))
noncomputable def code : Code := (Tryd.f32.body).getD .skip
noncomputable def cfg (c19 : Λ→Λ→Ω (Λ × Int)) : Cfg (Bool × Λ) := { T := tys, call := orCall 19 (nat_Mul.call c19) (noCall) }
noncomputable def cuts : List (Nat × List (Nat × Want)) := []
theorem e0 {c19 n J a0 l1 a2 l3} : afun (cfg c19) J cuts n code Tryd.f32.results.toList [false] [.agg [.bool a0, .ro .u64 l1], .agg [.bool a2, .ro .u64 l3]] sg.out = b0 c19 a0 l1 a2 l3 := by kernel_rfl
theorem ok {n  a0 l1 a2 l3 r} (h : f n a0 l1 a2 l3 = some r) : CallD Tryd.prog HW 32 [.agg [.bool a0, .ro .u64 l1], .agg [.bool a2, .ro .u64 l3]] (sg.enc r) :=
  fun_some hwS Tryd.func32 (by kernel_rfl) (body := code) (by kernel_rfl) tys_ok (c := cfg (nat_Mul.f n)) (orCall_ok (nat_Mul.call_ok (n := n)) noCall_ok) noW_ok (by kernel_rfl) (by kernel_rfl) (Nat.le_of_ble_eq_true (by kernel_rfl)) (Eq.trans ((e0 (n := n))) h)
noncomputable def call {α : Type} (g : Bool→Λ→Bool→Λ→Ω (Bool × Λ)) (ds : List D) (K : List D→Ω α) : Ω α := match ds with
  | [.agg [.bool a0, .ro .u64 l1], .agg [.bool a2, .ro .u64 l3]] => (g a0 l1 a2 l3).bind fun r => K (sg.enc r)
  | _ => none
theorem call_ok {α : Type} {n : Nat} : COK Tryd.prog HW 32 (call (α := α) (f n)) := fun _ _ _ h => by
  unfold call at h; split at h
  · exact cok h fun _ => ok
  · cases h
end abacuslaw05_times
/-! ### abacuslaw05_lifted: function 33 -/
namespace abacuslaw05_lifted
noncomputable def b0 (c59 : Λ→Int→Ω (Λ × Int)) (a0 : Bool) (l1 : Λ) (a2 : Int) : Ω (Bool × Λ) := ((c59 l1 a2).bind fun t1 => some (a0, t1.1))
noncomputable def f (n : Nat) (a0 : Bool) (l1 : Λ) (a2 : Int) : Ω (Bool × Λ) := b0 (nat_Shl.f n) a0 l1 a2
noncomputable def sg : Sig (Bool × Λ) := s1 (sAgg (s2 (sBool) (s1 (sRow .u64))))
noncomputable def code : Code := (Tryd.f33.body).getD .skip
noncomputable def cfg (c59 : Λ→Int→Ω (Λ × Int)) : Cfg (Bool × Λ) := { T := tys, call := orCall 59 (nat_Shl.call c59) (noCall) }
noncomputable def cuts : List (Nat × List (Nat × Want)) := []
theorem e0 {c59 n J a0 l1 a2} : afun (cfg c59) J cuts n code Tryd.f33.results.toList [false] [.agg [.bool a0, .ro .u64 l1], .int .i64 a2] sg.out = b0 c59 a0 l1 a2 := by kernel_rfl
theorem ok {n  a0 l1 a2 r} (h : f n a0 l1 a2 = some r) : CallD Tryd.prog HW 33 [.agg [.bool a0, .ro .u64 l1], .int .i64 a2] (sg.enc r) :=
  fun_some hwS Tryd.func33 (by kernel_rfl) (body := code) (by kernel_rfl) tys_ok (c := cfg (nat_Shl.f n)) (orCall_ok (nat_Shl.call_ok (n := n)) noCall_ok) noW_ok (by kernel_rfl) (by kernel_rfl) (Nat.le_of_ble_eq_true (by kernel_rfl)) (Eq.trans ((e0 (n := n))) h)
noncomputable def call {α : Type} (g : Bool→Λ→Int→Ω (Bool × Λ)) (ds : List D) (K : List D→Ω α) : Ω α := match ds with
  | [.agg [.bool a0, .ro .u64 l1], .int .i64 a2] => (g a0 l1 a2).bind fun r => K (sg.enc r)
  | _ => none
theorem call_ok {α : Type} {n : Nat} : COK Tryd.prog HW 33 (call (α := α) (f n)) := fun _ _ _ h => by
  unfold call at h; split at h
  · exact cok h fun _ => ok
  · cases h
end abacuslaw05_lifted
/-! ### abacuslaw05_exactly: function 10 -/
namespace abacuslaw05_exactly
noncomputable def b0 (c29 : Int→Ω (Bool × Λ)) (c30 : Bool→Λ→Bool→Λ→Ω (Bool)) (c31 : Bool→Λ→Bool→Λ→Ω (Bool × Λ)) (c32 : Bool→Λ→Bool→Λ→Ω (Bool × Λ)) (c33 : Bool→Λ→Int→Ω (Bool × Λ)) (a0 a1 a2 a3 a4 : Int) : Ω (Bool) := ((c29 a1).bind fun t1 => ((c29 a2).bind fun t2 => (if a0 = 1 then ((c31 t1.1 t1.2 t2.1 t2.2).bind fun t3 => ((c29 a4).bind fun t4 => ((c30 t3.1 t3.2 t4.1 t4.2).bind fun t5 => some t5))) else (if a0 = 2 then ((c31 t1.1 t1.2 (!t2.1) t2.2).bind fun t6 => ((c29 a4).bind fun t7 => ((c30 t6.1 t6.2 t7.1 t7.2).bind fun t8 => some t8))) else (if a0 = 3 then ((c32 t1.1 t1.2 t2.1 t2.2).bind fun t9 => ((c29 a4).bind fun t10 => ((c33 t10.1 t10.2 1074).bind fun t11 => ((c30 t9.1 t9.2 t11.1 t11.2).bind fun t12 => some t12)))) else (if a0 = 4 then ((c33 t1.1 t1.2 1074).bind fun t13 => ((c29 a4).bind fun t14 => ((c32 t2.1 t2.2 t14.1 t14.2).bind fun t15 => ((c30 t13.1 t13.2 t15.1 t15.2).bind fun t16 => some t16)))) else (if a0 = 5 then ((c33 t1.1 t1.2 1074).bind fun t17 => ((c29 a4).bind fun t18 => ((c29 a4).bind fun t19 => ((c32 t18.1 t18.2 t19.1 t19.2).bind fun t20 => ((c30 t17.1 t17.2 t20.1 t20.2).bind fun t21 => some t21))))) else ((c32 t1.1 t1.2 t2.1 t2.2).bind fun t22 => ((c29 a3).bind fun t23 => ((c33 t23.1 t23.2 1074).bind fun t24 => ((c31 t22.1 t22.2 t24.1 t24.2).bind fun t25 => ((c29 a4).bind fun t26 => ((c33 t26.1 t26.2 1074).bind fun t27 => ((c30 t25.1 t25.2 t27.1 t27.2).bind fun t28 => some t28))))))))))))))
noncomputable def f (n : Nat) (a0 a1 a2 a3 a4 : Int) : Ω (Bool) := b0 (abacuslaw05_units.f n) (abacuslaw05_same.f n) (abacuslaw05_plus.f n) (abacuslaw05_times.f n) (abacuslaw05_lifted.f n) a0 a1 a2 a3 a4
noncomputable def sg : Sig (Bool) := s1 (sBool)
noncomputable def code : Code := (Tryd.f10.body).getD .skip
noncomputable def cfg (c29 : Int→Ω (Bool × Λ)) (c30 : Bool→Λ→Bool→Λ→Ω (Bool)) (c31 : Bool→Λ→Bool→Λ→Ω (Bool × Λ)) (c32 : Bool→Λ→Bool→Λ→Ω (Bool × Λ)) (c33 : Bool→Λ→Int→Ω (Bool × Λ)) : Cfg (Bool) := { T := tys, call := orCall 29 (abacuslaw05_units.call c29) (orCall 30 (abacuslaw05_same.call c30) (orCall 31 (abacuslaw05_plus.call c31) (orCall 32 (abacuslaw05_times.call c32) (orCall 33 (abacuslaw05_lifted.call c33) (noCall))))) }
noncomputable def cuts : List (Nat × List (Nat × Want)) := []
theorem e0 {c29 c30 c31 c32 c33 n J a0 a1 a2 a3 a4} : afun (cfg c29 c30 c31 c32 c33) J cuts n code Tryd.f10.results.toList [false] [.int .i64 a0, .agg [.int .u64 a1, .int .u64 a2, .int .u64 a3], .int .u64 a4] sg.out = b0 c29 c30 c31 c32 c33 a0 a1 a2 a3 a4 := by kernel_rfl
theorem ok {n  a0 a1 a2 a3 a4 r} (h : f n a0 a1 a2 a3 a4 = some r) : CallD Tryd.prog HW 10 [.int .i64 a0, .agg [.int .u64 a1, .int .u64 a2, .int .u64 a3], .int .u64 a4] (sg.enc r) :=
  fun_some hwS Tryd.func10 (by kernel_rfl) (body := code) (by kernel_rfl) tys_ok (c := cfg (abacuslaw05_units.f n) (abacuslaw05_same.f n) (abacuslaw05_plus.f n) (abacuslaw05_times.f n) (abacuslaw05_lifted.f n)) (orCall_ok (abacuslaw05_units.call_ok (n := n)) (orCall_ok (abacuslaw05_same.call_ok (n := n)) (orCall_ok (abacuslaw05_plus.call_ok (n := n)) (orCall_ok (abacuslaw05_times.call_ok (n := n)) (orCall_ok (abacuslaw05_lifted.call_ok (n := n)) noCall_ok))))) noW_ok (by kernel_rfl) (by kernel_rfl) (Nat.le_of_ble_eq_true (by kernel_rfl)) (Eq.trans ((e0 (n := n))) h)
noncomputable def call {α : Type} (g : Int→Int→Int→Int→Int→Ω (Bool)) (ds : List D) (K : List D→Ω α) : Ω α := match ds with
  | [.int .i64 a0, .agg [.int .u64 a1, .int .u64 a2, .int .u64 a3], .int .u64 a4] => (g a0 a1 a2 a3 a4).bind fun r => K (sg.enc r)
  | _ => none
theorem call_ok {α : Type} {n : Nat} : COK Tryd.prog HW 10 (call (α := α) (f n)) := fun _ _ _ h => by
  unfold call at h; split at h
  · exact cok h fun _ => ok
  · cases h
end abacuslaw05_exactly
/-! ### abacuslaw05_SoftFlags: function 3 -/
namespace abacuslaw05_SoftFlags
noncomputable def b0 (c5 : Int→Int→Int→Int→Ω (Int × Int × Int)) (c6 : Ω (Bool)) (c7 : Int→Int→Int→Int→Ω (Int)) (c8 : Int→Int→Int→Int→Ω (Bool)) (c9 : Int→Ω (Bool)) (c10 : Int→Int→Int→Int→Int→Ω (Bool)) (k245 : Int→Int→Int→Int→Ω (Bool)) (a0 a1 a2 : Int) : Ω (Bool) := ((c5 4 4607182418800017408 4613937818241073152 0).bind fun t1 => ((c6).bind fun t2 => (if (!t2) = true then some false else (if ¬ t1.2.2 = 0 then some false else (if ¬ t1.1 = 4599676419421066581 then some false else (if ¬ t1.2.1 = 16 then some false else k245 1 a0 a1 a2))))))
noncomputable def b245 (c5 : Int→Int→Int→Int→Ω (Int × Int × Int)) (c6 : Ω (Bool)) (c7 : Int→Int→Int→Int→Ω (Int)) (c8 : Int→Int→Int→Int→Ω (Bool)) (c9 : Int→Ω (Bool)) (c10 : Int→Int→Int→Int→Int→Ω (Bool)) (k245 : Int→Int→Int→Int→Ω (Bool)) (k62623 : Int→Int→Int→Bool→Bool→Int→Int→Int→Ω (Bool)) (x0 x1 x2 x3 : Int) : Ω (Bool) := (if x0 ≤ 6 then ((c5 x0 x1 x2 x3).bind fun t1 => (if ¬ t1.2.2 = 0 then some false else ((c7 x0 x1 x2 x3).bind fun t2 => (if ¬ t1.1 = t2 then some false else (if t1.2.1 < 0 then some false else (if t1.2.1 > 31 then some false else ((c8 x0 x1 x2 x3).bind fun t3 => (if (!t3) = true then k245 (wrap64 (x0 + 1)) x1 x2 x3 else (if (Go.bits .andNot .u64 t1.1 9223372036854775808) = 9218868437227405312 then k62623 x0 t1.1 t1.2.1 (decide ((Go.bits .andNot .u64 t1.1 9223372036854775808) = 9218868437227405312)) true x1 x2 x3 else ((c9 t1.1).bind fun t4 => (if (!t4) = true then k62623 x0 t1.1 t1.2.1 (decide ((Go.bits .andNot .u64 t1.1 9223372036854775808) = 9218868437227405312)) true x1 x2 x3 else ((c10 x0 x1 x2 x3 t1.1).bind fun t5 => k62623 x0 t1.1 t1.2.1 (decide ((Go.bits .andNot .u64 t1.1 9223372036854775808) = 9218868437227405312)) (!t5) x1 x2 x3)))))))))))) else some true)
noncomputable def b62623 (c5 : Int→Int→Int→Int→Ω (Int × Int × Int)) (c6 : Ω (Bool)) (c7 : Int→Int→Int→Int→Ω (Int)) (c8 : Int→Int→Int→Int→Ω (Bool)) (c9 : Int→Ω (Bool)) (c10 : Int→Int→Int→Int→Int→Ω (Bool)) (k250495 : Int→Int→Int→Bool→Int→Int→Int→Ω (Bool)) (x0 x1 x2 : Int) (x3 x4 : Bool) (x5 x6 x7 : Int) : Ω (Bool) := (if ((decide (¬ (Go.bits .and .i64 x2 16) = 0)) != x4) = true then some false else (if ((decide (¬ (Go.bits .and .i64 x2 4) = 0)) != x3) = true then some false else (if ¬ (Go.bits .and .i64 x2 3) = 0 then some false else (if ¬ (Go.bits .and .i64 x2 8) = 0 then (if (!x4) = true then some false else (if (Go.bits .andNot .u64 x1 9223372036854775808) > 4503599627370496 then some false else k250495 x0 x1 x2 x4 x5 x6 x7)) else k250495 x0 x1 x2 x4 x5 x6 x7))))
noncomputable def b250495 (c5 : Int→Int→Int→Int→Ω (Int × Int × Int)) (c6 : Ω (Bool)) (c7 : Int→Int→Int→Int→Ω (Int)) (c8 : Int→Int→Int→Int→Ω (Bool)) (c9 : Int→Ω (Bool)) (c10 : Int→Int→Int→Int→Int→Ω (Bool)) (k245 : Int→Int→Int→Int→Ω (Bool)) (x0 x1 x2 : Int) (x3 : Bool) (x4 x5 x6 : Int) : Ω (Bool) := (if x3 = true then (if (Go.bits .andNot .u64 x1 9223372036854775808) < 4503599627370496 then (if (Go.bits .and .i64 x2 8) = 0 then some false else k245 (wrap64 (x0 + 1)) x4 x5 x6) else k245 (wrap64 (x0 + 1)) x4 x5 x6) else k245 (wrap64 (x0 + 1)) x4 x5 x6)
noncomputable def l250495 (n : Nat) (k245 : Int→Int→Int→Int→Ω (Bool)) (x0 x1 x2 : Int) (x3 : Bool) (x4 x5 x6 : Int) : Ω (Bool) := b250495 (soft_Told.f n) (abacuslaw05_works.f n) (abacuslaw05_own.f n) abacuslaw05_usual.f abacuslaw05_finite.f (abacuslaw05_exactly.f n) k245 x0 x1 x2 x3 x4 x5 x6
noncomputable def l62623 (n : Nat) (k245 : Int→Int→Int→Int→Ω (Bool)) (x0 x1 x2 : Int) (x3 x4 : Bool) (x5 x6 x7 : Int) : Ω (Bool) := b62623 (soft_Told.f n) (abacuslaw05_works.f n) (abacuslaw05_own.f n) abacuslaw05_usual.f abacuslaw05_finite.f (abacuslaw05_exactly.f n) (l250495 n k245) x0 x1 x2 x3 x4 x5 x6 x7
noncomputable def l245 (n : Nat) : Nat→Int→Int→Int→Int→Ω (Bool)
  | 0, _, _, _, _ => none
  | m + 1, x0, x1, x2, x3 => b245 (soft_Told.f n) (abacuslaw05_works.f n) (abacuslaw05_own.f n) abacuslaw05_usual.f abacuslaw05_finite.f (abacuslaw05_exactly.f n) (l245 n m) (l62623 n (l245 n m)) x0 x1 x2 x3
noncomputable def f (n : Nat) (a0 a1 a2 : Int) : Ω (Bool) := b0 (soft_Told.f n) (abacuslaw05_works.f n) (abacuslaw05_own.f n) abacuslaw05_usual.f abacuslaw05_finite.f (abacuslaw05_exactly.f n) (l245 n n) a0 a1 a2
noncomputable def sg : Sig (Bool) := s1 (sBool)
noncomputable def code : Code := (Tryd.f3.body).getD .skip
noncomputable def cfg (c5 : Int→Int→Int→Int→Ω (Int × Int × Int)) (c6 : Ω (Bool)) (c7 : Int→Int→Int→Int→Ω (Int)) (c8 : Int→Int→Int→Int→Ω (Bool)) (c9 : Int→Ω (Bool)) (c10 : Int→Int→Int→Int→Int→Ω (Bool)) : Cfg (Bool) := { T := tys, call := orCall 5 (soft_Told.call c5) (orCall 6 (abacuslaw05_works.call c6) (orCall 7 (abacuslaw05_own.call c7) (orCall 8 (abacuslaw05_usual.call c8) (orCall 9 (abacuslaw05_finite.call c9) (orCall 10 (abacuslaw05_exactly.call c10) (noCall)))))) }
noncomputable def cuts : List (Nat × List (Nat × Want)) := [(245, [(1, .keep), (6, .keep)]), (62623, [(1, .keep), (6, .keep), (7, .keep), (8, .keep), (10, .keep), (11, .keep)]), (250495, [(1, .keep), (6, .keep), (7, .keep), (8, .keep), (11, .keep)])]
noncomputable def s245 (x0 x1 x2 x3 : Int) : ASt := ⟨[(1, .ptr 0 0), (6, .int .i64 x0)], [.cells 24 [.int .u64 x1, .int .u64 x2, .int .u64 x3]]⟩
noncomputable def s62623 (x0 x1 x2 : Int) (x3 x4 : Bool) (x5 x6 x7 : Int) : ASt := ⟨[(1, .ptr 0 0), (6, .int .i64 x0), (7, .int .u64 x1), (8, .int .i64 x2), (10, .bool x3), (11, .bool x4)], [.cells 24 [.int .u64 x5, .int .u64 x6, .int .u64 x7]]⟩
noncomputable def s250495 (x0 x1 x2 : Int) (x3 : Bool) (x4 x5 x6 : Int) : ASt := ⟨[(1, .ptr 0 0), (6, .int .i64 x0), (7, .int .u64 x1), (8, .int .i64 x2), (11, .bool x3)], [.cells 24 [.int .u64 x4, .int .u64 x5, .int .u64 x6]]⟩
noncomputable def A (c5 : Int→Int→Int→Int→Ω (Int × Int × Int)) (c6 : Ω (Bool)) (c7 : Int→Int→Int→Int→Ω (Int)) (c8 : Int→Int→Int→Int→Ω (Bool)) (c9 : Int→Ω (Bool)) (c10 : Int→Int→Int→Int→Int→Ω (Bool)) (n : Nat) (J : Jt (Bool)) (q : Nat) (ms : List Nat) : ASt→Ω (Bool) := acont (cfg c5 c6 c7 c8 c9 c10) J cuts n q code 1 ms (aend (cfg c5 c6 c7 c8 c9 c10) Tryd.f3.results.toList [false] sg.out)
theorem e0 {c5 c6 c7 c8 c9 c10 n J a0 a1 a2} : afun (cfg c5 c6 c7 c8 c9 c10) J cuts n code Tryd.f3.results.toList [false] [.agg [.int .u64 a0, .int .u64 a1, .int .u64 a2]] sg.out = b0 c5 c6 c7 c8 c9 c10 (fun y0 y1 y2 y3 => J 245 (A c5 c6 c7 c8 c9 c10 n J 245 [n]) (s245 y0 y1 y2 y3)) a0 a1 a2 := by kernel_rfl
theorem e245 {c5 c6 c7 c8 c9 c10 n J m x0 x1 x2 x3} : A c5 c6 c7 c8 c9 c10 n J 245 [m + 1] (s245 x0 x1 x2 x3) = b245 c5 c6 c7 c8 c9 c10 (fun y0 y1 y2 y3 => J 245 (A c5 c6 c7 c8 c9 c10 n J 245 [m]) (s245 y0 y1 y2 y3)) (fun y0 y1 y2 y3 y4 y5 y6 y7 => J 62623 (A c5 c6 c7 c8 c9 c10 n J 62623 [m]) (s62623 y0 y1 y2 y3 y4 y5 y6 y7)) x0 x1 x2 x3 := by kernel_rfl
theorem e62623 {c5 c6 c7 c8 c9 c10 n J m245 x0 x1 x2 x3 x4 x5 x6 x7} : A c5 c6 c7 c8 c9 c10 n J 62623 [m245] (s62623 x0 x1 x2 x3 x4 x5 x6 x7) = b62623 c5 c6 c7 c8 c9 c10 (fun y0 y1 y2 y3 y4 y5 y6 => J 250495 (A c5 c6 c7 c8 c9 c10 n J 250495 [m245]) (s250495 y0 y1 y2 y3 y4 y5 y6)) x0 x1 x2 x3 x4 x5 x6 x7 := by kernel_rfl
theorem e250495 {c5 c6 c7 c8 c9 c10 n J m245 x0 x1 x2 x3 x4 x5 x6} : A c5 c6 c7 c8 c9 c10 n J 250495 [m245] (s250495 x0 x1 x2 x3 x4 x5 x6) = b250495 c5 c6 c7 c8 c9 c10 (fun y0 y1 y2 y3 => J 245 (A c5 c6 c7 c8 c9 c10 n J 245 [m245]) (s245 y0 y1 y2 y3)) x0 x1 x2 x3 x4 x5 x6 := by kernel_rfl
noncomputable abbrev I (n : Nat) := A (soft_Told.f n) (abacuslaw05_works.f n) (abacuslaw05_own.f n) abacuslaw05_usual.f abacuslaw05_finite.f (abacuslaw05_exactly.f n) n idJ
theorem q250495 (n m245 x0 x1 x2 x3 x4 x5 x6) : I n 250495 [m245] (s250495 x0 x1 x2 x3 x4 x5 x6) = l250495 n (fun y0 y1 y2 y3 => I n 245 [m245] (s245 y0 y1 y2 y3)) x0 x1 x2 x3 x4 x5 x6 := e250495
theorem q62623 (n m245 x0 x1 x2 x3 x4 x5 x6 x7) : I n 62623 [m245] (s62623 x0 x1 x2 x3 x4 x5 x6 x7) = l62623 n (fun y0 y1 y2 y3 => I n 245 [m245] (s245 y0 y1 y2 y3)) x0 x1 x2 x3 x4 x5 x6 x7 := e62623.trans (Eq.trans (cf8 (congrArg (b62623 _ _ _ _ _ _) (fu7 (q250495 n m245))) _ _ _ _ _ _ _ _) rfl)
theorem q245 (n m) : ∀ x0 x1 x2 x3, I n 245 [m] (s245 x0 x1 x2 x3) = l245 n m x0 x1 x2 x3 := by
  induction m with
  | zero => intros; rfl
  | succ m ih =>
    intros
    exact e245.trans (Eq.trans (cf4 (congr (congrArg (b245 _ _ _ _ _ _) (fu4 (ih))) ((fu8 (q62623 n m)).trans (by rw [show (fun y0 y1 y2 y3 => I n 245 [m] (s245 y0 y1 y2 y3)) = _ from (fu4 (ih))]))) _ _ _ _) rfl)
theorem ok {n  a0 a1 a2 r} (h : f n a0 a1 a2 = some r) : CallD Tryd.prog HW 3 [.agg [.int .u64 a0, .int .u64 a1, .int .u64 a2]] (sg.enc r) :=
  fun_some hwS Tryd.func3 (by kernel_rfl) (body := code) (by kernel_rfl) tys_ok (c := cfg (soft_Told.f n) (abacuslaw05_works.f n) (abacuslaw05_own.f n) abacuslaw05_usual.f abacuslaw05_finite.f (abacuslaw05_exactly.f n)) (orCall_ok (soft_Told.call_ok (n := n)) (orCall_ok (abacuslaw05_works.call_ok (n := n)) (orCall_ok (abacuslaw05_own.call_ok (n := n)) (orCall_ok abacuslaw05_usual.call_ok (orCall_ok abacuslaw05_finite.call_ok (orCall_ok (abacuslaw05_exactly.call_ok (n := n)) noCall_ok)))))) noW_ok (by kernel_rfl) (by kernel_rfl) (Nat.le_of_ble_eq_true (by kernel_rfl)) (Eq.trans ((e0 (n := n)).trans (Eq.trans (cf3 (congrArg (b0 _ _ _ _ _ _) (fu4 (q245 n n))) _ _ _) rfl)) h)
theorem walk {n : Nat} {a0 : Int} {a1 : Int} {a2 : Int} {r : Bool} (h : f n a0 a1 a2 = some r) {w : World} (hw : HW w) {vals : List Value} (hv : VRs (fun _ => none) (fun g => g < w.heap.size) w (ofDs ([.agg [.int .u64 a0, .int .u64 a1, .int .u64 a2]] : List D) 0) vals) : Calls Tryd.prog 3 vals.toArray w fun e w' => e = .returned (packV (sg.enc r)) ∧ Below w.heap.size w w' :=
  walk_any (H := HW) rfl (fun_calls hwS Tryd.func3 (by kernel_rfl) (body := code) (by kernel_rfl) tys_ok (c := cfg (soft_Told.f n) (abacuslaw05_works.f n) (abacuslaw05_own.f n) abacuslaw05_usual.f abacuslaw05_finite.f (abacuslaw05_exactly.f n)) (orCall_ok (soft_Told.call_ok (n := n)) (orCall_ok (abacuslaw05_works.call_ok (n := n)) (orCall_ok (abacuslaw05_own.call_ok (n := n)) (orCall_ok abacuslaw05_usual.call_ok (orCall_ok abacuslaw05_finite.call_ok (orCall_ok (abacuslaw05_exactly.call_ok (n := n)) noCall_ok)))))) noW_ok (by kernel_rfl) (by kernel_rfl) (Nat.le_of_ble_eq_true (by kernel_rfl)) (Eq.trans ((e0 (n := n)).trans (Eq.trans (cf3 (congrArg (b0 _ _ _ _ _ _) (fu4 (q245 n n))) _ _ _) rfl)) h)) hw hv
noncomputable def call {α : Type} (g : Int→Int→Int→Ω (Bool)) (ds : List D) (K : List D→Ω α) : Ω α := match ds with
  | [.agg [.int .u64 a0, .int .u64 a1, .int .u64 a2]] => (g a0 a1 a2).bind fun r => K (sg.enc r)
  | _ => none
theorem call_ok {α : Type} {n : Nat} : COK Tryd.prog HW 3 (call (α := α) (f n)) := fun _ _ _ h => by
  unfold call at h; split at h
  · exact cok h fun _ => ok
  · cases h
end abacuslaw05_SoftFlags
end Go.Proofs.YtobocamcoaeliaaDoor.F
