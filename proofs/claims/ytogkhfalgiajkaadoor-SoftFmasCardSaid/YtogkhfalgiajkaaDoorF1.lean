/- What the functions compute, and that calls of them answer so (printed by gen.py). Conditions: HW, a table as it was laid. -/
import Derived.Test.YtogkhfalgiajkaaDoorF0
namespace Go.Proofs.YtogkhfalgiajkaaDoor.F
open Go.RowKit Go.Proofs.YtogkhfalgiajkaaDoorA
set_option linter.unusedVariables false
set_option maxRecDepth 100000
/-! ### abacusref05_product: function 19 -/
namespace abacusref05_product
noncomputable def b0 (c44 : T14) (a0 : Bool) (l1 l2 : Λ) (a3 : Int) (a4 : Bool) (l5 l6 : Λ) (a7 : Int) : Ω (Bool × Λ × Λ × Int) := ((c44 l1 l5).bind fun t1 => some (a0 != a4, t1, l2, wrap64 (a3 + a7)))
noncomputable def f (n : Nat) (a0 : Bool) (l1 l2 : Λ) (a3 : Int) (a4 : Bool) (l5 l6 : Λ) (a7 : Int) : Ω (Bool × Λ × Λ × Int) := b0 (abacusref01_Times.f n) a0 l1 l2 a3 a4 l5 l6 a7
noncomputable def sg : Sig (Bool × Λ × Λ × Int) := s1 (sAgg (s2 (sBool) (s2 (sRow .u64) (s2 (sRow .u64) (s1 (sInt .i64))))))
noncomputable def code : Code := (Tryd.f19.body).getD .skip
noncomputable def cfg (c44 : T14) : Cfg (Bool × Λ × Λ × Int) := { T := tys, call := orCall 44 (abacusref01_Times.call c44) (noCall) }
noncomputable def cuts : List (Nat × List (Nat × Want)) := []
theorem e0 {c44 n J a0 l1 l2 a3 a4 l5 l6 a7} : afun (cfg c44) J cuts n code Tryd.f19.results.toList [false] [.agg [.bool a0, .ro .u64 l1, .ro .u64 l2, .int .i64 a3], .agg [.bool a4, .ro .u64 l5, .ro .u64 l6, .int .i64 a7]] sg.out = b0 c44 a0 l1 l2 a3 a4 l5 l6 a7 := by kernel_rfl
theorem ok {n  a0 l1 l2 a3 a4 l5 l6 a7 r} (h : f n a0 l1 l2 a3 a4 l5 l6 a7 = some r) : CallD Tryd.prog HW 19 [.agg [.bool a0, .ro .u64 l1, .ro .u64 l2, .int .i64 a3], .agg [.bool a4, .ro .u64 l5, .ro .u64 l6, .int .i64 a7]] (sg.enc r) :=
  fun_some hwS Tryd.func19 (by kernel_rfl) (body := code) (by kernel_rfl) tys_ok (c := cfg (abacusref01_Times.f n)) (orCall_ok (abacusref01_Times.call_ok (n := n)) noCall_ok) noW_ok (by kernel_rfl) (by kernel_rfl) (Nat.le_of_ble_eq_true (by kernel_rfl)) (Eq.trans ((e0 (n := n))) h)
noncomputable def call {α : Type} (g : T9) (ds : List D) (K : List D→Ω α) : Ω α := match ds with
  | [.agg [.bool a0, .ro .u64 l1, .ro .u64 l2, .int .i64 a3], .agg [.bool a4, .ro .u64 l5, .ro .u64 l6, .int .i64 a7]] => (g a0 l1 l2 a3 a4 l5 l6 a7).bind fun r => K (sg.enc r)
  | _ => none
theorem call_ok {α : Type} {n : Nat} : COK Tryd.prog HW 19 (call (α := α) (f n)) := fun _ _ _ h => by
  unfold call at h; split at h
  · exact cok h fun _ => ok
  · cases h
end abacusref05_product
/-! ### abacusref01_Size: function 77 -/
namespace abacusref01_Size
noncomputable def b0 (k57 : T10) (l0 : Λ) : Ω (Int) := k57 l0 (ln l0)
noncomputable def b57 (k57 : T10) (x0 : Λ) (x1 : Int) : Ω (Int) := (if x1 > 0 then (if 0 ≤ (wrap64 (x1 - 1)) then (if (wrap64 (x1 - 1)) < (ln x0) then (if (rd x0 (wrap64 (x1 - 1))) = 0 then k57 x0 (wrap64 (x1 - 1)) else some x1) else none) else none) else some x1)
noncomputable def l57 (n : Nat) : Nat→Λ→Int→Ω (Int)
  | 0, _, _ => none
  | m + 1, x0, x1 => b57 (l57 n m) x0 x1
noncomputable def f (n : Nat) (l0 : Λ) : Ω (Int) := b0 (l57 n n) l0
noncomputable def sg : Sig (Int) := s1 (sInt .i64)
noncomputable def code : Code := (Tryd.f77.body).getD .skip
noncomputable def cfg : Cfg (Int) := { T := tys, call := noCall }
noncomputable def cuts : List (Nat × List (Nat × Want)) := [(57, [(0, .keep), (3, .keep)])]
noncomputable def s57 (x0 : Λ) (x1 : Int) : ASt := ⟨[(0, .ro .u64 x0), (3, .int .i64 x1)], []⟩
noncomputable def A (n : Nat) (J : Jt (Int)) (q : Nat) (ms : List Nat) : ASt→Ω (Int) := acont cfg J cuts n q code 1 ms (aend cfg Tryd.f77.results.toList [false] sg.out)
theorem e0 {n J l0} : afun cfg J cuts n code Tryd.f77.results.toList [false] [.ro .u64 l0] sg.out = b0 (fun y0 y1 => J 57 (A n J 57 [n]) (s57 y0 y1)) l0 := by kernel_rfl
theorem e57 {n J m x0 x1} : A n J 57 [m + 1] (s57 x0 x1) = b57 (fun y0 y1 => J 57 (A n J 57 [m]) (s57 y0 y1)) x0 x1 := by kernel_rfl
noncomputable abbrev I (n : Nat) := A n idJ
theorem q57 (n m) : ∀ x0 x1, I n 57 [m] (s57 x0 x1) = l57 n m x0 x1 := by
  induction m with
  | zero => intros; rfl
  | succ m ih =>
    intros
    exact e57.trans (Eq.trans (cf2 (congrArg b57 (fu2 (ih))) _ _) rfl)
theorem ok {n  l0 r} (h : f n l0 = some r) : CallD Tryd.prog HW 77 [.ro .u64 l0] (sg.enc r) :=
  fun_some hwS Tryd.func77 (by kernel_rfl) (body := code) (by kernel_rfl) tys_ok (c := cfg) noCall_ok noW_ok (by kernel_rfl) (by kernel_rfl) (Nat.le_of_ble_eq_true (by kernel_rfl)) (Eq.trans ((e0 (n := n)).trans (Eq.trans (cf1 (congrArg b0 (fu2 (q57 n n))) _) rfl)) h)
noncomputable def call {α : Type} (g : T0) (ds : List D) (K : List D→Ω α) : Ω α := match ds with
  | [.ro .u64 l0] => (g l0).bind fun r => K (sg.enc r)
  | _ => none
theorem call_ok {α : Type} {n : Nat} : COK Tryd.prog HW 77 (call (α := α) (f n)) := fun _ _ _ h => by
  unfold call at h; split at h
  · exact cok h fun _ => ok
  · cases h
end abacusref01_Size
/-! ### abacusref01_Big: function 53 -/
namespace abacusref01_Big
noncomputable def b0 (c77 : T0) (l0 : Λ) : Ω (Bool) := ((c77 l0).bind fun t1 => some (decide (t1 > 4096)))
noncomputable def f (n : Nat) (l0 : Λ) : Ω (Bool) := b0 (abacusref01_Size.f n) l0
noncomputable def sg : Sig (Bool) := s1 (sBool)
noncomputable def code : Code := (Tryd.f53.body).getD .skip
noncomputable def cfg (c77 : T0) : Cfg (Bool) := { T := tys, call := orCall 77 (abacusref01_Size.call c77) (noCall) }
noncomputable def cuts : List (Nat × List (Nat × Want)) := []
theorem e0 {c77 n J l0} : afun (cfg c77) J cuts n code Tryd.f53.results.toList [false] [.ro .u64 l0] sg.out = b0 c77 l0 := by kernel_rfl
theorem ok {n  l0 r} (h : f n l0 = some r) : CallD Tryd.prog HW 53 [.ro .u64 l0] (sg.enc r) :=
  fun_some hwS Tryd.func53 (by kernel_rfl) (body := code) (by kernel_rfl) tys_ok (c := cfg (abacusref01_Size.f n)) (orCall_ok (abacusref01_Size.call_ok (n := n)) noCall_ok) noW_ok (by kernel_rfl) (by kernel_rfl) (Nat.le_of_ble_eq_true (by kernel_rfl)) (Eq.trans ((e0 (n := n))) h)
noncomputable def call {α : Type} (g : T5) (ds : List D) (K : List D→Ω α) : Ω α := match ds with
  | [.ro .u64 l0] => (g l0).bind fun r => K (sg.enc r)
  | _ => none
theorem call_ok {α : Type} {n : Nat} : COK Tryd.prog HW 53 (call (α := α) (f n)) := fun _ _ _ h => by
  unfold call at h; split at h
  · exact cok h fun _ => ok
  · cases h
end abacusref01_Big
/-! ### abacusref04_put: function 55 -/
namespace abacusref04_put
noncomputable def b0 (a0 : Bool) (a1 a2 : Int) : Ω (Int) := (if a0 = true then some (IntKind.u64.wrap ((IntKind.u64.wrap ((IntKind.u64.wrap ((IntKind.u64.wrap a1) * 4503599627370496)) + a2)) + 9223372036854775808)) else some (IntKind.u64.wrap ((IntKind.u64.wrap ((IntKind.u64.wrap a1) * 4503599627370496)) + a2)))
noncomputable def f (a0 : Bool) (a1 a2 : Int) : Ω (Int) := b0 a0 a1 a2
noncomputable def sg : Sig (Int) := s1 (sInt .u64)
noncomputable def code : Code := (Tryd.f55.body).getD .skip
noncomputable def cfg : Cfg (Int) := { T := tys, call := noCall }
noncomputable def cuts : List (Nat × List (Nat × Want)) := []
theorem e0 {n J a0 a1 a2} : afun cfg J cuts n code Tryd.f55.results.toList [false] [.bool a0, .int .i64 a1, .int .u64 a2] sg.out = b0 a0 a1 a2 := by kernel_rfl
theorem ok {a0 a1 a2 r} (h : f a0 a1 a2 = some r) : CallD Tryd.prog HW 55 [.bool a0, .int .i64 a1, .int .u64 a2] (sg.enc r) :=
  fun_some hwS Tryd.func55 (by kernel_rfl) (body := code) (by kernel_rfl) tys_ok (c := cfg) noCall_ok noW_ok (by kernel_rfl) (by kernel_rfl) (Nat.le_of_ble_eq_true (by kernel_rfl)) (Eq.trans ((e0 (n := 0))) h)
noncomputable def call {α : Type} (g : T22) (ds : List D) (K : List D→Ω α) : Ω α := match ds with
  | [.bool a0, .int .i64 a1, .int .u64 a2] => (g a0 a1 a2).bind fun r => K (sg.enc r)
  | _ => none
theorem call_ok {α : Type} : COK Tryd.prog HW 55 (call (α := α) f) := fun _ _ _ h => by
  unfold call at h; split at h
  · exact cok h fun _ => ok
  · cases h
end abacusref04_put
/-! ### abacusref01_Lift: function 23 -/
namespace abacusref01_Lift
noncomputable def b0 (c51 c52 : T1) (k501 : T73) (l0 : Λ) (a1 : Int) : Ω (Λ) := ((c51 l0).bind fun t1 => (if (ln t1) = 0 then some ([] : Λ) else (if 0 ≤ (wrap64 ((wrap64 ((wrap64 (Int.tdiv a1 32)) + (ln t1))) + 1)) then (if (wrap64 ((wrap64 ((wrap64 (Int.tdiv a1 32)) + (ln t1))) + 1)).toNat ≤ 35184372088832 then k501 a1 t1 0 (List.replicate 0 (0 : Int)) else none) else none)))
noncomputable def b63 (c51 c52 : T1) (k2037 : T74) (x0 : Int) (x1 x2 : Λ) : Ω (Λ) := k2037 x0 x1 1 0 x2
noncomputable def b255 (c51 c52 : T1) (k8181 : T75) (x0 : Λ) (x1 : Int) (x2 : Λ) : Ω (Λ) := k8181 x0 x1 0 0 x2
noncomputable def b501 (c51 c52 : T1) (k63 : Int→Λ→Λ→Ω (Λ)) (k501 : T73) (x0 : Int) (x1 : Λ) (x2 : Int) (x3 : Λ) : Ω (Λ) := (if x2 < (wrap64 (Int.tdiv x0 32)) then (if x3.length + 1 ≤ 17592186044416 then k501 x0 x1 (wrap64 (x2 + 1)) (x3 ++ [0]) else none) else k63 x0 x1 x3)
noncomputable def b1023 (c51 c52 : T1) (x0 : Int) (x1 : Λ) : Ω (Λ) := (if x1.length + 1 ≤ 17592186044416 then ((c52 (x1 ++ [x0])).bind fun t1 => some t1) else none)
noncomputable def b2037 (c51 c52 : T1) (k255 : T46) (k2037 : T74) (x0 : Int) (x1 : Λ) (x2 x3 : Int) (x4 : Λ) : Ω (Λ) := (if x3 < (Int.tmod x0 32) then k2037 x0 x1 (IntKind.u64.wrap (x2 * 2)) (wrap64 (x3 + 1)) x4 else k255 x1 x2 x4)
noncomputable def b8181 (c51 c52 : T1) (k1023 : T51) (k8181 : T75) (x0 : Λ) (x1 x2 x3 : Int) (x4 : Λ) : Ω (Λ) := (if x3 < (ln x0) then (if 0 ≤ x3 then (if x3 < (ln x0) then (if x4.length + 1 ≤ 17592186044416 then k8181 x0 x1 ((IntKind.u64.wrap ((IntKind.u64.wrap ((rd x0 x3) * x1)) + x2)) / 4294967296) (wrap64 (x3 + 1)) (x4 ++ [Go.bits .and .u64 (IntKind.u64.wrap ((IntKind.u64.wrap ((rd x0 x3) * x1)) + x2)) 4294967295]) else none) else none) else none) else k1023 x2 x4)
noncomputable def l1023 (n : Nat) (x0 : Int) (x1 : Λ) : Ω (Λ) := b1023 (abacusref01_halves.f n) (abacusref01_limbs.f n) x0 x1
noncomputable def l8181 (n : Nat) : Nat→Λ→Int→Int→Int→Λ→Ω (Λ)
  | 0, _, _, _, _, _ => none
  | m + 1, x0, x1, x2, x3, x4 => b8181 (abacusref01_halves.f n) (abacusref01_limbs.f n) (l1023 n) (l8181 n m) x0 x1 x2 x3 x4
noncomputable def l255 (n : Nat) (x0 : Λ) (x1 : Int) (x2 : Λ) : Ω (Λ) := b255 (abacusref01_halves.f n) (abacusref01_limbs.f n) (l8181 n n) x0 x1 x2
noncomputable def l2037 (n : Nat) : Nat→Int→Λ→Int→Int→Λ→Ω (Λ)
  | 0, _, _, _, _, _ => none
  | m + 1, x0, x1, x2, x3, x4 => b2037 (abacusref01_halves.f n) (abacusref01_limbs.f n) (l255 n) (l2037 n m) x0 x1 x2 x3 x4
noncomputable def l63 (n : Nat) (x0 : Int) (x1 x2 : Λ) : Ω (Λ) := b63 (abacusref01_halves.f n) (abacusref01_limbs.f n) (l2037 n n) x0 x1 x2
noncomputable def l501 (n : Nat) : Nat→Int→Λ→Int→Λ→Ω (Λ)
  | 0, _, _, _, _ => none
  | m + 1, x0, x1, x2, x3 => b501 (abacusref01_halves.f n) (abacusref01_limbs.f n) (l63 n) (l501 n m) x0 x1 x2 x3
noncomputable def f (n : Nat) (l0 : Λ) (a1 : Int) : Ω (Λ) := b0 (abacusref01_halves.f n) (abacusref01_limbs.f n) (l501 n n) l0 a1
noncomputable def sg : Sig (Λ) := s1 (sOwn 23 .u64)
noncomputable def code : Code := (Tryd.f23.body).getD .skip
noncomputable def cfg (c51 c52 : T1) : Cfg (Λ) := { T := tys, call := orCall 51 (abacusref01_halves.call c51) (orCall 52 (abacusref01_limbs.call c52) (noCall)) }
noncomputable def cuts : List (Nat × List (Nat × Want)) := [(63, [(1, .keep), (5, .keep), (6, .keep)]), (255, [(5, .keep), (6, .keep), (8, .keep)]), (501, [(1, .keep), (5, .keep), (6, .keep), (7, .keep)]), (1023, [(6, .keep), (10, .keep)]), (2037, [(1, .keep), (5, .keep), (6, .keep), (8, .keep), (9, .keep)]), (8181, [(5, .keep), (6, .keep), (8, .keep), (10, .keep), (11, .keep)])]
noncomputable def s63 (x0 : Int) (x1 x2 : Λ) : ASt := ⟨[(1, .int .i64 x0), (5, .ro .u64 x1), (6, .own 0)], [.ints 23 .u64 x2]⟩
noncomputable def s255 (x0 : Λ) (x1 : Int) (x2 : Λ) : ASt := ⟨[(5, .ro .u64 x0), (6, .own 0), (8, .int .u64 x1)], [.ints 23 .u64 x2]⟩
noncomputable def s501 (x0 : Int) (x1 : Λ) (x2 : Int) (x3 : Λ) : ASt := ⟨[(1, .int .i64 x0), (5, .ro .u64 x1), (6, .own 0), (7, .int .i64 x2)], [.ints 23 .u64 x3]⟩
noncomputable def s1023 (x0 : Int) (x1 : Λ) : ASt := ⟨[(6, .own 0), (10, .int .u64 x0)], [.ints 23 .u64 x1]⟩
noncomputable def s2037 (x0 : Int) (x1 : Λ) (x2 x3 : Int) (x4 : Λ) : ASt := ⟨[(1, .int .i64 x0), (5, .ro .u64 x1), (6, .own 0), (8, .int .u64 x2), (9, .int .i64 x3)], [.ints 23 .u64 x4]⟩
noncomputable def s8181 (x0 : Λ) (x1 x2 x3 : Int) (x4 : Λ) : ASt := ⟨[(5, .ro .u64 x0), (6, .own 0), (8, .int .u64 x1), (10, .int .u64 x2), (11, .int .i64 x3)], [.ints 23 .u64 x4]⟩
noncomputable def A (c51 c52 : T1) (n : Nat) (J : Jt (Λ)) (q : Nat) (ms : List Nat) : ASt→Ω (Λ) := acont (cfg c51 c52) J cuts n q code 1 ms (aend (cfg c51 c52) Tryd.f23.results.toList [true] sg.out)
theorem e0 {c51 c52 n J l0 a1} : afun (cfg c51 c52) J cuts n code Tryd.f23.results.toList [true] [.ro .u64 l0, .int .i64 a1] sg.out = b0 c51 c52 (fun y0 y1 y2 y3 => J 501 (A c51 c52 n J 501 [n]) (s501 y0 y1 y2 y3)) l0 a1 := by kernel_rfl
theorem e63 {c51 c52 n J x0 x1 x2} : A c51 c52 n J 63 [] (s63 x0 x1 x2) = b63 c51 c52 (fun y0 y1 y2 y3 y4 => J 2037 (A c51 c52 n J 2037 [n]) (s2037 y0 y1 y2 y3 y4)) x0 x1 x2 := by kernel_rfl
theorem e255 {c51 c52 n J x0 x1 x2} : A c51 c52 n J 255 [] (s255 x0 x1 x2) = b255 c51 c52 (fun y0 y1 y2 y3 y4 => J 8181 (A c51 c52 n J 8181 [n]) (s8181 y0 y1 y2 y3 y4)) x0 x1 x2 := by kernel_rfl
theorem e501 {c51 c52 n J m x0 x1 x2 x3} : A c51 c52 n J 501 [m + 1] (s501 x0 x1 x2 x3) = b501 c51 c52 (fun y0 y1 y2 => J 63 (A c51 c52 n J 63 []) (s63 y0 y1 y2)) (fun y0 y1 y2 y3 => J 501 (A c51 c52 n J 501 [m]) (s501 y0 y1 y2 y3)) x0 x1 x2 x3 := by kernel_rfl
theorem e1023 {c51 c52 n J x0 x1} : A c51 c52 n J 1023 [] (s1023 x0 x1) = b1023 c51 c52 x0 x1 := by kernel_rfl
theorem e2037 {c51 c52 n J m x0 x1 x2 x3 x4} : A c51 c52 n J 2037 [m + 1] (s2037 x0 x1 x2 x3 x4) = b2037 c51 c52 (fun y0 y1 y2 => J 255 (A c51 c52 n J 255 []) (s255 y0 y1 y2)) (fun y0 y1 y2 y3 y4 => J 2037 (A c51 c52 n J 2037 [m]) (s2037 y0 y1 y2 y3 y4)) x0 x1 x2 x3 x4 := by kernel_rfl
theorem e8181 {c51 c52 n J m x0 x1 x2 x3 x4} : A c51 c52 n J 8181 [m + 1] (s8181 x0 x1 x2 x3 x4) = b8181 c51 c52 (fun y0 y1 => J 1023 (A c51 c52 n J 1023 []) (s1023 y0 y1)) (fun y0 y1 y2 y3 y4 => J 8181 (A c51 c52 n J 8181 [m]) (s8181 y0 y1 y2 y3 y4)) x0 x1 x2 x3 x4 := by kernel_rfl
noncomputable abbrev I (n : Nat) := A (abacusref01_halves.f n) (abacusref01_limbs.f n) n idJ
theorem q1023 (n x0 x1) : I n 1023 [] (s1023 x0 x1) = l1023 n x0 x1 := e1023
theorem q8181 (n m) : ∀ x0 x1 x2 x3 x4, I n 8181 [m] (s8181 x0 x1 x2 x3 x4) = l8181 n m x0 x1 x2 x3 x4 := by
  induction m with
  | zero => intros; rfl
  | succ m ih =>
    intros
    exact e8181.trans (Eq.trans (cf5 (congr (congrArg (b8181 _ _) (fu2 (q1023 n))) (fu5 (ih))) _ _ _ _ _) rfl)
theorem q255 (n x0 x1 x2) : I n 255 [] (s255 x0 x1 x2) = l255 n x0 x1 x2 := e255.trans (Eq.trans (cf3 (congrArg (b255 _ _) (fu5 (q8181 n n))) _ _ _) rfl)
theorem q2037 (n m) : ∀ x0 x1 x2 x3 x4, I n 2037 [m] (s2037 x0 x1 x2 x3 x4) = l2037 n m x0 x1 x2 x3 x4 := by
  induction m with
  | zero => intros; rfl
  | succ m ih =>
    intros
    exact e2037.trans (Eq.trans (cf5 (congr (congrArg (b2037 _ _) (fu3 (q255 n))) (fu5 (ih))) _ _ _ _ _) rfl)
theorem q63 (n x0 x1 x2) : I n 63 [] (s63 x0 x1 x2) = l63 n x0 x1 x2 := e63.trans (Eq.trans (cf3 (congrArg (b63 _ _) (fu5 (q2037 n n))) _ _ _) rfl)
theorem q501 (n m) : ∀ x0 x1 x2 x3, I n 501 [m] (s501 x0 x1 x2 x3) = l501 n m x0 x1 x2 x3 := by
  induction m with
  | zero => intros; rfl
  | succ m ih =>
    intros
    exact e501.trans (Eq.trans (cf4 (congr (congrArg (b501 _ _) (fu3 (q63 n))) (fu4 (ih))) _ _ _ _) rfl)
theorem ok {n  l0 a1 r} (h : f n l0 a1 = some r) : CallD Tryd.prog HW 23 [.ro .u64 l0, .int .i64 a1] (sg.enc r) :=
  fun_some hwS Tryd.func23 (by kernel_rfl) (body := code) (by kernel_rfl) tys_ok (c := cfg (abacusref01_halves.f n) (abacusref01_limbs.f n)) (orCall_ok (abacusref01_halves.call_ok (n := n)) (orCall_ok (abacusref01_limbs.call_ok (n := n)) noCall_ok)) noW_ok (by kernel_rfl) (by kernel_rfl) (Nat.le_of_ble_eq_true (by kernel_rfl)) (Eq.trans ((e0 (n := n)).trans (Eq.trans (cf2 (congrArg (b0 _ _) (fu4 (q501 n n))) _ _) rfl)) h)
noncomputable def call {α : Type} (g : T8) (ds : List D) (K : List D→Ω α) : Ω α := match ds with
  | [.ro .u64 l0, .int .i64 a1] => (g l0 a1).bind fun r => K (sg.enc r)
  | _ => none
theorem call_ok {α : Type} {n : Nat} : COK Tryd.prog HW 23 (call (α := α) (f n)) := fun _ _ _ h => by
  unfold call at h; split at h
  · exact cok h fun _ => ok
  · cases h
end abacusref01_Lift
/-! ### abacusref01_Cmp: function 41 -/
namespace abacusref01_Cmp
noncomputable def b0 (c77 : T0) (k1013 : T38) (l0 l1 : Λ) : Ω (Int) := ((c77 l0).bind fun t1 => ((c77 l1).bind fun t2 => (if t1 < t2 then some (-1) else (if t1 > t2 then some 1 else k1013 l0 l1 (wrap64 (t2 - 1))))))
noncomputable def b1013 (c77 : T0) (k1013 : T38) (x0 x1 : Λ) (x2 : Int) : Ω (Int) := (if x2 ≥ 0 then (if 0 ≤ x2 then (if x2 < (ln x0) then (if 0 ≤ x2 then (if x2 < (ln x1) then (if (rd x0 x2) < (rd x1 x2) then some (-1) else (if 0 ≤ x2 then (if x2 < (ln x0) then (if 0 ≤ x2 then (if x2 < (ln x1) then (if (rd x0 x2) > (rd x1 x2) then some 1 else k1013 x0 x1 (wrap64 (x2 - 1))) else none) else none) else none) else none)) else none) else none) else none) else none) else some 0)
noncomputable def l1013 (n : Nat) : Nat→Λ→Λ→Int→Ω (Int)
  | 0, _, _, _ => none
  | m + 1, x0, x1, x2 => b1013 (abacusref01_Size.f n) (l1013 n m) x0 x1 x2
noncomputable def f (n : Nat) (l0 l1 : Λ) : Ω (Int) := b0 (abacusref01_Size.f n) (l1013 n n) l0 l1
noncomputable def sg : Sig (Int) := s1 (sInt .i64)
noncomputable def code : Code := (Tryd.f41.body).getD .skip
noncomputable def cfg (c77 : T0) : Cfg (Int) := { T := tys, call := orCall 77 (abacusref01_Size.call c77) (noCall) }
noncomputable def cuts : List (Nat × List (Nat × Want)) := [(1013, [(0, .keep), (1, .keep), (7, .keep)])]
noncomputable def s1013 (x0 x1 : Λ) (x2 : Int) : ASt := ⟨[(0, .ro .u64 x0), (1, .ro .u64 x1), (7, .int .i64 x2)], []⟩
noncomputable def A (c77 : T0) (n : Nat) (J : Jt (Int)) (q : Nat) (ms : List Nat) : ASt→Ω (Int) := acont (cfg c77) J cuts n q code 1 ms (aend (cfg c77) Tryd.f41.results.toList [false] sg.out)
theorem e0 {c77 n J l0 l1} : afun (cfg c77) J cuts n code Tryd.f41.results.toList [false] [.ro .u64 l0, .ro .u64 l1] sg.out = b0 c77 (fun y0 y1 y2 => J 1013 (A c77 n J 1013 [n]) (s1013 y0 y1 y2)) l0 l1 := by kernel_rfl
theorem e1013 {c77 n J m x0 x1 x2} : A c77 n J 1013 [m + 1] (s1013 x0 x1 x2) = b1013 c77 (fun y0 y1 y2 => J 1013 (A c77 n J 1013 [m]) (s1013 y0 y1 y2)) x0 x1 x2 := by kernel_rfl
noncomputable abbrev I (n : Nat) := A (abacusref01_Size.f n) n idJ
theorem q1013 (n m) : ∀ x0 x1 x2, I n 1013 [m] (s1013 x0 x1 x2) = l1013 n m x0 x1 x2 := by
  induction m with
  | zero => intros; rfl
  | succ m ih =>
    intros
    exact e1013.trans (Eq.trans (cf3 (congrArg (b1013 _) (fu3 (ih))) _ _ _) rfl)
theorem ok {n  l0 l1 r} (h : f n l0 l1 = some r) : CallD Tryd.prog HW 41 [.ro .u64 l0, .ro .u64 l1] (sg.enc r) :=
  fun_some hwS Tryd.func41 (by kernel_rfl) (body := code) (by kernel_rfl) tys_ok (c := cfg (abacusref01_Size.f n)) (orCall_ok (abacusref01_Size.call_ok (n := n)) noCall_ok) noW_ok (by kernel_rfl) (by kernel_rfl) (Nat.le_of_ble_eq_true (by kernel_rfl)) (Eq.trans ((e0 (n := n)).trans (Eq.trans (cf2 (congrArg (b0 _) (fu3 (q1013 n n))) _ _) rfl)) h)
noncomputable def call {α : Type} (g : T6) (ds : List D) (K : List D→Ω α) : Ω α := match ds with
  | [.ro .u64 l0, .ro .u64 l1] => (g l0 l1).bind fun r => K (sg.enc r)
  | _ => none
theorem call_ok {α : Type} {n : Nat} : COK Tryd.prog HW 41 (call (α := α) (f n)) := fun _ _ _ h => by
  unfold call at h; split at h
  · exact cok h fun _ => ok
  · cases h
end abacusref01_Cmp
/-! ### abacusref04_against: function 78 -/
namespace abacusref04_against
noncomputable def b0 (c23 : T8) (c41 : T6) (c44 : T14) (k31 : Bool→Λ→Λ→Int→Int→Int→Ω (Int)) (a0 : Int) (a1 : Bool) (l2 l3 : Λ) (a4 : Int) : Ω (Int) := (if a0 ≥ 4503599627370496 then k31 a1 l2 l3 a4 (IntKind.u64.wrap ((Int.tmod a0 4503599627370496) + 4503599627370496)) (wrap64 ((wrap64 (IntKind.u64.wrap (Int.tdiv a0 4503599627370496))) - 1075)) else k31 a1 l2 l3 a4 a0 (-1074))
noncomputable def b31 (c23 : T8) (c41 : T6) (c44 : T14) (k255 : Λ→Λ→Int→Int→Int→Ω (Int)) (x0 : Bool) (x1 x2 : Λ) (x3 x4 x5 : Int) : Ω (Int) := (if x0 = true then k255 x1 x2 x3 (IntKind.u64.wrap ((IntKind.u64.wrap (2 * x4)) + 1)) (wrap64 (x5 - 1)) else k255 x1 x2 x3 (IntKind.u64.wrap (2 * x4)) (wrap64 (x5 - 1)))
noncomputable def b255 (c23 : T8) (c41 : T6) (c44 : T14) (x0 x1 : Λ) (x2 x3 x4 : Int) : Ω (Int) := ((c44 x1 [x3]).bind fun t1 => (if x4 ≥ x2 then ((c23 t1 (wrap64 (x4 - x2))).bind fun t2 => ((c41 t2 x0).bind fun t3 => some t3)) else ((c23 x0 (wrap64 (x2 - x4))).bind fun t4 => ((c41 t1 t4).bind fun t5 => some t5))))
noncomputable def l255 (n : Nat) (x0 x1 : Λ) (x2 x3 x4 : Int) : Ω (Int) := b255 (abacusref01_Lift.f n) (abacusref01_Cmp.f n) (abacusref01_Times.f n) x0 x1 x2 x3 x4
noncomputable def l31 (n : Nat) (x0 : Bool) (x1 x2 : Λ) (x3 x4 x5 : Int) : Ω (Int) := b31 (abacusref01_Lift.f n) (abacusref01_Cmp.f n) (abacusref01_Times.f n) (l255 n) x0 x1 x2 x3 x4 x5
noncomputable def f (n : Nat) (a0 : Int) (a1 : Bool) (l2 l3 : Λ) (a4 : Int) : Ω (Int) := b0 (abacusref01_Lift.f n) (abacusref01_Cmp.f n) (abacusref01_Times.f n) (l31 n) a0 a1 l2 l3 a4
noncomputable def sg : Sig (Int) := s1 (sInt .i64)
noncomputable def code : Code := (Tryd.f78.body).getD .skip
noncomputable def cfg (c23 : T8) (c41 : T6) (c44 : T14) : Cfg (Int) := { T := tys, call := orCall 23 (abacusref01_Lift.call c23) (orCall 41 (abacusref01_Cmp.call c41) (orCall 44 (abacusref01_Times.call c44) (noCall))) }
noncomputable def cuts : List (Nat × List (Nat × Want)) := [(31, [(1, .keep), (2, .keep), (3, .keep), (4, .keep), (11, .keep), (12, .keep)]), (255, [(2, .keep), (3, .keep), (4, .keep), (11, .keep), (12, .keep)])]
noncomputable def s31 (x0 : Bool) (x1 x2 : Λ) (x3 x4 x5 : Int) : ASt := ⟨[(1, .bool x0), (2, .ro .u64 x1), (3, .ro .u64 x2), (4, .int .i64 x3), (11, .int .u64 x4), (12, .int .i64 x5)], []⟩
noncomputable def s255 (x0 x1 : Λ) (x2 x3 x4 : Int) : ASt := ⟨[(2, .ro .u64 x0), (3, .ro .u64 x1), (4, .int .i64 x2), (11, .int .u64 x3), (12, .int .i64 x4)], []⟩
noncomputable def A (c23 : T8) (c41 : T6) (c44 : T14) (n : Nat) (J : Jt (Int)) (q : Nat) (ms : List Nat) : ASt→Ω (Int) := acont (cfg c23 c41 c44) J cuts n q code 1 ms (aend (cfg c23 c41 c44) Tryd.f78.results.toList [false] sg.out)
theorem e0 {c23 c41 c44 n J a0 a1 l2 l3 a4} : afun (cfg c23 c41 c44) J cuts n code Tryd.f78.results.toList [false] [.int .u64 a0, .bool a1, .ro .u64 l2, .ro .u64 l3, .int .i64 a4] sg.out = b0 c23 c41 c44 (fun y0 y1 y2 y3 y4 y5 => J 31 (A c23 c41 c44 n J 31 []) (s31 y0 y1 y2 y3 y4 y5)) a0 a1 l2 l3 a4 := by kernel_rfl
theorem e31 {c23 c41 c44 n J x0 x1 x2 x3 x4 x5} : A c23 c41 c44 n J 31 [] (s31 x0 x1 x2 x3 x4 x5) = b31 c23 c41 c44 (fun y0 y1 y2 y3 y4 => J 255 (A c23 c41 c44 n J 255 []) (s255 y0 y1 y2 y3 y4)) x0 x1 x2 x3 x4 x5 := by kernel_rfl
theorem e255 {c23 c41 c44 n J x0 x1 x2 x3 x4} : A c23 c41 c44 n J 255 [] (s255 x0 x1 x2 x3 x4) = b255 c23 c41 c44 x0 x1 x2 x3 x4 := by kernel_rfl
noncomputable abbrev I (n : Nat) := A (abacusref01_Lift.f n) (abacusref01_Cmp.f n) (abacusref01_Times.f n) n idJ
theorem q255 (n x0 x1 x2 x3 x4) : I n 255 [] (s255 x0 x1 x2 x3 x4) = l255 n x0 x1 x2 x3 x4 := e255
theorem q31 (n x0 x1 x2 x3 x4 x5) : I n 31 [] (s31 x0 x1 x2 x3 x4 x5) = l31 n x0 x1 x2 x3 x4 x5 := e31.trans (Eq.trans (cf6 (congrArg (b31 _ _ _) (fu5 (q255 n))) _ _ _ _ _ _) rfl)
theorem ok {n  a0 a1 l2 l3 a4 r} (h : f n a0 a1 l2 l3 a4 = some r) : CallD Tryd.prog HW 78 [.int .u64 a0, .bool a1, .ro .u64 l2, .ro .u64 l3, .int .i64 a4] (sg.enc r) :=
  fun_some hwS Tryd.func78 (by kernel_rfl) (body := code) (by kernel_rfl) tys_ok (c := cfg (abacusref01_Lift.f n) (abacusref01_Cmp.f n) (abacusref01_Times.f n)) (orCall_ok (abacusref01_Lift.call_ok (n := n)) (orCall_ok (abacusref01_Cmp.call_ok (n := n)) (orCall_ok (abacusref01_Times.call_ok (n := n)) noCall_ok))) noW_ok (by kernel_rfl) (by kernel_rfl) (Nat.le_of_ble_eq_true (by kernel_rfl)) (Eq.trans ((e0 (n := n)).trans (Eq.trans (cf5 (congrArg (b0 _ _ _) (fu6 (q31 n))) _ _ _ _ _) rfl)) h)
noncomputable def call {α : Type} (g : T31) (ds : List D) (K : List D→Ω α) : Ω α := match ds with
  | [.int .u64 a0, .bool a1, .ro .u64 l2, .ro .u64 l3, .int .i64 a4] => (g a0 a1 l2 l3 a4).bind fun r => K (sg.enc r)
  | _ => none
theorem call_ok {α : Type} {n : Nat} : COK Tryd.prog HW 78 (call (α := α) (f n)) := fun _ _ _ h => by
  unfold call at h; split at h
  · exact cok h fun _ => ok
  · cases h
end abacusref04_against
/-! ### abacusref04_RoundRatio: function 39 -/
namespace abacusref04_RoundRatio
noncomputable def b0 (c53 : T5) (c55 : T22) (c77 : T0) (c78 : T31) (k2041 : T76) (a0 : Bool) (l1 l2 : Λ) (a3 : Int) : Ω (Int × Int) := ((c53 l1).bind fun t1 => (if t1 = true then some (0, 2) else ((c53 l2).bind fun t2 => (if t2 = true then some (0, 2) else ((c77 l2).bind fun t3 => (if t3 = 0 then some (0, 4) else ((c77 l1).bind fun t4 => (if t4 = 0 then ((c55 a0 0 0).bind fun t5 => some (t5, 0)) else (if a3 < (-1048576) then ((c55 a0 0 0).bind fun t6 => some (t6, 0)) else (if a3 > 1048576 then ((c55 a0 2047 0).bind fun t7 => some (t7, 0)) else k2041 a0 l1 l2 a3 0 9218868437227405312))))))))))
noncomputable def b511 (c53 : T5) (c55 : T22) (c77 : T0) (c78 : T31) (k1023 : Bool→Int→Ω (Int × Int)) (x0 : Bool) (x1 x2 : Λ) (x3 x4 : Int) : Ω (Int × Int) := (if x4 < 9218868437227405312 then ((c78 x4 true x1 x2 x3).bind fun t1 => (if t1 < 0 then k1023 x0 (IntKind.u64.wrap (x4 + 1)) else (if t1 = 0 then (if (Int.tmod x4 2) = 1 then k1023 x0 (IntKind.u64.wrap (x4 + 1)) else k1023 x0 x4) else k1023 x0 x4))) else k1023 x0 x4)
noncomputable def b1023 (c53 : T5) (c55 : T22) (c77 : T0) (c78 : T31) (x0 : Bool) (x1 : Int) : Ω (Int × Int) := (if x0 = true then some (IntKind.u64.wrap (x1 + 9223372036854775808), 0) else some (x1, 0))
noncomputable def b2041 (c53 : T5) (c55 : T22) (c77 : T0) (c78 : T31) (k511 : Bool→Λ→Λ→Int→Int→Ω (Int × Int)) (k2041 : T76) (x0 : Bool) (x1 x2 : Λ) (x3 x4 x5 : Int) : Ω (Int × Int) := (if x4 < x5 then ((c78 (IntKind.u64.wrap (x4 + (IntKind.u64.wrap (Int.tdiv (IntKind.u64.wrap ((IntKind.u64.wrap (x5 - x4)) + 1)) 2)))) false x1 x2 x3).bind fun t1 => (if t1 ≤ 0 then k2041 x0 x1 x2 x3 (IntKind.u64.wrap (x4 + (IntKind.u64.wrap (Int.tdiv (IntKind.u64.wrap ((IntKind.u64.wrap (x5 - x4)) + 1)) 2)))) x5 else k2041 x0 x1 x2 x3 x4 (IntKind.u64.wrap ((IntKind.u64.wrap (x4 + (IntKind.u64.wrap (Int.tdiv (IntKind.u64.wrap ((IntKind.u64.wrap (x5 - x4)) + 1)) 2)))) - 1)))) else k511 x0 x1 x2 x3 x4)
noncomputable def l1023 (n : Nat) (x0 : Bool) (x1 : Int) : Ω (Int × Int) := b1023 (abacusref01_Big.f n) abacusref04_put.f (abacusref01_Size.f n) (abacusref04_against.f n) x0 x1
noncomputable def l511 (n : Nat) (x0 : Bool) (x1 x2 : Λ) (x3 x4 : Int) : Ω (Int × Int) := b511 (abacusref01_Big.f n) abacusref04_put.f (abacusref01_Size.f n) (abacusref04_against.f n) (l1023 n) x0 x1 x2 x3 x4
noncomputable def l2041 (n : Nat) : Nat→Bool→Λ→Λ→Int→Int→Int→Ω (Int × Int)
  | 0, _, _, _, _, _, _ => none
  | m + 1, x0, x1, x2, x3, x4, x5 => b2041 (abacusref01_Big.f n) abacusref04_put.f (abacusref01_Size.f n) (abacusref04_against.f n) (l511 n) (l2041 n m) x0 x1 x2 x3 x4 x5
noncomputable def f (n : Nat) (a0 : Bool) (l1 l2 : Λ) (a3 : Int) : Ω (Int × Int) := b0 (abacusref01_Big.f n) abacusref04_put.f (abacusref01_Size.f n) (abacusref04_against.f n) (l2041 n n) a0 l1 l2 a3
noncomputable def sg : Sig (Int × Int) := s2 (sInt .u64) (s1 (sInt .i64))
noncomputable def code : Code := (Tryd.f39.body).getD .skip
noncomputable def cfg (c53 : T5) (c55 : T22) (c77 : T0) (c78 : T31) : Cfg (Int × Int) := { T := tys, call := orCall 53 (abacusref01_Big.call c53) (orCall 55 (abacusref04_put.call c55) (orCall 77 (abacusref01_Size.call c77) (orCall 78 (abacusref04_against.call c78) (noCall)))) }
noncomputable def cuts : List (Nat × List (Nat × Want)) := [(511, [(0, .keep), (1, .keep), (2, .keep), (3, .keep), (10, .keep)]), (1023, [(0, .keep), (10, .keep)]), (2041, [(0, .keep), (1, .keep), (2, .keep), (3, .keep), (10, .keep), (11, .keep)])]
noncomputable def s511 (x0 : Bool) (x1 x2 : Λ) (x3 x4 : Int) : ASt := ⟨[(0, .bool x0), (1, .ro .u64 x1), (2, .ro .u64 x2), (3, .int .i64 x3), (10, .int .u64 x4)], []⟩
noncomputable def s1023 (x0 : Bool) (x1 : Int) : ASt := ⟨[(0, .bool x0), (10, .int .u64 x1)], []⟩
noncomputable def s2041 (x0 : Bool) (x1 x2 : Λ) (x3 x4 x5 : Int) : ASt := ⟨[(0, .bool x0), (1, .ro .u64 x1), (2, .ro .u64 x2), (3, .int .i64 x3), (10, .int .u64 x4), (11, .int .u64 x5)], []⟩
noncomputable def A (c53 : T5) (c55 : T22) (c77 : T0) (c78 : T31) (n : Nat) (J : Jt (Int × Int)) (q : Nat) (ms : List Nat) : ASt→Ω (Int × Int) := acont (cfg c53 c55 c77 c78) J cuts n q code 1 ms (aend (cfg c53 c55 c77 c78) Tryd.f39.results.toList [false, false] sg.out)
theorem e0 {c53 c55 c77 c78 n J a0 l1 l2 a3} : afun (cfg c53 c55 c77 c78) J cuts n code Tryd.f39.results.toList [false, false] [.bool a0, .ro .u64 l1, .ro .u64 l2, .int .i64 a3] sg.out = b0 c53 c55 c77 c78 (fun y0 y1 y2 y3 y4 y5 => J 2041 (A c53 c55 c77 c78 n J 2041 [n]) (s2041 y0 y1 y2 y3 y4 y5)) a0 l1 l2 a3 := by kernel_rfl
theorem e511 {c53 c55 c77 c78 n J x0 x1 x2 x3 x4} : A c53 c55 c77 c78 n J 511 [] (s511 x0 x1 x2 x3 x4) = b511 c53 c55 c77 c78 (fun y0 y1 => J 1023 (A c53 c55 c77 c78 n J 1023 []) (s1023 y0 y1)) x0 x1 x2 x3 x4 := by kernel_rfl
theorem e1023 {c53 c55 c77 c78 n J x0 x1} : A c53 c55 c77 c78 n J 1023 [] (s1023 x0 x1) = b1023 c53 c55 c77 c78 x0 x1 := by kernel_rfl
theorem e2041 {c53 c55 c77 c78 n J m x0 x1 x2 x3 x4 x5} : A c53 c55 c77 c78 n J 2041 [m + 1] (s2041 x0 x1 x2 x3 x4 x5) = b2041 c53 c55 c77 c78 (fun y0 y1 y2 y3 y4 => J 511 (A c53 c55 c77 c78 n J 511 []) (s511 y0 y1 y2 y3 y4)) (fun y0 y1 y2 y3 y4 y5 => J 2041 (A c53 c55 c77 c78 n J 2041 [m]) (s2041 y0 y1 y2 y3 y4 y5)) x0 x1 x2 x3 x4 x5 := by kernel_rfl
noncomputable abbrev I (n : Nat) := A (abacusref01_Big.f n) abacusref04_put.f (abacusref01_Size.f n) (abacusref04_against.f n) n idJ
theorem q1023 (n x0 x1) : I n 1023 [] (s1023 x0 x1) = l1023 n x0 x1 := e1023
theorem q511 (n x0 x1 x2 x3 x4) : I n 511 [] (s511 x0 x1 x2 x3 x4) = l511 n x0 x1 x2 x3 x4 := e511.trans (Eq.trans (cf5 (congrArg (b511 _ _ _ _) (fu2 (q1023 n))) _ _ _ _ _) rfl)
theorem q2041 (n m) : ∀ x0 x1 x2 x3 x4 x5, I n 2041 [m] (s2041 x0 x1 x2 x3 x4 x5) = l2041 n m x0 x1 x2 x3 x4 x5 := by
  induction m with
  | zero => intros; rfl
  | succ m ih =>
    intros
    exact e2041.trans (Eq.trans (cf6 (congr (congrArg (b2041 _ _ _ _) (fu5 (q511 n))) (fu6 (ih))) _ _ _ _ _ _) rfl)
theorem ok {n  a0 l1 l2 a3 r} (h : f n a0 l1 l2 a3 = some r) : CallD Tryd.prog HW 39 [.bool a0, .ro .u64 l1, .ro .u64 l2, .int .i64 a3] (sg.enc r) :=
  fun_some hwS Tryd.func39 (by kernel_rfl) (body := code) (by kernel_rfl) tys_ok (c := cfg (abacusref01_Big.f n) abacusref04_put.f (abacusref01_Size.f n) (abacusref04_against.f n)) (orCall_ok (abacusref01_Big.call_ok (n := n)) (orCall_ok abacusref04_put.call_ok (orCall_ok (abacusref01_Size.call_ok (n := n)) (orCall_ok (abacusref04_against.call_ok (n := n)) noCall_ok)))) noW_ok (by kernel_rfl) (by kernel_rfl) (Nat.le_of_ble_eq_true (by kernel_rfl)) (Eq.trans ((e0 (n := n)).trans (Eq.trans (cf4 (congrArg (b0 _ _ _ _) (fu6 (q2041 n n))) _ _ _ _) rfl)) h)
noncomputable def call {α : Type} (g : T59) (ds : List D) (K : List D→Ω α) : Ω α := match ds with
  | [.bool a0, .ro .u64 l1, .ro .u64 l2, .int .i64 a3] => (g a0 l1 l2 a3).bind fun r => K (sg.enc r)
  | _ => none
theorem call_ok {α : Type} {n : Nat} : COK Tryd.prog HW 39 (call (α := α) (f n)) := fun _ _ _ h => by
  unfold call at h; split at h
  · exact cok h fun _ => ok
  · cases h
end abacusref04_RoundRatio
/-! ### abacusref05_rounded: function 17 -/
namespace abacusref05_rounded
noncomputable def b0 (c39 : T59) (a0 : Bool) (l1 l2 : Λ) (a3 : Int) : Ω (Int) := ((c39 a0 l1 l2 a3).bind fun t1 => some t1.1)
noncomputable def f (n : Nat) (a0 : Bool) (l1 l2 : Λ) (a3 : Int) : Ω (Int) := b0 (abacusref04_RoundRatio.f n) a0 l1 l2 a3
noncomputable def sg : Sig (Int) := s1 (sInt .u64)
noncomputable def code : Code := (Tryd.f17.body).getD .skip
noncomputable def cfg (c39 : T59) : Cfg (Int) := { T := tys, call := orCall 39 (abacusref04_RoundRatio.call c39) (noCall) }
noncomputable def cuts : List (Nat × List (Nat × Want)) := []
theorem e0 {c39 n J a0 l1 l2 a3} : afun (cfg c39) J cuts n code Tryd.f17.results.toList [false] [.agg [.bool a0, .ro .u64 l1, .ro .u64 l2, .int .i64 a3]] sg.out = b0 c39 a0 l1 l2 a3 := by kernel_rfl
theorem ok {n  a0 l1 l2 a3 r} (h : f n a0 l1 l2 a3 = some r) : CallD Tryd.prog HW 17 [.agg [.bool a0, .ro .u64 l1, .ro .u64 l2, .int .i64 a3]] (sg.enc r) :=
  fun_some hwS Tryd.func17 (by kernel_rfl) (body := code) (by kernel_rfl) tys_ok (c := cfg (abacusref04_RoundRatio.f n)) (orCall_ok (abacusref04_RoundRatio.call_ok (n := n)) noCall_ok) noW_ok (by kernel_rfl) (by kernel_rfl) (Nat.le_of_ble_eq_true (by kernel_rfl)) (Eq.trans ((e0 (n := n))) h)
noncomputable def call {α : Type} (g : T20) (ds : List D) (K : List D→Ω α) : Ω α := match ds with
  | [.agg [.bool a0, .ro .u64 l1, .ro .u64 l2, .int .i64 a3]] => (g a0 l1 l2 a3).bind fun r => K (sg.enc r)
  | _ => none
theorem call_ok {α : Type} {n : Nat} : COK Tryd.prog HW 17 (call (α := α) (f n)) := fun _ _ _ h => by
  unfold call at h; split at h
  · exact cok h fun _ => ok
  · cases h
end abacusref05_rounded
/-! ### abacusref05_Mul: function 15 -/
namespace abacusref05_Mul
noncomputable def b0 (c10 : T19) (c12 : T3) (c13 : T15) (c14 : T3) (c17 : T20) (c19 : T9) (c20 : T16) (c21 : T3) (k231 : Int→Int→Bool→Bool→Ω (Int)) (a0 a1 : Int) : Ω (Int) := ((c14 a0).bind fun t1 => ((c14 a1).bind fun t2 => ((c10 a0 a1).bind fun t3 => (if t3 = true then some 9221120237041090560 else ((c12 a0).bind fun t4 => (if t4 = true then ((c21 a1).bind fun t5 => (if t5 = true then k231 a0 a1 (t1 != t2) true else ((c21 a0).bind fun t6 => (if t6 = true then ((c12 a1).bind fun t7 => k231 a0 a1 (t1 != t2) t7) else k231 a0 a1 (t1 != t2) false)))) else ((c21 a0).bind fun t8 => (if t8 = true then ((c12 a1).bind fun t9 => k231 a0 a1 (t1 != t2) t9) else k231 a0 a1 (t1 != t2) false))))))))
noncomputable def b231 (c10 : T19) (c12 : T3) (c13 : T15) (c14 : T3) (c17 : T20) (c19 : T9) (c20 : T16) (c21 : T3) (x0 x1 : Int) (x2 x3 : Bool) : Ω (Int) := (if x3 = true then some 9221120237041090560 else ((c12 x0).bind fun t1 => (if t1 = true then ((c13 x2 9218868437227405312).bind fun t3 => some t3) else ((c12 x1).bind fun t2 => (if t2 = true then ((c13 x2 9218868437227405312).bind fun t4 => some t4) else ((c20 x0).bind fun t5 => ((c20 x1).bind fun t6 => ((c19 t5.1 t5.2.1 t5.2.2.1 t5.2.2.2 t6.1 t6.2.1 t6.2.2.1 t6.2.2.2).bind fun t7 => ((c17 t7.1 t7.2.1 t7.2.2.1 t7.2.2.2).bind fun t8 => some t8)))))))))
noncomputable def l231 (n : Nat) (x0 x1 : Int) (x2 x3 : Bool) : Ω (Int) := b231 abacusref05_anyNaN.f abacusref05_infinite.f abacusref05_signed.f abacusref05_negative.f (abacusref05_rounded.f n) (abacusref05_product.f n) abacusref05_of.f abacusref05_zero.f x0 x1 x2 x3
noncomputable def f (n : Nat) (a0 a1 : Int) : Ω (Int) := b0 abacusref05_anyNaN.f abacusref05_infinite.f abacusref05_signed.f abacusref05_negative.f (abacusref05_rounded.f n) (abacusref05_product.f n) abacusref05_of.f abacusref05_zero.f (l231 n) a0 a1
noncomputable def sg : Sig (Int) := s1 (sInt .u64)
noncomputable def code : Code := (Tryd.f15.body).getD .skip
noncomputable def cfg (c10 : T19) (c12 : T3) (c13 : T15) (c14 : T3) (c17 : T20) (c19 : T9) (c20 : T16) (c21 : T3) : Cfg (Int) := { T := tys, call := orCall 10 (abacusref05_anyNaN.call c10) (orCall 12 (abacusref05_infinite.call c12) (orCall 13 (abacusref05_signed.call c13) (orCall 14 (abacusref05_negative.call c14) (orCall 17 (abacusref05_rounded.call c17) (orCall 19 (abacusref05_product.call c19) (orCall 20 (abacusref05_of.call c20) (orCall 21 (abacusref05_zero.call c21) (noCall)))))))) }
noncomputable def cuts : List (Nat × List (Nat × Want)) := [(231, [(0, .keep), (1, .keep), (5, .keep), (15, .keep)])]
noncomputable def s231 (x0 x1 : Int) (x2 x3 : Bool) : ASt := ⟨[(0, .int .u64 x0), (1, .int .u64 x1), (5, .bool x2), (15, .bool x3)], []⟩
noncomputable def A (c10 : T19) (c12 : T3) (c13 : T15) (c14 : T3) (c17 : T20) (c19 : T9) (c20 : T16) (c21 : T3) (n : Nat) (J : Jt (Int)) (q : Nat) (ms : List Nat) : ASt→Ω (Int) := acont (cfg c10 c12 c13 c14 c17 c19 c20 c21) J cuts n q code 1 ms (aend (cfg c10 c12 c13 c14 c17 c19 c20 c21) Tryd.f15.results.toList [false] sg.out)
theorem e0 {c10 c12 c13 c14 c17 c19 c20 c21 n J a0 a1} : afun (cfg c10 c12 c13 c14 c17 c19 c20 c21) J cuts n code Tryd.f15.results.toList [false] [.int .u64 a0, .int .u64 a1] sg.out = b0 c10 c12 c13 c14 c17 c19 c20 c21 (fun y0 y1 y2 y3 => J 231 (A c10 c12 c13 c14 c17 c19 c20 c21 n J 231 []) (s231 y0 y1 y2 y3)) a0 a1 := by kernel_rfl
theorem e231 {c10 c12 c13 c14 c17 c19 c20 c21 n J x0 x1 x2 x3} : A c10 c12 c13 c14 c17 c19 c20 c21 n J 231 [] (s231 x0 x1 x2 x3) = b231 c10 c12 c13 c14 c17 c19 c20 c21 x0 x1 x2 x3 := by kernel_rfl
noncomputable abbrev I (n : Nat) := A abacusref05_anyNaN.f abacusref05_infinite.f abacusref05_signed.f abacusref05_negative.f (abacusref05_rounded.f n) (abacusref05_product.f n) abacusref05_of.f abacusref05_zero.f n idJ
theorem q231 (n x0 x1 x2 x3) : I n 231 [] (s231 x0 x1 x2 x3) = l231 n x0 x1 x2 x3 := e231
theorem ok {n  a0 a1 r} (h : f n a0 a1 = some r) : CallD Tryd.prog HW 15 [.int .u64 a0, .int .u64 a1] (sg.enc r) :=
  fun_some hwS Tryd.func15 (by kernel_rfl) (body := code) (by kernel_rfl) tys_ok (c := cfg abacusref05_anyNaN.f abacusref05_infinite.f abacusref05_signed.f abacusref05_negative.f (abacusref05_rounded.f n) (abacusref05_product.f n) abacusref05_of.f abacusref05_zero.f) (orCall_ok abacusref05_anyNaN.call_ok (orCall_ok abacusref05_infinite.call_ok (orCall_ok abacusref05_signed.call_ok (orCall_ok abacusref05_negative.call_ok (orCall_ok (abacusref05_rounded.call_ok (n := n)) (orCall_ok (abacusref05_product.call_ok (n := n)) (orCall_ok abacusref05_of.call_ok (orCall_ok abacusref05_zero.call_ok noCall_ok)))))))) noW_ok (by kernel_rfl) (by kernel_rfl) (Nat.le_of_ble_eq_true (by kernel_rfl)) (Eq.trans ((e0 (n := n)).trans (Eq.trans (cf2 (congrArg (b0 _ _ _ _ _ _ _ _) (fu4 (q231 n))) _ _) rfl)) h)
noncomputable def call {α : Type} (g : T13) (ds : List D) (K : List D→Ω α) : Ω α := match ds with
  | [.int .u64 a0, .int .u64 a1] => (g a0 a1).bind fun r => K (sg.enc r)
  | _ => none
theorem call_ok {α : Type} {n : Nat} : COK Tryd.prog HW 15 (call (α := α) (f n)) := fun _ _ _ h => by
  unfold call at h; split at h
  · exact cok h fun _ => ok
  · cases h
end abacusref05_Mul
/-! ### abacusref05_none: function 40 -/
namespace abacusref05_none
noncomputable def b0 (c77 : T0) (a0 : Bool) (l1 l2 : Λ) (a3 : Int) : Ω (Bool) := ((c77 l1).bind fun t1 => some (decide (t1 = 0)))
noncomputable def f (n : Nat) (a0 : Bool) (l1 l2 : Λ) (a3 : Int) : Ω (Bool) := b0 (abacusref01_Size.f n) a0 l1 l2 a3
noncomputable def sg : Sig (Bool) := s1 (sBool)
noncomputable def code : Code := (Tryd.f40.body).getD .skip
noncomputable def cfg (c77 : T0) : Cfg (Bool) := { T := tys, call := orCall 77 (abacusref01_Size.call c77) (noCall) }
noncomputable def cuts : List (Nat × List (Nat × Want)) := []
theorem e0 {c77 n J a0 l1 l2 a3} : afun (cfg c77) J cuts n code Tryd.f40.results.toList [false] [.agg [.bool a0, .ro .u64 l1, .ro .u64 l2, .int .i64 a3]] sg.out = b0 c77 a0 l1 l2 a3 := by kernel_rfl
theorem ok {n  a0 l1 l2 a3 r} (h : f n a0 l1 l2 a3 = some r) : CallD Tryd.prog HW 40 [.agg [.bool a0, .ro .u64 l1, .ro .u64 l2, .int .i64 a3]] (sg.enc r) :=
  fun_some hwS Tryd.func40 (by kernel_rfl) (body := code) (by kernel_rfl) tys_ok (c := cfg (abacusref01_Size.f n)) (orCall_ok (abacusref01_Size.call_ok (n := n)) noCall_ok) noW_ok (by kernel_rfl) (by kernel_rfl) (Nat.le_of_ble_eq_true (by kernel_rfl)) (Eq.trans ((e0 (n := n))) h)
noncomputable def call {α : Type} (g : T43) (ds : List D) (K : List D→Ω α) : Ω α := match ds with
  | [.agg [.bool a0, .ro .u64 l1, .ro .u64 l2, .int .i64 a3]] => (g a0 l1 l2 a3).bind fun r => K (sg.enc r)
  | _ => none
theorem call_ok {α : Type} {n : Nat} : COK Tryd.prog HW 40 (call (α := α) (f n)) := fun _ _ _ h => by
  unfold call at h; split at h
  · exact cok h fun _ => ok
  · cases h
end abacusref05_none
/-! ### abacusref01_Plus: function 42 -/
namespace abacusref01_Plus
noncomputable def b0 (c51 c52 : T1) (k1013 : T26) (l0 l1 : Λ) : Ω (Λ) := ((c51 l0).bind fun t1 => ((c51 l1).bind fun t2 => (if 0 ≤ (wrap64 ((wrap64 ((ln t1) + (ln t2))) + 1)) then (if (wrap64 ((wrap64 ((ln t1) + (ln t2))) + 1)).toNat ≤ 35184372088832 then k1013 t1 t2 0 0 (List.replicate 0 (0 : Int)) else none) else none)))
noncomputable def b127 (c51 c52 : T1) (x0 : Int) (x1 : Λ) : Ω (Λ) := (if x1.length + 1 ≤ 17592186044416 then ((c52 (x1 ++ [x0])).bind fun t1 => some t1) else none)
noncomputable def b1013 (c51 c52 : T1) (k127 : T51) (k2025 : T26) (x0 x1 : Λ) (x2 x3 : Int) (x4 : Λ) : Ω (Λ) := (if x3 < (ln x0) then k2025 x0 x1 x2 x3 x4 else (if x3 < (ln x1) then k2025 x0 x1 x2 x3 x4 else k127 x2 x4))
noncomputable def b2025 (c51 c52 : T1) (k16201 : T26) (x0 x1 : Λ) (x2 x3 : Int) (x4 : Λ) : Ω (Λ) := (if x3 < (ln x0) then (if 0 ≤ x3 then (if x3 < (ln x0) then k16201 x0 x1 (IntKind.u64.wrap (x2 + (rd x0 x3))) x3 x4 else none) else none) else k16201 x0 x1 x2 x3 x4)
noncomputable def b16201 (c51 c52 : T1) (k1013 : T26) (x0 x1 : Λ) (x2 x3 : Int) (x4 : Λ) : Ω (Λ) := (if x3 < (ln x1) then (if 0 ≤ x3 then (if x3 < (ln x1) then (if x4.length + 1 ≤ 17592186044416 then k1013 x0 x1 ((IntKind.u64.wrap (x2 + (rd x1 x3))) / 4294967296) (wrap64 (x3 + 1)) (x4 ++ [Go.bits .and .u64 (IntKind.u64.wrap (x2 + (rd x1 x3))) 4294967295]) else none) else none) else none) else (if x4.length + 1 ≤ 17592186044416 then k1013 x0 x1 (x2 / 4294967296) (wrap64 (x3 + 1)) (x4 ++ [Go.bits .and .u64 x2 4294967295]) else none))
noncomputable def l127 (n : Nat) (x0 : Int) (x1 : Λ) : Ω (Λ) := b127 (abacusref01_halves.f n) (abacusref01_limbs.f n) x0 x1
noncomputable def l16201 (n : Nat) (k1013 : T26) (x0 x1 : Λ) (x2 x3 : Int) (x4 : Λ) : Ω (Λ) := b16201 (abacusref01_halves.f n) (abacusref01_limbs.f n) k1013 x0 x1 x2 x3 x4
noncomputable def l2025 (n : Nat) (k1013 : T26) (x0 x1 : Λ) (x2 x3 : Int) (x4 : Λ) : Ω (Λ) := b2025 (abacusref01_halves.f n) (abacusref01_limbs.f n) (l16201 n k1013) x0 x1 x2 x3 x4
noncomputable def l1013 (n : Nat) : Nat→Λ→Λ→Int→Int→Λ→Ω (Λ)
  | 0, _, _, _, _, _ => none
  | m + 1, x0, x1, x2, x3, x4 => b1013 (abacusref01_halves.f n) (abacusref01_limbs.f n) (l127 n) (l2025 n (l1013 n m)) x0 x1 x2 x3 x4
noncomputable def f (n : Nat) (l0 l1 : Λ) : Ω (Λ) := b0 (abacusref01_halves.f n) (abacusref01_limbs.f n) (l1013 n n) l0 l1
noncomputable def sg : Sig (Λ) := s1 (sOwn 23 .u64)
noncomputable def code : Code := (Tryd.f42.body).getD .skip
noncomputable def cfg (c51 c52 : T1) : Cfg (Λ) := { T := tys, call := orCall 51 (abacusref01_halves.call c51) (orCall 52 (abacusref01_limbs.call c52) (noCall)) }
noncomputable def cuts : List (Nat × List (Nat × Want)) := [(127, [(7, .keep), (8, .keep)]), (1013, [(5, .keep), (6, .keep), (7, .keep), (8, .keep), (9, .keep)]), (2025, [(5, .keep), (6, .keep), (7, .keep), (8, .keep), (9, .keep)]), (16201, [(5, .keep), (6, .keep), (7, .keep), (8, .keep), (9, .keep)])]
noncomputable def s127 (x0 : Int) (x1 : Λ) : ASt := ⟨[(7, .own 0), (8, .int .u64 x0)], [.ints 23 .u64 x1]⟩
noncomputable def s1013 (x0 x1 : Λ) (x2 x3 : Int) (x4 : Λ) : ASt := ⟨[(5, .ro .u64 x0), (6, .ro .u64 x1), (7, .own 0), (8, .int .u64 x2), (9, .int .i64 x3)], [.ints 23 .u64 x4]⟩
noncomputable def s2025 (x0 x1 : Λ) (x2 x3 : Int) (x4 : Λ) : ASt := ⟨[(5, .ro .u64 x0), (6, .ro .u64 x1), (7, .own 0), (8, .int .u64 x2), (9, .int .i64 x3)], [.ints 23 .u64 x4]⟩
noncomputable def s16201 (x0 x1 : Λ) (x2 x3 : Int) (x4 : Λ) : ASt := ⟨[(5, .ro .u64 x0), (6, .ro .u64 x1), (7, .own 0), (8, .int .u64 x2), (9, .int .i64 x3)], [.ints 23 .u64 x4]⟩
noncomputable def A (c51 c52 : T1) (n : Nat) (J : Jt (Λ)) (q : Nat) (ms : List Nat) : ASt→Ω (Λ) := acont (cfg c51 c52) J cuts n q code 1 ms (aend (cfg c51 c52) Tryd.f42.results.toList [true] sg.out)
theorem e0 {c51 c52 n J l0 l1} : afun (cfg c51 c52) J cuts n code Tryd.f42.results.toList [true] [.ro .u64 l0, .ro .u64 l1] sg.out = b0 c51 c52 (fun y0 y1 y2 y3 y4 => J 1013 (A c51 c52 n J 1013 [n]) (s1013 y0 y1 y2 y3 y4)) l0 l1 := by kernel_rfl
theorem e127 {c51 c52 n J x0 x1} : A c51 c52 n J 127 [] (s127 x0 x1) = b127 c51 c52 x0 x1 := by kernel_rfl
theorem e1013 {c51 c52 n J m x0 x1 x2 x3 x4} : A c51 c52 n J 1013 [m + 1] (s1013 x0 x1 x2 x3 x4) = b1013 c51 c52 (fun y0 y1 => J 127 (A c51 c52 n J 127 []) (s127 y0 y1)) (fun y0 y1 y2 y3 y4 => J 2025 (A c51 c52 n J 2025 [m]) (s2025 y0 y1 y2 y3 y4)) x0 x1 x2 x3 x4 := by kernel_rfl
theorem e2025 {c51 c52 n J m1013 x0 x1 x2 x3 x4} : A c51 c52 n J 2025 [m1013] (s2025 x0 x1 x2 x3 x4) = b2025 c51 c52 (fun y0 y1 y2 y3 y4 => J 16201 (A c51 c52 n J 16201 [m1013]) (s16201 y0 y1 y2 y3 y4)) x0 x1 x2 x3 x4 := by kernel_rfl
theorem e16201 {c51 c52 n J m1013 x0 x1 x2 x3 x4} : A c51 c52 n J 16201 [m1013] (s16201 x0 x1 x2 x3 x4) = b16201 c51 c52 (fun y0 y1 y2 y3 y4 => J 1013 (A c51 c52 n J 1013 [m1013]) (s1013 y0 y1 y2 y3 y4)) x0 x1 x2 x3 x4 := by kernel_rfl
noncomputable abbrev I (n : Nat) := A (abacusref01_halves.f n) (abacusref01_limbs.f n) n idJ
theorem q127 (n x0 x1) : I n 127 [] (s127 x0 x1) = l127 n x0 x1 := e127
theorem q16201 (n m1013 x0 x1 x2 x3 x4) : I n 16201 [m1013] (s16201 x0 x1 x2 x3 x4) = l16201 n (fun y0 y1 y2 y3 y4 => I n 1013 [m1013] (s1013 y0 y1 y2 y3 y4)) x0 x1 x2 x3 x4 := e16201
theorem q2025 (n m1013 x0 x1 x2 x3 x4) : I n 2025 [m1013] (s2025 x0 x1 x2 x3 x4) = l2025 n (fun y0 y1 y2 y3 y4 => I n 1013 [m1013] (s1013 y0 y1 y2 y3 y4)) x0 x1 x2 x3 x4 := e2025.trans (Eq.trans (cf5 (congrArg (b2025 _ _) (fu5 (q16201 n m1013))) _ _ _ _ _) rfl)
theorem q1013 (n m) : ∀ x0 x1 x2 x3 x4, I n 1013 [m] (s1013 x0 x1 x2 x3 x4) = l1013 n m x0 x1 x2 x3 x4 := by
  induction m with
  | zero => intros; rfl
  | succ m ih =>
    intros
    exact e1013.trans (Eq.trans (cf5 (congr (congrArg (b1013 _ _) (fu2 (q127 n))) ((fu5 (q2025 n m)).trans (by rw [show (fun y0 y1 y2 y3 y4 => I n 1013 [m] (s1013 y0 y1 y2 y3 y4)) = _ from (fu5 (ih))]))) _ _ _ _ _) rfl)
theorem ok {n  l0 l1 r} (h : f n l0 l1 = some r) : CallD Tryd.prog HW 42 [.ro .u64 l0, .ro .u64 l1] (sg.enc r) :=
  fun_some hwS Tryd.func42 (by kernel_rfl) (body := code) (by kernel_rfl) tys_ok (c := cfg (abacusref01_halves.f n) (abacusref01_limbs.f n)) (orCall_ok (abacusref01_halves.call_ok (n := n)) (orCall_ok (abacusref01_limbs.call_ok (n := n)) noCall_ok)) noW_ok (by kernel_rfl) (by kernel_rfl) (Nat.le_of_ble_eq_true (by kernel_rfl)) (Eq.trans ((e0 (n := n)).trans (Eq.trans (cf2 (congrArg (b0 _ _) (fu5 (q1013 n n))) _ _) rfl)) h)
noncomputable def call {α : Type} (g : T14) (ds : List D) (K : List D→Ω α) : Ω α := match ds with
  | [.ro .u64 l0, .ro .u64 l1] => (g l0 l1).bind fun r => K (sg.enc r)
  | _ => none
theorem call_ok {α : Type} {n : Nat} : COK Tryd.prog HW 42 (call (α := α) (f n)) := fun _ _ _ h => by
  unfold call at h; split at h
  · exact cok h fun _ => ok
  · cases h
end abacusref01_Plus
/-! ### abacusref01_Less: function 43 -/
namespace abacusref01_Less
noncomputable def b0 (c51 c52 : T1) (k1013 : T26) (l0 l1 : Λ) : Ω (Λ) := ((c51 l0).bind fun t1 => ((c51 l1).bind fun t2 => (if 0 ≤ (ln t1) then (if (ln t1).toNat ≤ 35184372088832 then k1013 t1 t2 0 0 (List.replicate 0 (0 : Int)) else none) else none)))
noncomputable def b127 (c51 c52 : T1) (x0 : Λ) : Ω (Λ) := ((c52 x0).bind fun t1 => some t1)
noncomputable def b1013 (c51 c52 k127 : T1) (k32403 : T26) (x0 x1 : Λ) (x2 x3 : Int) (x4 : Λ) : Ω (Λ) := (if x3 < (ln x0) then (if x3 < (ln x1) then (if 0 ≤ x3 then (if x3 < (ln x1) then k32403 x0 x1 x3 (IntKind.u64.wrap (x2 + (rd x1 x3))) x4 else none) else none) else k32403 x0 x1 x3 x2 x4) else k127 x4)
noncomputable def b32403 (c51 c52 : T1) (k259231 : Λ→Λ→Int→Int→Int→Int→Λ→Ω (Λ)) (x0 x1 : Λ) (x2 x3 : Int) (x4 : Λ) : Ω (Λ) := (if 0 ≤ x2 then (if x2 < (ln x0) then (if (rd x0 x2) < x3 then k259231 x0 x1 1 x2 x3 (IntKind.u64.wrap ((rd x0 x2) + 4294967296)) x4 else k259231 x0 x1 0 x2 x3 (rd x0 x2) x4) else none) else none)
noncomputable def b259231 (c51 c52 : T1) (k1013 : T26) (x0 x1 : Λ) (x2 x3 x4 x5 : Int) (x6 : Λ) : Ω (Λ) := (if x6.length + 1 ≤ 17592186044416 then k1013 x0 x1 x2 (wrap64 (x3 + 1)) (x6 ++ [IntKind.u64.wrap (x5 - x4)]) else none)
noncomputable def l127 (n : Nat) (x0 : Λ) : Ω (Λ) := b127 (abacusref01_halves.f n) (abacusref01_limbs.f n) x0
noncomputable def l259231 (n : Nat) (k1013 : T26) (x0 x1 : Λ) (x2 x3 x4 x5 : Int) (x6 : Λ) : Ω (Λ) := b259231 (abacusref01_halves.f n) (abacusref01_limbs.f n) k1013 x0 x1 x2 x3 x4 x5 x6
noncomputable def l32403 (n : Nat) (k1013 : T26) (x0 x1 : Λ) (x2 x3 : Int) (x4 : Λ) : Ω (Λ) := b32403 (abacusref01_halves.f n) (abacusref01_limbs.f n) (l259231 n k1013) x0 x1 x2 x3 x4
noncomputable def l1013 (n : Nat) : Nat→Λ→Λ→Int→Int→Λ→Ω (Λ)
  | 0, _, _, _, _, _ => none
  | m + 1, x0, x1, x2, x3, x4 => b1013 (abacusref01_halves.f n) (abacusref01_limbs.f n) (l127 n) (l32403 n (l1013 n m)) x0 x1 x2 x3 x4
noncomputable def f (n : Nat) (l0 l1 : Λ) : Ω (Λ) := b0 (abacusref01_halves.f n) (abacusref01_limbs.f n) (l1013 n n) l0 l1
noncomputable def sg : Sig (Λ) := s1 (sOwn 23 .u64)
noncomputable def code : Code := (Tryd.f43.body).getD .skip
noncomputable def cfg (c51 c52 : T1) : Cfg (Λ) := { T := tys, call := orCall 51 (abacusref01_halves.call c51) (orCall 52 (abacusref01_limbs.call c52) (noCall)) }
noncomputable def cuts : List (Nat × List (Nat × Want)) := [(127, [(7, .keep)]), (1013, [(5, .keep), (6, .keep), (7, .keep), (8, .keep), (9, .keep)]), (32403, [(5, .keep), (6, .keep), (7, .keep), (9, .keep), (10, .keep)]), (259231, [(5, .keep), (6, .keep), (7, .keep), (8, .keep), (9, .keep), (10, .keep), (11, .keep)])]
noncomputable def s127 (x0 : Λ) : ASt := ⟨[(7, .own 0)], [.ints 23 .u64 x0]⟩
noncomputable def s1013 (x0 x1 : Λ) (x2 x3 : Int) (x4 : Λ) : ASt := ⟨[(5, .ro .u64 x0), (6, .ro .u64 x1), (7, .own 0), (8, .int .u64 x2), (9, .int .i64 x3)], [.ints 23 .u64 x4]⟩
noncomputable def s32403 (x0 x1 : Λ) (x2 x3 : Int) (x4 : Λ) : ASt := ⟨[(5, .ro .u64 x0), (6, .ro .u64 x1), (7, .own 0), (9, .int .i64 x2), (10, .int .u64 x3)], [.ints 23 .u64 x4]⟩
noncomputable def s259231 (x0 x1 : Λ) (x2 x3 x4 x5 : Int) (x6 : Λ) : ASt := ⟨[(5, .ro .u64 x0), (6, .ro .u64 x1), (7, .own 0), (8, .int .u64 x2), (9, .int .i64 x3), (10, .int .u64 x4), (11, .int .u64 x5)], [.ints 23 .u64 x6]⟩
noncomputable def A (c51 c52 : T1) (n : Nat) (J : Jt (Λ)) (q : Nat) (ms : List Nat) : ASt→Ω (Λ) := acont (cfg c51 c52) J cuts n q code 1 ms (aend (cfg c51 c52) Tryd.f43.results.toList [true] sg.out)
theorem e0 {c51 c52 n J l0 l1} : afun (cfg c51 c52) J cuts n code Tryd.f43.results.toList [true] [.ro .u64 l0, .ro .u64 l1] sg.out = b0 c51 c52 (fun y0 y1 y2 y3 y4 => J 1013 (A c51 c52 n J 1013 [n]) (s1013 y0 y1 y2 y3 y4)) l0 l1 := by kernel_rfl
theorem e127 {c51 c52 n J x0} : A c51 c52 n J 127 [] (s127 x0) = b127 c51 c52 x0 := by kernel_rfl
theorem e1013 {c51 c52 n J m x0 x1 x2 x3 x4} : A c51 c52 n J 1013 [m + 1] (s1013 x0 x1 x2 x3 x4) = b1013 c51 c52 (fun y0 => J 127 (A c51 c52 n J 127 []) (s127 y0)) (fun y0 y1 y2 y3 y4 => J 32403 (A c51 c52 n J 32403 [m]) (s32403 y0 y1 y2 y3 y4)) x0 x1 x2 x3 x4 := by kernel_rfl
theorem e32403 {c51 c52 n J m1013 x0 x1 x2 x3 x4} : A c51 c52 n J 32403 [m1013] (s32403 x0 x1 x2 x3 x4) = b32403 c51 c52 (fun y0 y1 y2 y3 y4 y5 y6 => J 259231 (A c51 c52 n J 259231 [m1013]) (s259231 y0 y1 y2 y3 y4 y5 y6)) x0 x1 x2 x3 x4 := by kernel_rfl
theorem e259231 {c51 c52 n J m1013 x0 x1 x2 x3 x4 x5 x6} : A c51 c52 n J 259231 [m1013] (s259231 x0 x1 x2 x3 x4 x5 x6) = b259231 c51 c52 (fun y0 y1 y2 y3 y4 => J 1013 (A c51 c52 n J 1013 [m1013]) (s1013 y0 y1 y2 y3 y4)) x0 x1 x2 x3 x4 x5 x6 := by kernel_rfl
noncomputable abbrev I (n : Nat) := A (abacusref01_halves.f n) (abacusref01_limbs.f n) n idJ
theorem q127 (n x0) : I n 127 [] (s127 x0) = l127 n x0 := e127
theorem q259231 (n m1013 x0 x1 x2 x3 x4 x5 x6) : I n 259231 [m1013] (s259231 x0 x1 x2 x3 x4 x5 x6) = l259231 n (fun y0 y1 y2 y3 y4 => I n 1013 [m1013] (s1013 y0 y1 y2 y3 y4)) x0 x1 x2 x3 x4 x5 x6 := e259231
theorem q32403 (n m1013 x0 x1 x2 x3 x4) : I n 32403 [m1013] (s32403 x0 x1 x2 x3 x4) = l32403 n (fun y0 y1 y2 y3 y4 => I n 1013 [m1013] (s1013 y0 y1 y2 y3 y4)) x0 x1 x2 x3 x4 := e32403.trans (Eq.trans (cf5 (congrArg (b32403 _ _) (fu7 (q259231 n m1013))) _ _ _ _ _) rfl)
theorem q1013 (n m) : ∀ x0 x1 x2 x3 x4, I n 1013 [m] (s1013 x0 x1 x2 x3 x4) = l1013 n m x0 x1 x2 x3 x4 := by
  induction m with
  | zero => intros; rfl
  | succ m ih =>
    intros
    exact e1013.trans (Eq.trans (cf5 (congr (congrArg (b1013 _ _) (fu1 (q127 n))) ((fu5 (q32403 n m)).trans (by rw [show (fun y0 y1 y2 y3 y4 => I n 1013 [m] (s1013 y0 y1 y2 y3 y4)) = _ from (fu5 (ih))]))) _ _ _ _ _) rfl)
theorem ok {n  l0 l1 r} (h : f n l0 l1 = some r) : CallD Tryd.prog HW 43 [.ro .u64 l0, .ro .u64 l1] (sg.enc r) :=
  fun_some hwS Tryd.func43 (by kernel_rfl) (body := code) (by kernel_rfl) tys_ok (c := cfg (abacusref01_halves.f n) (abacusref01_limbs.f n)) (orCall_ok (abacusref01_halves.call_ok (n := n)) (orCall_ok (abacusref01_limbs.call_ok (n := n)) noCall_ok)) noW_ok (by kernel_rfl) (by kernel_rfl) (Nat.le_of_ble_eq_true (by kernel_rfl)) (Eq.trans ((e0 (n := n)).trans (Eq.trans (cf2 (congrArg (b0 _ _) (fu5 (q1013 n n))) _ _) rfl)) h)
noncomputable def call {α : Type} (g : T14) (ds : List D) (K : List D→Ω α) : Ω α := match ds with
  | [.ro .u64 l0, .ro .u64 l1] => (g l0 l1).bind fun r => K (sg.enc r)
  | _ => none
theorem call_ok {α : Type} {n : Nat} : COK Tryd.prog HW 43 (call (α := α) (f n)) := fun _ _ _ h => by
  unfold call at h; split at h
  · exact cok h fun _ => ok
  · cases h
end abacusref01_Less
/-! ### abacusref05_sum: function 18 -/
namespace abacusref05_sum
noncomputable def b0 (c23 : T8) (c40 : T43) (c41 : T6) (c42 c43 : T14) (k7 : T9) (a0 : Bool) (l1 l2 : Λ) (a3 : Int) (a4 : Bool) (l5 l6 : Λ) (a7 : Int) : Ω (Bool × Λ × Λ × Int) := ((c40 a0 l1 l2 a3).bind fun t1 => (if t1 = true then ((c40 a4 l5 l6 a7).bind fun t2 => (if t2 = true then (if a0 = true then some (a4, ([] : Λ), l2, 0) else some (false, ([] : Λ), l2, 0)) else k7 a0 l1 l2 a3 a4 l5 l6 a7)) else k7 a0 l1 l2 a3 a4 l5 l6 a7))
noncomputable def b7 (c23 : T8) (c40 : T43) (c41 : T6) (c42 c43 : T14) (k31 : Int→Int→Bool→Λ→Λ→Int→Bool→Λ→Λ→Ω (Bool × Λ × Λ × Int)) (x0 : Bool) (x1 x2 : Λ) (x3 : Int) (x4 : Bool) (x5 x6 : Λ) (x7 : Int) : Ω (Bool × Λ × Λ × Int) := (if x7 < x3 then k31 x7 x7 x0 x1 x2 x3 x4 x5 x6 else k31 x3 x7 x0 x1 x2 x3 x4 x5 x6)
noncomputable def b31 (c23 : T8) (c40 : T43) (c41 : T6) (c42 c43 : T14) (x0 x1 : Int) (x2 : Bool) (x3 x4 : Λ) (x5 : Int) (x6 : Bool) (x7 x8 : Λ) : Ω (Bool × Λ × Λ × Int) := ((c23 x3 (wrap64 (x5 - x0))).bind fun t1 => ((c23 x7 (wrap64 (x1 - x0))).bind fun t2 => ((c41 t1 t2).bind fun t3 => (if (x2 == x6) = true then ((c42 t1 t2).bind fun t4 => some (x2, t4, x4, x0)) else (if t3 = 0 then some (false, ([] : Λ), x4, x0) else (if t3 > 0 then ((c43 t1 t2).bind fun t5 => some (x2, t5, x4, x0)) else ((c43 t2 t1).bind fun t6 => some (x6, t6, x4, x0))))))))
noncomputable def l31 (n : Nat) (x0 x1 : Int) (x2 : Bool) (x3 x4 : Λ) (x5 : Int) (x6 : Bool) (x7 x8 : Λ) : Ω (Bool × Λ × Λ × Int) := b31 (abacusref01_Lift.f n) (abacusref05_none.f n) (abacusref01_Cmp.f n) (abacusref01_Plus.f n) (abacusref01_Less.f n) x0 x1 x2 x3 x4 x5 x6 x7 x8
noncomputable def l7 (n : Nat) (x0 : Bool) (x1 x2 : Λ) (x3 : Int) (x4 : Bool) (x5 x6 : Λ) (x7 : Int) : Ω (Bool × Λ × Λ × Int) := b7 (abacusref01_Lift.f n) (abacusref05_none.f n) (abacusref01_Cmp.f n) (abacusref01_Plus.f n) (abacusref01_Less.f n) (l31 n) x0 x1 x2 x3 x4 x5 x6 x7
noncomputable def f (n : Nat) (a0 : Bool) (l1 l2 : Λ) (a3 : Int) (a4 : Bool) (l5 l6 : Λ) (a7 : Int) : Ω (Bool × Λ × Λ × Int) := b0 (abacusref01_Lift.f n) (abacusref05_none.f n) (abacusref01_Cmp.f n) (abacusref01_Plus.f n) (abacusref01_Less.f n) (l7 n) a0 l1 l2 a3 a4 l5 l6 a7
noncomputable def sg : Sig (Bool × Λ × Λ × Int) := s1 (sAgg (s2 (sBool) (s2 (sRow .u64) (s2 (sRow .u64) (s1 (sInt .i64))))))
noncomputable def code : Code := (Tryd.f18.body).getD .skip
noncomputable def cfg (c23 : T8) (c40 : T43) (c41 : T6) (c42 c43 : T14) : Cfg (Bool × Λ × Λ × Int) := { T := tys, call := orCall 23 (abacusref01_Lift.call c23) (orCall 40 (abacusref05_none.call c40) (orCall 41 (abacusref01_Cmp.call c41) (orCall 42 (abacusref01_Plus.call c42) (orCall 43 (abacusref01_Less.call c43) (noCall))))) }
noncomputable def cuts : List (Nat × List (Nat × Want)) := [(7, [(2, .keep), (3, .keep), (4, .keep)]), (31, [(2, .keep), (3, .keep), (4, .keep), (5, .keep)])]
noncomputable def s7 (x0 : Bool) (x1 x2 : Λ) (x3 : Int) (x4 : Bool) (x5 x6 : Λ) (x7 : Int) : ASt := ⟨[(2, .ptr 0 0), (3, .ptr 1 0), (4, .ptr 2 0)], [.cells 38 [.bool x0, .ro .u64 x1, .ro .u64 x2, .int .i64 x3], .cells 38 [.bool x4, .ro .u64 x5, .ro .u64 x6, .int .i64 x7], .cells 38 [.bool false, .nil, .nil, .int .i64 0]]⟩
noncomputable def s31 (x0 x1 : Int) (x2 : Bool) (x3 x4 : Λ) (x5 : Int) (x6 : Bool) (x7 x8 : Λ) : ASt := ⟨[(2, .ptr 0 0), (3, .ptr 1 0), (4, .ptr 2 0), (5, .int .i64 x0)], [.cells 38 [.bool x2, .ro .u64 x3, .ro .u64 x4, .int .i64 x5], .cells 38 [.bool x6, .ro .u64 x7, .ro .u64 x8, .int .i64 x1], .cells 38 [.bool false, .nil, .nil, .int .i64 0]]⟩
noncomputable def A (c23 : T8) (c40 : T43) (c41 : T6) (c42 c43 : T14) (n : Nat) (J : Jt (Bool × Λ × Λ × Int)) (q : Nat) (ms : List Nat) : ASt→Ω (Bool × Λ × Λ × Int) := acont (cfg c23 c40 c41 c42 c43) J cuts n q code 1 ms (aend (cfg c23 c40 c41 c42 c43) Tryd.f18.results.toList [false] sg.out)
theorem e0 {c23 c40 c41 c42 c43 n J a0 l1 l2 a3 a4 l5 l6 a7} : afun (cfg c23 c40 c41 c42 c43) J cuts n code Tryd.f18.results.toList [false] [.agg [.bool a0, .ro .u64 l1, .ro .u64 l2, .int .i64 a3], .agg [.bool a4, .ro .u64 l5, .ro .u64 l6, .int .i64 a7]] sg.out = b0 c23 c40 c41 c42 c43 (fun y0 y1 y2 y3 y4 y5 y6 y7 => J 7 (A c23 c40 c41 c42 c43 n J 7 []) (s7 y0 y1 y2 y3 y4 y5 y6 y7)) a0 l1 l2 a3 a4 l5 l6 a7 := by kernel_rfl
theorem e7 {c23 c40 c41 c42 c43 n J x0 x1 x2 x3 x4 x5 x6 x7} : A c23 c40 c41 c42 c43 n J 7 [] (s7 x0 x1 x2 x3 x4 x5 x6 x7) = b7 c23 c40 c41 c42 c43 (fun y0 y1 y2 y3 y4 y5 y6 y7 y8 => J 31 (A c23 c40 c41 c42 c43 n J 31 []) (s31 y0 y1 y2 y3 y4 y5 y6 y7 y8)) x0 x1 x2 x3 x4 x5 x6 x7 := by kernel_rfl
theorem e31 {c23 c40 c41 c42 c43 n J x0 x1 x2 x3 x4 x5 x6 x7 x8} : A c23 c40 c41 c42 c43 n J 31 [] (s31 x0 x1 x2 x3 x4 x5 x6 x7 x8) = b31 c23 c40 c41 c42 c43 x0 x1 x2 x3 x4 x5 x6 x7 x8 := by kernel_rfl
noncomputable abbrev I (n : Nat) := A (abacusref01_Lift.f n) (abacusref05_none.f n) (abacusref01_Cmp.f n) (abacusref01_Plus.f n) (abacusref01_Less.f n) n idJ
theorem q31 (n x0 x1 x2 x3 x4 x5 x6 x7 x8) : I n 31 [] (s31 x0 x1 x2 x3 x4 x5 x6 x7 x8) = l31 n x0 x1 x2 x3 x4 x5 x6 x7 x8 := e31
theorem q7 (n x0 x1 x2 x3 x4 x5 x6 x7) : I n 7 [] (s7 x0 x1 x2 x3 x4 x5 x6 x7) = l7 n x0 x1 x2 x3 x4 x5 x6 x7 := e7.trans (Eq.trans (cf8 (congrArg (b7 _ _ _ _ _) (fu9 (q31 n))) _ _ _ _ _ _ _ _) rfl)
theorem ok {n  a0 l1 l2 a3 a4 l5 l6 a7 r} (h : f n a0 l1 l2 a3 a4 l5 l6 a7 = some r) : CallD Tryd.prog HW 18 [.agg [.bool a0, .ro .u64 l1, .ro .u64 l2, .int .i64 a3], .agg [.bool a4, .ro .u64 l5, .ro .u64 l6, .int .i64 a7]] (sg.enc r) :=
  fun_some hwS Tryd.func18 (by kernel_rfl) (body := code) (by kernel_rfl) tys_ok (c := cfg (abacusref01_Lift.f n) (abacusref05_none.f n) (abacusref01_Cmp.f n) (abacusref01_Plus.f n) (abacusref01_Less.f n)) (orCall_ok (abacusref01_Lift.call_ok (n := n)) (orCall_ok (abacusref05_none.call_ok (n := n)) (orCall_ok (abacusref01_Cmp.call_ok (n := n)) (orCall_ok (abacusref01_Plus.call_ok (n := n)) (orCall_ok (abacusref01_Less.call_ok (n := n)) noCall_ok))))) noW_ok (by kernel_rfl) (by kernel_rfl) (Nat.le_of_ble_eq_true (by kernel_rfl)) (Eq.trans ((e0 (n := n)).trans (Eq.trans (cf8 (congrArg (b0 _ _ _ _ _) (fu8 (q7 n))) _ _ _ _ _ _ _ _) rfl)) h)
noncomputable def call {α : Type} (g : T9) (ds : List D) (K : List D→Ω α) : Ω α := match ds with
  | [.agg [.bool a0, .ro .u64 l1, .ro .u64 l2, .int .i64 a3], .agg [.bool a4, .ro .u64 l5, .ro .u64 l6, .int .i64 a7]] => (g a0 l1 l2 a3 a4 l5 l6 a7).bind fun r => K (sg.enc r)
  | _ => none
theorem call_ok {α : Type} {n : Nat} : COK Tryd.prog HW 18 (call (α := α) (f n)) := fun _ _ _ h => by
  unfold call at h; split at h
  · exact cok h fun _ => ok
  · cases h
end abacusref05_sum
/-! ### abacusref05_Add: function 16 -/
namespace abacusref05_Add
noncomputable def b0 (c10 : T19) (c12 c14 : T3) (c17 : T20) (c18 : T9) (c20 : T16) (k103 : Int→Int→Bool→Ω (Int)) (a0 a1 : Int) : Ω (Int) := ((c10 a0 a1).bind fun t1 => (if t1 = true then some 9221120237041090560 else ((c12 a0).bind fun t2 => (if t2 = true then ((c12 a1).bind fun t3 => (if t3 = true then ((c14 a0).bind fun t4 => ((c14 a1).bind fun t5 => k103 a0 a1 (t4 != t5))) else k103 a0 a1 false)) else k103 a0 a1 false))))
noncomputable def b103 (c10 : T19) (c12 c14 : T3) (c17 : T20) (c18 : T9) (c20 : T16) (x0 x1 : Int) (x2 : Bool) : Ω (Int) := (if x2 = true then some 9221120237041090560 else ((c12 x0).bind fun t1 => (if t1 = true then some x0 else ((c12 x1).bind fun t2 => (if t2 = true then some x1 else ((c20 x0).bind fun t3 => ((c20 x1).bind fun t4 => ((c18 t3.1 t3.2.1 t3.2.2.1 t3.2.2.2 t4.1 t4.2.1 t4.2.2.1 t4.2.2.2).bind fun t5 => ((c17 t5.1 t5.2.1 t5.2.2.1 t5.2.2.2).bind fun t6 => some t6)))))))))
noncomputable def l103 (n : Nat) (x0 x1 : Int) (x2 : Bool) : Ω (Int) := b103 abacusref05_anyNaN.f abacusref05_infinite.f abacusref05_negative.f (abacusref05_rounded.f n) (abacusref05_sum.f n) abacusref05_of.f x0 x1 x2
noncomputable def f (n : Nat) (a0 a1 : Int) : Ω (Int) := b0 abacusref05_anyNaN.f abacusref05_infinite.f abacusref05_negative.f (abacusref05_rounded.f n) (abacusref05_sum.f n) abacusref05_of.f (l103 n) a0 a1
noncomputable def sg : Sig (Int) := s1 (sInt .u64)
noncomputable def code : Code := (Tryd.f16.body).getD .skip
noncomputable def cfg (c10 : T19) (c12 c14 : T3) (c17 : T20) (c18 : T9) (c20 : T16) : Cfg (Int) := { T := tys, call := orCall 10 (abacusref05_anyNaN.call c10) (orCall 12 (abacusref05_infinite.call c12) (orCall 14 (abacusref05_negative.call c14) (orCall 17 (abacusref05_rounded.call c17) (orCall 18 (abacusref05_sum.call c18) (orCall 20 (abacusref05_of.call c20) (noCall)))))) }
noncomputable def cuts : List (Nat × List (Nat × Want)) := [(103, [(0, .keep), (1, .keep), (9, .keep)])]
noncomputable def s103 (x0 x1 : Int) (x2 : Bool) : ASt := ⟨[(0, .int .u64 x0), (1, .int .u64 x1), (9, .bool x2)], []⟩
noncomputable def A (c10 : T19) (c12 c14 : T3) (c17 : T20) (c18 : T9) (c20 : T16) (n : Nat) (J : Jt (Int)) (q : Nat) (ms : List Nat) : ASt→Ω (Int) := acont (cfg c10 c12 c14 c17 c18 c20) J cuts n q code 1 ms (aend (cfg c10 c12 c14 c17 c18 c20) Tryd.f16.results.toList [false] sg.out)
theorem e0 {c10 c12 c14 c17 c18 c20 n J a0 a1} : afun (cfg c10 c12 c14 c17 c18 c20) J cuts n code Tryd.f16.results.toList [false] [.int .u64 a0, .int .u64 a1] sg.out = b0 c10 c12 c14 c17 c18 c20 (fun y0 y1 y2 => J 103 (A c10 c12 c14 c17 c18 c20 n J 103 []) (s103 y0 y1 y2)) a0 a1 := by kernel_rfl
theorem e103 {c10 c12 c14 c17 c18 c20 n J x0 x1 x2} : A c10 c12 c14 c17 c18 c20 n J 103 [] (s103 x0 x1 x2) = b103 c10 c12 c14 c17 c18 c20 x0 x1 x2 := by kernel_rfl
noncomputable abbrev I (n : Nat) := A abacusref05_anyNaN.f abacusref05_infinite.f abacusref05_negative.f (abacusref05_rounded.f n) (abacusref05_sum.f n) abacusref05_of.f n idJ
theorem q103 (n x0 x1 x2) : I n 103 [] (s103 x0 x1 x2) = l103 n x0 x1 x2 := e103
theorem ok {n  a0 a1 r} (h : f n a0 a1 = some r) : CallD Tryd.prog HW 16 [.int .u64 a0, .int .u64 a1] (sg.enc r) :=
  fun_some hwS Tryd.func16 (by kernel_rfl) (body := code) (by kernel_rfl) tys_ok (c := cfg abacusref05_anyNaN.f abacusref05_infinite.f abacusref05_negative.f (abacusref05_rounded.f n) (abacusref05_sum.f n) abacusref05_of.f) (orCall_ok abacusref05_anyNaN.call_ok (orCall_ok abacusref05_infinite.call_ok (orCall_ok abacusref05_negative.call_ok (orCall_ok (abacusref05_rounded.call_ok (n := n)) (orCall_ok (abacusref05_sum.call_ok (n := n)) (orCall_ok abacusref05_of.call_ok noCall_ok)))))) noW_ok (by kernel_rfl) (by kernel_rfl) (Nat.le_of_ble_eq_true (by kernel_rfl)) (Eq.trans ((e0 (n := n)).trans (Eq.trans (cf2 (congrArg (b0 _ _ _ _ _ _) (fu3 (q103 n))) _ _) rfl)) h)
noncomputable def call {α : Type} (g : T13) (ds : List D) (K : List D→Ω α) : Ω α := match ds with
  | [.int .u64 a0, .int .u64 a1] => (g a0 a1).bind fun r => K (sg.enc r)
  | _ => none
theorem call_ok {α : Type} {n : Nat} : COK Tryd.prog HW 16 (call (α := α) (f n)) := fun _ _ _ h => by
  unfold call at h; split at h
  · exact cok h fun _ => ok
  · cases h
end abacusref05_Add
/-! ### abacusref05_Fma: function 6 -/
namespace abacusref05_Fma
noncomputable def b0 (c10 : T19) (c11 c12 : T3) (c13 : T15) (c14 : T3) (c15 c16 : T13) (c17 : T20) (c18 c19 : T9) (c20 : T16) (k29 : Int→Int→Int→Bool→Ω (Int)) (a0 a1 a2 : Int) : Ω (Int) := ((c10 a0 a1).bind fun t1 => (if t1 = true then some 9221120237041090560 else ((c11 a2).bind fun t2 => (if t2 = true then some 9221120237041090560 else ((c12 a0).bind fun t3 => (if t3 = true then k29 a0 a1 a2 true else ((c12 a1).bind fun t4 => (if t4 = true then k29 a0 a1 a2 true else ((c12 a2).bind fun t5 => k29 a0 a1 a2 t5)))))))))
noncomputable def b15 (c10 : T19) (c11 c12 : T3) (c13 : T15) (c14 : T3) (c15 c16 : T13) (c17 : T20) (c18 c19 : T9) (c20 : T16) (x0 x1 x2 : Int) : Ω (Int) := ((c20 x0).bind fun t1 => ((c20 x1).bind fun t2 => ((c19 t1.1 t1.2.1 t1.2.2.1 t1.2.2.2 t2.1 t2.2.1 t2.2.2.1 t2.2.2.2).bind fun t3 => ((c20 x2).bind fun t4 => ((c18 t3.1 t3.2.1 t3.2.2.1 t3.2.2.2 t4.1 t4.2.1 t4.2.2.1 t4.2.2.2).bind fun t5 => ((c17 t5.1 t5.2.1 t5.2.2.1 t5.2.2.2).bind fun t6 => some t6))))))
noncomputable def b29 (c10 : T19) (c11 c12 : T3) (c13 : T15) (c14 : T3) (c15 c16 : T13) (c17 : T20) (c18 c19 : T9) (c20 : T16) (k15 : T24) (k235 : T13) (x0 x1 x2 : Int) (x3 : Bool) : Ω (Int) := (if x3 = true then ((c14 x0).bind fun t1 => ((c14 x1).bind fun t2 => ((c13 (t1 != t2) 0).bind fun t3 => ((c12 x0).bind fun t4 => (if t4 = true then ((c15 x0 x1).bind fun t6 => k235 x2 t6) else ((c12 x1).bind fun t5 => (if t5 = true then ((c15 x0 x1).bind fun t7 => k235 x2 t7) else k235 x2 t3))))))) else k15 x0 x1 x2)
noncomputable def b235 (c10 : T19) (c11 c12 : T3) (c13 : T15) (c14 : T3) (c15 c16 : T13) (c17 : T20) (c18 c19 : T9) (c20 : T16) (x0 x1 : Int) : Ω (Int) := ((c16 x1 x0).bind fun t1 => some t1)
noncomputable def l15 (n : Nat) (x0 x1 x2 : Int) : Ω (Int) := b15 abacusref05_anyNaN.f abacusref04_IsNaN.f abacusref05_infinite.f abacusref05_signed.f abacusref05_negative.f (abacusref05_Mul.f n) (abacusref05_Add.f n) (abacusref05_rounded.f n) (abacusref05_sum.f n) (abacusref05_product.f n) abacusref05_of.f x0 x1 x2
noncomputable def l235 (n : Nat) (x0 x1 : Int) : Ω (Int) := b235 abacusref05_anyNaN.f abacusref04_IsNaN.f abacusref05_infinite.f abacusref05_signed.f abacusref05_negative.f (abacusref05_Mul.f n) (abacusref05_Add.f n) (abacusref05_rounded.f n) (abacusref05_sum.f n) (abacusref05_product.f n) abacusref05_of.f x0 x1
noncomputable def l29 (n : Nat) (x0 x1 x2 : Int) (x3 : Bool) : Ω (Int) := b29 abacusref05_anyNaN.f abacusref04_IsNaN.f abacusref05_infinite.f abacusref05_signed.f abacusref05_negative.f (abacusref05_Mul.f n) (abacusref05_Add.f n) (abacusref05_rounded.f n) (abacusref05_sum.f n) (abacusref05_product.f n) abacusref05_of.f (l15 n) (l235 n) x0 x1 x2 x3
noncomputable def f (n : Nat) (a0 a1 a2 : Int) : Ω (Int) := b0 abacusref05_anyNaN.f abacusref04_IsNaN.f abacusref05_infinite.f abacusref05_signed.f abacusref05_negative.f (abacusref05_Mul.f n) (abacusref05_Add.f n) (abacusref05_rounded.f n) (abacusref05_sum.f n) (abacusref05_product.f n) abacusref05_of.f (l29 n) a0 a1 a2
noncomputable def sg : Sig (Int) := s1 (sInt .u64)
noncomputable def code : Code := (Tryd.f6.body).getD .skip
noncomputable def cfg (c10 : T19) (c11 c12 : T3) (c13 : T15) (c14 : T3) (c15 c16 : T13) (c17 : T20) (c18 c19 : T9) (c20 : T16) : Cfg (Int) := { T := tys, call := orCall 10 (abacusref05_anyNaN.call c10) (orCall 11 (abacusref04_IsNaN.call c11) (orCall 12 (abacusref05_infinite.call c12) (orCall 13 (abacusref05_signed.call c13) (orCall 14 (abacusref05_negative.call c14) (orCall 15 (abacusref05_Mul.call c15) (orCall 16 (abacusref05_Add.call c16) (orCall 17 (abacusref05_rounded.call c17) (orCall 18 (abacusref05_sum.call c18) (orCall 19 (abacusref05_product.call c19) (orCall 20 (abacusref05_of.call c20) (noCall))))))))))) }
noncomputable def cuts : List (Nat × List (Nat × Want)) := [(15, [(0, .keep), (1, .keep), (2, .keep)]), (29, [(0, .keep), (1, .keep), (2, .keep), (24, .keep)]), (235, [(2, .keep), (7, .keep)])]
noncomputable def s15 (x0 x1 x2 : Int) : ASt := ⟨[(0, .int .u64 x0), (1, .int .u64 x1), (2, .int .u64 x2)], []⟩
noncomputable def s29 (x0 x1 x2 : Int) (x3 : Bool) : ASt := ⟨[(0, .int .u64 x0), (1, .int .u64 x1), (2, .int .u64 x2), (24, .bool x3)], []⟩
noncomputable def s235 (x0 x1 : Int) : ASt := ⟨[(2, .int .u64 x0), (7, .int .u64 x1)], []⟩
noncomputable def A (c10 : T19) (c11 c12 : T3) (c13 : T15) (c14 : T3) (c15 c16 : T13) (c17 : T20) (c18 c19 : T9) (c20 : T16) (n : Nat) (J : Jt (Int)) (q : Nat) (ms : List Nat) : ASt→Ω (Int) := acont (cfg c10 c11 c12 c13 c14 c15 c16 c17 c18 c19 c20) J cuts n q code 1 ms (aend (cfg c10 c11 c12 c13 c14 c15 c16 c17 c18 c19 c20) Tryd.f6.results.toList [false] sg.out)
theorem e0 {c10 c11 c12 c13 c14 c15 c16 c17 c18 c19 c20 n J a0 a1 a2} : afun (cfg c10 c11 c12 c13 c14 c15 c16 c17 c18 c19 c20) J cuts n code Tryd.f6.results.toList [false] [.int .u64 a0, .int .u64 a1, .int .u64 a2] sg.out = b0 c10 c11 c12 c13 c14 c15 c16 c17 c18 c19 c20 (fun y0 y1 y2 y3 => J 29 (A c10 c11 c12 c13 c14 c15 c16 c17 c18 c19 c20 n J 29 []) (s29 y0 y1 y2 y3)) a0 a1 a2 := by kernel_rfl
theorem e15 {c10 c11 c12 c13 c14 c15 c16 c17 c18 c19 c20 n J x0 x1 x2} : A c10 c11 c12 c13 c14 c15 c16 c17 c18 c19 c20 n J 15 [] (s15 x0 x1 x2) = b15 c10 c11 c12 c13 c14 c15 c16 c17 c18 c19 c20 x0 x1 x2 := by kernel_rfl
theorem e29 {c10 c11 c12 c13 c14 c15 c16 c17 c18 c19 c20 n J x0 x1 x2 x3} : A c10 c11 c12 c13 c14 c15 c16 c17 c18 c19 c20 n J 29 [] (s29 x0 x1 x2 x3) = b29 c10 c11 c12 c13 c14 c15 c16 c17 c18 c19 c20 (fun y0 y1 y2 => J 15 (A c10 c11 c12 c13 c14 c15 c16 c17 c18 c19 c20 n J 15 []) (s15 y0 y1 y2)) (fun y0 y1 => J 235 (A c10 c11 c12 c13 c14 c15 c16 c17 c18 c19 c20 n J 235 []) (s235 y0 y1)) x0 x1 x2 x3 := by kernel_rfl
theorem e235 {c10 c11 c12 c13 c14 c15 c16 c17 c18 c19 c20 n J x0 x1} : A c10 c11 c12 c13 c14 c15 c16 c17 c18 c19 c20 n J 235 [] (s235 x0 x1) = b235 c10 c11 c12 c13 c14 c15 c16 c17 c18 c19 c20 x0 x1 := by kernel_rfl
noncomputable abbrev I (n : Nat) := A abacusref05_anyNaN.f abacusref04_IsNaN.f abacusref05_infinite.f abacusref05_signed.f abacusref05_negative.f (abacusref05_Mul.f n) (abacusref05_Add.f n) (abacusref05_rounded.f n) (abacusref05_sum.f n) (abacusref05_product.f n) abacusref05_of.f n idJ
theorem q15 (n x0 x1 x2) : I n 15 [] (s15 x0 x1 x2) = l15 n x0 x1 x2 := e15
theorem q235 (n x0 x1) : I n 235 [] (s235 x0 x1) = l235 n x0 x1 := e235
theorem q29 (n x0 x1 x2 x3) : I n 29 [] (s29 x0 x1 x2 x3) = l29 n x0 x1 x2 x3 := e29.trans (Eq.trans (cf4 (congr (congrArg (b29 _ _ _ _ _ _ _ _ _ _ _) (fu3 (q15 n))) (fu2 (q235 n))) _ _ _ _) rfl)
theorem ok {n  a0 a1 a2 r} (h : f n a0 a1 a2 = some r) : CallD Tryd.prog HW 6 [.int .u64 a0, .int .u64 a1, .int .u64 a2] (sg.enc r) :=
  fun_some hwS Tryd.func6 (by kernel_rfl) (body := code) (by kernel_rfl) tys_ok (c := cfg abacusref05_anyNaN.f abacusref04_IsNaN.f abacusref05_infinite.f abacusref05_signed.f abacusref05_negative.f (abacusref05_Mul.f n) (abacusref05_Add.f n) (abacusref05_rounded.f n) (abacusref05_sum.f n) (abacusref05_product.f n) abacusref05_of.f) (orCall_ok abacusref05_anyNaN.call_ok (orCall_ok abacusref04_IsNaN.call_ok (orCall_ok abacusref05_infinite.call_ok (orCall_ok abacusref05_signed.call_ok (orCall_ok abacusref05_negative.call_ok (orCall_ok (abacusref05_Mul.call_ok (n := n)) (orCall_ok (abacusref05_Add.call_ok (n := n)) (orCall_ok (abacusref05_rounded.call_ok (n := n)) (orCall_ok (abacusref05_sum.call_ok (n := n)) (orCall_ok (abacusref05_product.call_ok (n := n)) (orCall_ok abacusref05_of.call_ok noCall_ok))))))))))) noW_ok (by kernel_rfl) (by kernel_rfl) (Nat.le_of_ble_eq_true (by kernel_rfl)) (Eq.trans ((e0 (n := n)).trans (Eq.trans (cf3 (congrArg (b0 _ _ _ _ _ _ _ _ _ _ _) (fu4 (q29 n))) _ _ _) rfl)) h)
noncomputable def call {α : Type} (g : T24) (ds : List D) (K : List D→Ω α) : Ω α := match ds with
  | [.int .u64 a0, .int .u64 a1, .int .u64 a2] => (g a0 a1 a2).bind fun r => K (sg.enc r)
  | _ => none
theorem call_ok {α : Type} {n : Nat} : COK Tryd.prog HW 6 (call (α := α) (f n)) := fun _ _ _ h => by
  unfold call at h; split at h
  · exact cok h fun _ => ok
  · cases h
end abacusref05_Fma
/-! ### abacusref02_Top: function 46 -/
namespace abacusref02_Top
noncomputable def b0 (k57 : T10) (l0 : Λ) : Ω (Int) := k57 l0 (ln l0)
noncomputable def b57 (k57 : T10) (x0 : Λ) (x1 : Int) : Ω (Int) := (if x1 > 0 then (if 0 ≤ (wrap64 (x1 - 1)) then (if (wrap64 (x1 - 1)) < (ln x0) then (if (rd x0 (wrap64 (x1 - 1))) = 0 then k57 x0 (wrap64 (x1 - 1)) else some x1) else none) else none) else some x1)
noncomputable def l57 (n : Nat) : Nat→Λ→Int→Ω (Int)
  | 0, _, _ => none
  | m + 1, x0, x1 => b57 (l57 n m) x0 x1
noncomputable def f (n : Nat) (l0 : Λ) : Ω (Int) := b0 (l57 n n) l0
noncomputable def sg : Sig (Int) := s1 (sInt .i64)
noncomputable def code : Code := (Tryd.f46.body).getD .skip
noncomputable def cfg : Cfg (Int) := { T := tys, call := noCall }
noncomputable def cuts : List (Nat × List (Nat × Want)) := [(57, [(0, .keep), (3, .keep)])]
noncomputable def s57 (x0 : Λ) (x1 : Int) : ASt := ⟨[(0, .ro .u64 x0), (3, .int .i64 x1)], []⟩
noncomputable def A (n : Nat) (J : Jt (Int)) (q : Nat) (ms : List Nat) : ASt→Ω (Int) := acont cfg J cuts n q code 1 ms (aend cfg Tryd.f46.results.toList [false] sg.out)
theorem e0 {n J l0} : afun cfg J cuts n code Tryd.f46.results.toList [false] [.ro .u64 l0] sg.out = b0 (fun y0 y1 => J 57 (A n J 57 [n]) (s57 y0 y1)) l0 := by kernel_rfl
theorem e57 {n J m x0 x1} : A n J 57 [m + 1] (s57 x0 x1) = b57 (fun y0 y1 => J 57 (A n J 57 [m]) (s57 y0 y1)) x0 x1 := by kernel_rfl
noncomputable abbrev I (n : Nat) := A n idJ
theorem q57 (n m) : ∀ x0 x1, I n 57 [m] (s57 x0 x1) = l57 n m x0 x1 := by
  induction m with
  | zero => intros; rfl
  | succ m ih =>
    intros
    exact e57.trans (Eq.trans (cf2 (congrArg b57 (fu2 (ih))) _ _) rfl)
theorem ok {n  l0 r} (h : f n l0 = some r) : CallD Tryd.prog HW 46 [.ro .u64 l0] (sg.enc r) :=
  fun_some hwS Tryd.func46 (by kernel_rfl) (body := code) (by kernel_rfl) tys_ok (c := cfg) noCall_ok noW_ok (by kernel_rfl) (by kernel_rfl) (Nat.le_of_ble_eq_true (by kernel_rfl)) (Eq.trans ((e0 (n := n)).trans (Eq.trans (cf1 (congrArg b0 (fu2 (q57 n n))) _) rfl)) h)
noncomputable def call {α : Type} (g : T0) (ds : List D) (K : List D→Ω α) : Ω α := match ds with
  | [.ro .u64 l0] => (g l0).bind fun r => K (sg.enc r)
  | _ => none
theorem call_ok {α : Type} {n : Nat} : COK Tryd.prog HW 46 (call (α := α) (f n)) := fun _ _ _ h => by
  unfold call at h; split at h
  · exact cok h fun _ => ok
  · cases h
end abacusref02_Top
/-! ### abacusref02_doubled: function 48 -/
namespace abacusref02_doubled
noncomputable def b0 (k245 : T42) (l0 : Λ) (a1 : Int) : Ω (Λ) := (if 0 ≤ (wrap64 ((ln l0) + 1)) then (if (wrap64 ((ln l0) + 1)).toNat ≤ 35184372088832 then k245 l0 a1 0 (List.replicate (wrap64 ((ln l0) + 1)).toNat (0 : Int)) else none) else none)
noncomputable def b245 (k245 : T42) (x0 : Λ) (x1 x2 : Int) (x3 : Λ) : Ω (Λ) := (if x2 < (ln x0) then (if 0 ≤ x2 then (if x2 < (ln x0) then (if 0 ≤ x2 then (if x2 < (ln x3) then (if 0 ≤ x2 then (if x2 < (ln x0) then k245 x0 ((rd x0 x2) / 9223372036854775808) (wrap64 (x2 + 1)) (x3.set (x2 : Int).toNat (Go.bits .or .u64 (IntKind.u64.wrap ((rd x0 x2) * 2)) x1)) else none) else none) else none) else none) else none) else none) else (if 0 ≤ (ln x0) then (if (ln x0) < (ln x3) then some (x3.set ((ln x0) : Int).toNat x1) else none) else none))
noncomputable def l245 (n : Nat) : Nat→Λ→Int→Int→Λ→Ω (Λ)
  | 0, _, _, _, _ => none
  | m + 1, x0, x1, x2, x3 => b245 (l245 n m) x0 x1 x2 x3
noncomputable def f (n : Nat) (l0 : Λ) (a1 : Int) : Ω (Λ) := b0 (l245 n n) l0 a1
noncomputable def sg : Sig (Λ) := s1 (sRow .u64)
noncomputable def code : Code := (Tryd.f48.body).getD .skip
noncomputable def cfg : Cfg (Λ) := { T := tys, call := noCall }
noncomputable def cuts : List (Nat × List (Nat × Want)) := [(245, [(0, .keep), (5, .keep), (6, .keep), (7, .keep)])]
noncomputable def s245 (x0 : Λ) (x1 x2 : Int) (x3 : Λ) : ASt := ⟨[(0, .ro .u64 x0), (5, .own 0), (6, .int .u64 x1), (7, .int .i64 x2)], [.ints 23 .u64 x3]⟩
noncomputable def A (n : Nat) (J : Jt (Λ)) (q : Nat) (ms : List Nat) : ASt→Ω (Λ) := acont cfg J cuts n q code 1 ms (aend cfg Tryd.f48.results.toList [false] sg.out)
theorem e0 {n J l0 a1} : afun cfg J cuts n code Tryd.f48.results.toList [false] [.ro .u64 l0, .int .u64 a1] sg.out = b0 (fun y0 y1 y2 y3 => J 245 (A n J 245 [n]) (s245 y0 y1 y2 y3)) l0 a1 := by kernel_rfl
theorem e245 {n J m x0 x1 x2 x3} : A n J 245 [m + 1] (s245 x0 x1 x2 x3) = b245 (fun y0 y1 y2 y3 => J 245 (A n J 245 [m]) (s245 y0 y1 y2 y3)) x0 x1 x2 x3 := by kernel_rfl
noncomputable abbrev I (n : Nat) := A n idJ
theorem q245 (n m) : ∀ x0 x1 x2 x3, I n 245 [m] (s245 x0 x1 x2 x3) = l245 n m x0 x1 x2 x3 := by
  induction m with
  | zero => intros; rfl
  | succ m ih =>
    intros
    exact e245.trans (Eq.trans (cf4 (congrArg b245 (fu4 (ih))) _ _ _ _) rfl)
theorem ok {n  l0 a1 r} (h : f n l0 a1 = some r) : CallD Tryd.prog HW 48 [.ro .u64 l0, .int .u64 a1] (sg.enc r) :=
  fun_some hwS Tryd.func48 (by kernel_rfl) (body := code) (by kernel_rfl) tys_ok (c := cfg) noCall_ok noW_ok (by kernel_rfl) (by kernel_rfl) (Nat.le_of_ble_eq_true (by kernel_rfl)) (Eq.trans ((e0 (n := n)).trans (Eq.trans (cf2 (congrArg b0 (fu4 (q245 n n))) _ _) rfl)) h)
noncomputable def call {α : Type} (g : T8) (ds : List D) (K : List D→Ω α) : Ω α := match ds with
  | [.ro .u64 l0, .int .u64 a1] => (g l0 a1).bind fun r => K (sg.enc r)
  | _ => none
theorem call_ok {α : Type} {n : Nat} : COK Tryd.prog HW 48 (call (α := α) (f n)) := fun _ _ _ h => by
  unfold call at h; split at h
  · exact cok h fun _ => ok
  · cases h
end abacusref02_doubled
/-! ### abacusref02_Short: function 47 -/
namespace abacusref02_Short
noncomputable def b0 (c46 : T0) (k245 : T42) (l0 : Λ) : Ω (Λ) := ((c46 l0).bind fun t1 => (if 0 ≤ t1 then (if t1.toNat ≤ 35184372088832 then k245 l0 t1 0 (List.replicate t1.toNat (0 : Int)) else none) else none))
noncomputable def b245 (c46 : T0) (k245 : T42) (x0 : Λ) (x1 x2 : Int) (x3 : Λ) : Ω (Λ) := (if x2 < x1 then (if 0 ≤ x2 then (if x2 < (ln x0) then (if 0 ≤ x2 then (if x2 < (ln x3) then k245 x0 x1 (wrap64 (x2 + 1)) (x3.set (x2 : Int).toNat (rd x0 x2)) else none) else none) else none) else none) else some x3)
noncomputable def l245 (n : Nat) : Nat→Λ→Int→Int→Λ→Ω (Λ)
  | 0, _, _, _, _ => none
  | m + 1, x0, x1, x2, x3 => b245 (abacusref02_Top.f n) (l245 n m) x0 x1 x2 x3
noncomputable def f (n : Nat) (l0 : Λ) : Ω (Λ) := b0 (abacusref02_Top.f n) (l245 n n) l0
noncomputable def sg : Sig (Λ) := s1 (sOwn 23 .u64)
noncomputable def code : Code := (Tryd.f47.body).getD .skip
noncomputable def cfg (c46 : T0) : Cfg (Λ) := { T := tys, call := orCall 46 (abacusref02_Top.call c46) (noCall) }
noncomputable def cuts : List (Nat × List (Nat × Want)) := [(245, [(0, .keep), (3, .keep), (4, .keep), (5, .keep)])]
noncomputable def s245 (x0 : Λ) (x1 x2 : Int) (x3 : Λ) : ASt := ⟨[(0, .ro .u64 x0), (3, .int .i64 x1), (4, .own 0), (5, .int .i64 x2)], [.ints 23 .u64 x3]⟩
noncomputable def A (c46 : T0) (n : Nat) (J : Jt (Λ)) (q : Nat) (ms : List Nat) : ASt→Ω (Λ) := acont (cfg c46) J cuts n q code 1 ms (aend (cfg c46) Tryd.f47.results.toList [true] sg.out)
theorem e0 {c46 n J l0} : afun (cfg c46) J cuts n code Tryd.f47.results.toList [true] [.ro .u64 l0] sg.out = b0 c46 (fun y0 y1 y2 y3 => J 245 (A c46 n J 245 [n]) (s245 y0 y1 y2 y3)) l0 := by kernel_rfl
theorem e245 {c46 n J m x0 x1 x2 x3} : A c46 n J 245 [m + 1] (s245 x0 x1 x2 x3) = b245 c46 (fun y0 y1 y2 y3 => J 245 (A c46 n J 245 [m]) (s245 y0 y1 y2 y3)) x0 x1 x2 x3 := by kernel_rfl
noncomputable abbrev I (n : Nat) := A (abacusref02_Top.f n) n idJ
theorem q245 (n m) : ∀ x0 x1 x2 x3, I n 245 [m] (s245 x0 x1 x2 x3) = l245 n m x0 x1 x2 x3 := by
  induction m with
  | zero => intros; rfl
  | succ m ih =>
    intros
    exact e245.trans (Eq.trans (cf4 (congrArg (b245 _) (fu4 (ih))) _ _ _ _) rfl)
theorem ok {n  l0 r} (h : f n l0 = some r) : CallD Tryd.prog HW 47 [.ro .u64 l0] (sg.enc r) :=
  fun_some hwS Tryd.func47 (by kernel_rfl) (body := code) (by kernel_rfl) tys_ok (c := cfg (abacusref02_Top.f n)) (orCall_ok (abacusref02_Top.call_ok (n := n)) noCall_ok) noW_ok (by kernel_rfl) (by kernel_rfl) (Nat.le_of_ble_eq_true (by kernel_rfl)) (Eq.trans ((e0 (n := n)).trans (Eq.trans (cf1 (congrArg (b0 _) (fu4 (q245 n n))) _) rfl)) h)
noncomputable def call {α : Type} (g : T1) (ds : List D) (K : List D→Ω α) : Ω α := match ds with
  | [.ro .u64 l0] => (g l0).bind fun r => K (sg.enc r)
  | _ => none
theorem call_ok {α : Type} {n : Nat} : COK Tryd.prog HW 47 (call (α := α) (f n)) := fun _ _ _ h => by
  unfold call at h; split at h
  · exact cok h fun _ => ok
  · cases h
end abacusref02_Short
/-! ### abacusref02_Order: function 49 -/
namespace abacusref02_Order
noncomputable def b0 (c46 : T0) (k1013 : T38) (l0 l1 : Λ) : Ω (Int) := ((c46 l0).bind fun t1 => ((c46 l1).bind fun t2 => (if t1 < t2 then some (-1) else (if t1 > t2 then some 1 else k1013 l0 l1 (wrap64 (t1 - 1))))))
noncomputable def b1013 (c46 : T0) (k1013 : T38) (x0 x1 : Λ) (x2 : Int) : Ω (Int) := (if x2 ≥ 0 then (if 0 ≤ x2 then (if x2 < (ln x0) then (if 0 ≤ x2 then (if x2 < (ln x1) then (if (rd x0 x2) < (rd x1 x2) then some (-1) else (if 0 ≤ x2 then (if x2 < (ln x0) then (if 0 ≤ x2 then (if x2 < (ln x1) then (if (rd x0 x2) > (rd x1 x2) then some 1 else k1013 x0 x1 (wrap64 (x2 - 1))) else none) else none) else none) else none)) else none) else none) else none) else none) else some 0)
noncomputable def l1013 (n : Nat) : Nat→Λ→Λ→Int→Ω (Int)
  | 0, _, _, _ => none
  | m + 1, x0, x1, x2 => b1013 (abacusref02_Top.f n) (l1013 n m) x0 x1 x2
noncomputable def f (n : Nat) (l0 l1 : Λ) : Ω (Int) := b0 (abacusref02_Top.f n) (l1013 n n) l0 l1
noncomputable def sg : Sig (Int) := s1 (sInt .i64)
noncomputable def code : Code := (Tryd.f49.body).getD .skip
noncomputable def cfg (c46 : T0) : Cfg (Int) := { T := tys, call := orCall 46 (abacusref02_Top.call c46) (noCall) }
noncomputable def cuts : List (Nat × List (Nat × Want)) := [(1013, [(0, .keep), (1, .keep), (7, .keep)])]
noncomputable def s1013 (x0 x1 : Λ) (x2 : Int) : ASt := ⟨[(0, .ro .u64 x0), (1, .ro .u64 x1), (7, .int .i64 x2)], []⟩
noncomputable def A (c46 : T0) (n : Nat) (J : Jt (Int)) (q : Nat) (ms : List Nat) : ASt→Ω (Int) := acont (cfg c46) J cuts n q code 1 ms (aend (cfg c46) Tryd.f49.results.toList [false] sg.out)
theorem e0 {c46 n J l0 l1} : afun (cfg c46) J cuts n code Tryd.f49.results.toList [false] [.ro .u64 l0, .ro .u64 l1] sg.out = b0 c46 (fun y0 y1 y2 => J 1013 (A c46 n J 1013 [n]) (s1013 y0 y1 y2)) l0 l1 := by kernel_rfl
theorem e1013 {c46 n J m x0 x1 x2} : A c46 n J 1013 [m + 1] (s1013 x0 x1 x2) = b1013 c46 (fun y0 y1 y2 => J 1013 (A c46 n J 1013 [m]) (s1013 y0 y1 y2)) x0 x1 x2 := by kernel_rfl
noncomputable abbrev I (n : Nat) := A (abacusref02_Top.f n) n idJ
theorem q1013 (n m) : ∀ x0 x1 x2, I n 1013 [m] (s1013 x0 x1 x2) = l1013 n m x0 x1 x2 := by
  induction m with
  | zero => intros; rfl
  | succ m ih =>
    intros
    exact e1013.trans (Eq.trans (cf3 (congrArg (b1013 _) (fu3 (ih))) _ _ _) rfl)
theorem ok {n  l0 l1 r} (h : f n l0 l1 = some r) : CallD Tryd.prog HW 49 [.ro .u64 l0, .ro .u64 l1] (sg.enc r) :=
  fun_some hwS Tryd.func49 (by kernel_rfl) (body := code) (by kernel_rfl) tys_ok (c := cfg (abacusref02_Top.f n)) (orCall_ok (abacusref02_Top.call_ok (n := n)) noCall_ok) noW_ok (by kernel_rfl) (by kernel_rfl) (Nat.le_of_ble_eq_true (by kernel_rfl)) (Eq.trans ((e0 (n := n)).trans (Eq.trans (cf2 (congrArg (b0 _) (fu3 (q1013 n n))) _ _) rfl)) h)
noncomputable def call {α : Type} (g : T6) (ds : List D) (K : List D→Ω α) : Ω α := match ds with
  | [.ro .u64 l0, .ro .u64 l1] => (g l0 l1).bind fun r => K (sg.enc r)
  | _ => none
theorem call_ok {α : Type} {n : Nat} : COK Tryd.prog HW 49 (call (α := α) (f n)) := fun _ _ _ h => by
  unfold call at h; split at h
  · exact cok h fun _ => ok
  · cases h
end abacusref02_Order
/-! ### abacusref02_takeOff: function 50 -/
namespace abacusref02_takeOff
noncomputable def b0 (k29 : T60) (l0 : Λ) (a1 : Int) (l2 : Λ) : Ω (Λ × Unit) := k29 a1 l2 0 0 l0
noncomputable def b29 (k3663 : Int→Λ→Int→Int→Int→Λ→Ω (Λ × Unit)) (x0 : Int) (x1 : Λ) (x2 x3 : Int) (x4 : Λ) : Ω (Λ × Unit) := (if x3 < (ln x1) then (if 0 ≤ (wrap64 (x0 + x3)) then (if (wrap64 (x0 + x3)) < (ln x4) then (if 0 ≤ x3 then (if x3 < (ln x1) then (if (rd x4 (wrap64 (x0 + x3))) < (rd x1 x3) then k3663 x0 x1 1 x3 (IntKind.u64.wrap ((IntKind.u64.wrap ((rd x4 (wrap64 (x0 + x3))) - (rd x1 x3))) - x2)) x4 else (if (rd x4 (wrap64 (x0 + x3))) = (rd x1 x3) then (if x2 = 1 then k3663 x0 x1 1 x3 (IntKind.u64.wrap ((IntKind.u64.wrap ((rd x4 (wrap64 (x0 + x3))) - (rd x1 x3))) - x2)) x4 else k3663 x0 x1 0 x3 (IntKind.u64.wrap ((IntKind.u64.wrap ((rd x4 (wrap64 (x0 + x3))) - (rd x1 x3))) - x2)) x4) else k3663 x0 x1 0 x3 (IntKind.u64.wrap ((IntKind.u64.wrap ((rd x4 (wrap64 (x0 + x3))) - (rd x1 x3))) - x2)) x4)) else none) else none) else none) else none) else some (x4, ()))
noncomputable def b3663 (k29 : T60) (x0 : Int) (x1 : Λ) (x2 x3 x4 : Int) (x5 : Λ) : Ω (Λ × Unit) := (if 0 ≤ (wrap64 (x0 + x3)) then (if (wrap64 (x0 + x3)) < (ln x5) then k29 x0 x1 x2 (wrap64 (x3 + 1)) (x5.set (wrap64 (x0 + x3) : Int).toNat x4) else none) else none)
noncomputable def l3663 (n : Nat) (k29 : T60) (x0 : Int) (x1 : Λ) (x2 x3 x4 : Int) (x5 : Λ) : Ω (Λ × Unit) := b3663 k29 x0 x1 x2 x3 x4 x5
noncomputable def l29 (n : Nat) : Nat→Int→Λ→Int→Int→Λ→Ω (Λ × Unit)
  | 0, _, _, _, _, _ => none
  | m + 1, x0, x1, x2, x3, x4 => b29 (l3663 n (l29 n m)) x0 x1 x2 x3 x4
noncomputable def f (n : Nat) (l0 : Λ) (a1 : Int) (l2 : Λ) : Ω (Λ × Unit) := b0 (l29 n n) l0 a1 l2
noncomputable def sg : Sig (Unit) := s0
noncomputable def code : Code := (Tryd.f50.body).getD .skip
noncomputable def cfg : Cfg (Λ × Unit) := { T := tys, call := noCall }
noncomputable def cuts : List (Nat × List (Nat × Want)) := [(29, [(0, .keep), (1, .keep), (2, .keep), (6, .keep), (7, .keep)]), (3663, [(0, .keep), (1, .keep), (2, .keep), (6, .keep), (7, .keep), (10, .keep)])]
noncomputable def s29 (x0 : Int) (x1 : Λ) (x2 x3 : Int) (x4 : Λ) : ASt := ⟨[(0, .own 0), (1, .int .i64 x0), (2, .ro .u64 x1), (6, .int .u64 x2), (7, .int .i64 x3)], [.bor .u64 x4]⟩
noncomputable def s3663 (x0 : Int) (x1 : Λ) (x2 x3 x4 : Int) (x5 : Λ) : ASt := ⟨[(0, .own 0), (1, .int .i64 x0), (2, .ro .u64 x1), (6, .int .u64 x2), (7, .int .i64 x3), (10, .int .u64 x4)], [.bor .u64 x5]⟩
noncomputable def A (n : Nat) (J : Jt (Λ × Unit)) (q : Nat) (ms : List Nat) : ASt→Ω (Λ × Unit) := acont cfg J cuts n q code 1 ms (aendw cfg Tryd.f50.results.toList (sgw sg))
theorem e0 (n : Nat) (J : Jt (Λ × Unit)) (l0 : Λ) (a1 : Int) (l2 : Λ) : afunw cfg J cuts n code Tryd.f50.results.toList l0 [.int .i64 a1, .ro .u64 l2] (sgw sg) = b0 (fun y0 y1 y2 y3 y4 => J 29 (A n J 29 [n]) (s29 y0 y1 y2 y3 y4)) l0 a1 l2 := by kernel_rfl
theorem e29 (n : Nat) (J : Jt (Λ × Unit)) (m : Nat) (x0 : Int) (x1 : Λ) (x2 x3 : Int) (x4 : Λ) : A n J 29 [m + 1] (s29 x0 x1 x2 x3 x4) = b29 (fun y0 y1 y2 y3 y4 y5 => J 3663 (A n J 3663 [m]) (s3663 y0 y1 y2 y3 y4 y5)) x0 x1 x2 x3 x4 := by kernel_rfl
theorem e3663 (n : Nat) (J : Jt (Λ × Unit)) (m29 : Nat) (x0 : Int) (x1 : Λ) (x2 x3 x4 : Int) (x5 : Λ) : A n J 3663 [m29] (s3663 x0 x1 x2 x3 x4 x5) = b3663 (fun y0 y1 y2 y3 y4 => J 29 (A n J 29 [m29]) (s29 y0 y1 y2 y3 y4)) x0 x1 x2 x3 x4 x5 := by kernel_rfl
theorem q3663 (n m29 : Nat) (x0 : Int) (x1 : Λ) (x2 x3 x4 : Int) (x5 : Λ) : A n idJ 3663 [m29] (s3663 x0 x1 x2 x3 x4 x5) = l3663 n (fun y0 y1 y2 y3 y4 => A n idJ 29 [m29] (s29 y0 y1 y2 y3 y4)) x0 x1 x2 x3 x4 x5 := (e3663 n idJ m29 x0 x1 x2 x3 x4 x5).trans (rfl)
theorem q29 (n m : Nat) : ∀ (x0 : Int) (x1 : Λ) (x2 x3 : Int) (x4 : Λ), A n idJ 29 [m] (s29 x0 x1 x2 x3 x4) = l29 n m x0 x1 x2 x3 x4 := by
  induction m with
  | zero => intros; rfl
  | succ m ih =>
    intro x0 x1 x2 x3 x4
    refine (e29 n idJ m x0 x1 x2 x3 x4).trans ?_
    exact congrFun (congrFun (congrFun (congrFun (congrFun (congrArg b29 ((funext fun y0 => (funext fun y1 => (funext fun y2 => (funext fun y3 => (funext fun y4 => (funext fun y5 => q3663 n m y0 y1 y2 y3 y4 y5)))))).trans (by rw [show (fun y0 y1 y2 y3 y4 => A n idJ 29 [m] (s29 y0 y1 y2 y3 y4)) = _ from (funext fun y0 => (funext fun y1 => (funext fun y2 => (funext fun y3 => (funext fun y4 => ih y0 y1 y2 y3 y4)))))]))) x0) x1) x2) x3) x4
theorem eq (n : Nat) (l0 : Λ) (a1 : Int) (l2 : Λ) : afunw cfg idJ cuts n code Tryd.f50.results.toList l0 [.int .i64 a1, .ro .u64 l2] (sgw sg) = f n l0 a1 l2 := (e0 n idJ l0 a1 l2).trans (congrFun (congrFun (congrFun (congrArg b0 (funext fun y0 => (funext fun y1 => (funext fun y2 => (funext fun y3 => (funext fun y4 => q29 n n y0 y1 y2 y3 y4)))))) l0) a1) l2)
theorem ok {n : Nat} {l0 : Λ} {a1 : Int} {l2 : Λ} {r : Λ × Unit} (h : f n l0 a1 l2 = some r) : CallW Tryd.prog HW 50 l0 [.int .i64 a1, .ro .u64 l2] r.1 (sg.enc r.2) :=
  funw_some Tryd.func50 (by kernel_rfl) (body := code) (by kernel_rfl) tys_ok (c := cfg) noCall_ok noW_ok (by kernel_rfl) (by kernel_rfl) (Nat.le_of_ble_eq_true (by kernel_rfl)) ((eq n l0 a1 l2).trans h)
noncomputable def call {α : Type} (g : T32) (l0 : Λ) (ds : List D) (K : Λ→List D→Ω α) : Ω α := match ds with
  | [.int .i64 a1, .ro .u64 l2] => (g l0 a1 l2).bind fun r => K r.1 (sg.enc r.2)
  | _ => none
theorem call_ok {α : Type} {n : Nat} (l : Λ) (ds : List D) (K : Λ→List D→Ω α) (r : α) (h : call (f n) l ds K = some r) : ∃ l' rs, K l' rs = some r ∧ CallW Tryd.prog HW 50 l ds l' rs := by
  unfold call at h
  split at h
  · obtain ⟨x, hx, hk⟩ := Option.bind_eq_some_iff.1 h
    exact ⟨_, _, hk, ok (n := n) hx⟩
  · cases h
end abacusref02_takeOff
/-! ### abacusref02_Root: function 22 -/
namespace abacusref02_Root
noncomputable def b0 (c46 : T0) (c47 : T1) (c48 : T8) (c49 : T6) (c50 : T32) (k1013 : T47) (l0 : Λ) : Ω (Λ × Bool × Int) := ((c46 l0).bind fun t1 => (if t1 > 256 then some (([] : Λ), false, 2) else k1013 l0 (wrap64 ((wrap64 (32 * t1)) - 1)) ([] : Λ) ([] : Λ)))
noncomputable def b127 (c46 : T0) (c47 : T1) (c48 : T8) (c49 : T6) (c50 : T32) (x0 x1 : Λ) : Ω (Λ × Bool × Int) := ((c46 x1).bind fun t1 => some (x0, decide (t1 = 0), 0))
noncomputable def b1013 (c46 : T0) (c47 : T1) (c48 : T8) (c49 : T6) (c50 : T32) (k127 : T50) (k1013 : T47) (k2073841 : T61) (x0 : Λ) (x1 : Int) (x2 x3 : Λ) : Ω (Λ × Bool × Int) := (if x1 ≥ 0 then (if 0 ≤ (wrap64 (Int.tdiv x1 32)) then (if (wrap64 (Int.tdiv x1 32)) < (ln x0) then (if 0 ≤ (IntKind.u64.wrap (wrap64 (2 * (Int.tmod x1 32)))) then ((c48 x3 ((Go.bits .and .u64 (shr .u64 (rd x0 (wrap64 (Int.tdiv x1 32))) (IntKind.u64.wrap (wrap64 (2 * (Int.tmod x1 32))))) 3) / 2)).bind fun t1 => ((c48 t1 (Go.bits .and .u64 (Go.bits .and .u64 (shr .u64 (rd x0 (wrap64 (Int.tdiv x1 32))) (IntKind.u64.wrap (wrap64 (2 * (Int.tmod x1 32))))) 3) 1)).bind fun t2 => ((c47 t2).bind fun t3 => ((c48 x2 0).bind fun t4 => ((c48 t4 1).bind fun t5 => ((c47 t5).bind fun t6 => ((c49 t3 t6).bind fun t7 => (if t7 ≥ 0 then k2073841 x0 x1 x2 t3 t6 else ((c48 x2 0).bind fun t8 => ((c47 t8).bind fun t9 => k1013 x0 (wrap64 (x1 - 1)) t9 t3)))))))))) else none) else none) else none) else k127 x2 x3)
noncomputable def b518461 (c46 : T0) (c47 : T1) (c48 : T8) (c49 : T6) (c50 : T32) (k1013 : T47) (x0 : Λ) (x1 : Int) (x2 x3 x4 : Λ) : Ω (Λ × Bool × Int) := (if 0 < (ln x3) then ((c50 x3 0 x4).bind fun t1 => ((c47 t1.1).bind fun t2 => ((c48 x2 1).bind fun t3 => ((c47 t3).bind fun t4 => k1013 x0 (wrap64 (x1 - 1)) t4 t2)))) else none)
noncomputable def b2073841 (c46 : T0) (c47 : T1) (c48 : T8) (c49 : T6) (c50 : T32) (k518461 k2073841 : T61) (x0 : Λ) (x1 : Int) (x2 x3 x4 : Λ) : Ω (Λ × Bool × Int) := (if (ln x4) < (ln x3) then (if x4.length + 1 ≤ 17592186044416 then k2073841 x0 x1 x2 x3 (x4 ++ [0]) else none) else k518461 x0 x1 x2 x3 x4)
noncomputable def l127 (n : Nat) (x0 x1 : Λ) : Ω (Λ × Bool × Int) := b127 (abacusref02_Top.f n) (abacusref02_Short.f n) (abacusref02_doubled.f n) (abacusref02_Order.f n) (abacusref02_takeOff.f n) x0 x1
noncomputable def l518461 (n : Nat) (k1013 : T47) (x0 : Λ) (x1 : Int) (x2 x3 x4 : Λ) : Ω (Λ × Bool × Int) := b518461 (abacusref02_Top.f n) (abacusref02_Short.f n) (abacusref02_doubled.f n) (abacusref02_Order.f n) (abacusref02_takeOff.f n) k1013 x0 x1 x2 x3 x4
noncomputable def l2073841 (n : Nat) (k1013 : T47) : Nat→Λ→Int→Λ→Λ→Λ→Ω (Λ × Bool × Int)
  | 0, _, _, _, _, _ => none
  | m + 1, x0, x1, x2, x3, x4 => b2073841 (abacusref02_Top.f n) (abacusref02_Short.f n) (abacusref02_doubled.f n) (abacusref02_Order.f n) (abacusref02_takeOff.f n) (l518461 n k1013) (l2073841 n k1013 m) x0 x1 x2 x3 x4
noncomputable def l1013 (n : Nat) : Nat→Λ→Int→Λ→Λ→Ω (Λ × Bool × Int)
  | 0, _, _, _, _ => none
  | m + 1, x0, x1, x2, x3 => b1013 (abacusref02_Top.f n) (abacusref02_Short.f n) (abacusref02_doubled.f n) (abacusref02_Order.f n) (abacusref02_takeOff.f n) (l127 n) (l1013 n m) (l2073841 n (l1013 n m) n) x0 x1 x2 x3
noncomputable def f (n : Nat) (l0 : Λ) : Ω (Λ × Bool × Int) := b0 (abacusref02_Top.f n) (abacusref02_Short.f n) (abacusref02_doubled.f n) (abacusref02_Order.f n) (abacusref02_takeOff.f n) (l1013 n n) l0
noncomputable def sg : Sig (Λ × Bool × Int) := s2 (sRow .u64) (s2 (sBool) (s1 (sInt .i64)))
noncomputable def code : Code := (Tryd.f22.body).getD .skip
noncomputable def cfg (c46 : T0) (c47 : T1) (c48 : T8) (c49 : T6) (c50 : T32) : Cfg (Λ × Bool × Int) := { T := tys, call := orCall 46 (abacusref02_Top.call c46) (orCall 47 (abacusref02_Short.call c47) (orCall 48 (abacusref02_doubled.call c48) (orCall 49 (abacusref02_Order.call c49) (noCall)))), wr := [50], callw := orW 50 (abacusref02_takeOff.call c50) (noW) }
noncomputable def cuts : List (Nat × List (Nat × Want)) := [(127, [(6, .keep), (7, .keep)]), (1013, [(0, .keep), (6, .own 23 .u64), (7, .own 23 .u64), (8, .keep)]), (518461, [(0, .keep), (6, .keep), (7, .keep), (8, .keep), (10, .keep)]), (2073841, [(0, .keep), (6, .keep), (7, .keep), (8, .keep), (10, .keep)])]
noncomputable def s127 (x0 x1 : Λ) : ASt := ⟨[(6, .own 0), (7, .own 1)], [.ints 23 .u64 x0, .ints 23 .u64 x1]⟩
noncomputable def s1013 (x0 : Λ) (x1 : Int) (x2 x3 : Λ) : ASt := ⟨[(0, .ro .u64 x0), (6, .own 0), (7, .own 1), (8, .int .i64 x1)], [.ints 23 .u64 x2, .ints 23 .u64 x3]⟩
noncomputable def s518461 (x0 : Λ) (x1 : Int) (x2 x3 x4 : Λ) : ASt := ⟨[(0, .ro .u64 x0), (6, .own 0), (7, .own 1), (8, .int .i64 x1), (10, .own 2)], [.froz .u64 x2, .ints 23 .u64 x3, .ints 23 .u64 x4]⟩
noncomputable def s2073841 (x0 : Λ) (x1 : Int) (x2 x3 x4 : Λ) : ASt := ⟨[(0, .ro .u64 x0), (6, .own 0), (7, .own 1), (8, .int .i64 x1), (10, .own 2)], [.froz .u64 x2, .ints 23 .u64 x3, .ints 23 .u64 x4]⟩
noncomputable def A (c46 : T0) (c47 : T1) (c48 : T8) (c49 : T6) (c50 : T32) (n : Nat) (J : Jt (Λ × Bool × Int)) (q : Nat) (ms : List Nat) : ASt→Ω (Λ × Bool × Int) := acont (cfg c46 c47 c48 c49 c50) J cuts n q code 1 ms (aend (cfg c46 c47 c48 c49 c50) Tryd.f22.results.toList [false, false, false] sg.out)
theorem e0 {c46 c47 c48 c49 c50 n J l0} : afun (cfg c46 c47 c48 c49 c50) J cuts n code Tryd.f22.results.toList [false, false, false] [.ro .u64 l0] sg.out = b0 c46 c47 c48 c49 c50 (fun y0 y1 y2 y3 => J 1013 (A c46 c47 c48 c49 c50 n J 1013 [n]) (s1013 y0 y1 y2 y3)) l0 := by kernel_rfl
theorem e127 {c46 c47 c48 c49 c50 n J x0 x1} : A c46 c47 c48 c49 c50 n J 127 [] (s127 x0 x1) = b127 c46 c47 c48 c49 c50 x0 x1 := by kernel_rfl
theorem e1013 {c46 c47 c48 c49 c50 n J m x0 x1 x2 x3} : A c46 c47 c48 c49 c50 n J 1013 [m + 1] (s1013 x0 x1 x2 x3) = b1013 c46 c47 c48 c49 c50 (fun y0 y1 => J 127 (A c46 c47 c48 c49 c50 n J 127 []) (s127 y0 y1)) (fun y0 y1 y2 y3 => J 1013 (A c46 c47 c48 c49 c50 n J 1013 [m]) (s1013 y0 y1 y2 y3)) (fun y0 y1 y2 y3 y4 => J 2073841 (A c46 c47 c48 c49 c50 n J 2073841 [m, n]) (s2073841 y0 y1 y2 y3 y4)) x0 x1 x2 x3 := by kernel_rfl
theorem e518461 {c46 c47 c48 c49 c50 n J m1013 x0 x1 x2 x3 x4} : A c46 c47 c48 c49 c50 n J 518461 [m1013] (s518461 x0 x1 x2 x3 x4) = b518461 c46 c47 c48 c49 c50 (fun y0 y1 y2 y3 => J 1013 (A c46 c47 c48 c49 c50 n J 1013 [m1013]) (s1013 y0 y1 y2 y3)) x0 x1 x2 x3 x4 := by kernel_rfl
theorem e2073841 {c46 c47 c48 c49 c50 n J m1013 m x0 x1 x2 x3 x4} : A c46 c47 c48 c49 c50 n J 2073841 [m1013, m + 1] (s2073841 x0 x1 x2 x3 x4) = b2073841 c46 c47 c48 c49 c50 (fun y0 y1 y2 y3 y4 => J 518461 (A c46 c47 c48 c49 c50 n J 518461 [m1013]) (s518461 y0 y1 y2 y3 y4)) (fun y0 y1 y2 y3 y4 => J 2073841 (A c46 c47 c48 c49 c50 n J 2073841 [m1013, m]) (s2073841 y0 y1 y2 y3 y4)) x0 x1 x2 x3 x4 := by kernel_rfl
noncomputable abbrev I (n : Nat) := A (abacusref02_Top.f n) (abacusref02_Short.f n) (abacusref02_doubled.f n) (abacusref02_Order.f n) (abacusref02_takeOff.f n) n idJ
theorem q127 (n x0 x1) : I n 127 [] (s127 x0 x1) = l127 n x0 x1 := e127
theorem q518461 (n m1013 x0 x1 x2 x3 x4) : I n 518461 [m1013] (s518461 x0 x1 x2 x3 x4) = l518461 n (fun y0 y1 y2 y3 => I n 1013 [m1013] (s1013 y0 y1 y2 y3)) x0 x1 x2 x3 x4 := e518461
theorem q2073841 (n m1013 m) : ∀ x0 x1 x2 x3 x4, I n 2073841 [m1013, m] (s2073841 x0 x1 x2 x3 x4) = l2073841 n (fun y0 y1 y2 y3 => I n 1013 [m1013] (s1013 y0 y1 y2 y3)) m x0 x1 x2 x3 x4 := by
  induction m with
  | zero => intros; rfl
  | succ m ih =>
    intros
    exact e2073841.trans (Eq.trans (cf5 (congr (congrArg (b2073841 _ _ _ _ _) (fu5 (q518461 n m1013))) (fu5 (ih))) _ _ _ _ _) rfl)
theorem q1013 (n m) : ∀ x0 x1 x2 x3, I n 1013 [m] (s1013 x0 x1 x2 x3) = l1013 n m x0 x1 x2 x3 := by
  induction m with
  | zero => intros; rfl
  | succ m ih =>
    intros
    exact e1013.trans (Eq.trans (cf4 (congr (congr (congrArg (b1013 _ _ _ _ _) (fu2 (q127 n))) (fu4 (ih))) ((fu5 (q2073841 n m n)).trans (by rw [show (fun y0 y1 y2 y3 => I n 1013 [m] (s1013 y0 y1 y2 y3)) = _ from (fu4 (ih))]))) _ _ _ _) rfl)
theorem ok {n  l0 r} (h : f n l0 = some r) : CallD Tryd.prog HW 22 [.ro .u64 l0] (sg.enc r) :=
  fun_some hwS Tryd.func22 (by kernel_rfl) (body := code) (by kernel_rfl) tys_ok (c := cfg (abacusref02_Top.f n) (abacusref02_Short.f n) (abacusref02_doubled.f n) (abacusref02_Order.f n) (abacusref02_takeOff.f n)) (orCall_ok (abacusref02_Top.call_ok (n := n)) (orCall_ok (abacusref02_Short.call_ok (n := n)) (orCall_ok (abacusref02_doubled.call_ok (n := n)) (orCall_ok (abacusref02_Order.call_ok (n := n)) noCall_ok)))) (orW_ok (abacusref02_takeOff.call_ok (n := n)) noW_ok) (by kernel_rfl) (by kernel_rfl) (Nat.le_of_ble_eq_true (by kernel_rfl)) (Eq.trans ((e0 (n := n)).trans (Eq.trans (cf1 (congrArg (b0 _ _ _ _ _) (fu4 (q1013 n n))) _) rfl)) h)
noncomputable def call {α : Type} (g : T28) (ds : List D) (K : List D→Ω α) : Ω α := match ds with
  | [.ro .u64 l0] => (g l0).bind fun r => K (sg.enc r)
  | _ => none
theorem call_ok {α : Type} {n : Nat} : COK Tryd.prog HW 22 (call (α := α) (f n)) := fun _ _ _ h => by
  unfold call at h; split at h
  · exact cok h fun _ => ok
  · cases h
end abacusref02_Root
/-! ### abacusref01_BitLen: function 54 -/
namespace abacusref01_BitLen
noncomputable def b0 (c77 : T0) (k501 : T13) (l0 : Λ) : Ω (Int) := ((c77 l0).bind fun t1 => (if t1 = 0 then some 0 else (if 0 ≤ (wrap64 (t1 - 1)) then (if (wrap64 (t1 - 1)) < (ln l0) then k501 (wrap64 (64 * (wrap64 (t1 - 1)))) (rd l0 (wrap64 (t1 - 1))) else none) else none)))
noncomputable def b501 (c77 : T0) (k501 : T13) (x0 x1 : Int) : Ω (Int) := (if x1 > 0 then k501 (wrap64 (x0 + 1)) (IntKind.u64.wrap (Int.tdiv x1 2)) else some x0)
noncomputable def l501 (n : Nat) : Nat→Int→Int→Ω (Int)
  | 0, _, _ => none
  | m + 1, x0, x1 => b501 (abacusref01_Size.f n) (l501 n m) x0 x1
noncomputable def f (n : Nat) (l0 : Λ) : Ω (Int) := b0 (abacusref01_Size.f n) (l501 n n) l0
noncomputable def sg : Sig (Int) := s1 (sInt .i64)
noncomputable def code : Code := (Tryd.f54.body).getD .skip
noncomputable def cfg (c77 : T0) : Cfg (Int) := { T := tys, call := orCall 77 (abacusref01_Size.call c77) (noCall) }
noncomputable def cuts : List (Nat × List (Nat × Want)) := [(501, [(4, .keep), (5, .keep)])]
noncomputable def s501 (x0 x1 : Int) : ASt := ⟨[(4, .int .i64 x0), (5, .int .u64 x1)], []⟩
noncomputable def A (c77 : T0) (n : Nat) (J : Jt (Int)) (q : Nat) (ms : List Nat) : ASt→Ω (Int) := acont (cfg c77) J cuts n q code 1 ms (aend (cfg c77) Tryd.f54.results.toList [false] sg.out)
theorem e0 {c77 n J l0} : afun (cfg c77) J cuts n code Tryd.f54.results.toList [false] [.ro .u64 l0] sg.out = b0 c77 (fun y0 y1 => J 501 (A c77 n J 501 [n]) (s501 y0 y1)) l0 := by kernel_rfl
theorem e501 {c77 n J m x0 x1} : A c77 n J 501 [m + 1] (s501 x0 x1) = b501 c77 (fun y0 y1 => J 501 (A c77 n J 501 [m]) (s501 y0 y1)) x0 x1 := by kernel_rfl
noncomputable abbrev I (n : Nat) := A (abacusref01_Size.f n) n idJ
theorem q501 (n m) : ∀ x0 x1, I n 501 [m] (s501 x0 x1) = l501 n m x0 x1 := by
  induction m with
  | zero => intros; rfl
  | succ m ih =>
    intros
    exact e501.trans (Eq.trans (cf2 (congrArg (b501 _) (fu2 (ih))) _ _) rfl)
theorem ok {n  l0 r} (h : f n l0 = some r) : CallD Tryd.prog HW 54 [.ro .u64 l0] (sg.enc r) :=
  fun_some hwS Tryd.func54 (by kernel_rfl) (body := code) (by kernel_rfl) tys_ok (c := cfg (abacusref01_Size.f n)) (orCall_ok (abacusref01_Size.call_ok (n := n)) noCall_ok) noW_ok (by kernel_rfl) (by kernel_rfl) (Nat.le_of_ble_eq_true (by kernel_rfl)) (Eq.trans ((e0 (n := n)).trans (Eq.trans (cf1 (congrArg (b0 _) (fu2 (q501 n n))) _) rfl)) h)
noncomputable def call {α : Type} (g : T0) (ds : List D) (K : List D→Ω α) : Ω α := match ds with
  | [.ro .u64 l0] => (g l0).bind fun r => K (sg.enc r)
  | _ => none
theorem call_ok {α : Type} {n : Nat} : COK Tryd.prog HW 54 (call (α := α) (f n)) := fun _ _ _ h => by
  unfold call at h; split at h
  · exact cok h fun _ => ok
  · cases h
end abacusref01_BitLen
/-! ### abacusref01_Bit: function 56 -/
namespace abacusref01_Bit
noncomputable def b0 (k245 : T24) (l0 : Λ) (a1 : Int) : Ω (Int) := (if a1 < 0 then some 0 else (if (wrap64 (Int.tdiv a1 64)) ≥ (ln l0) then some 0 else (if 0 ≤ (wrap64 (Int.tdiv a1 64)) then (if (wrap64 (Int.tdiv a1 64)) < (ln l0) then k245 a1 (rd l0 (wrap64 (Int.tdiv a1 64))) 0 else none) else none)))
noncomputable def b245 (k245 : T24) (x0 x1 x2 : Int) : Ω (Int) := (if x2 < (Int.tmod x0 64) then k245 x0 (IntKind.u64.wrap (Int.tdiv x1 2)) (wrap64 (x2 + 1)) else some (wrap64 (Int.tmod x1 2)))
noncomputable def l245 (n : Nat) : Nat→Int→Int→Int→Ω (Int)
  | 0, _, _, _ => none
  | m + 1, x0, x1, x2 => b245 (l245 n m) x0 x1 x2
noncomputable def f (n : Nat) (l0 : Λ) (a1 : Int) : Ω (Int) := b0 (l245 n n) l0 a1
noncomputable def sg : Sig (Int) := s1 (sInt .i64)
noncomputable def code : Code := (Tryd.f56.body).getD .skip
noncomputable def cfg : Cfg (Int) := { T := tys, call := noCall }
noncomputable def cuts : List (Nat × List (Nat × Want)) := [(245, [(1, .keep), (5, .keep), (6, .keep)])]
noncomputable def s245 (x0 x1 x2 : Int) : ASt := ⟨[(1, .int .i64 x0), (5, .int .u64 x1), (6, .int .i64 x2)], []⟩
noncomputable def A (n : Nat) (J : Jt (Int)) (q : Nat) (ms : List Nat) : ASt→Ω (Int) := acont cfg J cuts n q code 1 ms (aend cfg Tryd.f56.results.toList [false] sg.out)
theorem e0 {n J l0 a1} : afun cfg J cuts n code Tryd.f56.results.toList [false] [.ro .u64 l0, .int .i64 a1] sg.out = b0 (fun y0 y1 y2 => J 245 (A n J 245 [n]) (s245 y0 y1 y2)) l0 a1 := by kernel_rfl
theorem e245 {n J m x0 x1 x2} : A n J 245 [m + 1] (s245 x0 x1 x2) = b245 (fun y0 y1 y2 => J 245 (A n J 245 [m]) (s245 y0 y1 y2)) x0 x1 x2 := by kernel_rfl
noncomputable abbrev I (n : Nat) := A n idJ
theorem q245 (n m) : ∀ x0 x1 x2, I n 245 [m] (s245 x0 x1 x2) = l245 n m x0 x1 x2 := by
  induction m with
  | zero => intros; rfl
  | succ m ih =>
    intros
    exact e245.trans (Eq.trans (cf3 (congrArg b245 (fu3 (ih))) _ _ _) rfl)
theorem ok {n  l0 a1 r} (h : f n l0 a1 = some r) : CallD Tryd.prog HW 56 [.ro .u64 l0, .int .i64 a1] (sg.enc r) :=
  fun_some hwS Tryd.func56 (by kernel_rfl) (body := code) (by kernel_rfl) tys_ok (c := cfg) noCall_ok noW_ok (by kernel_rfl) (by kernel_rfl) (Nat.le_of_ble_eq_true (by kernel_rfl)) (Eq.trans ((e0 (n := n)).trans (Eq.trans (cf2 (congrArg b0 (fu3 (q245 n n))) _ _) rfl)) h)
noncomputable def call {α : Type} (g : T10) (ds : List D) (K : List D→Ω α) : Ω α := match ds with
  | [.ro .u64 l0, .int .i64 a1] => (g l0 a1).bind fun r => K (sg.enc r)
  | _ => none
theorem call_ok {α : Type} {n : Nat} : COK Tryd.prog HW 56 (call (α := α) (f n)) := fun _ _ _ h => by
  unfold call at h; split at h
  · exact cok h fun _ => ok
  · cases h
end abacusref01_Bit
/-! ### abacusref01_Trail: function 57 -/
namespace abacusref01_Trail
noncomputable def b0 (k53 : T10) (l0 : Λ) : Ω (Int) := k53 l0 0
noncomputable def b53 (k53 : T10) (k53845 : T13) (x0 : Λ) (x1 : Int) : Ω (Int) := (if x1 < (ln x0) then (if 0 ≤ x1 then (if x1 < (ln x0) then (if ¬ (rd x0 x1) = 0 then (if 0 ≤ x1 then (if x1 < (ln x0) then k53845 (wrap64 (64 * x1)) (rd x0 x1) else none) else none) else k53 x0 (wrap64 (x1 + 1))) else none) else none) else some 0)
noncomputable def b53845 (k53845 : T13) (x0 x1 : Int) : Ω (Int) := (if (Int.tmod x1 2) = 0 then k53845 (wrap64 (x0 + 1)) (IntKind.u64.wrap (Int.tdiv x1 2)) else some x0)
noncomputable def l53845 (n : Nat) (k53 : T10) : Nat→Int→Int→Ω (Int)
  | 0, _, _ => none
  | m + 1, x0, x1 => b53845 (l53845 n k53 m) x0 x1
noncomputable def l53 (n : Nat) : Nat→Λ→Int→Ω (Int)
  | 0, _, _ => none
  | m + 1, x0, x1 => b53 (l53 n m) (l53845 n (l53 n m) n) x0 x1
noncomputable def f (n : Nat) (l0 : Λ) : Ω (Int) := b0 (l53 n n) l0
noncomputable def sg : Sig (Int) := s1 (sInt .i64)
noncomputable def code : Code := (Tryd.f57.body).getD .skip
noncomputable def cfg : Cfg (Int) := { T := tys, call := noCall }
noncomputable def cuts : List (Nat × List (Nat × Want)) := [(53, [(0, .keep), (3, .keep)]), (53845, [(4, .keep), (5, .keep)])]
noncomputable def s53 (x0 : Λ) (x1 : Int) : ASt := ⟨[(0, .ro .u64 x0), (3, .int .i64 x1)], []⟩
noncomputable def s53845 (x0 x1 : Int) : ASt := ⟨[(4, .int .i64 x0), (5, .int .u64 x1)], []⟩
noncomputable def A (n : Nat) (J : Jt (Int)) (q : Nat) (ms : List Nat) : ASt→Ω (Int) := acont cfg J cuts n q code 1 ms (aend cfg Tryd.f57.results.toList [false] sg.out)
theorem e0 {n J l0} : afun cfg J cuts n code Tryd.f57.results.toList [false] [.ro .u64 l0] sg.out = b0 (fun y0 y1 => J 53 (A n J 53 [n]) (s53 y0 y1)) l0 := by kernel_rfl
theorem e53 {n J m x0 x1} : A n J 53 [m + 1] (s53 x0 x1) = b53 (fun y0 y1 => J 53 (A n J 53 [m]) (s53 y0 y1)) (fun y0 y1 => J 53845 (A n J 53845 [m, n]) (s53845 y0 y1)) x0 x1 := by kernel_rfl
theorem e53845 {n J m53 m x0 x1} : A n J 53845 [m53, m + 1] (s53845 x0 x1) = b53845 (fun y0 y1 => J 53845 (A n J 53845 [m53, m]) (s53845 y0 y1)) x0 x1 := by kernel_rfl
noncomputable abbrev I (n : Nat) := A n idJ
theorem q53845 (n m53 m) : ∀ x0 x1, I n 53845 [m53, m] (s53845 x0 x1) = l53845 n (fun y0 y1 => I n 53 [m53] (s53 y0 y1)) m x0 x1 := by
  induction m with
  | zero => intros; rfl
  | succ m ih =>
    intros
    exact e53845.trans (Eq.trans (cf2 (congrArg b53845 (fu2 (ih))) _ _) rfl)
theorem q53 (n m) : ∀ x0 x1, I n 53 [m] (s53 x0 x1) = l53 n m x0 x1 := by
  induction m with
  | zero => intros; rfl
  | succ m ih =>
    intros
    exact e53.trans (Eq.trans (cf2 (congr (congrArg b53 (fu2 (ih))) ((fu2 (q53845 n m n)).trans (by rw [show (fun y0 y1 => I n 53 [m] (s53 y0 y1)) = _ from (fu2 (ih))]))) _ _) rfl)
theorem ok {n  l0 r} (h : f n l0 = some r) : CallD Tryd.prog HW 57 [.ro .u64 l0] (sg.enc r) :=
  fun_some hwS Tryd.func57 (by kernel_rfl) (body := code) (by kernel_rfl) tys_ok (c := cfg) noCall_ok noW_ok (by kernel_rfl) (by kernel_rfl) (Nat.le_of_ble_eq_true (by kernel_rfl)) (Eq.trans ((e0 (n := n)).trans (Eq.trans (cf1 (congrArg b0 (fu2 (q53 n n))) _) rfl)) h)
noncomputable def call {α : Type} (g : T0) (ds : List D) (K : List D→Ω α) : Ω α := match ds with
  | [.ro .u64 l0] => (g l0).bind fun r => K (sg.enc r)
  | _ => none
theorem call_ok {α : Type} {n : Nat} : COK Tryd.prog HW 57 (call (α := α) (f n)) := fun _ _ _ h => by
  unfold call at h; split at h
  · exact cok h fun _ => ok
  · cases h
end abacusref01_Trail
/-! ### abacusref04_Round: function 24 -/
namespace abacusref04_Round
noncomputable def b0 (c53 : T5) (c54 : T0) (c55 : T22) (c56 : T10) (c57 : T0) (k1023 : T77) (a0 : Bool) (l1 : Λ) (a2 : Int) (a3 : Bool) : Ω (Int × Int) := ((c53 l1).bind fun t1 => (if t1 = true then some (0, 2) else ((c54 l1).bind fun t2 => (if t2 = 0 then ((c55 a0 0 0).bind fun t3 => some (t3, 0)) else (if a2 < (-1048576) then ((c55 a0 0 0).bind fun t4 => some (t4, 0)) else (if a2 > 1048576 then ((c55 a0 2047 0).bind fun t5 => some (t5, 0)) else (if (wrap64 ((wrap64 (t2 - 1)) + a2)) > 1023 then ((c55 a0 2047 0).bind fun t6 => some (t6, 0)) else (if (wrap64 ((wrap64 ((wrap64 (t2 - 1)) + a2)) - 52)) < (-1074) then k1023 a0 l1 a2 a3 (wrap64 ((wrap64 (t2 - 1)) + a2)) (-1074) else k1023 a0 l1 a2 a3 (wrap64 ((wrap64 (t2 - 1)) + a2)) (wrap64 ((wrap64 ((wrap64 (t2 - 1)) + a2)) - 52))))))))))
noncomputable def b1023 (c53 : T5) (c54 : T0) (c55 : T22) (c56 : T10) (c57 : T0) (k32757 : T78) (x0 : Bool) (x1 : Λ) (x2 : Int) (x3 : Bool) (x4 x5 : Int) : Ω (Int × Int) := k32757 x0 x1 x2 x3 x5 0 x4
noncomputable def b4095 (c53 : T5) (c54 : T0) (c55 : T22) (c56 : T10) (c57 : T0) (k32767 : Bool→Int→Int→Ω (Int × Int)) (x0 : Bool) (x1 : Λ) (x2 : Int) (x3 : Bool) (x4 x5 : Int) : Ω (Int × Int) := ((c56 x1 (wrap64 ((wrap64 (x4 - 1)) - x2))).bind fun t1 => ((c57 x1).bind fun t2 => (if t1 = 1 then (if (wrap64 (t2 + x2)) < (wrap64 (x4 - 1)) then k32767 x0 x4 (IntKind.u64.wrap (x5 + 1)) else (if x3 = true then k32767 x0 x4 (IntKind.u64.wrap (x5 + 1)) else (if (Int.tmod x5 2) = 1 then k32767 x0 x4 (IntKind.u64.wrap (x5 + 1)) else k32767 x0 x4 x5))) else k32767 x0 x4 x5)))
noncomputable def b32757 (c53 : T5) (c54 : T0) (c55 : T22) (c56 : T10) (c57 : T0) (k4095 : T77) (k32757 : T78) (x0 : Bool) (x1 : Λ) (x2 : Int) (x3 : Bool) (x4 x5 x6 : Int) : Ω (Int × Int) := (if x6 ≥ x4 then ((c56 x1 (wrap64 (x6 - x2))).bind fun t1 => k32757 x0 x1 x2 x3 x4 (IntKind.u64.wrap ((IntKind.u64.wrap (2 * x5)) + (IntKind.u64.wrap t1))) (wrap64 (x6 - 1))) else k4095 x0 x1 x2 x3 x4 x5)
noncomputable def b32767 (c53 : T5) (c54 : T0) (c55 : T22) (c56 : T10) (c57 : T0) (x0 : Bool) (x1 x2 : Int) : Ω (Int × Int) := (if x2 < 4503599627370496 then ((c55 x0 0 x2).bind fun t1 => some (t1, 0)) else ((c55 x0 (wrap64 ((wrap64 (x1 + 1075)) - 1)) x2).bind fun t2 => some (t2, 0)))
noncomputable def l32767 (n : Nat) (x0 : Bool) (x1 x2 : Int) : Ω (Int × Int) := b32767 (abacusref01_Big.f n) (abacusref01_BitLen.f n) abacusref04_put.f (abacusref01_Bit.f n) (abacusref01_Trail.f n) x0 x1 x2
noncomputable def l4095 (n : Nat) (x0 : Bool) (x1 : Λ) (x2 : Int) (x3 : Bool) (x4 x5 : Int) : Ω (Int × Int) := b4095 (abacusref01_Big.f n) (abacusref01_BitLen.f n) abacusref04_put.f (abacusref01_Bit.f n) (abacusref01_Trail.f n) (l32767 n) x0 x1 x2 x3 x4 x5
noncomputable def l32757 (n : Nat) : Nat→Bool→Λ→Int→Bool→Int→Int→Int→Ω (Int × Int)
  | 0, _, _, _, _, _, _, _ => none
  | m + 1, x0, x1, x2, x3, x4, x5, x6 => b32757 (abacusref01_Big.f n) (abacusref01_BitLen.f n) abacusref04_put.f (abacusref01_Bit.f n) (abacusref01_Trail.f n) (l4095 n) (l32757 n m) x0 x1 x2 x3 x4 x5 x6
noncomputable def l1023 (n : Nat) (x0 : Bool) (x1 : Λ) (x2 : Int) (x3 : Bool) (x4 x5 : Int) : Ω (Int × Int) := b1023 (abacusref01_Big.f n) (abacusref01_BitLen.f n) abacusref04_put.f (abacusref01_Bit.f n) (abacusref01_Trail.f n) (l32757 n n) x0 x1 x2 x3 x4 x5
noncomputable def f (n : Nat) (a0 : Bool) (l1 : Λ) (a2 : Int) (a3 : Bool) : Ω (Int × Int) := b0 (abacusref01_Big.f n) (abacusref01_BitLen.f n) abacusref04_put.f (abacusref01_Bit.f n) (abacusref01_Trail.f n) (l1023 n) a0 l1 a2 a3
noncomputable def sg : Sig (Int × Int) := s2 (sInt .u64) (s1 (sInt .i64))
noncomputable def code : Code := (Tryd.f24.body).getD .skip
noncomputable def cfg (c53 : T5) (c54 : T0) (c55 : T22) (c56 : T10) (c57 : T0) : Cfg (Int × Int) := { T := tys, call := orCall 53 (abacusref01_Big.call c53) (orCall 54 (abacusref01_BitLen.call c54) (orCall 55 (abacusref04_put.call c55) (orCall 56 (abacusref01_Bit.call c56) (orCall 57 (abacusref01_Trail.call c57) (noCall))))) }
noncomputable def cuts : List (Nat × List (Nat × Want)) := [(1023, [(0, .keep), (1, .keep), (2, .keep), (3, .keep), (11, .keep), (12, .keep)]), (4095, [(0, .keep), (1, .keep), (2, .keep), (3, .keep), (12, .keep), (13, .keep)]), (32757, [(0, .keep), (1, .keep), (2, .keep), (3, .keep), (12, .keep), (13, .keep), (14, .keep)]), (32767, [(0, .keep), (12, .keep), (13, .keep)])]
noncomputable def s1023 (x0 : Bool) (x1 : Λ) (x2 : Int) (x3 : Bool) (x4 x5 : Int) : ASt := ⟨[(0, .bool x0), (1, .ro .u64 x1), (2, .int .i64 x2), (3, .bool x3), (11, .int .i64 x4), (12, .int .i64 x5)], []⟩
noncomputable def s4095 (x0 : Bool) (x1 : Λ) (x2 : Int) (x3 : Bool) (x4 x5 : Int) : ASt := ⟨[(0, .bool x0), (1, .ro .u64 x1), (2, .int .i64 x2), (3, .bool x3), (12, .int .i64 x4), (13, .int .u64 x5)], []⟩
noncomputable def s32757 (x0 : Bool) (x1 : Λ) (x2 : Int) (x3 : Bool) (x4 x5 x6 : Int) : ASt := ⟨[(0, .bool x0), (1, .ro .u64 x1), (2, .int .i64 x2), (3, .bool x3), (12, .int .i64 x4), (13, .int .u64 x5), (14, .int .i64 x6)], []⟩
noncomputable def s32767 (x0 : Bool) (x1 x2 : Int) : ASt := ⟨[(0, .bool x0), (12, .int .i64 x1), (13, .int .u64 x2)], []⟩
noncomputable def A (c53 : T5) (c54 : T0) (c55 : T22) (c56 : T10) (c57 : T0) (n : Nat) (J : Jt (Int × Int)) (q : Nat) (ms : List Nat) : ASt→Ω (Int × Int) := acont (cfg c53 c54 c55 c56 c57) J cuts n q code 1 ms (aend (cfg c53 c54 c55 c56 c57) Tryd.f24.results.toList [false, false] sg.out)
theorem e0 {c53 c54 c55 c56 c57 n J a0 l1 a2 a3} : afun (cfg c53 c54 c55 c56 c57) J cuts n code Tryd.f24.results.toList [false, false] [.bool a0, .ro .u64 l1, .int .i64 a2, .bool a3] sg.out = b0 c53 c54 c55 c56 c57 (fun y0 y1 y2 y3 y4 y5 => J 1023 (A c53 c54 c55 c56 c57 n J 1023 []) (s1023 y0 y1 y2 y3 y4 y5)) a0 l1 a2 a3 := by kernel_rfl
theorem e1023 {c53 c54 c55 c56 c57 n J x0 x1 x2 x3 x4 x5} : A c53 c54 c55 c56 c57 n J 1023 [] (s1023 x0 x1 x2 x3 x4 x5) = b1023 c53 c54 c55 c56 c57 (fun y0 y1 y2 y3 y4 y5 y6 => J 32757 (A c53 c54 c55 c56 c57 n J 32757 [n]) (s32757 y0 y1 y2 y3 y4 y5 y6)) x0 x1 x2 x3 x4 x5 := by kernel_rfl
theorem e4095 {c53 c54 c55 c56 c57 n J x0 x1 x2 x3 x4 x5} : A c53 c54 c55 c56 c57 n J 4095 [] (s4095 x0 x1 x2 x3 x4 x5) = b4095 c53 c54 c55 c56 c57 (fun y0 y1 y2 => J 32767 (A c53 c54 c55 c56 c57 n J 32767 []) (s32767 y0 y1 y2)) x0 x1 x2 x3 x4 x5 := by kernel_rfl
theorem e32757 {c53 c54 c55 c56 c57 n J m x0 x1 x2 x3 x4 x5 x6} : A c53 c54 c55 c56 c57 n J 32757 [m + 1] (s32757 x0 x1 x2 x3 x4 x5 x6) = b32757 c53 c54 c55 c56 c57 (fun y0 y1 y2 y3 y4 y5 => J 4095 (A c53 c54 c55 c56 c57 n J 4095 []) (s4095 y0 y1 y2 y3 y4 y5)) (fun y0 y1 y2 y3 y4 y5 y6 => J 32757 (A c53 c54 c55 c56 c57 n J 32757 [m]) (s32757 y0 y1 y2 y3 y4 y5 y6)) x0 x1 x2 x3 x4 x5 x6 := by kernel_rfl
theorem e32767 {c53 c54 c55 c56 c57 n J x0 x1 x2} : A c53 c54 c55 c56 c57 n J 32767 [] (s32767 x0 x1 x2) = b32767 c53 c54 c55 c56 c57 x0 x1 x2 := by kernel_rfl
noncomputable abbrev I (n : Nat) := A (abacusref01_Big.f n) (abacusref01_BitLen.f n) abacusref04_put.f (abacusref01_Bit.f n) (abacusref01_Trail.f n) n idJ
theorem q32767 (n x0 x1 x2) : I n 32767 [] (s32767 x0 x1 x2) = l32767 n x0 x1 x2 := e32767
theorem q4095 (n x0 x1 x2 x3 x4 x5) : I n 4095 [] (s4095 x0 x1 x2 x3 x4 x5) = l4095 n x0 x1 x2 x3 x4 x5 := e4095.trans (Eq.trans (cf6 (congrArg (b4095 _ _ _ _ _) (fu3 (q32767 n))) _ _ _ _ _ _) rfl)
theorem q32757 (n m) : ∀ x0 x1 x2 x3 x4 x5 x6, I n 32757 [m] (s32757 x0 x1 x2 x3 x4 x5 x6) = l32757 n m x0 x1 x2 x3 x4 x5 x6 := by
  induction m with
  | zero => intros; rfl
  | succ m ih =>
    intros
    exact e32757.trans (Eq.trans (cf7 (congr (congrArg (b32757 _ _ _ _ _) (fu6 (q4095 n))) (fu7 (ih))) _ _ _ _ _ _ _) rfl)
theorem q1023 (n x0 x1 x2 x3 x4 x5) : I n 1023 [] (s1023 x0 x1 x2 x3 x4 x5) = l1023 n x0 x1 x2 x3 x4 x5 := e1023.trans (Eq.trans (cf6 (congrArg (b1023 _ _ _ _ _) (fu7 (q32757 n n))) _ _ _ _ _ _) rfl)
theorem ok {n  a0 l1 a2 a3 r} (h : f n a0 l1 a2 a3 = some r) : CallD Tryd.prog HW 24 [.bool a0, .ro .u64 l1, .int .i64 a2, .bool a3] (sg.enc r) :=
  fun_some hwS Tryd.func24 (by kernel_rfl) (body := code) (by kernel_rfl) tys_ok (c := cfg (abacusref01_Big.f n) (abacusref01_BitLen.f n) abacusref04_put.f (abacusref01_Bit.f n) (abacusref01_Trail.f n)) (orCall_ok (abacusref01_Big.call_ok (n := n)) (orCall_ok (abacusref01_BitLen.call_ok (n := n)) (orCall_ok abacusref04_put.call_ok (orCall_ok (abacusref01_Bit.call_ok (n := n)) (orCall_ok (abacusref01_Trail.call_ok (n := n)) noCall_ok))))) noW_ok (by kernel_rfl) (by kernel_rfl) (Nat.le_of_ble_eq_true (by kernel_rfl)) (Eq.trans ((e0 (n := n)).trans (Eq.trans (cf4 (congrArg (b0 _ _ _ _ _) (fu6 (q1023 n))) _ _ _ _) rfl)) h)
noncomputable def call {α : Type} (g : T25) (ds : List D) (K : List D→Ω α) : Ω α := match ds with
  | [.bool a0, .ro .u64 l1, .int .i64 a2, .bool a3] => (g a0 l1 a2 a3).bind fun r => K (sg.enc r)
  | _ => none
theorem call_ok {α : Type} {n : Nat} : COK Tryd.prog HW 24 (call (α := α) (f n)) := fun _ _ _ h => by
  unfold call at h; split at h
  · exact cok h fun _ => ok
  · cases h
end abacusref04_Round
/-! ### abacusref05_Sqrt: function 7 -/
namespace abacusref05_Sqrt
noncomputable def b0 (c11 c12 c14 : T3) (c20 : T16) (c21 : T3) (c22 : T28) (c23 : T8) (c24 : T25) (k63 : T31) (a0 : Int) : Ω (Int) := ((c11 a0).bind fun t1 => (if t1 = true then some 9221120237041090560 else ((c21 a0).bind fun t2 => (if t2 = true then some a0 else ((c14 a0).bind fun t3 => (if t3 = true then some 9221120237041090560 else ((c12 a0).bind fun t4 => (if t4 = true then some a0 else ((c20 a0).bind fun t5 => (if ¬ (Int.tmod t5.2.2.2 2) = 0 then k63 121 t5.1 t5.2.1 t5.2.2.1 t5.2.2.2 else k63 120 t5.1 t5.2.1 t5.2.2.1 t5.2.2.2))))))))))
noncomputable def b63 (c11 c12 c14 : T3) (c20 : T16) (c21 : T3) (c22 : T28) (c23 : T8) (c24 : T25) (x0 : Int) (x1 : Bool) (x2 x3 : Λ) (x4 : Int) : Ω (Int) := ((c23 x2 x0).bind fun t1 => ((c22 t1).bind fun t2 => ((c24 false t2.1 (wrap64 (Int.tdiv (wrap64 (x4 - x0)) 2)) (!t2.2.1)).bind fun t3 => some t3.1)))
noncomputable def l63 (n : Nat) (x0 : Int) (x1 : Bool) (x2 x3 : Λ) (x4 : Int) : Ω (Int) := b63 abacusref04_IsNaN.f abacusref05_infinite.f abacusref05_negative.f abacusref05_of.f abacusref05_zero.f (abacusref02_Root.f n) (abacusref01_Lift.f n) (abacusref04_Round.f n) x0 x1 x2 x3 x4
noncomputable def f (n : Nat) (a0 : Int) : Ω (Int) := b0 abacusref04_IsNaN.f abacusref05_infinite.f abacusref05_negative.f abacusref05_of.f abacusref05_zero.f (abacusref02_Root.f n) (abacusref01_Lift.f n) (abacusref04_Round.f n) (l63 n) a0
noncomputable def sg : Sig (Int) := s1 (sInt .u64)
noncomputable def code : Code := (Tryd.f7.body).getD .skip
noncomputable def cfg (c11 c12 c14 : T3) (c20 : T16) (c21 : T3) (c22 : T28) (c23 : T8) (c24 : T25) : Cfg (Int) := { T := tys, call := orCall 11 (abacusref04_IsNaN.call c11) (orCall 12 (abacusref05_infinite.call c12) (orCall 14 (abacusref05_negative.call c14) (orCall 20 (abacusref05_of.call c20) (orCall 21 (abacusref05_zero.call c21) (orCall 22 (abacusref02_Root.call c22) (orCall 23 (abacusref01_Lift.call c23) (orCall 24 (abacusref04_Round.call c24) (noCall)))))))) }
noncomputable def cuts : List (Nat × List (Nat × Want)) := [(63, [(3, .keep), (4, .keep)])]
noncomputable def s63 (x0 : Int) (x1 : Bool) (x2 x3 : Λ) (x4 : Int) : ASt := ⟨[(3, .ptr 0 0), (4, .int .i64 x0)], [.cells 38 [.bool x1, .ro .u64 x2, .ro .u64 x3, .int .i64 x4]]⟩
noncomputable def A (c11 c12 c14 : T3) (c20 : T16) (c21 : T3) (c22 : T28) (c23 : T8) (c24 : T25) (n : Nat) (J : Jt (Int)) (q : Nat) (ms : List Nat) : ASt→Ω (Int) := acont (cfg c11 c12 c14 c20 c21 c22 c23 c24) J cuts n q code 1 ms (aend (cfg c11 c12 c14 c20 c21 c22 c23 c24) Tryd.f7.results.toList [false] sg.out)
theorem e0 {c11 c12 c14 c20 c21 c22 c23 c24 n J a0} : afun (cfg c11 c12 c14 c20 c21 c22 c23 c24) J cuts n code Tryd.f7.results.toList [false] [.int .u64 a0] sg.out = b0 c11 c12 c14 c20 c21 c22 c23 c24 (fun y0 y1 y2 y3 y4 => J 63 (A c11 c12 c14 c20 c21 c22 c23 c24 n J 63 []) (s63 y0 y1 y2 y3 y4)) a0 := by kernel_rfl
theorem e63 {c11 c12 c14 c20 c21 c22 c23 c24 n J x0 x1 x2 x3 x4} : A c11 c12 c14 c20 c21 c22 c23 c24 n J 63 [] (s63 x0 x1 x2 x3 x4) = b63 c11 c12 c14 c20 c21 c22 c23 c24 x0 x1 x2 x3 x4 := by kernel_rfl
noncomputable abbrev I (n : Nat) := A abacusref04_IsNaN.f abacusref05_infinite.f abacusref05_negative.f abacusref05_of.f abacusref05_zero.f (abacusref02_Root.f n) (abacusref01_Lift.f n) (abacusref04_Round.f n) n idJ
theorem q63 (n x0 x1 x2 x3 x4) : I n 63 [] (s63 x0 x1 x2 x3 x4) = l63 n x0 x1 x2 x3 x4 := e63
theorem ok {n  a0 r} (h : f n a0 = some r) : CallD Tryd.prog HW 7 [.int .u64 a0] (sg.enc r) :=
  fun_some hwS Tryd.func7 (by kernel_rfl) (body := code) (by kernel_rfl) tys_ok (c := cfg abacusref04_IsNaN.f abacusref05_infinite.f abacusref05_negative.f abacusref05_of.f abacusref05_zero.f (abacusref02_Root.f n) (abacusref01_Lift.f n) (abacusref04_Round.f n)) (orCall_ok abacusref04_IsNaN.call_ok (orCall_ok abacusref05_infinite.call_ok (orCall_ok abacusref05_negative.call_ok (orCall_ok abacusref05_of.call_ok (orCall_ok abacusref05_zero.call_ok (orCall_ok (abacusref02_Root.call_ok (n := n)) (orCall_ok (abacusref01_Lift.call_ok (n := n)) (orCall_ok (abacusref04_Round.call_ok (n := n)) noCall_ok)))))))) noW_ok (by kernel_rfl) (by kernel_rfl) (Nat.le_of_ble_eq_true (by kernel_rfl)) (Eq.trans ((e0 (n := n)).trans (Eq.trans (cf1 (congrArg (b0 _ _ _ _ _ _ _ _) (fu5 (q63 n))) _) rfl)) h)
noncomputable def call {α : Type} (g : T4) (ds : List D) (K : List D→Ω α) : Ω α := match ds with
  | [.int .u64 a0] => (g a0).bind fun r => K (sg.enc r)
  | _ => none
theorem call_ok {α : Type} {n : Nat} : COK Tryd.prog HW 7 (call (α := α) (f n)) := fun _ _ _ h => by
  unfold call at h; split at h
  · exact cok h fun _ => ok
  · cases h
end abacusref05_Sqrt
/-! ### abacuslaw05_SoftFmas: function 3 -/
namespace abacuslaw05_SoftFmas
noncomputable def b0 (c4 : T24) (c5 : T4) (c6 : T24) (c7 : T4) (k117 : T79) (n0 : Int) (r0_0 r0_1 r0_2 : Λ) : Ω (Bool) := ((c4 4611686018427387904 4613937818241073152 4613937818241073152).bind fun t1 => (if ¬ t1 = 4621256167635550208 then some false else ((c5 4621256167635550208).bind fun t2 => (if ¬ t2 = 4613937818241073152 then some false else k117 n0 r0_0 r0_1 r0_2 0))))
noncomputable def b117 (c4 : T24) (c5 : T4) (c6 : T24) (c7 : T4) (k117 : T79) (x0 : Int) (x1 x2 x3 : Λ) (x4 : Int) : Ω (Bool) := (if x4 < x0 then (if 0 ≤ x4 then (if x4 < x0 then ((c4 (rd x1 x4) (rd x2 x4) (rd x3 x4)).bind fun t1 => ((c6 (rd x1 x4) (rd x2 x4) (rd x3 x4)).bind fun t2 => (if ¬ t1 = t2 then some false else ((c5 (rd x1 x4)).bind fun t3 => ((c7 (rd x1 x4)).bind fun t4 => (if ¬ t3 = t4 then some false else ((c5 (rd x2 x4)).bind fun t5 => ((c7 (rd x2 x4)).bind fun t6 => (if ¬ t5 = t6 then some false else k117 x0 x1 x2 x3 (wrap64 (x4 + 1))))))))))) else none) else none) else some true)
noncomputable def l117 (n : Nat) : Nat→Int→Λ→Λ→Λ→Int→Ω (Bool)
  | 0, _, _, _, _, _ => none
  | m + 1, x0, x1, x2, x3, x4 => b117 (soft_Fma.f n) (soft_Sqrt.f n) (abacusref05_Fma.f n) (abacusref05_Sqrt.f n) (l117 n m) x0 x1 x2 x3 x4
noncomputable def f (n : Nat) (n0 : Int) (r0_0 r0_1 r0_2 : Λ) : Ω (Bool) := b0 (soft_Fma.f n) (soft_Sqrt.f n) (abacusref05_Fma.f n) (abacusref05_Sqrt.f n) (l117 n n) n0 r0_0 r0_1 r0_2
noncomputable def sg : Sig (Bool) := s1 (sBool)
noncomputable def code : Code := (Tryd.f3.body).getD .skip
noncomputable def cfg (c4 : T24) (c5 : T4) (c6 : T24) (c7 : T4) : Cfg (Bool) := { T := tys, call := orCall 4 (soft_Fma.call c4) (orCall 5 (soft_Sqrt.call c5) (orCall 6 (abacusref05_Fma.call c6) (orCall 7 (abacusref05_Sqrt.call c7) (noCall)))) }
noncomputable def cuts : List (Nat × List (Nat × Want)) := [(117, [(0, .keep), (3, .keep)])]
noncomputable def s117 (x0 : Int) (x1 x2 x3 : Λ) (x4 : Int) : ASt := ⟨[(0, .recs x0 [.int .u64 x1, .int .u64 x2, .int .u64 x3]), (3, .int .i64 x4)], []⟩
noncomputable def A (c4 : T24) (c5 : T4) (c6 : T24) (c7 : T4) (n : Nat) (J : Jt (Bool)) (q : Nat) (ms : List Nat) : ASt→Ω (Bool) := acont (cfg c4 c5 c6 c7) J cuts n q code 1 ms (aend (cfg c4 c5 c6 c7) Tryd.f3.results.toList [false] sg.out)
theorem e0 {c4 c5 c6 c7 n J n0 r0_0 r0_1 r0_2} : afun (cfg c4 c5 c6 c7) J cuts n code Tryd.f3.results.toList [false] [.recs n0 [.int .u64 r0_0, .int .u64 r0_1, .int .u64 r0_2]] sg.out = b0 c4 c5 c6 c7 (fun y0 y1 y2 y3 y4 => J 117 (A c4 c5 c6 c7 n J 117 [n]) (s117 y0 y1 y2 y3 y4)) n0 r0_0 r0_1 r0_2 := by kernel_rfl
theorem e117 {c4 c5 c6 c7 n J m x0 x1 x2 x3 x4} : A c4 c5 c6 c7 n J 117 [m + 1] (s117 x0 x1 x2 x3 x4) = b117 c4 c5 c6 c7 (fun y0 y1 y2 y3 y4 => J 117 (A c4 c5 c6 c7 n J 117 [m]) (s117 y0 y1 y2 y3 y4)) x0 x1 x2 x3 x4 := by kernel_rfl
noncomputable abbrev I (n : Nat) := A (soft_Fma.f n) (soft_Sqrt.f n) (abacusref05_Fma.f n) (abacusref05_Sqrt.f n) n idJ
theorem q117 (n m) : ∀ x0 x1 x2 x3 x4, I n 117 [m] (s117 x0 x1 x2 x3 x4) = l117 n m x0 x1 x2 x3 x4 := by
  induction m with
  | zero => intros; rfl
  | succ m ih =>
    intros
    exact e117.trans (Eq.trans (cf5 (congrArg (b117 _ _ _ _) (fu5 (ih))) _ _ _ _ _) rfl)
theorem ok {n  n0 r0_0 r0_1 r0_2 r} (h : f n n0 r0_0 r0_1 r0_2 = some r) : CallD Tryd.prog HW 3 [.recs n0 [.int .u64 r0_0, .int .u64 r0_1, .int .u64 r0_2]] (sg.enc r) :=
  fun_some hwS Tryd.func3 (by kernel_rfl) (body := code) (by kernel_rfl) tys_ok (c := cfg (soft_Fma.f n) (soft_Sqrt.f n) (abacusref05_Fma.f n) (abacusref05_Sqrt.f n)) (orCall_ok (soft_Fma.call_ok (n := n)) (orCall_ok (soft_Sqrt.call_ok (n := n)) (orCall_ok (abacusref05_Fma.call_ok (n := n)) (orCall_ok (abacusref05_Sqrt.call_ok (n := n)) noCall_ok)))) noW_ok (by kernel_rfl) (by kernel_rfl) (Nat.le_of_ble_eq_true (by kernel_rfl)) (Eq.trans ((e0 (n := n)).trans (Eq.trans (cf4 (congrArg (b0 _ _ _ _) (fu5 (q117 n n))) _ _ _ _) rfl)) h)
theorem walk {n : Nat} {n0 : Int} {r0_0 : Λ} {r0_1 : Λ} {r0_2 : Λ} {r : Bool} (h : f n n0 r0_0 r0_1 r0_2 = some r) {w : World} (hw : HW w) {vals : List Value} (hv : VRs (fun _ => none) (fun g => g < w.heap.size) w (ofDs ([.recs n0 [.int .u64 r0_0, .int .u64 r0_1, .int .u64 r0_2]] : List D) 0) vals) : Calls Tryd.prog 3 vals.toArray w fun e w' => e = .returned (packV (sg.enc r)) ∧ Below w.heap.size w w' :=
  walk_any (H := HW) rfl (fun_calls hwS Tryd.func3 (by kernel_rfl) (body := code) (by kernel_rfl) tys_ok (c := cfg (soft_Fma.f n) (soft_Sqrt.f n) (abacusref05_Fma.f n) (abacusref05_Sqrt.f n)) (orCall_ok (soft_Fma.call_ok (n := n)) (orCall_ok (soft_Sqrt.call_ok (n := n)) (orCall_ok (abacusref05_Fma.call_ok (n := n)) (orCall_ok (abacusref05_Sqrt.call_ok (n := n)) noCall_ok)))) noW_ok (by kernel_rfl) (by kernel_rfl) (Nat.le_of_ble_eq_true (by kernel_rfl)) (Eq.trans ((e0 (n := n)).trans (Eq.trans (cf4 (congrArg (b0 _ _ _ _) (fu5 (q117 n n))) _ _ _ _) rfl)) h)) hw hv
noncomputable def call {α : Type} (g : Int→Λ→Λ→Λ→Ω (Bool)) (ds : List D) (K : List D→Ω α) : Ω α := match ds with
  | [.recs n0 [.int .u64 r0_0, .int .u64 r0_1, .int .u64 r0_2]] => (g n0 r0_0 r0_1 r0_2).bind fun r => K (sg.enc r)
  | _ => none
theorem call_ok {α : Type} {n : Nat} : COK Tryd.prog HW 3 (call (α := α) (f n)) := fun _ _ _ h => by
  unfold call at h; split at h
  · exact cok h fun _ => ok
  · cases h
end abacuslaw05_SoftFmas
end Go.Proofs.YtogkhfalgiajkaaDoor.F
