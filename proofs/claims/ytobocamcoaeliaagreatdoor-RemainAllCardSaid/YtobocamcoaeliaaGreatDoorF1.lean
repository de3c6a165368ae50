/- What the functions compute, and that calls of them answer so (printed by gen.py). Conditions: HW, a table as it was laid. -/
import Derived.Test.YtobocamcoaeliaaGreatDoorF0
namespace Go.Proofs.YtobocamcoaeliaaGreatDoor.F
open Go.RowKit Go.Proofs.YtobocamcoaeliaaGreatDoorA
set_option linter.unusedVariables false
set_option maxRecDepth 100000
/-! ### abacusref04_put: function 94 -/
namespace abacusref04_put
noncomputable def b0 (a0 : Bool) (a1 a2 : Int) : Ω (Int) := (if a0 = true then some (IntKind.u64.wrap ((IntKind.u64.wrap ((IntKind.u64.wrap ((IntKind.u64.wrap a1) * 4503599627370496)) + a2)) + 9223372036854775808)) else some (IntKind.u64.wrap ((IntKind.u64.wrap ((IntKind.u64.wrap a1) * 4503599627370496)) + a2)))
noncomputable def f (a0 : Bool) (a1 a2 : Int) : Ω (Int) := b0 a0 a1 a2
noncomputable def sg : Sig (Int) := s1 (sInt .u64)
noncomputable def code : Code := (Tryz.f94.body).getD .skip
noncomputable def cfg : Cfg (Int) := { T := tys, call := noCall }
noncomputable def cuts : List (Nat × List (Nat × Want)) := []
theorem e0 {n J a0 a1 a2} : afun cfg J cuts n code Tryz.f94.results.toList [false] [.bool a0, .int .i64 a1, .int .u64 a2] sg.out = b0 a0 a1 a2 := by kernel_rfl
theorem ok {a0 a1 a2 r} (h : f a0 a1 a2 = some r) : CallD Tryz.prog HW 94 [.bool a0, .int .i64 a1, .int .u64 a2] (sg.enc r) :=
  fun_some hwS Tryz.func94 (by kernel_rfl) (body := code) (by kernel_rfl) tys_ok (c := cfg) noCall_ok noW_ok (by kernel_rfl) (by kernel_rfl) (Nat.le_of_ble_eq_true (by kernel_rfl)) (Eq.trans ((e0 (n := 0))) h)
noncomputable def call {α : Type} (g : T24) (ds : List D) (K : List D→Ω α) : Ω α := match ds with
  | [.bool a0, .int .i64 a1, .int .u64 a2] => (g a0 a1 a2).bind fun r => K (sg.enc r)
  | _ => none
theorem call_ok {α : Type} : COK Tryz.prog HW 94 (call (α := α) f) := fun _ _ _ h => by
  unfold call at h; split at h
  · exact cok h fun _ => ok
  · cases h
end abacusref04_put
/-! ### abacusref01_Bit: function 86 -/
namespace abacusref01_Bit
noncomputable def b0 (k245 : T17) (l0 : Λ) (a1 : Int) : Ω (Int) := (if a1 < 0 then some 0 else (if (wrap64 (Int.tdiv a1 64)) ≥ (ln l0) then some 0 else (if 0 ≤ (wrap64 (Int.tdiv a1 64)) then (if (wrap64 (Int.tdiv a1 64)) < (ln l0) then k245 a1 (rd l0 (wrap64 (Int.tdiv a1 64))) 0 else none) else none)))
noncomputable def b245 (k245 : T17) (x0 x1 x2 : Int) : Ω (Int) := (if x2 < (Int.tmod x0 64) then k245 x0 (IntKind.u64.wrap (Int.tdiv x1 2)) (wrap64 (x2 + 1)) else some (wrap64 (Int.tmod x1 2)))
noncomputable def l245 (n : Nat) : Nat→Int→Int→Int→Ω (Int)
  | 0, _, _, _ => none
  | m + 1, x0, x1, x2 => b245 (l245 n m) x0 x1 x2
noncomputable def f (n : Nat) (l0 : Λ) (a1 : Int) : Ω (Int) := b0 (l245 n n) l0 a1
noncomputable def sg : Sig (Int) := s1 (sInt .i64)
noncomputable def code : Code := (Tryz.f86.body).getD .skip
noncomputable def cfg : Cfg (Int) := { T := tys, call := noCall }
noncomputable def cuts : List (Nat × List (Nat × Want)) := [(245, [(1, .keep), (5, .keep), (6, .keep)])]
noncomputable def s245 (x0 x1 x2 : Int) : ASt := ⟨[(1, .int .i64 x0), (5, .int .u64 x1), (6, .int .i64 x2)], []⟩
noncomputable def A (n : Nat) (J : Jt (Int)) (q : Nat) (ms : List Nat) : ASt→Ω (Int) := acont cfg J cuts n q code 1 ms (aend cfg Tryz.f86.results.toList [false] sg.out)
theorem e0 {n J l0 a1} : afun cfg J cuts n code Tryz.f86.results.toList [false] [.ro .u64 l0, .int .i64 a1] sg.out = b0 (fun y0 y1 y2 => J 245 (A n J 245 [n]) (s245 y0 y1 y2)) l0 a1 := by kernel_rfl
theorem e245 {n J m x0 x1 x2} : A n J 245 [m + 1] (s245 x0 x1 x2) = b245 (fun y0 y1 y2 => J 245 (A n J 245 [m]) (s245 y0 y1 y2)) x0 x1 x2 := by kernel_rfl
noncomputable abbrev I (n : Nat) := A n idJ
theorem q245 (n m) : ∀ x0 x1 x2, I n 245 [m] (s245 x0 x1 x2) = l245 n m x0 x1 x2 := by
  induction m with
  | zero => intros; rfl
  | succ m ih =>
    intros
    exact e245.trans (Eq.trans (cf3 (congrArg b245 (fu3 (ih))) _ _ _) rfl)
theorem ok {n  l0 a1 r} (h : f n l0 a1 = some r) : CallD Tryz.prog HW 86 [.ro .u64 l0, .int .i64 a1] (sg.enc r) :=
  fun_some hwS Tryz.func86 (by kernel_rfl) (body := code) (by kernel_rfl) tys_ok (c := cfg) noCall_ok noW_ok (by kernel_rfl) (by kernel_rfl) (Nat.le_of_ble_eq_true (by kernel_rfl)) (Eq.trans ((e0 (n := n)).trans (Eq.trans (cf2 (congrArg b0 (fu3 (q245 n n))) _ _) rfl)) h)
noncomputable def call {α : Type} (g : T13) (ds : List D) (K : List D→Ω α) : Ω α := match ds with
  | [.ro .u64 l0, .int .i64 a1] => (g l0 a1).bind fun r => K (sg.enc r)
  | _ => none
theorem call_ok {α : Type} {n : Nat} : COK Tryz.prog HW 86 (call (α := α) (f n)) := fun _ _ _ h => by
  unfold call at h; split at h
  · exact cok h fun _ => ok
  · cases h
end abacusref01_Bit
/-! ### abacusref01_Trail: function 95 -/
namespace abacusref01_Trail
noncomputable def b0 (k53 : T13) (l0 : Λ) : Ω (Int) := k53 l0 0
noncomputable def b53 (k53 : T13) (k53845 : T9) (x0 : Λ) (x1 : Int) : Ω (Int) := (if x1 < (ln x0) then (if 0 ≤ x1 then (if x1 < (ln x0) then (if ¬ (rd x0 x1) = 0 then (if 0 ≤ x1 then (if x1 < (ln x0) then k53845 (wrap64 (64 * x1)) (rd x0 x1) else none) else none) else k53 x0 (wrap64 (x1 + 1))) else none) else none) else some 0)
noncomputable def b53845 (k53845 : T9) (x0 x1 : Int) : Ω (Int) := (if (Int.tmod x1 2) = 0 then k53845 (wrap64 (x0 + 1)) (IntKind.u64.wrap (Int.tdiv x1 2)) else some x0)
noncomputable def l53845 (n : Nat) (k53 : T13) : Nat→Int→Int→Ω (Int)
  | 0, _, _ => none
  | m + 1, x0, x1 => b53845 (l53845 n k53 m) x0 x1
noncomputable def l53 (n : Nat) : Nat→Λ→Int→Ω (Int)
  | 0, _, _ => none
  | m + 1, x0, x1 => b53 (l53 n m) (l53845 n (l53 n m) n) x0 x1
noncomputable def f (n : Nat) (l0 : Λ) : Ω (Int) := b0 (l53 n n) l0
noncomputable def sg : Sig (Int) := s1 (sInt .i64)
noncomputable def code : Code := (Tryz.f95.body).getD .skip
noncomputable def cfg : Cfg (Int) := { T := tys, call := noCall }
noncomputable def cuts : List (Nat × List (Nat × Want)) := [(53, [(0, .keep), (3, .keep)]), (53845, [(4, .keep), (5, .keep)])]
noncomputable def s53 (x0 : Λ) (x1 : Int) : ASt := ⟨[(0, .ro .u64 x0), (3, .int .i64 x1)], []⟩
noncomputable def s53845 (x0 x1 : Int) : ASt := ⟨[(4, .int .i64 x0), (5, .int .u64 x1)], []⟩
noncomputable def A (n : Nat) (J : Jt (Int)) (q : Nat) (ms : List Nat) : ASt→Ω (Int) := acont cfg J cuts n q code 1 ms (aend cfg Tryz.f95.results.toList [false] sg.out)
theorem e0 {n J l0} : afun cfg J cuts n code Tryz.f95.results.toList [false] [.ro .u64 l0] sg.out = b0 (fun y0 y1 => J 53 (A n J 53 [n]) (s53 y0 y1)) l0 := by kernel_rfl
theorem e53 {n J m x0 x1} : A n J 53 [m + 1] (s53 x0 x1) = b53 (fun y0 y1 => J 53 (A n J 53 [m]) (s53 y0 y1)) (fun y0 y1 => J 53845 (A n J 53845 [m, n]) (s53845 y0 y1)) x0 x1 := by kernel_rfl
theorem e53845 {n J m53 m x0 x1} : A n J 53845 [m53, m + 1] (s53845 x0 x1) = b53845 (fun y0 y1 => J 53845 (A n J 53845 [m53, m]) (s53845 y0 y1)) x0 x1 := by kernel_rfl
noncomputable abbrev I (n : Nat) := A n idJ
theorem q53845 (n m53 m) : ∀ x0 x1, I n 53845 [m53, m] (s53845 x0 x1) = l53845 n (fun y0 y1 => I n 53 [m53] (s53 y0 y1)) m x0 x1 := by
  induction m with
  | zero => intros; rfl
  | succ m ih =>
    intros
    exact e53845.trans (Eq.trans (cf2 (congrArg b53845 (fu2 (ih))) _ _) rfl)
theorem q53 (n m) : ∀ x0 x1, I n 53 [m] (s53 x0 x1) = l53 n m x0 x1 := by
  induction m with
  | zero => intros; rfl
  | succ m ih =>
    intros
    exact e53.trans (Eq.trans (cf2 (congr (congrArg b53 (fu2 (ih))) ((fu2 (q53845 n m n)).trans (by rw [show (fun y0 y1 => I n 53 [m] (s53 y0 y1)) = _ from (fu2 (ih))]))) _ _) rfl)
theorem ok {n  l0 r} (h : f n l0 = some r) : CallD Tryz.prog HW 95 [.ro .u64 l0] (sg.enc r) :=
  fun_some hwS Tryz.func95 (by kernel_rfl) (body := code) (by kernel_rfl) tys_ok (c := cfg) noCall_ok noW_ok (by kernel_rfl) (by kernel_rfl) (Nat.le_of_ble_eq_true (by kernel_rfl)) (Eq.trans ((e0 (n := n)).trans (Eq.trans (cf1 (congrArg b0 (fu2 (q53 n n))) _) rfl)) h)
noncomputable def call {α : Type} (g : T1) (ds : List D) (K : List D→Ω α) : Ω α := match ds with
  | [.ro .u64 l0] => (g l0).bind fun r => K (sg.enc r)
  | _ => none
theorem call_ok {α : Type} {n : Nat} : COK Tryz.prog HW 95 (call (α := α) (f n)) := fun _ _ _ h => by
  unfold call at h; split at h
  · exact cok h fun _ => ok
  · cases h
end abacusref01_Trail
/-! ### abacusref04_Round: function 39 -/
namespace abacusref04_Round
noncomputable def b0 (c86 : T13) (c92 : T5) (c93 : T1) (c94 : T24) (c95 : T1) (k1023 : T86) (a0 : Bool) (l1 : Λ) (a2 : Int) (a3 : Bool) : Ω (Int × Int) := ((c92 l1).bind fun t1 => (if t1 = true then some (0, 2) else ((c93 l1).bind fun t2 => (if t2 = 0 then ((c94 a0 0 0).bind fun t3 => some (t3, 0)) else (if a2 < (-1048576) then ((c94 a0 0 0).bind fun t4 => some (t4, 0)) else (if a2 > 1048576 then ((c94 a0 2047 0).bind fun t5 => some (t5, 0)) else (if (wrap64 ((wrap64 (t2 - 1)) + a2)) > 1023 then ((c94 a0 2047 0).bind fun t6 => some (t6, 0)) else (if (wrap64 ((wrap64 ((wrap64 (t2 - 1)) + a2)) - 52)) < (-1074) then k1023 a0 l1 a2 a3 (wrap64 ((wrap64 (t2 - 1)) + a2)) (-1074) else k1023 a0 l1 a2 a3 (wrap64 ((wrap64 (t2 - 1)) + a2)) (wrap64 ((wrap64 ((wrap64 (t2 - 1)) + a2)) - 52))))))))))
noncomputable def b1023 (c86 : T13) (c92 : T5) (c93 : T1) (c94 : T24) (c95 : T1) (k32757 : T87) (x0 : Bool) (x1 : Λ) (x2 : Int) (x3 : Bool) (x4 x5 : Int) : Ω (Int × Int) := k32757 x0 x1 x2 x3 x5 0 x4
noncomputable def b4095 (c86 : T13) (c92 : T5) (c93 : T1) (c94 : T24) (c95 : T1) (k32767 : Bool→Int→Int→Ω (Int × Int)) (x0 : Bool) (x1 : Λ) (x2 : Int) (x3 : Bool) (x4 x5 : Int) : Ω (Int × Int) := ((c86 x1 (wrap64 ((wrap64 (x4 - 1)) - x2))).bind fun t1 => ((c95 x1).bind fun t2 => (if t1 = 1 then (if (wrap64 (t2 + x2)) < (wrap64 (x4 - 1)) then k32767 x0 x4 (IntKind.u64.wrap (x5 + 1)) else (if x3 = true then k32767 x0 x4 (IntKind.u64.wrap (x5 + 1)) else (if (Int.tmod x5 2) = 1 then k32767 x0 x4 (IntKind.u64.wrap (x5 + 1)) else k32767 x0 x4 x5))) else k32767 x0 x4 x5)))
noncomputable def b32757 (c86 : T13) (c92 : T5) (c93 : T1) (c94 : T24) (c95 : T1) (k4095 : T86) (k32757 : T87) (x0 : Bool) (x1 : Λ) (x2 : Int) (x3 : Bool) (x4 x5 x6 : Int) : Ω (Int × Int) := (if x6 ≥ x4 then ((c86 x1 (wrap64 (x6 - x2))).bind fun t1 => k32757 x0 x1 x2 x3 x4 (IntKind.u64.wrap ((IntKind.u64.wrap (2 * x5)) + (IntKind.u64.wrap t1))) (wrap64 (x6 - 1))) else k4095 x0 x1 x2 x3 x4 x5)
noncomputable def b32767 (c86 : T13) (c92 : T5) (c93 : T1) (c94 : T24) (c95 : T1) (x0 : Bool) (x1 x2 : Int) : Ω (Int × Int) := (if x2 < 4503599627370496 then ((c94 x0 0 x2).bind fun t1 => some (t1, 0)) else ((c94 x0 (wrap64 ((wrap64 (x1 + 1075)) - 1)) x2).bind fun t2 => some (t2, 0)))
noncomputable def l32767 (n : Nat) (x0 : Bool) (x1 x2 : Int) : Ω (Int × Int) := b32767 (abacusref01_Bit.f n) (abacusref01_Big.f n) (abacusref01_BitLen.f n) abacusref04_put.f (abacusref01_Trail.f n) x0 x1 x2
noncomputable def l4095 (n : Nat) (x0 : Bool) (x1 : Λ) (x2 : Int) (x3 : Bool) (x4 x5 : Int) : Ω (Int × Int) := b4095 (abacusref01_Bit.f n) (abacusref01_Big.f n) (abacusref01_BitLen.f n) abacusref04_put.f (abacusref01_Trail.f n) (l32767 n) x0 x1 x2 x3 x4 x5
noncomputable def l32757 (n : Nat) : Nat→Bool→Λ→Int→Bool→Int→Int→Int→Ω (Int × Int)
  | 0, _, _, _, _, _, _, _ => none
  | m + 1, x0, x1, x2, x3, x4, x5, x6 => b32757 (abacusref01_Bit.f n) (abacusref01_Big.f n) (abacusref01_BitLen.f n) abacusref04_put.f (abacusref01_Trail.f n) (l4095 n) (l32757 n m) x0 x1 x2 x3 x4 x5 x6
noncomputable def l1023 (n : Nat) (x0 : Bool) (x1 : Λ) (x2 : Int) (x3 : Bool) (x4 x5 : Int) : Ω (Int × Int) := b1023 (abacusref01_Bit.f n) (abacusref01_Big.f n) (abacusref01_BitLen.f n) abacusref04_put.f (abacusref01_Trail.f n) (l32757 n n) x0 x1 x2 x3 x4 x5
noncomputable def f (n : Nat) (a0 : Bool) (l1 : Λ) (a2 : Int) (a3 : Bool) : Ω (Int × Int) := b0 (abacusref01_Bit.f n) (abacusref01_Big.f n) (abacusref01_BitLen.f n) abacusref04_put.f (abacusref01_Trail.f n) (l1023 n) a0 l1 a2 a3
noncomputable def sg : Sig (Int × Int) := s2 (sInt .u64) (s1 (sInt .i64))
noncomputable def code : Code := (Tryz.f39.body).getD .skip
noncomputable def cfg (c86 : T13) (c92 : T5) (c93 : T1) (c94 : T24) (c95 : T1) : Cfg (Int × Int) := { T := tys, call := orCall 86 (abacusref01_Bit.call c86) (orCall 92 (abacusref01_Big.call c92) (orCall 93 (abacusref01_BitLen.call c93) (orCall 94 (abacusref04_put.call c94) (orCall 95 (abacusref01_Trail.call c95) (noCall))))) }
noncomputable def cuts : List (Nat × List (Nat × Want)) := [(1023, [(0, .keep), (1, .keep), (2, .keep), (3, .keep), (11, .keep), (12, .keep)]), (4095, [(0, .keep), (1, .keep), (2, .keep), (3, .keep), (12, .keep), (13, .keep)]), (32757, [(0, .keep), (1, .keep), (2, .keep), (3, .keep), (12, .keep), (13, .keep), (14, .keep)]), (32767, [(0, .keep), (12, .keep), (13, .keep)])]
noncomputable def s1023 (x0 : Bool) (x1 : Λ) (x2 : Int) (x3 : Bool) (x4 x5 : Int) : ASt := ⟨[(0, .bool x0), (1, .ro .u64 x1), (2, .int .i64 x2), (3, .bool x3), (11, .int .i64 x4), (12, .int .i64 x5)], []⟩
noncomputable def s4095 (x0 : Bool) (x1 : Λ) (x2 : Int) (x3 : Bool) (x4 x5 : Int) : ASt := ⟨[(0, .bool x0), (1, .ro .u64 x1), (2, .int .i64 x2), (3, .bool x3), (12, .int .i64 x4), (13, .int .u64 x5)], []⟩
noncomputable def s32757 (x0 : Bool) (x1 : Λ) (x2 : Int) (x3 : Bool) (x4 x5 x6 : Int) : ASt := ⟨[(0, .bool x0), (1, .ro .u64 x1), (2, .int .i64 x2), (3, .bool x3), (12, .int .i64 x4), (13, .int .u64 x5), (14, .int .i64 x6)], []⟩
noncomputable def s32767 (x0 : Bool) (x1 x2 : Int) : ASt := ⟨[(0, .bool x0), (12, .int .i64 x1), (13, .int .u64 x2)], []⟩
noncomputable def A (c86 : T13) (c92 : T5) (c93 : T1) (c94 : T24) (c95 : T1) (n : Nat) (J : Jt (Int × Int)) (q : Nat) (ms : List Nat) : ASt→Ω (Int × Int) := acont (cfg c86 c92 c93 c94 c95) J cuts n q code 1 ms (aend (cfg c86 c92 c93 c94 c95) Tryz.f39.results.toList [false, false] sg.out)
theorem e0 {c86 c92 c93 c94 c95 n J a0 l1 a2 a3} : afun (cfg c86 c92 c93 c94 c95) J cuts n code Tryz.f39.results.toList [false, false] [.bool a0, .ro .u64 l1, .int .i64 a2, .bool a3] sg.out = b0 c86 c92 c93 c94 c95 (fun y0 y1 y2 y3 y4 y5 => J 1023 (A c86 c92 c93 c94 c95 n J 1023 []) (s1023 y0 y1 y2 y3 y4 y5)) a0 l1 a2 a3 := by kernel_rfl
theorem e1023 {c86 c92 c93 c94 c95 n J x0 x1 x2 x3 x4 x5} : A c86 c92 c93 c94 c95 n J 1023 [] (s1023 x0 x1 x2 x3 x4 x5) = b1023 c86 c92 c93 c94 c95 (fun y0 y1 y2 y3 y4 y5 y6 => J 32757 (A c86 c92 c93 c94 c95 n J 32757 [n]) (s32757 y0 y1 y2 y3 y4 y5 y6)) x0 x1 x2 x3 x4 x5 := by kernel_rfl
theorem e4095 {c86 c92 c93 c94 c95 n J x0 x1 x2 x3 x4 x5} : A c86 c92 c93 c94 c95 n J 4095 [] (s4095 x0 x1 x2 x3 x4 x5) = b4095 c86 c92 c93 c94 c95 (fun y0 y1 y2 => J 32767 (A c86 c92 c93 c94 c95 n J 32767 []) (s32767 y0 y1 y2)) x0 x1 x2 x3 x4 x5 := by kernel_rfl
theorem e32757 {c86 c92 c93 c94 c95 n J m x0 x1 x2 x3 x4 x5 x6} : A c86 c92 c93 c94 c95 n J 32757 [m + 1] (s32757 x0 x1 x2 x3 x4 x5 x6) = b32757 c86 c92 c93 c94 c95 (fun y0 y1 y2 y3 y4 y5 => J 4095 (A c86 c92 c93 c94 c95 n J 4095 []) (s4095 y0 y1 y2 y3 y4 y5)) (fun y0 y1 y2 y3 y4 y5 y6 => J 32757 (A c86 c92 c93 c94 c95 n J 32757 [m]) (s32757 y0 y1 y2 y3 y4 y5 y6)) x0 x1 x2 x3 x4 x5 x6 := by kernel_rfl
theorem e32767 {c86 c92 c93 c94 c95 n J x0 x1 x2} : A c86 c92 c93 c94 c95 n J 32767 [] (s32767 x0 x1 x2) = b32767 c86 c92 c93 c94 c95 x0 x1 x2 := by kernel_rfl
noncomputable abbrev I (n : Nat) := A (abacusref01_Bit.f n) (abacusref01_Big.f n) (abacusref01_BitLen.f n) abacusref04_put.f (abacusref01_Trail.f n) n idJ
theorem q32767 (n x0 x1 x2) : I n 32767 [] (s32767 x0 x1 x2) = l32767 n x0 x1 x2 := e32767
theorem q4095 (n x0 x1 x2 x3 x4 x5) : I n 4095 [] (s4095 x0 x1 x2 x3 x4 x5) = l4095 n x0 x1 x2 x3 x4 x5 := e4095.trans (Eq.trans (cf6 (congrArg (b4095 _ _ _ _ _) (fu3 (q32767 n))) _ _ _ _ _ _) rfl)
theorem q32757 (n m) : ∀ x0 x1 x2 x3 x4 x5 x6, I n 32757 [m] (s32757 x0 x1 x2 x3 x4 x5 x6) = l32757 n m x0 x1 x2 x3 x4 x5 x6 := by
  induction m with
  | zero => intros; rfl
  | succ m ih =>
    intros
    exact e32757.trans (Eq.trans (cf7 (congr (congrArg (b32757 _ _ _ _ _) (fu6 (q4095 n))) (fu7 (ih))) _ _ _ _ _ _ _) rfl)
theorem q1023 (n x0 x1 x2 x3 x4 x5) : I n 1023 [] (s1023 x0 x1 x2 x3 x4 x5) = l1023 n x0 x1 x2 x3 x4 x5 := e1023.trans (Eq.trans (cf6 (congrArg (b1023 _ _ _ _ _) (fu7 (q32757 n n))) _ _ _ _ _ _) rfl)
theorem ok {n  a0 l1 a2 a3 r} (h : f n a0 l1 a2 a3 = some r) : CallD Tryz.prog HW 39 [.bool a0, .ro .u64 l1, .int .i64 a2, .bool a3] (sg.enc r) :=
  fun_some hwS Tryz.func39 (by kernel_rfl) (body := code) (by kernel_rfl) tys_ok (c := cfg (abacusref01_Bit.f n) (abacusref01_Big.f n) (abacusref01_BitLen.f n) abacusref04_put.f (abacusref01_Trail.f n)) (orCall_ok (abacusref01_Bit.call_ok (n := n)) (orCall_ok (abacusref01_Big.call_ok (n := n)) (orCall_ok (abacusref01_BitLen.call_ok (n := n)) (orCall_ok abacusref04_put.call_ok (orCall_ok (abacusref01_Trail.call_ok (n := n)) noCall_ok))))) noW_ok (by kernel_rfl) (by kernel_rfl) (Nat.le_of_ble_eq_true (by kernel_rfl)) (Eq.trans ((e0 (n := n)).trans (Eq.trans (cf4 (congrArg (b0 _ _ _ _ _) (fu6 (q1023 n))) _ _ _ _) rfl)) h)
noncomputable def call {α : Type} (g : T6) (ds : List D) (K : List D→Ω α) : Ω α := match ds with
  | [.bool a0, .ro .u64 l1, .int .i64 a2, .bool a3] => (g a0 l1 a2 a3).bind fun r => K (sg.enc r)
  | _ => none
theorem call_ok {α : Type} {n : Nat} : COK Tryz.prog HW 39 (call (α := α) (f n)) := fun _ _ _ h => by
  unfold call at h; split at h
  · exact cok h fun _ => ok
  · cases h
end abacusref04_Round
/-! ### abacusref04_FromUint: function 100 -/
namespace abacusref04_FromUint
noncomputable def b0 (c39 : T6) (a0 : Int) : Ω (Int) := ((c39 false [a0] 0 false).bind fun t1 => some t1.1)
noncomputable def f (n : Nat) (a0 : Int) : Ω (Int) := b0 (abacusref04_Round.f n) a0
noncomputable def sg : Sig (Int) := s1 (sInt .u64)
noncomputable def code : Code := (Tryz.f100.body).getD .skip
noncomputable def cfg (c39 : T6) : Cfg (Int) := { T := tys, call := orCall 39 (abacusref04_Round.call c39) (noCall) }
noncomputable def cuts : List (Nat × List (Nat × Want)) := []
theorem e0 {c39 n J a0} : afun (cfg c39) J cuts n code Tryz.f100.results.toList [false] [.int .u64 a0] sg.out = b0 c39 a0 := by kernel_rfl
theorem ok {n  a0 r} (h : f n a0 = some r) : CallD Tryz.prog HW 100 [.int .u64 a0] (sg.enc r) :=
  fun_some hwS Tryz.func100 (by kernel_rfl) (body := code) (by kernel_rfl) tys_ok (c := cfg (abacusref04_Round.f n)) (orCall_ok (abacusref04_Round.call_ok (n := n)) noCall_ok) noW_ok (by kernel_rfl) (by kernel_rfl) (Nat.le_of_ble_eq_true (by kernel_rfl)) (Eq.trans ((e0 (n := n))) h)
noncomputable def call {α : Type} (g : T0) (ds : List D) (K : List D→Ω α) : Ω α := match ds with
  | [.int .u64 a0] => (g a0).bind fun r => K (sg.enc r)
  | _ => none
theorem call_ok {α : Type} {n : Nat} : COK Tryz.prog HW 100 (call (α := α) (f n)) := fun _ _ _ h => by
  unfold call at h; split at h
  · exact cok h fun _ => ok
  · cases h
end abacusref04_FromUint
/-! ### abacusref06_signed: function 77 -/
namespace abacusref06_signed
noncomputable def b0 (a0 : Bool) (a1 : Int) : Ω (Int) := (if a0 = true then some (IntKind.u64.wrap (a1 + 9223372036854775808)) else some a1)
noncomputable def f (a0 : Bool) (a1 : Int) : Ω (Int) := b0 a0 a1
noncomputable def sg : Sig (Int) := s1 (sInt .u64)
noncomputable def code : Code := (Tryz.f77.body).getD .skip
noncomputable def cfg : Cfg (Int) := { T := tys, call := noCall }
noncomputable def cuts : List (Nat × List (Nat × Want)) := []
theorem e0 {n J a0 a1} : afun cfg J cuts n code Tryz.f77.results.toList [false] [.bool a0, .int .u64 a1] sg.out = b0 a0 a1 := by kernel_rfl
theorem ok {a0 a1 r} (h : f a0 a1 = some r) : CallD Tryz.prog HW 77 [.bool a0, .int .u64 a1] (sg.enc r) :=
  fun_some hwS Tryz.func77 (by kernel_rfl) (body := code) (by kernel_rfl) tys_ok (c := cfg) noCall_ok noW_ok (by kernel_rfl) (by kernel_rfl) (Nat.le_of_ble_eq_true (by kernel_rfl)) (Eq.trans ((e0 (n := 0))) h)
noncomputable def call {α : Type} (g : T7) (ds : List D) (K : List D→Ω α) : Ω α := match ds with
  | [.bool a0, .int .u64 a1] => (g a0 a1).bind fun r => K (sg.enc r)
  | _ => none
theorem call_ok {α : Type} : COK Tryz.prog HW 77 (call (α := α) f) := fun _ _ _ h => by
  unfold call at h; split at h
  · exact cok h fun _ => ok
  · cases h
end abacusref06_signed
/-! ### abacusref06_whole: function 72 -/
namespace abacusref06_whole
noncomputable def b0 (c38 : T2) (c77 : T7) (c78 : T27) (c100 : T0) (k127 : T36) (a0 a1 : Int) : Ω (Int) := ((c38 a0).bind fun t1 => (if t1.2.1 = 4 then some 9221120237041090560 else (if t1.2.1 = 3 then some a0 else (if t1.2.2.2 ≥ 0 then some a0 else ((c78 t1.1 t1.2.1 t1.2.2.1 t1.2.2.2).bind fun t2 => (if a1 = 1 then (if t1.1 = true then (if t2.2 > 0 then k127 (IntKind.u64.wrap (t2.1 + 1)) t1.1 t1.2.1 t1.2.2.1 t1.2.2.2 else k127 t2.1 t1.1 t1.2.1 t1.2.2.1 t1.2.2.2) else k127 t2.1 t1.1 t1.2.1 t1.2.2.1 t1.2.2.2) else (if a1 = 2 then (if (!t1.1) = true then (if t2.2 > 0 then k127 (IntKind.u64.wrap (t2.1 + 1)) t1.1 t1.2.1 t1.2.2.1 t1.2.2.2 else k127 t2.1 t1.1 t1.2.1 t1.2.2.1 t1.2.2.2) else k127 t2.1 t1.1 t1.2.1 t1.2.2.1 t1.2.2.2) else (if a1 = 3 then (if t2.2 = 3 then k127 (IntKind.u64.wrap (t2.1 + 1)) t1.1 t1.2.1 t1.2.2.1 t1.2.2.2 else (if t2.2 = 2 then (if (Int.tmod t2.1 2) = 1 then k127 (IntKind.u64.wrap (t2.1 + 1)) t1.1 t1.2.1 t1.2.2.1 t1.2.2.2 else k127 t2.1 t1.1 t1.2.1 t1.2.2.1 t1.2.2.2) else k127 t2.1 t1.1 t1.2.1 t1.2.2.1 t1.2.2.2)) else k127 t2.1 t1.1 t1.2.1 t1.2.2.1 t1.2.2.2))))))))
noncomputable def b127 (c38 : T2) (c77 : T7) (c78 : T27) (c100 : T0) (x0 : Int) (x1 : Bool) (x2 x3 x4 : Int) : Ω (Int) := ((c100 x0).bind fun t1 => ((c77 x1 t1).bind fun t2 => some t2))
noncomputable def l127 (n : Nat) (x0 : Int) (x1 : Bool) (x2 x3 x4 : Int) : Ω (Int) := b127 abacusref04_Decode.f abacusref06_signed.f (abacusref06_Cut.f n) (abacusref04_FromUint.f n) x0 x1 x2 x3 x4
noncomputable def f (n : Nat) (a0 a1 : Int) : Ω (Int) := b0 abacusref04_Decode.f abacusref06_signed.f (abacusref06_Cut.f n) (abacusref04_FromUint.f n) (l127 n) a0 a1
noncomputable def sg : Sig (Int) := s1 (sInt .u64)
noncomputable def code : Code := (Tryz.f72.body).getD .skip
noncomputable def cfg (c38 : T2) (c77 : T7) (c78 : T27) (c100 : T0) : Cfg (Int) := { T := tys, call := orCall 38 (abacusref04_Decode.call c38) (orCall 77 (abacusref06_signed.call c77) (orCall 78 (abacusref06_Cut.call c78) (orCall 100 (abacusref04_FromUint.call c100) (noCall)))) }
noncomputable def cuts : List (Nat × List (Nat × Want)) := [(127, [(5, .keep), (6, .keep)])]
noncomputable def s127 (x0 : Int) (x1 : Bool) (x2 x3 x4 : Int) : ASt := ⟨[(5, .ptr 0 0), (6, .int .u64 x0)], [.cells 54 [.bool x1, .int .i64 x2, .int .u64 x3, .int .i64 x4]]⟩
noncomputable def A (c38 : T2) (c77 : T7) (c78 : T27) (c100 : T0) (n : Nat) (J : Jt (Int)) (q : Nat) (ms : List Nat) : ASt→Ω (Int) := acont (cfg c38 c77 c78 c100) J cuts n q code 1 ms (aend (cfg c38 c77 c78 c100) Tryz.f72.results.toList [false] sg.out)
theorem e0 {c38 c77 c78 c100 n J a0 a1} : afun (cfg c38 c77 c78 c100) J cuts n code Tryz.f72.results.toList [false] [.int .u64 a0, .int .i64 a1] sg.out = b0 c38 c77 c78 c100 (fun y0 y1 y2 y3 y4 => J 127 (A c38 c77 c78 c100 n J 127 []) (s127 y0 y1 y2 y3 y4)) a0 a1 := by kernel_rfl
theorem e127 {c38 c77 c78 c100 n J x0 x1 x2 x3 x4} : A c38 c77 c78 c100 n J 127 [] (s127 x0 x1 x2 x3 x4) = b127 c38 c77 c78 c100 x0 x1 x2 x3 x4 := by kernel_rfl
noncomputable abbrev I (n : Nat) := A abacusref04_Decode.f abacusref06_signed.f (abacusref06_Cut.f n) (abacusref04_FromUint.f n) n idJ
theorem q127 (n x0 x1 x2 x3 x4) : I n 127 [] (s127 x0 x1 x2 x3 x4) = l127 n x0 x1 x2 x3 x4 := e127
theorem ok {n  a0 a1 r} (h : f n a0 a1 = some r) : CallD Tryz.prog HW 72 [.int .u64 a0, .int .i64 a1] (sg.enc r) :=
  fun_some hwS Tryz.func72 (by kernel_rfl) (body := code) (by kernel_rfl) tys_ok (c := cfg abacusref04_Decode.f abacusref06_signed.f (abacusref06_Cut.f n) (abacusref04_FromUint.f n)) (orCall_ok abacusref04_Decode.call_ok (orCall_ok abacusref06_signed.call_ok (orCall_ok (abacusref06_Cut.call_ok (n := n)) (orCall_ok (abacusref04_FromUint.call_ok (n := n)) noCall_ok)))) noW_ok (by kernel_rfl) (by kernel_rfl) (Nat.le_of_ble_eq_true (by kernel_rfl)) (Eq.trans ((e0 (n := n)).trans (Eq.trans (cf2 (congrArg (b0 _ _ _ _) (fu5 (q127 n))) _ _) rfl)) h)
noncomputable def call {α : Type} (g : T9) (ds : List D) (K : List D→Ω α) : Ω α := match ds with
  | [.int .u64 a0, .int .i64 a1] => (g a0 a1).bind fun r => K (sg.enc r)
  | _ => none
theorem call_ok {α : Type} {n : Nat} : COK Tryz.prog HW 72 (call (α := α) (f n)) := fun _ _ _ h => by
  unfold call at h; split at h
  · exact cok h fun _ => ok
  · cases h
end abacusref06_whole
/-! ### abacusref06_Trunc: function 24 -/
namespace abacusref06_Trunc
noncomputable def b0 (c72 : T9) (a0 : Int) : Ω (Int) := ((c72 a0 0).bind fun t1 => some t1)
noncomputable def f (n : Nat) (a0 : Int) : Ω (Int) := b0 (abacusref06_whole.f n) a0
noncomputable def sg : Sig (Int) := s1 (sInt .u64)
noncomputable def code : Code := (Tryz.f24.body).getD .skip
noncomputable def cfg (c72 : T9) : Cfg (Int) := { T := tys, call := orCall 72 (abacusref06_whole.call c72) (noCall) }
noncomputable def cuts : List (Nat × List (Nat × Want)) := []
theorem e0 {c72 n J a0} : afun (cfg c72) J cuts n code Tryz.f24.results.toList [false] [.int .u64 a0] sg.out = b0 c72 a0 := by kernel_rfl
theorem ok {n  a0 r} (h : f n a0 = some r) : CallD Tryz.prog HW 24 [.int .u64 a0] (sg.enc r) :=
  fun_some hwS Tryz.func24 (by kernel_rfl) (body := code) (by kernel_rfl) tys_ok (c := cfg (abacusref06_whole.f n)) (orCall_ok (abacusref06_whole.call_ok (n := n)) noCall_ok) noW_ok (by kernel_rfl) (by kernel_rfl) (Nat.le_of_ble_eq_true (by kernel_rfl)) (Eq.trans ((e0 (n := n))) h)
noncomputable def call {α : Type} (g : T0) (ds : List D) (K : List D→Ω α) : Ω α := match ds with
  | [.int .u64 a0] => (g a0).bind fun r => K (sg.enc r)
  | _ => none
theorem call_ok {α : Type} {n : Nat} : COK Tryz.prog HW 24 (call (α := α) (f n)) := fun _ _ _ h => by
  unfold call at h; split at h
  · exact cok h fun _ => ok
  · cases h
end abacusref06_Trunc
/-! ### remain_Floor_1: function 73 -/
namespace remain_Floor_1
noncomputable def b0 (a0 : Bool) (a1 a2 : Int) : Ω (Bool) := some a0
noncomputable def f (a0 : Bool) (a1 a2 : Int) : Ω (Bool) := b0 a0 a1 a2
noncomputable def sg : Sig (Bool) := s1 (sBool)
noncomputable def code : Code := (Tryz.f73.body).getD .skip
noncomputable def cfg : Cfg (Bool) := { T := tys, call := noCall }
noncomputable def cuts : List (Nat × List (Nat × Want)) := []
theorem e0 {n J a0 a1 a2} : afun cfg J cuts n code Tryz.f73.results.toList [false] [.bool a0, .int .u64 a1, .int .i64 a2] sg.out = b0 a0 a1 a2 := by kernel_rfl
theorem ok {a0 a1 a2 r} (h : f a0 a1 a2 = some r) : CallD Tryz.prog HW 73 [.bool a0, .int .u64 a1, .int .i64 a2] (sg.enc r) :=
  fun_some hwS Tryz.func73 (by kernel_rfl) (body := code) (by kernel_rfl) tys_ok (c := cfg) noCall_ok noW_ok (by kernel_rfl) (by kernel_rfl) (Nat.le_of_ble_eq_true (by kernel_rfl)) (Eq.trans ((e0 (n := 0))) h)
noncomputable def call {α : Type} (g : T15) (ds : List D) (K : List D→Ω α) : Ω α := match ds with
  | [.bool a0, .int .u64 a1, .int .i64 a2] => (g a0 a1 a2).bind fun r => K (sg.enc r)
  | _ => none
theorem call_ok {α : Type} : COK Tryz.prog HW 73 (call (α := α) f) := fun _ _ _ h => by
  unfold call at h; split at h
  · exact cok h fun _ => ok
  · cases h
end remain_Floor_1
/-! ### remain_round_73: function 63 -/
namespace remain_round_73
noncomputable def b0 (c36 : T2) (c68 : T7) (c73 : T15) (c121 : T0) (k255 : T45) (a0 : Int) : Ω (Int) := ((c36 a0).bind fun t1 => (if t1.2.1 = 4 then some 9221120237041090560 else (if t1.2.1 = 3 then some a0 else (if t1.2.1 = 0 then some a0 else (if t1.2.2.2 ≥ 0 then some a0 else (if (wrap64 (-t1.2.2.2)) ≤ 63 then (if 0 ≤ (wrap64 (-t1.2.2.2)) then (if 0 ≤ (wrap64 (-t1.2.2.2)) then (if 0 ≤ (wrap64 ((wrap64 (-t1.2.2.2)) - 1)) then (if (Go.bits .and .u64 t1.2.2.1 (IntKind.u64.wrap ((shl .u64 1 (wrap64 (-t1.2.2.2))) - 1))) = 0 then k255 (shr .u64 t1.2.2.1 (wrap64 (-t1.2.2.2))) 0 t1.1 t1.2.1 t1.2.2.1 t1.2.2.2 else (if (Go.bits .and .u64 t1.2.2.1 (IntKind.u64.wrap ((shl .u64 1 (wrap64 (-t1.2.2.2))) - 1))) = (shl .u64 1 (wrap64 ((wrap64 (-t1.2.2.2)) - 1))) then k255 (shr .u64 t1.2.2.1 (wrap64 (-t1.2.2.2))) 2 t1.1 t1.2.1 t1.2.2.1 t1.2.2.2 else (if (Go.bits .and .u64 t1.2.2.1 (IntKind.u64.wrap ((shl .u64 1 (wrap64 (-t1.2.2.2))) - 1))) > (shl .u64 1 (wrap64 ((wrap64 (-t1.2.2.2)) - 1))) then k255 (shr .u64 t1.2.2.1 (wrap64 (-t1.2.2.2))) 3 t1.1 t1.2.1 t1.2.2.1 t1.2.2.2 else k255 (shr .u64 t1.2.2.1 (wrap64 (-t1.2.2.2))) 1 t1.1 t1.2.1 t1.2.2.1 t1.2.2.2))) else none) else none) else none) else k255 0 1 t1.1 t1.2.1 t1.2.2.1 t1.2.2.2))))))
noncomputable def b255 (c36 : T2) (c68 : T7) (c73 : T15) (c121 : T0) (k511 : T36) (x0 x1 : Int) (x2 : Bool) (x3 x4 x5 : Int) : Ω (Int) := (if ¬ x1 = 0 then ((c73 x2 x0 x1).bind fun t1 => (if t1 = true then k511 (IntKind.u64.wrap (x0 + 1)) x2 x3 x4 x5 else k511 x0 x2 x3 x4 x5)) else k511 x0 x2 x3 x4 x5)
noncomputable def b511 (c36 : T2) (c68 : T7) (c73 : T15) (c121 : T0) (x0 : Int) (x1 : Bool) (x2 x3 x4 : Int) : Ω (Int) := ((c121 x0).bind fun t1 => ((c68 x1 t1).bind fun t2 => some t2))
noncomputable def l511 (n : Nat) (x0 : Int) (x1 : Bool) (x2 x3 x4 : Int) : Ω (Int) := b511 ieee_Decode.f remain_signed.f remain_Floor_1.f (ieee_FromUint.f n) x0 x1 x2 x3 x4
noncomputable def l255 (n : Nat) (x0 x1 : Int) (x2 : Bool) (x3 x4 x5 : Int) : Ω (Int) := b255 ieee_Decode.f remain_signed.f remain_Floor_1.f (ieee_FromUint.f n) (l511 n) x0 x1 x2 x3 x4 x5
noncomputable def f (n : Nat) (a0 : Int) : Ω (Int) := b0 ieee_Decode.f remain_signed.f remain_Floor_1.f (ieee_FromUint.f n) (l255 n) a0
noncomputable def sg : Sig (Int) := s1 (sInt .u64)
noncomputable def code : Code := (Tryz.f63.body).getD .skip
noncomputable def cfg (c36 : T2) (c68 : T7) (c73 : T15) (c121 : T0) : Cfg (Int) := { T := tys, call := orCall 36 (ieee_Decode.call c36) (orCall 68 (remain_signed.call c68) (orCall 73 (remain_Floor_1.call c73) (orCall 121 (ieee_FromUint.call c121) (noCall)))) }
noncomputable def cuts : List (Nat × List (Nat × Want)) := [(255, [(1, .keep), (5, .keep), (7, .keep), (8, .keep)]), (511, [(5, .keep), (7, .keep)])]
noncomputable def s255 (x0 x1 : Int) (x2 : Bool) (x3 x4 x5 : Int) : ASt := ⟨[(1, .fn 73), (5, .ptr 0 0), (7, .int .u64 x0), (8, .int .i64 x1)], [.cells 54 [.bool x2, .int .i64 x3, .int .u64 x4, .int .i64 x5]]⟩
noncomputable def s511 (x0 : Int) (x1 : Bool) (x2 x3 x4 : Int) : ASt := ⟨[(5, .ptr 0 0), (7, .int .u64 x0)], [.cells 54 [.bool x1, .int .i64 x2, .int .u64 x3, .int .i64 x4]]⟩
noncomputable def A (c36 : T2) (c68 : T7) (c73 : T15) (c121 : T0) (n : Nat) (J : Jt (Int)) (q : Nat) (ms : List Nat) : ASt→Ω (Int) := acont (cfg c36 c68 c73 c121) J cuts n q code 1 ms (aend (cfg c36 c68 c73 c121) Tryz.f63.results.toList [false] sg.out)
theorem e0 {c36 c68 c73 c121 n J a0} : afun (cfg c36 c68 c73 c121) J cuts n code Tryz.f63.results.toList [false] [.int .u64 a0, .fn 73] sg.out = b0 c36 c68 c73 c121 (fun y0 y1 y2 y3 y4 y5 => J 255 (A c36 c68 c73 c121 n J 255 []) (s255 y0 y1 y2 y3 y4 y5)) a0 := by kernel_rfl
theorem e255 {c36 c68 c73 c121 n J x0 x1 x2 x3 x4 x5} : A c36 c68 c73 c121 n J 255 [] (s255 x0 x1 x2 x3 x4 x5) = b255 c36 c68 c73 c121 (fun y0 y1 y2 y3 y4 => J 511 (A c36 c68 c73 c121 n J 511 []) (s511 y0 y1 y2 y3 y4)) x0 x1 x2 x3 x4 x5 := by kernel_rfl
theorem e511 {c36 c68 c73 c121 n J x0 x1 x2 x3 x4} : A c36 c68 c73 c121 n J 511 [] (s511 x0 x1 x2 x3 x4) = b511 c36 c68 c73 c121 x0 x1 x2 x3 x4 := by kernel_rfl
noncomputable abbrev I (n : Nat) := A ieee_Decode.f remain_signed.f remain_Floor_1.f (ieee_FromUint.f n) n idJ
theorem q511 (n x0 x1 x2 x3 x4) : I n 511 [] (s511 x0 x1 x2 x3 x4) = l511 n x0 x1 x2 x3 x4 := e511
theorem q255 (n x0 x1 x2 x3 x4 x5) : I n 255 [] (s255 x0 x1 x2 x3 x4 x5) = l255 n x0 x1 x2 x3 x4 x5 := e255.trans (Eq.trans (cf6 (congrArg (b255 _ _ _ _) (fu5 (q511 n))) _ _ _ _ _ _) rfl)
theorem ok {n  a0 r} (h : f n a0 = some r) : CallD Tryz.prog HW 63 [.int .u64 a0, .fn 73] (sg.enc r) :=
  fun_some hwS Tryz.func63 (by kernel_rfl) (body := code) (by kernel_rfl) tys_ok (c := cfg ieee_Decode.f remain_signed.f remain_Floor_1.f (ieee_FromUint.f n)) (orCall_ok ieee_Decode.call_ok (orCall_ok remain_signed.call_ok (orCall_ok remain_Floor_1.call_ok (orCall_ok (ieee_FromUint.call_ok (n := n)) noCall_ok)))) noW_ok (by kernel_rfl) (by kernel_rfl) (Nat.le_of_ble_eq_true (by kernel_rfl)) (Eq.trans ((e0 (n := n)).trans (Eq.trans (cf1 (congrArg (b0 _ _ _ _) (fu6 (q255 n))) _) rfl)) h)
noncomputable def call {α : Type} (g : T0) (ds : List D) (K : List D→Ω α) : Ω α := match ds with
  | [.int .u64 a0, .fn f0] => (match Nat.beq f0 73 with
    | true => (g a0).bind fun r => K (sg.enc r)
    | false => none)
  | _ => none
theorem call_ok {α : Type} {n : Nat} (ds : List D) (K : List D→Ω α) (r : α) (h : call (f n) ds K = some r) : ∃ rs, K rs = some r ∧ CallD Tryz.prog HW 63 ds rs := by
  unfold call at h
  split at h
  · split at h
    · rename_i hq
      rw [Nat.eq_of_beq_eq_true hq]
      obtain ⟨x, hx, hk⟩ := Option.bind_eq_some_iff.1 h
      exact ⟨_, hk, ok (n := n) hx⟩
    · cases h
  · cases h
end remain_round_73
/-! ### remain_Floor: function 25 -/
namespace remain_Floor
noncomputable def b0 (c630073 : T0) (a0 : Int) : Ω (Int) := ((c630073 a0).bind fun t1 => some t1)
noncomputable def f (n : Nat) (a0 : Int) : Ω (Int) := b0 (remain_round_73.f n) a0
noncomputable def sg : Sig (Int) := s1 (sInt .u64)
noncomputable def code : Code := (Tryz.f25.body).getD .skip
noncomputable def cfg (c630073 : T0) : Cfg (Int) := { T := tys, call := orCall 63 (remain_round_73.call c630073) (noCall) }
noncomputable def cuts : List (Nat × List (Nat × Want)) := []
theorem e0 {c630073 n J a0} : afun (cfg c630073) J cuts n code Tryz.f25.results.toList [false] [.int .u64 a0] sg.out = b0 c630073 a0 := by kernel_rfl
theorem ok {n  a0 r} (h : f n a0 = some r) : CallD Tryz.prog HW 25 [.int .u64 a0] (sg.enc r) :=
  fun_some hwS Tryz.func25 (by kernel_rfl) (body := code) (by kernel_rfl) tys_ok (c := cfg (remain_round_73.f n)) (orCall_ok (remain_round_73.call_ok (n := n)) noCall_ok) noW_ok (by kernel_rfl) (by kernel_rfl) (Nat.le_of_ble_eq_true (by kernel_rfl)) (Eq.trans ((e0 (n := n))) h)
noncomputable def call {α : Type} (g : T0) (ds : List D) (K : List D→Ω α) : Ω α := match ds with
  | [.int .u64 a0] => (g a0).bind fun r => K (sg.enc r)
  | _ => none
theorem call_ok {α : Type} {n : Nat} : COK Tryz.prog HW 25 (call (α := α) (f n)) := fun _ _ _ h => by
  unfold call at h; split at h
  · exact cok h fun _ => ok
  · cases h
end remain_Floor
/-! ### abacusref06_Floor: function 26 -/
namespace abacusref06_Floor
noncomputable def b0 (c72 : T9) (a0 : Int) : Ω (Int) := ((c72 a0 1).bind fun t1 => some t1)
noncomputable def f (n : Nat) (a0 : Int) : Ω (Int) := b0 (abacusref06_whole.f n) a0
noncomputable def sg : Sig (Int) := s1 (sInt .u64)
noncomputable def code : Code := (Tryz.f26.body).getD .skip
noncomputable def cfg (c72 : T9) : Cfg (Int) := { T := tys, call := orCall 72 (abacusref06_whole.call c72) (noCall) }
noncomputable def cuts : List (Nat × List (Nat × Want)) := []
theorem e0 {c72 n J a0} : afun (cfg c72) J cuts n code Tryz.f26.results.toList [false] [.int .u64 a0] sg.out = b0 c72 a0 := by kernel_rfl
theorem ok {n  a0 r} (h : f n a0 = some r) : CallD Tryz.prog HW 26 [.int .u64 a0] (sg.enc r) :=
  fun_some hwS Tryz.func26 (by kernel_rfl) (body := code) (by kernel_rfl) tys_ok (c := cfg (abacusref06_whole.f n)) (orCall_ok (abacusref06_whole.call_ok (n := n)) noCall_ok) noW_ok (by kernel_rfl) (by kernel_rfl) (Nat.le_of_ble_eq_true (by kernel_rfl)) (Eq.trans ((e0 (n := n))) h)
noncomputable def call {α : Type} (g : T0) (ds : List D) (K : List D→Ω α) : Ω α := match ds with
  | [.int .u64 a0] => (g a0).bind fun r => K (sg.enc r)
  | _ => none
theorem call_ok {α : Type} {n : Nat} : COK Tryz.prog HW 26 (call (α := α) (f n)) := fun _ _ _ h => by
  unfold call at h; split at h
  · exact cok h fun _ => ok
  · cases h
end abacusref06_Floor
/-! ### remain_Ceil_1: function 74 -/
namespace remain_Ceil_1
noncomputable def b0 (a0 : Bool) (a1 a2 : Int) : Ω (Bool) := some (!a0)
noncomputable def f (a0 : Bool) (a1 a2 : Int) : Ω (Bool) := b0 a0 a1 a2
noncomputable def sg : Sig (Bool) := s1 (sBool)
noncomputable def code : Code := (Tryz.f74.body).getD .skip
noncomputable def cfg : Cfg (Bool) := { T := tys, call := noCall }
noncomputable def cuts : List (Nat × List (Nat × Want)) := []
theorem e0 {n J a0 a1 a2} : afun cfg J cuts n code Tryz.f74.results.toList [false] [.bool a0, .int .u64 a1, .int .i64 a2] sg.out = b0 a0 a1 a2 := by kernel_rfl
theorem ok {a0 a1 a2 r} (h : f a0 a1 a2 = some r) : CallD Tryz.prog HW 74 [.bool a0, .int .u64 a1, .int .i64 a2] (sg.enc r) :=
  fun_some hwS Tryz.func74 (by kernel_rfl) (body := code) (by kernel_rfl) tys_ok (c := cfg) noCall_ok noW_ok (by kernel_rfl) (by kernel_rfl) (Nat.le_of_ble_eq_true (by kernel_rfl)) (Eq.trans ((e0 (n := 0))) h)
noncomputable def call {α : Type} (g : T15) (ds : List D) (K : List D→Ω α) : Ω α := match ds with
  | [.bool a0, .int .u64 a1, .int .i64 a2] => (g a0 a1 a2).bind fun r => K (sg.enc r)
  | _ => none
theorem call_ok {α : Type} : COK Tryz.prog HW 74 (call (α := α) f) := fun _ _ _ h => by
  unfold call at h; split at h
  · exact cok h fun _ => ok
  · cases h
end remain_Ceil_1
/-! ### remain_round_74: function 63 -/
namespace remain_round_74
noncomputable def b0 (c36 : T2) (c68 : T7) (c74 : T15) (c121 : T0) (k255 : T45) (a0 : Int) : Ω (Int) := ((c36 a0).bind fun t1 => (if t1.2.1 = 4 then some 9221120237041090560 else (if t1.2.1 = 3 then some a0 else (if t1.2.1 = 0 then some a0 else (if t1.2.2.2 ≥ 0 then some a0 else (if (wrap64 (-t1.2.2.2)) ≤ 63 then (if 0 ≤ (wrap64 (-t1.2.2.2)) then (if 0 ≤ (wrap64 (-t1.2.2.2)) then (if 0 ≤ (wrap64 ((wrap64 (-t1.2.2.2)) - 1)) then (if (Go.bits .and .u64 t1.2.2.1 (IntKind.u64.wrap ((shl .u64 1 (wrap64 (-t1.2.2.2))) - 1))) = 0 then k255 (shr .u64 t1.2.2.1 (wrap64 (-t1.2.2.2))) 0 t1.1 t1.2.1 t1.2.2.1 t1.2.2.2 else (if (Go.bits .and .u64 t1.2.2.1 (IntKind.u64.wrap ((shl .u64 1 (wrap64 (-t1.2.2.2))) - 1))) = (shl .u64 1 (wrap64 ((wrap64 (-t1.2.2.2)) - 1))) then k255 (shr .u64 t1.2.2.1 (wrap64 (-t1.2.2.2))) 2 t1.1 t1.2.1 t1.2.2.1 t1.2.2.2 else (if (Go.bits .and .u64 t1.2.2.1 (IntKind.u64.wrap ((shl .u64 1 (wrap64 (-t1.2.2.2))) - 1))) > (shl .u64 1 (wrap64 ((wrap64 (-t1.2.2.2)) - 1))) then k255 (shr .u64 t1.2.2.1 (wrap64 (-t1.2.2.2))) 3 t1.1 t1.2.1 t1.2.2.1 t1.2.2.2 else k255 (shr .u64 t1.2.2.1 (wrap64 (-t1.2.2.2))) 1 t1.1 t1.2.1 t1.2.2.1 t1.2.2.2))) else none) else none) else none) else k255 0 1 t1.1 t1.2.1 t1.2.2.1 t1.2.2.2))))))
noncomputable def b255 (c36 : T2) (c68 : T7) (c74 : T15) (c121 : T0) (k511 : T36) (x0 x1 : Int) (x2 : Bool) (x3 x4 x5 : Int) : Ω (Int) := (if ¬ x1 = 0 then ((c74 x2 x0 x1).bind fun t1 => (if t1 = true then k511 (IntKind.u64.wrap (x0 + 1)) x2 x3 x4 x5 else k511 x0 x2 x3 x4 x5)) else k511 x0 x2 x3 x4 x5)
noncomputable def b511 (c36 : T2) (c68 : T7) (c74 : T15) (c121 : T0) (x0 : Int) (x1 : Bool) (x2 x3 x4 : Int) : Ω (Int) := ((c121 x0).bind fun t1 => ((c68 x1 t1).bind fun t2 => some t2))
noncomputable def l511 (n : Nat) (x0 : Int) (x1 : Bool) (x2 x3 x4 : Int) : Ω (Int) := b511 ieee_Decode.f remain_signed.f remain_Ceil_1.f (ieee_FromUint.f n) x0 x1 x2 x3 x4
noncomputable def l255 (n : Nat) (x0 x1 : Int) (x2 : Bool) (x3 x4 x5 : Int) : Ω (Int) := b255 ieee_Decode.f remain_signed.f remain_Ceil_1.f (ieee_FromUint.f n) (l511 n) x0 x1 x2 x3 x4 x5
noncomputable def f (n : Nat) (a0 : Int) : Ω (Int) := b0 ieee_Decode.f remain_signed.f remain_Ceil_1.f (ieee_FromUint.f n) (l255 n) a0
noncomputable def sg : Sig (Int) := s1 (sInt .u64)
noncomputable def code : Code := (Tryz.f63.body).getD .skip
noncomputable def cfg (c36 : T2) (c68 : T7) (c74 : T15) (c121 : T0) : Cfg (Int) := { T := tys, call := orCall 36 (ieee_Decode.call c36) (orCall 68 (remain_signed.call c68) (orCall 74 (remain_Ceil_1.call c74) (orCall 121 (ieee_FromUint.call c121) (noCall)))) }
noncomputable def cuts : List (Nat × List (Nat × Want)) := [(255, [(1, .keep), (5, .keep), (7, .keep), (8, .keep)]), (511, [(5, .keep), (7, .keep)])]
noncomputable def s255 (x0 x1 : Int) (x2 : Bool) (x3 x4 x5 : Int) : ASt := ⟨[(1, .fn 74), (5, .ptr 0 0), (7, .int .u64 x0), (8, .int .i64 x1)], [.cells 54 [.bool x2, .int .i64 x3, .int .u64 x4, .int .i64 x5]]⟩
noncomputable def s511 (x0 : Int) (x1 : Bool) (x2 x3 x4 : Int) : ASt := ⟨[(5, .ptr 0 0), (7, .int .u64 x0)], [.cells 54 [.bool x1, .int .i64 x2, .int .u64 x3, .int .i64 x4]]⟩
noncomputable def A (c36 : T2) (c68 : T7) (c74 : T15) (c121 : T0) (n : Nat) (J : Jt (Int)) (q : Nat) (ms : List Nat) : ASt→Ω (Int) := acont (cfg c36 c68 c74 c121) J cuts n q code 1 ms (aend (cfg c36 c68 c74 c121) Tryz.f63.results.toList [false] sg.out)
theorem e0 {c36 c68 c74 c121 n J a0} : afun (cfg c36 c68 c74 c121) J cuts n code Tryz.f63.results.toList [false] [.int .u64 a0, .fn 74] sg.out = b0 c36 c68 c74 c121 (fun y0 y1 y2 y3 y4 y5 => J 255 (A c36 c68 c74 c121 n J 255 []) (s255 y0 y1 y2 y3 y4 y5)) a0 := by kernel_rfl
theorem e255 {c36 c68 c74 c121 n J x0 x1 x2 x3 x4 x5} : A c36 c68 c74 c121 n J 255 [] (s255 x0 x1 x2 x3 x4 x5) = b255 c36 c68 c74 c121 (fun y0 y1 y2 y3 y4 => J 511 (A c36 c68 c74 c121 n J 511 []) (s511 y0 y1 y2 y3 y4)) x0 x1 x2 x3 x4 x5 := by kernel_rfl
theorem e511 {c36 c68 c74 c121 n J x0 x1 x2 x3 x4} : A c36 c68 c74 c121 n J 511 [] (s511 x0 x1 x2 x3 x4) = b511 c36 c68 c74 c121 x0 x1 x2 x3 x4 := by kernel_rfl
noncomputable abbrev I (n : Nat) := A ieee_Decode.f remain_signed.f remain_Ceil_1.f (ieee_FromUint.f n) n idJ
theorem q511 (n x0 x1 x2 x3 x4) : I n 511 [] (s511 x0 x1 x2 x3 x4) = l511 n x0 x1 x2 x3 x4 := e511
theorem q255 (n x0 x1 x2 x3 x4 x5) : I n 255 [] (s255 x0 x1 x2 x3 x4 x5) = l255 n x0 x1 x2 x3 x4 x5 := e255.trans (Eq.trans (cf6 (congrArg (b255 _ _ _ _) (fu5 (q511 n))) _ _ _ _ _ _) rfl)
theorem ok {n  a0 r} (h : f n a0 = some r) : CallD Tryz.prog HW 63 [.int .u64 a0, .fn 74] (sg.enc r) :=
  fun_some hwS Tryz.func63 (by kernel_rfl) (body := code) (by kernel_rfl) tys_ok (c := cfg ieee_Decode.f remain_signed.f remain_Ceil_1.f (ieee_FromUint.f n)) (orCall_ok ieee_Decode.call_ok (orCall_ok remain_signed.call_ok (orCall_ok remain_Ceil_1.call_ok (orCall_ok (ieee_FromUint.call_ok (n := n)) noCall_ok)))) noW_ok (by kernel_rfl) (by kernel_rfl) (Nat.le_of_ble_eq_true (by kernel_rfl)) (Eq.trans ((e0 (n := n)).trans (Eq.trans (cf1 (congrArg (b0 _ _ _ _) (fu6 (q255 n))) _) rfl)) h)
noncomputable def call {α : Type} (g : T0) (ds : List D) (K : List D→Ω α) : Ω α := match ds with
  | [.int .u64 a0, .fn f0] => (match Nat.beq f0 74 with
    | true => (g a0).bind fun r => K (sg.enc r)
    | false => none)
  | _ => none
theorem call_ok {α : Type} {n : Nat} (ds : List D) (K : List D→Ω α) (r : α) (h : call (f n) ds K = some r) : ∃ rs, K rs = some r ∧ CallD Tryz.prog HW 63 ds rs := by
  unfold call at h
  split at h
  · split at h
    · rename_i hq
      rw [Nat.eq_of_beq_eq_true hq]
      obtain ⟨x, hx, hk⟩ := Option.bind_eq_some_iff.1 h
      exact ⟨_, hk, ok (n := n) hx⟩
    · cases h
  · cases h
end remain_round_74
/-! ### remain_Ceil: function 27 -/
namespace remain_Ceil
noncomputable def b0 (c630074 : T0) (a0 : Int) : Ω (Int) := ((c630074 a0).bind fun t1 => some t1)
noncomputable def f (n : Nat) (a0 : Int) : Ω (Int) := b0 (remain_round_74.f n) a0
noncomputable def sg : Sig (Int) := s1 (sInt .u64)
noncomputable def code : Code := (Tryz.f27.body).getD .skip
noncomputable def cfg (c630074 : T0) : Cfg (Int) := { T := tys, call := orCall 63 (remain_round_74.call c630074) (noCall) }
noncomputable def cuts : List (Nat × List (Nat × Want)) := []
theorem e0 {c630074 n J a0} : afun (cfg c630074) J cuts n code Tryz.f27.results.toList [false] [.int .u64 a0] sg.out = b0 c630074 a0 := by kernel_rfl
theorem ok {n  a0 r} (h : f n a0 = some r) : CallD Tryz.prog HW 27 [.int .u64 a0] (sg.enc r) :=
  fun_some hwS Tryz.func27 (by kernel_rfl) (body := code) (by kernel_rfl) tys_ok (c := cfg (remain_round_74.f n)) (orCall_ok (remain_round_74.call_ok (n := n)) noCall_ok) noW_ok (by kernel_rfl) (by kernel_rfl) (Nat.le_of_ble_eq_true (by kernel_rfl)) (Eq.trans ((e0 (n := n))) h)
noncomputable def call {α : Type} (g : T0) (ds : List D) (K : List D→Ω α) : Ω α := match ds with
  | [.int .u64 a0] => (g a0).bind fun r => K (sg.enc r)
  | _ => none
theorem call_ok {α : Type} {n : Nat} : COK Tryz.prog HW 27 (call (α := α) (f n)) := fun _ _ _ h => by
  unfold call at h; split at h
  · exact cok h fun _ => ok
  · cases h
end remain_Ceil
/-! ### abacusref06_Ceil: function 28 -/
namespace abacusref06_Ceil
noncomputable def b0 (c72 : T9) (a0 : Int) : Ω (Int) := ((c72 a0 2).bind fun t1 => some t1)
noncomputable def f (n : Nat) (a0 : Int) : Ω (Int) := b0 (abacusref06_whole.f n) a0
noncomputable def sg : Sig (Int) := s1 (sInt .u64)
noncomputable def code : Code := (Tryz.f28.body).getD .skip
noncomputable def cfg (c72 : T9) : Cfg (Int) := { T := tys, call := orCall 72 (abacusref06_whole.call c72) (noCall) }
noncomputable def cuts : List (Nat × List (Nat × Want)) := []
theorem e0 {c72 n J a0} : afun (cfg c72) J cuts n code Tryz.f28.results.toList [false] [.int .u64 a0] sg.out = b0 c72 a0 := by kernel_rfl
theorem ok {n  a0 r} (h : f n a0 = some r) : CallD Tryz.prog HW 28 [.int .u64 a0] (sg.enc r) :=
  fun_some hwS Tryz.func28 (by kernel_rfl) (body := code) (by kernel_rfl) tys_ok (c := cfg (abacusref06_whole.f n)) (orCall_ok (abacusref06_whole.call_ok (n := n)) noCall_ok) noW_ok (by kernel_rfl) (by kernel_rfl) (Nat.le_of_ble_eq_true (by kernel_rfl)) (Eq.trans ((e0 (n := n))) h)
noncomputable def call {α : Type} (g : T0) (ds : List D) (K : List D→Ω α) : Ω α := match ds with
  | [.int .u64 a0] => (g a0).bind fun r => K (sg.enc r)
  | _ => none
theorem call_ok {α : Type} {n : Nat} : COK Tryz.prog HW 28 (call (α := α) (f n)) := fun _ _ _ h => by
  unfold call at h; split at h
  · exact cok h fun _ => ok
  · cases h
end abacusref06_Ceil
/-! ### remain_Near_1: function 75 -/
namespace remain_Near_1
noncomputable def b0 (a0 : Bool) (a1 a2 : Int) : Ω (Bool) := (if a2 = 3 then some true else (if a2 = 2 then some (decide ((Int.tmod a1 2) = 1)) else some false))
noncomputable def f (a0 : Bool) (a1 a2 : Int) : Ω (Bool) := b0 a0 a1 a2
noncomputable def sg : Sig (Bool) := s1 (sBool)
noncomputable def code : Code := (Tryz.f75.body).getD .skip
noncomputable def cfg : Cfg (Bool) := { T := tys, call := noCall }
noncomputable def cuts : List (Nat × List (Nat × Want)) := []
theorem e0 {n J a0 a1 a2} : afun cfg J cuts n code Tryz.f75.results.toList [false] [.bool a0, .int .u64 a1, .int .i64 a2] sg.out = b0 a0 a1 a2 := by kernel_rfl
theorem ok {a0 a1 a2 r} (h : f a0 a1 a2 = some r) : CallD Tryz.prog HW 75 [.bool a0, .int .u64 a1, .int .i64 a2] (sg.enc r) :=
  fun_some hwS Tryz.func75 (by kernel_rfl) (body := code) (by kernel_rfl) tys_ok (c := cfg) noCall_ok noW_ok (by kernel_rfl) (by kernel_rfl) (Nat.le_of_ble_eq_true (by kernel_rfl)) (Eq.trans ((e0 (n := 0))) h)
noncomputable def call {α : Type} (g : T15) (ds : List D) (K : List D→Ω α) : Ω α := match ds with
  | [.bool a0, .int .u64 a1, .int .i64 a2] => (g a0 a1 a2).bind fun r => K (sg.enc r)
  | _ => none
theorem call_ok {α : Type} : COK Tryz.prog HW 75 (call (α := α) f) := fun _ _ _ h => by
  unfold call at h; split at h
  · exact cok h fun _ => ok
  · cases h
end remain_Near_1
/-! ### remain_round_75: function 63 -/
namespace remain_round_75
noncomputable def b0 (c36 : T2) (c68 : T7) (c75 : T15) (c121 : T0) (k255 : T45) (a0 : Int) : Ω (Int) := ((c36 a0).bind fun t1 => (if t1.2.1 = 4 then some 9221120237041090560 else (if t1.2.1 = 3 then some a0 else (if t1.2.1 = 0 then some a0 else (if t1.2.2.2 ≥ 0 then some a0 else (if (wrap64 (-t1.2.2.2)) ≤ 63 then (if 0 ≤ (wrap64 (-t1.2.2.2)) then (if 0 ≤ (wrap64 (-t1.2.2.2)) then (if 0 ≤ (wrap64 ((wrap64 (-t1.2.2.2)) - 1)) then (if (Go.bits .and .u64 t1.2.2.1 (IntKind.u64.wrap ((shl .u64 1 (wrap64 (-t1.2.2.2))) - 1))) = 0 then k255 (shr .u64 t1.2.2.1 (wrap64 (-t1.2.2.2))) 0 t1.1 t1.2.1 t1.2.2.1 t1.2.2.2 else (if (Go.bits .and .u64 t1.2.2.1 (IntKind.u64.wrap ((shl .u64 1 (wrap64 (-t1.2.2.2))) - 1))) = (shl .u64 1 (wrap64 ((wrap64 (-t1.2.2.2)) - 1))) then k255 (shr .u64 t1.2.2.1 (wrap64 (-t1.2.2.2))) 2 t1.1 t1.2.1 t1.2.2.1 t1.2.2.2 else (if (Go.bits .and .u64 t1.2.2.1 (IntKind.u64.wrap ((shl .u64 1 (wrap64 (-t1.2.2.2))) - 1))) > (shl .u64 1 (wrap64 ((wrap64 (-t1.2.2.2)) - 1))) then k255 (shr .u64 t1.2.2.1 (wrap64 (-t1.2.2.2))) 3 t1.1 t1.2.1 t1.2.2.1 t1.2.2.2 else k255 (shr .u64 t1.2.2.1 (wrap64 (-t1.2.2.2))) 1 t1.1 t1.2.1 t1.2.2.1 t1.2.2.2))) else none) else none) else none) else k255 0 1 t1.1 t1.2.1 t1.2.2.1 t1.2.2.2))))))
noncomputable def b255 (c36 : T2) (c68 : T7) (c75 : T15) (c121 : T0) (k511 : T36) (x0 x1 : Int) (x2 : Bool) (x3 x4 x5 : Int) : Ω (Int) := (if ¬ x1 = 0 then ((c75 x2 x0 x1).bind fun t1 => (if t1 = true then k511 (IntKind.u64.wrap (x0 + 1)) x2 x3 x4 x5 else k511 x0 x2 x3 x4 x5)) else k511 x0 x2 x3 x4 x5)
noncomputable def b511 (c36 : T2) (c68 : T7) (c75 : T15) (c121 : T0) (x0 : Int) (x1 : Bool) (x2 x3 x4 : Int) : Ω (Int) := ((c121 x0).bind fun t1 => ((c68 x1 t1).bind fun t2 => some t2))
noncomputable def l511 (n : Nat) (x0 : Int) (x1 : Bool) (x2 x3 x4 : Int) : Ω (Int) := b511 ieee_Decode.f remain_signed.f remain_Near_1.f (ieee_FromUint.f n) x0 x1 x2 x3 x4
noncomputable def l255 (n : Nat) (x0 x1 : Int) (x2 : Bool) (x3 x4 x5 : Int) : Ω (Int) := b255 ieee_Decode.f remain_signed.f remain_Near_1.f (ieee_FromUint.f n) (l511 n) x0 x1 x2 x3 x4 x5
noncomputable def f (n : Nat) (a0 : Int) : Ω (Int) := b0 ieee_Decode.f remain_signed.f remain_Near_1.f (ieee_FromUint.f n) (l255 n) a0
noncomputable def sg : Sig (Int) := s1 (sInt .u64)
noncomputable def code : Code := (Tryz.f63.body).getD .skip
noncomputable def cfg (c36 : T2) (c68 : T7) (c75 : T15) (c121 : T0) : Cfg (Int) := { T := tys, call := orCall 36 (ieee_Decode.call c36) (orCall 68 (remain_signed.call c68) (orCall 75 (remain_Near_1.call c75) (orCall 121 (ieee_FromUint.call c121) (noCall)))) }
noncomputable def cuts : List (Nat × List (Nat × Want)) := [(255, [(1, .keep), (5, .keep), (7, .keep), (8, .keep)]), (511, [(5, .keep), (7, .keep)])]
noncomputable def s255 (x0 x1 : Int) (x2 : Bool) (x3 x4 x5 : Int) : ASt := ⟨[(1, .fn 75), (5, .ptr 0 0), (7, .int .u64 x0), (8, .int .i64 x1)], [.cells 54 [.bool x2, .int .i64 x3, .int .u64 x4, .int .i64 x5]]⟩
noncomputable def s511 (x0 : Int) (x1 : Bool) (x2 x3 x4 : Int) : ASt := ⟨[(5, .ptr 0 0), (7, .int .u64 x0)], [.cells 54 [.bool x1, .int .i64 x2, .int .u64 x3, .int .i64 x4]]⟩
noncomputable def A (c36 : T2) (c68 : T7) (c75 : T15) (c121 : T0) (n : Nat) (J : Jt (Int)) (q : Nat) (ms : List Nat) : ASt→Ω (Int) := acont (cfg c36 c68 c75 c121) J cuts n q code 1 ms (aend (cfg c36 c68 c75 c121) Tryz.f63.results.toList [false] sg.out)
theorem e0 {c36 c68 c75 c121 n J a0} : afun (cfg c36 c68 c75 c121) J cuts n code Tryz.f63.results.toList [false] [.int .u64 a0, .fn 75] sg.out = b0 c36 c68 c75 c121 (fun y0 y1 y2 y3 y4 y5 => J 255 (A c36 c68 c75 c121 n J 255 []) (s255 y0 y1 y2 y3 y4 y5)) a0 := by kernel_rfl
theorem e255 {c36 c68 c75 c121 n J x0 x1 x2 x3 x4 x5} : A c36 c68 c75 c121 n J 255 [] (s255 x0 x1 x2 x3 x4 x5) = b255 c36 c68 c75 c121 (fun y0 y1 y2 y3 y4 => J 511 (A c36 c68 c75 c121 n J 511 []) (s511 y0 y1 y2 y3 y4)) x0 x1 x2 x3 x4 x5 := by kernel_rfl
theorem e511 {c36 c68 c75 c121 n J x0 x1 x2 x3 x4} : A c36 c68 c75 c121 n J 511 [] (s511 x0 x1 x2 x3 x4) = b511 c36 c68 c75 c121 x0 x1 x2 x3 x4 := by kernel_rfl
noncomputable abbrev I (n : Nat) := A ieee_Decode.f remain_signed.f remain_Near_1.f (ieee_FromUint.f n) n idJ
theorem q511 (n x0 x1 x2 x3 x4) : I n 511 [] (s511 x0 x1 x2 x3 x4) = l511 n x0 x1 x2 x3 x4 := e511
theorem q255 (n x0 x1 x2 x3 x4 x5) : I n 255 [] (s255 x0 x1 x2 x3 x4 x5) = l255 n x0 x1 x2 x3 x4 x5 := e255.trans (Eq.trans (cf6 (congrArg (b255 _ _ _ _) (fu5 (q511 n))) _ _ _ _ _ _) rfl)
theorem ok {n  a0 r} (h : f n a0 = some r) : CallD Tryz.prog HW 63 [.int .u64 a0, .fn 75] (sg.enc r) :=
  fun_some hwS Tryz.func63 (by kernel_rfl) (body := code) (by kernel_rfl) tys_ok (c := cfg ieee_Decode.f remain_signed.f remain_Near_1.f (ieee_FromUint.f n)) (orCall_ok ieee_Decode.call_ok (orCall_ok remain_signed.call_ok (orCall_ok remain_Near_1.call_ok (orCall_ok (ieee_FromUint.call_ok (n := n)) noCall_ok)))) noW_ok (by kernel_rfl) (by kernel_rfl) (Nat.le_of_ble_eq_true (by kernel_rfl)) (Eq.trans ((e0 (n := n)).trans (Eq.trans (cf1 (congrArg (b0 _ _ _ _) (fu6 (q255 n))) _) rfl)) h)
noncomputable def call {α : Type} (g : T0) (ds : List D) (K : List D→Ω α) : Ω α := match ds with
  | [.int .u64 a0, .fn f0] => (match Nat.beq f0 75 with
    | true => (g a0).bind fun r => K (sg.enc r)
    | false => none)
  | _ => none
theorem call_ok {α : Type} {n : Nat} (ds : List D) (K : List D→Ω α) (r : α) (h : call (f n) ds K = some r) : ∃ rs, K rs = some r ∧ CallD Tryz.prog HW 63 ds rs := by
  unfold call at h
  split at h
  · split at h
    · rename_i hq
      rw [Nat.eq_of_beq_eq_true hq]
      obtain ⟨x, hx, hk⟩ := Option.bind_eq_some_iff.1 h
      exact ⟨_, hk, ok (n := n) hx⟩
    · cases h
  · cases h
end remain_round_75
/-! ### remain_Near: function 29 -/
namespace remain_Near
noncomputable def b0 (c630075 : T0) (a0 : Int) : Ω (Int) := ((c630075 a0).bind fun t1 => some t1)
noncomputable def f (n : Nat) (a0 : Int) : Ω (Int) := b0 (remain_round_75.f n) a0
noncomputable def sg : Sig (Int) := s1 (sInt .u64)
noncomputable def code : Code := (Tryz.f29.body).getD .skip
noncomputable def cfg (c630075 : T0) : Cfg (Int) := { T := tys, call := orCall 63 (remain_round_75.call c630075) (noCall) }
noncomputable def cuts : List (Nat × List (Nat × Want)) := []
theorem e0 {c630075 n J a0} : afun (cfg c630075) J cuts n code Tryz.f29.results.toList [false] [.int .u64 a0] sg.out = b0 c630075 a0 := by kernel_rfl
theorem ok {n  a0 r} (h : f n a0 = some r) : CallD Tryz.prog HW 29 [.int .u64 a0] (sg.enc r) :=
  fun_some hwS Tryz.func29 (by kernel_rfl) (body := code) (by kernel_rfl) tys_ok (c := cfg (remain_round_75.f n)) (orCall_ok (remain_round_75.call_ok (n := n)) noCall_ok) noW_ok (by kernel_rfl) (by kernel_rfl) (Nat.le_of_ble_eq_true (by kernel_rfl)) (Eq.trans ((e0 (n := n))) h)
noncomputable def call {α : Type} (g : T0) (ds : List D) (K : List D→Ω α) : Ω α := match ds with
  | [.int .u64 a0] => (g a0).bind fun r => K (sg.enc r)
  | _ => none
theorem call_ok {α : Type} {n : Nat} : COK Tryz.prog HW 29 (call (α := α) (f n)) := fun _ _ _ h => by
  unfold call at h; split at h
  · exact cok h fun _ => ok
  · cases h
end remain_Near
/-! ### abacusref06_Near: function 30 -/
namespace abacusref06_Near
noncomputable def b0 (c72 : T9) (a0 : Int) : Ω (Int) := ((c72 a0 3).bind fun t1 => some t1)
noncomputable def f (n : Nat) (a0 : Int) : Ω (Int) := b0 (abacusref06_whole.f n) a0
noncomputable def sg : Sig (Int) := s1 (sInt .u64)
noncomputable def code : Code := (Tryz.f30.body).getD .skip
noncomputable def cfg (c72 : T9) : Cfg (Int) := { T := tys, call := orCall 72 (abacusref06_whole.call c72) (noCall) }
noncomputable def cuts : List (Nat × List (Nat × Want)) := []
theorem e0 {c72 n J a0} : afun (cfg c72) J cuts n code Tryz.f30.results.toList [false] [.int .u64 a0] sg.out = b0 c72 a0 := by kernel_rfl
theorem ok {n  a0 r} (h : f n a0 = some r) : CallD Tryz.prog HW 30 [.int .u64 a0] (sg.enc r) :=
  fun_some hwS Tryz.func30 (by kernel_rfl) (body := code) (by kernel_rfl) tys_ok (c := cfg (abacusref06_whole.f n)) (orCall_ok (abacusref06_whole.call_ok (n := n)) noCall_ok) noW_ok (by kernel_rfl) (by kernel_rfl) (Nat.le_of_ble_eq_true (by kernel_rfl)) (Eq.trans ((e0 (n := n))) h)
noncomputable def call {α : Type} (g : T0) (ds : List D) (K : List D→Ω α) : Ω α := match ds with
  | [.int .u64 a0] => (g a0).bind fun r => K (sg.enc r)
  | _ => none
theorem call_ok {α : Type} {n : Nat} : COK Tryz.prog HW 30 (call (α := α) (f n)) := fun _ _ _ h => by
  unfold call at h; split at h
  · exact cok h fun _ => ok
  · cases h
end abacusref06_Near
/-! ### soft_invalid: function 110 -/
namespace soft_invalid
noncomputable def b0 : Ω (Int × Int) := some (9221120237041090560, 1)
noncomputable def f : Ω (Int × Int) := b0
noncomputable def sg : Sig (Int × Int) := s2 (sInt .u64) (s1 (sInt .i64))
noncomputable def code : Code := (Tryz.f110.body).getD .skip
noncomputable def cfg : Cfg (Int × Int) := { T := tys, call := noCall }
noncomputable def cuts : List (Nat × List (Nat × Want)) := []
theorem e0 {n J} : afun cfg J cuts n code Tryz.f110.results.toList [false, false] [] sg.out = b0 := by kernel_rfl
theorem ok {r} (h : f = some r) : CallD Tryz.prog HW 110 [] (sg.enc r) :=
  fun_some hwS Tryz.func110 (by kernel_rfl) (body := code) (by kernel_rfl) tys_ok (c := cfg) noCall_ok noW_ok (by kernel_rfl) (by kernel_rfl) (Nat.le_of_ble_eq_true (by kernel_rfl)) (Eq.trans ((e0 (n := 0))) h)
noncomputable def call {α : Type} (g : T47) (ds : List D) (K : List D→Ω α) : Ω α := match ds with
  | [] => (g).bind fun r => K (sg.enc r)
  | _ :: _ => none
theorem call_ok {α : Type} : COK Tryz.prog HW 110 (call (α := α) f) := fun _ _ _ h => by
  unfold call at h; split at h
  · exact cok h fun _ => ok
  · cases h
end soft_invalid
/-! ### soft_termOf: function 111 -/
namespace soft_termOf
noncomputable def b0 (c116 : T25) (a0 : Bool) (a1 a2 a3 : Int) : Ω (Bool × Λ × Int) := ((c116 a2).bind fun t1 => some (a0, t1, a3))
noncomputable def f (a0 : Bool) (a1 a2 a3 : Int) : Ω (Bool × Λ × Int) := b0 nat_FromUint.f a0 a1 a2 a3
noncomputable def sg : Sig (Bool × Λ × Int) := s1 (sAgg (s2 (sBool) (s2 (sRow .u64) (s1 (sInt .i64)))))
noncomputable def code : Code := (Tryz.f111.body).getD .skip
noncomputable def cfg (c116 : T25) : Cfg (Bool × Λ × Int) := { T := tys, call := orCall 116 (nat_FromUint.call c116) (noCall) }
noncomputable def cuts : List (Nat × List (Nat × Want)) := []
theorem e0 {c116 n J a0 a1 a2 a3} : afun (cfg c116) J cuts n code Tryz.f111.results.toList [false] [.agg [.bool a0, .int .i64 a1, .int .u64 a2, .int .i64 a3]] sg.out = b0 c116 a0 a1 a2 a3 := by kernel_rfl
theorem ok {a0 a1 a2 a3 r} (h : f a0 a1 a2 a3 = some r) : CallD Tryz.prog HW 111 [.agg [.bool a0, .int .i64 a1, .int .u64 a2, .int .i64 a3]] (sg.enc r) :=
  fun_some hwS Tryz.func111 (by kernel_rfl) (body := code) (by kernel_rfl) tys_ok (c := cfg nat_FromUint.f) (orCall_ok nat_FromUint.call_ok noCall_ok) noW_ok (by kernel_rfl) (by kernel_rfl) (Nat.le_of_ble_eq_true (by kernel_rfl)) (Eq.trans ((e0 (n := 0))) h)
noncomputable def call {α : Type} (g : T48) (ds : List D) (K : List D→Ω α) : Ω α := match ds with
  | [.agg [.bool a0, .int .i64 a1, .int .u64 a2, .int .i64 a3]] => (g a0 a1 a2 a3).bind fun r => K (sg.enc r)
  | _ => none
theorem call_ok {α : Type} : COK Tryz.prog HW 111 (call (α := α) f) := fun _ _ _ h => by
  unfold call at h; split at h
  · exact cok h fun _ => ok
  · cases h
end soft_termOf
/-! ### soft_aligned: function 151 -/
namespace soft_aligned
noncomputable def b0 (c88 : T16) (l0 : Λ) (a1 : Int) (l2 : Λ) (a3 : Int) : Ω (Λ × Λ × Int) := (if a1 > a3 then ((c88 l0 (wrap64 (a1 - a3))).bind fun t1 => some (t1.1, l2, a3)) else ((c88 l2 (wrap64 (a3 - a1))).bind fun t2 => some (l0, t2.1, a1)))
noncomputable def f (n : Nat) (l0 : Λ) (a1 : Int) (l2 : Λ) (a3 : Int) : Ω (Λ × Λ × Int) := b0 (nat_Shl.f n) l0 a1 l2 a3
noncomputable def sg : Sig (Λ × Λ × Int) := s2 (sRow .u64) (s2 (sRow .u64) (s1 (sInt .i64)))
noncomputable def code : Code := (Tryz.f151.body).getD .skip
noncomputable def cfg (c88 : T16) : Cfg (Λ × Λ × Int) := { T := tys, call := orCall 88 (nat_Shl.call c88) (noCall) }
noncomputable def cuts : List (Nat × List (Nat × Want)) := []
theorem e0 {c88 n J l0 a1 l2 a3} : afun (cfg c88) J cuts n code Tryz.f151.results.toList [false, false, false] [.ro .u64 l0, .int .i64 a1, .ro .u64 l2, .int .i64 a3] sg.out = b0 c88 l0 a1 l2 a3 := by kernel_rfl
theorem ok {n  l0 a1 l2 a3 r} (h : f n l0 a1 l2 a3 = some r) : CallD Tryz.prog HW 151 [.ro .u64 l0, .int .i64 a1, .ro .u64 l2, .int .i64 a3] (sg.enc r) :=
  fun_some hwS Tryz.func151 (by kernel_rfl) (body := code) (by kernel_rfl) tys_ok (c := cfg (nat_Shl.f n)) (orCall_ok (nat_Shl.call_ok (n := n)) noCall_ok) noW_ok (by kernel_rfl) (by kernel_rfl) (Nat.le_of_ble_eq_true (by kernel_rfl)) (Eq.trans ((e0 (n := n))) h)
noncomputable def call {α : Type} (g : T49) (ds : List D) (K : List D→Ω α) : Ω α := match ds with
  | [.ro .u64 l0, .int .i64 a1, .ro .u64 l2, .int .i64 a3] => (g l0 a1 l2 a3).bind fun r => K (sg.enc r)
  | _ => none
theorem call_ok {α : Type} {n : Nat} : COK Tryz.prog HW 151 (call (α := α) (f n)) := fun _ _ _ h => by
  unfold call at h; split at h
  · exact cok h fun _ => ok
  · cases h
end soft_aligned
/-! ### soft_term_plus: function 112 -/
namespace soft_term_plus
noncomputable def b0 (c128 : T12) (c129 : T10) (c130 : T12) (c151 : T49) (a0 : Bool) (l1 : Λ) (a2 : Int) (a3 : Bool) (l4 : Λ) (a5 : Int) : Ω (Bool × Λ × Int) := ((c151 l1 a2 l4 a5).bind fun t1 => (if (a0 == a3) = true then ((c130 t1.1 t1.2.1).bind fun t2 => some (a0, t2.1, t1.2.2)) else ((c129 t1.1 t1.2.1).bind fun t3 => (if t3 = 0 then some (false, ([] : Λ), 0) else (if t3 = 1 then ((c128 t1.1 t1.2.1).bind fun t4 => some (a0, t4.1, t1.2.2)) else ((c128 t1.2.1 t1.1).bind fun t5 => some (a3, t5.1, t1.2.2)))))))
noncomputable def f (n : Nat) (a0 : Bool) (l1 : Λ) (a2 : Int) (a3 : Bool) (l4 : Λ) (a5 : Int) : Ω (Bool × Λ × Int) := b0 (nat_Sub.f n) (nat_Cmp.f n) (nat_Add.f n) (soft_aligned.f n) a0 l1 a2 a3 l4 a5
noncomputable def sg : Sig (Bool × Λ × Int) := s1 (sAgg (s2 (sBool) (s2 (sRow .u64) (s1 (sInt .i64)))))
noncomputable def code : Code := (Tryz.f112.body).getD .skip
noncomputable def cfg (c128 : T12) (c129 : T10) (c130 : T12) (c151 : T49) : Cfg (Bool × Λ × Int) := { T := tys, call := orCall 128 (nat_Sub.call c128) (orCall 129 (nat_Cmp.call c129) (orCall 130 (nat_Add.call c130) (orCall 151 (soft_aligned.call c151) (noCall)))) }
noncomputable def cuts : List (Nat × List (Nat × Want)) := []
theorem e0 {c128 c129 c130 c151 n J a0 l1 a2 a3 l4 a5} : afun (cfg c128 c129 c130 c151) J cuts n code Tryz.f112.results.toList [false] [.agg [.bool a0, .ro .u64 l1, .int .i64 a2], .agg [.bool a3, .ro .u64 l4, .int .i64 a5]] sg.out = b0 c128 c129 c130 c151 a0 l1 a2 a3 l4 a5 := by kernel_rfl
theorem ok {n  a0 l1 a2 a3 l4 a5 r} (h : f n a0 l1 a2 a3 l4 a5 = some r) : CallD Tryz.prog HW 112 [.agg [.bool a0, .ro .u64 l1, .int .i64 a2], .agg [.bool a3, .ro .u64 l4, .int .i64 a5]] (sg.enc r) :=
  fun_some hwS Tryz.func112 (by kernel_rfl) (body := code) (by kernel_rfl) tys_ok (c := cfg (nat_Sub.f n) (nat_Cmp.f n) (nat_Add.f n) (soft_aligned.f n)) (orCall_ok (nat_Sub.call_ok (n := n)) (orCall_ok (nat_Cmp.call_ok (n := n)) (orCall_ok (nat_Add.call_ok (n := n)) (orCall_ok (soft_aligned.call_ok (n := n)) noCall_ok)))) noW_ok (by kernel_rfl) (by kernel_rfl) (Nat.le_of_ble_eq_true (by kernel_rfl)) (Eq.trans ((e0 (n := n))) h)
noncomputable def call {α : Type} (g : T50) (ds : List D) (K : List D→Ω α) : Ω α := match ds with
  | [.agg [.bool a0, .ro .u64 l1, .int .i64 a2], .agg [.bool a3, .ro .u64 l4, .int .i64 a5]] => (g a0 l1 a2 a3 l4 a5).bind fun r => K (sg.enc r)
  | _ => none
theorem call_ok {α : Type} {n : Nat} : COK Tryz.prog HW 112 (call (α := α) (f n)) := fun _ _ _ h => by
  unfold call at h; split at h
  · exact cok h fun _ => ok
  · cases h
end soft_term_plus
/-! ### soft_withSign: function 114 -/
namespace soft_withSign
noncomputable def b0 (a0 : Bool) (a1 : Int) : Ω (Int) := (if a0 = true then some (Go.bits .or .u64 a1 9223372036854775808) else some a1)
noncomputable def f (a0 : Bool) (a1 : Int) : Ω (Int) := b0 a0 a1
noncomputable def sg : Sig (Int) := s1 (sInt .u64)
noncomputable def code : Code := (Tryz.f114.body).getD .skip
noncomputable def cfg : Cfg (Int) := { T := tys, call := noCall }
noncomputable def cuts : List (Nat × List (Nat × Want)) := []
theorem e0 {n J a0 a1} : afun cfg J cuts n code Tryz.f114.results.toList [false] [.bool a0, .int .u64 a1] sg.out = b0 a0 a1 := by kernel_rfl
theorem ok {a0 a1 r} (h : f a0 a1 = some r) : CallD Tryz.prog HW 114 [.bool a0, .int .u64 a1] (sg.enc r) :=
  fun_some hwS Tryz.func114 (by kernel_rfl) (body := code) (by kernel_rfl) tys_ok (c := cfg) noCall_ok noW_ok (by kernel_rfl) (by kernel_rfl) (Nat.le_of_ble_eq_true (by kernel_rfl)) (Eq.trans ((e0 (n := 0))) h)
noncomputable def call {α : Type} (g : T7) (ds : List D) (K : List D→Ω α) : Ω α := match ds with
  | [.bool a0, .int .u64 a1] => (g a0 a1).bind fun r => K (sg.enc r)
  | _ => none
theorem call_ok {α : Type} : COK Tryz.prog HW 114 (call (α := α) f) := fun _ _ _ h => by
  unfold call at h; split at h
  · exact cok h fun _ => ok
  · cases h
end soft_withSign
/-! ### soft_fraction_flags: function 117 -/
namespace soft_fraction_flags
noncomputable def b0 (c36 : T2) (c116 : T25) (c126 : T12) (c129 : T10) (c151 : T49) (a0 : Bool) (l1 l2 : Λ) (a3 a4 : Int) : Ω (Int) := ((c36 a4).bind fun t1 => (if t1.2.1 = 3 then some 20 else ((c116 t1.2.2.1).bind fun t2 => ((c126 l2 t2).bind fun t3 => ((c151 l1 a3 t3.1 t1.2.2.2).bind fun t4 => ((c129 t4.1 t4.2.1).bind fun t5 => (if t5 = 0 then some 0 else ((c151 l1 a3 l2 (-1022)).bind fun t6 => ((c129 t6.1 t6.2.1).bind fun t7 => (if t7 < 0 then some 24 else some 16))))))))))
noncomputable def f (n : Nat) (a0 : Bool) (l1 l2 : Λ) (a3 a4 : Int) : Ω (Int) := b0 ieee_Decode.f nat_FromUint.f (nat_Mul.f n) (nat_Cmp.f n) (soft_aligned.f n) a0 l1 l2 a3 a4
noncomputable def sg : Sig (Int) := s1 (sInt .i64)
noncomputable def code : Code := (Tryz.f117.body).getD .skip
noncomputable def cfg (c36 : T2) (c116 : T25) (c126 : T12) (c129 : T10) (c151 : T49) : Cfg (Int) := { T := tys, call := orCall 36 (ieee_Decode.call c36) (orCall 116 (nat_FromUint.call c116) (orCall 126 (nat_Mul.call c126) (orCall 129 (nat_Cmp.call c129) (orCall 151 (soft_aligned.call c151) (noCall))))) }
noncomputable def cuts : List (Nat × List (Nat × Want)) := []
theorem e0 {c36 c116 c126 c129 c151 n J a0 l1 l2 a3 a4} : afun (cfg c36 c116 c126 c129 c151) J cuts n code Tryz.f117.results.toList [false] [.agg [.bool a0, .ro .u64 l1, .ro .u64 l2, .int .i64 a3], .int .u64 a4] sg.out = b0 c36 c116 c126 c129 c151 a0 l1 l2 a3 a4 := by kernel_rfl
theorem ok {n  a0 l1 l2 a3 a4 r} (h : f n a0 l1 l2 a3 a4 = some r) : CallD Tryz.prog HW 117 [.agg [.bool a0, .ro .u64 l1, .ro .u64 l2, .int .i64 a3], .int .u64 a4] (sg.enc r) :=
  fun_some hwS Tryz.func117 (by kernel_rfl) (body := code) (by kernel_rfl) tys_ok (c := cfg ieee_Decode.f nat_FromUint.f (nat_Mul.f n) (nat_Cmp.f n) (soft_aligned.f n)) (orCall_ok ieee_Decode.call_ok (orCall_ok nat_FromUint.call_ok (orCall_ok (nat_Mul.call_ok (n := n)) (orCall_ok (nat_Cmp.call_ok (n := n)) (orCall_ok (soft_aligned.call_ok (n := n)) noCall_ok))))) noW_ok (by kernel_rfl) (by kernel_rfl) (Nat.le_of_ble_eq_true (by kernel_rfl)) (Eq.trans ((e0 (n := n))) h)
noncomputable def call {α : Type} (g : T65) (ds : List D) (K : List D→Ω α) : Ω α := match ds with
  | [.agg [.bool a0, .ro .u64 l1, .ro .u64 l2, .int .i64 a3], .int .u64 a4] => (g a0 l1 l2 a3 a4).bind fun r => K (sg.enc r)
  | _ => none
theorem call_ok {α : Type} {n : Nat} : COK Tryz.prog HW 117 (call (α := α) (f n)) := fun _ _ _ h => by
  unfold call at h; split at h
  · exact cok h fun _ => ok
  · cases h
end soft_fraction_flags
/-! ### soft_term_rounded: function 113 -/
namespace soft_term_rounded
noncomputable def b0 (c37 : T6) (c114 : T7) (c117 : T65) (a0 : Bool) (l1 : Λ) (a2 : Int) : Ω (Int × Int) := (if (ln l1) = 0 then ((c114 a0 0).bind fun t1 => some (t1, 0)) else ((c37 a0 l1 a2 false).bind fun t2 => ((c117 a0 l1 [1] a2 t2.1).bind fun t3 => some (t2.1, t3))))
noncomputable def f (n : Nat) (a0 : Bool) (l1 : Λ) (a2 : Int) : Ω (Int × Int) := b0 (ieee_Round.f n) soft_withSign.f (soft_fraction_flags.f n) a0 l1 a2
noncomputable def sg : Sig (Int × Int) := s2 (sInt .u64) (s1 (sInt .i64))
noncomputable def code : Code := (Tryz.f113.body).getD .skip
noncomputable def cfg (c37 : T6) (c114 : T7) (c117 : T65) : Cfg (Int × Int) := { T := tys, call := orCall 37 (ieee_Round.call c37) (orCall 114 (soft_withSign.call c114) (orCall 117 (soft_fraction_flags.call c117) (noCall))) }
noncomputable def cuts : List (Nat × List (Nat × Want)) := []
theorem e0 {c37 c114 c117 n J a0 l1 a2} : afun (cfg c37 c114 c117) J cuts n code Tryz.f113.results.toList [false, false] [.agg [.bool a0, .ro .u64 l1, .int .i64 a2]] sg.out = b0 c37 c114 c117 a0 l1 a2 := by kernel_rfl
theorem ok {n  a0 l1 a2 r} (h : f n a0 l1 a2 = some r) : CallD Tryz.prog HW 113 [.agg [.bool a0, .ro .u64 l1, .int .i64 a2]] (sg.enc r) :=
  fun_some hwS Tryz.func113 (by kernel_rfl) (body := code) (by kernel_rfl) tys_ok (c := cfg (ieee_Round.f n) soft_withSign.f (soft_fraction_flags.f n)) (orCall_ok (ieee_Round.call_ok (n := n)) (orCall_ok soft_withSign.call_ok (orCall_ok (soft_fraction_flags.call_ok (n := n)) noCall_ok))) noW_ok (by kernel_rfl) (by kernel_rfl) (Nat.le_of_ble_eq_true (by kernel_rfl)) (Eq.trans ((e0 (n := n))) h)
noncomputable def call {α : Type} (g : T51) (ds : List D) (K : List D→Ω α) : Ω α := match ds with
  | [.agg [.bool a0, .ro .u64 l1, .int .i64 a2]] => (g a0 l1 a2).bind fun r => K (sg.enc r)
  | _ => none
theorem call_ok {α : Type} {n : Nat} : COK Tryz.prog HW 113 (call (α := α) (f n)) := fun _ _ _ h => by
  unfold call at h; split at h
  · exact cok h fun _ => ok
  · cases h
end soft_term_rounded
/-! ### soft_add: function 57 -/
namespace soft_add
noncomputable def b0 (c36 : T2) (c110 : T47) (c111 : T48) (c112 : T50) (c113 : T51) (k231 : Int→Int→Bool→Bool→Int→Int→Int→Bool→Int→Int→Int→Ω (Int × Int)) (a0 a1 a2 : Int) : Ω (Int × Int) := ((c36 a0).bind fun t1 => ((c36 a1).bind fun t2 => (if t1.2.1 = 4 then some (9221120237041090560, 0) else (if t2.2.1 = 4 then some (9221120237041090560, 0) else (if t1.2.1 = 3 then (if t2.2.1 = 3 then k231 a0 a1 (t1.1 != t2.1) t1.1 t1.2.1 t1.2.2.1 t1.2.2.2 t2.1 t2.2.1 t2.2.2.1 t2.2.2.2 else k231 a0 a1 false t1.1 t1.2.1 t1.2.2.1 t1.2.2.2 t2.1 t2.2.1 t2.2.2.1 t2.2.2.2) else k231 a0 a1 false t1.1 t1.2.1 t1.2.2.1 t1.2.2.2 t2.1 t2.2.1 t2.2.2.1 t2.2.2.2)))))
noncomputable def b231 (c36 : T2) (c110 : T47) (c111 : T48) (c112 : T50) (c113 : T51) (x0 x1 : Int) (x2 x3 : Bool) (x4 x5 x6 : Int) (x7 : Bool) (x8 x9 x10 : Int) : Ω (Int × Int) := (if x2 = true then ((c110).bind fun t1 => some (t1.1, t1.2)) else (if x4 = 3 then some (x0, 0) else (if x8 = 3 then some (x1, 0) else ((c111 x3 x4 x5 x6).bind fun t2 => ((c111 x7 x8 x9 x10).bind fun t3 => ((c112 t2.1 t2.2.1 t2.2.2 t3.1 t3.2.1 t3.2.2).bind fun t4 => ((c113 t4.1 t4.2.1 t4.2.2).bind fun t5 => some (t5.1, t5.2))))))))
noncomputable def l231 (n : Nat) (x0 x1 : Int) (x2 x3 : Bool) (x4 x5 x6 : Int) (x7 : Bool) (x8 x9 x10 : Int) : Ω (Int × Int) := b231 ieee_Decode.f soft_invalid.f soft_termOf.f (soft_term_plus.f n) (soft_term_rounded.f n) x0 x1 x2 x3 x4 x5 x6 x7 x8 x9 x10
noncomputable def f (n : Nat) (a0 a1 a2 : Int) : Ω (Int × Int) := b0 ieee_Decode.f soft_invalid.f soft_termOf.f (soft_term_plus.f n) (soft_term_rounded.f n) (l231 n) a0 a1 a2
noncomputable def sg : Sig (Int × Int) := s2 (sInt .u64) (s1 (sInt .i64))
noncomputable def code : Code := (Tryz.f57.body).getD .skip
noncomputable def cfg (c36 : T2) (c110 : T47) (c111 : T48) (c112 : T50) (c113 : T51) : Cfg (Int × Int) := { T := tys, call := orCall 36 (ieee_Decode.call c36) (orCall 110 (soft_invalid.call c110) (orCall 111 (soft_termOf.call c111) (orCall 112 (soft_term_plus.call c112) (orCall 113 (soft_term_rounded.call c113) (noCall))))) }
noncomputable def cuts : List (Nat × List (Nat × Want)) := [(231, [(0, .keep), (1, .keep), (8, .keep), (9, .keep), (23, .keep)])]
noncomputable def s231 (x0 x1 : Int) (x2 x3 : Bool) (x4 x5 x6 : Int) (x7 : Bool) (x8 x9 x10 : Int) : ASt := ⟨[(0, .int .u64 x0), (1, .int .u64 x1), (8, .ptr 0 0), (9, .ptr 1 0), (23, .bool x2)], [.cells 54 [.bool x3, .int .i64 x4, .int .u64 x5, .int .i64 x6], .cells 54 [.bool x7, .int .i64 x8, .int .u64 x9, .int .i64 x10]]⟩
noncomputable def A (c36 : T2) (c110 : T47) (c111 : T48) (c112 : T50) (c113 : T51) (n : Nat) (J : Jt (Int × Int)) (q : Nat) (ms : List Nat) : ASt→Ω (Int × Int) := acont (cfg c36 c110 c111 c112 c113) J cuts n q code 1 ms (aend (cfg c36 c110 c111 c112 c113) Tryz.f57.results.toList [false, false] sg.out)
theorem e0 {c36 c110 c111 c112 c113 n J a0 a1 a2} : afun (cfg c36 c110 c111 c112 c113) J cuts n code Tryz.f57.results.toList [false, false] [.int .u64 a0, .int .u64 a1, .int .u64 a2] sg.out = b0 c36 c110 c111 c112 c113 (fun y0 y1 y2 y3 y4 y5 y6 y7 y8 y9 y10 => J 231 (A c36 c110 c111 c112 c113 n J 231 []) (s231 y0 y1 y2 y3 y4 y5 y6 y7 y8 y9 y10)) a0 a1 a2 := by kernel_rfl
theorem e231 {c36 c110 c111 c112 c113 n J x0 x1 x2 x3 x4 x5 x6 x7 x8 x9 x10} : A c36 c110 c111 c112 c113 n J 231 [] (s231 x0 x1 x2 x3 x4 x5 x6 x7 x8 x9 x10) = b231 c36 c110 c111 c112 c113 x0 x1 x2 x3 x4 x5 x6 x7 x8 x9 x10 := by kernel_rfl
noncomputable abbrev I (n : Nat) := A ieee_Decode.f soft_invalid.f soft_termOf.f (soft_term_plus.f n) (soft_term_rounded.f n) n idJ
theorem q231 (n x0 x1 x2 x3 x4 x5 x6 x7 x8 x9 x10) : I n 231 [] (s231 x0 x1 x2 x3 x4 x5 x6 x7 x8 x9 x10) = l231 n x0 x1 x2 x3 x4 x5 x6 x7 x8 x9 x10 := e231
theorem ok {n  a0 a1 a2 r} (h : f n a0 a1 a2 = some r) : CallD Tryz.prog HW 57 [.int .u64 a0, .int .u64 a1, .int .u64 a2] (sg.enc r) :=
  fun_some hwS Tryz.func57 (by kernel_rfl) (body := code) (by kernel_rfl) tys_ok (c := cfg ieee_Decode.f soft_invalid.f soft_termOf.f (soft_term_plus.f n) (soft_term_rounded.f n)) (orCall_ok ieee_Decode.call_ok (orCall_ok soft_invalid.call_ok (orCall_ok soft_termOf.call_ok (orCall_ok (soft_term_plus.call_ok (n := n)) (orCall_ok (soft_term_rounded.call_ok (n := n)) noCall_ok))))) noW_ok (by kernel_rfl) (by kernel_rfl) (Nat.le_of_ble_eq_true (by kernel_rfl)) (Eq.trans ((e0 (n := n)).trans (Eq.trans (cf3 (congrArg (b0 _ _ _ _ _) (fu11 (q231 n))) _ _ _) rfl)) h)
noncomputable def call {α : Type} (g : T4) (ds : List D) (K : List D→Ω α) : Ω α := match ds with
  | [.int .u64 a0, .int .u64 a1, .int .u64 a2] => (g a0 a1 a2).bind fun r => K (sg.enc r)
  | _ => none
theorem call_ok {α : Type} {n : Nat} : COK Tryz.prog HW 57 (call (α := α) (f n)) := fun _ _ _ h => by
  unfold call at h; split at h
  · exact cok h fun _ => ok
  · cases h
end soft_add
/-! ### soft_sub: function 58 -/
namespace soft_sub
noncomputable def b0 (c57 : T4) (c91 : T0) (a0 a1 a2 : Int) : Ω (Int × Int) := ((c91 a1).bind fun t1 => ((c57 a0 t1 a2).bind fun t2 => some (t2.1, t2.2)))
noncomputable def f (n : Nat) (a0 a1 a2 : Int) : Ω (Int × Int) := b0 (soft_add.f n) ieee_Neg.f a0 a1 a2
noncomputable def sg : Sig (Int × Int) := s2 (sInt .u64) (s1 (sInt .i64))
noncomputable def code : Code := (Tryz.f58.body).getD .skip
noncomputable def cfg (c57 : T4) (c91 : T0) : Cfg (Int × Int) := { T := tys, call := orCall 57 (soft_add.call c57) (orCall 91 (ieee_Neg.call c91) (noCall)) }
noncomputable def cuts : List (Nat × List (Nat × Want)) := []
theorem e0 {c57 c91 n J a0 a1 a2} : afun (cfg c57 c91) J cuts n code Tryz.f58.results.toList [false, false] [.int .u64 a0, .int .u64 a1, .int .u64 a2] sg.out = b0 c57 c91 a0 a1 a2 := by kernel_rfl
theorem ok {n  a0 a1 a2 r} (h : f n a0 a1 a2 = some r) : CallD Tryz.prog HW 58 [.int .u64 a0, .int .u64 a1, .int .u64 a2] (sg.enc r) :=
  fun_some hwS Tryz.func58 (by kernel_rfl) (body := code) (by kernel_rfl) tys_ok (c := cfg (soft_add.f n) ieee_Neg.f) (orCall_ok (soft_add.call_ok (n := n)) (orCall_ok ieee_Neg.call_ok noCall_ok)) noW_ok (by kernel_rfl) (by kernel_rfl) (Nat.le_of_ble_eq_true (by kernel_rfl)) (Eq.trans ((e0 (n := n))) h)
noncomputable def call {α : Type} (g : T4) (ds : List D) (K : List D→Ω α) : Ω α := match ds with
  | [.int .u64 a0, .int .u64 a1, .int .u64 a2] => (g a0 a1 a2).bind fun r => K (sg.enc r)
  | _ => none
theorem call_ok {α : Type} {n : Nat} : COK Tryz.prog HW 58 (call (α := α) (f n)) := fun _ _ _ h => by
  unfold call at h; split at h
  · exact cok h fun _ => ok
  · cases h
end soft_sub
/-! ### soft_Sub: function 76 -/
namespace soft_Sub
noncomputable def b0 (c58 : T4) (a0 a1 : Int) : Ω (Int) := ((c58 a0 a1 0).bind fun t1 => some t1.1)
noncomputable def f (n : Nat) (a0 a1 : Int) : Ω (Int) := b0 (soft_sub.f n) a0 a1
noncomputable def sg : Sig (Int) := s1 (sInt .u64)
noncomputable def code : Code := (Tryz.f76.body).getD .skip
noncomputable def cfg (c58 : T4) : Cfg (Int) := { T := tys, call := orCall 58 (soft_sub.call c58) (noCall) }
noncomputable def cuts : List (Nat × List (Nat × Want)) := []
theorem e0 {c58 n J a0 a1} : afun (cfg c58) J cuts n code Tryz.f76.results.toList [false] [.int .u64 a0, .int .u64 a1] sg.out = b0 c58 a0 a1 := by kernel_rfl
theorem ok {n  a0 a1 r} (h : f n a0 a1 = some r) : CallD Tryz.prog HW 76 [.int .u64 a0, .int .u64 a1] (sg.enc r) :=
  fun_some hwS Tryz.func76 (by kernel_rfl) (body := code) (by kernel_rfl) tys_ok (c := cfg (soft_sub.f n)) (orCall_ok (soft_sub.call_ok (n := n)) noCall_ok) noW_ok (by kernel_rfl) (by kernel_rfl) (Nat.le_of_ble_eq_true (by kernel_rfl)) (Eq.trans ((e0 (n := n))) h)
noncomputable def call {α : Type} (g : T9) (ds : List D) (K : List D→Ω α) : Ω α := match ds with
  | [.int .u64 a0, .int .u64 a1] => (g a0 a1).bind fun r => K (sg.enc r)
  | _ => none
theorem call_ok {α : Type} {n : Nat} : COK Tryz.prog HW 76 (call (α := α) (f n)) := fun _ _ _ h => by
  unfold call at h; split at h
  · exact cok h fun _ => ok
  · cases h
end soft_Sub
/-! ### remain_Split: function 31 -/
namespace remain_Split
noncomputable def b0 (c21 : T0) (c36 : T2) (c68 : T7) (c76 : T9) (a0 : Int) : Ω (Int × Int) := ((c36 a0).bind fun t1 => ((c21 a0).bind fun t2 => (if t1.2.1 = 4 then some (9221120237041090560, 9221120237041090560) else (if t1.2.1 = 3 then ((c68 t1.1 0).bind fun t3 => some (a0, t3)) else ((c76 a0 t2).bind fun t4 => (if (Go.bits .andNot .u64 t4 9223372036854775808) = 0 then ((c68 t1.1 0).bind fun t5 => some (t2, t5)) else some (t2, t4)))))))
noncomputable def f (n : Nat) (a0 : Int) : Ω (Int × Int) := b0 (remain_Trunc.f n) ieee_Decode.f remain_signed.f (soft_Sub.f n) a0
noncomputable def sg : Sig (Int × Int) := s2 (sInt .u64) (s1 (sInt .u64))
noncomputable def code : Code := (Tryz.f31.body).getD .skip
noncomputable def cfg (c21 : T0) (c36 : T2) (c68 : T7) (c76 : T9) : Cfg (Int × Int) := { T := tys, call := orCall 21 (remain_Trunc.call c21) (orCall 36 (ieee_Decode.call c36) (orCall 68 (remain_signed.call c68) (orCall 76 (soft_Sub.call c76) (noCall)))) }
noncomputable def cuts : List (Nat × List (Nat × Want)) := []
theorem e0 {c21 c36 c68 c76 n J a0} : afun (cfg c21 c36 c68 c76) J cuts n code Tryz.f31.results.toList [false, false] [.int .u64 a0] sg.out = b0 c21 c36 c68 c76 a0 := by kernel_rfl
theorem ok {n  a0 r} (h : f n a0 = some r) : CallD Tryz.prog HW 31 [.int .u64 a0] (sg.enc r) :=
  fun_some hwS Tryz.func31 (by kernel_rfl) (body := code) (by kernel_rfl) tys_ok (c := cfg (remain_Trunc.f n) ieee_Decode.f remain_signed.f (soft_Sub.f n)) (orCall_ok (remain_Trunc.call_ok (n := n)) (orCall_ok ieee_Decode.call_ok (orCall_ok remain_signed.call_ok (orCall_ok (soft_Sub.call_ok (n := n)) noCall_ok)))) noW_ok (by kernel_rfl) (by kernel_rfl) (Nat.le_of_ble_eq_true (by kernel_rfl)) (Eq.trans ((e0 (n := n))) h)
noncomputable def call {α : Type} (g : T28) (ds : List D) (K : List D→Ω α) : Ω α := match ds with
  | [.int .u64 a0] => (g a0).bind fun r => K (sg.enc r)
  | _ => none
theorem call_ok {α : Type} {n : Nat} : COK Tryz.prog HW 31 (call (α := α) (f n)) := fun _ _ _ h => by
  unfold call at h; split at h
  · exact cok h fun _ => ok
  · cases h
end remain_Split
/-! ### abacusref01_halves: function 132 -/
namespace abacusref01_halves
noncomputable def b0 (k117 : T52) (l0 : Λ) : Ω (Λ) := (if 0 ≤ (wrap64 (2 * (ln l0))) then (if (wrap64 (2 * (ln l0))).toNat ≤ 35184372088832 then k117 l0 0 (List.replicate 0 (0 : Int)) else none) else none)
noncomputable def b15 (k249 : T66) (x0 : Λ) : Ω (Λ) := k249 (ln x0) x0
noncomputable def b117 (k15 : T3) (k117 : T52) (x0 : Λ) (x1 : Int) (x2 : Λ) : Ω (Λ) := (if x1 < (ln x0) then (if 0 ≤ x1 then (if x1 < (ln x0) then (if x2.length + 1 ≤ 17592186044416 then (if 0 ≤ x1 then (if x1 < (ln x0) then (if (x2 ++ [Go.bits .and .u64 (rd x0 x1) 4294967295]).length + 1 ≤ 17592186044416 then k117 x0 (wrap64 (x1 + 1)) ((x2 ++ [Go.bits .and .u64 (rd x0 x1) 4294967295]) ++ [(rd x0 x1) / 4294967296]) else none) else none) else none) else none) else none) else none) else k15 x2)
noncomputable def b249 (k249 : T66) (x0 : Int) (x1 : Λ) : Ω (Λ) := (if x0 > 0 then (if 0 ≤ (wrap64 (x0 - 1)) then (if (wrap64 (x0 - 1)) < (ln x1) then (if (rd x1 (wrap64 (x0 - 1))) = 0 then k249 (wrap64 (x0 - 1)) x1 else (if 0 ≤ x0 then (if x0 ≤ (ln x1) then ((some (x1.take x0.toNat) : Ω (Λ)).bind fun y1 => some y1) else none) else none)) else none) else none) else (if 0 ≤ x0 then (if x0 ≤ (ln x1) then ((some (x1.take x0.toNat) : Ω (Λ)).bind fun y2 => some y2) else none) else none))
noncomputable def l249 (n : Nat) : Nat→Int→Λ→Ω (Λ)
  | 0, _, _ => none
  | m + 1, x0, x1 => b249 (l249 n m) x0 x1
noncomputable def l15 (n : Nat) (x0 : Λ) : Ω (Λ) := b15 (l249 n n) x0
noncomputable def l117 (n : Nat) : Nat→Λ→Int→Λ→Ω (Λ)
  | 0, _, _, _ => none
  | m + 1, x0, x1, x2 => b117 (l15 n) (l117 n m) x0 x1 x2
noncomputable def f (n : Nat) (l0 : Λ) : Ω (Λ) := b0 (l117 n n) l0
noncomputable def sg : Sig (Λ) := s1 (sRow .u64)
noncomputable def code : Code := (Tryz.f132.body).getD .skip
noncomputable def cfg : Cfg (Λ) := { T := tys, call := noCall }
noncomputable def cuts : List (Nat × List (Nat × Want)) := [(15, [(3, .keep)]), (117, [(0, .keep), (3, .keep), (4, .keep)]), (249, [(3, .keep), (5, .keep)])]
noncomputable def s15 (x0 : Λ) : ASt := ⟨[(3, .own 0)], [.ints 24 .u64 x0]⟩
noncomputable def s117 (x0 : Λ) (x1 : Int) (x2 : Λ) : ASt := ⟨[(0, .ro .u64 x0), (3, .own 0), (4, .int .i64 x1)], [.ints 24 .u64 x2]⟩
noncomputable def s249 (x0 : Int) (x1 : Λ) : ASt := ⟨[(3, .own 0), (5, .int .i64 x0)], [.ints 24 .u64 x1]⟩
noncomputable def A (n : Nat) (J : Jt (Λ)) (q : Nat) (ms : List Nat) : ASt→Ω (Λ) := acont cfg J cuts n q code 1 ms (aend cfg Tryz.f132.results.toList [false] sg.out)
theorem e0 {n J l0} : afun cfg J cuts n code Tryz.f132.results.toList [false] [.ro .u64 l0] sg.out = b0 (fun y0 y1 y2 => J 117 (A n J 117 [n]) (s117 y0 y1 y2)) l0 := by kernel_rfl
theorem e15 {n J x0} : A n J 15 [] (s15 x0) = b15 (fun y0 y1 => J 249 (A n J 249 [n]) (s249 y0 y1)) x0 := by kernel_rfl
theorem e117 {n J m x0 x1 x2} : A n J 117 [m + 1] (s117 x0 x1 x2) = b117 (fun y0 => J 15 (A n J 15 []) (s15 y0)) (fun y0 y1 y2 => J 117 (A n J 117 [m]) (s117 y0 y1 y2)) x0 x1 x2 := by kernel_rfl
theorem e249 {n J m x0 x1} : A n J 249 [m + 1] (s249 x0 x1) = b249 (fun y0 y1 => J 249 (A n J 249 [m]) (s249 y0 y1)) x0 x1 := by kernel_rfl
noncomputable abbrev I (n : Nat) := A n idJ
theorem q249 (n m) : ∀ x0 x1, I n 249 [m] (s249 x0 x1) = l249 n m x0 x1 := by
  induction m with
  | zero => intros; rfl
  | succ m ih =>
    intros
    exact e249.trans (Eq.trans (cf2 (congrArg b249 (fu2 (ih))) _ _) rfl)
theorem q15 (n x0) : I n 15 [] (s15 x0) = l15 n x0 := e15.trans (Eq.trans (cf1 (congrArg b15 (fu2 (q249 n n))) _) rfl)
theorem q117 (n m) : ∀ x0 x1 x2, I n 117 [m] (s117 x0 x1 x2) = l117 n m x0 x1 x2 := by
  induction m with
  | zero => intros; rfl
  | succ m ih =>
    intros
    exact e117.trans (Eq.trans (cf3 (congr (congrArg b117 (fu1 (q15 n))) (fu3 (ih))) _ _ _) rfl)
theorem ok {n  l0 r} (h : f n l0 = some r) : CallD Tryz.prog HW 132 [.ro .u64 l0] (sg.enc r) :=
  fun_some hwS Tryz.func132 (by kernel_rfl) (body := code) (by kernel_rfl) tys_ok (c := cfg) noCall_ok noW_ok (by kernel_rfl) (by kernel_rfl) (Nat.le_of_ble_eq_true (by kernel_rfl)) (Eq.trans ((e0 (n := n)).trans (Eq.trans (cf1 (congrArg b0 (fu3 (q117 n n))) _) rfl)) h)
noncomputable def call {α : Type} (g : T3) (ds : List D) (K : List D→Ω α) : Ω α := match ds with
  | [.ro .u64 l0] => (g l0).bind fun r => K (sg.enc r)
  | _ => none
theorem call_ok {α : Type} {n : Nat} : COK Tryz.prog HW 132 (call (α := α) (f n)) := fun _ _ _ h => by
  unfold call at h; split at h
  · exact cok h fun _ => ok
  · cases h
end abacusref01_halves
/-! ### abacusref01_Trim: function 159 -/
namespace abacusref01_Trim
noncomputable def b0 (k57 : T14) (l0 : Λ) : Ω (Λ) := k57 l0 (ln l0)
noncomputable def b15 (k501 : T43) (x0 : Λ) (x1 : Int) : Ω (Λ) := (if 0 ≤ x1 then (if x1.toNat ≤ 35184372088832 then k501 x0 x1 0 (List.replicate 0 (0 : Int)) else none) else none)
noncomputable def b57 (k15 k57 : T14) (x0 : Λ) (x1 : Int) : Ω (Λ) := (if x1 > 0 then (if 0 ≤ (wrap64 (x1 - 1)) then (if (wrap64 (x1 - 1)) < (ln x0) then (if (rd x0 (wrap64 (x1 - 1))) = 0 then k57 x0 (wrap64 (x1 - 1)) else k15 x0 x1) else none) else none) else k15 x0 x1)
noncomputable def b501 (k501 : T43) (x0 : Λ) (x1 x2 : Int) (x3 : Λ) : Ω (Λ) := (if x2 < x1 then (if 0 ≤ x2 then (if x2 < (ln x0) then (if x3.length + 1 ≤ 17592186044416 then k501 x0 x1 (wrap64 (x2 + 1)) (x3 ++ [rd x0 x2]) else none) else none) else none) else some x3)
noncomputable def l501 (n : Nat) : Nat→Λ→Int→Int→Λ→Ω (Λ)
  | 0, _, _, _, _ => none
  | m + 1, x0, x1, x2, x3 => b501 (l501 n m) x0 x1 x2 x3
noncomputable def l15 (n : Nat) (x0 : Λ) (x1 : Int) : Ω (Λ) := b15 (l501 n n) x0 x1
noncomputable def l57 (n : Nat) : Nat→Λ→Int→Ω (Λ)
  | 0, _, _ => none
  | m + 1, x0, x1 => b57 (l15 n) (l57 n m) x0 x1
noncomputable def f (n : Nat) (l0 : Λ) : Ω (Λ) := b0 (l57 n n) l0
noncomputable def sg : Sig (Λ) := s1 (sOwn 24 .u64)
noncomputable def code : Code := (Tryz.f159.body).getD .skip
noncomputable def cfg : Cfg (Λ) := { T := tys, call := noCall }
noncomputable def cuts : List (Nat × List (Nat × Want)) := [(15, [(0, .keep), (3, .keep)]), (57, [(0, .keep), (3, .keep)]), (501, [(0, .keep), (3, .keep), (4, .keep), (5, .keep)])]
noncomputable def s15 (x0 : Λ) (x1 : Int) : ASt := ⟨[(0, .ro .u64 x0), (3, .int .i64 x1)], []⟩
noncomputable def s57 (x0 : Λ) (x1 : Int) : ASt := ⟨[(0, .ro .u64 x0), (3, .int .i64 x1)], []⟩
noncomputable def s501 (x0 : Λ) (x1 x2 : Int) (x3 : Λ) : ASt := ⟨[(0, .ro .u64 x0), (3, .int .i64 x1), (4, .own 0), (5, .int .i64 x2)], [.ints 24 .u64 x3]⟩
noncomputable def A (n : Nat) (J : Jt (Λ)) (q : Nat) (ms : List Nat) : ASt→Ω (Λ) := acont cfg J cuts n q code 1 ms (aend cfg Tryz.f159.results.toList [true] sg.out)
theorem e0 {n J l0} : afun cfg J cuts n code Tryz.f159.results.toList [true] [.ro .u64 l0] sg.out = b0 (fun y0 y1 => J 57 (A n J 57 [n]) (s57 y0 y1)) l0 := by kernel_rfl
theorem e15 {n J x0 x1} : A n J 15 [] (s15 x0 x1) = b15 (fun y0 y1 y2 y3 => J 501 (A n J 501 [n]) (s501 y0 y1 y2 y3)) x0 x1 := by kernel_rfl
theorem e57 {n J m x0 x1} : A n J 57 [m + 1] (s57 x0 x1) = b57 (fun y0 y1 => J 15 (A n J 15 []) (s15 y0 y1)) (fun y0 y1 => J 57 (A n J 57 [m]) (s57 y0 y1)) x0 x1 := by kernel_rfl
theorem e501 {n J m x0 x1 x2 x3} : A n J 501 [m + 1] (s501 x0 x1 x2 x3) = b501 (fun y0 y1 y2 y3 => J 501 (A n J 501 [m]) (s501 y0 y1 y2 y3)) x0 x1 x2 x3 := by kernel_rfl
noncomputable abbrev I (n : Nat) := A n idJ
theorem q501 (n m) : ∀ x0 x1 x2 x3, I n 501 [m] (s501 x0 x1 x2 x3) = l501 n m x0 x1 x2 x3 := by
  induction m with
  | zero => intros; rfl
  | succ m ih =>
    intros
    exact e501.trans (Eq.trans (cf4 (congrArg b501 (fu4 (ih))) _ _ _ _) rfl)
theorem q15 (n x0 x1) : I n 15 [] (s15 x0 x1) = l15 n x0 x1 := e15.trans (Eq.trans (cf2 (congrArg b15 (fu4 (q501 n n))) _ _) rfl)
theorem q57 (n m) : ∀ x0 x1, I n 57 [m] (s57 x0 x1) = l57 n m x0 x1 := by
  induction m with
  | zero => intros; rfl
  | succ m ih =>
    intros
    exact e57.trans (Eq.trans (cf2 (congr (congrArg b57 (fu2 (q15 n))) (fu2 (ih))) _ _) rfl)
theorem ok {n  l0 r} (h : f n l0 = some r) : CallD Tryz.prog HW 159 [.ro .u64 l0] (sg.enc r) :=
  fun_some hwS Tryz.func159 (by kernel_rfl) (body := code) (by kernel_rfl) tys_ok (c := cfg) noCall_ok noW_ok (by kernel_rfl) (by kernel_rfl) (Nat.le_of_ble_eq_true (by kernel_rfl)) (Eq.trans ((e0 (n := n)).trans (Eq.trans (cf1 (congrArg b0 (fu2 (q57 n n))) _) rfl)) h)
noncomputable def call {α : Type} (g : T3) (ds : List D) (K : List D→Ω α) : Ω α := match ds with
  | [.ro .u64 l0] => (g l0).bind fun r => K (sg.enc r)
  | _ => none
theorem call_ok {α : Type} {n : Nat} : COK Tryz.prog HW 159 (call (α := α) (f n)) := fun _ _ _ h => by
  unfold call at h; split at h
  · exact cok h fun _ => ok
  · cases h
end abacusref01_Trim
/-! ### abacusref01_limbs: function 133 -/
namespace abacusref01_limbs
noncomputable def b0 (c159 : T3) (k117 : T52) (l0 : Λ) : Ω (Λ) := (if 0 ≤ (wrap64 (Int.tdiv (wrap64 ((ln l0) + 1)) 2)) then (if (wrap64 (Int.tdiv (wrap64 ((ln l0) + 1)) 2)).toNat ≤ 35184372088832 then k117 l0 0 (List.replicate 0 (0 : Int)) else none) else none)
noncomputable def b15 (c159 : T3) (x0 : Λ) : Ω (Λ) := ((c159 x0).bind fun t1 => some t1)
noncomputable def b117 (c159 k15 : T3) (k117 : T52) (x0 : Λ) (x1 : Int) (x2 : Λ) : Ω (Λ) := (if x1 < (ln x0) then (if 0 ≤ x1 then (if x1 < (ln x0) then (if (wrap64 (x1 + 1)) < (ln x0) then (if 0 ≤ (wrap64 (x1 + 1)) then (if (wrap64 (x1 + 1)) < (ln x0) then (if x2.length + 1 ≤ 17592186044416 then k117 x0 (wrap64 (x1 + 2)) (x2 ++ [IntKind.u64.wrap ((rd x0 x1) + (IntKind.u64.wrap ((rd x0 (wrap64 (x1 + 1))) * 4294967296)))]) else none) else none) else none) else (if x2.length + 1 ≤ 17592186044416 then k117 x0 (wrap64 (x1 + 2)) (x2 ++ [rd x0 x1]) else none)) else none) else none) else k15 x2)
noncomputable def l15 (n : Nat) (x0 : Λ) : Ω (Λ) := b15 (abacusref01_Trim.f n) x0
noncomputable def l117 (n : Nat) : Nat→Λ→Int→Λ→Ω (Λ)
  | 0, _, _, _ => none
  | m + 1, x0, x1, x2 => b117 (abacusref01_Trim.f n) (l15 n) (l117 n m) x0 x1 x2
noncomputable def f (n : Nat) (l0 : Λ) : Ω (Λ) := b0 (abacusref01_Trim.f n) (l117 n n) l0
noncomputable def sg : Sig (Λ) := s1 (sOwn 24 .u64)
noncomputable def code : Code := (Tryz.f133.body).getD .skip
noncomputable def cfg (c159 : T3) : Cfg (Λ) := { T := tys, call := orCall 159 (abacusref01_Trim.call c159) (noCall) }
noncomputable def cuts : List (Nat × List (Nat × Want)) := [(15, [(3, .keep)]), (117, [(0, .keep), (3, .keep), (4, .keep)])]
noncomputable def s15 (x0 : Λ) : ASt := ⟨[(3, .own 0)], [.ints 24 .u64 x0]⟩
noncomputable def s117 (x0 : Λ) (x1 : Int) (x2 : Λ) : ASt := ⟨[(0, .ro .u64 x0), (3, .own 0), (4, .int .i64 x1)], [.ints 24 .u64 x2]⟩
noncomputable def A (c159 : T3) (n : Nat) (J : Jt (Λ)) (q : Nat) (ms : List Nat) : ASt→Ω (Λ) := acont (cfg c159) J cuts n q code 1 ms (aend (cfg c159) Tryz.f133.results.toList [true] sg.out)
theorem e0 {c159 n J l0} : afun (cfg c159) J cuts n code Tryz.f133.results.toList [true] [.ro .u64 l0] sg.out = b0 c159 (fun y0 y1 y2 => J 117 (A c159 n J 117 [n]) (s117 y0 y1 y2)) l0 := by kernel_rfl
theorem e15 {c159 n J x0} : A c159 n J 15 [] (s15 x0) = b15 c159 x0 := by kernel_rfl
theorem e117 {c159 n J m x0 x1 x2} : A c159 n J 117 [m + 1] (s117 x0 x1 x2) = b117 c159 (fun y0 => J 15 (A c159 n J 15 []) (s15 y0)) (fun y0 y1 y2 => J 117 (A c159 n J 117 [m]) (s117 y0 y1 y2)) x0 x1 x2 := by kernel_rfl
noncomputable abbrev I (n : Nat) := A (abacusref01_Trim.f n) n idJ
theorem q15 (n x0) : I n 15 [] (s15 x0) = l15 n x0 := e15
theorem q117 (n m) : ∀ x0 x1 x2, I n 117 [m] (s117 x0 x1 x2) = l117 n m x0 x1 x2 := by
  induction m with
  | zero => intros; rfl
  | succ m ih =>
    intros
    exact e117.trans (Eq.trans (cf3 (congr (congrArg (b117 _) (fu1 (q15 n))) (fu3 (ih))) _ _ _) rfl)
theorem ok {n  l0 r} (h : f n l0 = some r) : CallD Tryz.prog HW 133 [.ro .u64 l0] (sg.enc r) :=
  fun_some hwS Tryz.func133 (by kernel_rfl) (body := code) (by kernel_rfl) tys_ok (c := cfg (abacusref01_Trim.f n)) (orCall_ok (abacusref01_Trim.call_ok (n := n)) noCall_ok) noW_ok (by kernel_rfl) (by kernel_rfl) (Nat.le_of_ble_eq_true (by kernel_rfl)) (Eq.trans ((e0 (n := n)).trans (Eq.trans (cf1 (congrArg (b0 _) (fu3 (q117 n n))) _) rfl)) h)
noncomputable def call {α : Type} (g : T3) (ds : List D) (K : List D→Ω α) : Ω α := match ds with
  | [.ro .u64 l0] => (g l0).bind fun r => K (sg.enc r)
  | _ => none
theorem call_ok {α : Type} {n : Nat} : COK Tryz.prog HW 133 (call (α := α) (f n)) := fun _ _ _ h => by
  unfold call at h; split at h
  · exact cok h fun _ => ok
  · cases h
end abacusref01_limbs
/-! ### abacusref01_Lift: function 79 -/
namespace abacusref01_Lift
noncomputable def b0 (c132 c133 : T3) (k501 : T88) (l0 : Λ) (a1 : Int) : Ω (Λ) := ((c132 l0).bind fun t1 => (if (ln t1) = 0 then some ([] : Λ) else (if 0 ≤ (wrap64 ((wrap64 ((wrap64 (Int.tdiv a1 32)) + (ln t1))) + 1)) then (if (wrap64 ((wrap64 ((wrap64 (Int.tdiv a1 32)) + (ln t1))) + 1)).toNat ≤ 35184372088832 then k501 a1 t1 0 (List.replicate 0 (0 : Int)) else none) else none)))
noncomputable def b63 (c132 c133 : T3) (k2037 : T89) (x0 : Int) (x1 x2 : Λ) : Ω (Λ) := k2037 x0 x1 1 0 x2
noncomputable def b255 (c132 c133 : T3) (k8181 : T90) (x0 : Λ) (x1 : Int) (x2 : Λ) : Ω (Λ) := k8181 x0 x1 0 0 x2
noncomputable def b501 (c132 c133 : T3) (k63 : Int→Λ→Λ→Ω (Λ)) (k501 : T88) (x0 : Int) (x1 : Λ) (x2 : Int) (x3 : Λ) : Ω (Λ) := (if x2 < (wrap64 (Int.tdiv x0 32)) then (if x3.length + 1 ≤ 17592186044416 then k501 x0 x1 (wrap64 (x2 + 1)) (x3 ++ [0]) else none) else k63 x0 x1 x3)
noncomputable def b1023 (c132 c133 : T3) (x0 : Int) (x1 : Λ) : Ω (Λ) := (if x1.length + 1 ≤ 17592186044416 then ((c133 (x1 ++ [x0])).bind fun t1 => some t1) else none)
noncomputable def b2037 (c132 c133 : T3) (k255 : T52) (k2037 : T89) (x0 : Int) (x1 : Λ) (x2 x3 : Int) (x4 : Λ) : Ω (Λ) := (if x3 < (Int.tmod x0 32) then k2037 x0 x1 (IntKind.u64.wrap (x2 * 2)) (wrap64 (x3 + 1)) x4 else k255 x1 x2 x4)
noncomputable def b8181 (c132 c133 : T3) (k1023 : T66) (k8181 : T90) (x0 : Λ) (x1 x2 x3 : Int) (x4 : Λ) : Ω (Λ) := (if x3 < (ln x0) then (if 0 ≤ x3 then (if x3 < (ln x0) then (if x4.length + 1 ≤ 17592186044416 then k8181 x0 x1 ((IntKind.u64.wrap ((IntKind.u64.wrap ((rd x0 x3) * x1)) + x2)) / 4294967296) (wrap64 (x3 + 1)) (x4 ++ [Go.bits .and .u64 (IntKind.u64.wrap ((IntKind.u64.wrap ((rd x0 x3) * x1)) + x2)) 4294967295]) else none) else none) else none) else k1023 x2 x4)
noncomputable def l1023 (n : Nat) (x0 : Int) (x1 : Λ) : Ω (Λ) := b1023 (abacusref01_halves.f n) (abacusref01_limbs.f n) x0 x1
noncomputable def l8181 (n : Nat) : Nat→Λ→Int→Int→Int→Λ→Ω (Λ)
  | 0, _, _, _, _, _ => none
  | m + 1, x0, x1, x2, x3, x4 => b8181 (abacusref01_halves.f n) (abacusref01_limbs.f n) (l1023 n) (l8181 n m) x0 x1 x2 x3 x4
noncomputable def l255 (n : Nat) (x0 : Λ) (x1 : Int) (x2 : Λ) : Ω (Λ) := b255 (abacusref01_halves.f n) (abacusref01_limbs.f n) (l8181 n n) x0 x1 x2
noncomputable def l2037 (n : Nat) : Nat→Int→Λ→Int→Int→Λ→Ω (Λ)
  | 0, _, _, _, _, _ => none
  | m + 1, x0, x1, x2, x3, x4 => b2037 (abacusref01_halves.f n) (abacusref01_limbs.f n) (l255 n) (l2037 n m) x0 x1 x2 x3 x4
noncomputable def l63 (n : Nat) (x0 : Int) (x1 x2 : Λ) : Ω (Λ) := b63 (abacusref01_halves.f n) (abacusref01_limbs.f n) (l2037 n n) x0 x1 x2
noncomputable def l501 (n : Nat) : Nat→Int→Λ→Int→Λ→Ω (Λ)
  | 0, _, _, _, _ => none
  | m + 1, x0, x1, x2, x3 => b501 (abacusref01_halves.f n) (abacusref01_limbs.f n) (l63 n) (l501 n m) x0 x1 x2 x3
noncomputable def f (n : Nat) (l0 : Λ) (a1 : Int) : Ω (Λ) := b0 (abacusref01_halves.f n) (abacusref01_limbs.f n) (l501 n n) l0 a1
noncomputable def sg : Sig (Λ) := s1 (sOwn 24 .u64)
noncomputable def code : Code := (Tryz.f79.body).getD .skip
noncomputable def cfg (c132 c133 : T3) : Cfg (Λ) := { T := tys, call := orCall 132 (abacusref01_halves.call c132) (orCall 133 (abacusref01_limbs.call c133) (noCall)) }
noncomputable def cuts : List (Nat × List (Nat × Want)) := [(63, [(1, .keep), (5, .keep), (6, .keep)]), (255, [(5, .keep), (6, .keep), (8, .keep)]), (501, [(1, .keep), (5, .keep), (6, .keep), (7, .keep)]), (1023, [(6, .keep), (10, .keep)]), (2037, [(1, .keep), (5, .keep), (6, .keep), (8, .keep), (9, .keep)]), (8181, [(5, .keep), (6, .keep), (8, .keep), (10, .keep), (11, .keep)])]
noncomputable def s63 (x0 : Int) (x1 x2 : Λ) : ASt := ⟨[(1, .int .i64 x0), (5, .ro .u64 x1), (6, .own 0)], [.ints 24 .u64 x2]⟩
noncomputable def s255 (x0 : Λ) (x1 : Int) (x2 : Λ) : ASt := ⟨[(5, .ro .u64 x0), (6, .own 0), (8, .int .u64 x1)], [.ints 24 .u64 x2]⟩
noncomputable def s501 (x0 : Int) (x1 : Λ) (x2 : Int) (x3 : Λ) : ASt := ⟨[(1, .int .i64 x0), (5, .ro .u64 x1), (6, .own 0), (7, .int .i64 x2)], [.ints 24 .u64 x3]⟩
noncomputable def s1023 (x0 : Int) (x1 : Λ) : ASt := ⟨[(6, .own 0), (10, .int .u64 x0)], [.ints 24 .u64 x1]⟩
noncomputable def s2037 (x0 : Int) (x1 : Λ) (x2 x3 : Int) (x4 : Λ) : ASt := ⟨[(1, .int .i64 x0), (5, .ro .u64 x1), (6, .own 0), (8, .int .u64 x2), (9, .int .i64 x3)], [.ints 24 .u64 x4]⟩
noncomputable def s8181 (x0 : Λ) (x1 x2 x3 : Int) (x4 : Λ) : ASt := ⟨[(5, .ro .u64 x0), (6, .own 0), (8, .int .u64 x1), (10, .int .u64 x2), (11, .int .i64 x3)], [.ints 24 .u64 x4]⟩
noncomputable def A (c132 c133 : T3) (n : Nat) (J : Jt (Λ)) (q : Nat) (ms : List Nat) : ASt→Ω (Λ) := acont (cfg c132 c133) J cuts n q code 1 ms (aend (cfg c132 c133) Tryz.f79.results.toList [true] sg.out)
theorem e0 {c132 c133 n J l0 a1} : afun (cfg c132 c133) J cuts n code Tryz.f79.results.toList [true] [.ro .u64 l0, .int .i64 a1] sg.out = b0 c132 c133 (fun y0 y1 y2 y3 => J 501 (A c132 c133 n J 501 [n]) (s501 y0 y1 y2 y3)) l0 a1 := by kernel_rfl
theorem e63 {c132 c133 n J x0 x1 x2} : A c132 c133 n J 63 [] (s63 x0 x1 x2) = b63 c132 c133 (fun y0 y1 y2 y3 y4 => J 2037 (A c132 c133 n J 2037 [n]) (s2037 y0 y1 y2 y3 y4)) x0 x1 x2 := by kernel_rfl
theorem e255 {c132 c133 n J x0 x1 x2} : A c132 c133 n J 255 [] (s255 x0 x1 x2) = b255 c132 c133 (fun y0 y1 y2 y3 y4 => J 8181 (A c132 c133 n J 8181 [n]) (s8181 y0 y1 y2 y3 y4)) x0 x1 x2 := by kernel_rfl
theorem e501 {c132 c133 n J m x0 x1 x2 x3} : A c132 c133 n J 501 [m + 1] (s501 x0 x1 x2 x3) = b501 c132 c133 (fun y0 y1 y2 => J 63 (A c132 c133 n J 63 []) (s63 y0 y1 y2)) (fun y0 y1 y2 y3 => J 501 (A c132 c133 n J 501 [m]) (s501 y0 y1 y2 y3)) x0 x1 x2 x3 := by kernel_rfl
theorem e1023 {c132 c133 n J x0 x1} : A c132 c133 n J 1023 [] (s1023 x0 x1) = b1023 c132 c133 x0 x1 := by kernel_rfl
theorem e2037 {c132 c133 n J m x0 x1 x2 x3 x4} : A c132 c133 n J 2037 [m + 1] (s2037 x0 x1 x2 x3 x4) = b2037 c132 c133 (fun y0 y1 y2 => J 255 (A c132 c133 n J 255 []) (s255 y0 y1 y2)) (fun y0 y1 y2 y3 y4 => J 2037 (A c132 c133 n J 2037 [m]) (s2037 y0 y1 y2 y3 y4)) x0 x1 x2 x3 x4 := by kernel_rfl
theorem e8181 {c132 c133 n J m x0 x1 x2 x3 x4} : A c132 c133 n J 8181 [m + 1] (s8181 x0 x1 x2 x3 x4) = b8181 c132 c133 (fun y0 y1 => J 1023 (A c132 c133 n J 1023 []) (s1023 y0 y1)) (fun y0 y1 y2 y3 y4 => J 8181 (A c132 c133 n J 8181 [m]) (s8181 y0 y1 y2 y3 y4)) x0 x1 x2 x3 x4 := by kernel_rfl
noncomputable abbrev I (n : Nat) := A (abacusref01_halves.f n) (abacusref01_limbs.f n) n idJ
theorem q1023 (n x0 x1) : I n 1023 [] (s1023 x0 x1) = l1023 n x0 x1 := e1023
theorem q8181 (n m) : ∀ x0 x1 x2 x3 x4, I n 8181 [m] (s8181 x0 x1 x2 x3 x4) = l8181 n m x0 x1 x2 x3 x4 := by
  induction m with
  | zero => intros; rfl
  | succ m ih =>
    intros
    exact e8181.trans (Eq.trans (cf5 (congr (congrArg (b8181 _ _) (fu2 (q1023 n))) (fu5 (ih))) _ _ _ _ _) rfl)
theorem q255 (n x0 x1 x2) : I n 255 [] (s255 x0 x1 x2) = l255 n x0 x1 x2 := e255.trans (Eq.trans (cf3 (congrArg (b255 _ _) (fu5 (q8181 n n))) _ _ _) rfl)
theorem q2037 (n m) : ∀ x0 x1 x2 x3 x4, I n 2037 [m] (s2037 x0 x1 x2 x3 x4) = l2037 n m x0 x1 x2 x3 x4 := by
  induction m with
  | zero => intros; rfl
  | succ m ih =>
    intros
    exact e2037.trans (Eq.trans (cf5 (congr (congrArg (b2037 _ _) (fu3 (q255 n))) (fu5 (ih))) _ _ _ _ _) rfl)
theorem q63 (n x0 x1 x2) : I n 63 [] (s63 x0 x1 x2) = l63 n x0 x1 x2 := e63.trans (Eq.trans (cf3 (congrArg (b63 _ _) (fu5 (q2037 n n))) _ _ _) rfl)
theorem q501 (n m) : ∀ x0 x1 x2 x3, I n 501 [m] (s501 x0 x1 x2 x3) = l501 n m x0 x1 x2 x3 := by
  induction m with
  | zero => intros; rfl
  | succ m ih =>
    intros
    exact e501.trans (Eq.trans (cf4 (congr (congrArg (b501 _ _) (fu3 (q63 n))) (fu4 (ih))) _ _ _ _) rfl)
theorem ok {n  l0 a1 r} (h : f n l0 a1 = some r) : CallD Tryz.prog HW 79 [.ro .u64 l0, .int .i64 a1] (sg.enc r) :=
  fun_some hwS Tryz.func79 (by kernel_rfl) (body := code) (by kernel_rfl) tys_ok (c := cfg (abacusref01_halves.f n) (abacusref01_limbs.f n)) (orCall_ok (abacusref01_halves.call_ok (n := n)) (orCall_ok (abacusref01_limbs.call_ok (n := n)) noCall_ok)) noW_ok (by kernel_rfl) (by kernel_rfl) (Nat.le_of_ble_eq_true (by kernel_rfl)) (Eq.trans ((e0 (n := n)).trans (Eq.trans (cf2 (congrArg (b0 _ _) (fu4 (q501 n n))) _ _) rfl)) h)
noncomputable def call {α : Type} (g : T14) (ds : List D) (K : List D→Ω α) : Ω α := match ds with
  | [.ro .u64 l0, .int .i64 a1] => (g l0 a1).bind fun r => K (sg.enc r)
  | _ => none
theorem call_ok {α : Type} {n : Nat} : COK Tryz.prog HW 79 (call (α := α) (f n)) := fun _ _ _ h => by
  unfold call at h; split at h
  · exact cok h fun _ => ok
  · cases h
end abacusref01_Lift
/-! ### abacusref01_Less: function 81 -/
namespace abacusref01_Less
noncomputable def b0 (c132 c133 : T3) (k1013 : T44) (l0 l1 : Λ) : Ω (Λ) := ((c132 l0).bind fun t1 => ((c132 l1).bind fun t2 => (if 0 ≤ (ln t1) then (if (ln t1).toNat ≤ 35184372088832 then k1013 t1 t2 0 0 (List.replicate 0 (0 : Int)) else none) else none)))
noncomputable def b127 (c132 c133 : T3) (x0 : Λ) : Ω (Λ) := ((c133 x0).bind fun t1 => some t1)
noncomputable def b1013 (c132 c133 k127 : T3) (k32403 : T44) (x0 x1 : Λ) (x2 x3 : Int) (x4 : Λ) : Ω (Λ) := (if x3 < (ln x0) then (if x3 < (ln x1) then (if 0 ≤ x3 then (if x3 < (ln x1) then k32403 x0 x1 x3 (IntKind.u64.wrap (x2 + (rd x1 x3))) x4 else none) else none) else k32403 x0 x1 x3 x2 x4) else k127 x4)
noncomputable def b32403 (c132 c133 : T3) (k259231 : Λ→Λ→Int→Int→Int→Int→Λ→Ω (Λ)) (x0 x1 : Λ) (x2 x3 : Int) (x4 : Λ) : Ω (Λ) := (if 0 ≤ x2 then (if x2 < (ln x0) then (if (rd x0 x2) < x3 then k259231 x0 x1 1 x2 x3 (IntKind.u64.wrap ((rd x0 x2) + 4294967296)) x4 else k259231 x0 x1 0 x2 x3 (rd x0 x2) x4) else none) else none)
noncomputable def b259231 (c132 c133 : T3) (k1013 : T44) (x0 x1 : Λ) (x2 x3 x4 x5 : Int) (x6 : Λ) : Ω (Λ) := (if x6.length + 1 ≤ 17592186044416 then k1013 x0 x1 x2 (wrap64 (x3 + 1)) (x6 ++ [IntKind.u64.wrap (x5 - x4)]) else none)
noncomputable def l127 (n : Nat) (x0 : Λ) : Ω (Λ) := b127 (abacusref01_halves.f n) (abacusref01_limbs.f n) x0
noncomputable def l259231 (n : Nat) (k1013 : T44) (x0 x1 : Λ) (x2 x3 x4 x5 : Int) (x6 : Λ) : Ω (Λ) := b259231 (abacusref01_halves.f n) (abacusref01_limbs.f n) k1013 x0 x1 x2 x3 x4 x5 x6
noncomputable def l32403 (n : Nat) (k1013 : T44) (x0 x1 : Λ) (x2 x3 : Int) (x4 : Λ) : Ω (Λ) := b32403 (abacusref01_halves.f n) (abacusref01_limbs.f n) (l259231 n k1013) x0 x1 x2 x3 x4
noncomputable def l1013 (n : Nat) : Nat→Λ→Λ→Int→Int→Λ→Ω (Λ)
  | 0, _, _, _, _, _ => none
  | m + 1, x0, x1, x2, x3, x4 => b1013 (abacusref01_halves.f n) (abacusref01_limbs.f n) (l127 n) (l32403 n (l1013 n m)) x0 x1 x2 x3 x4
noncomputable def f (n : Nat) (l0 l1 : Λ) : Ω (Λ) := b0 (abacusref01_halves.f n) (abacusref01_limbs.f n) (l1013 n n) l0 l1
noncomputable def sg : Sig (Λ) := s1 (sOwn 24 .u64)
noncomputable def code : Code := (Tryz.f81.body).getD .skip
noncomputable def cfg (c132 c133 : T3) : Cfg (Λ) := { T := tys, call := orCall 132 (abacusref01_halves.call c132) (orCall 133 (abacusref01_limbs.call c133) (noCall)) }
noncomputable def cuts : List (Nat × List (Nat × Want)) := [(127, [(7, .keep)]), (1013, [(5, .keep), (6, .keep), (7, .keep), (8, .keep), (9, .keep)]), (32403, [(5, .keep), (6, .keep), (7, .keep), (9, .keep), (10, .keep)]), (259231, [(5, .keep), (6, .keep), (7, .keep), (8, .keep), (9, .keep), (10, .keep), (11, .keep)])]
noncomputable def s127 (x0 : Λ) : ASt := ⟨[(7, .own 0)], [.ints 24 .u64 x0]⟩
noncomputable def s1013 (x0 x1 : Λ) (x2 x3 : Int) (x4 : Λ) : ASt := ⟨[(5, .ro .u64 x0), (6, .ro .u64 x1), (7, .own 0), (8, .int .u64 x2), (9, .int .i64 x3)], [.ints 24 .u64 x4]⟩
noncomputable def s32403 (x0 x1 : Λ) (x2 x3 : Int) (x4 : Λ) : ASt := ⟨[(5, .ro .u64 x0), (6, .ro .u64 x1), (7, .own 0), (9, .int .i64 x2), (10, .int .u64 x3)], [.ints 24 .u64 x4]⟩
noncomputable def s259231 (x0 x1 : Λ) (x2 x3 x4 x5 : Int) (x6 : Λ) : ASt := ⟨[(5, .ro .u64 x0), (6, .ro .u64 x1), (7, .own 0), (8, .int .u64 x2), (9, .int .i64 x3), (10, .int .u64 x4), (11, .int .u64 x5)], [.ints 24 .u64 x6]⟩
noncomputable def A (c132 c133 : T3) (n : Nat) (J : Jt (Λ)) (q : Nat) (ms : List Nat) : ASt→Ω (Λ) := acont (cfg c132 c133) J cuts n q code 1 ms (aend (cfg c132 c133) Tryz.f81.results.toList [true] sg.out)
theorem e0 {c132 c133 n J l0 l1} : afun (cfg c132 c133) J cuts n code Tryz.f81.results.toList [true] [.ro .u64 l0, .ro .u64 l1] sg.out = b0 c132 c133 (fun y0 y1 y2 y3 y4 => J 1013 (A c132 c133 n J 1013 [n]) (s1013 y0 y1 y2 y3 y4)) l0 l1 := by kernel_rfl
theorem e127 {c132 c133 n J x0} : A c132 c133 n J 127 [] (s127 x0) = b127 c132 c133 x0 := by kernel_rfl
theorem e1013 {c132 c133 n J m x0 x1 x2 x3 x4} : A c132 c133 n J 1013 [m + 1] (s1013 x0 x1 x2 x3 x4) = b1013 c132 c133 (fun y0 => J 127 (A c132 c133 n J 127 []) (s127 y0)) (fun y0 y1 y2 y3 y4 => J 32403 (A c132 c133 n J 32403 [m]) (s32403 y0 y1 y2 y3 y4)) x0 x1 x2 x3 x4 := by kernel_rfl
theorem e32403 {c132 c133 n J m1013 x0 x1 x2 x3 x4} : A c132 c133 n J 32403 [m1013] (s32403 x0 x1 x2 x3 x4) = b32403 c132 c133 (fun y0 y1 y2 y3 y4 y5 y6 => J 259231 (A c132 c133 n J 259231 [m1013]) (s259231 y0 y1 y2 y3 y4 y5 y6)) x0 x1 x2 x3 x4 := by kernel_rfl
theorem e259231 {c132 c133 n J m1013 x0 x1 x2 x3 x4 x5 x6} : A c132 c133 n J 259231 [m1013] (s259231 x0 x1 x2 x3 x4 x5 x6) = b259231 c132 c133 (fun y0 y1 y2 y3 y4 => J 1013 (A c132 c133 n J 1013 [m1013]) (s1013 y0 y1 y2 y3 y4)) x0 x1 x2 x3 x4 x5 x6 := by kernel_rfl
noncomputable abbrev I (n : Nat) := A (abacusref01_halves.f n) (abacusref01_limbs.f n) n idJ
theorem q127 (n x0) : I n 127 [] (s127 x0) = l127 n x0 := e127
theorem q259231 (n m1013 x0 x1 x2 x3 x4 x5 x6) : I n 259231 [m1013] (s259231 x0 x1 x2 x3 x4 x5 x6) = l259231 n (fun y0 y1 y2 y3 y4 => I n 1013 [m1013] (s1013 y0 y1 y2 y3 y4)) x0 x1 x2 x3 x4 x5 x6 := e259231
theorem q32403 (n m1013 x0 x1 x2 x3 x4) : I n 32403 [m1013] (s32403 x0 x1 x2 x3 x4) = l32403 n (fun y0 y1 y2 y3 y4 => I n 1013 [m1013] (s1013 y0 y1 y2 y3 y4)) x0 x1 x2 x3 x4 := e32403.trans (Eq.trans (cf5 (congrArg (b32403 _ _) (fu7 (q259231 n m1013))) _ _ _ _ _) rfl)
theorem q1013 (n m) : ∀ x0 x1 x2 x3 x4, I n 1013 [m] (s1013 x0 x1 x2 x3 x4) = l1013 n m x0 x1 x2 x3 x4 := by
  induction m with
  | zero => intros; rfl
  | succ m ih =>
    intros
    exact e1013.trans (Eq.trans (cf5 (congr (congrArg (b1013 _ _) (fu1 (q127 n))) ((fu5 (q32403 n m)).trans (by rw [show (fun y0 y1 y2 y3 y4 => I n 1013 [m] (s1013 y0 y1 y2 y3 y4)) = _ from (fu5 (ih))]))) _ _ _ _ _) rfl)
theorem ok {n  l0 l1 r} (h : f n l0 l1 = some r) : CallD Tryz.prog HW 81 [.ro .u64 l0, .ro .u64 l1] (sg.enc r) :=
  fun_some hwS Tryz.func81 (by kernel_rfl) (body := code) (by kernel_rfl) tys_ok (c := cfg (abacusref01_halves.f n) (abacusref01_limbs.f n)) (orCall_ok (abacusref01_halves.call_ok (n := n)) (orCall_ok (abacusref01_limbs.call_ok (n := n)) noCall_ok)) noW_ok (by kernel_rfl) (by kernel_rfl) (Nat.le_of_ble_eq_true (by kernel_rfl)) (Eq.trans ((e0 (n := n)).trans (Eq.trans (cf2 (congrArg (b0 _ _) (fu5 (q1013 n n))) _ _) rfl)) h)
noncomputable def call {α : Type} (g : T18) (ds : List D) (K : List D→Ω α) : Ω α := match ds with
  | [.ro .u64 l0, .ro .u64 l1] => (g l0 l1).bind fun r => K (sg.enc r)
  | _ => none
theorem call_ok {α : Type} {n : Nat} : COK Tryz.prog HW 81 (call (α := α) (f n)) := fun _ _ _ h => by
  unfold call at h; split at h
  · exact cok h fun _ => ok
  · cases h
end abacusref01_Less
/-! ### abacusref01_ToUint: function 80 -/
namespace abacusref01_ToUint
noncomputable def b0 (c134 : T1) (l0 : Λ) : Ω (Int × Bool) := ((c134 l0).bind fun t1 => (if t1 = 0 then some (0, true) else (if t1 > 1 then some (0, false) else (if 0 < (ln l0) then some (rd l0 0, true) else none))))
noncomputable def f (n : Nat) (l0 : Λ) : Ω (Int × Bool) := b0 (abacusref01_Size.f n) l0
noncomputable def sg : Sig (Int × Bool) := s2 (sInt .u64) (s1 (sBool))
noncomputable def code : Code := (Tryz.f80.body).getD .skip
noncomputable def cfg (c134 : T1) : Cfg (Int × Bool) := { T := tys, call := orCall 134 (abacusref01_Size.call c134) (noCall) }
noncomputable def cuts : List (Nat × List (Nat × Want)) := []
theorem e0 {c134 n J l0} : afun (cfg c134) J cuts n code Tryz.f80.results.toList [false, false] [.ro .u64 l0] sg.out = b0 c134 l0 := by kernel_rfl
theorem ok {n  l0 r} (h : f n l0 = some r) : CallD Tryz.prog HW 80 [.ro .u64 l0] (sg.enc r) :=
  fun_some hwS Tryz.func80 (by kernel_rfl) (body := code) (by kernel_rfl) tys_ok (c := cfg (abacusref01_Size.f n)) (orCall_ok (abacusref01_Size.call_ok (n := n)) noCall_ok) noW_ok (by kernel_rfl) (by kernel_rfl) (Nat.le_of_ble_eq_true (by kernel_rfl)) (Eq.trans ((e0 (n := n))) h)
noncomputable def call {α : Type} (g : T22) (ds : List D) (K : List D→Ω α) : Ω α := match ds with
  | [.ro .u64 l0] => (g l0).bind fun r => K (sg.enc r)
  | _ => none
theorem call_ok {α : Type} {n : Nat} : COK Tryz.prog HW 80 (call (α := α) (f n)) := fun _ _ _ h => by
  unfold call at h; split at h
  · exact cok h fun _ => ok
  · cases h
end abacusref01_ToUint
/-! ### abacusref06_Split: function 32 -/
namespace abacusref06_Split
noncomputable def b0 (c38 : T2) (c39 : T6) (c72 : T9) (c77 : T7) (c78 : T27) (c79 : T14) (c80 : T22) (c81 : T18) (k255 : T56) (a0 : Int) : Ω (Int × Int) := ((c38 a0).bind fun t1 => (if t1.2.1 = 4 then some (9221120237041090560, 9221120237041090560) else (if t1.2.1 = 3 then ((c77 t1.1 0).bind fun t2 => some (a0, t2)) else (if t1.2.2.2 ≥ 0 then ((c77 t1.1 0).bind fun t3 => some (a0, t3)) else ((c78 t1.1 t1.2.1 t1.2.2.1 t1.2.2.2).bind fun t4 => (if t4.1 > 0 then ((c79 [t4.1] (wrap64 (-t1.2.2.2))).bind fun t5 => ((c81 [t1.2.2.1] t5).bind fun t6 => ((c80 t6).bind fun t7 => k255 a0 t7.1 t1.1 t1.2.1 t1.2.2.1 t1.2.2.2))) else k255 a0 t1.2.2.1 t1.1 t1.2.1 t1.2.2.1 t1.2.2.2))))))
noncomputable def b255 (c38 : T2) (c39 : T6) (c72 : T9) (c77 : T7) (c78 : T27) (c79 : T14) (c80 : T22) (c81 : T18) (x0 x1 : Int) (x2 : Bool) (x3 x4 x5 : Int) : Ω (Int × Int) := ((c39 x2 [x1] x5 false).bind fun t1 => ((c72 x0 0).bind fun t2 => some (t2, t1.1)))
noncomputable def l255 (n : Nat) (x0 x1 : Int) (x2 : Bool) (x3 x4 x5 : Int) : Ω (Int × Int) := b255 abacusref04_Decode.f (abacusref04_Round.f n) (abacusref06_whole.f n) abacusref06_signed.f (abacusref06_Cut.f n) (abacusref01_Lift.f n) (abacusref01_ToUint.f n) (abacusref01_Less.f n) x0 x1 x2 x3 x4 x5
noncomputable def f (n : Nat) (a0 : Int) : Ω (Int × Int) := b0 abacusref04_Decode.f (abacusref04_Round.f n) (abacusref06_whole.f n) abacusref06_signed.f (abacusref06_Cut.f n) (abacusref01_Lift.f n) (abacusref01_ToUint.f n) (abacusref01_Less.f n) (l255 n) a0
noncomputable def sg : Sig (Int × Int) := s2 (sInt .u64) (s1 (sInt .u64))
noncomputable def code : Code := (Tryz.f32.body).getD .skip
noncomputable def cfg (c38 : T2) (c39 : T6) (c72 : T9) (c77 : T7) (c78 : T27) (c79 : T14) (c80 : T22) (c81 : T18) : Cfg (Int × Int) := { T := tys, call := orCall 38 (abacusref04_Decode.call c38) (orCall 39 (abacusref04_Round.call c39) (orCall 72 (abacusref06_whole.call c72) (orCall 77 (abacusref06_signed.call c77) (orCall 78 (abacusref06_Cut.call c78) (orCall 79 (abacusref01_Lift.call c79) (orCall 80 (abacusref01_ToUint.call c80) (orCall 81 (abacusref01_Less.call c81) (noCall)))))))) }
noncomputable def cuts : List (Nat × List (Nat × Want)) := [(255, [(0, .keep), (4, .keep), (7, .keep)])]
noncomputable def s255 (x0 x1 : Int) (x2 : Bool) (x3 x4 x5 : Int) : ASt := ⟨[(0, .int .u64 x0), (4, .ptr 0 0), (7, .int .u64 x1)], [.cells 54 [.bool x2, .int .i64 x3, .int .u64 x4, .int .i64 x5]]⟩
noncomputable def A (c38 : T2) (c39 : T6) (c72 : T9) (c77 : T7) (c78 : T27) (c79 : T14) (c80 : T22) (c81 : T18) (n : Nat) (J : Jt (Int × Int)) (q : Nat) (ms : List Nat) : ASt→Ω (Int × Int) := acont (cfg c38 c39 c72 c77 c78 c79 c80 c81) J cuts n q code 1 ms (aend (cfg c38 c39 c72 c77 c78 c79 c80 c81) Tryz.f32.results.toList [false, false] sg.out)
theorem e0 {c38 c39 c72 c77 c78 c79 c80 c81 n J a0} : afun (cfg c38 c39 c72 c77 c78 c79 c80 c81) J cuts n code Tryz.f32.results.toList [false, false] [.int .u64 a0] sg.out = b0 c38 c39 c72 c77 c78 c79 c80 c81 (fun y0 y1 y2 y3 y4 y5 => J 255 (A c38 c39 c72 c77 c78 c79 c80 c81 n J 255 []) (s255 y0 y1 y2 y3 y4 y5)) a0 := by kernel_rfl
theorem e255 {c38 c39 c72 c77 c78 c79 c80 c81 n J x0 x1 x2 x3 x4 x5} : A c38 c39 c72 c77 c78 c79 c80 c81 n J 255 [] (s255 x0 x1 x2 x3 x4 x5) = b255 c38 c39 c72 c77 c78 c79 c80 c81 x0 x1 x2 x3 x4 x5 := by kernel_rfl
noncomputable abbrev I (n : Nat) := A abacusref04_Decode.f (abacusref04_Round.f n) (abacusref06_whole.f n) abacusref06_signed.f (abacusref06_Cut.f n) (abacusref01_Lift.f n) (abacusref01_ToUint.f n) (abacusref01_Less.f n) n idJ
theorem q255 (n x0 x1 x2 x3 x4 x5) : I n 255 [] (s255 x0 x1 x2 x3 x4 x5) = l255 n x0 x1 x2 x3 x4 x5 := e255
theorem ok {n  a0 r} (h : f n a0 = some r) : CallD Tryz.prog HW 32 [.int .u64 a0] (sg.enc r) :=
  fun_some hwS Tryz.func32 (by kernel_rfl) (body := code) (by kernel_rfl) tys_ok (c := cfg abacusref04_Decode.f (abacusref04_Round.f n) (abacusref06_whole.f n) abacusref06_signed.f (abacusref06_Cut.f n) (abacusref01_Lift.f n) (abacusref01_ToUint.f n) (abacusref01_Less.f n)) (orCall_ok abacusref04_Decode.call_ok (orCall_ok (abacusref04_Round.call_ok (n := n)) (orCall_ok (abacusref06_whole.call_ok (n := n)) (orCall_ok abacusref06_signed.call_ok (orCall_ok (abacusref06_Cut.call_ok (n := n)) (orCall_ok (abacusref01_Lift.call_ok (n := n)) (orCall_ok (abacusref01_ToUint.call_ok (n := n)) (orCall_ok (abacusref01_Less.call_ok (n := n)) noCall_ok)))))))) noW_ok (by kernel_rfl) (by kernel_rfl) (Nat.le_of_ble_eq_true (by kernel_rfl)) (Eq.trans ((e0 (n := n)).trans (Eq.trans (cf1 (congrArg (b0 _ _ _ _ _ _ _ _) (fu6 (q255 n))) _) rfl)) h)
noncomputable def call {α : Type} (g : T28) (ds : List D) (K : List D→Ω α) : Ω α := match ds with
  | [.int .u64 a0] => (g a0).bind fun r => K (sg.enc r)
  | _ => none
theorem call_ok {α : Type} {n : Nat} : COK Tryz.prog HW 32 (call (α := α) (f n)) := fun _ _ _ h => by
  unfold call at h; split at h
  · exact cok h fun _ => ok
  · cases h
end abacusref06_Split
/-! ### abacuslaw06_wholes: function 10 -/
namespace abacuslaw06_wholes
noncomputable def b0 (c21 c24 c25 c26 c27 c28 c29 c30 : T0) (c31 c32 : T28) (a0 a1 a2 a3 : Int) : Ω (Bool) := (if a0 = 1 then ((c21 a1).bind fun t1 => ((c24 a1).bind fun t2 => some (decide (t1 = t2)))) else (if a0 = 2 then ((c25 a1).bind fun t3 => ((c26 a1).bind fun t4 => some (decide (t3 = t4)))) else (if a0 = 3 then ((c27 a1).bind fun t5 => ((c28 a1).bind fun t6 => some (decide (t5 = t6)))) else (if a0 = 4 then ((c29 a1).bind fun t7 => ((c30 a1).bind fun t8 => some (decide (t7 = t8)))) else ((c31 a1).bind fun t9 => ((c32 a1).bind fun t10 => (if t9.1 = t10.1 then some (decide (t9.2 = t10.2)) else some false)))))))
noncomputable def f (n : Nat) (a0 a1 a2 a3 : Int) : Ω (Bool) := b0 (remain_Trunc.f n) (abacusref06_Trunc.f n) (remain_Floor.f n) (abacusref06_Floor.f n) (remain_Ceil.f n) (abacusref06_Ceil.f n) (remain_Near.f n) (abacusref06_Near.f n) (remain_Split.f n) (abacusref06_Split.f n) a0 a1 a2 a3
noncomputable def sg : Sig (Bool) := s1 (sBool)
noncomputable def code : Code := (Tryz.f10.body).getD .skip
noncomputable def cfg (c21 c24 c25 c26 c27 c28 c29 c30 : T0) (c31 c32 : T28) : Cfg (Bool) := { T := tys, call := orCall 21 (remain_Trunc.call c21) (orCall 24 (abacusref06_Trunc.call c24) (orCall 25 (remain_Floor.call c25) (orCall 26 (abacusref06_Floor.call c26) (orCall 27 (remain_Ceil.call c27) (orCall 28 (abacusref06_Ceil.call c28) (orCall 29 (remain_Near.call c29) (orCall 30 (abacusref06_Near.call c30) (orCall 31 (remain_Split.call c31) (orCall 32 (abacusref06_Split.call c32) (noCall)))))))))) }
noncomputable def cuts : List (Nat × List (Nat × Want)) := []
theorem e0 {c21 c24 c25 c26 c27 c28 c29 c30 c31 c32 n J a0 a1 a2 a3} : afun (cfg c21 c24 c25 c26 c27 c28 c29 c30 c31 c32) J cuts n code Tryz.f10.results.toList [false] [.agg [.int .i64 a0, .int .u64 a1, .int .u64 a2, .int .i64 a3]] sg.out = b0 c21 c24 c25 c26 c27 c28 c29 c30 c31 c32 a0 a1 a2 a3 := by kernel_rfl
theorem ok {n  a0 a1 a2 a3 r} (h : f n a0 a1 a2 a3 = some r) : CallD Tryz.prog HW 10 [.agg [.int .i64 a0, .int .u64 a1, .int .u64 a2, .int .i64 a3]] (sg.enc r) :=
  fun_some hwS Tryz.func10 (by kernel_rfl) (body := code) (by kernel_rfl) tys_ok (c := cfg (remain_Trunc.f n) (abacusref06_Trunc.f n) (remain_Floor.f n) (abacusref06_Floor.f n) (remain_Ceil.f n) (abacusref06_Ceil.f n) (remain_Near.f n) (abacusref06_Near.f n) (remain_Split.f n) (abacusref06_Split.f n)) (orCall_ok (remain_Trunc.call_ok (n := n)) (orCall_ok (abacusref06_Trunc.call_ok (n := n)) (orCall_ok (remain_Floor.call_ok (n := n)) (orCall_ok (abacusref06_Floor.call_ok (n := n)) (orCall_ok (remain_Ceil.call_ok (n := n)) (orCall_ok (abacusref06_Ceil.call_ok (n := n)) (orCall_ok (remain_Near.call_ok (n := n)) (orCall_ok (abacusref06_Near.call_ok (n := n)) (orCall_ok (remain_Split.call_ok (n := n)) (orCall_ok (abacusref06_Split.call_ok (n := n)) noCall_ok)))))))))) noW_ok (by kernel_rfl) (by kernel_rfl) (Nat.le_of_ble_eq_true (by kernel_rfl)) (Eq.trans ((e0 (n := n))) h)
noncomputable def call {α : Type} (g : T21) (ds : List D) (K : List D→Ω α) : Ω α := match ds with
  | [.agg [.int .i64 a0, .int .u64 a1, .int .u64 a2, .int .i64 a3]] => (g a0 a1 a2 a3).bind fun r => K (sg.enc r)
  | _ => none
theorem call_ok {α : Type} {n : Nat} : COK Tryz.prog HW 10 (call (α := α) (f n)) := fun _ _ _ h => by
  unfold call at h; split at h
  · exact cok h fun _ => ok
  · cases h
end abacuslaw06_wholes
/-! ### abacusref06_early: function 82 -/
namespace abacusref06_early
noncomputable def b0 (a0 : Bool) (a1 a2 a3 : Int) (a4 : Bool) (a5 a6 a7 a8 : Int) : Ω (Int × Bool) := (if a1 = 4 then some (9221120237041090560, true) else (if a5 = 4 then some (9221120237041090560, true) else (if a1 = 3 then some (9221120237041090560, true) else (if a5 = 0 then some (9221120237041090560, true) else (if a5 = 3 then some (a8, true) else (if a1 = 0 then some (a8, true) else some (0, false)))))))
noncomputable def f (a0 : Bool) (a1 a2 a3 : Int) (a4 : Bool) (a5 a6 a7 a8 : Int) : Ω (Int × Bool) := b0 a0 a1 a2 a3 a4 a5 a6 a7 a8
noncomputable def sg : Sig (Int × Bool) := s2 (sInt .u64) (s1 (sBool))
noncomputable def code : Code := (Tryz.f82.body).getD .skip
noncomputable def cfg : Cfg (Int × Bool) := { T := tys, call := noCall }
noncomputable def cuts : List (Nat × List (Nat × Want)) := []
theorem e0 {n J a0 a1 a2 a3 a4 a5 a6 a7 a8} : afun cfg J cuts n code Tryz.f82.results.toList [false, false] [.agg [.bool a0, .int .i64 a1, .int .u64 a2, .int .i64 a3], .agg [.bool a4, .int .i64 a5, .int .u64 a6, .int .i64 a7], .int .u64 a8] sg.out = b0 a0 a1 a2 a3 a4 a5 a6 a7 a8 := by kernel_rfl
theorem ok {a0 a1 a2 a3 a4 a5 a6 a7 a8 r} (h : f a0 a1 a2 a3 a4 a5 a6 a7 a8 = some r) : CallD Tryz.prog HW 82 [.agg [.bool a0, .int .i64 a1, .int .u64 a2, .int .i64 a3], .agg [.bool a4, .int .i64 a5, .int .u64 a6, .int .i64 a7], .int .u64 a8] (sg.enc r) :=
  fun_some hwS Tryz.func82 (by kernel_rfl) (body := code) (by kernel_rfl) tys_ok (c := cfg) noCall_ok noW_ok (by kernel_rfl) (by kernel_rfl) (Nat.le_of_ble_eq_true (by kernel_rfl)) (Eq.trans ((e0 (n := 0))) h)
noncomputable def call {α : Type} (g : T19) (ds : List D) (K : List D→Ω α) : Ω α := match ds with
  | [.agg [.bool a0, .int .i64 a1, .int .u64 a2, .int .i64 a3], .agg [.bool a4, .int .i64 a5, .int .u64 a6, .int .i64 a7], .int .u64 a8] => (g a0 a1 a2 a3 a4 a5 a6 a7 a8).bind fun r => K (sg.enc r)
  | _ => none
theorem call_ok {α : Type} : COK Tryz.prog HW 82 (call (α := α) f) := fun _ _ _ h => by
  unfold call at h; split at h
  · exact cok h fun _ => ok
  · cases h
end abacusref06_early
/-! ### abacusref06_common: function 83 -/
namespace abacusref06_common
noncomputable def b0 (c79 : T14) (k15 : Int→Int→Bool→Int→Int→Int→Bool→Int→Int→Ω (Λ × Λ × Int)) (a0 : Bool) (a1 a2 a3 : Int) (a4 : Bool) (a5 a6 a7 : Int) : Ω (Λ × Λ × Int) := (if a7 < a3 then k15 a7 a7 a0 a1 a2 a3 a4 a5 a6 else k15 a3 a7 a0 a1 a2 a3 a4 a5 a6)
noncomputable def b15 (c79 : T14) (x0 x1 : Int) (x2 : Bool) (x3 x4 x5 : Int) (x6 : Bool) (x7 x8 : Int) : Ω (Λ × Λ × Int) := ((c79 [x4] (wrap64 (x5 - x0))).bind fun t1 => ((c79 [x8] (wrap64 (x1 - x0))).bind fun t2 => some (t1, t2, x0)))
noncomputable def l15 (n : Nat) (x0 x1 : Int) (x2 : Bool) (x3 x4 x5 : Int) (x6 : Bool) (x7 x8 : Int) : Ω (Λ × Λ × Int) := b15 (abacusref01_Lift.f n) x0 x1 x2 x3 x4 x5 x6 x7 x8
noncomputable def f (n : Nat) (a0 : Bool) (a1 a2 a3 : Int) (a4 : Bool) (a5 a6 a7 : Int) : Ω (Λ × Λ × Int) := b0 (abacusref01_Lift.f n) (l15 n) a0 a1 a2 a3 a4 a5 a6 a7
noncomputable def sg : Sig (Λ × Λ × Int) := s2 (sRow .u64) (s2 (sRow .u64) (s1 (sInt .i64)))
noncomputable def code : Code := (Tryz.f83.body).getD .skip
noncomputable def cfg (c79 : T14) : Cfg (Λ × Λ × Int) := { T := tys, call := orCall 79 (abacusref01_Lift.call c79) (noCall) }
noncomputable def cuts : List (Nat × List (Nat × Want)) := [(15, [(2, .keep), (3, .keep), (7, .keep)])]
noncomputable def s15 (x0 x1 : Int) (x2 : Bool) (x3 x4 x5 : Int) (x6 : Bool) (x7 x8 : Int) : ASt := ⟨[(2, .ptr 0 0), (3, .ptr 1 0), (7, .int .i64 x0)], [.cells 54 [.bool x2, .int .i64 x3, .int .u64 x4, .int .i64 x5], .cells 54 [.bool x6, .int .i64 x7, .int .u64 x8, .int .i64 x1]]⟩
noncomputable def A (c79 : T14) (n : Nat) (J : Jt (Λ × Λ × Int)) (q : Nat) (ms : List Nat) : ASt→Ω (Λ × Λ × Int) := acont (cfg c79) J cuts n q code 1 ms (aend (cfg c79) Tryz.f83.results.toList [false, false, false] sg.out)
theorem e0 {c79 n J a0 a1 a2 a3 a4 a5 a6 a7} : afun (cfg c79) J cuts n code Tryz.f83.results.toList [false, false, false] [.agg [.bool a0, .int .i64 a1, .int .u64 a2, .int .i64 a3], .agg [.bool a4, .int .i64 a5, .int .u64 a6, .int .i64 a7]] sg.out = b0 c79 (fun y0 y1 y2 y3 y4 y5 y6 y7 y8 => J 15 (A c79 n J 15 []) (s15 y0 y1 y2 y3 y4 y5 y6 y7 y8)) a0 a1 a2 a3 a4 a5 a6 a7 := by kernel_rfl
theorem e15 {c79 n J x0 x1 x2 x3 x4 x5 x6 x7 x8} : A c79 n J 15 [] (s15 x0 x1 x2 x3 x4 x5 x6 x7 x8) = b15 c79 x0 x1 x2 x3 x4 x5 x6 x7 x8 := by kernel_rfl
noncomputable abbrev I (n : Nat) := A (abacusref01_Lift.f n) n idJ
theorem q15 (n x0 x1 x2 x3 x4 x5 x6 x7 x8) : I n 15 [] (s15 x0 x1 x2 x3 x4 x5 x6 x7 x8) = l15 n x0 x1 x2 x3 x4 x5 x6 x7 x8 := e15
theorem ok {n  a0 a1 a2 a3 a4 a5 a6 a7 r} (h : f n a0 a1 a2 a3 a4 a5 a6 a7 = some r) : CallD Tryz.prog HW 83 [.agg [.bool a0, .int .i64 a1, .int .u64 a2, .int .i64 a3], .agg [.bool a4, .int .i64 a5, .int .u64 a6, .int .i64 a7]] (sg.enc r) :=
  fun_some hwS Tryz.func83 (by kernel_rfl) (body := code) (by kernel_rfl) tys_ok (c := cfg (abacusref01_Lift.f n)) (orCall_ok (abacusref01_Lift.call_ok (n := n)) noCall_ok) noW_ok (by kernel_rfl) (by kernel_rfl) (Nat.le_of_ble_eq_true (by kernel_rfl)) (Eq.trans ((e0 (n := n)).trans (Eq.trans (cf8 (congrArg (b0 _) (fu9 (q15 n))) _ _ _ _ _ _ _ _) rfl)) h)
noncomputable def call {α : Type} (g : T40) (ds : List D) (K : List D→Ω α) : Ω α := match ds with
  | [.agg [.bool a0, .int .i64 a1, .int .u64 a2, .int .i64 a3], .agg [.bool a4, .int .i64 a5, .int .u64 a6, .int .i64 a7]] => (g a0 a1 a2 a3 a4 a5 a6 a7).bind fun r => K (sg.enc r)
  | _ => none
theorem call_ok {α : Type} {n : Nat} : COK Tryz.prog HW 83 (call (α := α) (f n)) := fun _ _ _ h => by
  unfold call at h; split at h
  · exact cok h fun _ => ok
  · cases h
end abacusref06_common
/-! ### abacusref02_Top: function 150 -/
namespace abacusref02_Top
noncomputable def b0 (k57 : T13) (l0 : Λ) : Ω (Int) := k57 l0 (ln l0)
noncomputable def b57 (k57 : T13) (x0 : Λ) (x1 : Int) : Ω (Int) := (if x1 > 0 then (if 0 ≤ (wrap64 (x1 - 1)) then (if (wrap64 (x1 - 1)) < (ln x0) then (if (rd x0 (wrap64 (x1 - 1))) = 0 then k57 x0 (wrap64 (x1 - 1)) else some x1) else none) else none) else some x1)
noncomputable def l57 (n : Nat) : Nat→Λ→Int→Ω (Int)
  | 0, _, _ => none
  | m + 1, x0, x1 => b57 (l57 n m) x0 x1
noncomputable def f (n : Nat) (l0 : Λ) : Ω (Int) := b0 (l57 n n) l0
noncomputable def sg : Sig (Int) := s1 (sInt .i64)
noncomputable def code : Code := (Tryz.f150.body).getD .skip
noncomputable def cfg : Cfg (Int) := { T := tys, call := noCall }
noncomputable def cuts : List (Nat × List (Nat × Want)) := [(57, [(0, .keep), (3, .keep)])]
noncomputable def s57 (x0 : Λ) (x1 : Int) : ASt := ⟨[(0, .ro .u64 x0), (3, .int .i64 x1)], []⟩
noncomputable def A (n : Nat) (J : Jt (Int)) (q : Nat) (ms : List Nat) : ASt→Ω (Int) := acont cfg J cuts n q code 1 ms (aend cfg Tryz.f150.results.toList [false] sg.out)
theorem e0 {n J l0} : afun cfg J cuts n code Tryz.f150.results.toList [false] [.ro .u64 l0] sg.out = b0 (fun y0 y1 => J 57 (A n J 57 [n]) (s57 y0 y1)) l0 := by kernel_rfl
theorem e57 {n J m x0 x1} : A n J 57 [m + 1] (s57 x0 x1) = b57 (fun y0 y1 => J 57 (A n J 57 [m]) (s57 y0 y1)) x0 x1 := by kernel_rfl
noncomputable abbrev I (n : Nat) := A n idJ
theorem q57 (n m) : ∀ x0 x1, I n 57 [m] (s57 x0 x1) = l57 n m x0 x1 := by
  induction m with
  | zero => intros; rfl
  | succ m ih =>
    intros
    exact e57.trans (Eq.trans (cf2 (congrArg b57 (fu2 (ih))) _ _) rfl)
theorem ok {n  l0 r} (h : f n l0 = some r) : CallD Tryz.prog HW 150 [.ro .u64 l0] (sg.enc r) :=
  fun_some hwS Tryz.func150 (by kernel_rfl) (body := code) (by kernel_rfl) tys_ok (c := cfg) noCall_ok noW_ok (by kernel_rfl) (by kernel_rfl) (Nat.le_of_ble_eq_true (by kernel_rfl)) (Eq.trans ((e0 (n := n)).trans (Eq.trans (cf1 (congrArg b0 (fu2 (q57 n n))) _) rfl)) h)
noncomputable def call {α : Type} (g : T1) (ds : List D) (K : List D→Ω α) : Ω α := match ds with
  | [.ro .u64 l0] => (g l0).bind fun r => K (sg.enc r)
  | _ => none
theorem call_ok {α : Type} {n : Nat} : COK Tryz.prog HW 150 (call (α := α) (f n)) := fun _ _ _ h => by
  unfold call at h; split at h
  · exact cok h fun _ => ok
  · cases h
end abacusref02_Top
/-! ### abacusref02_Short: function 135 -/
namespace abacusref02_Short
noncomputable def b0 (c150 : T1) (k245 : T43) (l0 : Λ) : Ω (Λ) := ((c150 l0).bind fun t1 => (if 0 ≤ t1 then (if t1.toNat ≤ 35184372088832 then k245 l0 t1 0 (List.replicate t1.toNat (0 : Int)) else none) else none))
noncomputable def b245 (c150 : T1) (k245 : T43) (x0 : Λ) (x1 x2 : Int) (x3 : Λ) : Ω (Λ) := (if x2 < x1 then (if 0 ≤ x2 then (if x2 < (ln x0) then (if 0 ≤ x2 then (if x2 < (ln x3) then k245 x0 x1 (wrap64 (x2 + 1)) (x3.set (x2 : Int).toNat (rd x0 x2)) else none) else none) else none) else none) else some x3)
noncomputable def l245 (n : Nat) : Nat→Λ→Int→Int→Λ→Ω (Λ)
  | 0, _, _, _, _ => none
  | m + 1, x0, x1, x2, x3 => b245 (abacusref02_Top.f n) (l245 n m) x0 x1 x2 x3
noncomputable def f (n : Nat) (l0 : Λ) : Ω (Λ) := b0 (abacusref02_Top.f n) (l245 n n) l0
noncomputable def sg : Sig (Λ) := s1 (sOwn 24 .u64)
noncomputable def code : Code := (Tryz.f135.body).getD .skip
noncomputable def cfg (c150 : T1) : Cfg (Λ) := { T := tys, call := orCall 150 (abacusref02_Top.call c150) (noCall) }
noncomputable def cuts : List (Nat × List (Nat × Want)) := [(245, [(0, .keep), (3, .keep), (4, .keep), (5, .keep)])]
noncomputable def s245 (x0 : Λ) (x1 x2 : Int) (x3 : Λ) : ASt := ⟨[(0, .ro .u64 x0), (3, .int .i64 x1), (4, .own 0), (5, .int .i64 x2)], [.ints 24 .u64 x3]⟩
noncomputable def A (c150 : T1) (n : Nat) (J : Jt (Λ)) (q : Nat) (ms : List Nat) : ASt→Ω (Λ) := acont (cfg c150) J cuts n q code 1 ms (aend (cfg c150) Tryz.f135.results.toList [true] sg.out)
theorem e0 {c150 n J l0} : afun (cfg c150) J cuts n code Tryz.f135.results.toList [true] [.ro .u64 l0] sg.out = b0 c150 (fun y0 y1 y2 y3 => J 245 (A c150 n J 245 [n]) (s245 y0 y1 y2 y3)) l0 := by kernel_rfl
theorem e245 {c150 n J m x0 x1 x2 x3} : A c150 n J 245 [m + 1] (s245 x0 x1 x2 x3) = b245 c150 (fun y0 y1 y2 y3 => J 245 (A c150 n J 245 [m]) (s245 y0 y1 y2 y3)) x0 x1 x2 x3 := by kernel_rfl
noncomputable abbrev I (n : Nat) := A (abacusref02_Top.f n) n idJ
theorem q245 (n m) : ∀ x0 x1 x2 x3, I n 245 [m] (s245 x0 x1 x2 x3) = l245 n m x0 x1 x2 x3 := by
  induction m with
  | zero => intros; rfl
  | succ m ih =>
    intros
    exact e245.trans (Eq.trans (cf4 (congrArg (b245 _) (fu4 (ih))) _ _ _ _) rfl)
theorem ok {n  l0 r} (h : f n l0 = some r) : CallD Tryz.prog HW 135 [.ro .u64 l0] (sg.enc r) :=
  fun_some hwS Tryz.func135 (by kernel_rfl) (body := code) (by kernel_rfl) tys_ok (c := cfg (abacusref02_Top.f n)) (orCall_ok (abacusref02_Top.call_ok (n := n)) noCall_ok) noW_ok (by kernel_rfl) (by kernel_rfl) (Nat.le_of_ble_eq_true (by kernel_rfl)) (Eq.trans ((e0 (n := n)).trans (Eq.trans (cf1 (congrArg (b0 _) (fu4 (q245 n n))) _) rfl)) h)
noncomputable def call {α : Type} (g : T3) (ds : List D) (K : List D→Ω α) : Ω α := match ds with
  | [.ro .u64 l0] => (g l0).bind fun r => K (sg.enc r)
  | _ => none
theorem call_ok {α : Type} {n : Nat} : COK Tryz.prog HW 135 (call (α := α) (f n)) := fun _ _ _ h => by
  unfold call at h; split at h
  · exact cok h fun _ => ok
  · cases h
end abacusref02_Short
/-! ### abacusref02_Order: function 136 -/
namespace abacusref02_Order
noncomputable def b0 (c150 : T1) (k1013 : T42) (l0 l1 : Λ) : Ω (Int) := ((c150 l0).bind fun t1 => ((c150 l1).bind fun t2 => (if t1 < t2 then some (-1) else (if t1 > t2 then some 1 else k1013 l0 l1 (wrap64 (t1 - 1))))))
noncomputable def b1013 (c150 : T1) (k1013 : T42) (x0 x1 : Λ) (x2 : Int) : Ω (Int) := (if x2 ≥ 0 then (if 0 ≤ x2 then (if x2 < (ln x0) then (if 0 ≤ x2 then (if x2 < (ln x1) then (if (rd x0 x2) < (rd x1 x2) then some (-1) else (if 0 ≤ x2 then (if x2 < (ln x0) then (if 0 ≤ x2 then (if x2 < (ln x1) then (if (rd x0 x2) > (rd x1 x2) then some 1 else k1013 x0 x1 (wrap64 (x2 - 1))) else none) else none) else none) else none)) else none) else none) else none) else none) else some 0)
noncomputable def l1013 (n : Nat) : Nat→Λ→Λ→Int→Ω (Int)
  | 0, _, _, _ => none
  | m + 1, x0, x1, x2 => b1013 (abacusref02_Top.f n) (l1013 n m) x0 x1 x2
noncomputable def f (n : Nat) (l0 l1 : Λ) : Ω (Int) := b0 (abacusref02_Top.f n) (l1013 n n) l0 l1
noncomputable def sg : Sig (Int) := s1 (sInt .i64)
noncomputable def code : Code := (Tryz.f136.body).getD .skip
noncomputable def cfg (c150 : T1) : Cfg (Int) := { T := tys, call := orCall 150 (abacusref02_Top.call c150) (noCall) }
noncomputable def cuts : List (Nat × List (Nat × Want)) := [(1013, [(0, .keep), (1, .keep), (7, .keep)])]
noncomputable def s1013 (x0 x1 : Λ) (x2 : Int) : ASt := ⟨[(0, .ro .u64 x0), (1, .ro .u64 x1), (7, .int .i64 x2)], []⟩
noncomputable def A (c150 : T1) (n : Nat) (J : Jt (Int)) (q : Nat) (ms : List Nat) : ASt→Ω (Int) := acont (cfg c150) J cuts n q code 1 ms (aend (cfg c150) Tryz.f136.results.toList [false] sg.out)
theorem e0 {c150 n J l0 l1} : afun (cfg c150) J cuts n code Tryz.f136.results.toList [false] [.ro .u64 l0, .ro .u64 l1] sg.out = b0 c150 (fun y0 y1 y2 => J 1013 (A c150 n J 1013 [n]) (s1013 y0 y1 y2)) l0 l1 := by kernel_rfl
theorem e1013 {c150 n J m x0 x1 x2} : A c150 n J 1013 [m + 1] (s1013 x0 x1 x2) = b1013 c150 (fun y0 y1 y2 => J 1013 (A c150 n J 1013 [m]) (s1013 y0 y1 y2)) x0 x1 x2 := by kernel_rfl
noncomputable abbrev I (n : Nat) := A (abacusref02_Top.f n) n idJ
theorem q1013 (n m) : ∀ x0 x1 x2, I n 1013 [m] (s1013 x0 x1 x2) = l1013 n m x0 x1 x2 := by
  induction m with
  | zero => intros; rfl
  | succ m ih =>
    intros
    exact e1013.trans (Eq.trans (cf3 (congrArg (b1013 _) (fu3 (ih))) _ _ _) rfl)
theorem ok {n  l0 l1 r} (h : f n l0 l1 = some r) : CallD Tryz.prog HW 136 [.ro .u64 l0, .ro .u64 l1] (sg.enc r) :=
  fun_some hwS Tryz.func136 (by kernel_rfl) (body := code) (by kernel_rfl) tys_ok (c := cfg (abacusref02_Top.f n)) (orCall_ok (abacusref02_Top.call_ok (n := n)) noCall_ok) noW_ok (by kernel_rfl) (by kernel_rfl) (Nat.le_of_ble_eq_true (by kernel_rfl)) (Eq.trans ((e0 (n := n)).trans (Eq.trans (cf2 (congrArg (b0 _) (fu3 (q1013 n n))) _ _) rfl)) h)
noncomputable def call {α : Type} (g : T10) (ds : List D) (K : List D→Ω α) : Ω α := match ds with
  | [.ro .u64 l0, .ro .u64 l1] => (g l0 l1).bind fun r => K (sg.enc r)
  | _ => none
theorem call_ok {α : Type} {n : Nat} : COK Tryz.prog HW 136 (call (α := α) (f n)) := fun _ _ _ h => by
  unfold call at h; split at h
  · exact cok h fun _ => ok
  · cases h
end abacusref02_Order
/-! ### abacusref02_doubled: function 137 -/
namespace abacusref02_doubled
noncomputable def b0 (k245 : T43) (l0 : Λ) (a1 : Int) : Ω (Λ) := (if 0 ≤ (wrap64 ((ln l0) + 1)) then (if (wrap64 ((ln l0) + 1)).toNat ≤ 35184372088832 then k245 l0 a1 0 (List.replicate (wrap64 ((ln l0) + 1)).toNat (0 : Int)) else none) else none)
noncomputable def b245 (k245 : T43) (x0 : Λ) (x1 x2 : Int) (x3 : Λ) : Ω (Λ) := (if x2 < (ln x0) then (if 0 ≤ x2 then (if x2 < (ln x0) then (if 0 ≤ x2 then (if x2 < (ln x3) then (if 0 ≤ x2 then (if x2 < (ln x0) then k245 x0 ((rd x0 x2) / 9223372036854775808) (wrap64 (x2 + 1)) (x3.set (x2 : Int).toNat (Go.bits .or .u64 (IntKind.u64.wrap ((rd x0 x2) * 2)) x1)) else none) else none) else none) else none) else none) else none) else (if 0 ≤ (ln x0) then (if (ln x0) < (ln x3) then some (x3.set ((ln x0) : Int).toNat x1) else none) else none))
noncomputable def l245 (n : Nat) : Nat→Λ→Int→Int→Λ→Ω (Λ)
  | 0, _, _, _, _ => none
  | m + 1, x0, x1, x2, x3 => b245 (l245 n m) x0 x1 x2 x3
noncomputable def f (n : Nat) (l0 : Λ) (a1 : Int) : Ω (Λ) := b0 (l245 n n) l0 a1
noncomputable def sg : Sig (Λ) := s1 (sRow .u64)
noncomputable def code : Code := (Tryz.f137.body).getD .skip
noncomputable def cfg : Cfg (Λ) := { T := tys, call := noCall }
noncomputable def cuts : List (Nat × List (Nat × Want)) := [(245, [(0, .keep), (5, .keep), (6, .keep), (7, .keep)])]
noncomputable def s245 (x0 : Λ) (x1 x2 : Int) (x3 : Λ) : ASt := ⟨[(0, .ro .u64 x0), (5, .own 0), (6, .int .u64 x1), (7, .int .i64 x2)], [.ints 24 .u64 x3]⟩
noncomputable def A (n : Nat) (J : Jt (Λ)) (q : Nat) (ms : List Nat) : ASt→Ω (Λ) := acont cfg J cuts n q code 1 ms (aend cfg Tryz.f137.results.toList [false] sg.out)
theorem e0 {n J l0 a1} : afun cfg J cuts n code Tryz.f137.results.toList [false] [.ro .u64 l0, .int .u64 a1] sg.out = b0 (fun y0 y1 y2 y3 => J 245 (A n J 245 [n]) (s245 y0 y1 y2 y3)) l0 a1 := by kernel_rfl
theorem e245 {n J m x0 x1 x2 x3} : A n J 245 [m + 1] (s245 x0 x1 x2 x3) = b245 (fun y0 y1 y2 y3 => J 245 (A n J 245 [m]) (s245 y0 y1 y2 y3)) x0 x1 x2 x3 := by kernel_rfl
noncomputable abbrev I (n : Nat) := A n idJ
theorem q245 (n m) : ∀ x0 x1 x2 x3, I n 245 [m] (s245 x0 x1 x2 x3) = l245 n m x0 x1 x2 x3 := by
  induction m with
  | zero => intros; rfl
  | succ m ih =>
    intros
    exact e245.trans (Eq.trans (cf4 (congrArg b245 (fu4 (ih))) _ _ _ _) rfl)
theorem ok {n  l0 a1 r} (h : f n l0 a1 = some r) : CallD Tryz.prog HW 137 [.ro .u64 l0, .int .u64 a1] (sg.enc r) :=
  fun_some hwS Tryz.func137 (by kernel_rfl) (body := code) (by kernel_rfl) tys_ok (c := cfg) noCall_ok noW_ok (by kernel_rfl) (by kernel_rfl) (Nat.le_of_ble_eq_true (by kernel_rfl)) (Eq.trans ((e0 (n := n)).trans (Eq.trans (cf2 (congrArg b0 (fu4 (q245 n n))) _ _) rfl)) h)
noncomputable def call {α : Type} (g : T14) (ds : List D) (K : List D→Ω α) : Ω α := match ds with
  | [.ro .u64 l0, .int .u64 a1] => (g l0 a1).bind fun r => K (sg.enc r)
  | _ => none
theorem call_ok {α : Type} {n : Nat} : COK Tryz.prog HW 137 (call (α := α) (f n)) := fun _ _ _ h => by
  unfold call at h; split at h
  · exact cok h fun _ => ok
  · cases h
end abacusref02_doubled
/-! ### abacusref02_holds: function 138 -/
namespace abacusref02_holds
noncomputable def b0 (k53 : T91) (l0 : Λ) (a1 : Int) (l2 : Λ) : Ω (Bool) := k53 l0 a1 l2 (wrap64 ((ln l2) - 1))
noncomputable def b53 (k53 : T91) (x0 : Λ) (x1 : Int) (x2 : Λ) (x3 : Int) : Ω (Bool) := (if x3 ≥ 0 then (if 0 ≤ (wrap64 (x1 + x3)) then (if (wrap64 (x1 + x3)) < (ln x0) then (if 0 ≤ x3 then (if x3 < (ln x2) then (if (rd x0 (wrap64 (x1 + x3))) > (rd x2 x3) then some true else (if 0 ≤ (wrap64 (x1 + x3)) then (if (wrap64 (x1 + x3)) < (ln x0) then (if 0 ≤ x3 then (if x3 < (ln x2) then (if (rd x0 (wrap64 (x1 + x3))) < (rd x2 x3) then some false else k53 x0 x1 x2 (wrap64 (x3 - 1))) else none) else none) else none) else none)) else none) else none) else none) else none) else some true)
noncomputable def l53 (n : Nat) : Nat→Λ→Int→Λ→Int→Ω (Bool)
  | 0, _, _, _, _ => none
  | m + 1, x0, x1, x2, x3 => b53 (l53 n m) x0 x1 x2 x3
noncomputable def f (n : Nat) (l0 : Λ) (a1 : Int) (l2 : Λ) : Ω (Bool) := b0 (l53 n n) l0 a1 l2
noncomputable def sg : Sig (Bool) := s1 (sBool)
noncomputable def code : Code := (Tryz.f138.body).getD .skip
noncomputable def cfg : Cfg (Bool) := { T := tys, call := noCall }
noncomputable def cuts : List (Nat × List (Nat × Want)) := [(53, [(0, .keep), (1, .keep), (2, .keep), (7, .keep)])]
noncomputable def s53 (x0 : Λ) (x1 : Int) (x2 : Λ) (x3 : Int) : ASt := ⟨[(0, .ro .u64 x0), (1, .int .i64 x1), (2, .ro .u64 x2), (7, .int .i64 x3)], []⟩
noncomputable def A (n : Nat) (J : Jt (Bool)) (q : Nat) (ms : List Nat) : ASt→Ω (Bool) := acont cfg J cuts n q code 1 ms (aend cfg Tryz.f138.results.toList [false] sg.out)
theorem e0 {n J l0 a1 l2} : afun cfg J cuts n code Tryz.f138.results.toList [false] [.ro .u64 l0, .int .i64 a1, .ro .u64 l2] sg.out = b0 (fun y0 y1 y2 y3 => J 53 (A n J 53 [n]) (s53 y0 y1 y2 y3)) l0 a1 l2 := by kernel_rfl
theorem e53 {n J m x0 x1 x2 x3} : A n J 53 [m + 1] (s53 x0 x1 x2 x3) = b53 (fun y0 y1 y2 y3 => J 53 (A n J 53 [m]) (s53 y0 y1 y2 y3)) x0 x1 x2 x3 := by kernel_rfl
noncomputable abbrev I (n : Nat) := A n idJ
theorem q53 (n m) : ∀ x0 x1 x2 x3, I n 53 [m] (s53 x0 x1 x2 x3) = l53 n m x0 x1 x2 x3 := by
  induction m with
  | zero => intros; rfl
  | succ m ih =>
    intros
    exact e53.trans (Eq.trans (cf4 (congrArg b53 (fu4 (ih))) _ _ _ _) rfl)
theorem ok {n  l0 a1 l2 r} (h : f n l0 a1 l2 = some r) : CallD Tryz.prog HW 138 [.ro .u64 l0, .int .i64 a1, .ro .u64 l2] (sg.enc r) :=
  fun_some hwS Tryz.func138 (by kernel_rfl) (body := code) (by kernel_rfl) tys_ok (c := cfg) noCall_ok noW_ok (by kernel_rfl) (by kernel_rfl) (Nat.le_of_ble_eq_true (by kernel_rfl)) (Eq.trans ((e0 (n := n)).trans (Eq.trans (cf3 (congrArg b0 (fu4 (q53 n n))) _ _ _) rfl)) h)
noncomputable def call {α : Type} (g : T29) (ds : List D) (K : List D→Ω α) : Ω α := match ds with
  | [.ro .u64 l0, .int .i64 a1, .ro .u64 l2] => (g l0 a1 l2).bind fun r => K (sg.enc r)
  | _ => none
theorem call_ok {α : Type} {n : Nat} : COK Tryz.prog HW 138 (call (α := α) (f n)) := fun _ _ _ h => by
  unfold call at h; split at h
  · exact cok h fun _ => ok
  · cases h
end abacusref02_holds
/-! ### abacusref02_takeOff: function 139 -/
namespace abacusref02_takeOff
noncomputable def b0 (k29 : T67) (l0 : Λ) (a1 : Int) (l2 : Λ) : Ω (Λ × Unit) := k29 a1 l2 0 0 l0
noncomputable def b29 (k3663 : Int→Λ→Int→Int→Int→Λ→Ω (Λ × Unit)) (x0 : Int) (x1 : Λ) (x2 x3 : Int) (x4 : Λ) : Ω (Λ × Unit) := (if x3 < (ln x1) then (if 0 ≤ (wrap64 (x0 + x3)) then (if (wrap64 (x0 + x3)) < (ln x4) then (if 0 ≤ x3 then (if x3 < (ln x1) then (if (rd x4 (wrap64 (x0 + x3))) < (rd x1 x3) then k3663 x0 x1 1 x3 (IntKind.u64.wrap ((IntKind.u64.wrap ((rd x4 (wrap64 (x0 + x3))) - (rd x1 x3))) - x2)) x4 else (if (rd x4 (wrap64 (x0 + x3))) = (rd x1 x3) then (if x2 = 1 then k3663 x0 x1 1 x3 (IntKind.u64.wrap ((IntKind.u64.wrap ((rd x4 (wrap64 (x0 + x3))) - (rd x1 x3))) - x2)) x4 else k3663 x0 x1 0 x3 (IntKind.u64.wrap ((IntKind.u64.wrap ((rd x4 (wrap64 (x0 + x3))) - (rd x1 x3))) - x2)) x4) else k3663 x0 x1 0 x3 (IntKind.u64.wrap ((IntKind.u64.wrap ((rd x4 (wrap64 (x0 + x3))) - (rd x1 x3))) - x2)) x4)) else none) else none) else none) else none) else some (x4, ()))
noncomputable def b3663 (k29 : T67) (x0 : Int) (x1 : Λ) (x2 x3 x4 : Int) (x5 : Λ) : Ω (Λ × Unit) := (if 0 ≤ (wrap64 (x0 + x3)) then (if (wrap64 (x0 + x3)) < (ln x5) then k29 x0 x1 x2 (wrap64 (x3 + 1)) (x5.set (wrap64 (x0 + x3) : Int).toNat x4) else none) else none)
noncomputable def l3663 (n : Nat) (k29 : T67) (x0 : Int) (x1 : Λ) (x2 x3 x4 : Int) (x5 : Λ) : Ω (Λ × Unit) := b3663 k29 x0 x1 x2 x3 x4 x5
noncomputable def l29 (n : Nat) : Nat→Int→Λ→Int→Int→Λ→Ω (Λ × Unit)
  | 0, _, _, _, _, _ => none
  | m + 1, x0, x1, x2, x3, x4 => b29 (l3663 n (l29 n m)) x0 x1 x2 x3 x4
noncomputable def f (n : Nat) (l0 : Λ) (a1 : Int) (l2 : Λ) : Ω (Λ × Unit) := b0 (l29 n n) l0 a1 l2
noncomputable def sg : Sig (Unit) := s0
noncomputable def code : Code := (Tryz.f139.body).getD .skip
noncomputable def cfg : Cfg (Λ × Unit) := { T := tys, call := noCall }
noncomputable def cuts : List (Nat × List (Nat × Want)) := [(29, [(0, .keep), (1, .keep), (2, .keep), (6, .keep), (7, .keep)]), (3663, [(0, .keep), (1, .keep), (2, .keep), (6, .keep), (7, .keep), (10, .keep)])]
noncomputable def s29 (x0 : Int) (x1 : Λ) (x2 x3 : Int) (x4 : Λ) : ASt := ⟨[(0, .own 0), (1, .int .i64 x0), (2, .ro .u64 x1), (6, .int .u64 x2), (7, .int .i64 x3)], [.bor .u64 x4]⟩
noncomputable def s3663 (x0 : Int) (x1 : Λ) (x2 x3 x4 : Int) (x5 : Λ) : ASt := ⟨[(0, .own 0), (1, .int .i64 x0), (2, .ro .u64 x1), (6, .int .u64 x2), (7, .int .i64 x3), (10, .int .u64 x4)], [.bor .u64 x5]⟩
noncomputable def A (n : Nat) (J : Jt (Λ × Unit)) (q : Nat) (ms : List Nat) : ASt→Ω (Λ × Unit) := acont cfg J cuts n q code 1 ms (aendw cfg Tryz.f139.results.toList (sgw sg))
theorem e0 (n : Nat) (J : Jt (Λ × Unit)) (l0 : Λ) (a1 : Int) (l2 : Λ) : afunw cfg J cuts n code Tryz.f139.results.toList l0 [.int .i64 a1, .ro .u64 l2] (sgw sg) = b0 (fun y0 y1 y2 y3 y4 => J 29 (A n J 29 [n]) (s29 y0 y1 y2 y3 y4)) l0 a1 l2 := by kernel_rfl
theorem e29 (n : Nat) (J : Jt (Λ × Unit)) (m : Nat) (x0 : Int) (x1 : Λ) (x2 x3 : Int) (x4 : Λ) : A n J 29 [m + 1] (s29 x0 x1 x2 x3 x4) = b29 (fun y0 y1 y2 y3 y4 y5 => J 3663 (A n J 3663 [m]) (s3663 y0 y1 y2 y3 y4 y5)) x0 x1 x2 x3 x4 := by kernel_rfl
theorem e3663 (n : Nat) (J : Jt (Λ × Unit)) (m29 : Nat) (x0 : Int) (x1 : Λ) (x2 x3 x4 : Int) (x5 : Λ) : A n J 3663 [m29] (s3663 x0 x1 x2 x3 x4 x5) = b3663 (fun y0 y1 y2 y3 y4 => J 29 (A n J 29 [m29]) (s29 y0 y1 y2 y3 y4)) x0 x1 x2 x3 x4 x5 := by kernel_rfl
theorem q3663 (n m29 : Nat) (x0 : Int) (x1 : Λ) (x2 x3 x4 : Int) (x5 : Λ) : A n idJ 3663 [m29] (s3663 x0 x1 x2 x3 x4 x5) = l3663 n (fun y0 y1 y2 y3 y4 => A n idJ 29 [m29] (s29 y0 y1 y2 y3 y4)) x0 x1 x2 x3 x4 x5 := (e3663 n idJ m29 x0 x1 x2 x3 x4 x5).trans (rfl)
theorem q29 (n m : Nat) : ∀ (x0 : Int) (x1 : Λ) (x2 x3 : Int) (x4 : Λ), A n idJ 29 [m] (s29 x0 x1 x2 x3 x4) = l29 n m x0 x1 x2 x3 x4 := by
  induction m with
  | zero => intros; rfl
  | succ m ih =>
    intro x0 x1 x2 x3 x4
    refine (e29 n idJ m x0 x1 x2 x3 x4).trans ?_
    exact congrFun (congrFun (congrFun (congrFun (congrFun (congrArg b29 ((funext fun y0 => (funext fun y1 => (funext fun y2 => (funext fun y3 => (funext fun y4 => (funext fun y5 => q3663 n m y0 y1 y2 y3 y4 y5)))))).trans (by rw [show (fun y0 y1 y2 y3 y4 => A n idJ 29 [m] (s29 y0 y1 y2 y3 y4)) = _ from (funext fun y0 => (funext fun y1 => (funext fun y2 => (funext fun y3 => (funext fun y4 => ih y0 y1 y2 y3 y4)))))]))) x0) x1) x2) x3) x4
theorem eq (n : Nat) (l0 : Λ) (a1 : Int) (l2 : Λ) : afunw cfg idJ cuts n code Tryz.f139.results.toList l0 [.int .i64 a1, .ro .u64 l2] (sgw sg) = f n l0 a1 l2 := (e0 n idJ l0 a1 l2).trans (congrFun (congrFun (congrFun (congrArg b0 (funext fun y0 => (funext fun y1 => (funext fun y2 => (funext fun y3 => (funext fun y4 => q29 n n y0 y1 y2 y3 y4)))))) l0) a1) l2)
theorem ok {n : Nat} {l0 : Λ} {a1 : Int} {l2 : Λ} {r : Λ × Unit} (h : f n l0 a1 l2 = some r) : CallW Tryz.prog HW 139 l0 [.int .i64 a1, .ro .u64 l2] r.1 (sg.enc r.2) :=
  funw_some Tryz.func139 (by kernel_rfl) (body := code) (by kernel_rfl) tys_ok (c := cfg) noCall_ok noW_ok (by kernel_rfl) (by kernel_rfl) (Nat.le_of_ble_eq_true (by kernel_rfl)) ((eq n l0 a1 l2).trans h)
noncomputable def call {α : Type} (g : T30) (l0 : Λ) (ds : List D) (K : Λ→List D→Ω α) : Ω α := match ds with
  | [.int .i64 a1, .ro .u64 l2] => (g l0 a1 l2).bind fun r => K r.1 (sg.enc r.2)
  | _ => none
theorem call_ok {α : Type} {n : Nat} (l : Λ) (ds : List D) (K : Λ→List D→Ω α) (r : α) (h : call (f n) l ds K = some r) : ∃ l' rs, K l' rs = some r ∧ CallW Tryz.prog HW 139 l ds l' rs := by
  unfold call at h
  split at h
  · obtain ⟨x, hx, hk⟩ := Option.bind_eq_some_iff.1 h
    exact ⟨_, _, hk, ok (n := n) hx⟩
  · cases h
end abacusref02_takeOff
/-! ### abacusref02_Divide: function 84 -/
namespace abacusref02_Divide
noncomputable def b0 (c135 : T3) (c136 : T10) (c137 : T14) (c138 : T29) (c139 : T30) (k2037 : T92) (l0 l1 : Λ) : Ω (Λ × Λ) := ((c135 l0).bind fun t1 => ((c135 l1).bind fun t2 => ((c136 t1 t2).bind fun t3 => (if t3 < 0 then some (([] : Λ), t1) else ((c135 l1).bind fun t4 => (if t4.length + 1 ≤ 17592186044416 then k2037 l0 (t4 ++ [0]) 0 t1 t2 ([] : List (Λ)) else none))))))
noncomputable def b255 (c135 : T3) (c136 : T10) (c137 : T14) (c138 : T29) (c139 : T30) (k16373 : T68) (x0 x1 x2 : Λ) (x3 : List (Λ)) : Ω (Λ × Λ) := ((c135 x0).bind fun t1 => (if t1.length + 1 ≤ 17592186044416 then (if 0 ≤ (wrap64 ((wrap64 ((ln x1) - (ln x2))) + 1)) then (if (wrap64 ((wrap64 ((ln x1) - (ln x2))) + 1)).toNat ≤ 35184372088832 then k16373 (wrap64 ((ln x1) - (ln x2))) x3 (t1 ++ [0]) (List.replicate (wrap64 ((wrap64 ((ln x1) - (ln x2))) + 1)).toNat (0 : Int)) else none) else none) else none))
noncomputable def b2037 (c135 : T3) (c136 : T10) (c137 : T14) (c138 : T29) (c139 : T30) (k255 : Λ→Λ→Λ→List (Λ)→Ω (Λ × Λ)) (k2037 : T92) (x0 x1 : Λ) (x2 : Int) (x3 x4 : Λ) (x5 : List (Λ)) : Ω (Λ × Λ) := (if x2 < 64 then (if x5.length + [x1].length ≤ 5864062014805 then ((c137 x1 0).bind fun t1 => (if 0 ≤ (wrap64 ((ln x4) + 1)) then (if (wrap64 ((ln x4) + 1)) ≤ (ln t1) then ((some (t1.take (wrap64 ((ln x4) + 1)).toNat) : Ω (Λ)).bind fun y2 => k2037 x0 y2 (wrap64 (x2 + 1)) x3 x4 (x5 ++ [x1])) else none) else none)) else none) else k255 x0 x3 x4 x5)
noncomputable def b2047 (c135 : T3) (c136 : T10) (c137 : T14) (c138 : T29) (c139 : T30) (x0 x1 : Λ) : Ω (Λ × Λ) := ((c135 x1).bind fun t1 => ((c135 x0).bind fun t2 => some (t1, t2)))
noncomputable def b16373 (c135 : T3) (c136 : T10) (c137 : T14) (c138 : T29) (c139 : T30) (k2047 : T26) (k1047845 : T93) (x0 : Int) (x1 : List (Λ)) (x2 x3 : Λ) : Ω (Λ × Λ) := (if x0 ≥ 0 then k1047845 x0 63 x1 x2 x3 else k2047 x2 x3)
noncomputable def b1047845 (c135 : T3) (c136 : T10) (c137 : T14) (c138 : T29) (c139 : T30) (k16373 : T68) (k1047845 : T93) (x0 x1 : Int) (x2 : List (Λ)) (x3 x4 : Λ) : Ω (Λ × Λ) := (if x1 ≥ 0 then (if 0 ≤ x1 then (if x1 < lnr x2 then ((c138 x3 x0 (rdr x2 x1)).bind fun t1 => (if t1 = true then (if 0 ≤ x1 then (if x1 < lnr x2 then (if 0 < (ln x3) then ((c139 x3 x0 (rdr x2 x1)).bind fun t2 => (if 0 ≤ x0 then (if x0 < (ln x4) then (if 0 ≤ (IntKind.u64.wrap x1) then (if 0 ≤ x0 then (if x0 < (ln x4) then k1047845 x0 (wrap64 (x1 - 1)) x2 t2.1 (x4.set (x0 : Int).toNat (Go.bits .or .u64 (rd x4 x0) (shl .u64 1 (IntKind.u64.wrap x1)))) else none) else none) else none) else none) else none)) else none) else none) else none) else k1047845 x0 (wrap64 (x1 - 1)) x2 x3 x4)) else none) else none) else k16373 (wrap64 (x0 - 1)) x2 x3 x4)
noncomputable def l2047 (n : Nat) (x0 x1 : Λ) : Ω (Λ × Λ) := b2047 (abacusref02_Short.f n) (abacusref02_Order.f n) (abacusref02_doubled.f n) (abacusref02_holds.f n) (abacusref02_takeOff.f n) x0 x1
noncomputable def l1047845 (n : Nat) (k16373 : T68) : Nat→Int→Int→List (Λ)→Λ→Λ→Ω (Λ × Λ)
  | 0, _, _, _, _, _ => none
  | m + 1, x0, x1, x2, x3, x4 => b1047845 (abacusref02_Short.f n) (abacusref02_Order.f n) (abacusref02_doubled.f n) (abacusref02_holds.f n) (abacusref02_takeOff.f n) k16373 (l1047845 n k16373 m) x0 x1 x2 x3 x4
noncomputable def l16373 (n : Nat) : Nat→Int→List (Λ)→Λ→Λ→Ω (Λ × Λ)
  | 0, _, _, _, _ => none
  | m + 1, x0, x1, x2, x3 => b16373 (abacusref02_Short.f n) (abacusref02_Order.f n) (abacusref02_doubled.f n) (abacusref02_holds.f n) (abacusref02_takeOff.f n) (l2047 n) (l1047845 n (l16373 n m) n) x0 x1 x2 x3
noncomputable def l255 (n : Nat) (x0 x1 x2 : Λ) (x3 : List (Λ)) : Ω (Λ × Λ) := b255 (abacusref02_Short.f n) (abacusref02_Order.f n) (abacusref02_doubled.f n) (abacusref02_holds.f n) (abacusref02_takeOff.f n) (l16373 n n) x0 x1 x2 x3
noncomputable def l2037 (n : Nat) : Nat→Λ→Λ→Int→Λ→Λ→List (Λ)→Ω (Λ × Λ)
  | 0, _, _, _, _, _, _ => none
  | m + 1, x0, x1, x2, x3, x4, x5 => b2037 (abacusref02_Short.f n) (abacusref02_Order.f n) (abacusref02_doubled.f n) (abacusref02_holds.f n) (abacusref02_takeOff.f n) (l255 n) (l2037 n m) x0 x1 x2 x3 x4 x5
noncomputable def f (n : Nat) (l0 l1 : Λ) : Ω (Λ × Λ) := b0 (abacusref02_Short.f n) (abacusref02_Order.f n) (abacusref02_doubled.f n) (abacusref02_holds.f n) (abacusref02_takeOff.f n) (l2037 n n) l0 l1
noncomputable def sg : Sig (Λ × Λ) := s2 (sRow .u64) (s1 (sRow .u64))
noncomputable def code : Code := (Tryz.f84.body).getD .skip
noncomputable def cfg (c135 : T3) (c136 : T10) (c137 : T14) (c138 : T29) (c139 : T30) : Cfg (Λ × Λ) := { T := tys, call := orCall 135 (abacusref02_Short.call c135) (orCall 136 (abacusref02_Order.call c136) (orCall 137 (abacusref02_doubled.call c137) (orCall 138 (abacusref02_holds.call c138) (noCall)))), wr := [139], callw := orW 139 (abacusref02_takeOff.call c139) (noW) }
noncomputable def cuts : List (Nat × List (Nat × Want)) := [(255, [(0, .keep), (6, .keep), (7, .keep), (8, .keep)]), (2037, [(0, .keep), (6, .keep), (7, .keep), (8, .rws 40 .u64), (9, .cast), (10, .keep)]), (2047, [(11, .keep), (12, .keep)]), (16373, [(8, .keep), (11, .keep), (12, .keep), (13, .keep)]), (1047845, [(8, .keep), (11, .keep), (12, .keep), (13, .keep), (14, .keep)])]
noncomputable def s255 (x0 x1 x2 : Λ) (x3 : List (Λ)) : ASt := ⟨[(0, .ro .u64 x0), (6, .own 0), (7, .own 1), (8, .own 2)], [.ints 24 .u64 x1, .ints 24 .u64 x2, .rws 40 .u64 x3]⟩
noncomputable def s2037 (x0 x1 : Λ) (x2 : Int) (x3 x4 : Λ) (x5 : List (Λ)) : ASt := ⟨[(0, .ro .u64 x0), (6, .own 0), (7, .own 1), (8, .own 2), (9, .ro .u64 x1), (10, .int .i64 x2)], [.ints 24 .u64 x3, .ints 24 .u64 x4, .rws 40 .u64 x5]⟩
noncomputable def s2047 (x0 x1 : Λ) : ASt := ⟨[(11, .own 0), (12, .own 1)], [.ints 24 .u64 x0, .ints 24 .u64 x1]⟩
noncomputable def s16373 (x0 : Int) (x1 : List (Λ)) (x2 x3 : Λ) : ASt := ⟨[(8, .own 0), (11, .own 1), (12, .own 2), (13, .int .i64 x0)], [.rws 40 .u64 x1, .ints 24 .u64 x2, .ints 24 .u64 x3]⟩
noncomputable def s1047845 (x0 x1 : Int) (x2 : List (Λ)) (x3 x4 : Λ) : ASt := ⟨[(8, .own 0), (11, .own 1), (12, .own 2), (13, .int .i64 x0), (14, .int .i64 x1)], [.rws 40 .u64 x2, .ints 24 .u64 x3, .ints 24 .u64 x4]⟩
noncomputable def A (c135 : T3) (c136 : T10) (c137 : T14) (c138 : T29) (c139 : T30) (n : Nat) (J : Jt (Λ × Λ)) (q : Nat) (ms : List Nat) : ASt→Ω (Λ × Λ) := acont (cfg c135 c136 c137 c138 c139) J cuts n q code 1 ms (aend (cfg c135 c136 c137 c138 c139) Tryz.f84.results.toList [false, false] sg.out)
theorem e0 {c135 c136 c137 c138 c139 n J l0 l1} : afun (cfg c135 c136 c137 c138 c139) J cuts n code Tryz.f84.results.toList [false, false] [.ro .u64 l0, .ro .u64 l1] sg.out = b0 c135 c136 c137 c138 c139 (fun y0 y1 y2 y3 y4 y5 => J 2037 (A c135 c136 c137 c138 c139 n J 2037 [n]) (s2037 y0 y1 y2 y3 y4 y5)) l0 l1 := by kernel_rfl
theorem e255 {c135 c136 c137 c138 c139 n J x0 x1 x2 x3} : A c135 c136 c137 c138 c139 n J 255 [] (s255 x0 x1 x2 x3) = b255 c135 c136 c137 c138 c139 (fun y0 y1 y2 y3 => J 16373 (A c135 c136 c137 c138 c139 n J 16373 [n]) (s16373 y0 y1 y2 y3)) x0 x1 x2 x3 := by kernel_rfl
theorem e2037 {c135 c136 c137 c138 c139 n J m x0 x1 x2 x3 x4 x5} : A c135 c136 c137 c138 c139 n J 2037 [m + 1] (s2037 x0 x1 x2 x3 x4 x5) = b2037 c135 c136 c137 c138 c139 (fun y0 y1 y2 y3 => J 255 (A c135 c136 c137 c138 c139 n J 255 []) (s255 y0 y1 y2 y3)) (fun y0 y1 y2 y3 y4 y5 => J 2037 (A c135 c136 c137 c138 c139 n J 2037 [m]) (s2037 y0 y1 y2 y3 y4 y5)) x0 x1 x2 x3 x4 x5 := by kernel_rfl
theorem e2047 {c135 c136 c137 c138 c139 n J x0 x1} : A c135 c136 c137 c138 c139 n J 2047 [] (s2047 x0 x1) = b2047 c135 c136 c137 c138 c139 x0 x1 := by kernel_rfl
theorem e16373 {c135 c136 c137 c138 c139 n J m x0 x1 x2 x3} : A c135 c136 c137 c138 c139 n J 16373 [m + 1] (s16373 x0 x1 x2 x3) = b16373 c135 c136 c137 c138 c139 (fun y0 y1 => J 2047 (A c135 c136 c137 c138 c139 n J 2047 []) (s2047 y0 y1)) (fun y0 y1 y2 y3 y4 => J 1047845 (A c135 c136 c137 c138 c139 n J 1047845 [m, n]) (s1047845 y0 y1 y2 y3 y4)) x0 x1 x2 x3 := by kernel_rfl
theorem e1047845 {c135 c136 c137 c138 c139 n J m16373 m x0 x1 x2 x3 x4} : A c135 c136 c137 c138 c139 n J 1047845 [m16373, m + 1] (s1047845 x0 x1 x2 x3 x4) = b1047845 c135 c136 c137 c138 c139 (fun y0 y1 y2 y3 => J 16373 (A c135 c136 c137 c138 c139 n J 16373 [m16373]) (s16373 y0 y1 y2 y3)) (fun y0 y1 y2 y3 y4 => J 1047845 (A c135 c136 c137 c138 c139 n J 1047845 [m16373, m]) (s1047845 y0 y1 y2 y3 y4)) x0 x1 x2 x3 x4 := by kernel_rfl
noncomputable abbrev I (n : Nat) := A (abacusref02_Short.f n) (abacusref02_Order.f n) (abacusref02_doubled.f n) (abacusref02_holds.f n) (abacusref02_takeOff.f n) n idJ
theorem q2047 (n x0 x1) : I n 2047 [] (s2047 x0 x1) = l2047 n x0 x1 := e2047
theorem q1047845 (n m16373 m) : ∀ x0 x1 x2 x3 x4, I n 1047845 [m16373, m] (s1047845 x0 x1 x2 x3 x4) = l1047845 n (fun y0 y1 y2 y3 => I n 16373 [m16373] (s16373 y0 y1 y2 y3)) m x0 x1 x2 x3 x4 := by
  induction m with
  | zero => intros; rfl
  | succ m ih =>
    intros
    exact e1047845.trans (Eq.trans (cf5 (congr (congrArg (b1047845 _ _ _ _ _) rfl) (fu5 (ih))) _ _ _ _ _) rfl)
theorem q16373 (n m) : ∀ x0 x1 x2 x3, I n 16373 [m] (s16373 x0 x1 x2 x3) = l16373 n m x0 x1 x2 x3 := by
  induction m with
  | zero => intros; rfl
  | succ m ih =>
    intros
    exact e16373.trans (Eq.trans (cf4 (congr (congrArg (b16373 _ _ _ _ _) (fu2 (q2047 n))) ((fu5 (q1047845 n m n)).trans (by rw [show (fun y0 y1 y2 y3 => I n 16373 [m] (s16373 y0 y1 y2 y3)) = _ from (fu4 (ih))]))) _ _ _ _) rfl)
theorem q255 (n x0 x1 x2 x3) : I n 255 [] (s255 x0 x1 x2 x3) = l255 n x0 x1 x2 x3 := e255.trans (Eq.trans (cf4 (congrArg (b255 _ _ _ _ _) (fu4 (q16373 n n))) _ _ _ _) rfl)
theorem q2037 (n m) : ∀ x0 x1 x2 x3 x4 x5, I n 2037 [m] (s2037 x0 x1 x2 x3 x4 x5) = l2037 n m x0 x1 x2 x3 x4 x5 := by
  induction m with
  | zero => intros; rfl
  | succ m ih =>
    intros
    exact e2037.trans (Eq.trans (cf6 (congr (congrArg (b2037 _ _ _ _ _) (fu4 (q255 n))) (fu6 (ih))) _ _ _ _ _ _) rfl)
theorem ok {n  l0 l1 r} (h : f n l0 l1 = some r) : CallD Tryz.prog HW 84 [.ro .u64 l0, .ro .u64 l1] (sg.enc r) :=
  fun_some hwS Tryz.func84 (by kernel_rfl) (body := code) (by kernel_rfl) tys_ok (c := cfg (abacusref02_Short.f n) (abacusref02_Order.f n) (abacusref02_doubled.f n) (abacusref02_holds.f n) (abacusref02_takeOff.f n)) (orCall_ok (abacusref02_Short.call_ok (n := n)) (orCall_ok (abacusref02_Order.call_ok (n := n)) (orCall_ok (abacusref02_doubled.call_ok (n := n)) (orCall_ok (abacusref02_holds.call_ok (n := n)) noCall_ok)))) (orW_ok (abacusref02_takeOff.call_ok (n := n)) noW_ok) (by kernel_rfl) (by kernel_rfl) (Nat.le_of_ble_eq_true (by kernel_rfl)) (Eq.trans ((e0 (n := n)).trans (Eq.trans (cf2 (congrArg (b0 _ _ _ _ _) (fu6 (q2037 n n))) _ _) rfl)) h)
noncomputable def call {α : Type} (g : T26) (ds : List D) (K : List D→Ω α) : Ω α := match ds with
  | [.ro .u64 l0, .ro .u64 l1] => (g l0 l1).bind fun r => K (sg.enc r)
  | _ => none
theorem call_ok {α : Type} {n : Nat} : COK Tryz.prog HW 84 (call (α := α) (f n)) := fun _ _ _ h => by
  unfold call at h; split at h
  · exact cok h fun _ => ok
  · cases h
end abacusref02_Divide
/-! ### abacusref06_Fmod: function 33 -/
namespace abacusref06_Fmod
noncomputable def b0 (c38 : T2) (c39 : T6) (c82 : T19) (c83 : T40) (c84 : T26) (a0 a1 : Int) : Ω (Int) := ((c38 a0).bind fun t1 => ((c38 a1).bind fun t2 => ((c82 t1.1 t1.2.1 t1.2.2.1 t1.2.2.2 t2.1 t2.2.1 t2.2.2.1 t2.2.2.2 a0).bind fun t3 => (if t3.2 = true then some t3.1 else ((c83 t1.1 t1.2.1 t1.2.2.1 t1.2.2.2 t2.1 t2.2.1 t2.2.2.1 t2.2.2.2).bind fun t4 => ((c84 t4.1 t4.2.1).bind fun t5 => ((c39 t1.1 t5.2 t4.2.2 false).bind fun t6 => some t6.1)))))))
noncomputable def f (n : Nat) (a0 a1 : Int) : Ω (Int) := b0 abacusref04_Decode.f (abacusref04_Round.f n) abacusref06_early.f (abacusref06_common.f n) (abacusref02_Divide.f n) a0 a1
noncomputable def sg : Sig (Int) := s1 (sInt .u64)
noncomputable def code : Code := (Tryz.f33.body).getD .skip
noncomputable def cfg (c38 : T2) (c39 : T6) (c82 : T19) (c83 : T40) (c84 : T26) : Cfg (Int) := { T := tys, call := orCall 38 (abacusref04_Decode.call c38) (orCall 39 (abacusref04_Round.call c39) (orCall 82 (abacusref06_early.call c82) (orCall 83 (abacusref06_common.call c83) (orCall 84 (abacusref02_Divide.call c84) (noCall))))) }
noncomputable def cuts : List (Nat × List (Nat × Want)) := []
theorem e0 {c38 c39 c82 c83 c84 n J a0 a1} : afun (cfg c38 c39 c82 c83 c84) J cuts n code Tryz.f33.results.toList [false] [.int .u64 a0, .int .u64 a1] sg.out = b0 c38 c39 c82 c83 c84 a0 a1 := by kernel_rfl
theorem ok {n  a0 a1 r} (h : f n a0 a1 = some r) : CallD Tryz.prog HW 33 [.int .u64 a0, .int .u64 a1] (sg.enc r) :=
  fun_some hwS Tryz.func33 (by kernel_rfl) (body := code) (by kernel_rfl) tys_ok (c := cfg abacusref04_Decode.f (abacusref04_Round.f n) abacusref06_early.f (abacusref06_common.f n) (abacusref02_Divide.f n)) (orCall_ok abacusref04_Decode.call_ok (orCall_ok (abacusref04_Round.call_ok (n := n)) (orCall_ok abacusref06_early.call_ok (orCall_ok (abacusref06_common.call_ok (n := n)) (orCall_ok (abacusref02_Divide.call_ok (n := n)) noCall_ok))))) noW_ok (by kernel_rfl) (by kernel_rfl) (Nat.le_of_ble_eq_true (by kernel_rfl)) (Eq.trans ((e0 (n := n))) h)
noncomputable def call {α : Type} (g : T9) (ds : List D) (K : List D→Ω α) : Ω α := match ds with
  | [.int .u64 a0, .int .u64 a1] => (g a0 a1).bind fun r => K (sg.enc r)
  | _ => none
theorem call_ok {α : Type} {n : Nat} : COK Tryz.prog HW 33 (call (α := α) (f n)) := fun _ _ _ h => by
  unfold call at h; split at h
  · exact cok h fun _ => ok
  · cases h
end abacusref06_Fmod
/-! ### remain_Remainder: function 34 -/
namespace remain_Remainder
noncomputable def b0 (c36 : T2) (c37 : T6) (c65 : T19) (c66 : T17) (c67 : T0) (c68 : T7) (k63 : Int→Int→Int→Bool→Int→Int→Int→Ω (Int)) (a0 a1 : Int) : Ω (Int) := ((c36 a0).bind fun t1 => ((c36 a1).bind fun t2 => ((c65 t1.1 t1.2.1 t1.2.2.1 t1.2.2.2 t2.1 t2.2.1 t2.2.2.1 t2.2.2.2 a0).bind fun t3 => (if t3.2 = true then some t3.1 else (if (wrap64 (t1.2.2.2 - t2.2.2.2)) ≥ 0 then ((c66 t1.2.2.1 (wrap64 (t1.2.2.2 - t2.2.2.2)) (IntKind.u64.wrap (2 * t2.2.2.1))).bind fun t4 => k63 t4 t2.2.2.2 t2.2.2.1 t1.1 t1.2.1 t1.2.2.1 t1.2.2.2) else ((c67 t2.2.2.1).bind fun t5 => (if (wrap64 (t5 - (wrap64 (t1.2.2.2 - t2.2.2.2)))) > 60 then some a0 else (if 0 ≤ (wrap64 (-(wrap64 (t1.2.2.2 - t2.2.2.2)))) then (if (IntKind.u64.wrap (2 * (shl .u64 t2.2.2.1 (wrap64 (-(wrap64 (t1.2.2.2 - t2.2.2.2))))))) = 0 then none else k63 (Int.tmod t1.2.2.1 (IntKind.u64.wrap (2 * (shl .u64 t2.2.2.1 (wrap64 (-(wrap64 (t1.2.2.2 - t2.2.2.2)))))))) t1.2.2.2 (shl .u64 t2.2.2.1 (wrap64 (-(wrap64 (t1.2.2.2 - t2.2.2.2))))) t1.1 t1.2.1 t1.2.2.1 t1.2.2.2) else none))))))))
noncomputable def b63 (c36 : T2) (c37 : T6) (c65 : T19) (c66 : T17) (c67 : T0) (c68 : T7) (k511 : Int→Int→Int→Bool→Bool→Int→Int→Int→Ω (Int)) (x0 x1 x2 : Int) (x3 : Bool) (x4 x5 x6 : Int) : Ω (Int) := (if x0 ≥ x2 then k511 (IntKind.u64.wrap (x0 - x2)) x1 x2 x3 (decide (x0 ≥ x2)) x4 x5 x6 else k511 x0 x1 x2 x3 (decide (x0 ≥ x2)) x4 x5 x6)
noncomputable def b511 (c36 : T2) (c37 : T6) (c65 : T19) (c66 : T17) (c67 : T0) (c68 : T7) (k1023 : Int→Int→Bool→Bool→Int→Int→Int→Ω (Int)) (x0 x1 x2 : Int) (x3 x4 : Bool) (x5 x6 x7 : Int) : Ω (Int) := (if (IntKind.u64.wrap (2 * x0)) > x2 then k1023 (IntKind.u64.wrap (x2 - x0)) x1 (!x3) x3 x5 x6 x7 else (if (IntKind.u64.wrap (2 * x0)) = x2 then (if x4 = true then k1023 (IntKind.u64.wrap (x2 - x0)) x1 (!x3) x3 x5 x6 x7 else k1023 x0 x1 x3 x3 x5 x6 x7) else k1023 x0 x1 x3 x3 x5 x6 x7))
noncomputable def b1023 (c36 : T2) (c37 : T6) (c65 : T19) (c66 : T17) (c67 : T0) (c68 : T7) (x0 x1 : Int) (x2 x3 : Bool) (x4 x5 x6 : Int) : Ω (Int) := (if x0 = 0 then ((c68 x3 0).bind fun t1 => some t1) else ((c37 x2 [x0] x1 false).bind fun t2 => some t2.1))
noncomputable def l1023 (n : Nat) (x0 x1 : Int) (x2 x3 : Bool) (x4 x5 x6 : Int) : Ω (Int) := b1023 ieee_Decode.f (ieee_Round.f n) remain_special.f (remain_residue.f n) bits_Len64.f remain_signed.f x0 x1 x2 x3 x4 x5 x6
noncomputable def l511 (n : Nat) (x0 x1 x2 : Int) (x3 x4 : Bool) (x5 x6 x7 : Int) : Ω (Int) := b511 ieee_Decode.f (ieee_Round.f n) remain_special.f (remain_residue.f n) bits_Len64.f remain_signed.f (l1023 n) x0 x1 x2 x3 x4 x5 x6 x7
noncomputable def l63 (n : Nat) (x0 x1 x2 : Int) (x3 : Bool) (x4 x5 x6 : Int) : Ω (Int) := b63 ieee_Decode.f (ieee_Round.f n) remain_special.f (remain_residue.f n) bits_Len64.f remain_signed.f (l511 n) x0 x1 x2 x3 x4 x5 x6
noncomputable def f (n : Nat) (a0 a1 : Int) : Ω (Int) := b0 ieee_Decode.f (ieee_Round.f n) remain_special.f (remain_residue.f n) bits_Len64.f remain_signed.f (l63 n) a0 a1
noncomputable def sg : Sig (Int) := s1 (sInt .u64)
noncomputable def code : Code := (Tryz.f34.body).getD .skip
noncomputable def cfg (c36 : T2) (c37 : T6) (c65 : T19) (c66 : T17) (c67 : T0) (c68 : T7) : Cfg (Int) := { T := tys, call := orCall 36 (ieee_Decode.call c36) (orCall 37 (ieee_Round.call c37) (orCall 65 (remain_special.call c65) (orCall 66 (remain_residue.call c66) (orCall 67 (bits_Len64.call c67) (orCall 68 (remain_signed.call c68) (noCall)))))) }
noncomputable def cuts : List (Nat × List (Nat × Want)) := [(63, [(5, .keep), (9, .keep), (10, .keep), (11, .keep)]), (511, [(5, .keep), (9, .keep), (10, .keep), (11, .keep), (13, .keep), (14, .keep)]), (1023, [(5, .keep), (9, .keep), (10, .keep), (13, .keep)])]
noncomputable def s63 (x0 x1 x2 : Int) (x3 : Bool) (x4 x5 x6 : Int) : ASt := ⟨[(5, .ptr 0 0), (9, .int .u64 x0), (10, .int .i64 x1), (11, .int .u64 x2)], [.cells 54 [.bool x3, .int .i64 x4, .int .u64 x5, .int .i64 x6]]⟩
noncomputable def s511 (x0 x1 x2 : Int) (x3 x4 : Bool) (x5 x6 x7 : Int) : ASt := ⟨[(5, .ptr 0 0), (9, .int .u64 x0), (10, .int .i64 x1), (11, .int .u64 x2), (13, .bool x3), (14, .bool x4)], [.cells 54 [.bool x3, .int .i64 x5, .int .u64 x6, .int .i64 x7]]⟩
noncomputable def s1023 (x0 x1 : Int) (x2 x3 : Bool) (x4 x5 x6 : Int) : ASt := ⟨[(5, .ptr 0 0), (9, .int .u64 x0), (10, .int .i64 x1), (13, .bool x2)], [.cells 54 [.bool x3, .int .i64 x4, .int .u64 x5, .int .i64 x6]]⟩
noncomputable def A (c36 : T2) (c37 : T6) (c65 : T19) (c66 : T17) (c67 : T0) (c68 : T7) (n : Nat) (J : Jt (Int)) (q : Nat) (ms : List Nat) : ASt→Ω (Int) := acont (cfg c36 c37 c65 c66 c67 c68) J cuts n q code 1 ms (aend (cfg c36 c37 c65 c66 c67 c68) Tryz.f34.results.toList [false] sg.out)
theorem e0 {c36 c37 c65 c66 c67 c68 n J a0 a1} : afun (cfg c36 c37 c65 c66 c67 c68) J cuts n code Tryz.f34.results.toList [false] [.int .u64 a0, .int .u64 a1] sg.out = b0 c36 c37 c65 c66 c67 c68 (fun y0 y1 y2 y3 y4 y5 y6 => J 63 (A c36 c37 c65 c66 c67 c68 n J 63 []) (s63 y0 y1 y2 y3 y4 y5 y6)) a0 a1 := by kernel_rfl
theorem e63 {c36 c37 c65 c66 c67 c68 n J x0 x1 x2 x3 x4 x5 x6} : A c36 c37 c65 c66 c67 c68 n J 63 [] (s63 x0 x1 x2 x3 x4 x5 x6) = b63 c36 c37 c65 c66 c67 c68 (fun y0 y1 y2 y3 y4 y5 y6 y7 => J 511 (A c36 c37 c65 c66 c67 c68 n J 511 []) (s511 y0 y1 y2 y3 y4 y5 y6 y7)) x0 x1 x2 x3 x4 x5 x6 := by kernel_rfl
theorem e511 {c36 c37 c65 c66 c67 c68 n J x0 x1 x2 x3 x4 x5 x6 x7} : A c36 c37 c65 c66 c67 c68 n J 511 [] (s511 x0 x1 x2 x3 x4 x5 x6 x7) = b511 c36 c37 c65 c66 c67 c68 (fun y0 y1 y2 y3 y4 y5 y6 => J 1023 (A c36 c37 c65 c66 c67 c68 n J 1023 []) (s1023 y0 y1 y2 y3 y4 y5 y6)) x0 x1 x2 x3 x4 x5 x6 x7 := by kernel_rfl
theorem e1023 {c36 c37 c65 c66 c67 c68 n J x0 x1 x2 x3 x4 x5 x6} : A c36 c37 c65 c66 c67 c68 n J 1023 [] (s1023 x0 x1 x2 x3 x4 x5 x6) = b1023 c36 c37 c65 c66 c67 c68 x0 x1 x2 x3 x4 x5 x6 := by kernel_rfl
noncomputable abbrev I (n : Nat) := A ieee_Decode.f (ieee_Round.f n) remain_special.f (remain_residue.f n) bits_Len64.f remain_signed.f n idJ
theorem q1023 (n x0 x1 x2 x3 x4 x5 x6) : I n 1023 [] (s1023 x0 x1 x2 x3 x4 x5 x6) = l1023 n x0 x1 x2 x3 x4 x5 x6 := e1023
theorem q511 (n x0 x1 x2 x3 x4 x5 x6 x7) : I n 511 [] (s511 x0 x1 x2 x3 x4 x5 x6 x7) = l511 n x0 x1 x2 x3 x4 x5 x6 x7 := e511.trans (Eq.trans (cf8 (congrArg (b511 _ _ _ _ _ _) (fu7 (q1023 n))) _ _ _ _ _ _ _ _) rfl)
theorem q63 (n x0 x1 x2 x3 x4 x5 x6) : I n 63 [] (s63 x0 x1 x2 x3 x4 x5 x6) = l63 n x0 x1 x2 x3 x4 x5 x6 := e63.trans (Eq.trans (cf7 (congrArg (b63 _ _ _ _ _ _) (fu8 (q511 n))) _ _ _ _ _ _ _) rfl)
theorem ok {n  a0 a1 r} (h : f n a0 a1 = some r) : CallD Tryz.prog HW 34 [.int .u64 a0, .int .u64 a1] (sg.enc r) :=
  fun_some hwS Tryz.func34 (by kernel_rfl) (body := code) (by kernel_rfl) tys_ok (c := cfg ieee_Decode.f (ieee_Round.f n) remain_special.f (remain_residue.f n) bits_Len64.f remain_signed.f) (orCall_ok ieee_Decode.call_ok (orCall_ok (ieee_Round.call_ok (n := n)) (orCall_ok remain_special.call_ok (orCall_ok (remain_residue.call_ok (n := n)) (orCall_ok bits_Len64.call_ok (orCall_ok remain_signed.call_ok noCall_ok)))))) noW_ok (by kernel_rfl) (by kernel_rfl) (Nat.le_of_ble_eq_true (by kernel_rfl)) (Eq.trans ((e0 (n := n)).trans (Eq.trans (cf2 (congrArg (b0 _ _ _ _ _ _) (fu7 (q63 n))) _ _) rfl)) h)
noncomputable def call {α : Type} (g : T9) (ds : List D) (K : List D→Ω α) : Ω α := match ds with
  | [.int .u64 a0, .int .u64 a1] => (g a0 a1).bind fun r => K (sg.enc r)
  | _ => none
theorem call_ok {α : Type} {n : Nat} : COK Tryz.prog HW 34 (call (α := α) (f n)) := fun _ _ _ h => by
  unfold call at h; split at h
  · exact cok h fun _ => ok
  · cases h
end remain_Remainder
/-! ### abacusref01_Cmp: function 85 -/
namespace abacusref01_Cmp
noncomputable def b0 (c134 : T1) (k1013 : T42) (l0 l1 : Λ) : Ω (Int) := ((c134 l0).bind fun t1 => ((c134 l1).bind fun t2 => (if t1 < t2 then some (-1) else (if t1 > t2 then some 1 else k1013 l0 l1 (wrap64 (t2 - 1))))))
noncomputable def b1013 (c134 : T1) (k1013 : T42) (x0 x1 : Λ) (x2 : Int) : Ω (Int) := (if x2 ≥ 0 then (if 0 ≤ x2 then (if x2 < (ln x0) then (if 0 ≤ x2 then (if x2 < (ln x1) then (if (rd x0 x2) < (rd x1 x2) then some (-1) else (if 0 ≤ x2 then (if x2 < (ln x0) then (if 0 ≤ x2 then (if x2 < (ln x1) then (if (rd x0 x2) > (rd x1 x2) then some 1 else k1013 x0 x1 (wrap64 (x2 - 1))) else none) else none) else none) else none)) else none) else none) else none) else none) else some 0)
noncomputable def l1013 (n : Nat) : Nat→Λ→Λ→Int→Ω (Int)
  | 0, _, _, _ => none
  | m + 1, x0, x1, x2 => b1013 (abacusref01_Size.f n) (l1013 n m) x0 x1 x2
noncomputable def f (n : Nat) (l0 l1 : Λ) : Ω (Int) := b0 (abacusref01_Size.f n) (l1013 n n) l0 l1
noncomputable def sg : Sig (Int) := s1 (sInt .i64)
noncomputable def code : Code := (Tryz.f85.body).getD .skip
noncomputable def cfg (c134 : T1) : Cfg (Int) := { T := tys, call := orCall 134 (abacusref01_Size.call c134) (noCall) }
noncomputable def cuts : List (Nat × List (Nat × Want)) := [(1013, [(0, .keep), (1, .keep), (7, .keep)])]
noncomputable def s1013 (x0 x1 : Λ) (x2 : Int) : ASt := ⟨[(0, .ro .u64 x0), (1, .ro .u64 x1), (7, .int .i64 x2)], []⟩
noncomputable def A (c134 : T1) (n : Nat) (J : Jt (Int)) (q : Nat) (ms : List Nat) : ASt→Ω (Int) := acont (cfg c134) J cuts n q code 1 ms (aend (cfg c134) Tryz.f85.results.toList [false] sg.out)
theorem e0 {c134 n J l0 l1} : afun (cfg c134) J cuts n code Tryz.f85.results.toList [false] [.ro .u64 l0, .ro .u64 l1] sg.out = b0 c134 (fun y0 y1 y2 => J 1013 (A c134 n J 1013 [n]) (s1013 y0 y1 y2)) l0 l1 := by kernel_rfl
theorem e1013 {c134 n J m x0 x1 x2} : A c134 n J 1013 [m + 1] (s1013 x0 x1 x2) = b1013 c134 (fun y0 y1 y2 => J 1013 (A c134 n J 1013 [m]) (s1013 y0 y1 y2)) x0 x1 x2 := by kernel_rfl
noncomputable abbrev I (n : Nat) := A (abacusref01_Size.f n) n idJ
theorem q1013 (n m) : ∀ x0 x1 x2, I n 1013 [m] (s1013 x0 x1 x2) = l1013 n m x0 x1 x2 := by
  induction m with
  | zero => intros; rfl
  | succ m ih =>
    intros
    exact e1013.trans (Eq.trans (cf3 (congrArg (b1013 _) (fu3 (ih))) _ _ _) rfl)
theorem ok {n  l0 l1 r} (h : f n l0 l1 = some r) : CallD Tryz.prog HW 85 [.ro .u64 l0, .ro .u64 l1] (sg.enc r) :=
  fun_some hwS Tryz.func85 (by kernel_rfl) (body := code) (by kernel_rfl) tys_ok (c := cfg (abacusref01_Size.f n)) (orCall_ok (abacusref01_Size.call_ok (n := n)) noCall_ok) noW_ok (by kernel_rfl) (by kernel_rfl) (Nat.le_of_ble_eq_true (by kernel_rfl)) (Eq.trans ((e0 (n := n)).trans (Eq.trans (cf2 (congrArg (b0 _) (fu3 (q1013 n n))) _ _) rfl)) h)
noncomputable def call {α : Type} (g : T10) (ds : List D) (K : List D→Ω α) : Ω α := match ds with
  | [.ro .u64 l0, .ro .u64 l1] => (g l0 l1).bind fun r => K (sg.enc r)
  | _ => none
theorem call_ok {α : Type} {n : Nat} : COK Tryz.prog HW 85 (call (α := α) (f n)) := fun _ _ _ h => by
  unfold call at h; split at h
  · exact cok h fun _ => ok
  · cases h
end abacusref01_Cmp
/-! ### abacusref06_Remainder: function 35 -/
namespace abacusref06_Remainder
noncomputable def b0 (c38 : T2) (c39 : T6) (c81 : T18) (c82 : T19) (c83 : T40) (c84 : T26) (c85 : T10) (c86 : T13) (k2047 : Int→Λ→Bool→Int→Int→Int→Ω (Int)) (a0 a1 : Int) : Ω (Int) := ((c38 a0).bind fun t1 => ((c38 a1).bind fun t2 => ((c82 t1.1 t1.2.1 t1.2.2.1 t1.2.2.2 t2.1 t2.2.1 t2.2.2.1 t2.2.2.2 a0).bind fun t3 => (if t3.2 = true then some t3.1 else ((c83 t1.1 t1.2.1 t1.2.2.1 t1.2.2.2 t2.1 t2.2.1 t2.2.2.1 t2.2.2.2).bind fun t4 => ((c84 t4.1 t4.2.1).bind fun t5 => ((c81 t4.2.1 t5.2).bind fun t6 => ((c85 t5.2 t6).bind fun t7 => (if t7 > 0 then ((c39 (!t1.1) t6 t4.2.2 false).bind fun t9 => some t9.1) else (if t7 = 0 then ((c86 t5.1 0).bind fun t8 => (if t8 = 1 then ((c39 (!t1.1) t6 t4.2.2 false).bind fun t10 => some t10.1) else k2047 t4.2.2 t5.2 t1.1 t1.2.1 t1.2.2.1 t1.2.2.2)) else k2047 t4.2.2 t5.2 t1.1 t1.2.1 t1.2.2.1 t1.2.2.2))))))))))
noncomputable def b2047 (c38 : T2) (c39 : T6) (c81 : T18) (c82 : T19) (c83 : T40) (c84 : T26) (c85 : T10) (c86 : T13) (x0 : Int) (x1 : Λ) (x2 : Bool) (x3 x4 x5 : Int) : Ω (Int) := ((c39 x2 x1 x0 false).bind fun t1 => some t1.1)
noncomputable def l2047 (n : Nat) (x0 : Int) (x1 : Λ) (x2 : Bool) (x3 x4 x5 : Int) : Ω (Int) := b2047 abacusref04_Decode.f (abacusref04_Round.f n) (abacusref01_Less.f n) abacusref06_early.f (abacusref06_common.f n) (abacusref02_Divide.f n) (abacusref01_Cmp.f n) (abacusref01_Bit.f n) x0 x1 x2 x3 x4 x5
noncomputable def f (n : Nat) (a0 a1 : Int) : Ω (Int) := b0 abacusref04_Decode.f (abacusref04_Round.f n) (abacusref01_Less.f n) abacusref06_early.f (abacusref06_common.f n) (abacusref02_Divide.f n) (abacusref01_Cmp.f n) (abacusref01_Bit.f n) (l2047 n) a0 a1
noncomputable def sg : Sig (Int) := s1 (sInt .u64)
noncomputable def code : Code := (Tryz.f35.body).getD .skip
noncomputable def cfg (c38 : T2) (c39 : T6) (c81 : T18) (c82 : T19) (c83 : T40) (c84 : T26) (c85 : T10) (c86 : T13) : Cfg (Int) := { T := tys, call := orCall 38 (abacusref04_Decode.call c38) (orCall 39 (abacusref04_Round.call c39) (orCall 81 (abacusref01_Less.call c81) (orCall 82 (abacusref06_early.call c82) (orCall 83 (abacusref06_common.call c83) (orCall 84 (abacusref02_Divide.call c84) (orCall 85 (abacusref01_Cmp.call c85) (orCall 86 (abacusref01_Bit.call c86) (noCall)))))))) }
noncomputable def cuts : List (Nat × List (Nat × Want)) := [(2047, [(5, .keep), (11, .keep), (13, .keep)])]
noncomputable def s2047 (x0 : Int) (x1 : Λ) (x2 : Bool) (x3 x4 x5 : Int) : ASt := ⟨[(5, .ptr 0 0), (11, .int .i64 x0), (13, .ro .u64 x1)], [.cells 54 [.bool x2, .int .i64 x3, .int .u64 x4, .int .i64 x5]]⟩
noncomputable def A (c38 : T2) (c39 : T6) (c81 : T18) (c82 : T19) (c83 : T40) (c84 : T26) (c85 : T10) (c86 : T13) (n : Nat) (J : Jt (Int)) (q : Nat) (ms : List Nat) : ASt→Ω (Int) := acont (cfg c38 c39 c81 c82 c83 c84 c85 c86) J cuts n q code 1 ms (aend (cfg c38 c39 c81 c82 c83 c84 c85 c86) Tryz.f35.results.toList [false] sg.out)
theorem e0 {c38 c39 c81 c82 c83 c84 c85 c86 n J a0 a1} : afun (cfg c38 c39 c81 c82 c83 c84 c85 c86) J cuts n code Tryz.f35.results.toList [false] [.int .u64 a0, .int .u64 a1] sg.out = b0 c38 c39 c81 c82 c83 c84 c85 c86 (fun y0 y1 y2 y3 y4 y5 => J 2047 (A c38 c39 c81 c82 c83 c84 c85 c86 n J 2047 []) (s2047 y0 y1 y2 y3 y4 y5)) a0 a1 := by kernel_rfl
theorem e2047 {c38 c39 c81 c82 c83 c84 c85 c86 n J x0 x1 x2 x3 x4 x5} : A c38 c39 c81 c82 c83 c84 c85 c86 n J 2047 [] (s2047 x0 x1 x2 x3 x4 x5) = b2047 c38 c39 c81 c82 c83 c84 c85 c86 x0 x1 x2 x3 x4 x5 := by kernel_rfl
noncomputable abbrev I (n : Nat) := A abacusref04_Decode.f (abacusref04_Round.f n) (abacusref01_Less.f n) abacusref06_early.f (abacusref06_common.f n) (abacusref02_Divide.f n) (abacusref01_Cmp.f n) (abacusref01_Bit.f n) n idJ
theorem q2047 (n x0 x1 x2 x3 x4 x5) : I n 2047 [] (s2047 x0 x1 x2 x3 x4 x5) = l2047 n x0 x1 x2 x3 x4 x5 := e2047
theorem ok {n  a0 a1 r} (h : f n a0 a1 = some r) : CallD Tryz.prog HW 35 [.int .u64 a0, .int .u64 a1] (sg.enc r) :=
  fun_some hwS Tryz.func35 (by kernel_rfl) (body := code) (by kernel_rfl) tys_ok (c := cfg abacusref04_Decode.f (abacusref04_Round.f n) (abacusref01_Less.f n) abacusref06_early.f (abacusref06_common.f n) (abacusref02_Divide.f n) (abacusref01_Cmp.f n) (abacusref01_Bit.f n)) (orCall_ok abacusref04_Decode.call_ok (orCall_ok (abacusref04_Round.call_ok (n := n)) (orCall_ok (abacusref01_Less.call_ok (n := n)) (orCall_ok abacusref06_early.call_ok (orCall_ok (abacusref06_common.call_ok (n := n)) (orCall_ok (abacusref02_Divide.call_ok (n := n)) (orCall_ok (abacusref01_Cmp.call_ok (n := n)) (orCall_ok (abacusref01_Bit.call_ok (n := n)) noCall_ok)))))))) noW_ok (by kernel_rfl) (by kernel_rfl) (Nat.le_of_ble_eq_true (by kernel_rfl)) (Eq.trans ((e0 (n := n)).trans (Eq.trans (cf2 (congrArg (b0 _ _ _ _ _ _ _ _) (fu6 (q2047 n))) _ _) rfl)) h)
noncomputable def call {α : Type} (g : T9) (ds : List D) (K : List D→Ω α) : Ω α := match ds with
  | [.int .u64 a0, .int .u64 a1] => (g a0 a1).bind fun r => K (sg.enc r)
  | _ => none
theorem call_ok {α : Type} {n : Nat} : COK Tryz.prog HW 35 (call (α := α) (f n)) := fun _ _ _ h => by
  unfold call at h; split at h
  · exact cok h fun _ => ok
  · cases h
end abacusref06_Remainder
/-! ### abacuslaw06_mods: function 11 -/
namespace abacuslaw06_mods
noncomputable def b0 (c22 c33 c34 c35 : T9) (a0 a1 a2 a3 : Int) : Ω (Bool) := (if a0 = 6 then ((c22 a1 a2).bind fun t1 => ((c33 a1 a2).bind fun t2 => some (decide (t1 = t2)))) else ((c34 a1 a2).bind fun t3 => ((c35 a1 a2).bind fun t4 => some (decide (t3 = t4)))))
noncomputable def f (n : Nat) (a0 a1 a2 a3 : Int) : Ω (Bool) := b0 (remain_Fmod.f n) (abacusref06_Fmod.f n) (remain_Remainder.f n) (abacusref06_Remainder.f n) a0 a1 a2 a3
noncomputable def sg : Sig (Bool) := s1 (sBool)
noncomputable def code : Code := (Tryz.f11.body).getD .skip
noncomputable def cfg (c22 c33 c34 c35 : T9) : Cfg (Bool) := { T := tys, call := orCall 22 (remain_Fmod.call c22) (orCall 33 (abacusref06_Fmod.call c33) (orCall 34 (remain_Remainder.call c34) (orCall 35 (abacusref06_Remainder.call c35) (noCall)))) }
noncomputable def cuts : List (Nat × List (Nat × Want)) := []
theorem e0 {c22 c33 c34 c35 n J a0 a1 a2 a3} : afun (cfg c22 c33 c34 c35) J cuts n code Tryz.f11.results.toList [false] [.agg [.int .i64 a0, .int .u64 a1, .int .u64 a2, .int .i64 a3]] sg.out = b0 c22 c33 c34 c35 a0 a1 a2 a3 := by kernel_rfl
theorem ok {n  a0 a1 a2 a3 r} (h : f n a0 a1 a2 a3 = some r) : CallD Tryz.prog HW 11 [.agg [.int .i64 a0, .int .u64 a1, .int .u64 a2, .int .i64 a3]] (sg.enc r) :=
  fun_some hwS Tryz.func11 (by kernel_rfl) (body := code) (by kernel_rfl) tys_ok (c := cfg (remain_Fmod.f n) (abacusref06_Fmod.f n) (remain_Remainder.f n) (abacusref06_Remainder.f n)) (orCall_ok (remain_Fmod.call_ok (n := n)) (orCall_ok (abacusref06_Fmod.call_ok (n := n)) (orCall_ok (remain_Remainder.call_ok (n := n)) (orCall_ok (abacusref06_Remainder.call_ok (n := n)) noCall_ok)))) noW_ok (by kernel_rfl) (by kernel_rfl) (Nat.le_of_ble_eq_true (by kernel_rfl)) (Eq.trans ((e0 (n := n))) h)
noncomputable def call {α : Type} (g : T21) (ds : List D) (K : List D→Ω α) : Ω α := match ds with
  | [.agg [.int .i64 a0, .int .u64 a1, .int .u64 a2, .int .i64 a3]] => (g a0 a1 a2 a3).bind fun r => K (sg.enc r)
  | _ => none
theorem call_ok {α : Type} {n : Nat} : COK Tryz.prog HW 11 (call (α := α) (f n)) := fun _ _ _ h => by
  unfold call at h; split at h
  · exact cok h fun _ => ok
  · cases h
end abacuslaw06_mods
/-! ### abacusref06_Scale: function 13 -/
namespace abacusref06_Scale
noncomputable def b0 (c38 : T2) (c39 : T6) (k31 : T36) (a0 a1 : Int) : Ω (Int) := ((c38 a0).bind fun t1 => (if t1.2.1 = 4 then some 9221120237041090560 else (if t1.2.1 = 3 then some a0 else (if t1.2.1 = 0 then some a0 else (if a1 > 5000 then k31 5000 t1.1 t1.2.1 t1.2.2.1 t1.2.2.2 else k31 a1 t1.1 t1.2.1 t1.2.2.1 t1.2.2.2)))))
noncomputable def b31 (c38 : T2) (c39 : T6) (k63 : T36) (x0 : Int) (x1 : Bool) (x2 x3 x4 : Int) : Ω (Int) := (if x0 < (-5000) then k63 (-5000) x1 x2 x3 x4 else k63 x0 x1 x2 x3 x4)
noncomputable def b63 (c38 : T2) (c39 : T6) (x0 : Int) (x1 : Bool) (x2 x3 x4 : Int) : Ω (Int) := ((c39 x1 [x3] (wrap64 (x4 + x0)) false).bind fun t1 => some t1.1)
noncomputable def l63 (n : Nat) (x0 : Int) (x1 : Bool) (x2 x3 x4 : Int) : Ω (Int) := b63 abacusref04_Decode.f (abacusref04_Round.f n) x0 x1 x2 x3 x4
noncomputable def l31 (n : Nat) (x0 : Int) (x1 : Bool) (x2 x3 x4 : Int) : Ω (Int) := b31 abacusref04_Decode.f (abacusref04_Round.f n) (l63 n) x0 x1 x2 x3 x4
noncomputable def f (n : Nat) (a0 a1 : Int) : Ω (Int) := b0 abacusref04_Decode.f (abacusref04_Round.f n) (l31 n) a0 a1
noncomputable def sg : Sig (Int) := s1 (sInt .u64)
noncomputable def code : Code := (Tryz.f13.body).getD .skip
noncomputable def cfg (c38 : T2) (c39 : T6) : Cfg (Int) := { T := tys, call := orCall 38 (abacusref04_Decode.call c38) (orCall 39 (abacusref04_Round.call c39) (noCall)) }
noncomputable def cuts : List (Nat × List (Nat × Want)) := [(31, [(1, .keep), (5, .keep)]), (63, [(1, .keep), (5, .keep)])]
noncomputable def s31 (x0 : Int) (x1 : Bool) (x2 x3 x4 : Int) : ASt := ⟨[(1, .int .i64 x0), (5, .ptr 0 0)], [.cells 54 [.bool x1, .int .i64 x2, .int .u64 x3, .int .i64 x4]]⟩
noncomputable def s63 (x0 : Int) (x1 : Bool) (x2 x3 x4 : Int) : ASt := ⟨[(1, .int .i64 x0), (5, .ptr 0 0)], [.cells 54 [.bool x1, .int .i64 x2, .int .u64 x3, .int .i64 x4]]⟩
noncomputable def A (c38 : T2) (c39 : T6) (n : Nat) (J : Jt (Int)) (q : Nat) (ms : List Nat) : ASt→Ω (Int) := acont (cfg c38 c39) J cuts n q code 1 ms (aend (cfg c38 c39) Tryz.f13.results.toList [false] sg.out)
theorem e0 {c38 c39 n J a0 a1} : afun (cfg c38 c39) J cuts n code Tryz.f13.results.toList [false] [.int .u64 a0, .int .i64 a1] sg.out = b0 c38 c39 (fun y0 y1 y2 y3 y4 => J 31 (A c38 c39 n J 31 []) (s31 y0 y1 y2 y3 y4)) a0 a1 := by kernel_rfl
theorem e31 {c38 c39 n J x0 x1 x2 x3 x4} : A c38 c39 n J 31 [] (s31 x0 x1 x2 x3 x4) = b31 c38 c39 (fun y0 y1 y2 y3 y4 => J 63 (A c38 c39 n J 63 []) (s63 y0 y1 y2 y3 y4)) x0 x1 x2 x3 x4 := by kernel_rfl
theorem e63 {c38 c39 n J x0 x1 x2 x3 x4} : A c38 c39 n J 63 [] (s63 x0 x1 x2 x3 x4) = b63 c38 c39 x0 x1 x2 x3 x4 := by kernel_rfl
noncomputable abbrev I (n : Nat) := A abacusref04_Decode.f (abacusref04_Round.f n) n idJ
theorem q63 (n x0 x1 x2 x3 x4) : I n 63 [] (s63 x0 x1 x2 x3 x4) = l63 n x0 x1 x2 x3 x4 := e63
theorem q31 (n x0 x1 x2 x3 x4) : I n 31 [] (s31 x0 x1 x2 x3 x4) = l31 n x0 x1 x2 x3 x4 := e31.trans (Eq.trans (cf5 (congrArg (b31 _ _) (fu5 (q63 n))) _ _ _ _ _) rfl)
theorem ok {n  a0 a1 r} (h : f n a0 a1 = some r) : CallD Tryz.prog HW 13 [.int .u64 a0, .int .i64 a1] (sg.enc r) :=
  fun_some hwS Tryz.func13 (by kernel_rfl) (body := code) (by kernel_rfl) tys_ok (c := cfg abacusref04_Decode.f (abacusref04_Round.f n)) (orCall_ok abacusref04_Decode.call_ok (orCall_ok (abacusref04_Round.call_ok (n := n)) noCall_ok)) noW_ok (by kernel_rfl) (by kernel_rfl) (Nat.le_of_ble_eq_true (by kernel_rfl)) (Eq.trans ((e0 (n := n)).trans (Eq.trans (cf2 (congrArg (b0 _ _) (fu5 (q31 n))) _ _) rfl)) h)
noncomputable def call {α : Type} (g : T9) (ds : List D) (K : List D→Ω α) : Ω α := match ds with
  | [.int .u64 a0, .int .i64 a1] => (g a0 a1).bind fun r => K (sg.enc r)
  | _ => none
theorem call_ok {α : Type} {n : Nat} : COK Tryz.prog HW 13 (call (α := α) (f n)) := fun _ _ _ h => by
  unfold call at h; split at h
  · exact cok h fun _ => ok
  · cases h
end abacusref06_Scale
/-! ### abacusref01_Times: function 109 -/
namespace abacusref01_Times
noncomputable def b0 (c132 c133 : T3) (k1013 : T58) (l0 l1 : Λ) : Ω (Λ) := ((c132 l0).bind fun t1 => ((c132 l1).bind fun t2 => (if (ln t1) = 0 then some ([] : Λ) else (if (ln t2) = 0 then some ([] : Λ) else (if 0 ≤ (wrap64 ((ln t1) + (ln t2))) then (if (wrap64 ((ln t1) + (ln t2))).toNat ≤ 35184372088832 then k1013 t1 t2 0 (List.replicate (wrap64 ((ln t1) + (ln t2))).toNat (0 : Int)) else none) else none)))))
noncomputable def b127 (c132 c133 : T3) (x0 : Λ) : Ω (Λ) := ((c133 x0).bind fun t1 => some t1)
noncomputable def b1013 (c132 c133 k127 : T3) (k259221 : T94) (x0 x1 : Λ) (x2 : Int) (x3 : Λ) : Ω (Λ) := (if x2 < (ln x0) then k259221 x0 x1 x2 0 0 x3 else k127 x3)
noncomputable def b32403 (c132 c133 : T3) (k1013 : T58) (x0 x1 : Λ) (x2 x3 : Int) (x4 : Λ) : Ω (Λ) := (if 0 ≤ (wrap64 (x2 + (ln x1))) then (if (wrap64 (x2 + (ln x1))) < (ln x4) then k1013 x0 x1 (wrap64 (x2 + 1)) (x4.set (wrap64 (x2 + (ln x1)) : Int).toNat x3) else none) else none)
noncomputable def b259221 (c132 c133 : T3) (k32403 : T44) (k259221 : T94) (x0 x1 : Λ) (x2 x3 x4 : Int) (x5 : Λ) : Ω (Λ) := (if x4 < (ln x1) then (if 0 ≤ x2 then (if x2 < (ln x0) then (if 0 ≤ x4 then (if x4 < (ln x1) then (if 0 ≤ (wrap64 (x2 + x4)) then (if (wrap64 (x2 + x4)) < (ln x5) then (if 0 ≤ (wrap64 (x2 + x4)) then (if (wrap64 (x2 + x4)) < (ln x5) then k259221 x0 x1 x2 ((IntKind.u64.wrap ((IntKind.u64.wrap ((IntKind.u64.wrap ((rd x0 x2) * (rd x1 x4))) + (rd x5 (wrap64 (x2 + x4))))) + x3)) / 4294967296) (wrap64 (x4 + 1)) (x5.set (wrap64 (x2 + x4) : Int).toNat (Go.bits .and .u64 (IntKind.u64.wrap ((IntKind.u64.wrap ((IntKind.u64.wrap ((rd x0 x2) * (rd x1 x4))) + (rd x5 (wrap64 (x2 + x4))))) + x3)) 4294967295)) else none) else none) else none) else none) else none) else none) else none) else none) else k32403 x0 x1 x2 x3 x5)
noncomputable def l127 (n : Nat) (x0 : Λ) : Ω (Λ) := b127 (abacusref01_halves.f n) (abacusref01_limbs.f n) x0
noncomputable def l32403 (n : Nat) (k1013 : T58) (x0 x1 : Λ) (x2 x3 : Int) (x4 : Λ) : Ω (Λ) := b32403 (abacusref01_halves.f n) (abacusref01_limbs.f n) k1013 x0 x1 x2 x3 x4
noncomputable def l259221 (n : Nat) (k1013 : T58) : Nat→Λ→Λ→Int→Int→Int→Λ→Ω (Λ)
  | 0, _, _, _, _, _, _ => none
  | m + 1, x0, x1, x2, x3, x4, x5 => b259221 (abacusref01_halves.f n) (abacusref01_limbs.f n) (l32403 n k1013) (l259221 n k1013 m) x0 x1 x2 x3 x4 x5
noncomputable def l1013 (n : Nat) : Nat→Λ→Λ→Int→Λ→Ω (Λ)
  | 0, _, _, _, _ => none
  | m + 1, x0, x1, x2, x3 => b1013 (abacusref01_halves.f n) (abacusref01_limbs.f n) (l127 n) (l259221 n (l1013 n m) n) x0 x1 x2 x3
noncomputable def f (n : Nat) (l0 l1 : Λ) : Ω (Λ) := b0 (abacusref01_halves.f n) (abacusref01_limbs.f n) (l1013 n n) l0 l1
noncomputable def sg : Sig (Λ) := s1 (sOwn 24 .u64)
noncomputable def code : Code := (Tryz.f109.body).getD .skip
noncomputable def cfg (c132 c133 : T3) : Cfg (Λ) := { T := tys, call := orCall 132 (abacusref01_halves.call c132) (orCall 133 (abacusref01_limbs.call c133) (noCall)) }
noncomputable def cuts : List (Nat × List (Nat × Want)) := [(127, [(7, .keep)]), (1013, [(5, .keep), (6, .keep), (7, .keep), (8, .keep)]), (32403, [(5, .keep), (6, .keep), (7, .keep), (8, .keep), (9, .keep)]), (259221, [(5, .keep), (6, .keep), (7, .keep), (8, .keep), (9, .keep), (10, .keep)])]
noncomputable def s127 (x0 : Λ) : ASt := ⟨[(7, .own 0)], [.ints 24 .u64 x0]⟩
noncomputable def s1013 (x0 x1 : Λ) (x2 : Int) (x3 : Λ) : ASt := ⟨[(5, .ro .u64 x0), (6, .ro .u64 x1), (7, .own 0), (8, .int .i64 x2)], [.ints 24 .u64 x3]⟩
noncomputable def s32403 (x0 x1 : Λ) (x2 x3 : Int) (x4 : Λ) : ASt := ⟨[(5, .ro .u64 x0), (6, .ro .u64 x1), (7, .own 0), (8, .int .i64 x2), (9, .int .u64 x3)], [.ints 24 .u64 x4]⟩
noncomputable def s259221 (x0 x1 : Λ) (x2 x3 x4 : Int) (x5 : Λ) : ASt := ⟨[(5, .ro .u64 x0), (6, .ro .u64 x1), (7, .own 0), (8, .int .i64 x2), (9, .int .u64 x3), (10, .int .i64 x4)], [.ints 24 .u64 x5]⟩
noncomputable def A (c132 c133 : T3) (n : Nat) (J : Jt (Λ)) (q : Nat) (ms : List Nat) : ASt→Ω (Λ) := acont (cfg c132 c133) J cuts n q code 1 ms (aend (cfg c132 c133) Tryz.f109.results.toList [true] sg.out)
theorem e0 {c132 c133 n J l0 l1} : afun (cfg c132 c133) J cuts n code Tryz.f109.results.toList [true] [.ro .u64 l0, .ro .u64 l1] sg.out = b0 c132 c133 (fun y0 y1 y2 y3 => J 1013 (A c132 c133 n J 1013 [n]) (s1013 y0 y1 y2 y3)) l0 l1 := by kernel_rfl
theorem e127 {c132 c133 n J x0} : A c132 c133 n J 127 [] (s127 x0) = b127 c132 c133 x0 := by kernel_rfl
theorem e1013 {c132 c133 n J m x0 x1 x2 x3} : A c132 c133 n J 1013 [m + 1] (s1013 x0 x1 x2 x3) = b1013 c132 c133 (fun y0 => J 127 (A c132 c133 n J 127 []) (s127 y0)) (fun y0 y1 y2 y3 y4 y5 => J 259221 (A c132 c133 n J 259221 [m, n]) (s259221 y0 y1 y2 y3 y4 y5)) x0 x1 x2 x3 := by kernel_rfl
theorem e32403 {c132 c133 n J m1013 x0 x1 x2 x3 x4} : A c132 c133 n J 32403 [m1013] (s32403 x0 x1 x2 x3 x4) = b32403 c132 c133 (fun y0 y1 y2 y3 => J 1013 (A c132 c133 n J 1013 [m1013]) (s1013 y0 y1 y2 y3)) x0 x1 x2 x3 x4 := by kernel_rfl
theorem e259221 {c132 c133 n J m1013 m x0 x1 x2 x3 x4 x5} : A c132 c133 n J 259221 [m1013, m + 1] (s259221 x0 x1 x2 x3 x4 x5) = b259221 c132 c133 (fun y0 y1 y2 y3 y4 => J 32403 (A c132 c133 n J 32403 [m1013]) (s32403 y0 y1 y2 y3 y4)) (fun y0 y1 y2 y3 y4 y5 => J 259221 (A c132 c133 n J 259221 [m1013, m]) (s259221 y0 y1 y2 y3 y4 y5)) x0 x1 x2 x3 x4 x5 := by kernel_rfl
noncomputable abbrev I (n : Nat) := A (abacusref01_halves.f n) (abacusref01_limbs.f n) n idJ
theorem q127 (n x0) : I n 127 [] (s127 x0) = l127 n x0 := e127
theorem q32403 (n m1013 x0 x1 x2 x3 x4) : I n 32403 [m1013] (s32403 x0 x1 x2 x3 x4) = l32403 n (fun y0 y1 y2 y3 => I n 1013 [m1013] (s1013 y0 y1 y2 y3)) x0 x1 x2 x3 x4 := e32403
theorem q259221 (n m1013 m) : ∀ x0 x1 x2 x3 x4 x5, I n 259221 [m1013, m] (s259221 x0 x1 x2 x3 x4 x5) = l259221 n (fun y0 y1 y2 y3 => I n 1013 [m1013] (s1013 y0 y1 y2 y3)) m x0 x1 x2 x3 x4 x5 := by
  induction m with
  | zero => intros; rfl
  | succ m ih =>
    intros
    exact e259221.trans (Eq.trans (cf6 (congr (congrArg (b259221 _ _) (fu5 (q32403 n m1013))) (fu6 (ih))) _ _ _ _ _ _) rfl)
theorem q1013 (n m) : ∀ x0 x1 x2 x3, I n 1013 [m] (s1013 x0 x1 x2 x3) = l1013 n m x0 x1 x2 x3 := by
  induction m with
  | zero => intros; rfl
  | succ m ih =>
    intros
    exact e1013.trans (Eq.trans (cf4 (congr (congrArg (b1013 _ _) (fu1 (q127 n))) ((fu6 (q259221 n m n)).trans (by rw [show (fun y0 y1 y2 y3 => I n 1013 [m] (s1013 y0 y1 y2 y3)) = _ from (fu4 (ih))]))) _ _ _ _) rfl)
theorem ok {n  l0 l1 r} (h : f n l0 l1 = some r) : CallD Tryz.prog HW 109 [.ro .u64 l0, .ro .u64 l1] (sg.enc r) :=
  fun_some hwS Tryz.func109 (by kernel_rfl) (body := code) (by kernel_rfl) tys_ok (c := cfg (abacusref01_halves.f n) (abacusref01_limbs.f n)) (orCall_ok (abacusref01_halves.call_ok (n := n)) (orCall_ok (abacusref01_limbs.call_ok (n := n)) noCall_ok)) noW_ok (by kernel_rfl) (by kernel_rfl) (Nat.le_of_ble_eq_true (by kernel_rfl)) (Eq.trans ((e0 (n := n)).trans (Eq.trans (cf2 (congrArg (b0 _ _) (fu4 (q1013 n n))) _ _) rfl)) h)
noncomputable def call {α : Type} (g : T18) (ds : List D) (K : List D→Ω α) : Ω α := match ds with
  | [.ro .u64 l0, .ro .u64 l1] => (g l0 l1).bind fun r => K (sg.enc r)
  | _ => none
theorem call_ok {α : Type} {n : Nat} : COK Tryz.prog HW 109 (call (α := α) (f n)) := fun _ _ _ h => by
  unfold call at h; split at h
  · exact cok h fun _ => ok
  · cases h
end abacusref01_Times
end Go.Proofs.YtobocamcoaeliaaGreatDoor.F
