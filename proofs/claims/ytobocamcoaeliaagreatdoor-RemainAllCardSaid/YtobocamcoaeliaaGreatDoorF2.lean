/- What the functions compute, and that calls of them answer so (printed by gen.py). Conditions: HW, a table as it was laid. -/
import Derived.Test.YtobocamcoaeliaaGreatDoorF1
namespace Go.Proofs.YtobocamcoaeliaaGreatDoor.F
open Go.RowKit Go.Proofs.YtobocamcoaeliaaGreatDoorA
set_option linter.unusedVariables false
set_option maxRecDepth 100000
/-! ### abacusref06_Times: function 96 -/
namespace abacusref06_Times
noncomputable def b0 (c109 : T18) (k245 : T95) (a0 a1 : Int) : Ω (Λ) := (if a0 = 1 then some [1] else k245 a0 a1 0 [1])
noncomputable def b245 (c109 : T18) (k245 : T95) (x0 x1 x2 : Int) (x3 : Λ) : Ω (Λ) := (if x2 < x1 then ((c109 x3 [x0]).bind fun t1 => k245 x0 x1 (wrap64 (x2 + 1)) t1) else some x3)
noncomputable def l245 (n : Nat) : Nat→Int→Int→Int→Λ→Ω (Λ)
  | 0, _, _, _, _ => none
  | m + 1, x0, x1, x2, x3 => b245 (abacusref01_Times.f n) (l245 n m) x0 x1 x2 x3
noncomputable def f (n : Nat) (a0 a1 : Int) : Ω (Λ) := b0 (abacusref01_Times.f n) (l245 n n) a0 a1
noncomputable def sg : Sig (Λ) := s1 (sRow .u64)
noncomputable def code : Code := (Tryz.f96.body).getD .skip
noncomputable def cfg (c109 : T18) : Cfg (Λ) := { T := tys, call := orCall 109 (abacusref01_Times.call c109) (noCall) }
noncomputable def cuts : List (Nat × List (Nat × Want)) := [(245, [(0, .keep), (1, .keep), (5, .keep), (6, .keep)])]
noncomputable def s245 (x0 x1 x2 : Int) (x3 : Λ) : ASt := ⟨[(0, .int .u64 x0), (1, .int .i64 x1), (5, .own 0), (6, .int .i64 x2)], [.ints 24 .u64 x3]⟩
noncomputable def A (c109 : T18) (n : Nat) (J : Jt (Λ)) (q : Nat) (ms : List Nat) : ASt→Ω (Λ) := acont (cfg c109) J cuts n q code 1 ms (aend (cfg c109) Tryz.f96.results.toList [false] sg.out)
theorem e0 {c109 n J a0 a1} : afun (cfg c109) J cuts n code Tryz.f96.results.toList [false] [.int .u64 a0, .int .i64 a1] sg.out = b0 c109 (fun y0 y1 y2 y3 => J 245 (A c109 n J 245 [n]) (s245 y0 y1 y2 y3)) a0 a1 := by kernel_rfl
theorem e245 {c109 n J m x0 x1 x2 x3} : A c109 n J 245 [m + 1] (s245 x0 x1 x2 x3) = b245 c109 (fun y0 y1 y2 y3 => J 245 (A c109 n J 245 [m]) (s245 y0 y1 y2 y3)) x0 x1 x2 x3 := by kernel_rfl
noncomputable abbrev I (n : Nat) := A (abacusref01_Times.f n) n idJ
theorem q245 (n m) : ∀ x0 x1 x2 x3, I n 245 [m] (s245 x0 x1 x2 x3) = l245 n m x0 x1 x2 x3 := by
  induction m with
  | zero => intros; rfl
  | succ m ih =>
    intros
    exact e245.trans (Eq.trans (cf4 (congrArg (b245 _) (fu4 (ih))) _ _ _ _) rfl)
theorem ok {n  a0 a1 r} (h : f n a0 a1 = some r) : CallD Tryz.prog HW 96 [.int .u64 a0, .int .i64 a1] (sg.enc r) :=
  fun_some hwS Tryz.func96 (by kernel_rfl) (body := code) (by kernel_rfl) tys_ok (c := cfg (abacusref01_Times.f n)) (orCall_ok (abacusref01_Times.call_ok (n := n)) noCall_ok) noW_ok (by kernel_rfl) (by kernel_rfl) (Nat.le_of_ble_eq_true (by kernel_rfl)) (Eq.trans ((e0 (n := n)).trans (Eq.trans (cf2 (congrArg (b0 _) (fu4 (q245 n n))) _ _) rfl)) h)
noncomputable def call {α : Type} (g : T35) (ds : List D) (K : List D→Ω α) : Ω α := match ds with
  | [.int .u64 a0, .int .i64 a1] => (g a0 a1).bind fun r => K (sg.enc r)
  | _ => none
theorem call_ok {α : Type} {n : Nat} : COK Tryz.prog HW 96 (call (α := α) (f n)) := fun _ _ _ h => by
  unfold call at h; split at h
  · exact cok h fun _ => ok
  · cases h
end abacusref06_Times
/-! ### abacusref04_against: function 147 -/
namespace abacusref04_against
noncomputable def b0 (c79 : T14) (c85 : T10) (c109 : T18) (k31 : Bool→Λ→Λ→Int→Int→Int→Ω (Int)) (a0 : Int) (a1 : Bool) (l2 l3 : Λ) (a4 : Int) : Ω (Int) := (if a0 ≥ 4503599627370496 then k31 a1 l2 l3 a4 (IntKind.u64.wrap ((Int.tmod a0 4503599627370496) + 4503599627370496)) (wrap64 ((wrap64 (IntKind.u64.wrap (Int.tdiv a0 4503599627370496))) - 1075)) else k31 a1 l2 l3 a4 a0 (-1074))
noncomputable def b31 (c79 : T14) (c85 : T10) (c109 : T18) (k255 : Λ→Λ→Int→Int→Int→Ω (Int)) (x0 : Bool) (x1 x2 : Λ) (x3 x4 x5 : Int) : Ω (Int) := (if x0 = true then k255 x1 x2 x3 (IntKind.u64.wrap ((IntKind.u64.wrap (2 * x4)) + 1)) (wrap64 (x5 - 1)) else k255 x1 x2 x3 (IntKind.u64.wrap (2 * x4)) (wrap64 (x5 - 1)))
noncomputable def b255 (c79 : T14) (c85 : T10) (c109 : T18) (x0 x1 : Λ) (x2 x3 x4 : Int) : Ω (Int) := ((c109 x1 [x3]).bind fun t1 => (if x4 ≥ x2 then ((c79 t1 (wrap64 (x4 - x2))).bind fun t2 => ((c85 t2 x0).bind fun t3 => some t3)) else ((c79 x0 (wrap64 (x2 - x4))).bind fun t4 => ((c85 t1 t4).bind fun t5 => some t5))))
noncomputable def l255 (n : Nat) (x0 x1 : Λ) (x2 x3 x4 : Int) : Ω (Int) := b255 (abacusref01_Lift.f n) (abacusref01_Cmp.f n) (abacusref01_Times.f n) x0 x1 x2 x3 x4
noncomputable def l31 (n : Nat) (x0 : Bool) (x1 x2 : Λ) (x3 x4 x5 : Int) : Ω (Int) := b31 (abacusref01_Lift.f n) (abacusref01_Cmp.f n) (abacusref01_Times.f n) (l255 n) x0 x1 x2 x3 x4 x5
noncomputable def f (n : Nat) (a0 : Int) (a1 : Bool) (l2 l3 : Λ) (a4 : Int) : Ω (Int) := b0 (abacusref01_Lift.f n) (abacusref01_Cmp.f n) (abacusref01_Times.f n) (l31 n) a0 a1 l2 l3 a4
noncomputable def sg : Sig (Int) := s1 (sInt .i64)
noncomputable def code : Code := (Tryz.f147.body).getD .skip
noncomputable def cfg (c79 : T14) (c85 : T10) (c109 : T18) : Cfg (Int) := { T := tys, call := orCall 79 (abacusref01_Lift.call c79) (orCall 85 (abacusref01_Cmp.call c85) (orCall 109 (abacusref01_Times.call c109) (noCall))) }
noncomputable def cuts : List (Nat × List (Nat × Want)) := [(31, [(1, .keep), (2, .keep), (3, .keep), (4, .keep), (11, .keep), (12, .keep)]), (255, [(2, .keep), (3, .keep), (4, .keep), (11, .keep), (12, .keep)])]
noncomputable def s31 (x0 : Bool) (x1 x2 : Λ) (x3 x4 x5 : Int) : ASt := ⟨[(1, .bool x0), (2, .ro .u64 x1), (3, .ro .u64 x2), (4, .int .i64 x3), (11, .int .u64 x4), (12, .int .i64 x5)], []⟩
noncomputable def s255 (x0 x1 : Λ) (x2 x3 x4 : Int) : ASt := ⟨[(2, .ro .u64 x0), (3, .ro .u64 x1), (4, .int .i64 x2), (11, .int .u64 x3), (12, .int .i64 x4)], []⟩
noncomputable def A (c79 : T14) (c85 : T10) (c109 : T18) (n : Nat) (J : Jt (Int)) (q : Nat) (ms : List Nat) : ASt→Ω (Int) := acont (cfg c79 c85 c109) J cuts n q code 1 ms (aend (cfg c79 c85 c109) Tryz.f147.results.toList [false] sg.out)
theorem e0 {c79 c85 c109 n J a0 a1 l2 l3 a4} : afun (cfg c79 c85 c109) J cuts n code Tryz.f147.results.toList [false] [.int .u64 a0, .bool a1, .ro .u64 l2, .ro .u64 l3, .int .i64 a4] sg.out = b0 c79 c85 c109 (fun y0 y1 y2 y3 y4 y5 => J 31 (A c79 c85 c109 n J 31 []) (s31 y0 y1 y2 y3 y4 y5)) a0 a1 l2 l3 a4 := by kernel_rfl
theorem e31 {c79 c85 c109 n J x0 x1 x2 x3 x4 x5} : A c79 c85 c109 n J 31 [] (s31 x0 x1 x2 x3 x4 x5) = b31 c79 c85 c109 (fun y0 y1 y2 y3 y4 => J 255 (A c79 c85 c109 n J 255 []) (s255 y0 y1 y2 y3 y4)) x0 x1 x2 x3 x4 x5 := by kernel_rfl
theorem e255 {c79 c85 c109 n J x0 x1 x2 x3 x4} : A c79 c85 c109 n J 255 [] (s255 x0 x1 x2 x3 x4) = b255 c79 c85 c109 x0 x1 x2 x3 x4 := by kernel_rfl
noncomputable abbrev I (n : Nat) := A (abacusref01_Lift.f n) (abacusref01_Cmp.f n) (abacusref01_Times.f n) n idJ
theorem q255 (n x0 x1 x2 x3 x4) : I n 255 [] (s255 x0 x1 x2 x3 x4) = l255 n x0 x1 x2 x3 x4 := e255
theorem q31 (n x0 x1 x2 x3 x4 x5) : I n 31 [] (s31 x0 x1 x2 x3 x4 x5) = l31 n x0 x1 x2 x3 x4 x5 := e31.trans (Eq.trans (cf6 (congrArg (b31 _ _ _) (fu5 (q255 n))) _ _ _ _ _ _) rfl)
theorem ok {n  a0 a1 l2 l3 a4 r} (h : f n a0 a1 l2 l3 a4 = some r) : CallD Tryz.prog HW 147 [.int .u64 a0, .bool a1, .ro .u64 l2, .ro .u64 l3, .int .i64 a4] (sg.enc r) :=
  fun_some hwS Tryz.func147 (by kernel_rfl) (body := code) (by kernel_rfl) tys_ok (c := cfg (abacusref01_Lift.f n) (abacusref01_Cmp.f n) (abacusref01_Times.f n)) (orCall_ok (abacusref01_Lift.call_ok (n := n)) (orCall_ok (abacusref01_Cmp.call_ok (n := n)) (orCall_ok (abacusref01_Times.call_ok (n := n)) noCall_ok))) noW_ok (by kernel_rfl) (by kernel_rfl) (Nat.le_of_ble_eq_true (by kernel_rfl)) (Eq.trans ((e0 (n := n)).trans (Eq.trans (cf5 (congrArg (b0 _ _ _) (fu6 (q31 n))) _ _ _ _ _) rfl)) h)
noncomputable def call {α : Type} (g : T41) (ds : List D) (K : List D→Ω α) : Ω α := match ds with
  | [.int .u64 a0, .bool a1, .ro .u64 l2, .ro .u64 l3, .int .i64 a4] => (g a0 a1 l2 l3 a4).bind fun r => K (sg.enc r)
  | _ => none
theorem call_ok {α : Type} {n : Nat} : COK Tryz.prog HW 147 (call (α := α) (f n)) := fun _ _ _ h => by
  unfold call at h; split at h
  · exact cok h fun _ => ok
  · cases h
end abacusref04_against
/-! ### abacusref04_RoundRatio: function 97 -/
namespace abacusref04_RoundRatio
noncomputable def b0 (c92 : T5) (c94 : T24) (c134 : T1) (c147 : T41) (k2041 : T96) (a0 : Bool) (l1 l2 : Λ) (a3 : Int) : Ω (Int × Int) := ((c92 l1).bind fun t1 => (if t1 = true then some (0, 2) else ((c92 l2).bind fun t2 => (if t2 = true then some (0, 2) else ((c134 l2).bind fun t3 => (if t3 = 0 then some (0, 4) else ((c134 l1).bind fun t4 => (if t4 = 0 then ((c94 a0 0 0).bind fun t5 => some (t5, 0)) else (if a3 < (-1048576) then ((c94 a0 0 0).bind fun t6 => some (t6, 0)) else (if a3 > 1048576 then ((c94 a0 2047 0).bind fun t7 => some (t7, 0)) else k2041 a0 l1 l2 a3 0 9218868437227405312))))))))))
noncomputable def b511 (c92 : T5) (c94 : T24) (c134 : T1) (c147 : T41) (k1023 : Bool→Int→Ω (Int × Int)) (x0 : Bool) (x1 x2 : Λ) (x3 x4 : Int) : Ω (Int × Int) := (if x4 < 9218868437227405312 then ((c147 x4 true x1 x2 x3).bind fun t1 => (if t1 < 0 then k1023 x0 (IntKind.u64.wrap (x4 + 1)) else (if t1 = 0 then (if (Int.tmod x4 2) = 1 then k1023 x0 (IntKind.u64.wrap (x4 + 1)) else k1023 x0 x4) else k1023 x0 x4))) else k1023 x0 x4)
noncomputable def b1023 (c92 : T5) (c94 : T24) (c134 : T1) (c147 : T41) (x0 : Bool) (x1 : Int) : Ω (Int × Int) := (if x0 = true then some (IntKind.u64.wrap (x1 + 9223372036854775808), 0) else some (x1, 0))
noncomputable def b2041 (c92 : T5) (c94 : T24) (c134 : T1) (c147 : T41) (k511 : Bool→Λ→Λ→Int→Int→Ω (Int × Int)) (k2041 : T96) (x0 : Bool) (x1 x2 : Λ) (x3 x4 x5 : Int) : Ω (Int × Int) := (if x4 < x5 then ((c147 (IntKind.u64.wrap (x4 + (IntKind.u64.wrap (Int.tdiv (IntKind.u64.wrap ((IntKind.u64.wrap (x5 - x4)) + 1)) 2)))) false x1 x2 x3).bind fun t1 => (if t1 ≤ 0 then k2041 x0 x1 x2 x3 (IntKind.u64.wrap (x4 + (IntKind.u64.wrap (Int.tdiv (IntKind.u64.wrap ((IntKind.u64.wrap (x5 - x4)) + 1)) 2)))) x5 else k2041 x0 x1 x2 x3 x4 (IntKind.u64.wrap ((IntKind.u64.wrap (x4 + (IntKind.u64.wrap (Int.tdiv (IntKind.u64.wrap ((IntKind.u64.wrap (x5 - x4)) + 1)) 2)))) - 1)))) else k511 x0 x1 x2 x3 x4)
noncomputable def l1023 (n : Nat) (x0 : Bool) (x1 : Int) : Ω (Int × Int) := b1023 (abacusref01_Big.f n) abacusref04_put.f (abacusref01_Size.f n) (abacusref04_against.f n) x0 x1
noncomputable def l511 (n : Nat) (x0 : Bool) (x1 x2 : Λ) (x3 x4 : Int) : Ω (Int × Int) := b511 (abacusref01_Big.f n) abacusref04_put.f (abacusref01_Size.f n) (abacusref04_against.f n) (l1023 n) x0 x1 x2 x3 x4
noncomputable def l2041 (n : Nat) : Nat→Bool→Λ→Λ→Int→Int→Int→Ω (Int × Int)
  | 0, _, _, _, _, _, _ => none
  | m + 1, x0, x1, x2, x3, x4, x5 => b2041 (abacusref01_Big.f n) abacusref04_put.f (abacusref01_Size.f n) (abacusref04_against.f n) (l511 n) (l2041 n m) x0 x1 x2 x3 x4 x5
noncomputable def f (n : Nat) (a0 : Bool) (l1 l2 : Λ) (a3 : Int) : Ω (Int × Int) := b0 (abacusref01_Big.f n) abacusref04_put.f (abacusref01_Size.f n) (abacusref04_against.f n) (l2041 n n) a0 l1 l2 a3
noncomputable def sg : Sig (Int × Int) := s2 (sInt .u64) (s1 (sInt .i64))
noncomputable def code : Code := (Tryz.f97.body).getD .skip
noncomputable def cfg (c92 : T5) (c94 : T24) (c134 : T1) (c147 : T41) : Cfg (Int × Int) := { T := tys, call := orCall 92 (abacusref01_Big.call c92) (orCall 94 (abacusref04_put.call c94) (orCall 134 (abacusref01_Size.call c134) (orCall 147 (abacusref04_against.call c147) (noCall)))) }
noncomputable def cuts : List (Nat × List (Nat × Want)) := [(511, [(0, .keep), (1, .keep), (2, .keep), (3, .keep), (10, .keep)]), (1023, [(0, .keep), (10, .keep)]), (2041, [(0, .keep), (1, .keep), (2, .keep), (3, .keep), (10, .keep), (11, .keep)])]
noncomputable def s511 (x0 : Bool) (x1 x2 : Λ) (x3 x4 : Int) : ASt := ⟨[(0, .bool x0), (1, .ro .u64 x1), (2, .ro .u64 x2), (3, .int .i64 x3), (10, .int .u64 x4)], []⟩
noncomputable def s1023 (x0 : Bool) (x1 : Int) : ASt := ⟨[(0, .bool x0), (10, .int .u64 x1)], []⟩
noncomputable def s2041 (x0 : Bool) (x1 x2 : Λ) (x3 x4 x5 : Int) : ASt := ⟨[(0, .bool x0), (1, .ro .u64 x1), (2, .ro .u64 x2), (3, .int .i64 x3), (10, .int .u64 x4), (11, .int .u64 x5)], []⟩
noncomputable def A (c92 : T5) (c94 : T24) (c134 : T1) (c147 : T41) (n : Nat) (J : Jt (Int × Int)) (q : Nat) (ms : List Nat) : ASt→Ω (Int × Int) := acont (cfg c92 c94 c134 c147) J cuts n q code 1 ms (aend (cfg c92 c94 c134 c147) Tryz.f97.results.toList [false, false] sg.out)
theorem e0 {c92 c94 c134 c147 n J a0 l1 l2 a3} : afun (cfg c92 c94 c134 c147) J cuts n code Tryz.f97.results.toList [false, false] [.bool a0, .ro .u64 l1, .ro .u64 l2, .int .i64 a3] sg.out = b0 c92 c94 c134 c147 (fun y0 y1 y2 y3 y4 y5 => J 2041 (A c92 c94 c134 c147 n J 2041 [n]) (s2041 y0 y1 y2 y3 y4 y5)) a0 l1 l2 a3 := by kernel_rfl
theorem e511 {c92 c94 c134 c147 n J x0 x1 x2 x3 x4} : A c92 c94 c134 c147 n J 511 [] (s511 x0 x1 x2 x3 x4) = b511 c92 c94 c134 c147 (fun y0 y1 => J 1023 (A c92 c94 c134 c147 n J 1023 []) (s1023 y0 y1)) x0 x1 x2 x3 x4 := by kernel_rfl
theorem e1023 {c92 c94 c134 c147 n J x0 x1} : A c92 c94 c134 c147 n J 1023 [] (s1023 x0 x1) = b1023 c92 c94 c134 c147 x0 x1 := by kernel_rfl
theorem e2041 {c92 c94 c134 c147 n J m x0 x1 x2 x3 x4 x5} : A c92 c94 c134 c147 n J 2041 [m + 1] (s2041 x0 x1 x2 x3 x4 x5) = b2041 c92 c94 c134 c147 (fun y0 y1 y2 y3 y4 => J 511 (A c92 c94 c134 c147 n J 511 []) (s511 y0 y1 y2 y3 y4)) (fun y0 y1 y2 y3 y4 y5 => J 2041 (A c92 c94 c134 c147 n J 2041 [m]) (s2041 y0 y1 y2 y3 y4 y5)) x0 x1 x2 x3 x4 x5 := by kernel_rfl
noncomputable abbrev I (n : Nat) := A (abacusref01_Big.f n) abacusref04_put.f (abacusref01_Size.f n) (abacusref04_against.f n) n idJ
theorem q1023 (n x0 x1) : I n 1023 [] (s1023 x0 x1) = l1023 n x0 x1 := e1023
theorem q511 (n x0 x1 x2 x3 x4) : I n 511 [] (s511 x0 x1 x2 x3 x4) = l511 n x0 x1 x2 x3 x4 := e511.trans (Eq.trans (cf5 (congrArg (b511 _ _ _ _) (fu2 (q1023 n))) _ _ _ _ _) rfl)
theorem q2041 (n m) : ∀ x0 x1 x2 x3 x4 x5, I n 2041 [m] (s2041 x0 x1 x2 x3 x4 x5) = l2041 n m x0 x1 x2 x3 x4 x5 := by
  induction m with
  | zero => intros; rfl
  | succ m ih =>
    intros
    exact e2041.trans (Eq.trans (cf6 (congr (congrArg (b2041 _ _ _ _) (fu5 (q511 n))) (fu6 (ih))) _ _ _ _ _ _) rfl)
theorem ok {n  a0 l1 l2 a3 r} (h : f n a0 l1 l2 a3 = some r) : CallD Tryz.prog HW 97 [.bool a0, .ro .u64 l1, .ro .u64 l2, .int .i64 a3] (sg.enc r) :=
  fun_some hwS Tryz.func97 (by kernel_rfl) (body := code) (by kernel_rfl) tys_ok (c := cfg (abacusref01_Big.f n) abacusref04_put.f (abacusref01_Size.f n) (abacusref04_against.f n)) (orCall_ok (abacusref01_Big.call_ok (n := n)) (orCall_ok abacusref04_put.call_ok (orCall_ok (abacusref01_Size.call_ok (n := n)) (orCall_ok (abacusref04_against.call_ok (n := n)) noCall_ok)))) noW_ok (by kernel_rfl) (by kernel_rfl) (Nat.le_of_ble_eq_true (by kernel_rfl)) (Eq.trans ((e0 (n := n)).trans (Eq.trans (cf4 (congrArg (b0 _ _ _ _) (fu6 (q2041 n n))) _ _ _ _) rfl)) h)
noncomputable def call {α : Type} (g : T23) (ds : List D) (K : List D→Ω α) : Ω α := match ds with
  | [.bool a0, .ro .u64 l1, .ro .u64 l2, .int .i64 a3] => (g a0 l1 l2 a3).bind fun r => K (sg.enc r)
  | _ => none
theorem call_ok {α : Type} {n : Nat} : COK Tryz.prog HW 97 (call (α := α) (f n)) := fun _ _ _ h => by
  unfold call at h; split at h
  · exact cok h fun _ => ok
  · cases h
end abacusref04_RoundRatio
/-! ### abacusref06_Power: function 40 -/
namespace abacusref06_Power
noncomputable def b0 (c38 : T2) (c39 : T6) (c77 : T7) (c96 : T35) (c97 : T23) (k63 : T84) (a0 a1 : Int) : Ω (Int × Int) := (if a1 < (-1024) then some (0, 60) else (if a1 > 1024 then some (0, 60) else (if a1 = 0 then some (4607182418800017408, 0) else ((c38 a0).bind fun t1 => (if t1.1 = true then k63 a1 (decide (¬ (Int.tmod a1 2) = 0)) t1.1 t1.2.1 t1.2.2.1 t1.2.2.2 else k63 a1 false t1.1 t1.2.1 t1.2.2.1 t1.2.2.2)))))
noncomputable def b63 (c38 : T2) (c39 : T6) (c77 : T7) (c96 : T35) (c97 : T23) (k4089 : T69) (x0 : Int) (x1 x2 : Bool) (x3 x4 x5 : Int) : Ω (Int × Int) := (if x3 = 4 then some (9221120237041090560, 0) else (if x3 = 3 then (if x0 > 0 then ((c77 x1 9218868437227405312).bind fun t1 => some (t1, 0)) else ((c77 x1 0).bind fun t2 => some (t2, 0))) else (if x3 = 0 then (if x0 > 0 then ((c77 x1 0).bind fun t3 => some (t3, 0)) else ((c77 x1 9218868437227405312).bind fun t4 => some (t4, 0))) else k4089 x0 x1 x4 x5)))
noncomputable def b1023 (c38 : T2) (c39 : T6) (c77 : T7) (c96 : T35) (c97 : T23) (k4095 : T85) (x0 : Int) (x1 : Bool) (x2 x3 : Int) : Ω (Int × Int) := (if x0 < 0 then k4095 x0 x1 x2 x3 (wrap64 (-x0)) else k4095 x0 x1 x2 x3 x0)
noncomputable def b4089 (c38 : T2) (c39 : T6) (c77 : T7) (c96 : T35) (c97 : T23) (k1023 k4089 : T69) (x0 : Int) (x1 : Bool) (x2 x3 : Int) : Ω (Int × Int) := (if (Int.tmod x2 2) = 0 then k4089 x0 x1 (IntKind.u64.wrap (Int.tdiv x2 2)) (wrap64 (x3 + 1)) else k1023 x0 x1 x2 x3)
noncomputable def b4095 (c38 : T2) (c39 : T6) (c77 : T7) (c96 : T35) (c97 : T23) (x0 : Int) (x1 : Bool) (x2 x3 x4 : Int) : Ω (Int × Int) := ((c96 x2 x4).bind fun t1 => (if x0 > 0 then ((c39 x1 t1 (wrap64 (x3 * x4)) false).bind fun t2 => some (t2.1, t2.2)) else ((c97 x1 [1] t1 (wrap64 ((wrap64 (-x3)) * x4))).bind fun t3 => some (t3.1, t3.2))))
noncomputable def l4095 (n : Nat) (x0 : Int) (x1 : Bool) (x2 x3 x4 : Int) : Ω (Int × Int) := b4095 abacusref04_Decode.f (abacusref04_Round.f n) abacusref06_signed.f (abacusref06_Times.f n) (abacusref04_RoundRatio.f n) x0 x1 x2 x3 x4
noncomputable def l1023 (n : Nat) (x0 : Int) (x1 : Bool) (x2 x3 : Int) : Ω (Int × Int) := b1023 abacusref04_Decode.f (abacusref04_Round.f n) abacusref06_signed.f (abacusref06_Times.f n) (abacusref04_RoundRatio.f n) (l4095 n) x0 x1 x2 x3
noncomputable def l4089 (n : Nat) : Nat→Int→Bool→Int→Int→Ω (Int × Int)
  | 0, _, _, _, _ => none
  | m + 1, x0, x1, x2, x3 => b4089 abacusref04_Decode.f (abacusref04_Round.f n) abacusref06_signed.f (abacusref06_Times.f n) (abacusref04_RoundRatio.f n) (l1023 n) (l4089 n m) x0 x1 x2 x3
noncomputable def l63 (n : Nat) (x0 : Int) (x1 x2 : Bool) (x3 x4 x5 : Int) : Ω (Int × Int) := b63 abacusref04_Decode.f (abacusref04_Round.f n) abacusref06_signed.f (abacusref06_Times.f n) (abacusref04_RoundRatio.f n) (l4089 n n) x0 x1 x2 x3 x4 x5
noncomputable def f (n : Nat) (a0 a1 : Int) : Ω (Int × Int) := b0 abacusref04_Decode.f (abacusref04_Round.f n) abacusref06_signed.f (abacusref06_Times.f n) (abacusref04_RoundRatio.f n) (l63 n) a0 a1
noncomputable def sg : Sig (Int × Int) := s2 (sInt .u64) (s1 (sInt .i64))
noncomputable def code : Code := (Tryz.f40.body).getD .skip
noncomputable def cfg (c38 : T2) (c39 : T6) (c77 : T7) (c96 : T35) (c97 : T23) : Cfg (Int × Int) := { T := tys, call := orCall 38 (abacusref04_Decode.call c38) (orCall 39 (abacusref04_Round.call c39) (orCall 77 (abacusref06_signed.call c77) (orCall 96 (abacusref06_Times.call c96) (orCall 97 (abacusref04_RoundRatio.call c97) (noCall))))) }
noncomputable def cuts : List (Nat × List (Nat × Want)) := [(63, [(1, .keep), (6, .keep), (7, .keep)]), (1023, [(1, .keep), (7, .keep), (8, .keep), (9, .keep)]), (4089, [(1, .keep), (7, .keep), (8, .keep), (9, .keep)]), (4095, [(1, .keep), (7, .keep), (8, .keep), (9, .keep), (10, .keep)])]
noncomputable def s63 (x0 : Int) (x1 x2 : Bool) (x3 x4 x5 : Int) : ASt := ⟨[(1, .int .i64 x0), (6, .ptr 0 0), (7, .bool x1)], [.cells 54 [.bool x2, .int .i64 x3, .int .u64 x4, .int .i64 x5]]⟩
noncomputable def s1023 (x0 : Int) (x1 : Bool) (x2 x3 : Int) : ASt := ⟨[(1, .int .i64 x0), (7, .bool x1), (8, .int .u64 x2), (9, .int .i64 x3)], []⟩
noncomputable def s4089 (x0 : Int) (x1 : Bool) (x2 x3 : Int) : ASt := ⟨[(1, .int .i64 x0), (7, .bool x1), (8, .int .u64 x2), (9, .int .i64 x3)], []⟩
noncomputable def s4095 (x0 : Int) (x1 : Bool) (x2 x3 x4 : Int) : ASt := ⟨[(1, .int .i64 x0), (7, .bool x1), (8, .int .u64 x2), (9, .int .i64 x3), (10, .int .i64 x4)], []⟩
noncomputable def A (c38 : T2) (c39 : T6) (c77 : T7) (c96 : T35) (c97 : T23) (n : Nat) (J : Jt (Int × Int)) (q : Nat) (ms : List Nat) : ASt→Ω (Int × Int) := acont (cfg c38 c39 c77 c96 c97) J cuts n q code 1 ms (aend (cfg c38 c39 c77 c96 c97) Tryz.f40.results.toList [false, false] sg.out)
theorem e0 {c38 c39 c77 c96 c97 n J a0 a1} : afun (cfg c38 c39 c77 c96 c97) J cuts n code Tryz.f40.results.toList [false, false] [.int .u64 a0, .int .i64 a1] sg.out = b0 c38 c39 c77 c96 c97 (fun y0 y1 y2 y3 y4 y5 => J 63 (A c38 c39 c77 c96 c97 n J 63 []) (s63 y0 y1 y2 y3 y4 y5)) a0 a1 := by kernel_rfl
theorem e63 {c38 c39 c77 c96 c97 n J x0 x1 x2 x3 x4 x5} : A c38 c39 c77 c96 c97 n J 63 [] (s63 x0 x1 x2 x3 x4 x5) = b63 c38 c39 c77 c96 c97 (fun y0 y1 y2 y3 => J 4089 (A c38 c39 c77 c96 c97 n J 4089 [n]) (s4089 y0 y1 y2 y3)) x0 x1 x2 x3 x4 x5 := by kernel_rfl
theorem e1023 {c38 c39 c77 c96 c97 n J x0 x1 x2 x3} : A c38 c39 c77 c96 c97 n J 1023 [] (s1023 x0 x1 x2 x3) = b1023 c38 c39 c77 c96 c97 (fun y0 y1 y2 y3 y4 => J 4095 (A c38 c39 c77 c96 c97 n J 4095 []) (s4095 y0 y1 y2 y3 y4)) x0 x1 x2 x3 := by kernel_rfl
theorem e4089 {c38 c39 c77 c96 c97 n J m x0 x1 x2 x3} : A c38 c39 c77 c96 c97 n J 4089 [m + 1] (s4089 x0 x1 x2 x3) = b4089 c38 c39 c77 c96 c97 (fun y0 y1 y2 y3 => J 1023 (A c38 c39 c77 c96 c97 n J 1023 []) (s1023 y0 y1 y2 y3)) (fun y0 y1 y2 y3 => J 4089 (A c38 c39 c77 c96 c97 n J 4089 [m]) (s4089 y0 y1 y2 y3)) x0 x1 x2 x3 := by kernel_rfl
theorem e4095 {c38 c39 c77 c96 c97 n J x0 x1 x2 x3 x4} : A c38 c39 c77 c96 c97 n J 4095 [] (s4095 x0 x1 x2 x3 x4) = b4095 c38 c39 c77 c96 c97 x0 x1 x2 x3 x4 := by kernel_rfl
noncomputable abbrev I (n : Nat) := A abacusref04_Decode.f (abacusref04_Round.f n) abacusref06_signed.f (abacusref06_Times.f n) (abacusref04_RoundRatio.f n) n idJ
theorem q4095 (n x0 x1 x2 x3 x4) : I n 4095 [] (s4095 x0 x1 x2 x3 x4) = l4095 n x0 x1 x2 x3 x4 := e4095
theorem q1023 (n x0 x1 x2 x3) : I n 1023 [] (s1023 x0 x1 x2 x3) = l1023 n x0 x1 x2 x3 := e1023.trans (Eq.trans (cf4 (congrArg (b1023 _ _ _ _ _) (fu5 (q4095 n))) _ _ _ _) rfl)
theorem q4089 (n m) : ∀ x0 x1 x2 x3, I n 4089 [m] (s4089 x0 x1 x2 x3) = l4089 n m x0 x1 x2 x3 := by
  induction m with
  | zero => intros; rfl
  | succ m ih =>
    intros
    exact e4089.trans (Eq.trans (cf4 (congr (congrArg (b4089 _ _ _ _ _) (fu4 (q1023 n))) (fu4 (ih))) _ _ _ _) rfl)
theorem q63 (n x0 x1 x2 x3 x4 x5) : I n 63 [] (s63 x0 x1 x2 x3 x4 x5) = l63 n x0 x1 x2 x3 x4 x5 := e63.trans (Eq.trans (cf6 (congrArg (b63 _ _ _ _ _) (fu4 (q4089 n n))) _ _ _ _ _ _) rfl)
theorem ok {n  a0 a1 r} (h : f n a0 a1 = some r) : CallD Tryz.prog HW 40 [.int .u64 a0, .int .i64 a1] (sg.enc r) :=
  fun_some hwS Tryz.func40 (by kernel_rfl) (body := code) (by kernel_rfl) tys_ok (c := cfg abacusref04_Decode.f (abacusref04_Round.f n) abacusref06_signed.f (abacusref06_Times.f n) (abacusref04_RoundRatio.f n)) (orCall_ok abacusref04_Decode.call_ok (orCall_ok (abacusref04_Round.call_ok (n := n)) (orCall_ok abacusref06_signed.call_ok (orCall_ok (abacusref06_Times.call_ok (n := n)) (orCall_ok (abacusref04_RoundRatio.call_ok (n := n)) noCall_ok))))) noW_ok (by kernel_rfl) (by kernel_rfl) (Nat.le_of_ble_eq_true (by kernel_rfl)) (Eq.trans ((e0 (n := n)).trans (Eq.trans (cf2 (congrArg (b0 _ _ _ _ _) (fu6 (q63 n))) _ _) rfl)) h)
noncomputable def call {α : Type} (g : T8) (ds : List D) (K : List D→Ω α) : Ω α := match ds with
  | [.int .u64 a0, .int .i64 a1] => (g a0 a1).bind fun r => K (sg.enc r)
  | _ => none
theorem call_ok {α : Type} {n : Nat} : COK Tryz.prog HW 40 (call (α := α) (f n)) := fun _ _ _ h => by
  unfold call at h; split at h
  · exact cok h fun _ => ok
  · cases h
end abacusref06_Power
/-! ### ieee_Integral: function 98 -/
namespace ieee_Integral
noncomputable def b0 (c36 : T2) (c69 : T0) (a0 : Int) : Ω (Bool) := ((c36 a0).bind fun t1 => (if t1.2.1 ≥ 3 then some false else (if t1.2.2.1 = 0 then some true else (if t1.2.2.2 ≥ 0 then some true else ((c69 t1.2.2.1).bind fun t2 => some (decide (t2 ≥ (wrap64 (-t1.2.2.2)))))))))
noncomputable def f (a0 : Int) : Ω (Bool) := b0 ieee_Decode.f bits_TrailingZeros64.f a0
noncomputable def sg : Sig (Bool) := s1 (sBool)
noncomputable def code : Code := (Tryz.f98.body).getD .skip
noncomputable def cfg (c36 : T2) (c69 : T0) : Cfg (Bool) := { T := tys, call := orCall 36 (ieee_Decode.call c36) (orCall 69 (bits_TrailingZeros64.call c69) (noCall)) }
noncomputable def cuts : List (Nat × List (Nat × Want)) := []
theorem e0 {c36 c69 n J a0} : afun (cfg c36 c69) J cuts n code Tryz.f98.results.toList [false] [.int .u64 a0] sg.out = b0 c36 c69 a0 := by kernel_rfl
theorem ok {a0 r} (h : f a0 = some r) : CallD Tryz.prog HW 98 [.int .u64 a0] (sg.enc r) :=
  fun_some hwS Tryz.func98 (by kernel_rfl) (body := code) (by kernel_rfl) tys_ok (c := cfg ieee_Decode.f bits_TrailingZeros64.f) (orCall_ok ieee_Decode.call_ok (orCall_ok bits_TrailingZeros64.call_ok noCall_ok)) noW_ok (by kernel_rfl) (by kernel_rfl) (Nat.le_of_ble_eq_true (by kernel_rfl)) (Eq.trans ((e0 (n := 0))) h)
noncomputable def call {α : Type} (g : T70) (ds : List D) (K : List D→Ω α) : Ω α := match ds with
  | [.int .u64 a0] => (g a0).bind fun r => K (sg.enc r)
  | _ => none
theorem call_ok {α : Type} : COK Tryz.prog HW 98 (call (α := α) f) := fun _ _ _ h => by
  unfold call at h; split at h
  · exact cok h fun _ => ok
  · cases h
end ieee_Integral
/-! ### ieee_Whole: function 148 -/
namespace ieee_Whole
noncomputable def b0 (c36 : T2) (c88 : T16) (c116 : T25) (c144 : T20) (k127 : Λ→Int→Bool→Int→Int→Int→Ω (Bool × Λ × Int)) (a0 : Int) : Ω (Bool × Λ × Int) := ((c36 a0).bind fun t1 => (if t1.2.1 ≥ 3 then some (false, ([] : Λ), 5) else ((c116 t1.2.2.1).bind fun t2 => (if t1.2.2.2 ≥ 0 then ((c88 t2 t1.2.2.2).bind fun t3 => k127 t3.1 t3.2 t1.1 t1.2.1 t1.2.2.1 t1.2.2.2) else ((c144 t2 (wrap64 (-t1.2.2.2))).bind fun t4 => k127 t4.1 t4.2.2 t1.1 t1.2.1 t1.2.2.1 t1.2.2.2)))))
noncomputable def b127 (c36 : T2) (c88 : T16) (c116 : T25) (c144 : T20) (x0 : Λ) (x1 : Int) (x2 : Bool) (x3 x4 x5 : Int) : Ω (Bool × Λ × Int) := some (x2, x0, x1)
noncomputable def l127 (n : Nat) (x0 : Λ) (x1 : Int) (x2 : Bool) (x3 x4 x5 : Int) : Ω (Bool × Λ × Int) := b127 ieee_Decode.f (nat_Shl.f n) nat_FromUint.f (nat_Shr.f n) x0 x1 x2 x3 x4 x5
noncomputable def f (n : Nat) (a0 : Int) : Ω (Bool × Λ × Int) := b0 ieee_Decode.f (nat_Shl.f n) nat_FromUint.f (nat_Shr.f n) (l127 n) a0
noncomputable def sg : Sig (Bool × Λ × Int) := s2 (sBool) (s2 (sRow .u64) (s1 (sInt .i64)))
noncomputable def code : Code := (Tryz.f148.body).getD .skip
noncomputable def cfg (c36 : T2) (c88 : T16) (c116 : T25) (c144 : T20) : Cfg (Bool × Λ × Int) := { T := tys, call := orCall 36 (ieee_Decode.call c36) (orCall 88 (nat_Shl.call c88) (orCall 116 (nat_FromUint.call c116) (orCall 144 (nat_Shr.call c144) (noCall)))) }
noncomputable def cuts : List (Nat × List (Nat × Want)) := [(127, [(5, .keep), (6, .keep), (7, .keep)])]
noncomputable def s127 (x0 : Λ) (x1 : Int) (x2 : Bool) (x3 x4 x5 : Int) : ASt := ⟨[(5, .ptr 0 0), (6, .ro .u64 x0), (7, .int .i64 x1)], [.cells 54 [.bool x2, .int .i64 x3, .int .u64 x4, .int .i64 x5]]⟩
noncomputable def A (c36 : T2) (c88 : T16) (c116 : T25) (c144 : T20) (n : Nat) (J : Jt (Bool × Λ × Int)) (q : Nat) (ms : List Nat) : ASt→Ω (Bool × Λ × Int) := acont (cfg c36 c88 c116 c144) J cuts n q code 1 ms (aend (cfg c36 c88 c116 c144) Tryz.f148.results.toList [false, false, false] sg.out)
theorem e0 {c36 c88 c116 c144 n J a0} : afun (cfg c36 c88 c116 c144) J cuts n code Tryz.f148.results.toList [false, false, false] [.int .u64 a0] sg.out = b0 c36 c88 c116 c144 (fun y0 y1 y2 y3 y4 y5 => J 127 (A c36 c88 c116 c144 n J 127 []) (s127 y0 y1 y2 y3 y4 y5)) a0 := by kernel_rfl
theorem e127 {c36 c88 c116 c144 n J x0 x1 x2 x3 x4 x5} : A c36 c88 c116 c144 n J 127 [] (s127 x0 x1 x2 x3 x4 x5) = b127 c36 c88 c116 c144 x0 x1 x2 x3 x4 x5 := by kernel_rfl
noncomputable abbrev I (n : Nat) := A ieee_Decode.f (nat_Shl.f n) nat_FromUint.f (nat_Shr.f n) n idJ
theorem q127 (n x0 x1 x2 x3 x4 x5) : I n 127 [] (s127 x0 x1 x2 x3 x4 x5) = l127 n x0 x1 x2 x3 x4 x5 := e127
theorem ok {n  a0 r} (h : f n a0 = some r) : CallD Tryz.prog HW 148 [.int .u64 a0] (sg.enc r) :=
  fun_some hwS Tryz.func148 (by kernel_rfl) (body := code) (by kernel_rfl) tys_ok (c := cfg ieee_Decode.f (nat_Shl.f n) nat_FromUint.f (nat_Shr.f n)) (orCall_ok ieee_Decode.call_ok (orCall_ok (nat_Shl.call_ok (n := n)) (orCall_ok nat_FromUint.call_ok (orCall_ok (nat_Shr.call_ok (n := n)) noCall_ok)))) noW_ok (by kernel_rfl) (by kernel_rfl) (Nat.le_of_ble_eq_true (by kernel_rfl)) (Eq.trans ((e0 (n := n)).trans (Eq.trans (cf1 (congrArg (b0 _ _ _ _) (fu6 (q127 n))) _) rfl)) h)
noncomputable def call {α : Type} (g : T53) (ds : List D) (K : List D→Ω α) : Ω α := match ds with
  | [.int .u64 a0] => (g a0).bind fun r => K (sg.enc r)
  | _ => none
theorem call_ok {α : Type} {n : Nat} : COK Tryz.prog HW 148 (call (α := α) (f n)) := fun _ _ _ h => by
  unfold call at h; split at h
  · exact cok h fun _ => ok
  · cases h
end ieee_Whole
/-! ### ieee_ToInt: function 99 -/
namespace ieee_ToInt
noncomputable def b0 (c145 : T22) (c148 : T53) (k249 : Bool→Int→Bool→Bool→Ω (Int × Int)) (a0 : Int) : Ω (Int × Int) := ((c148 a0).bind fun t1 => (if ¬ t1.2.2 = 0 then some (0, t1.2.2) else ((c145 t1.2.1).bind fun t2 => (if t2.2 = true then (if t2.1 < 9223372036854775808 then k249 t1.1 t2.1 t2.2 (!t1.1) else k249 t1.1 t2.1 t2.2 false) else k249 t1.1 t2.1 t2.2 false))))
noncomputable def b249 (c145 : T22) (c148 : T53) (x0 : Bool) (x1 : Int) (x2 x3 : Bool) : Ω (Int × Int) := (if x3 = true then some (wrap64 x1, 0) else (if x2 = true then (if x1 ≤ 9223372036854775808 then (if x0 = true then some (wrap64 (-(wrap64 x1)), 0) else some (0, 41)) else some (0, 41)) else some (0, 41)))
noncomputable def l249 (n : Nat) (x0 : Bool) (x1 : Int) (x2 x3 : Bool) : Ω (Int × Int) := b249 (nat_ToUint.f n) (ieee_Whole.f n) x0 x1 x2 x3
noncomputable def f (n : Nat) (a0 : Int) : Ω (Int × Int) := b0 (nat_ToUint.f n) (ieee_Whole.f n) (l249 n) a0
noncomputable def sg : Sig (Int × Int) := s2 (sInt .i64) (s1 (sInt .i64))
noncomputable def code : Code := (Tryz.f99.body).getD .skip
noncomputable def cfg (c145 : T22) (c148 : T53) : Cfg (Int × Int) := { T := tys, call := orCall 145 (nat_ToUint.call c145) (orCall 148 (ieee_Whole.call c148) (noCall)) }
noncomputable def cuts : List (Nat × List (Nat × Want)) := [(249, [(4, .keep), (7, .keep), (8, .keep), (23, .keep)])]
noncomputable def s249 (x0 : Bool) (x1 : Int) (x2 x3 : Bool) : ASt := ⟨[(4, .bool x0), (7, .int .u64 x1), (8, .bool x2), (23, .bool x3)], []⟩
noncomputable def A (c145 : T22) (c148 : T53) (n : Nat) (J : Jt (Int × Int)) (q : Nat) (ms : List Nat) : ASt→Ω (Int × Int) := acont (cfg c145 c148) J cuts n q code 1 ms (aend (cfg c145 c148) Tryz.f99.results.toList [false, false] sg.out)
theorem e0 {c145 c148 n J a0} : afun (cfg c145 c148) J cuts n code Tryz.f99.results.toList [false, false] [.int .u64 a0] sg.out = b0 c145 c148 (fun y0 y1 y2 y3 => J 249 (A c145 c148 n J 249 []) (s249 y0 y1 y2 y3)) a0 := by kernel_rfl
theorem e249 {c145 c148 n J x0 x1 x2 x3} : A c145 c148 n J 249 [] (s249 x0 x1 x2 x3) = b249 c145 c148 x0 x1 x2 x3 := by kernel_rfl
noncomputable abbrev I (n : Nat) := A (nat_ToUint.f n) (ieee_Whole.f n) n idJ
theorem q249 (n x0 x1 x2 x3) : I n 249 [] (s249 x0 x1 x2 x3) = l249 n x0 x1 x2 x3 := e249
theorem ok {n  a0 r} (h : f n a0 = some r) : CallD Tryz.prog HW 99 [.int .u64 a0] (sg.enc r) :=
  fun_some hwS Tryz.func99 (by kernel_rfl) (body := code) (by kernel_rfl) tys_ok (c := cfg (nat_ToUint.f n) (ieee_Whole.f n)) (orCall_ok (nat_ToUint.call_ok (n := n)) (orCall_ok (ieee_Whole.call_ok (n := n)) noCall_ok)) noW_ok (by kernel_rfl) (by kernel_rfl) (Nat.le_of_ble_eq_true (by kernel_rfl)) (Eq.trans ((e0 (n := n)).trans (Eq.trans (cf1 (congrArg (b0 _ _) (fu4 (q249 n))) _) rfl)) h)
noncomputable def call {α : Type} (g : T28) (ds : List D) (K : List D→Ω α) : Ω α := match ds with
  | [.int .u64 a0] => (g a0).bind fun r => K (sg.enc r)
  | _ => none
theorem call_ok {α : Type} {n : Nat} : COK Tryz.prog HW 99 (call (α := α) (f n)) := fun _ _ _ h => by
  unfold call at h; split at h
  · exact cok h fun _ => ok
  · cases h
end ieee_ToInt
/-! ### remain_Pow: function 41 -/
namespace remain_Pow
noncomputable def b0 (c23 : T8) (c98 : T70) (c99 : T28) (a0 a1 : Int) : Ω (Int × Int) := ((c98 a1).bind fun t1 => (if (!t1) = true then some (0, 60) else ((c99 a1).bind fun t2 => (if ¬ t2.2 = 0 then some (0, 60) else (if t2.1 < (-1024) then some (0, 60) else (if t2.1 > 1024 then some (0, 60) else ((c23 a0 t2.1).bind fun t3 => some (t3.1, t3.2))))))))
noncomputable def f (n : Nat) (a0 a1 : Int) : Ω (Int × Int) := b0 (remain_Power.f n) ieee_Integral.f (ieee_ToInt.f n) a0 a1
noncomputable def sg : Sig (Int × Int) := s2 (sInt .u64) (s1 (sInt .i64))
noncomputable def code : Code := (Tryz.f41.body).getD .skip
noncomputable def cfg (c23 : T8) (c98 : T70) (c99 : T28) : Cfg (Int × Int) := { T := tys, call := orCall 23 (remain_Power.call c23) (orCall 98 (ieee_Integral.call c98) (orCall 99 (ieee_ToInt.call c99) (noCall))) }
noncomputable def cuts : List (Nat × List (Nat × Want)) := []
theorem e0 {c23 c98 c99 n J a0 a1} : afun (cfg c23 c98 c99) J cuts n code Tryz.f41.results.toList [false, false] [.int .u64 a0, .int .u64 a1] sg.out = b0 c23 c98 c99 a0 a1 := by kernel_rfl
theorem ok {n  a0 a1 r} (h : f n a0 a1 = some r) : CallD Tryz.prog HW 41 [.int .u64 a0, .int .u64 a1] (sg.enc r) :=
  fun_some hwS Tryz.func41 (by kernel_rfl) (body := code) (by kernel_rfl) tys_ok (c := cfg (remain_Power.f n) ieee_Integral.f (ieee_ToInt.f n)) (orCall_ok (remain_Power.call_ok (n := n)) (orCall_ok ieee_Integral.call_ok (orCall_ok (ieee_ToInt.call_ok (n := n)) noCall_ok))) noW_ok (by kernel_rfl) (by kernel_rfl) (Nat.le_of_ble_eq_true (by kernel_rfl)) (Eq.trans ((e0 (n := n))) h)
noncomputable def call {α : Type} (g : T8) (ds : List D) (K : List D→Ω α) : Ω α := match ds with
  | [.int .u64 a0, .int .u64 a1] => (g a0 a1).bind fun r => K (sg.enc r)
  | _ => none
theorem call_ok {α : Type} {n : Nat} : COK Tryz.prog HW 41 (call (α := α) (f n)) := fun _ _ _ h => by
  unfold call at h; split at h
  · exact cok h fun _ => ok
  · cases h
end remain_Pow
/-! ### abacusref06_Pow: function 42 -/
namespace abacusref06_Pow
noncomputable def b0 (c38 : T2) (c40 : T8) (c100 : T0) (k245 : T57) (a0 a1 : Int) : Ω (Int × Int) := ((c38 a1).bind fun t1 => (if t1.2.1 = 4 then some (0, 60) else (if t1.2.1 = 3 then some (0, 60) else k245 a0 a1 0 t1.1 t1.2.1 t1.2.2.1 t1.2.2.2)))
noncomputable def b245 (c38 : T2) (c40 : T8) (c100 : T0) (k245 : T57) (x0 x1 x2 : Int) (x3 : Bool) (x4 x5 x6 : Int) : Ω (Int × Int) := (if x2 ≤ 1024 then ((c100 (IntKind.u64.wrap x2)).bind fun t1 => (if (Int.tmod x1 9223372036854775808) = t1 then (if x3 = true then ((c40 x0 (wrap64 (-x2))).bind fun t2 => some (t2.1, t2.2)) else ((c40 x0 x2).bind fun t3 => some (t3.1, t3.2))) else k245 x0 x1 (wrap64 (x2 + 1)) x3 x4 x5 x6)) else some (0, 60))
noncomputable def l245 (n : Nat) : Nat→Int→Int→Int→Bool→Int→Int→Int→Ω (Int × Int)
  | 0, _, _, _, _, _, _, _ => none
  | m + 1, x0, x1, x2, x3, x4, x5, x6 => b245 abacusref04_Decode.f (abacusref06_Power.f n) (abacusref04_FromUint.f n) (l245 n m) x0 x1 x2 x3 x4 x5 x6
noncomputable def f (n : Nat) (a0 a1 : Int) : Ω (Int × Int) := b0 abacusref04_Decode.f (abacusref06_Power.f n) (abacusref04_FromUint.f n) (l245 n n) a0 a1
noncomputable def sg : Sig (Int × Int) := s2 (sInt .u64) (s1 (sInt .i64))
noncomputable def code : Code := (Tryz.f42.body).getD .skip
noncomputable def cfg (c38 : T2) (c40 : T8) (c100 : T0) : Cfg (Int × Int) := { T := tys, call := orCall 38 (abacusref04_Decode.call c38) (orCall 40 (abacusref06_Power.call c40) (orCall 100 (abacusref04_FromUint.call c100) (noCall))) }
noncomputable def cuts : List (Nat × List (Nat × Want)) := [(245, [(0, .keep), (1, .keep), (6, .keep), (7, .keep)])]
noncomputable def s245 (x0 x1 x2 : Int) (x3 : Bool) (x4 x5 x6 : Int) : ASt := ⟨[(0, .int .u64 x0), (1, .int .u64 x1), (6, .ptr 0 0), (7, .int .i64 x2)], [.cells 54 [.bool x3, .int .i64 x4, .int .u64 x5, .int .i64 x6]]⟩
noncomputable def A (c38 : T2) (c40 : T8) (c100 : T0) (n : Nat) (J : Jt (Int × Int)) (q : Nat) (ms : List Nat) : ASt→Ω (Int × Int) := acont (cfg c38 c40 c100) J cuts n q code 1 ms (aend (cfg c38 c40 c100) Tryz.f42.results.toList [false, false] sg.out)
theorem e0 {c38 c40 c100 n J a0 a1} : afun (cfg c38 c40 c100) J cuts n code Tryz.f42.results.toList [false, false] [.int .u64 a0, .int .u64 a1] sg.out = b0 c38 c40 c100 (fun y0 y1 y2 y3 y4 y5 y6 => J 245 (A c38 c40 c100 n J 245 [n]) (s245 y0 y1 y2 y3 y4 y5 y6)) a0 a1 := by kernel_rfl
theorem e245 {c38 c40 c100 n J m x0 x1 x2 x3 x4 x5 x6} : A c38 c40 c100 n J 245 [m + 1] (s245 x0 x1 x2 x3 x4 x5 x6) = b245 c38 c40 c100 (fun y0 y1 y2 y3 y4 y5 y6 => J 245 (A c38 c40 c100 n J 245 [m]) (s245 y0 y1 y2 y3 y4 y5 y6)) x0 x1 x2 x3 x4 x5 x6 := by kernel_rfl
noncomputable abbrev I (n : Nat) := A abacusref04_Decode.f (abacusref06_Power.f n) (abacusref04_FromUint.f n) n idJ
theorem q245 (n m) : ∀ x0 x1 x2 x3 x4 x5 x6, I n 245 [m] (s245 x0 x1 x2 x3 x4 x5 x6) = l245 n m x0 x1 x2 x3 x4 x5 x6 := by
  induction m with
  | zero => intros; rfl
  | succ m ih =>
    intros
    exact e245.trans (Eq.trans (cf7 (congrArg (b245 _ _ _) (fu7 (ih))) _ _ _ _ _ _ _) rfl)
theorem ok {n  a0 a1 r} (h : f n a0 a1 = some r) : CallD Tryz.prog HW 42 [.int .u64 a0, .int .u64 a1] (sg.enc r) :=
  fun_some hwS Tryz.func42 (by kernel_rfl) (body := code) (by kernel_rfl) tys_ok (c := cfg abacusref04_Decode.f (abacusref06_Power.f n) (abacusref04_FromUint.f n)) (orCall_ok abacusref04_Decode.call_ok (orCall_ok (abacusref06_Power.call_ok (n := n)) (orCall_ok (abacusref04_FromUint.call_ok (n := n)) noCall_ok))) noW_ok (by kernel_rfl) (by kernel_rfl) (Nat.le_of_ble_eq_true (by kernel_rfl)) (Eq.trans ((e0 (n := n)).trans (Eq.trans (cf2 (congrArg (b0 _ _ _) (fu7 (q245 n n))) _ _) rfl)) h)
noncomputable def call {α : Type} (g : T8) (ds : List D) (K : List D→Ω α) : Ω α := match ds with
  | [.int .u64 a0, .int .u64 a1] => (g a0 a1).bind fun r => K (sg.enc r)
  | _ => none
theorem call_ok {α : Type} {n : Nat} : COK Tryz.prog HW 42 (call (α := α) (f n)) := fun _ _ _ h => by
  unfold call at h; split at h
  · exact cok h fun _ => ok
  · cases h
end abacusref06_Pow
/-! ### abacuslaw06_powers: function 14 -/
namespace abacuslaw06_powers
noncomputable def b0 (c23 c40 c41 c42 : T8) (a0 a1 a2 a3 : Int) : Ω (Bool) := (if a0 = 9 then ((c23 a1 a3).bind fun t1 => ((c40 a1 a3).bind fun t2 => (if t1.1 = t2.1 then some (decide (t1.2 = t2.2)) else some false))) else ((c41 a1 a2).bind fun t3 => ((c42 a1 a2).bind fun t4 => (if t3.1 = t4.1 then some (decide (t3.2 = t4.2)) else some false))))
noncomputable def f (n : Nat) (a0 a1 a2 a3 : Int) : Ω (Bool) := b0 (remain_Power.f n) (abacusref06_Power.f n) (remain_Pow.f n) (abacusref06_Pow.f n) a0 a1 a2 a3
noncomputable def sg : Sig (Bool) := s1 (sBool)
noncomputable def code : Code := (Tryz.f14.body).getD .skip
noncomputable def cfg (c23 c40 c41 c42 : T8) : Cfg (Bool) := { T := tys, call := orCall 23 (remain_Power.call c23) (orCall 40 (abacusref06_Power.call c40) (orCall 41 (remain_Pow.call c41) (orCall 42 (abacusref06_Pow.call c42) (noCall)))) }
noncomputable def cuts : List (Nat × List (Nat × Want)) := []
theorem e0 {c23 c40 c41 c42 n J a0 a1 a2 a3} : afun (cfg c23 c40 c41 c42) J cuts n code Tryz.f14.results.toList [false] [.agg [.int .i64 a0, .int .u64 a1, .int .u64 a2, .int .i64 a3]] sg.out = b0 c23 c40 c41 c42 a0 a1 a2 a3 := by kernel_rfl
theorem ok {n  a0 a1 a2 a3 r} (h : f n a0 a1 a2 a3 = some r) : CallD Tryz.prog HW 14 [.agg [.int .i64 a0, .int .u64 a1, .int .u64 a2, .int .i64 a3]] (sg.enc r) :=
  fun_some hwS Tryz.func14 (by kernel_rfl) (body := code) (by kernel_rfl) tys_ok (c := cfg (remain_Power.f n) (abacusref06_Power.f n) (remain_Pow.f n) (abacusref06_Pow.f n)) (orCall_ok (remain_Power.call_ok (n := n)) (orCall_ok (abacusref06_Power.call_ok (n := n)) (orCall_ok (remain_Pow.call_ok (n := n)) (orCall_ok (abacusref06_Pow.call_ok (n := n)) noCall_ok)))) noW_ok (by kernel_rfl) (by kernel_rfl) (Nat.le_of_ble_eq_true (by kernel_rfl)) (Eq.trans ((e0 (n := n))) h)
noncomputable def call {α : Type} (g : T21) (ds : List D) (K : List D→Ω α) : Ω α := match ds with
  | [.agg [.int .i64 a0, .int .u64 a1, .int .u64 a2, .int .i64 a3]] => (g a0 a1 a2 a3).bind fun r => K (sg.enc r)
  | _ => none
theorem call_ok {α : Type} {n : Nat} : COK Tryz.prog HW 14 (call (α := α) (f n)) := fun _ _ _ h => by
  unfold call at h; split at h
  · exact cok h fun _ => ok
  · cases h
end abacuslaw06_powers
/-! ### abacuslaw06_upTo: function 6 -/
namespace abacuslaw06_upTo
noncomputable def b0 (c9 : T46) (c10 c11 : T21) (c12 c13 : T9) (c14 : T21) (k117 : T97) (n0 : Int) (r0_0 r0_1 r0_2 r0_3 : Λ) (a1 a2 : Int) : Ω (Bool) := ((c9).bind fun t1 => k117 n0 r0_0 r0_1 r0_2 r0_3 a1 a2 t1 0)
noncomputable def b117 (c9 : T46) (c10 c11 : T21) (c12 c13 : T9) (c14 : T21) (k117 : T97) (x0 : Int) (x1 x2 x3 x4 : Λ) (x5 x6 : Int) (x7 : Bool) (x8 : Int) : Ω (Bool) := (if x8 < x0 then (if x7 = true then (if 0 ≤ x8 then (if x8 < x0 then (if (rd x1 x8) < x5 then k117 x0 x1 x2 x3 x4 x5 x6 x7 (wrap64 (x8 + 1)) else (if (rd x1 x8) > x6 then k117 x0 x1 x2 x3 x4 x5 x6 x7 (wrap64 (x8 + 1)) else (if (rd x1 x8) ≥ 1 then (if (rd x1 x8) ≤ 5 then ((c10 (rd x1 x8) (rd x2 x8) (rd x3 x8) (rd x4 x8)).bind fun t1 => k117 x0 x1 x2 x3 x4 x5 x6 t1 (wrap64 (x8 + 1))) else (if (rd x1 x8) = 6 then ((c11 (rd x1 x8) (rd x2 x8) (rd x3 x8) (rd x4 x8)).bind fun t2 => k117 x0 x1 x2 x3 x4 x5 x6 t2 (wrap64 (x8 + 1))) else (if (rd x1 x8) = 7 then ((c11 (rd x1 x8) (rd x2 x8) (rd x3 x8) (rd x4 x8)).bind fun t3 => k117 x0 x1 x2 x3 x4 x5 x6 t3 (wrap64 (x8 + 1))) else (if (rd x1 x8) = 8 then ((c12 (rd x2 x8) (rd x4 x8)).bind fun t4 => ((c13 (rd x2 x8) (rd x4 x8)).bind fun t5 => k117 x0 x1 x2 x3 x4 x5 x6 (decide (t4 = t5)) (wrap64 (x8 + 1)))) else (if (rd x1 x8) = 9 then ((c14 (rd x1 x8) (rd x2 x8) (rd x3 x8) (rd x4 x8)).bind fun t6 => k117 x0 x1 x2 x3 x4 x5 x6 t6 (wrap64 (x8 + 1))) else (if (rd x1 x8) = 10 then ((c14 (rd x1 x8) (rd x2 x8) (rd x3 x8) (rd x4 x8)).bind fun t7 => k117 x0 x1 x2 x3 x4 x5 x6 t7 (wrap64 (x8 + 1))) else k117 x0 x1 x2 x3 x4 x5 x6 x7 (wrap64 (x8 + 1)))))))) else (if (rd x1 x8) = 6 then ((c11 (rd x1 x8) (rd x2 x8) (rd x3 x8) (rd x4 x8)).bind fun t8 => k117 x0 x1 x2 x3 x4 x5 x6 t8 (wrap64 (x8 + 1))) else (if (rd x1 x8) = 7 then ((c11 (rd x1 x8) (rd x2 x8) (rd x3 x8) (rd x4 x8)).bind fun t9 => k117 x0 x1 x2 x3 x4 x5 x6 t9 (wrap64 (x8 + 1))) else (if (rd x1 x8) = 8 then ((c12 (rd x2 x8) (rd x4 x8)).bind fun t10 => ((c13 (rd x2 x8) (rd x4 x8)).bind fun t11 => k117 x0 x1 x2 x3 x4 x5 x6 (decide (t10 = t11)) (wrap64 (x8 + 1)))) else (if (rd x1 x8) = 9 then ((c14 (rd x1 x8) (rd x2 x8) (rd x3 x8) (rd x4 x8)).bind fun t12 => k117 x0 x1 x2 x3 x4 x5 x6 t12 (wrap64 (x8 + 1))) else (if (rd x1 x8) = 10 then ((c14 (rd x1 x8) (rd x2 x8) (rd x3 x8) (rd x4 x8)).bind fun t13 => k117 x0 x1 x2 x3 x4 x5 x6 t13 (wrap64 (x8 + 1))) else k117 x0 x1 x2 x3 x4 x5 x6 x7 (wrap64 (x8 + 1)))))))))) else none) else none) else some x7) else some x7)
noncomputable def l117 (n : Nat) : Nat→Int→Λ→Λ→Λ→Λ→Int→Int→Bool→Int→Ω (Bool)
  | 0, _, _, _, _, _, _, _, _, _ => none
  | m + 1, x0, x1, x2, x3, x4, x5, x6, x7, x8 => b117 (abacuslaw06_awake.f n) (abacuslaw06_wholes.f n) (abacuslaw06_mods.f n) (remain_Scale.f n) (abacusref06_Scale.f n) (abacuslaw06_powers.f n) (l117 n m) x0 x1 x2 x3 x4 x5 x6 x7 x8
noncomputable def f (n : Nat) (n0 : Int) (r0_0 r0_1 r0_2 r0_3 : Λ) (a1 a2 : Int) : Ω (Bool) := b0 (abacuslaw06_awake.f n) (abacuslaw06_wholes.f n) (abacuslaw06_mods.f n) (remain_Scale.f n) (abacusref06_Scale.f n) (abacuslaw06_powers.f n) (l117 n n) n0 r0_0 r0_1 r0_2 r0_3 a1 a2
noncomputable def sg : Sig (Bool) := s1 (sBool)
noncomputable def code : Code := (Tryz.f6.body).getD .skip
noncomputable def cfg (c9 : T46) (c10 c11 : T21) (c12 c13 : T9) (c14 : T21) : Cfg (Bool) := { T := tys, call := orCall 9 (abacuslaw06_awake.call c9) (orCall 10 (abacuslaw06_wholes.call c10) (orCall 11 (abacuslaw06_mods.call c11) (orCall 12 (remain_Scale.call c12) (orCall 13 (abacusref06_Scale.call c13) (orCall 14 (abacuslaw06_powers.call c14) (noCall)))))) }
noncomputable def cuts : List (Nat × List (Nat × Want)) := [(117, [(0, .keep), (1, .keep), (2, .keep), (7, .keep), (8, .keep)])]
noncomputable def s117 (x0 : Int) (x1 x2 x3 x4 : Λ) (x5 x6 : Int) (x7 : Bool) (x8 : Int) : ASt := ⟨[(0, .recs x0 [.int .i64 x1, .int .u64 x2, .int .u64 x3, .int .i64 x4]), (1, .int .i64 x5), (2, .int .i64 x6), (7, .bool x7), (8, .int .i64 x8)], []⟩
noncomputable def A (c9 : T46) (c10 c11 : T21) (c12 c13 : T9) (c14 : T21) (n : Nat) (J : Jt (Bool)) (q : Nat) (ms : List Nat) : ASt→Ω (Bool) := acont (cfg c9 c10 c11 c12 c13 c14) J cuts n q code 1 ms (aend (cfg c9 c10 c11 c12 c13 c14) Tryz.f6.results.toList [false] sg.out)
theorem e0 {c9 c10 c11 c12 c13 c14 n J n0 r0_0 r0_1 r0_2 r0_3 a1 a2} : afun (cfg c9 c10 c11 c12 c13 c14) J cuts n code Tryz.f6.results.toList [false] [.recs n0 [.int .i64 r0_0, .int .u64 r0_1, .int .u64 r0_2, .int .i64 r0_3], .int .i64 a1, .int .i64 a2] sg.out = b0 c9 c10 c11 c12 c13 c14 (fun y0 y1 y2 y3 y4 y5 y6 y7 y8 => J 117 (A c9 c10 c11 c12 c13 c14 n J 117 [n]) (s117 y0 y1 y2 y3 y4 y5 y6 y7 y8)) n0 r0_0 r0_1 r0_2 r0_3 a1 a2 := by kernel_rfl
theorem e117 {c9 c10 c11 c12 c13 c14 n J m x0 x1 x2 x3 x4 x5 x6 x7 x8} : A c9 c10 c11 c12 c13 c14 n J 117 [m + 1] (s117 x0 x1 x2 x3 x4 x5 x6 x7 x8) = b117 c9 c10 c11 c12 c13 c14 (fun y0 y1 y2 y3 y4 y5 y6 y7 y8 => J 117 (A c9 c10 c11 c12 c13 c14 n J 117 [m]) (s117 y0 y1 y2 y3 y4 y5 y6 y7 y8)) x0 x1 x2 x3 x4 x5 x6 x7 x8 := by kernel_rfl
noncomputable abbrev I (n : Nat) := A (abacuslaw06_awake.f n) (abacuslaw06_wholes.f n) (abacuslaw06_mods.f n) (remain_Scale.f n) (abacusref06_Scale.f n) (abacuslaw06_powers.f n) n idJ
theorem q117 (n m) : ∀ x0 x1 x2 x3 x4 x5 x6 x7 x8, I n 117 [m] (s117 x0 x1 x2 x3 x4 x5 x6 x7 x8) = l117 n m x0 x1 x2 x3 x4 x5 x6 x7 x8 := by
  induction m with
  | zero => intros; rfl
  | succ m ih =>
    intros
    exact e117.trans (Eq.trans (cf9 (congrArg (b117 _ _ _ _ _ _) (fu9 (ih))) _ _ _ _ _ _ _ _ _) rfl)
theorem ok {n  n0 r0_0 r0_1 r0_2 r0_3 a1 a2 r} (h : f n n0 r0_0 r0_1 r0_2 r0_3 a1 a2 = some r) : CallD Tryz.prog HW 6 [.recs n0 [.int .i64 r0_0, .int .u64 r0_1, .int .u64 r0_2, .int .i64 r0_3], .int .i64 a1, .int .i64 a2] (sg.enc r) :=
  fun_some hwS Tryz.func6 (by kernel_rfl) (body := code) (by kernel_rfl) tys_ok (c := cfg (abacuslaw06_awake.f n) (abacuslaw06_wholes.f n) (abacuslaw06_mods.f n) (remain_Scale.f n) (abacusref06_Scale.f n) (abacuslaw06_powers.f n)) (orCall_ok (abacuslaw06_awake.call_ok (n := n)) (orCall_ok (abacuslaw06_wholes.call_ok (n := n)) (orCall_ok (abacuslaw06_mods.call_ok (n := n)) (orCall_ok (remain_Scale.call_ok (n := n)) (orCall_ok (abacusref06_Scale.call_ok (n := n)) (orCall_ok (abacuslaw06_powers.call_ok (n := n)) noCall_ok)))))) noW_ok (by kernel_rfl) (by kernel_rfl) (Nat.le_of_ble_eq_true (by kernel_rfl)) (Eq.trans ((e0 (n := n)).trans (Eq.trans (cf7 (congrArg (b0 _ _ _ _ _ _) (fu9 (q117 n n))) _ _ _ _ _ _ _) rfl)) h)
noncomputable def call {α : Type} (g : T71) (ds : List D) (K : List D→Ω α) : Ω α := match ds with
  | [.recs n0 [.int .i64 r0_0, .int .u64 r0_1, .int .u64 r0_2, .int .i64 r0_3], .int .i64 a1, .int .i64 a2] => (g n0 r0_0 r0_1 r0_2 r0_3 a1 a2).bind fun r => K (sg.enc r)
  | _ => none
theorem call_ok {α : Type} {n : Nat} : COK Tryz.prog HW 6 (call (α := α) (f n)) := fun _ _ _ h => by
  unfold call at h; split at h
  · exact cok h fun _ => ok
  · cases h
end abacuslaw06_upTo
/-! ### abacuslaw06_RemainAll: function 4 -/
namespace abacuslaw06_RemainAll
noncomputable def b0 (c6 : T71) (n0 : Int) (r0_0 r0_1 r0_2 r0_3 : Λ) : Ω (Bool) := ((c6 n0 r0_0 r0_1 r0_2 r0_3 1 10).bind fun t1 => some t1)
noncomputable def f (n : Nat) (n0 : Int) (r0_0 r0_1 r0_2 r0_3 : Λ) : Ω (Bool) := b0 (abacuslaw06_upTo.f n) n0 r0_0 r0_1 r0_2 r0_3
noncomputable def sg : Sig (Bool) := s1 (sBool)
noncomputable def code : Code := (Tryz.f4.body).getD .skip
noncomputable def cfg (c6 : T71) : Cfg (Bool) := { T := tys, call := orCall 6 (abacuslaw06_upTo.call c6) (noCall) }
noncomputable def cuts : List (Nat × List (Nat × Want)) := []
theorem e0 {c6 n J n0 r0_0 r0_1 r0_2 r0_3} : afun (cfg c6) J cuts n code Tryz.f4.results.toList [false] [.recs n0 [.int .i64 r0_0, .int .u64 r0_1, .int .u64 r0_2, .int .i64 r0_3]] sg.out = b0 c6 n0 r0_0 r0_1 r0_2 r0_3 := by kernel_rfl
theorem ok {n  n0 r0_0 r0_1 r0_2 r0_3 r} (h : f n n0 r0_0 r0_1 r0_2 r0_3 = some r) : CallD Tryz.prog HW 4 [.recs n0 [.int .i64 r0_0, .int .u64 r0_1, .int .u64 r0_2, .int .i64 r0_3]] (sg.enc r) :=
  fun_some hwS Tryz.func4 (by kernel_rfl) (body := code) (by kernel_rfl) tys_ok (c := cfg (abacuslaw06_upTo.f n)) (orCall_ok (abacuslaw06_upTo.call_ok (n := n)) noCall_ok) noW_ok (by kernel_rfl) (by kernel_rfl) (Nat.le_of_ble_eq_true (by kernel_rfl)) (Eq.trans ((e0 (n := n))) h)
theorem walk {n : Nat} {n0 : Int} {r0_0 : Λ} {r0_1 : Λ} {r0_2 : Λ} {r0_3 : Λ} {r : Bool} (h : f n n0 r0_0 r0_1 r0_2 r0_3 = some r) {w : World} (hw : HW w) {vals : List Value} (hv : VRs (fun _ => none) (fun g => g < w.heap.size) w (ofDs ([.recs n0 [.int .i64 r0_0, .int .u64 r0_1, .int .u64 r0_2, .int .i64 r0_3]] : List D) 0) vals) : Calls Tryz.prog 4 vals.toArray w fun e w' => e = .returned (packV (sg.enc r)) ∧ Below w.heap.size w w' :=
  walk_any (H := HW) rfl (fun_calls hwS Tryz.func4 (by kernel_rfl) (body := code) (by kernel_rfl) tys_ok (c := cfg (abacuslaw06_upTo.f n)) (orCall_ok (abacuslaw06_upTo.call_ok (n := n)) noCall_ok) noW_ok (by kernel_rfl) (by kernel_rfl) (Nat.le_of_ble_eq_true (by kernel_rfl)) (Eq.trans ((e0 (n := n))) h)) hw hv
noncomputable def call {α : Type} (g : Int→Λ→Λ→Λ→Λ→Ω (Bool)) (ds : List D) (K : List D→Ω α) : Ω α := match ds with
  | [.recs n0 [.int .i64 r0_0, .int .u64 r0_1, .int .u64 r0_2, .int .i64 r0_3]] => (g n0 r0_0 r0_1 r0_2 r0_3).bind fun r => K (sg.enc r)
  | _ => none
theorem call_ok {α : Type} {n : Nat} : COK Tryz.prog HW 4 (call (α := α) (f n)) := fun _ _ _ h => by
  unfold call at h; split at h
  · exact cok h fun _ => ok
  · cases h
end abacuslaw06_RemainAll
end Go.Proofs.YtobocamcoaeliaaGreatDoor.F
