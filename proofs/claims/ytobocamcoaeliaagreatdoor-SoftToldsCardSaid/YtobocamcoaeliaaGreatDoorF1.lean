/- What the functions compute, and that calls of them answer so (printed by gen.py). Conditions: HW, a table as it was laid. -/
import Derived.Test.YtobocamcoaeliaaGreatDoorF0
namespace Go.Proofs.YtobocamcoaeliaaGreatDoor.F
open Go.RowKit Go.Proofs.YtobocamcoaeliaaGreatDoorA
set_option linter.unusedVariables false
set_option maxRecDepth 100000
/-! ### abacusref05_flags: function 19 -/
namespace abacusref05_flags
noncomputable def b0 (c18 c50 : T1) (c51 : T11) (c52 : T45) (c53 : T9) (c54 : T44) (c55 : T1) (c56 : T23) (k31 : T80) (k245 : T43) (a0 a1 a2 a3 a4 : Int) : Ω (Int) := (if a0 = 5 then ((c18 a1).bind fun t1 => (if (!t1) = true then ((c50 a1).bind fun t2 => (if t2 = true then some 1 else k245 a0 a1 a4)) else k245 a0 a1 a4)) else ((c54 a0 a1 a2 a3).bind fun t3 => ((c55 a4).bind fun t4 => (if (!t4) = true then ((c52 a4 t3.1 t3.2.1 t3.2.2.1 t3.2.2.2).bind fun t5 => k31 a0 a4 t5 t3.1 t3.2.1 t3.2.2.1 t3.2.2.2) else k31 a0 a4 false t3.1 t3.2.1 t3.2.2.1 t3.2.2.2))))
noncomputable def b31 (c18 c50 : T1) (c51 : T11) (c52 : T45) (c53 : T9) (c54 : T44) (c55 : T1) (c56 : T23) (k127 : Int→Bool→Int→Bool→Λ→Λ→Int→Ω (Int)) (x0 x1 : Int) (x2 x3 : Bool) (x4 x5 : Λ) (x6 : Int) : Ω (Int) := ((c55 x1).bind fun t1 => (if t1 = true then k127 x0 x2 4 x3 x4 x5 x6 else k127 x0 x2 0 x3 x4 x5 x6))
noncomputable def b127 (c18 c50 : T1) (c51 : T11) (c52 : T45) (c53 : T9) (c54 : T44) (c55 : T1) (c56 : T23) (x0 : Int) (x1 : Bool) (x2 : Int) (x3 : Bool) (x4 x5 : Λ) (x6 : Int) : Ω (Int) := (if (!x1) = true then (if ¬ x0 = 5 then ((c56 x3 x4 x5 x6).bind fun t1 => (if t1 = true then some (wrap64 ((wrap64 (x2 + 16)) + 8)) else some (wrap64 (x2 + 16)))) else some (wrap64 (x2 + 16))) else some x2)
noncomputable def b245 (c18 c50 : T1) (c51 : T11) (c52 : T45) (c53 : T9) (c54 : T44) (c55 : T1) (c56 : T23) (k31 : T80) (x0 x1 x2 : Int) : Ω (Int) := ((c51 x2).bind fun t1 => ((c53 t1.1 t1.2.1 t1.2.2.1 t1.2.2.2 t1.1 t1.2.1 t1.2.2.1 t1.2.2.2).bind fun t2 => ((c52 x1 t2.1 t2.2.1 t2.2.2.1 t2.2.2.2).bind fun t3 => (if t3 = true then k31 x0 x2 true false ([] : Λ) ([] : Λ) 0 else ((c18 x1).bind fun t4 => k31 x0 x2 t4 false ([] : Λ) ([] : Λ) 0)))))
noncomputable def l127 (n : Nat) (x0 : Int) (x1 : Bool) (x2 : Int) (x3 : Bool) (x4 x5 : Λ) (x6 : Int) : Ω (Int) := b127 abacusref05_zero.f abacusref05_negative.f abacusref05_of.f (abacusref05_is.f n) (abacusref05_product.f n) (abacusref05_result.f n) abacusref05_infinite.f (abacusref05_tiny.f n) x0 x1 x2 x3 x4 x5 x6
noncomputable def l31 (n : Nat) (x0 x1 : Int) (x2 x3 : Bool) (x4 x5 : Λ) (x6 : Int) : Ω (Int) := b31 abacusref05_zero.f abacusref05_negative.f abacusref05_of.f (abacusref05_is.f n) (abacusref05_product.f n) (abacusref05_result.f n) abacusref05_infinite.f (abacusref05_tiny.f n) (l127 n) x0 x1 x2 x3 x4 x5 x6
noncomputable def l245 (n : Nat) (x0 x1 x2 : Int) : Ω (Int) := b245 abacusref05_zero.f abacusref05_negative.f abacusref05_of.f (abacusref05_is.f n) (abacusref05_product.f n) (abacusref05_result.f n) abacusref05_infinite.f (abacusref05_tiny.f n) (l31 n) x0 x1 x2
noncomputable def f (n : Nat) (a0 a1 a2 a3 a4 : Int) : Ω (Int) := b0 abacusref05_zero.f abacusref05_negative.f abacusref05_of.f (abacusref05_is.f n) (abacusref05_product.f n) (abacusref05_result.f n) abacusref05_infinite.f (abacusref05_tiny.f n) (l31 n) (l245 n) a0 a1 a2 a3 a4
noncomputable def sg : Sig (Int) := s1 (sInt .i64)
noncomputable def code : Code := (Tryz.f19.body).getD .skip
noncomputable def cfg (c18 c50 : T1) (c51 : T11) (c52 : T45) (c53 : T9) (c54 : T44) (c55 : T1) (c56 : T23) : Cfg (Int) := { T := tys, call := orCall 18 (abacusref05_zero.call c18) (orCall 50 (abacusref05_negative.call c50) (orCall 51 (abacusref05_of.call c51) (orCall 52 (abacusref05_is.call c52) (orCall 53 (abacusref05_product.call c53) (orCall 54 (abacusref05_result.call c54) (orCall 55 (abacusref05_infinite.call c55) (orCall 56 (abacusref05_tiny.call c56) (noCall)))))))) }
noncomputable def cuts : List (Nat × List (Nat × Want)) := [(31, [(0, .keep), (4, .keep), (11, .box), (12, .keep)]), (127, [(0, .keep), (11, .keep), (12, .keep), (14, .keep)]), (245, [(0, .keep), (1, .keep), (4, .keep), (11, .keep)])]
noncomputable def s31 (x0 x1 : Int) (x2 x3 : Bool) (x4 x5 : Λ) (x6 : Int) : ASt := ⟨[(0, .int .i64 x0), (4, .int .u64 x1), (11, .ptr 0 0), (12, .bool x2)], [.cells 60 [.bool x3, .ro .u64 x4, .ro .u64 x5, .int .i64 x6]]⟩
noncomputable def s127 (x0 : Int) (x1 : Bool) (x2 : Int) (x3 : Bool) (x4 x5 : Λ) (x6 : Int) : ASt := ⟨[(0, .int .i64 x0), (11, .ptr 0 0), (12, .bool x1), (14, .int .i64 x2)], [.cells 60 [.bool x3, .ro .u64 x4, .ro .u64 x5, .int .i64 x6]]⟩
noncomputable def s245 (x0 x1 x2 : Int) : ASt := ⟨[(0, .int .i64 x0), (1, .int .u64 x1), (4, .int .u64 x2), (11, .ptr 0 0)], [.cells 60 [.bool false, .nil, .nil, .int .i64 0]]⟩
noncomputable def A (c18 c50 : T1) (c51 : T11) (c52 : T45) (c53 : T9) (c54 : T44) (c55 : T1) (c56 : T23) (n : Nat) (J : Jt (Int)) (q : Nat) (ms : List Nat) : ASt→Ω (Int) := acont (cfg c18 c50 c51 c52 c53 c54 c55 c56) J cuts n q code 1 ms (aend (cfg c18 c50 c51 c52 c53 c54 c55 c56) Tryz.f19.results.toList [false] sg.out)
theorem e0 {c18 c50 c51 c52 c53 c54 c55 c56 n J a0 a1 a2 a3 a4} : afun (cfg c18 c50 c51 c52 c53 c54 c55 c56) J cuts n code Tryz.f19.results.toList [false] [.int .i64 a0, .int .u64 a1, .int .u64 a2, .int .u64 a3, .int .u64 a4] sg.out = b0 c18 c50 c51 c52 c53 c54 c55 c56 (fun y0 y1 y2 y3 y4 y5 y6 => J 31 (A c18 c50 c51 c52 c53 c54 c55 c56 n J 31 []) (s31 y0 y1 y2 y3 y4 y5 y6)) (fun y0 y1 y2 => J 245 (A c18 c50 c51 c52 c53 c54 c55 c56 n J 245 []) (s245 y0 y1 y2)) a0 a1 a2 a3 a4 := by kernel_rfl
theorem e31 {c18 c50 c51 c52 c53 c54 c55 c56 n J x0 x1 x2 x3 x4 x5 x6} : A c18 c50 c51 c52 c53 c54 c55 c56 n J 31 [] (s31 x0 x1 x2 x3 x4 x5 x6) = b31 c18 c50 c51 c52 c53 c54 c55 c56 (fun y0 y1 y2 y3 y4 y5 y6 => J 127 (A c18 c50 c51 c52 c53 c54 c55 c56 n J 127 []) (s127 y0 y1 y2 y3 y4 y5 y6)) x0 x1 x2 x3 x4 x5 x6 := by kernel_rfl
theorem e127 {c18 c50 c51 c52 c53 c54 c55 c56 n J x0 x1 x2 x3 x4 x5 x6} : A c18 c50 c51 c52 c53 c54 c55 c56 n J 127 [] (s127 x0 x1 x2 x3 x4 x5 x6) = b127 c18 c50 c51 c52 c53 c54 c55 c56 x0 x1 x2 x3 x4 x5 x6 := by kernel_rfl
theorem e245 {c18 c50 c51 c52 c53 c54 c55 c56 n J x0 x1 x2} : A c18 c50 c51 c52 c53 c54 c55 c56 n J 245 [] (s245 x0 x1 x2) = b245 c18 c50 c51 c52 c53 c54 c55 c56 (fun y0 y1 y2 y3 y4 y5 y6 => J 31 (A c18 c50 c51 c52 c53 c54 c55 c56 n J 31 []) (s31 y0 y1 y2 y3 y4 y5 y6)) x0 x1 x2 := by kernel_rfl
noncomputable abbrev I (n : Nat) := A abacusref05_zero.f abacusref05_negative.f abacusref05_of.f (abacusref05_is.f n) (abacusref05_product.f n) (abacusref05_result.f n) abacusref05_infinite.f (abacusref05_tiny.f n) n idJ
theorem q127 (n x0 x1 x2 x3 x4 x5 x6) : I n 127 [] (s127 x0 x1 x2 x3 x4 x5 x6) = l127 n x0 x1 x2 x3 x4 x5 x6 := e127
theorem q31 (n x0 x1 x2 x3 x4 x5 x6) : I n 31 [] (s31 x0 x1 x2 x3 x4 x5 x6) = l31 n x0 x1 x2 x3 x4 x5 x6 := e31.trans (Eq.trans (cf7 (congrArg (b31 _ _ _ _ _ _ _ _) (fu7 (q127 n))) _ _ _ _ _ _ _) rfl)
theorem q245 (n x0 x1 x2) : I n 245 [] (s245 x0 x1 x2) = l245 n x0 x1 x2 := e245.trans (Eq.trans (cf3 (congrArg (b245 _ _ _ _ _ _ _ _) (fu7 (q31 n))) _ _ _) rfl)
theorem ok {n  a0 a1 a2 a3 a4 r} (h : f n a0 a1 a2 a3 a4 = some r) : CallD Tryz.prog HW 19 [.int .i64 a0, .int .u64 a1, .int .u64 a2, .int .u64 a3, .int .u64 a4] (sg.enc r) :=
  fun_some hwS Tryz.func19 (by kernel_rfl) (body := code) (by kernel_rfl) tys_ok (c := cfg abacusref05_zero.f abacusref05_negative.f abacusref05_of.f (abacusref05_is.f n) (abacusref05_product.f n) (abacusref05_result.f n) abacusref05_infinite.f (abacusref05_tiny.f n)) (orCall_ok abacusref05_zero.call_ok (orCall_ok abacusref05_negative.call_ok (orCall_ok abacusref05_of.call_ok (orCall_ok (abacusref05_is.call_ok (n := n)) (orCall_ok (abacusref05_product.call_ok (n := n)) (orCall_ok (abacusref05_result.call_ok (n := n)) (orCall_ok abacusref05_infinite.call_ok (orCall_ok (abacusref05_tiny.call_ok (n := n)) noCall_ok)))))))) noW_ok (by kernel_rfl) (by kernel_rfl) (Nat.le_of_ble_eq_true (by kernel_rfl)) (Eq.trans ((e0 (n := n)).trans (Eq.trans (cf5 (congr (congrArg (b0 _ _ _ _ _ _ _ _) (fu7 (q31 n))) (fu3 (q245 n))) _ _ _ _ _) rfl)) h)
noncomputable def call {α : Type} (g : T36) (ds : List D) (K : List D→Ω α) : Ω α := match ds with
  | [.int .i64 a0, .int .u64 a1, .int .u64 a2, .int .u64 a3, .int .u64 a4] => (g a0 a1 a2 a3 a4).bind fun r => K (sg.enc r)
  | _ => none
theorem call_ok {α : Type} {n : Nat} : COK Tryz.prog HW 19 (call (α := α) (f n)) := fun _ _ _ h => by
  unfold call at h; split at h
  · exact cok h fun _ => ok
  · cases h
end abacusref05_flags
/-! ### abacusref05_Told: function 7 -/
namespace abacusref05_Told
noncomputable def b0 (c15 : T35) (c16 c17 c18 : T1) (c19 : T36) (k63 : T81) (a0 a1 a2 a3 : Int) : Ω (Int × Int × Int) := (if a0 < 1 then some (0, 0, 50) else (if a0 > 6 then some (0, 0, 50) else ((c15 a0 a1 a2 a3).bind fun t1 => (if ¬ a0 = 5 then (if [a1].length + 1 ≤ 17592186044416 then k63 a0 a1 a2 a3 t1 ([a1] ++ [a2]) else none) else k63 a0 a1 a2 a3 t1 [a1]))))
noncomputable def b63 (c15 : T35) (c16 c17 c18 : T1) (c19 : T36) (k127 : T81) (x0 x1 x2 x3 x4 : Int) (x5 : Λ) : Ω (Int × Int × Int) := (if x0 = 6 then (if x5.length + 1 ≤ 17592186044416 then k127 x0 x1 x2 x3 x4 (x5 ++ [x3]) else none) else k127 x0 x1 x2 x3 x4 x5)
noncomputable def b127 (c15 : T35) (c16 c17 c18 : T1) (c19 : T36) (k4085 : T82) (x0 x1 x2 x3 x4 : Int) (x5 : Λ) : Ω (Int × Int × Int) := k4085 x0 x1 x2 x3 x4 true 0 x5
noncomputable def b511 (c15 : T35) (c16 c17 c18 : T1) (c19 : T36) (k16359 : Int→Int→Int→Int→Int→Bool→Bool→Ω (Int × Int × Int)) (x0 x1 x2 x3 x4 : Int) (x5 : Bool) : Ω (Int × Int × Int) := ((c16 x4).bind fun t1 => (if t1 = true then some (x4, 1, 0) else (if x0 = 4 then ((c18 x2).bind fun t2 => (if t2 = true then k16359 x0 x1 x2 x3 x4 x5 x5 else k16359 x0 x1 x2 x3 x4 x5 false)) else k16359 x0 x1 x2 x3 x4 x5 false)))
noncomputable def b4085 (c15 : T35) (c16 c17 c18 : T1) (c19 : T36) (k511 : Int→Int→Int→Int→Int→Bool→Ω (Int × Int × Int)) (k4085 : T82) (x0 x1 x2 x3 x4 : Int) (x5 : Bool) (x6 : Int) (x7 : Λ) : Ω (Int × Int × Int) := (if x6 < (ln x7) then (if 0 ≤ x6 then (if x6 < (ln x7) then ((c16 (rd x7 x6)).bind fun t1 => (if t1 = true then some (x4, 0, 0) else (if x5 = true then (if 0 ≤ x6 then (if x6 < (ln x7) then ((c17 (rd x7 x6)).bind fun t2 => k4085 x0 x1 x2 x3 x4 t2 (wrap64 (x6 + 1)) x7) else none) else none) else k4085 x0 x1 x2 x3 x4 false (wrap64 (x6 + 1)) x7))) else none) else none) else k511 x0 x1 x2 x3 x4 x5)
noncomputable def b16359 (c15 : T35) (c16 c17 c18 : T1) (c19 : T36) (x0 x1 x2 x3 x4 : Int) (x5 x6 : Bool) : Ω (Int × Int × Int) := (if x6 = true then some (x4, 2, 0) else (if (!x5) = true then some (x4, 0, 0) else ((c19 x0 x1 x2 x3 x4).bind fun t1 => some (x4, t1, 0))))
noncomputable def l16359 (n : Nat) (x0 x1 x2 x3 x4 : Int) (x5 x6 : Bool) : Ω (Int × Int × Int) := b16359 (abacusref05_answer.f n) abacusref04_IsNaN.f abacusref04_Finite.f abacusref05_zero.f (abacusref05_flags.f n) x0 x1 x2 x3 x4 x5 x6
noncomputable def l511 (n : Nat) (x0 x1 x2 x3 x4 : Int) (x5 : Bool) : Ω (Int × Int × Int) := b511 (abacusref05_answer.f n) abacusref04_IsNaN.f abacusref04_Finite.f abacusref05_zero.f (abacusref05_flags.f n) (l16359 n) x0 x1 x2 x3 x4 x5
noncomputable def l4085 (n : Nat) : Nat→Int→Int→Int→Int→Int→Bool→Int→Λ→Ω (Int × Int × Int)
  | 0, _, _, _, _, _, _, _, _ => none
  | m + 1, x0, x1, x2, x3, x4, x5, x6, x7 => b4085 (abacusref05_answer.f n) abacusref04_IsNaN.f abacusref04_Finite.f abacusref05_zero.f (abacusref05_flags.f n) (l511 n) (l4085 n m) x0 x1 x2 x3 x4 x5 x6 x7
noncomputable def l127 (n : Nat) (x0 x1 x2 x3 x4 : Int) (x5 : Λ) : Ω (Int × Int × Int) := b127 (abacusref05_answer.f n) abacusref04_IsNaN.f abacusref04_Finite.f abacusref05_zero.f (abacusref05_flags.f n) (l4085 n n) x0 x1 x2 x3 x4 x5
noncomputable def l63 (n : Nat) (x0 x1 x2 x3 x4 : Int) (x5 : Λ) : Ω (Int × Int × Int) := b63 (abacusref05_answer.f n) abacusref04_IsNaN.f abacusref04_Finite.f abacusref05_zero.f (abacusref05_flags.f n) (l127 n) x0 x1 x2 x3 x4 x5
noncomputable def f (n : Nat) (a0 a1 a2 a3 : Int) : Ω (Int × Int × Int) := b0 (abacusref05_answer.f n) abacusref04_IsNaN.f abacusref04_Finite.f abacusref05_zero.f (abacusref05_flags.f n) (l63 n) a0 a1 a2 a3
noncomputable def sg : Sig (Int × Int × Int) := s2 (sInt .u64) (s2 (sInt .i64) (s1 (sInt .i64)))
noncomputable def code : Code := (Tryz.f7.body).getD .skip
noncomputable def cfg (c15 : T35) (c16 c17 c18 : T1) (c19 : T36) : Cfg (Int × Int × Int) := { T := tys, call := orCall 15 (abacusref05_answer.call c15) (orCall 16 (abacusref04_IsNaN.call c16) (orCall 17 (abacusref04_Finite.call c17) (orCall 18 (abacusref05_zero.call c18) (orCall 19 (abacusref05_flags.call c19) (noCall))))) }
noncomputable def cuts : List (Nat × List (Nat × Want)) := [(63, [(0, .keep), (1, .keep), (2, .keep), (3, .keep), (11, .keep), (12, .keep)]), (127, [(0, .keep), (1, .keep), (2, .keep), (3, .keep), (11, .keep), (12, .keep)]), (511, [(0, .keep), (1, .keep), (2, .keep), (3, .keep), (11, .keep), (13, .keep)]), (4085, [(0, .keep), (1, .keep), (2, .keep), (3, .keep), (11, .keep), (12, .keep), (13, .keep), (14, .keep)]), (16359, [(0, .keep), (1, .keep), (2, .keep), (3, .keep), (11, .keep), (13, .keep), (64, .keep)])]
noncomputable def s63 (x0 x1 x2 x3 x4 : Int) (x5 : Λ) : ASt := ⟨[(0, .int .i64 x0), (1, .int .u64 x1), (2, .int .u64 x2), (3, .int .u64 x3), (11, .int .u64 x4), (12, .own 0)], [.ints 24 .u64 x5]⟩
noncomputable def s127 (x0 x1 x2 x3 x4 : Int) (x5 : Λ) : ASt := ⟨[(0, .int .i64 x0), (1, .int .u64 x1), (2, .int .u64 x2), (3, .int .u64 x3), (11, .int .u64 x4), (12, .own 0)], [.ints 24 .u64 x5]⟩
noncomputable def s511 (x0 x1 x2 x3 x4 : Int) (x5 : Bool) : ASt := ⟨[(0, .int .i64 x0), (1, .int .u64 x1), (2, .int .u64 x2), (3, .int .u64 x3), (11, .int .u64 x4), (13, .bool x5)], []⟩
noncomputable def s4085 (x0 x1 x2 x3 x4 : Int) (x5 : Bool) (x6 : Int) (x7 : Λ) : ASt := ⟨[(0, .int .i64 x0), (1, .int .u64 x1), (2, .int .u64 x2), (3, .int .u64 x3), (11, .int .u64 x4), (12, .own 0), (13, .bool x5), (14, .int .i64 x6)], [.ints 24 .u64 x7]⟩
noncomputable def s16359 (x0 x1 x2 x3 x4 : Int) (x5 x6 : Bool) : ASt := ⟨[(0, .int .i64 x0), (1, .int .u64 x1), (2, .int .u64 x2), (3, .int .u64 x3), (11, .int .u64 x4), (13, .bool x5), (64, .bool x6)], []⟩
noncomputable def A (c15 : T35) (c16 c17 c18 : T1) (c19 : T36) (n : Nat) (J : Jt (Int × Int × Int)) (q : Nat) (ms : List Nat) : ASt→Ω (Int × Int × Int) := acont (cfg c15 c16 c17 c18 c19) J cuts n q code 1 ms (aend (cfg c15 c16 c17 c18 c19) Tryz.f7.results.toList [false, false, false] sg.out)
theorem e0 {c15 c16 c17 c18 c19 n J a0 a1 a2 a3} : afun (cfg c15 c16 c17 c18 c19) J cuts n code Tryz.f7.results.toList [false, false, false] [.int .i64 a0, .int .u64 a1, .int .u64 a2, .int .u64 a3] sg.out = b0 c15 c16 c17 c18 c19 (fun y0 y1 y2 y3 y4 y5 => J 63 (A c15 c16 c17 c18 c19 n J 63 []) (s63 y0 y1 y2 y3 y4 y5)) a0 a1 a2 a3 := by kernel_rfl
theorem e63 {c15 c16 c17 c18 c19 n J x0 x1 x2 x3 x4 x5} : A c15 c16 c17 c18 c19 n J 63 [] (s63 x0 x1 x2 x3 x4 x5) = b63 c15 c16 c17 c18 c19 (fun y0 y1 y2 y3 y4 y5 => J 127 (A c15 c16 c17 c18 c19 n J 127 []) (s127 y0 y1 y2 y3 y4 y5)) x0 x1 x2 x3 x4 x5 := by kernel_rfl
theorem e127 {c15 c16 c17 c18 c19 n J x0 x1 x2 x3 x4 x5} : A c15 c16 c17 c18 c19 n J 127 [] (s127 x0 x1 x2 x3 x4 x5) = b127 c15 c16 c17 c18 c19 (fun y0 y1 y2 y3 y4 y5 y6 y7 => J 4085 (A c15 c16 c17 c18 c19 n J 4085 [n]) (s4085 y0 y1 y2 y3 y4 y5 y6 y7)) x0 x1 x2 x3 x4 x5 := by kernel_rfl
theorem e511 {c15 c16 c17 c18 c19 n J x0 x1 x2 x3 x4 x5} : A c15 c16 c17 c18 c19 n J 511 [] (s511 x0 x1 x2 x3 x4 x5) = b511 c15 c16 c17 c18 c19 (fun y0 y1 y2 y3 y4 y5 y6 => J 16359 (A c15 c16 c17 c18 c19 n J 16359 []) (s16359 y0 y1 y2 y3 y4 y5 y6)) x0 x1 x2 x3 x4 x5 := by kernel_rfl
theorem e4085 {c15 c16 c17 c18 c19 n J m x0 x1 x2 x3 x4 x5 x6 x7} : A c15 c16 c17 c18 c19 n J 4085 [m + 1] (s4085 x0 x1 x2 x3 x4 x5 x6 x7) = b4085 c15 c16 c17 c18 c19 (fun y0 y1 y2 y3 y4 y5 => J 511 (A c15 c16 c17 c18 c19 n J 511 []) (s511 y0 y1 y2 y3 y4 y5)) (fun y0 y1 y2 y3 y4 y5 y6 y7 => J 4085 (A c15 c16 c17 c18 c19 n J 4085 [m]) (s4085 y0 y1 y2 y3 y4 y5 y6 y7)) x0 x1 x2 x3 x4 x5 x6 x7 := by kernel_rfl
theorem e16359 {c15 c16 c17 c18 c19 n J x0 x1 x2 x3 x4 x5 x6} : A c15 c16 c17 c18 c19 n J 16359 [] (s16359 x0 x1 x2 x3 x4 x5 x6) = b16359 c15 c16 c17 c18 c19 x0 x1 x2 x3 x4 x5 x6 := by kernel_rfl
noncomputable abbrev I (n : Nat) := A (abacusref05_answer.f n) abacusref04_IsNaN.f abacusref04_Finite.f abacusref05_zero.f (abacusref05_flags.f n) n idJ
theorem q16359 (n x0 x1 x2 x3 x4 x5 x6) : I n 16359 [] (s16359 x0 x1 x2 x3 x4 x5 x6) = l16359 n x0 x1 x2 x3 x4 x5 x6 := e16359
theorem q511 (n x0 x1 x2 x3 x4 x5) : I n 511 [] (s511 x0 x1 x2 x3 x4 x5) = l511 n x0 x1 x2 x3 x4 x5 := e511.trans (Eq.trans (cf6 (congrArg (b511 _ _ _ _ _) (fu7 (q16359 n))) _ _ _ _ _ _) rfl)
theorem q4085 (n m) : ∀ x0 x1 x2 x3 x4 x5 x6 x7, I n 4085 [m] (s4085 x0 x1 x2 x3 x4 x5 x6 x7) = l4085 n m x0 x1 x2 x3 x4 x5 x6 x7 := by
  induction m with
  | zero => intros; rfl
  | succ m ih =>
    intros
    exact e4085.trans (Eq.trans (cf8 (congr (congrArg (b4085 _ _ _ _ _) (fu6 (q511 n))) (fu8 (ih))) _ _ _ _ _ _ _ _) rfl)
theorem q127 (n x0 x1 x2 x3 x4 x5) : I n 127 [] (s127 x0 x1 x2 x3 x4 x5) = l127 n x0 x1 x2 x3 x4 x5 := e127.trans (Eq.trans (cf6 (congrArg (b127 _ _ _ _ _) (fu8 (q4085 n n))) _ _ _ _ _ _) rfl)
theorem q63 (n x0 x1 x2 x3 x4 x5) : I n 63 [] (s63 x0 x1 x2 x3 x4 x5) = l63 n x0 x1 x2 x3 x4 x5 := e63.trans (Eq.trans (cf6 (congrArg (b63 _ _ _ _ _) (fu6 (q127 n))) _ _ _ _ _ _) rfl)
theorem ok {n  a0 a1 a2 a3 r} (h : f n a0 a1 a2 a3 = some r) : CallD Tryz.prog HW 7 [.int .i64 a0, .int .u64 a1, .int .u64 a2, .int .u64 a3] (sg.enc r) :=
  fun_some hwS Tryz.func7 (by kernel_rfl) (body := code) (by kernel_rfl) tys_ok (c := cfg (abacusref05_answer.f n) abacusref04_IsNaN.f abacusref04_Finite.f abacusref05_zero.f (abacusref05_flags.f n)) (orCall_ok (abacusref05_answer.call_ok (n := n)) (orCall_ok abacusref04_IsNaN.call_ok (orCall_ok abacusref04_Finite.call_ok (orCall_ok abacusref05_zero.call_ok (orCall_ok (abacusref05_flags.call_ok (n := n)) noCall_ok))))) noW_ok (by kernel_rfl) (by kernel_rfl) (Nat.le_of_ble_eq_true (by kernel_rfl)) (Eq.trans ((e0 (n := n)).trans (Eq.trans (cf4 (congrArg (b0 _ _ _ _ _) (fu6 (q63 n))) _ _ _ _) rfl)) h)
noncomputable def call {α : Type} (g : T53) (ds : List D) (K : List D→Ω α) : Ω α := match ds with
  | [.int .i64 a0, .int .u64 a1, .int .u64 a2, .int .u64 a3] => (g a0 a1 a2 a3).bind fun r => K (sg.enc r)
  | _ => none
theorem call_ok {α : Type} {n : Nat} : COK Tryz.prog HW 7 (call (α := α) (f n)) := fun _ _ _ h => by
  unfold call at h; split at h
  · exact cok h fun _ => ok
  · cases h
end abacusref05_Told
/-! ### soft_operations: function 20 -/
namespace soft_operations
noncomputable def b0 : Ω (Unit) := some ()
noncomputable def f : Ω (Unit) := b0
noncomputable def sg : Sig (Unit) := s1 (sFns 46 [none, some 57, some 58, some 59, some 60, some 61, some 62])
noncomputable def code : Code := (Tryz.f20.body).getD .skip
noncomputable def cfg : Cfg (Unit) := { T := tys, call := noCall }
noncomputable def cuts : List (Nat × List (Nat × Want)) := []
theorem e0 {n J} : afun cfg J cuts n code Tryz.f20.results.toList [false] [] sg.out = b0 := by kernel_rfl
theorem ok {r} (h : f = some r) : CallD Tryz.prog HW 20 [] (sg.enc r) :=
  fun_some hwS Tryz.func20 (by kernel_rfl) (body := code) (by kernel_rfl) tys_ok (c := cfg) noCall_ok noW_ok (by kernel_rfl) (by kernel_rfl) (Nat.le_of_ble_eq_true (by kernel_rfl)) (Eq.trans ((e0 (n := 0))) h)
noncomputable def call {α : Type} (g : Ω (Unit)) (ds : List D) (K : List D→Ω α) : Ω α := match ds with
  | [] => (g).bind fun r => K (sg.enc r)
  | _ :: _ => none
theorem call_ok {α : Type} : COK Tryz.prog HW 20 (call (α := α) f) := fun _ _ _ h => by
  unfold call at h; split at h
  · exact cok h fun _ => ok
  · cases h
end soft_operations
/-! ### ieee_Abs: function 140 -/
namespace ieee_Abs
noncomputable def b0 (a0 : Int) : Ω (Int) := some (Go.bits .andNot .u64 a0 9223372036854775808)
noncomputable def f (a0 : Int) : Ω (Int) := b0 a0
noncomputable def sg : Sig (Int) := s1 (sInt .u64)
noncomputable def code : Code := (Tryz.f140.body).getD .skip
noncomputable def cfg : Cfg (Int) := { T := tys, call := noCall }
noncomputable def cuts : List (Nat × List (Nat × Want)) := []
theorem e0 {n J a0} : afun cfg J cuts n code Tryz.f140.results.toList [false] [.int .u64 a0] sg.out = b0 a0 := by kernel_rfl
theorem ok {a0 r} (h : f a0 = some r) : CallD Tryz.prog HW 140 [.int .u64 a0] (sg.enc r) :=
  fun_some hwS Tryz.func140 (by kernel_rfl) (body := code) (by kernel_rfl) tys_ok (c := cfg) noCall_ok noW_ok (by kernel_rfl) (by kernel_rfl) (Nat.le_of_ble_eq_true (by kernel_rfl)) (Eq.trans ((e0 (n := 0))) h)
noncomputable def call {α : Type} (g : T4) (ds : List D) (K : List D→Ω α) : Ω α := match ds with
  | [.int .u64 a0] => (g a0).bind fun r => K (sg.enc r)
  | _ => none
theorem call_ok {α : Type} : COK Tryz.prog HW 140 (call (α := α) f) := fun _ _ _ h => by
  unfold call at h; split at h
  · exact cok h fun _ => ok
  · cases h
end ieee_Abs
/-! ### ieee_Class: function 87 -/
namespace ieee_Class
noncomputable def b0 (c140 : T4) (a0 : Int) : Ω (Int) := ((c140 a0).bind fun t1 => (if t1 = 0 then some 0 else (if t1 < 4503599627370496 then some 1 else (if t1 < 9218868437227405312 then some 2 else (if t1 = 9218868437227405312 then some 3 else some 4)))))
noncomputable def f (a0 : Int) : Ω (Int) := b0 ieee_Abs.f a0
noncomputable def sg : Sig (Int) := s1 (sInt .i64)
noncomputable def code : Code := (Tryz.f87.body).getD .skip
noncomputable def cfg (c140 : T4) : Cfg (Int) := { T := tys, call := orCall 140 (ieee_Abs.call c140) (noCall) }
noncomputable def cuts : List (Nat × List (Nat × Want)) := []
theorem e0 {c140 n J a0} : afun (cfg c140) J cuts n code Tryz.f87.results.toList [false] [.int .u64 a0] sg.out = b0 c140 a0 := by kernel_rfl
theorem ok {a0 r} (h : f a0 = some r) : CallD Tryz.prog HW 87 [.int .u64 a0] (sg.enc r) :=
  fun_some hwS Tryz.func87 (by kernel_rfl) (body := code) (by kernel_rfl) tys_ok (c := cfg ieee_Abs.f) (orCall_ok ieee_Abs.call_ok noCall_ok) noW_ok (by kernel_rfl) (by kernel_rfl) (Nat.le_of_ble_eq_true (by kernel_rfl)) (Eq.trans ((e0 (n := 0))) h)
noncomputable def call {α : Type} (g : T4) (ds : List D) (K : List D→Ω α) : Ω α := match ds with
  | [.int .u64 a0] => (g a0).bind fun r => K (sg.enc r)
  | _ => none
theorem call_ok {α : Type} : COK Tryz.prog HW 87 (call (α := α) f) := fun _ _ _ h => by
  unfold call at h; split at h
  · exact cok h fun _ => ok
  · cases h
end ieee_Class
/-! ### ieee_Decode: function 36 -/
namespace ieee_Decode
noncomputable def b0 (c87 : T4) (a0 : Int) : Ω (Bool × Int × Int × Int) := ((c87 a0).bind fun t1 => (if t1 = 1 then some (decide (¬ (Go.bits .and .u64 a0 9223372036854775808) = 0), t1, Go.bits .and .u64 a0 4503599627370495, (-1074)) else (if t1 = 2 then some (decide (¬ (Go.bits .and .u64 a0 9223372036854775808) = 0), t1, Go.bits .or .u64 4503599627370496 (Go.bits .and .u64 a0 4503599627370495), wrap64 ((wrap64 (Go.bits .and .u64 (a0 / 4503599627370496) 2047)) - 1075)) else (if t1 = 4 then some (decide (¬ (Go.bits .and .u64 a0 9223372036854775808) = 0), t1, Go.bits .and .u64 a0 4503599627370495, 0) else some (decide (¬ (Go.bits .and .u64 a0 9223372036854775808) = 0), t1, 0, 0)))))
noncomputable def f (a0 : Int) : Ω (Bool × Int × Int × Int) := b0 ieee_Class.f a0
noncomputable def sg : Sig (Bool × Int × Int × Int) := s1 (sAgg (s2 (sBool) (s2 (sInt .i64) (s2 (sInt .u64) (s1 (sInt .i64))))))
noncomputable def code : Code := (Tryz.f36.body).getD .skip
noncomputable def cfg (c87 : T4) : Cfg (Bool × Int × Int × Int) := { T := tys, call := orCall 87 (ieee_Class.call c87) (noCall) }
noncomputable def cuts : List (Nat × List (Nat × Want)) := []
theorem e0 {c87 n J a0} : afun (cfg c87) J cuts n code Tryz.f36.results.toList [false] [.int .u64 a0] sg.out = b0 c87 a0 := by kernel_rfl
theorem ok {a0 r} (h : f a0 = some r) : CallD Tryz.prog HW 36 [.int .u64 a0] (sg.enc r) :=
  fun_some hwS Tryz.func36 (by kernel_rfl) (body := code) (by kernel_rfl) tys_ok (c := cfg ieee_Class.f) (orCall_ok ieee_Class.call_ok noCall_ok) noW_ok (by kernel_rfl) (by kernel_rfl) (Nat.le_of_ble_eq_true (by kernel_rfl)) (Eq.trans ((e0 (n := 0))) h)
noncomputable def call {α : Type} (g : T14) (ds : List D) (K : List D→Ω α) : Ω α := match ds with
  | [.int .u64 a0] => (g a0).bind fun r => K (sg.enc r)
  | _ => none
theorem call_ok {α : Type} : COK Tryz.prog HW 36 (call (α := α) f) := fun _ _ _ h => by
  unfold call at h; split at h
  · exact cok h fun _ => ok
  · cases h
end ieee_Decode
/-! ### soft_invalid: function 110 -/
namespace soft_invalid
noncomputable def b0 : Ω (Int × Int) := some (9221120237041090560, 1)
noncomputable def f : Ω (Int × Int) := b0
noncomputable def sg : Sig (Int × Int) := s2 (sInt .u64) (s1 (sInt .i64))
noncomputable def code : Code := (Tryz.f110.body).getD .skip
noncomputable def cfg : Cfg (Int × Int) := { T := tys, call := noCall }
noncomputable def cuts : List (Nat × List (Nat × Want)) := []
theorem e0 {n J} : afun cfg J cuts n code Tryz.f110.results.toList [false, false] [] sg.out = b0 := by kernel_rfl
theorem ok {r} (h : f = some r) : CallD Tryz.prog HW 110 [] (sg.enc r) :=
  fun_some hwS Tryz.func110 (by kernel_rfl) (body := code) (by kernel_rfl) tys_ok (c := cfg) noCall_ok noW_ok (by kernel_rfl) (by kernel_rfl) (Nat.le_of_ble_eq_true (by kernel_rfl)) (Eq.trans ((e0 (n := 0))) h)
noncomputable def call {α : Type} (g : T18) (ds : List D) (K : List D→Ω α) : Ω α := match ds with
  | [] => (g).bind fun r => K (sg.enc r)
  | _ :: _ => none
theorem call_ok {α : Type} : COK Tryz.prog HW 110 (call (α := α) f) := fun _ _ _ h => by
  unfold call at h; split at h
  · exact cok h fun _ => ok
  · cases h
end soft_invalid
/-! ### soft_withSign: function 114 -/
namespace soft_withSign
noncomputable def b0 (a0 : Bool) (a1 : Int) : Ω (Int) := (if a0 = true then some (Go.bits .or .u64 a1 9223372036854775808) else some a1)
noncomputable def f (a0 : Bool) (a1 : Int) : Ω (Int) := b0 a0 a1
noncomputable def sg : Sig (Int) := s1 (sInt .u64)
noncomputable def code : Code := (Tryz.f114.body).getD .skip
noncomputable def cfg : Cfg (Int) := { T := tys, call := noCall }
noncomputable def cuts : List (Nat × List (Nat × Want)) := []
theorem e0 {n J a0 a1} : afun cfg J cuts n code Tryz.f114.results.toList [false] [.bool a0, .int .u64 a1] sg.out = b0 a0 a1 := by kernel_rfl
theorem ok {a0 a1 r} (h : f a0 a1 = some r) : CallD Tryz.prog HW 114 [.bool a0, .int .u64 a1] (sg.enc r) :=
  fun_some hwS Tryz.func114 (by kernel_rfl) (body := code) (by kernel_rfl) tys_ok (c := cfg) noCall_ok noW_ok (by kernel_rfl) (by kernel_rfl) (Nat.le_of_ble_eq_true (by kernel_rfl)) (Eq.trans ((e0 (n := 0))) h)
noncomputable def call {α : Type} (g : T12) (ds : List D) (K : List D→Ω α) : Ω α := match ds with
  | [.bool a0, .int .u64 a1] => (g a0 a1).bind fun r => K (sg.enc r)
  | _ => none
theorem call_ok {α : Type} : COK Tryz.prog HW 114 (call (α := α) f) := fun _ _ _ h => by
  unfold call at h; split at h
  · exact cok h fun _ => ok
  · cases h
end soft_withSign
/-! ### nat_FromUint: function 116 -/
namespace nat_FromUint
noncomputable def b0 (a0 : Int) : Ω (Λ) := (if a0 = 0 then some ([] : Λ) else some [a0])
noncomputable def f (a0 : Int) : Ω (Λ) := b0 a0
noncomputable def sg : Sig (Λ) := s1 (sRow .u64)
noncomputable def code : Code := (Tryz.f116.body).getD .skip
noncomputable def cfg : Cfg (Λ) := { T := tys, call := noCall }
noncomputable def cuts : List (Nat × List (Nat × Want)) := []
theorem e0 {n J a0} : afun cfg J cuts n code Tryz.f116.results.toList [false] [.int .u64 a0] sg.out = b0 a0 := by kernel_rfl
theorem ok {a0 r} (h : f a0 = some r) : CallD Tryz.prog HW 116 [.int .u64 a0] (sg.enc r) :=
  fun_some hwS Tryz.func116 (by kernel_rfl) (body := code) (by kernel_rfl) tys_ok (c := cfg) noCall_ok noW_ok (by kernel_rfl) (by kernel_rfl) (Nat.le_of_ble_eq_true (by kernel_rfl)) (Eq.trans ((e0 (n := 0))) h)
noncomputable def call {α : Type} (g : T24) (ds : List D) (K : List D→Ω α) : Ω α := match ds with
  | [.int .u64 a0] => (g a0).bind fun r => K (sg.enc r)
  | _ => none
theorem call_ok {α : Type} : COK Tryz.prog HW 116 (call (α := α) f) := fun _ _ _ h => by
  unfold call at h; split at h
  · exact cok h fun _ => ok
  · cases h
end nat_FromUint
/-! ### nat_size: function 142 -/
namespace nat_size
noncomputable def b0 (k57 : T16) (l0 : Λ) : Ω (Int) := k57 l0 (ln l0)
noncomputable def b57 (k57 : T16) (x0 : Λ) (x1 : Int) : Ω (Int) := (if x1 > 0 then (if 0 ≤ (wrap64 (x1 - 1)) then (if (wrap64 (x1 - 1)) < (ln x0) then (if (rd x0 (wrap64 (x1 - 1))) = 0 then k57 x0 (wrap64 (x1 - 1)) else some x1) else none) else none) else some x1)
noncomputable def l57 (n : Nat) : Nat→Λ→Int→Ω (Int)
  | 0, _, _ => none
  | m + 1, x0, x1 => b57 (l57 n m) x0 x1
noncomputable def f (n : Nat) (l0 : Λ) : Ω (Int) := b0 (l57 n n) l0
noncomputable def sg : Sig (Int) := s1 (sInt .i64)
noncomputable def code : Code := (Tryz.f142.body).getD .skip
noncomputable def cfg : Cfg (Int) := { T := tys, call := noCall }
noncomputable def cuts : List (Nat × List (Nat × Want)) := [(57, [(0, .keep), (3, .keep)])]
noncomputable def s57 (x0 : Λ) (x1 : Int) : ASt := ⟨[(0, .ro .u64 x0), (3, .int .i64 x1)], []⟩
noncomputable def A (n : Nat) (J : Jt (Int)) (q : Nat) (ms : List Nat) : ASt→Ω (Int) := acont cfg J cuts n q code 1 ms (aend cfg Tryz.f142.results.toList [false] sg.out)
theorem e0 {n J l0} : afun cfg J cuts n code Tryz.f142.results.toList [false] [.ro .u64 l0] sg.out = b0 (fun y0 y1 => J 57 (A n J 57 [n]) (s57 y0 y1)) l0 := by kernel_rfl
theorem e57 {n J m x0 x1} : A n J 57 [m + 1] (s57 x0 x1) = b57 (fun y0 y1 => J 57 (A n J 57 [m]) (s57 y0 y1)) x0 x1 := by kernel_rfl
noncomputable abbrev I (n : Nat) := A n idJ
theorem q57 (n m) : ∀ x0 x1, I n 57 [m] (s57 x0 x1) = l57 n m x0 x1 := by
  induction m with
  | zero => intros; rfl
  | succ m ih =>
    intros
    exact e57.trans (Eq.trans (cf2 (congrArg b57 (fu2 (ih))) _ _) rfl)
theorem ok {n  l0 r} (h : f n l0 = some r) : CallD Tryz.prog HW 142 [.ro .u64 l0] (sg.enc r) :=
  fun_some hwS Tryz.func142 (by kernel_rfl) (body := code) (by kernel_rfl) tys_ok (c := cfg) noCall_ok noW_ok (by kernel_rfl) (by kernel_rfl) (Nat.le_of_ble_eq_true (by kernel_rfl)) (Eq.trans ((e0 (n := n)).trans (Eq.trans (cf1 (congrArg b0 (fu2 (q57 n n))) _) rfl)) h)
noncomputable def call {α : Type} (g : T0) (ds : List D) (K : List D→Ω α) : Ω α := match ds with
  | [.ro .u64 l0] => (g l0).bind fun r => K (sg.enc r)
  | _ => none
theorem call_ok {α : Type} {n : Nat} : COK Tryz.prog HW 142 (call (α := α) (f n)) := fun _ _ _ h => by
  unfold call at h; split at h
  · exact cok h fun _ => ok
  · cases h
end nat_size
/-! ### nat_big: function 141 -/
namespace nat_big
noncomputable def b0 (c142 : T0) (l0 : Λ) : Ω (Bool) := ((c142 l0).bind fun t1 => some (decide (t1 > 4096)))
noncomputable def f (n : Nat) (l0 : Λ) : Ω (Bool) := b0 (nat_size.f n) l0
noncomputable def sg : Sig (Bool) := s1 (sBool)
noncomputable def code : Code := (Tryz.f141.body).getD .skip
noncomputable def cfg (c142 : T0) : Cfg (Bool) := { T := tys, call := orCall 142 (nat_size.call c142) (noCall) }
noncomputable def cuts : List (Nat × List (Nat × Want)) := []
theorem e0 {c142 n J l0} : afun (cfg c142) J cuts n code Tryz.f141.results.toList [false] [.ro .u64 l0] sg.out = b0 c142 l0 := by kernel_rfl
theorem ok {n  l0 r} (h : f n l0 = some r) : CallD Tryz.prog HW 141 [.ro .u64 l0] (sg.enc r) :=
  fun_some hwS Tryz.func141 (by kernel_rfl) (body := code) (by kernel_rfl) tys_ok (c := cfg (nat_size.f n)) (orCall_ok (nat_size.call_ok (n := n)) noCall_ok) noW_ok (by kernel_rfl) (by kernel_rfl) (Nat.le_of_ble_eq_true (by kernel_rfl)) (Eq.trans ((e0 (n := n))) h)
noncomputable def call {α : Type} (g : T5) (ds : List D) (K : List D→Ω α) : Ω α := match ds with
  | [.ro .u64 l0] => (g l0).bind fun r => K (sg.enc r)
  | _ => none
theorem call_ok {α : Type} {n : Nat} : COK Tryz.prog HW 141 (call (α := α) (f n)) := fun _ _ _ h => by
  unfold call at h; split at h
  · exact cok h fun _ => ok
  · cases h
end nat_big
/-! ### bits_Mul64: function 122 -/
namespace bits_Mul64
noncomputable def b0 (a0 a1 : Int) : Ω (Int × Int) := some (IntKind.u64.wrap ((IntKind.u64.wrap ((IntKind.u64.wrap ((a0 / 4294967296) * (a1 / 4294967296))) + ((IntKind.u64.wrap ((IntKind.u64.wrap ((a0 / 4294967296) * (Go.bits .and .u64 a1 4294967295))) + ((IntKind.u64.wrap ((Go.bits .and .u64 a0 4294967295) * (Go.bits .and .u64 a1 4294967295))) / 4294967296))) / 4294967296))) + ((IntKind.u64.wrap ((Go.bits .and .u64 (IntKind.u64.wrap ((IntKind.u64.wrap ((a0 / 4294967296) * (Go.bits .and .u64 a1 4294967295))) + ((IntKind.u64.wrap ((Go.bits .and .u64 a0 4294967295) * (Go.bits .and .u64 a1 4294967295))) / 4294967296))) 4294967295) + (IntKind.u64.wrap ((Go.bits .and .u64 a0 4294967295) * (a1 / 4294967296))))) / 4294967296)), IntKind.u64.wrap (a0 * a1))
noncomputable def f (a0 a1 : Int) : Ω (Int × Int) := b0 a0 a1
noncomputable def sg : Sig (Int × Int) := s2 (sInt .u64) (s1 (sInt .u64))
noncomputable def code : Code := (Tryz.f122.body).getD .skip
noncomputable def cfg : Cfg (Int × Int) := { T := tys, call := noCall }
noncomputable def cuts : List (Nat × List (Nat × Want)) := []
theorem e0 {n J a0 a1} : afun cfg J cuts n code Tryz.f122.results.toList [false, false] [.int .u64 a0, .int .u64 a1] sg.out = b0 a0 a1 := by kernel_rfl
theorem ok {a0 a1 r} (h : f a0 a1 = some r) : CallD Tryz.prog HW 122 [.int .u64 a0, .int .u64 a1] (sg.enc r) :=
  fun_some hwS Tryz.func122 (by kernel_rfl) (body := code) (by kernel_rfl) tys_ok (c := cfg) noCall_ok noW_ok (by kernel_rfl) (by kernel_rfl) (Nat.le_of_ble_eq_true (by kernel_rfl)) (Eq.trans ((e0 (n := 0))) h)
noncomputable def call {α : Type} (g : T15) (ds : List D) (K : List D→Ω α) : Ω α := match ds with
  | [.int .u64 a0, .int .u64 a1] => (g a0 a1).bind fun r => K (sg.enc r)
  | _ => none
theorem call_ok {α : Type} : COK Tryz.prog HW 122 (call (α := α) f) := fun _ _ _ h => by
  unfold call at h; split at h
  · exact cok h fun _ => ok
  · cases h
end bits_Mul64
/-! ### bits_Add64: function 155 -/
namespace bits_Add64
def f (a0 a1 a2 : Int) : Ω (Int × Int) := if 0 ≤ a0 ∧ 0 ≤ a1 ∧ 0 ≤ a2 ∧ a2 ≤ 1 then some ((a0 + a1 + a2) % 18446744073709551616, (a0 + a1 + a2) / 18446744073709551616) else none
def sg : Sig (Int × Int) := s2 (sInt .u64) (s1 (sInt .u64))
theorem ok {a0 a1 a2 : Int} {r : Int × Int} (h : f a0 a1 a2 = some r) : CallD Tryz.prog HW 155 [.int .u64 a0, .int .u64 a1, .int .u64 a2] (sg.enc r) := by
  unfold f at h
  split at h
  · rename_i hh
    obtain rfl := Option.some.inj h
    exact calld_scal rfl rfl fun w _ => .inr ⟨_, _, run_add64' Tryz.func155 (by kernel_rfl) (by kernel_rfl) (by kernel_rfl) (by kernel_rfl) a0 a1 a2 hh.1 hh.2.1 hh.2.2.1 hh.2.2.2 w, rfl, rfl⟩
  · cases h
noncomputable def call {α : Type} (g : T3) (ds : List D) (K : List D→Ω α) : Ω α := match ds with
  | [.int .u64 a0, .int .u64 a1, .int .u64 a2] => (g a0 a1 a2).bind fun r => K (sg.enc r)
  | _ => none
theorem call_ok {α : Type} : COK Tryz.prog HW 155 (call (α := α) f) := fun _ _ _ h => by
  unfold call at h; split at h
  · exact cok h fun _ => ok
  · cases h
end bits_Add64
/-! ### nat_cut: function 143 -/
namespace nat_cut
noncomputable def b0 (c142 : T0) (l0 : Λ) : Ω (Λ × Int) := ((c142 l0).bind fun t1 => (if t1 > 4096 then some (([] : Λ), 2) else (if 0 ≤ t1 then (if t1 ≤ t1 then (if t1 ≤ (ln l0) then ((some (l0.take t1.toNat) : Ω (Λ)).bind fun y2 => some (y2, 0)) else none) else none) else none)))
noncomputable def f (n : Nat) (l0 : Λ) : Ω (Λ × Int) := b0 (nat_size.f n) l0
noncomputable def sg : Sig (Λ × Int) := s2 (sRow .u64) (s1 (sInt .i64))
noncomputable def code : Code := (Tryz.f143.body).getD .skip
noncomputable def cfg (c142 : T0) : Cfg (Λ × Int) := { T := tys, call := orCall 142 (nat_size.call c142) (noCall) }
noncomputable def cuts : List (Nat × List (Nat × Want)) := []
theorem e0 {c142 n J l0} : afun (cfg c142) J cuts n code Tryz.f143.results.toList [false, false] [.ro .u64 l0] sg.out = b0 c142 l0 := by kernel_rfl
theorem ok {n  l0 r} (h : f n l0 = some r) : CallD Tryz.prog HW 143 [.ro .u64 l0] (sg.enc r) :=
  fun_some hwS Tryz.func143 (by kernel_rfl) (body := code) (by kernel_rfl) tys_ok (c := cfg (nat_size.f n)) (orCall_ok (nat_size.call_ok (n := n)) noCall_ok) noW_ok (by kernel_rfl) (by kernel_rfl) (Nat.le_of_ble_eq_true (by kernel_rfl)) (Eq.trans ((e0 (n := n))) h)
noncomputable def call {α : Type} (g : T7) (ds : List D) (K : List D→Ω α) : Ω α := match ds with
  | [.ro .u64 l0] => (g l0).bind fun r => K (sg.enc r)
  | _ => none
theorem call_ok {α : Type} {n : Nat} : COK Tryz.prog HW 143 (call (α := α) (f n)) := fun _ _ _ h => by
  unfold call at h; split at h
  · exact cok h fun _ => ok
  · cases h
end nat_cut
/-! ### nat_Mul: function 126 -/
namespace nat_Mul
noncomputable def b0 (c122 : T15) (c141 : T5) (c142 : T0) (c143 : T7) (c155 : T3) (k2037 : T62) (l0 l1 : Λ) : Ω (Λ × Int) := ((c141 l0).bind fun t1 => (if t1 = true then some (([] : Λ), 2) else ((c141 l1).bind fun t2 => (if t2 = true then some (([] : Λ), 2) else ((c142 l0).bind fun t3 => (if 0 ≤ t3 then (if t3 ≤ (ln l0) then ((some (l0.take t3.toNat) : Ω (Λ)).bind fun y4 => ((c142 l1).bind fun t5 => (if 0 ≤ t5 then (if t5 ≤ (ln l1) then ((some (l1.take t5.toNat) : Ω (Λ)).bind fun y6 => (if (ln y4) = 0 then some (([] : Λ), 0) else (if (ln y6) = 0 then some (([] : Λ), 0) else (if (wrap64 ((wrap64 ((ln y4) + (ln y6))) - 1)) > 4096 then some (([] : Λ), 2) else (if 0 ≤ (wrap64 ((ln y4) + (ln y6))) then (if (wrap64 ((ln y4) + (ln y6))).toNat ≤ 35184372088832 then k2037 y6 y4 (ln y4) 0 (List.replicate (wrap64 ((ln y4) + (ln y6))).toNat (0 : Int)) else none) else none))))) else none) else none))) else none) else none))))))
noncomputable def b255 (c122 : T15) (c141 : T5) (c142 : T0) (c143 : T7) (c155 : T3) (x0 : Λ) : Ω (Λ × Int) := ((c143 x0).bind fun t1 => some (t1.1, t1.2))
noncomputable def b2037 (c122 : T15) (c141 : T5) (c142 : T0) (c143 : T7) (c155 : T3) (k255 : T7) (k2085685 : T83) (x0 x1 : Λ) (x2 x3 : Int) (x4 : Λ) : Ω (Λ × Int) := (if x3 < x2 then (if 0 ≤ x3 then (if x3 < (ln x1) then k2085685 x0 x3 0 0 (rd x1 x3) x1 x2 (ln x0) x4 else none) else none) else k255 x4)
noncomputable def b260711 (c122 : T15) (c141 : T5) (c142 : T0) (c143 : T7) (c155 : T3) (k2037 : T62) (x0 : Λ) (x1 x2 : Int) (x3 : Λ) (x4 : Int) (x5 : Λ) : Ω (Λ × Int) := (if 0 ≤ (wrap64 (x1 + (ln x0))) then (if (wrap64 (x1 + (ln x0))) < (ln x5) then k2037 x0 x3 x4 (wrap64 (x1 + 1)) (x5.set (wrap64 (x1 + (ln x0)) : Int).toNat x2) else none) else none)
noncomputable def b2085685 (c122 : T15) (c141 : T5) (c142 : T0) (c143 : T7) (c155 : T3) (k260711 : T63) (k2085685 : T83) (x0 : Λ) (x1 x2 x3 x4 : Int) (x5 : Λ) (x6 x7 : Int) (x8 : Λ) : Ω (Λ × Int) := (if x3 < x7 then (if 0 ≤ x3 then (if x3 < (ln x0) then ((c122 x4 (rd x0 x3)).bind fun t1 => (if 0 ≤ (wrap64 (x1 + x3)) then (if (wrap64 (x1 + x3)) < (ln x8) then ((c155 t1.2 (rd x8 (wrap64 (x1 + x3))) 0).bind fun t2 => ((c155 t2.1 x2 0).bind fun t3 => (if 0 ≤ (wrap64 (x1 + x3)) then (if (wrap64 (x1 + x3)) < (ln x8) then k2085685 x0 x1 (IntKind.u64.wrap ((IntKind.u64.wrap (t1.1 + t2.2)) + t3.2)) (wrap64 (x3 + 1)) x4 x5 x6 x7 (x8.set (wrap64 (x1 + x3) : Int).toNat t3.1) else none) else none))) else none) else none)) else none) else none) else k260711 x0 x1 x2 x5 x6 x8)
noncomputable def l255 (n : Nat) (x0 : Λ) : Ω (Λ × Int) := b255 bits_Mul64.f (nat_big.f n) (nat_size.f n) (nat_cut.f n) bits_Add64.f x0
noncomputable def l260711 (n : Nat) (k2037 : T62) (x0 : Λ) (x1 x2 : Int) (x3 : Λ) (x4 : Int) (x5 : Λ) : Ω (Λ × Int) := b260711 bits_Mul64.f (nat_big.f n) (nat_size.f n) (nat_cut.f n) bits_Add64.f k2037 x0 x1 x2 x3 x4 x5
noncomputable def l2085685 (n : Nat) (k2037 : T62) : Nat→Λ→Int→Int→Int→Int→Λ→Int→Int→Λ→Ω (Λ × Int)
  | 0, _, _, _, _, _, _, _, _, _ => none
  | m + 1, x0, x1, x2, x3, x4, x5, x6, x7, x8 => b2085685 bits_Mul64.f (nat_big.f n) (nat_size.f n) (nat_cut.f n) bits_Add64.f (l260711 n k2037) (l2085685 n k2037 m) x0 x1 x2 x3 x4 x5 x6 x7 x8
noncomputable def l2037 (n : Nat) : Nat→Λ→Λ→Int→Int→Λ→Ω (Λ × Int)
  | 0, _, _, _, _, _ => none
  | m + 1, x0, x1, x2, x3, x4 => b2037 bits_Mul64.f (nat_big.f n) (nat_size.f n) (nat_cut.f n) bits_Add64.f (l255 n) (l2085685 n (l2037 n m) n) x0 x1 x2 x3 x4
noncomputable def f (n : Nat) (l0 l1 : Λ) : Ω (Λ × Int) := b0 bits_Mul64.f (nat_big.f n) (nat_size.f n) (nat_cut.f n) bits_Add64.f (l2037 n n) l0 l1
noncomputable def sg : Sig (Λ × Int) := s2 (sRow .u64) (s1 (sInt .i64))
noncomputable def code : Code := (Tryz.f126.body).getD .skip
noncomputable def cfg (c122 : T15) (c141 : T5) (c142 : T0) (c143 : T7) (c155 : T3) : Cfg (Λ × Int) := { T := tys, call := orCall 122 (bits_Mul64.call c122) (orCall 141 (nat_big.call c141) (orCall 142 (nat_size.call c142) (orCall 143 (nat_cut.call c143) (orCall 155 (bits_Add64.call c155) (noCall))))) }
noncomputable def cuts : List (Nat × List (Nat × Want)) := [(255, [(6, .keep)]), (2037, [(1, .keep), (6, .keep), (50, .keep), (51, .keep), (52, .keep)]), (260711, [(1, .keep), (6, .keep), (7, .keep), (9, .keep), (50, .keep), (51, .keep), (52, .keep)]), (2085685, [(1, .keep), (6, .keep), (7, .keep), (8, .keep), (9, .keep), (50, .keep), (51, .keep), (52, .keep), (57, .keep), (58, .keep), (59, .keep)])]
noncomputable def s255 (x0 : Λ) : ASt := ⟨[(6, .own 0)], [.ints 24 .u64 x0]⟩
noncomputable def s2037 (x0 x1 : Λ) (x2 x3 : Int) (x4 : Λ) : ASt := ⟨[(1, .ro .u64 x0), (6, .own 0), (50, .ro .u64 x1), (51, .int .i64 x2), (52, .int .i64 x3)], [.ints 24 .u64 x4]⟩
noncomputable def s260711 (x0 : Λ) (x1 x2 : Int) (x3 : Λ) (x4 : Int) (x5 : Λ) : ASt := ⟨[(1, .ro .u64 x0), (6, .own 0), (7, .int .i64 x1), (9, .int .u64 x2), (50, .ro .u64 x3), (51, .int .i64 x4), (52, .int .i64 x1)], [.ints 24 .u64 x5]⟩
noncomputable def s2085685 (x0 : Λ) (x1 x2 x3 x4 : Int) (x5 : Λ) (x6 x7 : Int) (x8 : Λ) : ASt := ⟨[(1, .ro .u64 x0), (6, .own 0), (7, .int .i64 x1), (8, .int .u64 x4), (9, .int .u64 x2), (50, .ro .u64 x5), (51, .int .i64 x6), (52, .int .i64 x1), (57, .ro .u64 x0), (58, .int .i64 x7), (59, .int .i64 x3)], [.ints 24 .u64 x8]⟩
noncomputable def A (c122 : T15) (c141 : T5) (c142 : T0) (c143 : T7) (c155 : T3) (n : Nat) (J : Jt (Λ × Int)) (q : Nat) (ms : List Nat) : ASt→Ω (Λ × Int) := acont (cfg c122 c141 c142 c143 c155) J cuts n q code 1 ms (aend (cfg c122 c141 c142 c143 c155) Tryz.f126.results.toList [false, false] sg.out)
theorem e0 {c122 c141 c142 c143 c155 n J l0 l1} : afun (cfg c122 c141 c142 c143 c155) J cuts n code Tryz.f126.results.toList [false, false] [.ro .u64 l0, .ro .u64 l1] sg.out = b0 c122 c141 c142 c143 c155 (fun y0 y1 y2 y3 y4 => J 2037 (A c122 c141 c142 c143 c155 n J 2037 [n]) (s2037 y0 y1 y2 y3 y4)) l0 l1 := by kernel_rfl
theorem e255 {c122 c141 c142 c143 c155 n J x0} : A c122 c141 c142 c143 c155 n J 255 [] (s255 x0) = b255 c122 c141 c142 c143 c155 x0 := by kernel_rfl
theorem e2037 {c122 c141 c142 c143 c155 n J m x0 x1 x2 x3 x4} : A c122 c141 c142 c143 c155 n J 2037 [m + 1] (s2037 x0 x1 x2 x3 x4) = b2037 c122 c141 c142 c143 c155 (fun y0 => J 255 (A c122 c141 c142 c143 c155 n J 255 []) (s255 y0)) (fun y0 y1 y2 y3 y4 y5 y6 y7 y8 => J 2085685 (A c122 c141 c142 c143 c155 n J 2085685 [m, n]) (s2085685 y0 y1 y2 y3 y4 y5 y6 y7 y8)) x0 x1 x2 x3 x4 := by kernel_rfl
theorem e260711 {c122 c141 c142 c143 c155 n J m2037 x0 x1 x2 x3 x4 x5} : A c122 c141 c142 c143 c155 n J 260711 [m2037] (s260711 x0 x1 x2 x3 x4 x5) = b260711 c122 c141 c142 c143 c155 (fun y0 y1 y2 y3 y4 => J 2037 (A c122 c141 c142 c143 c155 n J 2037 [m2037]) (s2037 y0 y1 y2 y3 y4)) x0 x1 x2 x3 x4 x5 := by kernel_rfl
theorem e2085685 {c122 c141 c142 c143 c155 n J m2037 m x0 x1 x2 x3 x4 x5 x6 x7 x8} : A c122 c141 c142 c143 c155 n J 2085685 [m2037, m + 1] (s2085685 x0 x1 x2 x3 x4 x5 x6 x7 x8) = b2085685 c122 c141 c142 c143 c155 (fun y0 y1 y2 y3 y4 y5 => J 260711 (A c122 c141 c142 c143 c155 n J 260711 [m2037]) (s260711 y0 y1 y2 y3 y4 y5)) (fun y0 y1 y2 y3 y4 y5 y6 y7 y8 => J 2085685 (A c122 c141 c142 c143 c155 n J 2085685 [m2037, m]) (s2085685 y0 y1 y2 y3 y4 y5 y6 y7 y8)) x0 x1 x2 x3 x4 x5 x6 x7 x8 := by kernel_rfl
noncomputable abbrev I (n : Nat) := A bits_Mul64.f (nat_big.f n) (nat_size.f n) (nat_cut.f n) bits_Add64.f n idJ
theorem q255 (n x0) : I n 255 [] (s255 x0) = l255 n x0 := e255
theorem q260711 (n m2037 x0 x1 x2 x3 x4 x5) : I n 260711 [m2037] (s260711 x0 x1 x2 x3 x4 x5) = l260711 n (fun y0 y1 y2 y3 y4 => I n 2037 [m2037] (s2037 y0 y1 y2 y3 y4)) x0 x1 x2 x3 x4 x5 := e260711
theorem q2085685 (n m2037 m) : ∀ x0 x1 x2 x3 x4 x5 x6 x7 x8, I n 2085685 [m2037, m] (s2085685 x0 x1 x2 x3 x4 x5 x6 x7 x8) = l2085685 n (fun y0 y1 y2 y3 y4 => I n 2037 [m2037] (s2037 y0 y1 y2 y3 y4)) m x0 x1 x2 x3 x4 x5 x6 x7 x8 := by
  induction m with
  | zero => intros; rfl
  | succ m ih =>
    intros
    exact e2085685.trans (Eq.trans (cf9 (congr (congrArg (b2085685 _ _ _ _ _) (fu6 (q260711 n m2037))) (fu9 (ih))) _ _ _ _ _ _ _ _ _) rfl)
theorem q2037 (n m) : ∀ x0 x1 x2 x3 x4, I n 2037 [m] (s2037 x0 x1 x2 x3 x4) = l2037 n m x0 x1 x2 x3 x4 := by
  induction m with
  | zero => intros; rfl
  | succ m ih =>
    intros
    exact e2037.trans (Eq.trans (cf5 (congr (congrArg (b2037 _ _ _ _ _) (fu1 (q255 n))) ((fu9 (q2085685 n m n)).trans (by rw [show (fun y0 y1 y2 y3 y4 => I n 2037 [m] (s2037 y0 y1 y2 y3 y4)) = _ from (fu5 (ih))]))) _ _ _ _ _) rfl)
theorem ok {n  l0 l1 r} (h : f n l0 l1 = some r) : CallD Tryz.prog HW 126 [.ro .u64 l0, .ro .u64 l1] (sg.enc r) :=
  fun_some hwS Tryz.func126 (by kernel_rfl) (body := code) (by kernel_rfl) tys_ok (c := cfg bits_Mul64.f (nat_big.f n) (nat_size.f n) (nat_cut.f n) bits_Add64.f) (orCall_ok bits_Mul64.call_ok (orCall_ok (nat_big.call_ok (n := n)) (orCall_ok (nat_size.call_ok (n := n)) (orCall_ok (nat_cut.call_ok (n := n)) (orCall_ok bits_Add64.call_ok noCall_ok))))) noW_ok (by kernel_rfl) (by kernel_rfl) (Nat.le_of_ble_eq_true (by kernel_rfl)) (Eq.trans ((e0 (n := n)).trans (Eq.trans (cf2 (congrArg (b0 _ _ _ _ _) (fu5 (q2037 n n))) _ _) rfl)) h)
noncomputable def call {α : Type} (g : T8) (ds : List D) (K : List D→Ω α) : Ω α := match ds with
  | [.ro .u64 l0, .ro .u64 l1] => (g l0 l1).bind fun r => K (sg.enc r)
  | _ => none
theorem call_ok {α : Type} {n : Nat} : COK Tryz.prog HW 126 (call (α := α) (f n)) := fun _ _ _ h => by
  unfold call at h; split at h
  · exact cok h fun _ => ok
  · cases h
end nat_Mul
/-! ### soft_product: function 115 -/
namespace soft_product
noncomputable def b0 (c116 : T24) (c126 : T8) (a0 : Bool) (a1 a2 a3 : Int) (a4 : Bool) (a5 a6 a7 : Int) : Ω (Bool × Λ × Int) := ((c116 a2).bind fun t1 => ((c116 a6).bind fun t2 => ((c126 t1 t2).bind fun t3 => some (a0 != a4, t3.1, wrap64 (a3 + a7)))))
noncomputable def f (n : Nat) (a0 : Bool) (a1 a2 a3 : Int) (a4 : Bool) (a5 a6 a7 : Int) : Ω (Bool × Λ × Int) := b0 nat_FromUint.f (nat_Mul.f n) a0 a1 a2 a3 a4 a5 a6 a7
noncomputable def sg : Sig (Bool × Λ × Int) := s1 (sAgg (s2 (sBool) (s2 (sRow .u64) (s1 (sInt .i64)))))
noncomputable def code : Code := (Tryz.f115.body).getD .skip
noncomputable def cfg (c116 : T24) (c126 : T8) : Cfg (Bool × Λ × Int) := { T := tys, call := orCall 116 (nat_FromUint.call c116) (orCall 126 (nat_Mul.call c126) (noCall)) }
noncomputable def cuts : List (Nat × List (Nat × Want)) := []
theorem e0 {c116 c126 n J a0 a1 a2 a3 a4 a5 a6 a7} : afun (cfg c116 c126) J cuts n code Tryz.f115.results.toList [false] [.agg [.bool a0, .int .i64 a1, .int .u64 a2, .int .i64 a3], .agg [.bool a4, .int .i64 a5, .int .u64 a6, .int .i64 a7]] sg.out = b0 c116 c126 a0 a1 a2 a3 a4 a5 a6 a7 := by kernel_rfl
theorem ok {n  a0 a1 a2 a3 a4 a5 a6 a7 r} (h : f n a0 a1 a2 a3 a4 a5 a6 a7 = some r) : CallD Tryz.prog HW 115 [.agg [.bool a0, .int .i64 a1, .int .u64 a2, .int .i64 a3], .agg [.bool a4, .int .i64 a5, .int .u64 a6, .int .i64 a7]] (sg.enc r) :=
  fun_some hwS Tryz.func115 (by kernel_rfl) (body := code) (by kernel_rfl) tys_ok (c := cfg nat_FromUint.f (nat_Mul.f n)) (orCall_ok nat_FromUint.call_ok (orCall_ok (nat_Mul.call_ok (n := n)) noCall_ok)) noW_ok (by kernel_rfl) (by kernel_rfl) (Nat.le_of_ble_eq_true (by kernel_rfl)) (Eq.trans ((e0 (n := n))) h)
noncomputable def call {α : Type} (g : T31) (ds : List D) (K : List D→Ω α) : Ω α := match ds with
  | [.agg [.bool a0, .int .i64 a1, .int .u64 a2, .int .i64 a3], .agg [.bool a4, .int .i64 a5, .int .u64 a6, .int .i64 a7]] => (g a0 a1 a2 a3 a4 a5 a6 a7).bind fun r => K (sg.enc r)
  | _ => none
theorem call_ok {α : Type} {n : Nat} : COK Tryz.prog HW 115 (call (α := α) (f n)) := fun _ _ _ h => by
  unfold call at h; split at h
  · exact cok h fun _ => ok
  · cases h
end soft_product
/-! ### soft_termOf: function 111 -/
namespace soft_termOf
noncomputable def b0 (c116 : T24) (a0 : Bool) (a1 a2 a3 : Int) : Ω (Bool × Λ × Int) := ((c116 a2).bind fun t1 => some (a0, t1, a3))
noncomputable def f (a0 : Bool) (a1 a2 a3 : Int) : Ω (Bool × Λ × Int) := b0 nat_FromUint.f a0 a1 a2 a3
noncomputable def sg : Sig (Bool × Λ × Int) := s1 (sAgg (s2 (sBool) (s2 (sRow .u64) (s1 (sInt .i64)))))
noncomputable def code : Code := (Tryz.f111.body).getD .skip
noncomputable def cfg (c116 : T24) : Cfg (Bool × Λ × Int) := { T := tys, call := orCall 116 (nat_FromUint.call c116) (noCall) }
noncomputable def cuts : List (Nat × List (Nat × Want)) := []
theorem e0 {c116 n J a0 a1 a2 a3} : afun (cfg c116) J cuts n code Tryz.f111.results.toList [false] [.agg [.bool a0, .int .i64 a1, .int .u64 a2, .int .i64 a3]] sg.out = b0 c116 a0 a1 a2 a3 := by kernel_rfl
theorem ok {a0 a1 a2 a3 r} (h : f a0 a1 a2 a3 = some r) : CallD Tryz.prog HW 111 [.agg [.bool a0, .int .i64 a1, .int .u64 a2, .int .i64 a3]] (sg.enc r) :=
  fun_some hwS Tryz.func111 (by kernel_rfl) (body := code) (by kernel_rfl) tys_ok (c := cfg nat_FromUint.f) (orCall_ok nat_FromUint.call_ok noCall_ok) noW_ok (by kernel_rfl) (by kernel_rfl) (Nat.le_of_ble_eq_true (by kernel_rfl)) (Eq.trans ((e0 (n := 0))) h)
noncomputable def call {α : Type} (g : T32) (ds : List D) (K : List D→Ω α) : Ω α := match ds with
  | [.agg [.bool a0, .int .i64 a1, .int .u64 a2, .int .i64 a3]] => (g a0 a1 a2 a3).bind fun r => K (sg.enc r)
  | _ => none
theorem call_ok {α : Type} : COK Tryz.prog HW 111 (call (α := α) f) := fun _ _ _ h => by
  unfold call at h; split at h
  · exact cok h fun _ => ok
  · cases h
end soft_termOf
/-! ### nat_Shl: function 88 -/
namespace nat_Shl
noncomputable def b0 (c122 : T15) (c141 : T5) (c142 : T0) (c143 : T7) (k8181 : T84) (l0 : Λ) (a1 : Int) : Ω (Λ × Int) := ((c141 l0).bind fun t1 => (if t1 = true then some (([] : Λ), 2) else (if a1 < 0 then some (([] : Λ), 1) else ((c142 l0).bind fun t2 => (if 0 ≤ t2 then (if t2 ≤ (ln l0) then ((some (l0.take t2.toNat) : Ω (Λ)).bind fun y3 => (if (ln y3) = 0 then some (([] : Λ), 0) else (if a1 > 262144 then some (([] : Λ), 2) else (if 0 ≤ (wrap64 ((wrap64 ((wrap64 (Int.tdiv a1 64)) + (ln y3))) + 1)) then (if (wrap64 ((wrap64 ((wrap64 (Int.tdiv a1 64)) + (ln y3))) + 1)).toNat ≤ 35184372088832 then k8181 (wrap64 (Int.tdiv a1 64)) (IntKind.u64.wrap (Int.tmod a1 64)) y3 (ln y3) 0 (List.replicate (wrap64 ((wrap64 ((wrap64 (Int.tdiv a1 64)) + (ln y3))) + 1)).toNat (0 : Int)) else none) else none)))) else none) else none)))))
noncomputable def b1023 (c122 : T15) (c141 : T5) (c142 : T0) (c143 : T7) (x0 : Λ) : Ω (Λ × Int) := ((c143 x0).bind fun t1 => some (t1.1, t1.2))
noncomputable def b8181 (c122 : T15) (c141 : T5) (c142 : T0) (c143 k1023 : T7) (k8181 : T84) (x0 x1 : Int) (x2 : Λ) (x3 x4 : Int) (x5 : Λ) : Ω (Λ × Int) := (if x4 < x3 then (if 0 ≤ x4 then (if x4 < (ln x2) then (if 0 ≤ x1 then ((c122 (rd x2 x4) (shl .u64 1 x1)).bind fun t1 => (if 0 ≤ (wrap64 (x0 + x4)) then (if (wrap64 (x0 + x4)) < (ln x5) then (if 0 ≤ (wrap64 (x0 + x4)) then (if (wrap64 (x0 + x4)) < (ln x5) then (if 0 ≤ (wrap64 ((wrap64 (x0 + x4)) + 1)) then (if (wrap64 ((wrap64 (x0 + x4)) + 1)) < (ln (x5.set (wrap64 (x0 + x4) : Int).toNat (Go.bits .or .u64 (rd x5 (wrap64 (x0 + x4))) t1.2))) then k8181 x0 x1 x2 x3 (wrap64 (x4 + 1)) ((x5.set (wrap64 (x0 + x4) : Int).toNat (Go.bits .or .u64 (rd x5 (wrap64 (x0 + x4))) t1.2)).set (wrap64 ((wrap64 (x0 + x4)) + 1) : Int).toNat t1.1) else none) else none) else none) else none) else none) else none)) else none) else none) else none) else k1023 x5)
noncomputable def l1023 (n : Nat) (x0 : Λ) : Ω (Λ × Int) := b1023 bits_Mul64.f (nat_big.f n) (nat_size.f n) (nat_cut.f n) x0
noncomputable def l8181 (n : Nat) : Nat→Int→Int→Λ→Int→Int→Λ→Ω (Λ × Int)
  | 0, _, _, _, _, _, _ => none
  | m + 1, x0, x1, x2, x3, x4, x5 => b8181 bits_Mul64.f (nat_big.f n) (nat_size.f n) (nat_cut.f n) (l1023 n) (l8181 n m) x0 x1 x2 x3 x4 x5
noncomputable def f (n : Nat) (l0 : Λ) (a1 : Int) : Ω (Λ × Int) := b0 bits_Mul64.f (nat_big.f n) (nat_size.f n) (nat_cut.f n) (l8181 n n) l0 a1
noncomputable def sg : Sig (Λ × Int) := s2 (sRow .u64) (s1 (sInt .i64))
noncomputable def code : Code := (Tryz.f88.body).getD .skip
noncomputable def cfg (c122 : T15) (c141 : T5) (c142 : T0) (c143 : T7) : Cfg (Λ × Int) := { T := tys, call := orCall 122 (bits_Mul64.call c122) (orCall 141 (nat_big.call c141) (orCall 142 (nat_size.call c142) (orCall 143 (nat_cut.call c143) (noCall)))) }
noncomputable def cuts : List (Nat × List (Nat × Want)) := [(1023, [(8, .keep)]), (8181, [(6, .keep), (7, .keep), (8, .keep), (37, .keep), (38, .keep), (39, .keep)])]
noncomputable def s1023 (x0 : Λ) : ASt := ⟨[(8, .own 0)], [.ints 24 .u64 x0]⟩
noncomputable def s8181 (x0 x1 : Int) (x2 : Λ) (x3 x4 : Int) (x5 : Λ) : ASt := ⟨[(6, .int .i64 x0), (7, .int .u64 x1), (8, .own 0), (37, .ro .u64 x2), (38, .int .i64 x3), (39, .int .i64 x4)], [.ints 24 .u64 x5]⟩
noncomputable def A (c122 : T15) (c141 : T5) (c142 : T0) (c143 : T7) (n : Nat) (J : Jt (Λ × Int)) (q : Nat) (ms : List Nat) : ASt→Ω (Λ × Int) := acont (cfg c122 c141 c142 c143) J cuts n q code 1 ms (aend (cfg c122 c141 c142 c143) Tryz.f88.results.toList [false, false] sg.out)
theorem e0 {c122 c141 c142 c143 n J l0 a1} : afun (cfg c122 c141 c142 c143) J cuts n code Tryz.f88.results.toList [false, false] [.ro .u64 l0, .int .i64 a1] sg.out = b0 c122 c141 c142 c143 (fun y0 y1 y2 y3 y4 y5 => J 8181 (A c122 c141 c142 c143 n J 8181 [n]) (s8181 y0 y1 y2 y3 y4 y5)) l0 a1 := by kernel_rfl
theorem e1023 {c122 c141 c142 c143 n J x0} : A c122 c141 c142 c143 n J 1023 [] (s1023 x0) = b1023 c122 c141 c142 c143 x0 := by kernel_rfl
theorem e8181 {c122 c141 c142 c143 n J m x0 x1 x2 x3 x4 x5} : A c122 c141 c142 c143 n J 8181 [m + 1] (s8181 x0 x1 x2 x3 x4 x5) = b8181 c122 c141 c142 c143 (fun y0 => J 1023 (A c122 c141 c142 c143 n J 1023 []) (s1023 y0)) (fun y0 y1 y2 y3 y4 y5 => J 8181 (A c122 c141 c142 c143 n J 8181 [m]) (s8181 y0 y1 y2 y3 y4 y5)) x0 x1 x2 x3 x4 x5 := by kernel_rfl
noncomputable abbrev I (n : Nat) := A bits_Mul64.f (nat_big.f n) (nat_size.f n) (nat_cut.f n) n idJ
theorem q1023 (n x0) : I n 1023 [] (s1023 x0) = l1023 n x0 := e1023
theorem q8181 (n m) : ∀ x0 x1 x2 x3 x4 x5, I n 8181 [m] (s8181 x0 x1 x2 x3 x4 x5) = l8181 n m x0 x1 x2 x3 x4 x5 := by
  induction m with
  | zero => intros; rfl
  | succ m ih =>
    intros
    exact e8181.trans (Eq.trans (cf6 (congr (congrArg (b8181 _ _ _ _) (fu1 (q1023 n))) (fu6 (ih))) _ _ _ _ _ _) rfl)
theorem ok {n  l0 a1 r} (h : f n l0 a1 = some r) : CallD Tryz.prog HW 88 [.ro .u64 l0, .int .i64 a1] (sg.enc r) :=
  fun_some hwS Tryz.func88 (by kernel_rfl) (body := code) (by kernel_rfl) tys_ok (c := cfg bits_Mul64.f (nat_big.f n) (nat_size.f n) (nat_cut.f n)) (orCall_ok bits_Mul64.call_ok (orCall_ok (nat_big.call_ok (n := n)) (orCall_ok (nat_size.call_ok (n := n)) (orCall_ok (nat_cut.call_ok (n := n)) noCall_ok)))) noW_ok (by kernel_rfl) (by kernel_rfl) (Nat.le_of_ble_eq_true (by kernel_rfl)) (Eq.trans ((e0 (n := n)).trans (Eq.trans (cf2 (congrArg (b0 _ _ _ _) (fu6 (q8181 n n))) _ _) rfl)) h)
noncomputable def call {α : Type} (g : T19) (ds : List D) (K : List D→Ω α) : Ω α := match ds with
  | [.ro .u64 l0, .int .i64 a1] => (g l0 a1).bind fun r => K (sg.enc r)
  | _ => none
theorem call_ok {α : Type} {n : Nat} : COK Tryz.prog HW 88 (call (α := α) (f n)) := fun _ _ _ h => by
  unfold call at h; split at h
  · exact cok h fun _ => ok
  · cases h
end nat_Shl
/-! ### soft_aligned: function 151 -/
namespace soft_aligned
noncomputable def b0 (c88 : T19) (l0 : Λ) (a1 : Int) (l2 : Λ) (a3 : Int) : Ω (Λ × Λ × Int) := (if a1 > a3 then ((c88 l0 (wrap64 (a1 - a3))).bind fun t1 => some (t1.1, l2, a3)) else ((c88 l2 (wrap64 (a3 - a1))).bind fun t2 => some (l0, t2.1, a1)))
noncomputable def f (n : Nat) (l0 : Λ) (a1 : Int) (l2 : Λ) (a3 : Int) : Ω (Λ × Λ × Int) := b0 (nat_Shl.f n) l0 a1 l2 a3
noncomputable def sg : Sig (Λ × Λ × Int) := s2 (sRow .u64) (s2 (sRow .u64) (s1 (sInt .i64)))
noncomputable def code : Code := (Tryz.f151.body).getD .skip
noncomputable def cfg (c88 : T19) : Cfg (Λ × Λ × Int) := { T := tys, call := orCall 88 (nat_Shl.call c88) (noCall) }
noncomputable def cuts : List (Nat × List (Nat × Want)) := []
theorem e0 {c88 n J l0 a1 l2 a3} : afun (cfg c88) J cuts n code Tryz.f151.results.toList [false, false, false] [.ro .u64 l0, .int .i64 a1, .ro .u64 l2, .int .i64 a3] sg.out = b0 c88 l0 a1 l2 a3 := by kernel_rfl
theorem ok {n  l0 a1 l2 a3 r} (h : f n l0 a1 l2 a3 = some r) : CallD Tryz.prog HW 151 [.ro .u64 l0, .int .i64 a1, .ro .u64 l2, .int .i64 a3] (sg.enc r) :=
  fun_some hwS Tryz.func151 (by kernel_rfl) (body := code) (by kernel_rfl) tys_ok (c := cfg (nat_Shl.f n)) (orCall_ok (nat_Shl.call_ok (n := n)) noCall_ok) noW_ok (by kernel_rfl) (by kernel_rfl) (Nat.le_of_ble_eq_true (by kernel_rfl)) (Eq.trans ((e0 (n := n))) h)
noncomputable def call {α : Type} (g : T56) (ds : List D) (K : List D→Ω α) : Ω α := match ds with
  | [.ro .u64 l0, .int .i64 a1, .ro .u64 l2, .int .i64 a3] => (g l0 a1 l2 a3).bind fun r => K (sg.enc r)
  | _ => none
theorem call_ok {α : Type} {n : Nat} : COK Tryz.prog HW 151 (call (α := α) (f n)) := fun _ _ _ h => by
  unfold call at h; split at h
  · exact cok h fun _ => ok
  · cases h
end soft_aligned
/-! ### nat_Add: function 130 -/
namespace nat_Add
noncomputable def b0 (c141 : T5) (c142 : T0) (c143 : T7) (c155 : T3) (k31 : T8) (l0 l1 : Λ) : Ω (Λ × Int) := ((c141 l0).bind fun t1 => (if t1 = true then some (([] : Λ), 2) else ((c141 l1).bind fun t2 => (if t2 = true then some (([] : Λ), 2) else ((c142 l0).bind fun t3 => (if 0 ≤ t3 then (if t3 ≤ (ln l0) then ((some (l0.take t3.toNat) : Ω (Λ)).bind fun y4 => ((c142 l1).bind fun t5 => (if 0 ≤ t5 then (if t5 ≤ (ln l1) then ((some (l1.take t5.toNat) : Ω (Λ)).bind fun y6 => (if (ln y4) < (ln y6) then k31 y6 y4 else k31 y4 y6)) else none) else none))) else none) else none))))))
noncomputable def b31 (c141 : T5) (c142 : T0) (c143 : T7) (c155 : T3) (k2037 : T66) (x0 x1 : Λ) : Ω (Λ × Int) := (if 0 ≤ (wrap64 ((ln x0) + 1)) then (if (wrap64 ((ln x0) + 1)).toNat ≤ 35184372088832 then k2037 x0 x1 0 0 (ln x0) (List.replicate (wrap64 ((ln x0) + 1)).toNat (0 : Int)) else none) else none)
noncomputable def b255 (c141 : T5) (c142 : T0) (c143 : T7) (c155 : T3) (x0 : Λ) (x1 : Int) (x2 : Λ) : Ω (Λ × Int) := (if 0 ≤ (ln x0) then (if (ln x0) < (ln x2) then ((c143 (x2.set ((ln x0) : Int).toNat x1)).bind fun t1 => some (t1.1, t1.2)) else none) else none)
noncomputable def b2037 (c141 : T5) (c142 : T0) (c143 : T7) (c155 : T3) (k255 : T85) (k260711 : Λ→Λ→Int→Int→Int→Int→Int→Λ→Ω (Λ × Int)) (x0 x1 : Λ) (x2 x3 x4 : Int) (x5 : Λ) : Ω (Λ × Int) := (if x3 < x4 then (if 0 ≤ x3 then (if x3 < (ln x0) then (if x3 < (ln x1) then (if 0 ≤ x3 then (if x3 < (ln x1) then k260711 x0 x1 x2 x3 (rd x0 x3) (rd x1 x3) x4 x5 else none) else none) else k260711 x0 x1 x2 x3 (rd x0 x3) 0 x4 x5) else none) else none) else k255 x0 x2 x5)
noncomputable def b260711 (c141 : T5) (c142 : T0) (c143 : T7) (c155 : T3) (k2037 : T66) (x0 x1 : Λ) (x2 x3 x4 x5 x6 : Int) (x7 : Λ) : Ω (Λ × Int) := ((c155 x4 x5 x2).bind fun t1 => (if 0 ≤ x3 then (if x3 < (ln x7) then k2037 x0 x1 t1.2 (wrap64 (x3 + 1)) x6 (x7.set (x3 : Int).toNat t1.1) else none) else none))
noncomputable def l255 (n : Nat) (x0 : Λ) (x1 : Int) (x2 : Λ) : Ω (Λ × Int) := b255 (nat_big.f n) (nat_size.f n) (nat_cut.f n) bits_Add64.f x0 x1 x2
noncomputable def l260711 (n : Nat) (k2037 : T66) (x0 x1 : Λ) (x2 x3 x4 x5 x6 : Int) (x7 : Λ) : Ω (Λ × Int) := b260711 (nat_big.f n) (nat_size.f n) (nat_cut.f n) bits_Add64.f k2037 x0 x1 x2 x3 x4 x5 x6 x7
noncomputable def l2037 (n : Nat) : Nat→Λ→Λ→Int→Int→Int→Λ→Ω (Λ × Int)
  | 0, _, _, _, _, _, _ => none
  | m + 1, x0, x1, x2, x3, x4, x5 => b2037 (nat_big.f n) (nat_size.f n) (nat_cut.f n) bits_Add64.f (l255 n) (l260711 n (l2037 n m)) x0 x1 x2 x3 x4 x5
noncomputable def l31 (n : Nat) (x0 x1 : Λ) : Ω (Λ × Int) := b31 (nat_big.f n) (nat_size.f n) (nat_cut.f n) bits_Add64.f (l2037 n n) x0 x1
noncomputable def f (n : Nat) (l0 l1 : Λ) : Ω (Λ × Int) := b0 (nat_big.f n) (nat_size.f n) (nat_cut.f n) bits_Add64.f (l31 n) l0 l1
noncomputable def sg : Sig (Λ × Int) := s2 (sRow .u64) (s1 (sInt .i64))
noncomputable def code : Code := (Tryz.f130.body).getD .skip
noncomputable def cfg (c141 : T5) (c142 : T0) (c143 : T7) (c155 : T3) : Cfg (Λ × Int) := { T := tys, call := orCall 141 (nat_big.call c141) (orCall 142 (nat_size.call c142) (orCall 143 (nat_cut.call c143) (orCall 155 (bits_Add64.call c155) (noCall)))) }
noncomputable def cuts : List (Nat × List (Nat × Want)) := [(31, [(0, .keep), (1, .keep)]), (255, [(0, .keep), (6, .keep), (7, .keep)]), (2037, [(0, .keep), (1, .keep), (6, .keep), (7, .keep), (36, .keep), (37, .keep), (38, .keep)]), (260711, [(0, .keep), (1, .keep), (6, .keep), (7, .keep), (8, .keep), (9, .keep), (10, .keep), (36, .keep), (37, .keep), (38, .keep)])]
noncomputable def s31 (x0 x1 : Λ) : ASt := ⟨[(0, .ro .u64 x0), (1, .ro .u64 x1)], []⟩
noncomputable def s255 (x0 : Λ) (x1 : Int) (x2 : Λ) : ASt := ⟨[(0, .ro .u64 x0), (6, .own 0), (7, .int .u64 x1)], [.ints 24 .u64 x2]⟩
noncomputable def s2037 (x0 x1 : Λ) (x2 x3 x4 : Int) (x5 : Λ) : ASt := ⟨[(0, .ro .u64 x0), (1, .ro .u64 x1), (6, .own 0), (7, .int .u64 x2), (36, .ro .u64 x0), (37, .int .i64 x4), (38, .int .i64 x3)], [.ints 24 .u64 x5]⟩
noncomputable def s260711 (x0 x1 : Λ) (x2 x3 x4 x5 x6 : Int) (x7 : Λ) : ASt := ⟨[(0, .ro .u64 x0), (1, .ro .u64 x1), (6, .own 0), (7, .int .u64 x2), (8, .int .i64 x3), (9, .int .u64 x4), (10, .int .u64 x5), (36, .ro .u64 x0), (37, .int .i64 x6), (38, .int .i64 x3)], [.ints 24 .u64 x7]⟩
noncomputable def A (c141 : T5) (c142 : T0) (c143 : T7) (c155 : T3) (n : Nat) (J : Jt (Λ × Int)) (q : Nat) (ms : List Nat) : ASt→Ω (Λ × Int) := acont (cfg c141 c142 c143 c155) J cuts n q code 1 ms (aend (cfg c141 c142 c143 c155) Tryz.f130.results.toList [false, false] sg.out)
theorem e0 {c141 c142 c143 c155 n J l0 l1} : afun (cfg c141 c142 c143 c155) J cuts n code Tryz.f130.results.toList [false, false] [.ro .u64 l0, .ro .u64 l1] sg.out = b0 c141 c142 c143 c155 (fun y0 y1 => J 31 (A c141 c142 c143 c155 n J 31 []) (s31 y0 y1)) l0 l1 := by kernel_rfl
theorem e31 {c141 c142 c143 c155 n J x0 x1} : A c141 c142 c143 c155 n J 31 [] (s31 x0 x1) = b31 c141 c142 c143 c155 (fun y0 y1 y2 y3 y4 y5 => J 2037 (A c141 c142 c143 c155 n J 2037 [n]) (s2037 y0 y1 y2 y3 y4 y5)) x0 x1 := by kernel_rfl
theorem e255 {c141 c142 c143 c155 n J x0 x1 x2} : A c141 c142 c143 c155 n J 255 [] (s255 x0 x1 x2) = b255 c141 c142 c143 c155 x0 x1 x2 := by kernel_rfl
theorem e2037 {c141 c142 c143 c155 n J m x0 x1 x2 x3 x4 x5} : A c141 c142 c143 c155 n J 2037 [m + 1] (s2037 x0 x1 x2 x3 x4 x5) = b2037 c141 c142 c143 c155 (fun y0 y1 y2 => J 255 (A c141 c142 c143 c155 n J 255 []) (s255 y0 y1 y2)) (fun y0 y1 y2 y3 y4 y5 y6 y7 => J 260711 (A c141 c142 c143 c155 n J 260711 [m]) (s260711 y0 y1 y2 y3 y4 y5 y6 y7)) x0 x1 x2 x3 x4 x5 := by kernel_rfl
theorem e260711 {c141 c142 c143 c155 n J m2037 x0 x1 x2 x3 x4 x5 x6 x7} : A c141 c142 c143 c155 n J 260711 [m2037] (s260711 x0 x1 x2 x3 x4 x5 x6 x7) = b260711 c141 c142 c143 c155 (fun y0 y1 y2 y3 y4 y5 => J 2037 (A c141 c142 c143 c155 n J 2037 [m2037]) (s2037 y0 y1 y2 y3 y4 y5)) x0 x1 x2 x3 x4 x5 x6 x7 := by kernel_rfl
noncomputable abbrev I (n : Nat) := A (nat_big.f n) (nat_size.f n) (nat_cut.f n) bits_Add64.f n idJ
theorem q255 (n x0 x1 x2) : I n 255 [] (s255 x0 x1 x2) = l255 n x0 x1 x2 := e255
theorem q260711 (n m2037 x0 x1 x2 x3 x4 x5 x6 x7) : I n 260711 [m2037] (s260711 x0 x1 x2 x3 x4 x5 x6 x7) = l260711 n (fun y0 y1 y2 y3 y4 y5 => I n 2037 [m2037] (s2037 y0 y1 y2 y3 y4 y5)) x0 x1 x2 x3 x4 x5 x6 x7 := e260711
theorem q2037 (n m) : ∀ x0 x1 x2 x3 x4 x5, I n 2037 [m] (s2037 x0 x1 x2 x3 x4 x5) = l2037 n m x0 x1 x2 x3 x4 x5 := by
  induction m with
  | zero => intros; rfl
  | succ m ih =>
    intros
    exact e2037.trans (Eq.trans (cf6 (congr (congrArg (b2037 _ _ _ _) (fu3 (q255 n))) ((fu8 (q260711 n m)).trans (by rw [show (fun y0 y1 y2 y3 y4 y5 => I n 2037 [m] (s2037 y0 y1 y2 y3 y4 y5)) = _ from (fu6 (ih))]))) _ _ _ _ _ _) rfl)
theorem q31 (n x0 x1) : I n 31 [] (s31 x0 x1) = l31 n x0 x1 := e31.trans (Eq.trans (cf2 (congrArg (b31 _ _ _ _) (fu6 (q2037 n n))) _ _) rfl)
theorem ok {n  l0 l1 r} (h : f n l0 l1 = some r) : CallD Tryz.prog HW 130 [.ro .u64 l0, .ro .u64 l1] (sg.enc r) :=
  fun_some hwS Tryz.func130 (by kernel_rfl) (body := code) (by kernel_rfl) tys_ok (c := cfg (nat_big.f n) (nat_size.f n) (nat_cut.f n) bits_Add64.f) (orCall_ok (nat_big.call_ok (n := n)) (orCall_ok (nat_size.call_ok (n := n)) (orCall_ok (nat_cut.call_ok (n := n)) (orCall_ok bits_Add64.call_ok noCall_ok)))) noW_ok (by kernel_rfl) (by kernel_rfl) (Nat.le_of_ble_eq_true (by kernel_rfl)) (Eq.trans ((e0 (n := n)).trans (Eq.trans (cf2 (congrArg (b0 _ _ _ _) (fu2 (q31 n))) _ _) rfl)) h)
noncomputable def call {α : Type} (g : T8) (ds : List D) (K : List D→Ω α) : Ω α := match ds with
  | [.ro .u64 l0, .ro .u64 l1] => (g l0 l1).bind fun r => K (sg.enc r)
  | _ => none
theorem call_ok {α : Type} {n : Nat} : COK Tryz.prog HW 130 (call (α := α) (f n)) := fun _ _ _ h => by
  unfold call at h; split at h
  · exact cok h fun _ => ok
  · cases h
end nat_Add
/-! ### nat_Cmp: function 129 -/
namespace nat_Cmp
noncomputable def b0 (c142 : T0) (k245 : T52) (l0 l1 : Λ) : Ω (Int) := ((c142 l0).bind fun t1 => ((c142 l1).bind fun t2 => (if ¬ t1 = t2 then (if t1 < t2 then some (-1) else some 1) else k245 l0 l1 (wrap64 (t1 - 1)))))
noncomputable def b245 (c142 : T0) (k245 : T52) (x0 x1 : Λ) (x2 : Int) : Ω (Int) := (if x2 ≥ 0 then (if 0 ≤ x2 then (if x2 < (ln x0) then (if 0 ≤ x2 then (if x2 < (ln x1) then (if ¬ (rd x0 x2) = (rd x1 x2) then (if 0 ≤ x2 then (if x2 < (ln x0) then (if 0 ≤ x2 then (if x2 < (ln x1) then (if (rd x0 x2) < (rd x1 x2) then some (-1) else some 1) else none) else none) else none) else none) else k245 x0 x1 (wrap64 (x2 - 1))) else none) else none) else none) else none) else some 0)
noncomputable def l245 (n : Nat) : Nat→Λ→Λ→Int→Ω (Int)
  | 0, _, _, _ => none
  | m + 1, x0, x1, x2 => b245 (nat_size.f n) (l245 n m) x0 x1 x2
noncomputable def f (n : Nat) (l0 l1 : Λ) : Ω (Int) := b0 (nat_size.f n) (l245 n n) l0 l1
noncomputable def sg : Sig (Int) := s1 (sInt .i64)
noncomputable def code : Code := (Tryz.f129.body).getD .skip
noncomputable def cfg (c142 : T0) : Cfg (Int) := { T := tys, call := orCall 142 (nat_size.call c142) (noCall) }
noncomputable def cuts : List (Nat × List (Nat × Want)) := [(245, [(0, .keep), (1, .keep), (7, .keep)])]
noncomputable def s245 (x0 x1 : Λ) (x2 : Int) : ASt := ⟨[(0, .ro .u64 x0), (1, .ro .u64 x1), (7, .int .i64 x2)], []⟩
noncomputable def A (c142 : T0) (n : Nat) (J : Jt (Int)) (q : Nat) (ms : List Nat) : ASt→Ω (Int) := acont (cfg c142) J cuts n q code 1 ms (aend (cfg c142) Tryz.f129.results.toList [false] sg.out)
theorem e0 {c142 n J l0 l1} : afun (cfg c142) J cuts n code Tryz.f129.results.toList [false] [.ro .u64 l0, .ro .u64 l1] sg.out = b0 c142 (fun y0 y1 y2 => J 245 (A c142 n J 245 [n]) (s245 y0 y1 y2)) l0 l1 := by kernel_rfl
theorem e245 {c142 n J m x0 x1 x2} : A c142 n J 245 [m + 1] (s245 x0 x1 x2) = b245 c142 (fun y0 y1 y2 => J 245 (A c142 n J 245 [m]) (s245 y0 y1 y2)) x0 x1 x2 := by kernel_rfl
noncomputable abbrev I (n : Nat) := A (nat_size.f n) n idJ
theorem q245 (n m) : ∀ x0 x1 x2, I n 245 [m] (s245 x0 x1 x2) = l245 n m x0 x1 x2 := by
  induction m with
  | zero => intros; rfl
  | succ m ih =>
    intros
    exact e245.trans (Eq.trans (cf3 (congrArg (b245 _) (fu3 (ih))) _ _ _) rfl)
theorem ok {n  l0 l1 r} (h : f n l0 l1 = some r) : CallD Tryz.prog HW 129 [.ro .u64 l0, .ro .u64 l1] (sg.enc r) :=
  fun_some hwS Tryz.func129 (by kernel_rfl) (body := code) (by kernel_rfl) tys_ok (c := cfg (nat_size.f n)) (orCall_ok (nat_size.call_ok (n := n)) noCall_ok) noW_ok (by kernel_rfl) (by kernel_rfl) (Nat.le_of_ble_eq_true (by kernel_rfl)) (Eq.trans ((e0 (n := n)).trans (Eq.trans (cf2 (congrArg (b0 _) (fu3 (q245 n n))) _ _) rfl)) h)
noncomputable def call {α : Type} (g : T6) (ds : List D) (K : List D→Ω α) : Ω α := match ds with
  | [.ro .u64 l0, .ro .u64 l1] => (g l0 l1).bind fun r => K (sg.enc r)
  | _ => none
theorem call_ok {α : Type} {n : Nat} : COK Tryz.prog HW 129 (call (α := α) (f n)) := fun _ _ _ h => by
  unfold call at h; split at h
  · exact cok h fun _ => ok
  · cases h
end nat_Cmp
/-! ### bits_Sub64: function 158 -/
namespace bits_Sub64
def f (a0 a1 a2 : Int) : Ω (Int × Int) := if 0 ≤ a0 ∧ 0 ≤ a1 ∧ a1 < 18446744073709551616 ∧ 0 ≤ a2 ∧ a2 ≤ 1 then some ((a0 - a1 - a2) % 18446744073709551616, if a0 < a1 + a2 then 1 else 0) else none
def sg : Sig (Int × Int) := s2 (sInt .u64) (s1 (sInt .u64))
theorem ok {a0 a1 a2 : Int} {r : Int × Int} (h : f a0 a1 a2 = some r) : CallD Tryz.prog HW 158 [.int .u64 a0, .int .u64 a1, .int .u64 a2] (sg.enc r) := by
  unfold f at h
  split at h
  · rename_i hh
    obtain rfl := Option.some.inj h
    exact calld_scal rfl rfl fun w _ => .inr ⟨_, _, run_sub64' Tryz.func158 (by kernel_rfl) (by kernel_rfl) (by kernel_rfl) (by kernel_rfl) a0 a1 a2 hh.1 hh.2.1 hh.2.2.1 hh.2.2.2.1 hh.2.2.2.2 w, rfl, rfl⟩
  · cases h
noncomputable def call {α : Type} (g : T3) (ds : List D) (K : List D→Ω α) : Ω α := match ds with
  | [.int .u64 a0, .int .u64 a1, .int .u64 a2] => (g a0 a1 a2).bind fun r => K (sg.enc r)
  | _ => none
theorem call_ok {α : Type} : COK Tryz.prog HW 158 (call (α := α) f) := fun _ _ _ h => by
  unfold call at h; split at h
  · exact cok h fun _ => ok
  · cases h
end bits_Sub64
/-! ### nat_Sub: function 128 -/
namespace nat_Sub
noncomputable def b0 (c129 : T6) (c141 : T5) (c142 : T0) (c143 : T7) (c158 : T3) (k2037 : T63) (l0 l1 : Λ) : Ω (Λ × Int) := ((c141 l0).bind fun t1 => (if t1 = true then some (([] : Λ), 2) else ((c141 l1).bind fun t2 => (if t2 = true then some (([] : Λ), 2) else ((c129 l0 l1).bind fun t3 => (if t3 < 0 then some (([] : Λ), 10) else ((c142 l0).bind fun t4 => (if 0 ≤ t4 then (if t4 ≤ (ln l0) then ((some (l0.take t4.toNat) : Ω (Λ)).bind fun y5 => ((c142 l1).bind fun t6 => (if 0 ≤ t6 then (if t6 ≤ (ln l1) then ((some (l1.take t6.toNat) : Ω (Λ)).bind fun y7 => (if 0 ≤ (ln y5) then (if (ln y5).toNat ≤ 35184372088832 then k2037 y7 0 0 y5 (ln y5) (List.replicate (ln y5).toNat (0 : Int)) else none) else none)) else none) else none))) else none) else none))))))))
noncomputable def b255 (c129 : T6) (c141 : T5) (c142 : T0) (c143 : T7) (c158 : T3) (x0 : Λ) : Ω (Λ × Int) := ((c143 x0).bind fun t1 => some (t1.1, t1.2))
noncomputable def b2037 (c129 : T6) (c141 : T5) (c142 : T0) (c143 : T7) (c158 : T3) (k255 : T7) (k260711 : Λ→Int→Int→Int→Int→Λ→Int→Λ→Ω (Λ × Int)) (x0 : Λ) (x1 x2 : Int) (x3 : Λ) (x4 : Int) (x5 : Λ) : Ω (Λ × Int) := (if x2 < x4 then (if 0 ≤ x2 then (if x2 < (ln x3) then (if x2 < (ln x0) then (if 0 ≤ x2 then (if x2 < (ln x0) then k260711 x0 x1 x2 (rd x3 x2) (rd x0 x2) x3 x4 x5 else none) else none) else k260711 x0 x1 x2 (rd x3 x2) 0 x3 x4 x5) else none) else none) else k255 x5)
noncomputable def b260711 (c129 : T6) (c141 : T5) (c142 : T0) (c143 : T7) (c158 : T3) (k2037 : T63) (x0 : Λ) (x1 x2 x3 x4 : Int) (x5 : Λ) (x6 : Int) (x7 : Λ) : Ω (Λ × Int) := ((c158 x3 x4 x1).bind fun t1 => (if 0 ≤ x2 then (if x2 < (ln x7) then k2037 x0 t1.2 (wrap64 (x2 + 1)) x5 x6 (x7.set (x2 : Int).toNat t1.1) else none) else none))
noncomputable def l255 (n : Nat) (x0 : Λ) : Ω (Λ × Int) := b255 (nat_Cmp.f n) (nat_big.f n) (nat_size.f n) (nat_cut.f n) bits_Sub64.f x0
noncomputable def l260711 (n : Nat) (k2037 : T63) (x0 : Λ) (x1 x2 x3 x4 : Int) (x5 : Λ) (x6 : Int) (x7 : Λ) : Ω (Λ × Int) := b260711 (nat_Cmp.f n) (nat_big.f n) (nat_size.f n) (nat_cut.f n) bits_Sub64.f k2037 x0 x1 x2 x3 x4 x5 x6 x7
noncomputable def l2037 (n : Nat) : Nat→Λ→Int→Int→Λ→Int→Λ→Ω (Λ × Int)
  | 0, _, _, _, _, _, _ => none
  | m + 1, x0, x1, x2, x3, x4, x5 => b2037 (nat_Cmp.f n) (nat_big.f n) (nat_size.f n) (nat_cut.f n) bits_Sub64.f (l255 n) (l260711 n (l2037 n m)) x0 x1 x2 x3 x4 x5
noncomputable def f (n : Nat) (l0 l1 : Λ) : Ω (Λ × Int) := b0 (nat_Cmp.f n) (nat_big.f n) (nat_size.f n) (nat_cut.f n) bits_Sub64.f (l2037 n n) l0 l1
noncomputable def sg : Sig (Λ × Int) := s2 (sRow .u64) (s1 (sInt .i64))
noncomputable def code : Code := (Tryz.f128.body).getD .skip
noncomputable def cfg (c129 : T6) (c141 : T5) (c142 : T0) (c143 : T7) (c158 : T3) : Cfg (Λ × Int) := { T := tys, call := orCall 129 (nat_Cmp.call c129) (orCall 141 (nat_big.call c141) (orCall 142 (nat_size.call c142) (orCall 143 (nat_cut.call c143) (orCall 158 (bits_Sub64.call c158) (noCall))))) }
noncomputable def cuts : List (Nat × List (Nat × Want)) := [(255, [(6, .keep)]), (2037, [(1, .keep), (6, .keep), (7, .keep), (32, .keep), (33, .keep), (34, .keep)]), (260711, [(1, .keep), (6, .keep), (7, .keep), (8, .keep), (9, .keep), (10, .keep), (32, .keep), (33, .keep), (34, .keep)])]
noncomputable def s255 (x0 : Λ) : ASt := ⟨[(6, .own 0)], [.ints 24 .u64 x0]⟩
noncomputable def s2037 (x0 : Λ) (x1 x2 : Int) (x3 : Λ) (x4 : Int) (x5 : Λ) : ASt := ⟨[(1, .ro .u64 x0), (6, .own 0), (7, .int .u64 x1), (32, .ro .u64 x3), (33, .int .i64 x4), (34, .int .i64 x2)], [.ints 24 .u64 x5]⟩
noncomputable def s260711 (x0 : Λ) (x1 x2 x3 x4 : Int) (x5 : Λ) (x6 : Int) (x7 : Λ) : ASt := ⟨[(1, .ro .u64 x0), (6, .own 0), (7, .int .u64 x1), (8, .int .i64 x2), (9, .int .u64 x3), (10, .int .u64 x4), (32, .ro .u64 x5), (33, .int .i64 x6), (34, .int .i64 x2)], [.ints 24 .u64 x7]⟩
noncomputable def A (c129 : T6) (c141 : T5) (c142 : T0) (c143 : T7) (c158 : T3) (n : Nat) (J : Jt (Λ × Int)) (q : Nat) (ms : List Nat) : ASt→Ω (Λ × Int) := acont (cfg c129 c141 c142 c143 c158) J cuts n q code 1 ms (aend (cfg c129 c141 c142 c143 c158) Tryz.f128.results.toList [false, false] sg.out)
theorem e0 {c129 c141 c142 c143 c158 n J l0 l1} : afun (cfg c129 c141 c142 c143 c158) J cuts n code Tryz.f128.results.toList [false, false] [.ro .u64 l0, .ro .u64 l1] sg.out = b0 c129 c141 c142 c143 c158 (fun y0 y1 y2 y3 y4 y5 => J 2037 (A c129 c141 c142 c143 c158 n J 2037 [n]) (s2037 y0 y1 y2 y3 y4 y5)) l0 l1 := by kernel_rfl
theorem e255 {c129 c141 c142 c143 c158 n J x0} : A c129 c141 c142 c143 c158 n J 255 [] (s255 x0) = b255 c129 c141 c142 c143 c158 x0 := by kernel_rfl
theorem e2037 {c129 c141 c142 c143 c158 n J m x0 x1 x2 x3 x4 x5} : A c129 c141 c142 c143 c158 n J 2037 [m + 1] (s2037 x0 x1 x2 x3 x4 x5) = b2037 c129 c141 c142 c143 c158 (fun y0 => J 255 (A c129 c141 c142 c143 c158 n J 255 []) (s255 y0)) (fun y0 y1 y2 y3 y4 y5 y6 y7 => J 260711 (A c129 c141 c142 c143 c158 n J 260711 [m]) (s260711 y0 y1 y2 y3 y4 y5 y6 y7)) x0 x1 x2 x3 x4 x5 := by kernel_rfl
theorem e260711 {c129 c141 c142 c143 c158 n J m2037 x0 x1 x2 x3 x4 x5 x6 x7} : A c129 c141 c142 c143 c158 n J 260711 [m2037] (s260711 x0 x1 x2 x3 x4 x5 x6 x7) = b260711 c129 c141 c142 c143 c158 (fun y0 y1 y2 y3 y4 y5 => J 2037 (A c129 c141 c142 c143 c158 n J 2037 [m2037]) (s2037 y0 y1 y2 y3 y4 y5)) x0 x1 x2 x3 x4 x5 x6 x7 := by kernel_rfl
noncomputable abbrev I (n : Nat) := A (nat_Cmp.f n) (nat_big.f n) (nat_size.f n) (nat_cut.f n) bits_Sub64.f n idJ
theorem q255 (n x0) : I n 255 [] (s255 x0) = l255 n x0 := e255
theorem q260711 (n m2037 x0 x1 x2 x3 x4 x5 x6 x7) : I n 260711 [m2037] (s260711 x0 x1 x2 x3 x4 x5 x6 x7) = l260711 n (fun y0 y1 y2 y3 y4 y5 => I n 2037 [m2037] (s2037 y0 y1 y2 y3 y4 y5)) x0 x1 x2 x3 x4 x5 x6 x7 := e260711
theorem q2037 (n m) : ∀ x0 x1 x2 x3 x4 x5, I n 2037 [m] (s2037 x0 x1 x2 x3 x4 x5) = l2037 n m x0 x1 x2 x3 x4 x5 := by
  induction m with
  | zero => intros; rfl
  | succ m ih =>
    intros
    exact e2037.trans (Eq.trans (cf6 (congr (congrArg (b2037 _ _ _ _ _) (fu1 (q255 n))) ((fu8 (q260711 n m)).trans (by rw [show (fun y0 y1 y2 y3 y4 y5 => I n 2037 [m] (s2037 y0 y1 y2 y3 y4 y5)) = _ from (fu6 (ih))]))) _ _ _ _ _ _) rfl)
theorem ok {n  l0 l1 r} (h : f n l0 l1 = some r) : CallD Tryz.prog HW 128 [.ro .u64 l0, .ro .u64 l1] (sg.enc r) :=
  fun_some hwS Tryz.func128 (by kernel_rfl) (body := code) (by kernel_rfl) tys_ok (c := cfg (nat_Cmp.f n) (nat_big.f n) (nat_size.f n) (nat_cut.f n) bits_Sub64.f) (orCall_ok (nat_Cmp.call_ok (n := n)) (orCall_ok (nat_big.call_ok (n := n)) (orCall_ok (nat_size.call_ok (n := n)) (orCall_ok (nat_cut.call_ok (n := n)) (orCall_ok bits_Sub64.call_ok noCall_ok))))) noW_ok (by kernel_rfl) (by kernel_rfl) (Nat.le_of_ble_eq_true (by kernel_rfl)) (Eq.trans ((e0 (n := n)).trans (Eq.trans (cf2 (congrArg (b0 _ _ _ _ _) (fu6 (q2037 n n))) _ _) rfl)) h)
noncomputable def call {α : Type} (g : T8) (ds : List D) (K : List D→Ω α) : Ω α := match ds with
  | [.ro .u64 l0, .ro .u64 l1] => (g l0 l1).bind fun r => K (sg.enc r)
  | _ => none
theorem call_ok {α : Type} {n : Nat} : COK Tryz.prog HW 128 (call (α := α) (f n)) := fun _ _ _ h => by
  unfold call at h; split at h
  · exact cok h fun _ => ok
  · cases h
end nat_Sub
/-! ### soft_term_plus: function 112 -/
namespace soft_term_plus
noncomputable def b0 (c128 : T8) (c129 : T6) (c130 : T8) (c151 : T56) (a0 : Bool) (l1 : Λ) (a2 : Int) (a3 : Bool) (l4 : Λ) (a5 : Int) : Ω (Bool × Λ × Int) := ((c151 l1 a2 l4 a5).bind fun t1 => (if (a0 == a3) = true then ((c130 t1.1 t1.2.1).bind fun t2 => some (a0, t2.1, t1.2.2)) else ((c129 t1.1 t1.2.1).bind fun t3 => (if t3 = 0 then some (false, ([] : Λ), 0) else (if t3 = 1 then ((c128 t1.1 t1.2.1).bind fun t4 => some (a0, t4.1, t1.2.2)) else ((c128 t1.2.1 t1.1).bind fun t5 => some (a3, t5.1, t1.2.2)))))))
noncomputable def f (n : Nat) (a0 : Bool) (l1 : Λ) (a2 : Int) (a3 : Bool) (l4 : Λ) (a5 : Int) : Ω (Bool × Λ × Int) := b0 (nat_Sub.f n) (nat_Cmp.f n) (nat_Add.f n) (soft_aligned.f n) a0 l1 a2 a3 l4 a5
noncomputable def sg : Sig (Bool × Λ × Int) := s1 (sAgg (s2 (sBool) (s2 (sRow .u64) (s1 (sInt .i64)))))
noncomputable def code : Code := (Tryz.f112.body).getD .skip
noncomputable def cfg (c128 : T8) (c129 : T6) (c130 : T8) (c151 : T56) : Cfg (Bool × Λ × Int) := { T := tys, call := orCall 128 (nat_Sub.call c128) (orCall 129 (nat_Cmp.call c129) (orCall 130 (nat_Add.call c130) (orCall 151 (soft_aligned.call c151) (noCall)))) }
noncomputable def cuts : List (Nat × List (Nat × Want)) := []
theorem e0 {c128 c129 c130 c151 n J a0 l1 a2 a3 l4 a5} : afun (cfg c128 c129 c130 c151) J cuts n code Tryz.f112.results.toList [false] [.agg [.bool a0, .ro .u64 l1, .int .i64 a2], .agg [.bool a3, .ro .u64 l4, .int .i64 a5]] sg.out = b0 c128 c129 c130 c151 a0 l1 a2 a3 l4 a5 := by kernel_rfl
theorem ok {n  a0 l1 a2 a3 l4 a5 r} (h : f n a0 l1 a2 a3 l4 a5 = some r) : CallD Tryz.prog HW 112 [.agg [.bool a0, .ro .u64 l1, .int .i64 a2], .agg [.bool a3, .ro .u64 l4, .int .i64 a5]] (sg.enc r) :=
  fun_some hwS Tryz.func112 (by kernel_rfl) (body := code) (by kernel_rfl) tys_ok (c := cfg (nat_Sub.f n) (nat_Cmp.f n) (nat_Add.f n) (soft_aligned.f n)) (orCall_ok (nat_Sub.call_ok (n := n)) (orCall_ok (nat_Cmp.call_ok (n := n)) (orCall_ok (nat_Add.call_ok (n := n)) (orCall_ok (soft_aligned.call_ok (n := n)) noCall_ok)))) noW_ok (by kernel_rfl) (by kernel_rfl) (Nat.le_of_ble_eq_true (by kernel_rfl)) (Eq.trans ((e0 (n := n))) h)
noncomputable def call {α : Type} (g : T33) (ds : List D) (K : List D→Ω α) : Ω α := match ds with
  | [.agg [.bool a0, .ro .u64 l1, .int .i64 a2], .agg [.bool a3, .ro .u64 l4, .int .i64 a5]] => (g a0 l1 a2 a3 l4 a5).bind fun r => K (sg.enc r)
  | _ => none
theorem call_ok {α : Type} {n : Nat} : COK Tryz.prog HW 112 (call (α := α) (f n)) := fun _ _ _ h => by
  unfold call at h; split at h
  · exact cok h fun _ => ok
  · cases h
end soft_term_plus
/-! ### ieee_near: function 90 -/
namespace ieee_near
noncomputable def b0 (a0 : Int) : Ω (Int) := some (mx (-1099511627776) (mn 1099511627776 a0))
noncomputable def f (a0 : Int) : Ω (Int) := b0 a0
noncomputable def sg : Sig (Int) := s1 (sInt .i64)
noncomputable def code : Code := (Tryz.f90.body).getD .skip
noncomputable def cfg : Cfg (Int) := { T := tys, call := noCall }
noncomputable def cuts : List (Nat × List (Nat × Want)) := []
theorem e0 {n J a0} : afun cfg J cuts n code Tryz.f90.results.toList [false] [.int .i64 a0] sg.out = b0 a0 := by kernel_rfl
theorem ok {a0 r} (h : f a0 = some r) : CallD Tryz.prog HW 90 [.int .i64 a0] (sg.enc r) :=
  fun_some hwS Tryz.func90 (by kernel_rfl) (body := code) (by kernel_rfl) tys_ok (c := cfg) noCall_ok noW_ok (by kernel_rfl) (by kernel_rfl) (Nat.le_of_ble_eq_true (by kernel_rfl)) (Eq.trans ((e0 (n := 0))) h)
noncomputable def call {α : Type} (g : T4) (ds : List D) (K : List D→Ω α) : Ω α := match ds with
  | [.int .i64 a0] => (g a0).bind fun r => K (sg.enc r)
  | _ => none
theorem call_ok {α : Type} : COK Tryz.prog HW 90 (call (α := α) f) := fun _ _ _ h => by
  unfold call at h; split at h
  · exact cok h fun _ => ok
  · cases h
end ieee_near
/-! ### bits_Len64: function 67 -/
namespace bits_Len64
def f (a0 : Int) : Ω (Int) := if 0 ≤ a0 ∧ a0 ≤ 18446744073709551615 then some (Lib.bitLen a0.toNat : Nat) else none
def sg : Sig (Int) := s1 (sInt .i64)
theorem ok {a0 : Int} {r : Int} (h : f a0 = some r) : CallD Tryz.prog HW 67 [.int .u64 a0] (sg.enc r) := by
  unfold f at h
  split at h
  · rename_i hh
    obtain rfl := Option.some.inj h
    refine calld_scal rfl rfl fun w _ => .inl ⟨_, Tryz.func67, by kernel_rfl, by kernel_rfl, (Go.Proofs.YtobocamcoaeliaaGreatDoorG.len64 a0 w hh.1 hh.2).mono ?_⟩
    rintro e w' ⟨rfl, rfl⟩
    exact ⟨_, rfl, rfl, rfl⟩
  · cases h
noncomputable def call {α : Type} (g : T4) (ds : List D) (K : List D→Ω α) : Ω α := match ds with
  | [.int .u64 a0] => (g a0).bind fun r => K (sg.enc r)
  | _ => none
theorem call_ok {α : Type} : COK Tryz.prog HW 67 (call (α := α) f) := fun _ _ _ h => by
  unfold call at h; split at h
  · exact cok h fun _ => ok
  · cases h
end bits_Len64
/-! ### nat_BitLen: function 119 -/
namespace nat_BitLen
noncomputable def b0 (c67 : T4) (c142 : T0) (l0 : Λ) : Ω (Int) := ((c142 l0).bind fun t1 => (if t1 = 0 then some 0 else (if 0 ≤ (wrap64 (t1 - 1)) then (if (wrap64 (t1 - 1)) < (ln l0) then ((c67 (rd l0 (wrap64 (t1 - 1)))).bind fun t2 => some (wrap64 ((wrap64 (64 * (wrap64 (t1 - 1)))) + t2))) else none) else none)))
noncomputable def f (n : Nat) (l0 : Λ) : Ω (Int) := b0 bits_Len64.f (nat_size.f n) l0
noncomputable def sg : Sig (Int) := s1 (sInt .i64)
noncomputable def code : Code := (Tryz.f119.body).getD .skip
noncomputable def cfg (c67 : T4) (c142 : T0) : Cfg (Int) := { T := tys, call := orCall 67 (bits_Len64.call c67) (orCall 142 (nat_size.call c142) (noCall)) }
noncomputable def cuts : List (Nat × List (Nat × Want)) := []
theorem e0 {c67 c142 n J l0} : afun (cfg c67 c142) J cuts n code Tryz.f119.results.toList [false] [.ro .u64 l0] sg.out = b0 c67 c142 l0 := by kernel_rfl
theorem ok {n  l0 r} (h : f n l0 = some r) : CallD Tryz.prog HW 119 [.ro .u64 l0] (sg.enc r) :=
  fun_some hwS Tryz.func119 (by kernel_rfl) (body := code) (by kernel_rfl) tys_ok (c := cfg bits_Len64.f (nat_size.f n)) (orCall_ok bits_Len64.call_ok (orCall_ok (nat_size.call_ok (n := n)) noCall_ok)) noW_ok (by kernel_rfl) (by kernel_rfl) (Nat.le_of_ble_eq_true (by kernel_rfl)) (Eq.trans ((e0 (n := n))) h)
noncomputable def call {α : Type} (g : T0) (ds : List D) (K : List D→Ω α) : Ω α := match ds with
  | [.ro .u64 l0] => (g l0).bind fun r => K (sg.enc r)
  | _ => none
theorem call_ok {α : Type} {n : Nat} : COK Tryz.prog HW 119 (call (α := α) (f n)) := fun _ _ _ h => by
  unfold call at h; split at h
  · exact cok h fun _ => ok
  · cases h
end nat_BitLen
/-! ### bits_TrailingZeros64: function 69 -/
namespace bits_TrailingZeros64
def f (a0 : Int) : Ω (Int) := if 0 ≤ a0 ∧ a0 < 18446744073709551616 then some (Lib.ctz 64 a0.toNat : Nat) else none
def sg : Sig (Int) := s1 (sInt .i64)
set_option maxHeartbeats 1000000 in
theorem core (x k idx : Nat) (w : World) (hx0 : ((x : Int) == 0) = false)
    (key : IntKind.u64.wrap (bits BinOp.and IntKind.u64 (x : Int) (IntKind.u64.wrap (-(x : Int))) * 285870213051353865) / 288230376151711744 = (idx : Int))
    (hi : idx < 64) (hk : k < 64) (hcell : w.cell? ⟨0, idx, none⟩ = some (.int .u8 k)) :
    Calls Tryz.prog 69 #[.int .u64 x] w fun e w' => e = .returned (.int .i64 k) ∧ w' = w := by
  go_enter Tryz.func69, Tryz.ntmps69
  go_wp2_with (simp only [key])
  go_ret
  exact ⟨rfl, rfl⟩
theorem zero (w : World) : Calls Tryz.prog 69 #[.int .u64 0] w fun e w' => e = .returned (.int .i64 64) ∧ w' = w := by
  go_enter Tryz.func69, Tryz.ntmps69
  go_wp2
  go_ret
  exact ⟨rfl, rfl⟩
theorem ok {a0 : Int} {r : Int} (h : f a0 = some r) : CallD Tryz.prog HW 69 [.int .u64 a0] (sg.enc r) := by
  unfold f at h
  split at h
  · rename_i hh
    obtain rfl := Option.some.inj h
    refine calld_scal rfl rfl fun w hw => .inl ⟨_, Tryz.func69, by kernel_rfl, by kernel_rfl, ?_⟩
    obtain ⟨x, rfl⟩ := Int.eq_ofNat_of_zero_le hh.1
    have hx : x < 18446744073709551616 := by omega
    show Calls Tryz.prog 69 #[.int .u64 x] w _
    rw [Int.toNat_natCast]
    by_cases hx0 : x = 0
    · subst hx0
      refine (zero w).mono ?_
      rintro e w' ⟨rfl, rfl⟩
      exact ⟨_, rfl, rfl, rfl⟩
    · obtain ⟨hlow, hk⟩ := Lib.lowest_bit 64 x hx0 hx
      obtain ⟨hi, htab⟩ := Lib.deBruijn64_at _ hk
      have hcell := hw _ hi
      rw [htab] at hcell
      refine (core x _ _ w (by simp; omega) (tz64_key x _ hx hx0 hlow) hi hk hcell).mono ?_
      rintro e w' ⟨rfl, rfl⟩
      exact ⟨_, rfl, rfl, rfl⟩
  · cases h
noncomputable def call {α : Type} (g : T4) (ds : List D) (K : List D→Ω α) : Ω α := match ds with
  | [.int .u64 a0] => (g a0).bind fun r => K (sg.enc r)
  | _ => none
theorem call_ok {α : Type} : COK Tryz.prog HW 69 (call (α := α) f) := fun _ _ _ h => by
  unfold call at h; split at h
  · exact cok h fun _ => ok
  · cases h
end bits_TrailingZeros64
/-! ### nat_Trail: function 120 -/
namespace nat_Trail
noncomputable def b0 (c69 : T4) (k53 : Λ→Int→Int→Ω (Int)) (l0 : Λ) : Ω (Int) := k53 l0 (ln l0) 0
noncomputable def b53 (c69 : T4) (k53 : Λ→Int→Int→Ω (Int)) (x0 : Λ) (x1 x2 : Int) : Ω (Int) := (if x2 < x1 then (if 0 ≤ x2 then (if x2 < (ln x0) then (if ¬ (rd x0 x2) = 0 then ((c69 (rd x0 x2)).bind fun t1 => some (wrap64 ((wrap64 (64 * x2)) + t1))) else k53 x0 x1 (wrap64 (x2 + 1))) else none) else none) else some 0)
noncomputable def l53 (n : Nat) : Nat→Λ→Int→Int→Ω (Int)
  | 0, _, _, _ => none
  | m + 1, x0, x1, x2 => b53 bits_TrailingZeros64.f (l53 n m) x0 x1 x2
noncomputable def f (n : Nat) (l0 : Λ) : Ω (Int) := b0 bits_TrailingZeros64.f (l53 n n) l0
noncomputable def sg : Sig (Int) := s1 (sInt .i64)
noncomputable def code : Code := (Tryz.f120.body).getD .skip
noncomputable def cfg (c69 : T4) : Cfg (Int) := { T := tys, call := orCall 69 (bits_TrailingZeros64.call c69) (noCall) }
noncomputable def cuts : List (Nat × List (Nat × Want)) := [(53, [(5, .keep), (6, .keep), (7, .keep)])]
noncomputable def s53 (x0 : Λ) (x1 x2 : Int) : ASt := ⟨[(5, .ro .u64 x0), (6, .int .i64 x1), (7, .int .i64 x2)], []⟩
noncomputable def A (c69 : T4) (n : Nat) (J : Jt (Int)) (q : Nat) (ms : List Nat) : ASt→Ω (Int) := acont (cfg c69) J cuts n q code 1 ms (aend (cfg c69) Tryz.f120.results.toList [false] sg.out)
theorem e0 {c69 n J l0} : afun (cfg c69) J cuts n code Tryz.f120.results.toList [false] [.ro .u64 l0] sg.out = b0 c69 (fun y0 y1 y2 => J 53 (A c69 n J 53 [n]) (s53 y0 y1 y2)) l0 := by kernel_rfl
theorem e53 {c69 n J m x0 x1 x2} : A c69 n J 53 [m + 1] (s53 x0 x1 x2) = b53 c69 (fun y0 y1 y2 => J 53 (A c69 n J 53 [m]) (s53 y0 y1 y2)) x0 x1 x2 := by kernel_rfl
noncomputable abbrev I (n : Nat) := A bits_TrailingZeros64.f n idJ
theorem q53 (n m) : ∀ x0 x1 x2, I n 53 [m] (s53 x0 x1 x2) = l53 n m x0 x1 x2 := by
  induction m with
  | zero => intros; rfl
  | succ m ih =>
    intros
    exact e53.trans (Eq.trans (cf3 (congrArg (b53 _) (fu3 (ih))) _ _ _) rfl)
theorem ok {n  l0 r} (h : f n l0 = some r) : CallD Tryz.prog HW 120 [.ro .u64 l0] (sg.enc r) :=
  fun_some hwS Tryz.func120 (by kernel_rfl) (body := code) (by kernel_rfl) tys_ok (c := cfg bits_TrailingZeros64.f) (orCall_ok bits_TrailingZeros64.call_ok noCall_ok) noW_ok (by kernel_rfl) (by kernel_rfl) (Nat.le_of_ble_eq_true (by kernel_rfl)) (Eq.trans ((e0 (n := n)).trans (Eq.trans (cf1 (congrArg (b0 _) (fu3 (q53 n n))) _) rfl)) h)
noncomputable def call {α : Type} (g : T0) (ds : List D) (K : List D→Ω α) : Ω α := match ds with
  | [.ro .u64 l0] => (g l0).bind fun r => K (sg.enc r)
  | _ => none
theorem call_ok {α : Type} {n : Nat} : COK Tryz.prog HW 120 (call (α := α) (f n)) := fun _ _ _ h => by
  unfold call at h; split at h
  · exact cok h fun _ => ok
  · cases h
end nat_Trail
/-! ### nat_Shr: function 144 -/
namespace nat_Shr
noncomputable def b0 (c120 : T0) (c141 : T5) (c142 : T0) (c143 : T7) (k31 : Λ→Int→Bool→Ω (Λ × Bool × Int)) (l0 : Λ) (a1 : Int) : Ω (Λ × Bool × Int) := ((c141 l0).bind fun t1 => (if t1 = true then some (([] : Λ), false, 2) else (if a1 < 0 then some (([] : Λ), false, 1) else ((c142 l0).bind fun t2 => (if t2 > 0 then ((c120 l0).bind fun t3 => k31 l0 a1 (decide (t3 < a1))) else k31 l0 a1 false)))))
noncomputable def b31 (c120 : T0) (c141 : T5) (c142 : T0) (c143 : T7) (k8181 : T86) (x0 : Λ) (x1 : Int) (x2 : Bool) : Ω (Λ × Bool × Int) := ((c142 x0).bind fun t1 => (if 0 ≤ t1 then (if t1 ≤ (ln x0) then ((some (x0.take t1.toNat) : Ω (Λ)).bind fun y2 => (if x1 ≥ (wrap64 (64 * (ln y2))) then some (([] : Λ), x2, 0) else (if 0 ≤ (wrap64 ((ln y2) - (wrap64 (Int.tdiv x1 64)))) then (if (wrap64 ((ln y2) - (wrap64 (Int.tdiv x1 64)))).toNat ≤ 35184372088832 then k8181 y2 x2 (wrap64 (Int.tdiv x1 64)) (IntKind.u64.wrap (Int.tmod x1 64)) (ln (List.replicate (wrap64 ((ln y2) - (wrap64 (Int.tdiv x1 64)))).toNat (0 : Int))) 0 (List.replicate (wrap64 ((ln y2) - (wrap64 (Int.tdiv x1 64)))).toNat (0 : Int)) else none) else none))) else none) else none))
noncomputable def b1023 (c120 : T0) (c141 : T5) (c142 : T0) (c143 : T7) (x0 : Bool) (x1 : Λ) : Ω (Λ × Bool × Int) := ((c143 x1).bind fun t1 => some (t1.1, x0, t1.2))
noncomputable def b8181 (c120 : T0) (c141 : T5) (c142 : T0) (c143 : T7) (k1023 : Bool→Λ→Ω (Λ × Bool × Int)) (k8181 : T86) (x0 : Λ) (x1 : Bool) (x2 x3 x4 x5 : Int) (x6 : Λ) : Ω (Λ × Bool × Int) := (if x5 < x4 then (if 0 ≤ (wrap64 (x2 + x5)) then (if (wrap64 (x2 + x5)) < (ln x0) then (if 0 ≤ x3 then (if (wrap64 ((wrap64 (x2 + x5)) + 1)) < (ln x0) then (if x3 > 0 then (if 0 ≤ (wrap64 ((wrap64 (x2 + x5)) + 1)) then (if (wrap64 ((wrap64 (x2 + x5)) + 1)) < (ln x0) then (if 0 ≤ (IntKind.u64.wrap (64 - x3)) then (if 0 ≤ x5 then (if x5 < (ln x6) then k8181 x0 x1 x2 x3 x4 (wrap64 (x5 + 1)) (x6.set (x5 : Int).toNat (Go.bits .or .u64 (shr .u64 (rd x0 (wrap64 (x2 + x5))) x3) (shl .u64 (rd x0 (wrap64 ((wrap64 (x2 + x5)) + 1))) (IntKind.u64.wrap (64 - x3))))) else none) else none) else none) else none) else none) else (if 0 ≤ x5 then (if x5 < (ln x6) then k8181 x0 x1 x2 x3 x4 (wrap64 (x5 + 1)) (x6.set (x5 : Int).toNat (shr .u64 (rd x0 (wrap64 (x2 + x5))) x3)) else none) else none)) else (if 0 ≤ x5 then (if x5 < (ln x6) then k8181 x0 x1 x2 x3 x4 (wrap64 (x5 + 1)) (x6.set (x5 : Int).toNat (shr .u64 (rd x0 (wrap64 (x2 + x5))) x3)) else none) else none)) else none) else none) else none) else k1023 x1 x6)
noncomputable def l1023 (n : Nat) (x0 : Bool) (x1 : Λ) : Ω (Λ × Bool × Int) := b1023 (nat_Trail.f n) (nat_big.f n) (nat_size.f n) (nat_cut.f n) x0 x1
noncomputable def l8181 (n : Nat) : Nat→Λ→Bool→Int→Int→Int→Int→Λ→Ω (Λ × Bool × Int)
  | 0, _, _, _, _, _, _, _ => none
  | m + 1, x0, x1, x2, x3, x4, x5, x6 => b8181 (nat_Trail.f n) (nat_big.f n) (nat_size.f n) (nat_cut.f n) (l1023 n) (l8181 n m) x0 x1 x2 x3 x4 x5 x6
noncomputable def l31 (n : Nat) (x0 : Λ) (x1 : Int) (x2 : Bool) : Ω (Λ × Bool × Int) := b31 (nat_Trail.f n) (nat_big.f n) (nat_size.f n) (nat_cut.f n) (l8181 n n) x0 x1 x2
noncomputable def f (n : Nat) (l0 : Λ) (a1 : Int) : Ω (Λ × Bool × Int) := b0 (nat_Trail.f n) (nat_big.f n) (nat_size.f n) (nat_cut.f n) (l31 n) l0 a1
noncomputable def sg : Sig (Λ × Bool × Int) := s2 (sRow .u64) (s2 (sBool) (s1 (sInt .i64)))
noncomputable def code : Code := (Tryz.f144.body).getD .skip
noncomputable def cfg (c120 : T0) (c141 : T5) (c142 : T0) (c143 : T7) : Cfg (Λ × Bool × Int) := { T := tys, call := orCall 120 (nat_Trail.call c120) (orCall 141 (nat_big.call c141) (orCall 142 (nat_size.call c142) (orCall 143 (nat_cut.call c143) (noCall)))) }
noncomputable def cuts : List (Nat × List (Nat × Want)) := [(31, [(0, .keep), (1, .keep), (7, .keep)]), (1023, [(7, .keep), (10, .keep)]), (8181, [(0, .keep), (7, .keep), (8, .keep), (9, .keep), (10, .keep), (49, .keep), (50, .keep)])]
noncomputable def s31 (x0 : Λ) (x1 : Int) (x2 : Bool) : ASt := ⟨[(0, .ro .u64 x0), (1, .int .i64 x1), (7, .bool x2)], []⟩
noncomputable def s1023 (x0 : Bool) (x1 : Λ) : ASt := ⟨[(7, .bool x0), (10, .own 0)], [.ints 24 .u64 x1]⟩
noncomputable def s8181 (x0 : Λ) (x1 : Bool) (x2 x3 x4 x5 : Int) (x6 : Λ) : ASt := ⟨[(0, .ro .u64 x0), (7, .bool x1), (8, .int .i64 x2), (9, .int .u64 x3), (10, .own 0), (49, .int .i64 x4), (50, .int .i64 x5)], [.ints 24 .u64 x6]⟩
noncomputable def A (c120 : T0) (c141 : T5) (c142 : T0) (c143 : T7) (n : Nat) (J : Jt (Λ × Bool × Int)) (q : Nat) (ms : List Nat) : ASt→Ω (Λ × Bool × Int) := acont (cfg c120 c141 c142 c143) J cuts n q code 1 ms (aend (cfg c120 c141 c142 c143) Tryz.f144.results.toList [false, false, false] sg.out)
theorem e0 {c120 c141 c142 c143 n J l0 a1} : afun (cfg c120 c141 c142 c143) J cuts n code Tryz.f144.results.toList [false, false, false] [.ro .u64 l0, .int .i64 a1] sg.out = b0 c120 c141 c142 c143 (fun y0 y1 y2 => J 31 (A c120 c141 c142 c143 n J 31 []) (s31 y0 y1 y2)) l0 a1 := by kernel_rfl
theorem e31 {c120 c141 c142 c143 n J x0 x1 x2} : A c120 c141 c142 c143 n J 31 [] (s31 x0 x1 x2) = b31 c120 c141 c142 c143 (fun y0 y1 y2 y3 y4 y5 y6 => J 8181 (A c120 c141 c142 c143 n J 8181 [n]) (s8181 y0 y1 y2 y3 y4 y5 y6)) x0 x1 x2 := by kernel_rfl
theorem e1023 {c120 c141 c142 c143 n J x0 x1} : A c120 c141 c142 c143 n J 1023 [] (s1023 x0 x1) = b1023 c120 c141 c142 c143 x0 x1 := by kernel_rfl
theorem e8181 {c120 c141 c142 c143 n J m x0 x1 x2 x3 x4 x5 x6} : A c120 c141 c142 c143 n J 8181 [m + 1] (s8181 x0 x1 x2 x3 x4 x5 x6) = b8181 c120 c141 c142 c143 (fun y0 y1 => J 1023 (A c120 c141 c142 c143 n J 1023 []) (s1023 y0 y1)) (fun y0 y1 y2 y3 y4 y5 y6 => J 8181 (A c120 c141 c142 c143 n J 8181 [m]) (s8181 y0 y1 y2 y3 y4 y5 y6)) x0 x1 x2 x3 x4 x5 x6 := by kernel_rfl
noncomputable abbrev I (n : Nat) := A (nat_Trail.f n) (nat_big.f n) (nat_size.f n) (nat_cut.f n) n idJ
theorem q1023 (n x0 x1) : I n 1023 [] (s1023 x0 x1) = l1023 n x0 x1 := e1023
theorem q8181 (n m) : ∀ x0 x1 x2 x3 x4 x5 x6, I n 8181 [m] (s8181 x0 x1 x2 x3 x4 x5 x6) = l8181 n m x0 x1 x2 x3 x4 x5 x6 := by
  induction m with
  | zero => intros; rfl
  | succ m ih =>
    intros
    exact e8181.trans (Eq.trans (cf7 (congr (congrArg (b8181 _ _ _ _) (fu2 (q1023 n))) (fu7 (ih))) _ _ _ _ _ _ _) rfl)
theorem q31 (n x0 x1 x2) : I n 31 [] (s31 x0 x1 x2) = l31 n x0 x1 x2 := e31.trans (Eq.trans (cf3 (congrArg (b31 _ _ _ _) (fu7 (q8181 n n))) _ _ _) rfl)
theorem ok {n  l0 a1 r} (h : f n l0 a1 = some r) : CallD Tryz.prog HW 144 [.ro .u64 l0, .int .i64 a1] (sg.enc r) :=
  fun_some hwS Tryz.func144 (by kernel_rfl) (body := code) (by kernel_rfl) tys_ok (c := cfg (nat_Trail.f n) (nat_big.f n) (nat_size.f n) (nat_cut.f n)) (orCall_ok (nat_Trail.call_ok (n := n)) (orCall_ok (nat_big.call_ok (n := n)) (orCall_ok (nat_size.call_ok (n := n)) (orCall_ok (nat_cut.call_ok (n := n)) noCall_ok)))) noW_ok (by kernel_rfl) (by kernel_rfl) (Nat.le_of_ble_eq_true (by kernel_rfl)) (Eq.trans ((e0 (n := n)).trans (Eq.trans (cf2 (congrArg (b0 _ _ _ _) (fu3 (q31 n))) _ _) rfl)) h)
noncomputable def call {α : Type} (g : T25) (ds : List D) (K : List D→Ω α) : Ω α := match ds with
  | [.ro .u64 l0, .int .i64 a1] => (g l0 a1).bind fun r => K (sg.enc r)
  | _ => none
theorem call_ok {α : Type} {n : Nat} : COK Tryz.prog HW 144 (call (α := α) (f n)) := fun _ _ _ h => by
  unfold call at h; split at h
  · exact cok h fun _ => ok
  · cases h
end nat_Shr
/-! ### nat_ToUint: function 145 -/
namespace nat_ToUint
noncomputable def b0 (c142 : T0) (l0 : Λ) : Ω (Int × Bool) := ((c142 l0).bind fun t1 => (if t1 = 0 then some (0, true) else (if t1 = 1 then (if 0 < (ln l0) then some (rd l0 0, true) else none) else some (0, false))))
noncomputable def f (n : Nat) (l0 : Λ) : Ω (Int × Bool) := b0 (nat_size.f n) l0
noncomputable def sg : Sig (Int × Bool) := s2 (sInt .u64) (s1 (sBool))
noncomputable def code : Code := (Tryz.f145.body).getD .skip
noncomputable def cfg (c142 : T0) : Cfg (Int × Bool) := { T := tys, call := orCall 142 (nat_size.call c142) (noCall) }
noncomputable def cuts : List (Nat × List (Nat × Want)) := []
theorem e0 {c142 n J l0} : afun (cfg c142) J cuts n code Tryz.f145.results.toList [false, false] [.ro .u64 l0] sg.out = b0 c142 l0 := by kernel_rfl
theorem ok {n  l0 r} (h : f n l0 = some r) : CallD Tryz.prog HW 145 [.ro .u64 l0] (sg.enc r) :=
  fun_some hwS Tryz.func145 (by kernel_rfl) (body := code) (by kernel_rfl) tys_ok (c := cfg (nat_size.f n)) (orCall_ok (nat_size.call_ok (n := n)) noCall_ok) noW_ok (by kernel_rfl) (by kernel_rfl) (Nat.le_of_ble_eq_true (by kernel_rfl)) (Eq.trans ((e0 (n := n))) h)
noncomputable def call {α : Type} (g : T57) (ds : List D) (K : List D→Ω α) : Ω α := match ds with
  | [.ro .u64 l0] => (g l0).bind fun r => K (sg.enc r)
  | _ => none
theorem call_ok {α : Type} {n : Nat} : COK Tryz.prog HW 145 (call (α := α) (f n)) := fun _ _ _ h => by
  unfold call at h; split at h
  · exact cok h fun _ => ok
  · cases h
end nat_ToUint
/-! ### nat_Bit: function 146 -/
namespace nat_Bit
noncomputable def b0 (l0 : Λ) (a1 : Int) : Ω (Int) := (if a1 < 0 then some 0 else (if (wrap64 (Int.tdiv a1 64)) ≥ (ln l0) then some 0 else (if 0 ≤ (wrap64 (Int.tdiv a1 64)) then (if (wrap64 (Int.tdiv a1 64)) < (ln l0) then (if 0 ≤ (IntKind.u64.wrap (Int.tmod a1 64)) then some (wrap64 (Go.bits .and .u64 (shr .u64 (rd l0 (wrap64 (Int.tdiv a1 64))) (IntKind.u64.wrap (Int.tmod a1 64))) 1)) else none) else none) else none)))
noncomputable def f (l0 : Λ) (a1 : Int) : Ω (Int) := b0 l0 a1
noncomputable def sg : Sig (Int) := s1 (sInt .i64)
noncomputable def code : Code := (Tryz.f146.body).getD .skip
noncomputable def cfg : Cfg (Int) := { T := tys, call := noCall }
noncomputable def cuts : List (Nat × List (Nat × Want)) := []
theorem e0 {n J l0 a1} : afun cfg J cuts n code Tryz.f146.results.toList [false] [.ro .u64 l0, .int .i64 a1] sg.out = b0 l0 a1 := by kernel_rfl
theorem ok {l0 a1 r} (h : f l0 a1 = some r) : CallD Tryz.prog HW 146 [.ro .u64 l0, .int .i64 a1] (sg.enc r) :=
  fun_some hwS Tryz.func146 (by kernel_rfl) (body := code) (by kernel_rfl) tys_ok (c := cfg) noCall_ok noW_ok (by kernel_rfl) (by kernel_rfl) (Nat.le_of_ble_eq_true (by kernel_rfl)) (Eq.trans ((e0 (n := 0))) h)
noncomputable def call {α : Type} (g : T16) (ds : List D) (K : List D→Ω α) : Ω α := match ds with
  | [.ro .u64 l0, .int .i64 a1] => (g l0 a1).bind fun r => K (sg.enc r)
  | _ => none
theorem call_ok {α : Type} : COK Tryz.prog HW 146 (call (α := α) f) := fun _ _ _ h => by
  unfold call at h; split at h
  · exact cok h fun _ => ok
  · cases h
end nat_Bit
/-! ### ieee_magnitude: function 89 -/
namespace ieee_magnitude
noncomputable def b0 (c119 c120 : T0) (c144 : T25) (c145 : T57) (c146 : T16) (k255 : T10) (l0 : Λ) (a1 : Int) (a2 : Bool) : Ω (Int) := ((c119 l0).bind fun t1 => (if (ln l0) = 0 then some 0 else (if (wrap64 (t1 + a1)) < (-1074) then some 0 else (if (wrap64 (t1 + a1)) > 1024 then some 9218868437227405312 else (if (wrap64 ((mx (wrap64 ((wrap64 (t1 + a1)) - 53)) (-1074)) - a1)) ≤ 0 then (if 0 < (ln l0) then (if 0 ≤ (IntKind.u64.wrap (wrap64 (-(wrap64 ((mx (wrap64 ((wrap64 (t1 + a1)) - 53)) (-1074)) - a1))))) then k255 (mx (wrap64 ((wrap64 (t1 + a1)) - 53)) (-1074)) (shl .u64 (rd l0 0) (IntKind.u64.wrap (wrap64 (-(wrap64 ((mx (wrap64 ((wrap64 (t1 + a1)) - 53)) (-1074)) - a1)))))) else none) else none) else ((c144 l0 (wrap64 ((mx (wrap64 ((wrap64 (t1 + a1)) - 53)) (-1074)) - a1))).bind fun t2 => ((c145 t2.1).bind fun t3 => ((c146 l0 (wrap64 ((wrap64 ((mx (wrap64 ((wrap64 (t1 + a1)) - 53)) (-1074)) - a1)) - 1))).bind fun t4 => (if t4 = 1 then (if a2 = true then k255 (mx (wrap64 ((wrap64 (t1 + a1)) - 53)) (-1074)) (IntKind.u64.wrap (t3.1 + 1)) else (if (Go.bits .and .u64 t3.1 1) = 1 then k255 (mx (wrap64 ((wrap64 (t1 + a1)) - 53)) (-1074)) (IntKind.u64.wrap (t3.1 + 1)) else ((c120 l0).bind fun t5 => (if t5 < (wrap64 ((wrap64 ((mx (wrap64 ((wrap64 (t1 + a1)) - 53)) (-1074)) - a1)) - 1)) then k255 (mx (wrap64 ((wrap64 (t1 + a1)) - 53)) (-1074)) (IntKind.u64.wrap (t3.1 + 1)) else k255 (mx (wrap64 ((wrap64 (t1 + a1)) - 53)) (-1074)) t3.1)))) else k255 (mx (wrap64 ((wrap64 (t1 + a1)) - 53)) (-1074)) t3.1)))))))))
noncomputable def b255 (c119 c120 : T0) (c144 : T25) (c145 : T57) (c146 : T16) (x0 x1 : Int) : Ω (Int) := some (IntKind.u64.wrap ((IntKind.u64.wrap ((IntKind.u64.wrap (wrap64 (x0 - (-1074)))) * 4503599627370496)) + x1))
noncomputable def l255 (n : Nat) (x0 x1 : Int) : Ω (Int) := b255 (nat_BitLen.f n) (nat_Trail.f n) (nat_Shr.f n) (nat_ToUint.f n) nat_Bit.f x0 x1
noncomputable def f (n : Nat) (l0 : Λ) (a1 : Int) (a2 : Bool) : Ω (Int) := b0 (nat_BitLen.f n) (nat_Trail.f n) (nat_Shr.f n) (nat_ToUint.f n) nat_Bit.f (l255 n) l0 a1 a2
noncomputable def sg : Sig (Int) := s1 (sInt .u64)
noncomputable def code : Code := (Tryz.f89.body).getD .skip
noncomputable def cfg (c119 c120 : T0) (c144 : T25) (c145 : T57) (c146 : T16) : Cfg (Int) := { T := tys, call := orCall 119 (nat_BitLen.call c119) (orCall 120 (nat_Trail.call c120) (orCall 144 (nat_Shr.call c144) (orCall 145 (nat_ToUint.call c145) (orCall 146 (nat_Bit.call c146) (noCall))))) }
noncomputable def cuts : List (Nat × List (Nat × Want)) := [(255, [(8, .keep), (10, .keep)])]
noncomputable def s255 (x0 x1 : Int) : ASt := ⟨[(8, .int .i64 x0), (10, .int .u64 x1)], []⟩
noncomputable def A (c119 c120 : T0) (c144 : T25) (c145 : T57) (c146 : T16) (n : Nat) (J : Jt (Int)) (q : Nat) (ms : List Nat) : ASt→Ω (Int) := acont (cfg c119 c120 c144 c145 c146) J cuts n q code 1 ms (aend (cfg c119 c120 c144 c145 c146) Tryz.f89.results.toList [false] sg.out)
theorem e0 {c119 c120 c144 c145 c146 n J l0 a1 a2} : afun (cfg c119 c120 c144 c145 c146) J cuts n code Tryz.f89.results.toList [false] [.ro .u64 l0, .int .i64 a1, .bool a2] sg.out = b0 c119 c120 c144 c145 c146 (fun y0 y1 => J 255 (A c119 c120 c144 c145 c146 n J 255 []) (s255 y0 y1)) l0 a1 a2 := by kernel_rfl
theorem e255 {c119 c120 c144 c145 c146 n J x0 x1} : A c119 c120 c144 c145 c146 n J 255 [] (s255 x0 x1) = b255 c119 c120 c144 c145 c146 x0 x1 := by kernel_rfl
noncomputable abbrev I (n : Nat) := A (nat_BitLen.f n) (nat_Trail.f n) (nat_Shr.f n) (nat_ToUint.f n) nat_Bit.f n idJ
theorem q255 (n x0 x1) : I n 255 [] (s255 x0 x1) = l255 n x0 x1 := e255
theorem ok {n  l0 a1 a2 r} (h : f n l0 a1 a2 = some r) : CallD Tryz.prog HW 89 [.ro .u64 l0, .int .i64 a1, .bool a2] (sg.enc r) :=
  fun_some hwS Tryz.func89 (by kernel_rfl) (body := code) (by kernel_rfl) tys_ok (c := cfg (nat_BitLen.f n) (nat_Trail.f n) (nat_Shr.f n) (nat_ToUint.f n) nat_Bit.f) (orCall_ok (nat_BitLen.call_ok (n := n)) (orCall_ok (nat_Trail.call_ok (n := n)) (orCall_ok (nat_Shr.call_ok (n := n)) (orCall_ok (nat_ToUint.call_ok (n := n)) (orCall_ok nat_Bit.call_ok noCall_ok))))) noW_ok (by kernel_rfl) (by kernel_rfl) (Nat.le_of_ble_eq_true (by kernel_rfl)) (Eq.trans ((e0 (n := n)).trans (Eq.trans (cf3 (congrArg (b0 _ _ _ _ _) (fu2 (q255 n))) _ _ _) rfl)) h)
noncomputable def call {α : Type} (g : T67) (ds : List D) (K : List D→Ω α) : Ω α := match ds with
  | [.ro .u64 l0, .int .i64 a1, .bool a2] => (g l0 a1 a2).bind fun r => K (sg.enc r)
  | _ => none
theorem call_ok {α : Type} {n : Nat} : COK Tryz.prog HW 89 (call (α := α) (f n)) := fun _ _ _ h => by
  unfold call at h; split at h
  · exact cok h fun _ => ok
  · cases h
end ieee_magnitude
/-! ### ieee_Neg: function 91 -/
namespace ieee_Neg
noncomputable def b0 (a0 : Int) : Ω (Int) := some (Go.bits .xor .u64 a0 9223372036854775808)
noncomputable def f (a0 : Int) : Ω (Int) := b0 a0
noncomputable def sg : Sig (Int) := s1 (sInt .u64)
noncomputable def code : Code := (Tryz.f91.body).getD .skip
noncomputable def cfg : Cfg (Int) := { T := tys, call := noCall }
noncomputable def cuts : List (Nat × List (Nat × Want)) := []
theorem e0 {n J a0} : afun cfg J cuts n code Tryz.f91.results.toList [false] [.int .u64 a0] sg.out = b0 a0 := by kernel_rfl
theorem ok {a0 r} (h : f a0 = some r) : CallD Tryz.prog HW 91 [.int .u64 a0] (sg.enc r) :=
  fun_some hwS Tryz.func91 (by kernel_rfl) (body := code) (by kernel_rfl) tys_ok (c := cfg) noCall_ok noW_ok (by kernel_rfl) (by kernel_rfl) (Nat.le_of_ble_eq_true (by kernel_rfl)) (Eq.trans ((e0 (n := 0))) h)
noncomputable def call {α : Type} (g : T4) (ds : List D) (K : List D→Ω α) : Ω α := match ds with
  | [.int .u64 a0] => (g a0).bind fun r => K (sg.enc r)
  | _ => none
theorem call_ok {α : Type} : COK Tryz.prog HW 91 (call (α := α) f) := fun _ _ _ h => by
  unfold call at h; split at h
  · exact cok h fun _ => ok
  · cases h
end ieee_Neg
/-! ### ieee_Round: function 37 -/
namespace ieee_Round
noncomputable def b0 (c88 : T19) (c89 : T67) (c90 c91 : T4) (a0 : Bool) (l1 : Λ) (a2 : Int) (a3 : Bool) : Ω (Int × Int) := ((c88 l1 0).bind fun t1 => (if ¬ t1.2 = 0 then some (0, t1.2) else ((c90 a2).bind fun t2 => ((c89 t1.1 t2 a3).bind fun t3 => (if a0 = true then ((c91 t3).bind fun t4 => some (t4, 0)) else some (t3, 0))))))
noncomputable def f (n : Nat) (a0 : Bool) (l1 : Λ) (a2 : Int) (a3 : Bool) : Ω (Int × Int) := b0 (nat_Shl.f n) (ieee_magnitude.f n) ieee_near.f ieee_Neg.f a0 l1 a2 a3
noncomputable def sg : Sig (Int × Int) := s2 (sInt .u64) (s1 (sInt .i64))
noncomputable def code : Code := (Tryz.f37.body).getD .skip
noncomputable def cfg (c88 : T19) (c89 : T67) (c90 c91 : T4) : Cfg (Int × Int) := { T := tys, call := orCall 88 (nat_Shl.call c88) (orCall 89 (ieee_magnitude.call c89) (orCall 90 (ieee_near.call c90) (orCall 91 (ieee_Neg.call c91) (noCall)))) }
noncomputable def cuts : List (Nat × List (Nat × Want)) := []
theorem e0 {c88 c89 c90 c91 n J a0 l1 a2 a3} : afun (cfg c88 c89 c90 c91) J cuts n code Tryz.f37.results.toList [false, false] [.bool a0, .ro .u64 l1, .int .i64 a2, .bool a3] sg.out = b0 c88 c89 c90 c91 a0 l1 a2 a3 := by kernel_rfl
theorem ok {n  a0 l1 a2 a3 r} (h : f n a0 l1 a2 a3 = some r) : CallD Tryz.prog HW 37 [.bool a0, .ro .u64 l1, .int .i64 a2, .bool a3] (sg.enc r) :=
  fun_some hwS Tryz.func37 (by kernel_rfl) (body := code) (by kernel_rfl) tys_ok (c := cfg (nat_Shl.f n) (ieee_magnitude.f n) ieee_near.f ieee_Neg.f) (orCall_ok (nat_Shl.call_ok (n := n)) (orCall_ok (ieee_magnitude.call_ok (n := n)) (orCall_ok ieee_near.call_ok (orCall_ok ieee_Neg.call_ok noCall_ok)))) noW_ok (by kernel_rfl) (by kernel_rfl) (Nat.le_of_ble_eq_true (by kernel_rfl)) (Eq.trans ((e0 (n := n))) h)
noncomputable def call {α : Type} (g : T22) (ds : List D) (K : List D→Ω α) : Ω α := match ds with
  | [.bool a0, .ro .u64 l1, .int .i64 a2, .bool a3] => (g a0 l1 a2 a3).bind fun r => K (sg.enc r)
  | _ => none
theorem call_ok {α : Type} {n : Nat} : COK Tryz.prog HW 37 (call (α := α) (f n)) := fun _ _ _ h => by
  unfold call at h; split at h
  · exact cok h fun _ => ok
  · cases h
end ieee_Round
/-! ### soft_fraction_flags: function 117 -/
namespace soft_fraction_flags
noncomputable def b0 (c36 : T14) (c116 : T24) (c126 : T8) (c129 : T6) (c151 : T56) (a0 : Bool) (l1 l2 : Λ) (a3 a4 : Int) : Ω (Int) := ((c36 a4).bind fun t1 => (if t1.2.1 = 3 then some 20 else ((c116 t1.2.2.1).bind fun t2 => ((c126 l2 t2).bind fun t3 => ((c151 l1 a3 t3.1 t1.2.2.2).bind fun t4 => ((c129 t4.1 t4.2.1).bind fun t5 => (if t5 = 0 then some 0 else ((c151 l1 a3 l2 (-1022)).bind fun t6 => ((c129 t6.1 t6.2.1).bind fun t7 => (if t7 < 0 then some 24 else some 16))))))))))
noncomputable def f (n : Nat) (a0 : Bool) (l1 l2 : Λ) (a3 a4 : Int) : Ω (Int) := b0 ieee_Decode.f nat_FromUint.f (nat_Mul.f n) (nat_Cmp.f n) (soft_aligned.f n) a0 l1 l2 a3 a4
noncomputable def sg : Sig (Int) := s1 (sInt .i64)
noncomputable def code : Code := (Tryz.f117.body).getD .skip
noncomputable def cfg (c36 : T14) (c116 : T24) (c126 : T8) (c129 : T6) (c151 : T56) : Cfg (Int) := { T := tys, call := orCall 36 (ieee_Decode.call c36) (orCall 116 (nat_FromUint.call c116) (orCall 126 (nat_Mul.call c126) (orCall 129 (nat_Cmp.call c129) (orCall 151 (soft_aligned.call c151) (noCall))))) }
noncomputable def cuts : List (Nat × List (Nat × Want)) := []
theorem e0 {c36 c116 c126 c129 c151 n J a0 l1 l2 a3 a4} : afun (cfg c36 c116 c126 c129 c151) J cuts n code Tryz.f117.results.toList [false] [.agg [.bool a0, .ro .u64 l1, .ro .u64 l2, .int .i64 a3], .int .u64 a4] sg.out = b0 c36 c116 c126 c129 c151 a0 l1 l2 a3 a4 := by kernel_rfl
theorem ok {n  a0 l1 l2 a3 a4 r} (h : f n a0 l1 l2 a3 a4 = some r) : CallD Tryz.prog HW 117 [.agg [.bool a0, .ro .u64 l1, .ro .u64 l2, .int .i64 a3], .int .u64 a4] (sg.enc r) :=
  fun_some hwS Tryz.func117 (by kernel_rfl) (body := code) (by kernel_rfl) tys_ok (c := cfg ieee_Decode.f nat_FromUint.f (nat_Mul.f n) (nat_Cmp.f n) (soft_aligned.f n)) (orCall_ok ieee_Decode.call_ok (orCall_ok nat_FromUint.call_ok (orCall_ok (nat_Mul.call_ok (n := n)) (orCall_ok (nat_Cmp.call_ok (n := n)) (orCall_ok (soft_aligned.call_ok (n := n)) noCall_ok))))) noW_ok (by kernel_rfl) (by kernel_rfl) (Nat.le_of_ble_eq_true (by kernel_rfl)) (Eq.trans ((e0 (n := n))) h)
noncomputable def call {α : Type} (g : T46) (ds : List D) (K : List D→Ω α) : Ω α := match ds with
  | [.agg [.bool a0, .ro .u64 l1, .ro .u64 l2, .int .i64 a3], .int .u64 a4] => (g a0 l1 l2 a3 a4).bind fun r => K (sg.enc r)
  | _ => none
theorem call_ok {α : Type} {n : Nat} : COK Tryz.prog HW 117 (call (α := α) (f n)) := fun _ _ _ h => by
  unfold call at h; split at h
  · exact cok h fun _ => ok
  · cases h
end soft_fraction_flags
/-! ### soft_term_rounded: function 113 -/
namespace soft_term_rounded
noncomputable def b0 (c37 : T22) (c114 : T12) (c117 : T46) (a0 : Bool) (l1 : Λ) (a2 : Int) : Ω (Int × Int) := (if (ln l1) = 0 then ((c114 a0 0).bind fun t1 => some (t1, 0)) else ((c37 a0 l1 a2 false).bind fun t2 => ((c117 a0 l1 [1] a2 t2.1).bind fun t3 => some (t2.1, t3))))
noncomputable def f (n : Nat) (a0 : Bool) (l1 : Λ) (a2 : Int) : Ω (Int × Int) := b0 (ieee_Round.f n) soft_withSign.f (soft_fraction_flags.f n) a0 l1 a2
noncomputable def sg : Sig (Int × Int) := s2 (sInt .u64) (s1 (sInt .i64))
noncomputable def code : Code := (Tryz.f113.body).getD .skip
noncomputable def cfg (c37 : T22) (c114 : T12) (c117 : T46) : Cfg (Int × Int) := { T := tys, call := orCall 37 (ieee_Round.call c37) (orCall 114 (soft_withSign.call c114) (orCall 117 (soft_fraction_flags.call c117) (noCall))) }
noncomputable def cuts : List (Nat × List (Nat × Want)) := []
theorem e0 {c37 c114 c117 n J a0 l1 a2} : afun (cfg c37 c114 c117) J cuts n code Tryz.f113.results.toList [false, false] [.agg [.bool a0, .ro .u64 l1, .int .i64 a2]] sg.out = b0 c37 c114 c117 a0 l1 a2 := by kernel_rfl
theorem ok {n  a0 l1 a2 r} (h : f n a0 l1 a2 = some r) : CallD Tryz.prog HW 113 [.agg [.bool a0, .ro .u64 l1, .int .i64 a2]] (sg.enc r) :=
  fun_some hwS Tryz.func113 (by kernel_rfl) (body := code) (by kernel_rfl) tys_ok (c := cfg (ieee_Round.f n) soft_withSign.f (soft_fraction_flags.f n)) (orCall_ok (ieee_Round.call_ok (n := n)) (orCall_ok soft_withSign.call_ok (orCall_ok (soft_fraction_flags.call_ok (n := n)) noCall_ok))) noW_ok (by kernel_rfl) (by kernel_rfl) (Nat.le_of_ble_eq_true (by kernel_rfl)) (Eq.trans ((e0 (n := n))) h)
noncomputable def call {α : Type} (g : T27) (ds : List D) (K : List D→Ω α) : Ω α := match ds with
  | [.agg [.bool a0, .ro .u64 l1, .int .i64 a2]] => (g a0 l1 a2).bind fun r => K (sg.enc r)
  | _ => none
theorem call_ok {α : Type} {n : Nat} : COK Tryz.prog HW 113 (call (α := α) (f n)) := fun _ _ _ h => by
  unfold call at h; split at h
  · exact cok h fun _ => ok
  · cases h
end soft_term_rounded
/-! ### soft_fma: function 62 -/
namespace soft_fma
noncomputable def b0 (c36 : T14) (c110 : T18) (c111 : T32) (c112 : T33) (c113 : T27) (c114 : T12) (c115 : T31) (k15 : Int→Bool→Bool→Int→Int→Int→Bool→Int→Int→Int→Bool→Int→Int→Int→Ω (Int × Int)) (a0 a1 a2 : Int) : Ω (Int × Int) := ((c36 a0).bind fun t1 => ((c36 a1).bind fun t2 => ((c36 a2).bind fun t3 => (if t1.2.1 = 3 then k15 a2 true t1.1 t1.2.1 t1.2.2.1 t1.2.2.2 t2.1 t2.2.1 t2.2.2.1 t2.2.2.2 t3.1 t3.2.1 t3.2.2.1 t3.2.2.2 else k15 a2 (decide (t2.2.1 = 3)) t1.1 t1.2.1 t1.2.2.1 t1.2.2.2 t2.1 t2.2.1 t2.2.2.1 t2.2.2.2 t3.1 t3.2.1 t3.2.2.1 t3.2.2.2))))
noncomputable def b15 (c36 : T14) (c110 : T18) (c111 : T32) (c112 : T33) (c113 : T27) (c114 : T12) (c115 : T31) (k3999 : Int→Bool→Bool→Bool→Bool→Int→Int→Int→Bool→Int→Int→Int→Bool→Int→Int→Int→Ω (Int × Int)) (x0 : Int) (x1 x2 : Bool) (x3 x4 x5 : Int) (x6 : Bool) (x7 x8 x9 : Int) (x10 : Bool) (x11 x12 x13 : Int) : Ω (Int × Int) := (if x3 = 4 then some (9221120237041090560, 0) else (if x7 = 4 then some (9221120237041090560, 0) else (if x11 = 4 then some (9221120237041090560, 0) else (if x1 = true then (if x3 = 0 then ((c110).bind fun t1 => some (t1.1, t1.2)) else (if x7 = 0 then ((c110).bind fun t2 => some (t2.1, t2.2)) else (if x1 = true then (if x11 = 3 then k3999 x0 x1 (x2 != x6) (x10 != (x2 != x6)) x2 x3 x4 x5 x6 x7 x8 x9 x10 x11 x12 x13 else k3999 x0 x1 (x2 != x6) false x2 x3 x4 x5 x6 x7 x8 x9 x10 x11 x12 x13) else k3999 x0 x1 (x2 != x6) false x2 x3 x4 x5 x6 x7 x8 x9 x10 x11 x12 x13))) else (if x1 = true then (if x11 = 3 then k3999 x0 x1 (x2 != x6) (x10 != (x2 != x6)) x2 x3 x4 x5 x6 x7 x8 x9 x10 x11 x12 x13 else k3999 x0 x1 (x2 != x6) false x2 x3 x4 x5 x6 x7 x8 x9 x10 x11 x12 x13) else k3999 x0 x1 (x2 != x6) false x2 x3 x4 x5 x6 x7 x8 x9 x10 x11 x12 x13)))))
noncomputable def b3999 (c36 : T14) (c110 : T18) (c111 : T32) (c112 : T33) (c113 : T27) (c114 : T12) (c115 : T31) (x0 : Int) (x1 x2 x3 x4 : Bool) (x5 x6 x7 : Int) (x8 : Bool) (x9 x10 x11 : Int) (x12 : Bool) (x13 x14 x15 : Int) : Ω (Int × Int) := (if x3 = true then ((c110).bind fun t1 => some (t1.1, t1.2)) else (if x1 = true then ((c114 x2 9218868437227405312).bind fun t2 => some (t2, 0)) else (if x13 = 3 then some (x0, 0) else ((c115 x4 x5 x6 x7 x8 x9 x10 x11).bind fun t3 => ((c111 x12 x13 x14 x15).bind fun t4 => ((c112 t3.1 t3.2.1 t3.2.2 t4.1 t4.2.1 t4.2.2).bind fun t5 => ((c113 t5.1 t5.2.1 t5.2.2).bind fun t6 => some (t6.1, t6.2))))))))
noncomputable def l3999 (n : Nat) (x0 : Int) (x1 x2 x3 x4 : Bool) (x5 x6 x7 : Int) (x8 : Bool) (x9 x10 x11 : Int) (x12 : Bool) (x13 x14 x15 : Int) : Ω (Int × Int) := b3999 ieee_Decode.f soft_invalid.f soft_termOf.f (soft_term_plus.f n) (soft_term_rounded.f n) soft_withSign.f (soft_product.f n) x0 x1 x2 x3 x4 x5 x6 x7 x8 x9 x10 x11 x12 x13 x14 x15
noncomputable def l15 (n : Nat) (x0 : Int) (x1 x2 : Bool) (x3 x4 x5 : Int) (x6 : Bool) (x7 x8 x9 : Int) (x10 : Bool) (x11 x12 x13 : Int) : Ω (Int × Int) := b15 ieee_Decode.f soft_invalid.f soft_termOf.f (soft_term_plus.f n) (soft_term_rounded.f n) soft_withSign.f (soft_product.f n) (l3999 n) x0 x1 x2 x3 x4 x5 x6 x7 x8 x9 x10 x11 x12 x13
noncomputable def f (n : Nat) (a0 a1 a2 : Int) : Ω (Int × Int) := b0 ieee_Decode.f soft_invalid.f soft_termOf.f (soft_term_plus.f n) (soft_term_rounded.f n) soft_withSign.f (soft_product.f n) (l15 n) a0 a1 a2
noncomputable def sg : Sig (Int × Int) := s2 (sInt .u64) (s1 (sInt .i64))
noncomputable def code : Code := (Tryz.f62.body).getD .skip
noncomputable def cfg (c36 : T14) (c110 : T18) (c111 : T32) (c112 : T33) (c113 : T27) (c114 : T12) (c115 : T31) : Cfg (Int × Int) := { T := tys, call := orCall 36 (ieee_Decode.call c36) (orCall 110 (soft_invalid.call c110) (orCall 111 (soft_termOf.call c111) (orCall 112 (soft_term_plus.call c112) (orCall 113 (soft_term_rounded.call c113) (orCall 114 (soft_withSign.call c114) (orCall 115 (soft_product.call c115) (noCall))))))) }
noncomputable def cuts : List (Nat × List (Nat × Want)) := [(15, [(2, .keep), (8, .keep), (9, .keep), (10, .keep), (11, .keep)]), (3999, [(2, .keep), (8, .keep), (9, .keep), (10, .keep), (11, .keep), (12, .keep), (61, .keep)])]
noncomputable def s15 (x0 : Int) (x1 x2 : Bool) (x3 x4 x5 : Int) (x6 : Bool) (x7 x8 x9 : Int) (x10 : Bool) (x11 x12 x13 : Int) : ASt := ⟨[(2, .int .u64 x0), (8, .ptr 0 0), (9, .ptr 1 0), (10, .ptr 2 0), (11, .bool x1)], [.cells 54 [.bool x2, .int .i64 x3, .int .u64 x4, .int .i64 x5], .cells 54 [.bool x6, .int .i64 x7, .int .u64 x8, .int .i64 x9], .cells 54 [.bool x10, .int .i64 x11, .int .u64 x12, .int .i64 x13]]⟩
noncomputable def s3999 (x0 : Int) (x1 x2 x3 x4 : Bool) (x5 x6 x7 : Int) (x8 : Bool) (x9 x10 x11 : Int) (x12 : Bool) (x13 x14 x15 : Int) : ASt := ⟨[(2, .int .u64 x0), (8, .ptr 0 0), (9, .ptr 1 0), (10, .ptr 2 0), (11, .bool x1), (12, .bool x2), (61, .bool x3)], [.cells 54 [.bool x4, .int .i64 x5, .int .u64 x6, .int .i64 x7], .cells 54 [.bool x8, .int .i64 x9, .int .u64 x10, .int .i64 x11], .cells 54 [.bool x12, .int .i64 x13, .int .u64 x14, .int .i64 x15]]⟩
noncomputable def A (c36 : T14) (c110 : T18) (c111 : T32) (c112 : T33) (c113 : T27) (c114 : T12) (c115 : T31) (n : Nat) (J : Jt (Int × Int)) (q : Nat) (ms : List Nat) : ASt→Ω (Int × Int) := acont (cfg c36 c110 c111 c112 c113 c114 c115) J cuts n q code 1 ms (aend (cfg c36 c110 c111 c112 c113 c114 c115) Tryz.f62.results.toList [false, false] sg.out)
theorem e0 {c36 c110 c111 c112 c113 c114 c115 n J a0 a1 a2} : afun (cfg c36 c110 c111 c112 c113 c114 c115) J cuts n code Tryz.f62.results.toList [false, false] [.int .u64 a0, .int .u64 a1, .int .u64 a2] sg.out = b0 c36 c110 c111 c112 c113 c114 c115 (fun y0 y1 y2 y3 y4 y5 y6 y7 y8 y9 y10 y11 y12 y13 => J 15 (A c36 c110 c111 c112 c113 c114 c115 n J 15 []) (s15 y0 y1 y2 y3 y4 y5 y6 y7 y8 y9 y10 y11 y12 y13)) a0 a1 a2 := by kernel_rfl
theorem e15 {c36 c110 c111 c112 c113 c114 c115 n J x0 x1 x2 x3 x4 x5 x6 x7 x8 x9 x10 x11 x12 x13} : A c36 c110 c111 c112 c113 c114 c115 n J 15 [] (s15 x0 x1 x2 x3 x4 x5 x6 x7 x8 x9 x10 x11 x12 x13) = b15 c36 c110 c111 c112 c113 c114 c115 (fun y0 y1 y2 y3 y4 y5 y6 y7 y8 y9 y10 y11 y12 y13 y14 y15 => J 3999 (A c36 c110 c111 c112 c113 c114 c115 n J 3999 []) (s3999 y0 y1 y2 y3 y4 y5 y6 y7 y8 y9 y10 y11 y12 y13 y14 y15)) x0 x1 x2 x3 x4 x5 x6 x7 x8 x9 x10 x11 x12 x13 := by kernel_rfl
theorem e3999 {c36 c110 c111 c112 c113 c114 c115 n J x0 x1 x2 x3 x4 x5 x6 x7 x8 x9 x10 x11 x12 x13 x14 x15} : A c36 c110 c111 c112 c113 c114 c115 n J 3999 [] (s3999 x0 x1 x2 x3 x4 x5 x6 x7 x8 x9 x10 x11 x12 x13 x14 x15) = b3999 c36 c110 c111 c112 c113 c114 c115 x0 x1 x2 x3 x4 x5 x6 x7 x8 x9 x10 x11 x12 x13 x14 x15 := by kernel_rfl
noncomputable abbrev I (n : Nat) := A ieee_Decode.f soft_invalid.f soft_termOf.f (soft_term_plus.f n) (soft_term_rounded.f n) soft_withSign.f (soft_product.f n) n idJ
theorem q3999 (n x0 x1 x2 x3 x4 x5 x6 x7 x8 x9 x10 x11 x12 x13 x14 x15) : I n 3999 [] (s3999 x0 x1 x2 x3 x4 x5 x6 x7 x8 x9 x10 x11 x12 x13 x14 x15) = l3999 n x0 x1 x2 x3 x4 x5 x6 x7 x8 x9 x10 x11 x12 x13 x14 x15 := e3999
theorem q15 (n x0 x1 x2 x3 x4 x5 x6 x7 x8 x9 x10 x11 x12 x13) : I n 15 [] (s15 x0 x1 x2 x3 x4 x5 x6 x7 x8 x9 x10 x11 x12 x13) = l15 n x0 x1 x2 x3 x4 x5 x6 x7 x8 x9 x10 x11 x12 x13 := e15.trans (Eq.trans (cf14 (congrArg (b15 _ _ _ _ _ _ _) (fu16 (q3999 n))) _ _ _ _ _ _ _ _ _ _ _ _ _ _) rfl)
theorem ok {n  a0 a1 a2 r} (h : f n a0 a1 a2 = some r) : CallD Tryz.prog HW 62 [.int .u64 a0, .int .u64 a1, .int .u64 a2] (sg.enc r) :=
  fun_some hwS Tryz.func62 (by kernel_rfl) (body := code) (by kernel_rfl) tys_ok (c := cfg ieee_Decode.f soft_invalid.f soft_termOf.f (soft_term_plus.f n) (soft_term_rounded.f n) soft_withSign.f (soft_product.f n)) (orCall_ok ieee_Decode.call_ok (orCall_ok soft_invalid.call_ok (orCall_ok soft_termOf.call_ok (orCall_ok (soft_term_plus.call_ok (n := n)) (orCall_ok (soft_term_rounded.call_ok (n := n)) (orCall_ok soft_withSign.call_ok (orCall_ok (soft_product.call_ok (n := n)) noCall_ok))))))) noW_ok (by kernel_rfl) (by kernel_rfl) (Nat.le_of_ble_eq_true (by kernel_rfl)) (Eq.trans ((e0 (n := n)).trans (Eq.trans (cf3 (congrArg (b0 _ _ _ _ _ _ _) (fu14 (q15 n))) _ _ _) rfl)) h)
noncomputable def call {α : Type} (g : T3) (ds : List D) (K : List D→Ω α) : Ω α := match ds with
  | [.int .u64 a0, .int .u64 a1, .int .u64 a2] => (g a0 a1 a2).bind fun r => K (sg.enc r)
  | _ => none
theorem call_ok {α : Type} {n : Nat} : COK Tryz.prog HW 62 (call (α := α) (f n)) := fun _ _ _ h => by
  unfold call at h; split at h
  · exact cok h fun _ => ok
  · cases h
end soft_fma
/-! ### nat_Trim: function 153 -/
namespace nat_Trim
noncomputable def b0 (c142 : T0) (l0 : Λ) : Ω (Λ) := ((c142 l0).bind fun t1 => (if 0 ≤ t1 then (if t1.toNat ≤ 35184372088832 then (if 0 ≤ t1 then (if t1 ≤ (ln l0) then ((some (l0.take t1.toNat) : Ω (Λ)).bind fun y2 => (if y2.length = (List.replicate t1.toNat (0 : Int)).length then some y2 else none)) else none) else none) else none) else none))
noncomputable def f (n : Nat) (l0 : Λ) : Ω (Λ) := b0 (nat_size.f n) l0
noncomputable def sg : Sig (Λ) := s1 (sRow .u64)
noncomputable def code : Code := (Tryz.f153.body).getD .skip
noncomputable def cfg (c142 : T0) : Cfg (Λ) := { T := tys, call := orCall 142 (nat_size.call c142) (noCall) }
noncomputable def cuts : List (Nat × List (Nat × Want)) := []
theorem e0 {c142 n J l0} : afun (cfg c142) J cuts n code Tryz.f153.results.toList [false] [.ro .u64 l0] sg.out = b0 c142 l0 := by kernel_rfl
theorem ok {n  l0 r} (h : f n l0 = some r) : CallD Tryz.prog HW 153 [.ro .u64 l0] (sg.enc r) :=
  fun_some hwS Tryz.func153 (by kernel_rfl) (body := code) (by kernel_rfl) tys_ok (c := cfg (nat_size.f n)) (orCall_ok (nat_size.call_ok (n := n)) noCall_ok) noW_ok (by kernel_rfl) (by kernel_rfl) (Nat.le_of_ble_eq_true (by kernel_rfl)) (Eq.trans ((e0 (n := n))) h)
noncomputable def call {α : Type} (g : T2) (ds : List D) (K : List D→Ω α) : Ω α := match ds with
  | [.ro .u64 l0] => (g l0).bind fun r => K (sg.enc r)
  | _ => none
theorem call_ok {α : Type} {n : Nat} : COK Tryz.prog HW 153 (call (α := α) (f n)) := fun _ _ _ h => by
  unfold call at h; split at h
  · exact cok h fun _ => ok
  · cases h
end nat_Trim
/-! ### quot_small: function 124 -/
namespace quot_small
noncomputable def b0 (c153 : T2) (l0 : Λ) (a1 : Int) : Ω (Λ × Bool) := ((c153 l0).bind fun t1 => some (t1, decide ((ln t1) ≤ a1)))
noncomputable def f (n : Nat) (l0 : Λ) (a1 : Int) : Ω (Λ × Bool) := b0 (nat_Trim.f n) l0 a1
noncomputable def sg : Sig (Λ × Bool) := s2 (sRow .u64) (s1 (sBool))
noncomputable def code : Code := (Tryz.f124.body).getD .skip
noncomputable def cfg (c153 : T2) : Cfg (Λ × Bool) := { T := tys, call := orCall 153 (nat_Trim.call c153) (noCall) }
noncomputable def cuts : List (Nat × List (Nat × Want)) := []
theorem e0 {c153 n J l0 a1} : afun (cfg c153) J cuts n code Tryz.f124.results.toList [false, false] [.ro .u64 l0, .int .i64 a1] sg.out = b0 c153 l0 a1 := by kernel_rfl
theorem ok {n  l0 a1 r} (h : f n l0 a1 = some r) : CallD Tryz.prog HW 124 [.ro .u64 l0, .int .i64 a1] (sg.enc r) :=
  fun_some hwS Tryz.func124 (by kernel_rfl) (body := code) (by kernel_rfl) tys_ok (c := cfg (nat_Trim.f n)) (orCall_ok (nat_Trim.call_ok (n := n)) noCall_ok) noW_ok (by kernel_rfl) (by kernel_rfl) (Nat.le_of_ble_eq_true (by kernel_rfl)) (Eq.trans ((e0 (n := n))) h)
noncomputable def call {α : Type} (g : T39) (ds : List D) (K : List D→Ω α) : Ω α := match ds with
  | [.ro .u64 l0, .int .i64 a1] => (g l0 a1).bind fun r => K (sg.enc r)
  | _ => none
theorem call_ok {α : Type} {n : Nat} : COK Tryz.prog HW 124 (call (α := α) (f n)) := fun _ _ _ h => by
  unfold call at h; split at h
  · exact cok h fun _ => ok
  · cases h
end quot_small
/-! ### bits_LeadingZeros64: function 160 -/
namespace bits_LeadingZeros64
noncomputable def b0 (c67 : T4) (a0 : Int) : Ω (Int) := ((c67 a0).bind fun t1 => some (wrap64 (64 - t1)))
noncomputable def f (a0 : Int) : Ω (Int) := b0 bits_Len64.f a0
noncomputable def sg : Sig (Int) := s1 (sInt .i64)
noncomputable def code : Code := (Tryz.f160.body).getD .skip
noncomputable def cfg (c67 : T4) : Cfg (Int) := { T := tys, call := orCall 67 (bits_Len64.call c67) (noCall) }
noncomputable def cuts : List (Nat × List (Nat × Want)) := []
theorem e0 {c67 n J a0} : afun (cfg c67) J cuts n code Tryz.f160.results.toList [false] [.int .u64 a0] sg.out = b0 c67 a0 := by kernel_rfl
theorem ok {a0 r} (h : f a0 = some r) : CallD Tryz.prog HW 160 [.int .u64 a0] (sg.enc r) :=
  fun_some hwS Tryz.func160 (by kernel_rfl) (body := code) (by kernel_rfl) tys_ok (c := cfg bits_Len64.f) (orCall_ok bits_Len64.call_ok noCall_ok) noW_ok (by kernel_rfl) (by kernel_rfl) (Nat.le_of_ble_eq_true (by kernel_rfl)) (Eq.trans ((e0 (n := 0))) h)
noncomputable def call {α : Type} (g : T4) (ds : List D) (K : List D→Ω α) : Ω α := match ds with
  | [.int .u64 a0] => (g a0).bind fun r => K (sg.enc r)
  | _ => none
theorem call_ok {α : Type} : COK Tryz.prog HW 160 (call (α := α) f) := fun _ _ _ h => by
  unfold call at h; split at h
  · exact cok h fun _ => ok
  · cases h
end bits_LeadingZeros64
/-! ### bits_Div64: function 152 -/
namespace bits_Div64
noncomputable def b0 (c160 : T4) (k262137 : T40) (a0 a1 a2 : Int) : Ω (Int × Int) := (if a2 = 0 then none else (if a2 ≤ a0 then none else (if a0 = 0 then (if a2 = 0 then none else (if a2 = 0 then none else some (IntKind.u64.wrap (Int.tdiv a1 a2), Int.tmod a1 a2))) else ((c160 a2).bind fun t1 => (if 0 ≤ (IntKind.u64.wrap t1) then (if 0 ≤ (IntKind.u64.wrap t1) then (if 0 ≤ (IntKind.u64.wrap (64 - (IntKind.u64.wrap t1))) then (if 0 ≤ (IntKind.u64.wrap t1) then (if ((shl .u64 a2 (IntKind.u64.wrap t1)) / 4294967296) = 0 then none else k262137 (shl .u64 a2 (IntKind.u64.wrap t1)) (IntKind.u64.wrap t1) ((shl .u64 a2 (IntKind.u64.wrap t1)) / 4294967296) (Go.bits .and .u64 (shl .u64 a2 (IntKind.u64.wrap t1)) 4294967295) (Go.bits .or .u64 (shl .u64 a0 (IntKind.u64.wrap t1)) (shr .u64 a1 (IntKind.u64.wrap (64 - (IntKind.u64.wrap t1))))) ((shl .u64 a1 (IntKind.u64.wrap t1)) / 4294967296) (Go.bits .and .u64 (shl .u64 a1 (IntKind.u64.wrap t1)) 4294967295) (IntKind.u64.wrap (Int.tdiv (Go.bits .or .u64 (shl .u64 a0 (IntKind.u64.wrap t1)) (shr .u64 a1 (IntKind.u64.wrap (64 - (IntKind.u64.wrap t1))))) ((shl .u64 a2 (IntKind.u64.wrap t1)) / 4294967296))) (IntKind.u64.wrap ((Go.bits .or .u64 (shl .u64 a0 (IntKind.u64.wrap t1)) (shr .u64 a1 (IntKind.u64.wrap (64 - (IntKind.u64.wrap t1))))) - (IntKind.u64.wrap ((IntKind.u64.wrap (Int.tdiv (Go.bits .or .u64 (shl .u64 a0 (IntKind.u64.wrap t1)) (shr .u64 a1 (IntKind.u64.wrap (64 - (IntKind.u64.wrap t1))))) ((shl .u64 a2 (IntKind.u64.wrap t1)) / 4294967296))) * ((shl .u64 a2 (IntKind.u64.wrap t1)) / 4294967296)))))) else none) else none) else none) else none)))))
noncomputable def b65535 (c160 : T4) (k4194297 : T40) (x0 x1 x2 x3 x4 x5 x6 x7 : Int) : Ω (Int × Int) := (if x2 = 0 then none else k4194297 x0 x1 x2 x3 x6 x7 (IntKind.u64.wrap ((IntKind.u64.wrap ((IntKind.u64.wrap ((IntKind.u64.wrap (x4 * 4294967296)) + x5)) - (IntKind.u64.wrap (x7 * x0)))) - (IntKind.u64.wrap ((IntKind.u64.wrap (Int.tdiv (IntKind.u64.wrap ((IntKind.u64.wrap ((IntKind.u64.wrap (x4 * 4294967296)) + x5)) - (IntKind.u64.wrap (x7 * x0)))) x2)) * x2)))) (IntKind.u64.wrap ((IntKind.u64.wrap ((IntKind.u64.wrap (x4 * 4294967296)) + x5)) - (IntKind.u64.wrap (x7 * x0)))) (IntKind.u64.wrap (Int.tdiv (IntKind.u64.wrap ((IntKind.u64.wrap ((IntKind.u64.wrap (x4 * 4294967296)) + x5)) - (IntKind.u64.wrap (x7 * x0)))) x2)))
noncomputable def b262137 (c160 : T4) (k65535 : T87) (k524273 : T40) (x0 x1 x2 x3 x4 x5 x6 x7 x8 : Int) : Ω (Int × Int) := (if x7 ≥ 4294967296 then k524273 x0 x1 x2 x3 x4 x5 x6 x7 x8 else (if (IntKind.u64.wrap (x7 * x3)) > (IntKind.u64.wrap ((IntKind.u64.wrap (4294967296 * x8)) + x5)) then k524273 x0 x1 x2 x3 x4 x5 x6 x7 x8 else k65535 x0 x1 x2 x3 x4 x5 x6 x7))
noncomputable def b524273 (c160 : T4) (k65535 : T87) (k262137 : T40) (x0 x1 x2 x3 x4 x5 x6 x7 x8 : Int) : Ω (Int × Int) := (if (IntKind.u64.wrap (x8 + x2)) ≥ 4294967296 then k65535 x0 x1 x2 x3 x4 x5 x6 (IntKind.u64.wrap (x7 - 1)) else k262137 x0 x1 x2 x3 x4 x5 x6 (IntKind.u64.wrap (x7 - 1)) (IntKind.u64.wrap (x8 + x2)))
noncomputable def b1048575 (c160 : T4) (x0 x1 x2 x3 x4 x5 : Int) : Ω (Int × Int) := (if 0 ≤ x1 then some (IntKind.u64.wrap ((IntKind.u64.wrap (x3 * 4294967296)) + x5), shr .u64 (IntKind.u64.wrap ((IntKind.u64.wrap ((IntKind.u64.wrap (x4 * 4294967296)) + x2)) - (IntKind.u64.wrap (x5 * x0)))) x1) else none)
noncomputable def b4194297 (c160 : T4) (k1048575 : T88) (k8388593 : T40) (x0 x1 x2 x3 x4 x5 x6 x7 x8 : Int) : Ω (Int × Int) := (if x8 ≥ 4294967296 then k8388593 x0 x1 x2 x3 x4 x5 x6 x7 x8 else (if (IntKind.u64.wrap (x8 * x3)) > (IntKind.u64.wrap ((IntKind.u64.wrap (4294967296 * x6)) + x4)) then k8388593 x0 x1 x2 x3 x4 x5 x6 x7 x8 else k1048575 x0 x1 x4 x5 x7 x8))
noncomputable def b8388593 (c160 : T4) (k1048575 : T88) (k4194297 : T40) (x0 x1 x2 x3 x4 x5 x6 x7 x8 : Int) : Ω (Int × Int) := (if (IntKind.u64.wrap (x6 + x2)) ≥ 4294967296 then k1048575 x0 x1 x4 x5 x7 (IntKind.u64.wrap (x8 - 1)) else k4194297 x0 x1 x2 x3 x4 x5 (IntKind.u64.wrap (x6 + x2)) x7 (IntKind.u64.wrap (x8 - 1)))
noncomputable def l1048575 (n : Nat) (x0 x1 x2 x3 x4 x5 : Int) : Ω (Int × Int) := b1048575 bits_LeadingZeros64.f x0 x1 x2 x3 x4 x5
noncomputable def l8388593 (n : Nat) (k4194297 : T40) (x0 x1 x2 x3 x4 x5 x6 x7 x8 : Int) : Ω (Int × Int) := b8388593 bits_LeadingZeros64.f (l1048575 n) k4194297 x0 x1 x2 x3 x4 x5 x6 x7 x8
noncomputable def l4194297 (n : Nat) : Nat→Int→Int→Int→Int→Int→Int→Int→Int→Int→Ω (Int × Int)
  | 0, _, _, _, _, _, _, _, _, _ => none
  | m + 1, x0, x1, x2, x3, x4, x5, x6, x7, x8 => b4194297 bits_LeadingZeros64.f (l1048575 n) (l8388593 n (l4194297 n m)) x0 x1 x2 x3 x4 x5 x6 x7 x8
noncomputable def l65535 (n : Nat) (x0 x1 x2 x3 x4 x5 x6 x7 : Int) : Ω (Int × Int) := b65535 bits_LeadingZeros64.f (l4194297 n n) x0 x1 x2 x3 x4 x5 x6 x7
noncomputable def l524273 (n : Nat) (k262137 : T40) (x0 x1 x2 x3 x4 x5 x6 x7 x8 : Int) : Ω (Int × Int) := b524273 bits_LeadingZeros64.f (l65535 n) k262137 x0 x1 x2 x3 x4 x5 x6 x7 x8
noncomputable def l262137 (n : Nat) : Nat→Int→Int→Int→Int→Int→Int→Int→Int→Int→Ω (Int × Int)
  | 0, _, _, _, _, _, _, _, _, _ => none
  | m + 1, x0, x1, x2, x3, x4, x5, x6, x7, x8 => b262137 bits_LeadingZeros64.f (l65535 n) (l524273 n (l262137 n m)) x0 x1 x2 x3 x4 x5 x6 x7 x8
noncomputable def f (n : Nat) (a0 a1 a2 : Int) : Ω (Int × Int) := b0 bits_LeadingZeros64.f (l262137 n n) a0 a1 a2
noncomputable def sg : Sig (Int × Int) := s2 (sInt .u64) (s1 (sInt .u64))
noncomputable def code : Code := (Tryz.f152.body).getD .skip
noncomputable def cfg (c160 : T4) : Cfg (Int × Int) := { T := tys, call := orCall 160 (bits_LeadingZeros64.call c160) (noCall) }
noncomputable def cuts : List (Nat × List (Nat × Want)) := [(65535, [(2, .keep), (8, .keep), (9, .keep), (10, .keep), (11, .keep), (13, .keep), (14, .keep), (15, .keep)]), (262137, [(2, .keep), (8, .keep), (9, .keep), (10, .keep), (11, .keep), (13, .keep), (14, .keep), (15, .keep), (16, .keep)]), (524273, [(2, .keep), (8, .keep), (9, .keep), (10, .keep), (11, .keep), (13, .keep), (14, .keep), (15, .keep), (16, .keep)]), (1048575, [(2, .keep), (8, .keep), (14, .keep), (15, .keep), (17, .keep), (18, .keep)]), (4194297, [(2, .keep), (8, .keep), (9, .keep), (10, .keep), (14, .keep), (15, .keep), (16, .keep), (17, .keep), (18, .keep)]), (8388593, [(2, .keep), (8, .keep), (9, .keep), (10, .keep), (14, .keep), (15, .keep), (16, .keep), (17, .keep), (18, .keep)])]
noncomputable def s65535 (x0 x1 x2 x3 x4 x5 x6 x7 : Int) : ASt := ⟨[(2, .int .u64 x0), (8, .int .u64 x1), (9, .int .u64 x2), (10, .int .u64 x3), (11, .int .u64 x4), (13, .int .u64 x5), (14, .int .u64 x6), (15, .int .u64 x7)], []⟩
noncomputable def s262137 (x0 x1 x2 x3 x4 x5 x6 x7 x8 : Int) : ASt := ⟨[(2, .int .u64 x0), (8, .int .u64 x1), (9, .int .u64 x2), (10, .int .u64 x3), (11, .int .u64 x4), (13, .int .u64 x5), (14, .int .u64 x6), (15, .int .u64 x7), (16, .int .u64 x8)], []⟩
noncomputable def s524273 (x0 x1 x2 x3 x4 x5 x6 x7 x8 : Int) : ASt := ⟨[(2, .int .u64 x0), (8, .int .u64 x1), (9, .int .u64 x2), (10, .int .u64 x3), (11, .int .u64 x4), (13, .int .u64 x5), (14, .int .u64 x6), (15, .int .u64 x7), (16, .int .u64 x8)], []⟩
noncomputable def s1048575 (x0 x1 x2 x3 x4 x5 : Int) : ASt := ⟨[(2, .int .u64 x0), (8, .int .u64 x1), (14, .int .u64 x2), (15, .int .u64 x3), (17, .int .u64 x4), (18, .int .u64 x5)], []⟩
noncomputable def s4194297 (x0 x1 x2 x3 x4 x5 x6 x7 x8 : Int) : ASt := ⟨[(2, .int .u64 x0), (8, .int .u64 x1), (9, .int .u64 x2), (10, .int .u64 x3), (14, .int .u64 x4), (15, .int .u64 x5), (16, .int .u64 x6), (17, .int .u64 x7), (18, .int .u64 x8)], []⟩
noncomputable def s8388593 (x0 x1 x2 x3 x4 x5 x6 x7 x8 : Int) : ASt := ⟨[(2, .int .u64 x0), (8, .int .u64 x1), (9, .int .u64 x2), (10, .int .u64 x3), (14, .int .u64 x4), (15, .int .u64 x5), (16, .int .u64 x6), (17, .int .u64 x7), (18, .int .u64 x8)], []⟩
noncomputable def A (c160 : T4) (n : Nat) (J : Jt (Int × Int)) (q : Nat) (ms : List Nat) : ASt→Ω (Int × Int) := acont (cfg c160) J cuts n q code 1 ms (aend (cfg c160) Tryz.f152.results.toList [false, false] sg.out)
theorem e0 {c160 n J a0 a1 a2} : afun (cfg c160) J cuts n code Tryz.f152.results.toList [false, false] [.int .u64 a0, .int .u64 a1, .int .u64 a2] sg.out = b0 c160 (fun y0 y1 y2 y3 y4 y5 y6 y7 y8 => J 262137 (A c160 n J 262137 [n]) (s262137 y0 y1 y2 y3 y4 y5 y6 y7 y8)) a0 a1 a2 := by kernel_rfl
theorem e65535 {c160 n J x0 x1 x2 x3 x4 x5 x6 x7} : A c160 n J 65535 [] (s65535 x0 x1 x2 x3 x4 x5 x6 x7) = b65535 c160 (fun y0 y1 y2 y3 y4 y5 y6 y7 y8 => J 4194297 (A c160 n J 4194297 [n]) (s4194297 y0 y1 y2 y3 y4 y5 y6 y7 y8)) x0 x1 x2 x3 x4 x5 x6 x7 := by kernel_rfl
theorem e262137 {c160 n J m x0 x1 x2 x3 x4 x5 x6 x7 x8} : A c160 n J 262137 [m + 1] (s262137 x0 x1 x2 x3 x4 x5 x6 x7 x8) = b262137 c160 (fun y0 y1 y2 y3 y4 y5 y6 y7 => J 65535 (A c160 n J 65535 []) (s65535 y0 y1 y2 y3 y4 y5 y6 y7)) (fun y0 y1 y2 y3 y4 y5 y6 y7 y8 => J 524273 (A c160 n J 524273 [m]) (s524273 y0 y1 y2 y3 y4 y5 y6 y7 y8)) x0 x1 x2 x3 x4 x5 x6 x7 x8 := by kernel_rfl
theorem e524273 {c160 n J m262137 x0 x1 x2 x3 x4 x5 x6 x7 x8} : A c160 n J 524273 [m262137] (s524273 x0 x1 x2 x3 x4 x5 x6 x7 x8) = b524273 c160 (fun y0 y1 y2 y3 y4 y5 y6 y7 => J 65535 (A c160 n J 65535 []) (s65535 y0 y1 y2 y3 y4 y5 y6 y7)) (fun y0 y1 y2 y3 y4 y5 y6 y7 y8 => J 262137 (A c160 n J 262137 [m262137]) (s262137 y0 y1 y2 y3 y4 y5 y6 y7 y8)) x0 x1 x2 x3 x4 x5 x6 x7 x8 := by kernel_rfl
theorem e1048575 {c160 n J x0 x1 x2 x3 x4 x5} : A c160 n J 1048575 [] (s1048575 x0 x1 x2 x3 x4 x5) = b1048575 c160 x0 x1 x2 x3 x4 x5 := by kernel_rfl
theorem e4194297 {c160 n J m x0 x1 x2 x3 x4 x5 x6 x7 x8} : A c160 n J 4194297 [m + 1] (s4194297 x0 x1 x2 x3 x4 x5 x6 x7 x8) = b4194297 c160 (fun y0 y1 y2 y3 y4 y5 => J 1048575 (A c160 n J 1048575 []) (s1048575 y0 y1 y2 y3 y4 y5)) (fun y0 y1 y2 y3 y4 y5 y6 y7 y8 => J 8388593 (A c160 n J 8388593 [m]) (s8388593 y0 y1 y2 y3 y4 y5 y6 y7 y8)) x0 x1 x2 x3 x4 x5 x6 x7 x8 := by kernel_rfl
theorem e8388593 {c160 n J m4194297 x0 x1 x2 x3 x4 x5 x6 x7 x8} : A c160 n J 8388593 [m4194297] (s8388593 x0 x1 x2 x3 x4 x5 x6 x7 x8) = b8388593 c160 (fun y0 y1 y2 y3 y4 y5 => J 1048575 (A c160 n J 1048575 []) (s1048575 y0 y1 y2 y3 y4 y5)) (fun y0 y1 y2 y3 y4 y5 y6 y7 y8 => J 4194297 (A c160 n J 4194297 [m4194297]) (s4194297 y0 y1 y2 y3 y4 y5 y6 y7 y8)) x0 x1 x2 x3 x4 x5 x6 x7 x8 := by kernel_rfl
noncomputable abbrev I (n : Nat) := A bits_LeadingZeros64.f n idJ
theorem q1048575 (n x0 x1 x2 x3 x4 x5) : I n 1048575 [] (s1048575 x0 x1 x2 x3 x4 x5) = l1048575 n x0 x1 x2 x3 x4 x5 := e1048575
theorem q8388593 (n m4194297 x0 x1 x2 x3 x4 x5 x6 x7 x8) : I n 8388593 [m4194297] (s8388593 x0 x1 x2 x3 x4 x5 x6 x7 x8) = l8388593 n (fun y0 y1 y2 y3 y4 y5 y6 y7 y8 => I n 4194297 [m4194297] (s4194297 y0 y1 y2 y3 y4 y5 y6 y7 y8)) x0 x1 x2 x3 x4 x5 x6 x7 x8 := e8388593.trans (Eq.trans (cf9 (congr (congrArg (b8388593 _) (fu6 (q1048575 n))) rfl) _ _ _ _ _ _ _ _ _) rfl)
theorem q4194297 (n m) : ∀ x0 x1 x2 x3 x4 x5 x6 x7 x8, I n 4194297 [m] (s4194297 x0 x1 x2 x3 x4 x5 x6 x7 x8) = l4194297 n m x0 x1 x2 x3 x4 x5 x6 x7 x8 := by
  induction m with
  | zero => intros; rfl
  | succ m ih =>
    intros
    exact e4194297.trans (Eq.trans (cf9 (congr (congrArg (b4194297 _) (fu6 (q1048575 n))) ((fu9 (q8388593 n m)).trans (by rw [show (fun y0 y1 y2 y3 y4 y5 y6 y7 y8 => I n 4194297 [m] (s4194297 y0 y1 y2 y3 y4 y5 y6 y7 y8)) = _ from (fu9 (ih))]))) _ _ _ _ _ _ _ _ _) rfl)
theorem q65535 (n x0 x1 x2 x3 x4 x5 x6 x7) : I n 65535 [] (s65535 x0 x1 x2 x3 x4 x5 x6 x7) = l65535 n x0 x1 x2 x3 x4 x5 x6 x7 := e65535.trans (Eq.trans (cf8 (congrArg (b65535 _) (fu9 (q4194297 n n))) _ _ _ _ _ _ _ _) rfl)
theorem q524273 (n m262137 x0 x1 x2 x3 x4 x5 x6 x7 x8) : I n 524273 [m262137] (s524273 x0 x1 x2 x3 x4 x5 x6 x7 x8) = l524273 n (fun y0 y1 y2 y3 y4 y5 y6 y7 y8 => I n 262137 [m262137] (s262137 y0 y1 y2 y3 y4 y5 y6 y7 y8)) x0 x1 x2 x3 x4 x5 x6 x7 x8 := e524273.trans (Eq.trans (cf9 (congr (congrArg (b524273 _) (fu8 (q65535 n))) rfl) _ _ _ _ _ _ _ _ _) rfl)
theorem q262137 (n m) : ∀ x0 x1 x2 x3 x4 x5 x6 x7 x8, I n 262137 [m] (s262137 x0 x1 x2 x3 x4 x5 x6 x7 x8) = l262137 n m x0 x1 x2 x3 x4 x5 x6 x7 x8 := by
  induction m with
  | zero => intros; rfl
  | succ m ih =>
    intros
    exact e262137.trans (Eq.trans (cf9 (congr (congrArg (b262137 _) (fu8 (q65535 n))) ((fu9 (q524273 n m)).trans (by rw [show (fun y0 y1 y2 y3 y4 y5 y6 y7 y8 => I n 262137 [m] (s262137 y0 y1 y2 y3 y4 y5 y6 y7 y8)) = _ from (fu9 (ih))]))) _ _ _ _ _ _ _ _ _) rfl)
theorem ok {n  a0 a1 a2 r} (h : f n a0 a1 a2 = some r) : CallD Tryz.prog HW 152 [.int .u64 a0, .int .u64 a1, .int .u64 a2] (sg.enc r) :=
  fun_some hwS Tryz.func152 (by kernel_rfl) (body := code) (by kernel_rfl) tys_ok (c := cfg bits_LeadingZeros64.f) (orCall_ok bits_LeadingZeros64.call_ok noCall_ok) noW_ok (by kernel_rfl) (by kernel_rfl) (Nat.le_of_ble_eq_true (by kernel_rfl)) (Eq.trans ((e0 (n := n)).trans (Eq.trans (cf3 (congrArg (b0 _) (fu9 (q262137 n n))) _ _ _) rfl)) h)
noncomputable def call {α : Type} (g : T3) (ds : List D) (K : List D→Ω α) : Ω α := match ds with
  | [.int .u64 a0, .int .u64 a1, .int .u64 a2] => (g a0 a1 a2).bind fun r => K (sg.enc r)
  | _ => none
theorem call_ok {α : Type} {n : Nat} : COK Tryz.prog HW 152 (call (α := α) (f n)) := fun _ _ _ h => by
  unfold call at h; split at h
  · exact cok h fun _ => ok
  · cases h
end bits_Div64
/-! ### nat_DivSmall: function 156 -/
namespace nat_DivSmall
noncomputable def b0 (c141 : T5) (c142 : T0) (c143 : T7) (c152 : T3) (k2037 : T89) (l0 : Λ) (a1 : Int) : Ω (Λ × Int × Int) := ((c141 l0).bind fun t1 => (if t1 = true then some (([] : Λ), 0, 2) else (if a1 = 0 then some (([] : Λ), 0, 4) else ((c142 l0).bind fun t2 => (if 0 ≤ t2 then (if t2 ≤ (ln l0) then ((some (l0.take t2.toNat) : Ω (Λ)).bind fun y3 => (if 0 ≤ (ln y3) then (if (ln y3).toNat ≤ 35184372088832 then k2037 y3 a1 0 (wrap64 ((ln y3) - 1)) (List.replicate (ln y3).toNat (0 : Int)) else none) else none)) else none) else none)))))
noncomputable def b255 (c141 : T5) (c142 : T0) (c143 : T7) (c152 : T3) (x0 : Int) (x1 : Λ) : Ω (Λ × Int × Int) := ((c143 x1).bind fun t1 => some (t1.1, x0, t1.2))
noncomputable def b2037 (c141 : T5) (c142 : T0) (c143 : T7) (c152 : T3) (k255 : Int→Λ→Ω (Λ × Int × Int)) (k2037 : T89) (x0 : Λ) (x1 x2 x3 : Int) (x4 : Λ) : Ω (Λ × Int × Int) := (if x3 ≥ 0 then (if 0 ≤ x3 then (if x3 < (ln x0) then ((c152 x2 (rd x0 x3) x1).bind fun t1 => (if 0 ≤ x3 then (if x3 < (ln x4) then k2037 x0 x1 t1.2 (wrap64 (x3 - 1)) (x4.set (x3 : Int).toNat t1.1) else none) else none)) else none) else none) else k255 x2 x4)
noncomputable def l255 (n : Nat) (x0 : Int) (x1 : Λ) : Ω (Λ × Int × Int) := b255 (nat_big.f n) (nat_size.f n) (nat_cut.f n) (bits_Div64.f n) x0 x1
noncomputable def l2037 (n : Nat) : Nat→Λ→Int→Int→Int→Λ→Ω (Λ × Int × Int)
  | 0, _, _, _, _, _ => none
  | m + 1, x0, x1, x2, x3, x4 => b2037 (nat_big.f n) (nat_size.f n) (nat_cut.f n) (bits_Div64.f n) (l255 n) (l2037 n m) x0 x1 x2 x3 x4
noncomputable def f (n : Nat) (l0 : Λ) (a1 : Int) : Ω (Λ × Int × Int) := b0 (nat_big.f n) (nat_size.f n) (nat_cut.f n) (bits_Div64.f n) (l2037 n n) l0 a1
noncomputable def sg : Sig (Λ × Int × Int) := s2 (sRow .u64) (s2 (sInt .u64) (s1 (sInt .i64)))
noncomputable def code : Code := (Tryz.f156.body).getD .skip
noncomputable def cfg (c141 : T5) (c142 : T0) (c143 : T7) (c152 : T3) : Cfg (Λ × Int × Int) := { T := tys, call := orCall 141 (nat_big.call c141) (orCall 142 (nat_size.call c142) (orCall 143 (nat_cut.call c143) (orCall 152 (bits_Div64.call c152) (noCall)))) }
noncomputable def cuts : List (Nat × List (Nat × Want)) := [(255, [(7, .keep), (8, .keep)]), (2037, [(0, .keep), (1, .keep), (7, .keep), (8, .keep), (9, .keep)])]
noncomputable def s255 (x0 : Int) (x1 : Λ) : ASt := ⟨[(7, .own 0), (8, .int .u64 x0)], [.ints 24 .u64 x1]⟩
noncomputable def s2037 (x0 : Λ) (x1 x2 x3 : Int) (x4 : Λ) : ASt := ⟨[(0, .ro .u64 x0), (1, .int .u64 x1), (7, .own 0), (8, .int .u64 x2), (9, .int .i64 x3)], [.ints 24 .u64 x4]⟩
noncomputable def A (c141 : T5) (c142 : T0) (c143 : T7) (c152 : T3) (n : Nat) (J : Jt (Λ × Int × Int)) (q : Nat) (ms : List Nat) : ASt→Ω (Λ × Int × Int) := acont (cfg c141 c142 c143 c152) J cuts n q code 1 ms (aend (cfg c141 c142 c143 c152) Tryz.f156.results.toList [false, false, false] sg.out)
theorem e0 {c141 c142 c143 c152 n J l0 a1} : afun (cfg c141 c142 c143 c152) J cuts n code Tryz.f156.results.toList [false, false, false] [.ro .u64 l0, .int .u64 a1] sg.out = b0 c141 c142 c143 c152 (fun y0 y1 y2 y3 y4 => J 2037 (A c141 c142 c143 c152 n J 2037 [n]) (s2037 y0 y1 y2 y3 y4)) l0 a1 := by kernel_rfl
theorem e255 {c141 c142 c143 c152 n J x0 x1} : A c141 c142 c143 c152 n J 255 [] (s255 x0 x1) = b255 c141 c142 c143 c152 x0 x1 := by kernel_rfl
theorem e2037 {c141 c142 c143 c152 n J m x0 x1 x2 x3 x4} : A c141 c142 c143 c152 n J 2037 [m + 1] (s2037 x0 x1 x2 x3 x4) = b2037 c141 c142 c143 c152 (fun y0 y1 => J 255 (A c141 c142 c143 c152 n J 255 []) (s255 y0 y1)) (fun y0 y1 y2 y3 y4 => J 2037 (A c141 c142 c143 c152 n J 2037 [m]) (s2037 y0 y1 y2 y3 y4)) x0 x1 x2 x3 x4 := by kernel_rfl
noncomputable abbrev I (n : Nat) := A (nat_big.f n) (nat_size.f n) (nat_cut.f n) (bits_Div64.f n) n idJ
theorem q255 (n x0 x1) : I n 255 [] (s255 x0 x1) = l255 n x0 x1 := e255
theorem q2037 (n m) : ∀ x0 x1 x2 x3 x4, I n 2037 [m] (s2037 x0 x1 x2 x3 x4) = l2037 n m x0 x1 x2 x3 x4 := by
  induction m with
  | zero => intros; rfl
  | succ m ih =>
    intros
    exact e2037.trans (Eq.trans (cf5 (congr (congrArg (b2037 _ _ _ _) (fu2 (q255 n))) (fu5 (ih))) _ _ _ _ _) rfl)
theorem ok {n  l0 a1 r} (h : f n l0 a1 = some r) : CallD Tryz.prog HW 156 [.ro .u64 l0, .int .u64 a1] (sg.enc r) :=
  fun_some hwS Tryz.func156 (by kernel_rfl) (body := code) (by kernel_rfl) tys_ok (c := cfg (nat_big.f n) (nat_size.f n) (nat_cut.f n) (bits_Div64.f n)) (orCall_ok (nat_big.call_ok (n := n)) (orCall_ok (nat_size.call_ok (n := n)) (orCall_ok (nat_cut.call_ok (n := n)) (orCall_ok (bits_Div64.call_ok (n := n)) noCall_ok)))) noW_ok (by kernel_rfl) (by kernel_rfl) (Nat.le_of_ble_eq_true (by kernel_rfl)) (Eq.trans ((e0 (n := n)).trans (Eq.trans (cf2 (congrArg (b0 _ _ _ _) (fu5 (q2037 n n))) _ _) rfl)) h)
noncomputable def call {α : Type} (g : T68) (ds : List D) (K : List D→Ω α) : Ω α := match ds with
  | [.ro .u64 l0, .int .u64 a1] => (g l0 a1).bind fun r => K (sg.enc r)
  | _ => none
theorem call_ok {α : Type} {n : Nat} : COK Tryz.prog HW 156 (call (α := α) (f n)) := fun _ _ _ h => by
  unfold call at h; split at h
  · exact cok h fun _ => ok
  · cases h
end nat_DivSmall
/-! ### quot_raised: function 161 -/
namespace quot_raised
noncomputable def b0 (k117 : T90) (l0 : Λ) (a1 a2 : Int) : Ω (Λ) := (if 0 ≤ a2 then (if a2.toNat ≤ 35184372088832 then k117 a1 a2 l0 (ln l0) 0 (List.replicate a2.toNat (0 : Int)) else none) else none)
noncomputable def b117 (k117 : T90) (x0 x1 : Int) (x2 : Λ) (x3 x4 : Int) (x5 : Λ) : Ω (Λ) := (if x4 < x3 then (if 0 ≤ x4 then (if x4 < (ln x2) then (if 0 ≤ x4 then (if x4 < (ln x5) then (if 0 ≤ (IntKind.u64.wrap x0) then (if 0 ≤ x4 then (if x4 < (ln x5) then (if (wrap64 (x4 + 1)) < x1 then (if x0 > 0 then (if 0 ≤ (IntKind.u64.wrap (wrap64 (64 - x0))) then (if 0 ≤ (wrap64 (x4 + 1)) then (if (wrap64 (x4 + 1)) < (ln (x5.set (x4 : Int).toNat (Go.bits .or .u64 (rd x5 x4) (shl .u64 (rd x2 x4) (IntKind.u64.wrap x0))))) then k117 x0 x1 x2 x3 (wrap64 (x4 + 1)) ((x5.set (x4 : Int).toNat (Go.bits .or .u64 (rd x5 x4) (shl .u64 (rd x2 x4) (IntKind.u64.wrap x0)))).set (wrap64 (x4 + 1) : Int).toNat (shr .u64 (rd x2 x4) (IntKind.u64.wrap (wrap64 (64 - x0))))) else none) else none) else none) else k117 x0 x1 x2 x3 (wrap64 (x4 + 1)) (x5.set (x4 : Int).toNat (Go.bits .or .u64 (rd x5 x4) (shl .u64 (rd x2 x4) (IntKind.u64.wrap x0))))) else k117 x0 x1 x2 x3 (wrap64 (x4 + 1)) (x5.set (x4 : Int).toNat (Go.bits .or .u64 (rd x5 x4) (shl .u64 (rd x2 x4) (IntKind.u64.wrap x0))))) else none) else none) else none) else none) else none) else none) else none) else some x5)
noncomputable def l117 (n : Nat) : Nat→Int→Int→Λ→Int→Int→Λ→Ω (Λ)
  | 0, _, _, _, _, _, _ => none
  | m + 1, x0, x1, x2, x3, x4, x5 => b117 (l117 n m) x0 x1 x2 x3 x4 x5
noncomputable def f (n : Nat) (l0 : Λ) (a1 a2 : Int) : Ω (Λ) := b0 (l117 n n) l0 a1 a2
noncomputable def sg : Sig (Λ) := s1 (sOwn 24 .u64)
noncomputable def code : Code := (Tryz.f161.body).getD .skip
noncomputable def cfg : Cfg (Λ) := { T := tys, call := noCall }
noncomputable def cuts : List (Nat × List (Nat × Want)) := [(117, [(1, .keep), (2, .keep), (7, .keep), (12, .keep), (13, .keep), (14, .keep)])]
noncomputable def s117 (x0 x1 : Int) (x2 : Λ) (x3 x4 : Int) (x5 : Λ) : ASt := ⟨[(1, .int .i64 x0), (2, .int .i64 x1), (7, .own 0), (12, .ro .u64 x2), (13, .int .i64 x3), (14, .int .i64 x4)], [.ints 24 .u64 x5]⟩
noncomputable def A (n : Nat) (J : Jt (Λ)) (q : Nat) (ms : List Nat) : ASt→Ω (Λ) := acont cfg J cuts n q code 1 ms (aend cfg Tryz.f161.results.toList [true] sg.out)
theorem e0 {n J l0 a1 a2} : afun cfg J cuts n code Tryz.f161.results.toList [true] [.ro .u64 l0, .int .i64 a1, .int .i64 a2] sg.out = b0 (fun y0 y1 y2 y3 y4 y5 => J 117 (A n J 117 [n]) (s117 y0 y1 y2 y3 y4 y5)) l0 a1 a2 := by kernel_rfl
theorem e117 {n J m x0 x1 x2 x3 x4 x5} : A n J 117 [m + 1] (s117 x0 x1 x2 x3 x4 x5) = b117 (fun y0 y1 y2 y3 y4 y5 => J 117 (A n J 117 [m]) (s117 y0 y1 y2 y3 y4 y5)) x0 x1 x2 x3 x4 x5 := by kernel_rfl
noncomputable abbrev I (n : Nat) := A n idJ
theorem q117 (n m) : ∀ x0 x1 x2 x3 x4 x5, I n 117 [m] (s117 x0 x1 x2 x3 x4 x5) = l117 n m x0 x1 x2 x3 x4 x5 := by
  induction m with
  | zero => intros; rfl
  | succ m ih =>
    intros
    exact e117.trans (Eq.trans (cf6 (congrArg b117 (fu6 (ih))) _ _ _ _ _ _) rfl)
theorem ok {n  l0 a1 a2 r} (h : f n l0 a1 a2 = some r) : CallD Tryz.prog HW 161 [.ro .u64 l0, .int .i64 a1, .int .i64 a2] (sg.enc r) :=
  fun_some hwS Tryz.func161 (by kernel_rfl) (body := code) (by kernel_rfl) tys_ok (c := cfg) noCall_ok noW_ok (by kernel_rfl) (by kernel_rfl) (Nat.le_of_ble_eq_true (by kernel_rfl)) (Eq.trans ((e0 (n := n)).trans (Eq.trans (cf3 (congrArg b0 (fu6 (q117 n n))) _ _ _) rfl)) h)
noncomputable def call {α : Type} (g : T47) (ds : List D) (K : List D→Ω α) : Ω α := match ds with
  | [.ro .u64 l0, .int .i64 a1, .int .i64 a2] => (g l0 a1 a2).bind fun r => K (sg.enc r)
  | _ => none
theorem call_ok {α : Type} {n : Nat} : COK Tryz.prog HW 161 (call (α := α) (f n)) := fun _ _ _ h => by
  unfold call at h; split at h
  · exact cok h fun _ => ok
  · cases h
end quot_raised
/-! ### quot_guess: function 162 -/
namespace quot_guess
noncomputable def b0 (c152 : T3) (l0 l1 : Λ) : Ω (Int) := (if 0 ≤ (ln l1) then (if (ln l1) < (ln l0) then (if 0 ≤ (wrap64 ((ln l1) - 1)) then (if (wrap64 ((ln l1) - 1)) < (ln l1) then (if (rd l0 (ln l1)) ≥ (rd l1 (wrap64 ((ln l1) - 1))) then some 18446744073709551615 else (if 0 ≤ (ln l1) then (if (ln l1) < (ln l0) then (if 0 ≤ (wrap64 ((ln l1) - 1)) then (if (wrap64 ((ln l1) - 1)) < (ln l0) then (if 0 ≤ (wrap64 ((ln l1) - 1)) then (if (wrap64 ((ln l1) - 1)) < (ln l1) then ((c152 (rd l0 (ln l1)) (rd l0 (wrap64 ((ln l1) - 1))) (rd l1 (wrap64 ((ln l1) - 1)))).bind fun t1 => some t1.1) else none) else none) else none) else none) else none) else none)) else none) else none) else none) else none)
noncomputable def f (n : Nat) (l0 l1 : Λ) : Ω (Int) := b0 (bits_Div64.f n) l0 l1
noncomputable def sg : Sig (Int) := s1 (sInt .u64)
noncomputable def code : Code := (Tryz.f162.body).getD .skip
noncomputable def cfg (c152 : T3) : Cfg (Int) := { T := tys, call := orCall 152 (bits_Div64.call c152) (noCall) }
noncomputable def cuts : List (Nat × List (Nat × Want)) := []
theorem e0 {c152 n J l0 l1} : afun (cfg c152) J cuts n code Tryz.f162.results.toList [false] [.ro .u64 l0, .ro .u64 l1] sg.out = b0 c152 l0 l1 := by kernel_rfl
theorem ok {n  l0 l1 r} (h : f n l0 l1 = some r) : CallD Tryz.prog HW 162 [.ro .u64 l0, .ro .u64 l1] (sg.enc r) :=
  fun_some hwS Tryz.func162 (by kernel_rfl) (body := code) (by kernel_rfl) tys_ok (c := cfg (bits_Div64.f n)) (orCall_ok (bits_Div64.call_ok (n := n)) noCall_ok) noW_ok (by kernel_rfl) (by kernel_rfl) (Nat.le_of_ble_eq_true (by kernel_rfl)) (Eq.trans ((e0 (n := n))) h)
noncomputable def call {α : Type} (g : T6) (ds : List D) (K : List D→Ω α) : Ω α := match ds with
  | [.ro .u64 l0, .ro .u64 l1] => (g l0 l1).bind fun r => K (sg.enc r)
  | _ => none
theorem call_ok {α : Type} {n : Nat} : COK Tryz.prog HW 162 (call (α := α) (f n)) := fun _ _ _ h => by
  unfold call at h; split at h
  · exact cok h fun _ => ok
  · cases h
end quot_guess
/-! ### quot_takeOff: function 163 -/
namespace quot_takeOff
noncomputable def b0 (c122 : T15) (c155 c158 : T3) (k117 : T91) (l0 l1 : Λ) (a2 : Int) : Ω (Λ × Bool) := k117 l1 a2 0 0 0 (ln l1) l0
noncomputable def b15 (c122 : T15) (c155 c158 : T3) (x0 : Λ) (x1 x2 : Int) (x3 : Λ) : Ω (Λ × Bool) := (if 0 ≤ (ln x0) then (if (ln x0) < (ln x3) then ((c158 (rd x3 (ln x0)) x1 x2).bind fun t1 => (if 0 ≤ (ln x0) then (if (ln x0) < (ln x3) then some (x3.set ((ln x0) : Int).toNat t1.1, decide (¬ t1.2 = 0)) else none) else none)) else none) else none)
noncomputable def b117 (c122 : T15) (c155 c158 : T3) (k15 : Λ→Int→Int→Λ→Ω (Λ × Bool)) (k117 : T91) (x0 : Λ) (x1 x2 x3 x4 x5 : Int) (x6 : Λ) : Ω (Λ × Bool) := (if x4 < x5 then (if 0 ≤ x4 then (if x4 < (ln x0) then ((c122 x1 (rd x0 x4)).bind fun t1 => ((c155 t1.2 x2 0).bind fun t2 => (if 0 ≤ x4 then (if x4 < (ln x6) then ((c158 (rd x6 x4) t2.1 x3).bind fun t3 => (if 0 ≤ x4 then (if x4 < (ln x6) then k117 x0 x1 (IntKind.u64.wrap (t1.1 + t2.2)) t3.2 (wrap64 (x4 + 1)) x5 (x6.set (x4 : Int).toNat t3.1) else none) else none)) else none) else none))) else none) else none) else k15 x0 x2 x3 x6)
noncomputable def l15 (n : Nat) (x0 : Λ) (x1 x2 : Int) (x3 : Λ) : Ω (Λ × Bool) := b15 bits_Mul64.f bits_Add64.f bits_Sub64.f x0 x1 x2 x3
noncomputable def l117 (n : Nat) : Nat→Λ→Int→Int→Int→Int→Int→Λ→Ω (Λ × Bool)
  | 0, _, _, _, _, _, _, _ => none
  | m + 1, x0, x1, x2, x3, x4, x5, x6 => b117 bits_Mul64.f bits_Add64.f bits_Sub64.f (l15 n) (l117 n m) x0 x1 x2 x3 x4 x5 x6
noncomputable def f (n : Nat) (l0 l1 : Λ) (a2 : Int) : Ω (Λ × Bool) := b0 bits_Mul64.f bits_Add64.f bits_Sub64.f (l117 n n) l0 l1 a2
noncomputable def sg : Sig (Bool) := s1 (sBool)
noncomputable def code : Code := (Tryz.f163.body).getD .skip
noncomputable def cfg (c122 : T15) (c155 c158 : T3) : Cfg (Λ × Bool) := { T := tys, call := orCall 122 (bits_Mul64.call c122) (orCall 155 (bits_Add64.call c155) (orCall 158 (bits_Sub64.call c158) (noCall))) }
noncomputable def cuts : List (Nat × List (Nat × Want)) := [(15, [(0, .keep), (1, .keep), (7, .keep), (8, .keep)]), (117, [(0, .keep), (1, .keep), (2, .keep), (7, .keep), (8, .keep), (14, .keep), (15, .keep), (16, .keep)])]
noncomputable def s15 (x0 : Λ) (x1 x2 : Int) (x3 : Λ) : ASt := ⟨[(0, .own 0), (1, .ro .u64 x0), (7, .int .u64 x1), (8, .int .u64 x2)], [.bor .u64 x3]⟩
noncomputable def s117 (x0 : Λ) (x1 x2 x3 x4 x5 : Int) (x6 : Λ) : ASt := ⟨[(0, .own 0), (1, .ro .u64 x0), (2, .int .u64 x1), (7, .int .u64 x2), (8, .int .u64 x3), (14, .ro .u64 x0), (15, .int .i64 x5), (16, .int .i64 x4)], [.bor .u64 x6]⟩
noncomputable def A (c122 : T15) (c155 c158 : T3) (n : Nat) (J : Jt (Λ × Bool)) (q : Nat) (ms : List Nat) : ASt→Ω (Λ × Bool) := acont (cfg c122 c155 c158) J cuts n q code 1 ms (aendw (cfg c122 c155 c158) Tryz.f163.results.toList (sgw sg))
theorem e0 (c122 : T15) (c155 c158 : T3) (n : Nat) (J : Jt (Λ × Bool)) (l0 l1 : Λ) (a2 : Int) : afunw (cfg c122 c155 c158) J cuts n code Tryz.f163.results.toList l0 [.ro .u64 l1, .int .u64 a2] (sgw sg) = b0 c122 c155 c158 (fun y0 y1 y2 y3 y4 y5 y6 => J 117 (A c122 c155 c158 n J 117 [n]) (s117 y0 y1 y2 y3 y4 y5 y6)) l0 l1 a2 := by kernel_rfl
theorem e15 (c122 : T15) (c155 c158 : T3) (n : Nat) (J : Jt (Λ × Bool)) (x0 : Λ) (x1 x2 : Int) (x3 : Λ) : A c122 c155 c158 n J 15 [] (s15 x0 x1 x2 x3) = b15 c122 c155 c158 x0 x1 x2 x3 := by kernel_rfl
theorem e117 (c122 : T15) (c155 c158 : T3) (n : Nat) (J : Jt (Λ × Bool)) (m : Nat) (x0 : Λ) (x1 x2 x3 x4 x5 : Int) (x6 : Λ) : A c122 c155 c158 n J 117 [m + 1] (s117 x0 x1 x2 x3 x4 x5 x6) = b117 c122 c155 c158 (fun y0 y1 y2 y3 => J 15 (A c122 c155 c158 n J 15 []) (s15 y0 y1 y2 y3)) (fun y0 y1 y2 y3 y4 y5 y6 => J 117 (A c122 c155 c158 n J 117 [m]) (s117 y0 y1 y2 y3 y4 y5 y6)) x0 x1 x2 x3 x4 x5 x6 := by kernel_rfl
theorem q15 (n : Nat) (x0 : Λ) (x1 x2 : Int) (x3 : Λ) : A bits_Mul64.f bits_Add64.f bits_Sub64.f n idJ 15 [] (s15 x0 x1 x2 x3) = l15 n x0 x1 x2 x3 := (e15 bits_Mul64.f bits_Add64.f bits_Sub64.f n idJ x0 x1 x2 x3).trans (rfl)
theorem q117 (n m : Nat) : ∀ (x0 : Λ) (x1 x2 x3 x4 x5 : Int) (x6 : Λ), A bits_Mul64.f bits_Add64.f bits_Sub64.f n idJ 117 [m] (s117 x0 x1 x2 x3 x4 x5 x6) = l117 n m x0 x1 x2 x3 x4 x5 x6 := by
  induction m with
  | zero => intros; rfl
  | succ m ih =>
    intro x0 x1 x2 x3 x4 x5 x6
    refine (e117 bits_Mul64.f bits_Add64.f bits_Sub64.f n idJ m x0 x1 x2 x3 x4 x5 x6).trans ?_
    exact congrFun (congrFun (congrFun (congrFun (congrFun (congrFun (congrFun (congr (congrArg (b117 bits_Mul64.f bits_Add64.f bits_Sub64.f) (funext fun y0 => (funext fun y1 => (funext fun y2 => (funext fun y3 => q15 n y0 y1 y2 y3))))) (funext fun y0 => (funext fun y1 => (funext fun y2 => (funext fun y3 => (funext fun y4 => (funext fun y5 => (funext fun y6 => ih y0 y1 y2 y3 y4 y5 y6)))))))) x0) x1) x2) x3) x4) x5) x6
theorem eq (n : Nat) (l0 l1 : Λ) (a2 : Int) : afunw (cfg bits_Mul64.f bits_Add64.f bits_Sub64.f) idJ cuts n code Tryz.f163.results.toList l0 [.ro .u64 l1, .int .u64 a2] (sgw sg) = f n l0 l1 a2 := (e0 bits_Mul64.f bits_Add64.f bits_Sub64.f n idJ l0 l1 a2).trans (congrFun (congrFun (congrFun (congrArg (b0 bits_Mul64.f bits_Add64.f bits_Sub64.f) (funext fun y0 => (funext fun y1 => (funext fun y2 => (funext fun y3 => (funext fun y4 => (funext fun y5 => (funext fun y6 => q117 n n y0 y1 y2 y3 y4 y5 y6)))))))) l0) l1) a2)
theorem ok {n : Nat} {l0 : Λ} {l1 : Λ} {a2 : Int} {r : Λ × Bool} (h : f n l0 l1 a2 = some r) : CallW Tryz.prog HW 163 l0 [.ro .u64 l1, .int .u64 a2] r.1 (sg.enc r.2) :=
  funw_some Tryz.func163 (by kernel_rfl) (body := code) (by kernel_rfl) tys_ok (c := cfg bits_Mul64.f bits_Add64.f bits_Sub64.f) (orCall_ok bits_Mul64.call_ok (orCall_ok bits_Add64.call_ok (orCall_ok bits_Sub64.call_ok noCall_ok))) noW_ok (by kernel_rfl) (by kernel_rfl) (Nat.le_of_ble_eq_true (by kernel_rfl)) ((eq n l0 l1 a2).trans h)
noncomputable def call {α : Type} (g : T48) (l0 : Λ) (ds : List D) (K : Λ→List D→Ω α) : Ω α := match ds with
  | [.ro .u64 l1, .int .u64 a2] => (g l0 l1 a2).bind fun r => K r.1 (sg.enc r.2)
  | _ => none
theorem call_ok {α : Type} {n : Nat} (l : Λ) (ds : List D) (K : Λ→List D→Ω α) (r : α) (h : call (f n) l ds K = some r) : ∃ l' rs, K l' rs = some r ∧ CallW Tryz.prog HW 163 l ds l' rs := by
  unfold call at h
  split at h
  · obtain ⟨x, hx, hk⟩ := Option.bind_eq_some_iff.1 h
    exact ⟨_, _, hk, ok (n := n) hx⟩
  · cases h
end quot_takeOff
/-! ### quot_putBack: function 164 -/
namespace quot_putBack
noncomputable def b0 (c155 : T3) (k117 : T92) (l0 l1 : Λ) : Ω (Λ × Bool) := k117 l1 0 0 (ln l1) l0
noncomputable def b15 (c155 : T3) (x0 : Λ) (x1 : Int) (x2 : Λ) : Ω (Λ × Bool) := (if 0 ≤ (ln x0) then (if (ln x0) < (ln x2) then ((c155 (rd x2 (ln x0)) 0 x1).bind fun t1 => (if 0 ≤ (ln x0) then (if (ln x0) < (ln x2) then some (x2.set ((ln x0) : Int).toNat t1.1, decide (¬ t1.2 = 0)) else none) else none)) else none) else none)
noncomputable def b117 (c155 : T3) (k15 : Λ→Int→Λ→Ω (Λ × Bool)) (k117 : T92) (x0 : Λ) (x1 x2 x3 : Int) (x4 : Λ) : Ω (Λ × Bool) := (if x2 < x3 then (if 0 ≤ x2 then (if x2 < (ln x0) then (if 0 ≤ x2 then (if x2 < (ln x4) then ((c155 (rd x4 x2) (rd x0 x2) x1).bind fun t1 => (if 0 ≤ x2 then (if x2 < (ln x4) then k117 x0 t1.2 (wrap64 (x2 + 1)) x3 (x4.set (x2 : Int).toNat t1.1) else none) else none)) else none) else none) else none) else none) else k15 x0 x1 x4)
noncomputable def l15 (n : Nat) (x0 : Λ) (x1 : Int) (x2 : Λ) : Ω (Λ × Bool) := b15 bits_Add64.f x0 x1 x2
noncomputable def l117 (n : Nat) : Nat→Λ→Int→Int→Int→Λ→Ω (Λ × Bool)
  | 0, _, _, _, _, _ => none
  | m + 1, x0, x1, x2, x3, x4 => b117 bits_Add64.f (l15 n) (l117 n m) x0 x1 x2 x3 x4
noncomputable def f (n : Nat) (l0 l1 : Λ) : Ω (Λ × Bool) := b0 bits_Add64.f (l117 n n) l0 l1
noncomputable def sg : Sig (Bool) := s1 (sBool)
noncomputable def code : Code := (Tryz.f164.body).getD .skip
noncomputable def cfg (c155 : T3) : Cfg (Λ × Bool) := { T := tys, call := orCall 155 (bits_Add64.call c155) (noCall) }
noncomputable def cuts : List (Nat × List (Nat × Want)) := [(15, [(0, .keep), (1, .keep), (5, .keep)]), (117, [(0, .keep), (1, .keep), (5, .keep), (8, .keep), (9, .keep), (10, .keep)])]
noncomputable def s15 (x0 : Λ) (x1 : Int) (x2 : Λ) : ASt := ⟨[(0, .own 0), (1, .ro .u64 x0), (5, .int .u64 x1)], [.bor .u64 x2]⟩
noncomputable def s117 (x0 : Λ) (x1 x2 x3 : Int) (x4 : Λ) : ASt := ⟨[(0, .own 0), (1, .ro .u64 x0), (5, .int .u64 x1), (8, .ro .u64 x0), (9, .int .i64 x3), (10, .int .i64 x2)], [.bor .u64 x4]⟩
noncomputable def A (c155 : T3) (n : Nat) (J : Jt (Λ × Bool)) (q : Nat) (ms : List Nat) : ASt→Ω (Λ × Bool) := acont (cfg c155) J cuts n q code 1 ms (aendw (cfg c155) Tryz.f164.results.toList (sgw sg))
theorem e0 (c155 : T3) (n : Nat) (J : Jt (Λ × Bool)) (l0 l1 : Λ) : afunw (cfg c155) J cuts n code Tryz.f164.results.toList l0 [.ro .u64 l1] (sgw sg) = b0 c155 (fun y0 y1 y2 y3 y4 => J 117 (A c155 n J 117 [n]) (s117 y0 y1 y2 y3 y4)) l0 l1 := by kernel_rfl
theorem e15 (c155 : T3) (n : Nat) (J : Jt (Λ × Bool)) (x0 : Λ) (x1 : Int) (x2 : Λ) : A c155 n J 15 [] (s15 x0 x1 x2) = b15 c155 x0 x1 x2 := by kernel_rfl
theorem e117 (c155 : T3) (n : Nat) (J : Jt (Λ × Bool)) (m : Nat) (x0 : Λ) (x1 x2 x3 : Int) (x4 : Λ) : A c155 n J 117 [m + 1] (s117 x0 x1 x2 x3 x4) = b117 c155 (fun y0 y1 y2 => J 15 (A c155 n J 15 []) (s15 y0 y1 y2)) (fun y0 y1 y2 y3 y4 => J 117 (A c155 n J 117 [m]) (s117 y0 y1 y2 y3 y4)) x0 x1 x2 x3 x4 := by kernel_rfl
theorem q15 (n : Nat) (x0 : Λ) (x1 : Int) (x2 : Λ) : A bits_Add64.f n idJ 15 [] (s15 x0 x1 x2) = l15 n x0 x1 x2 := (e15 bits_Add64.f n idJ x0 x1 x2).trans (rfl)
theorem q117 (n m : Nat) : ∀ (x0 : Λ) (x1 x2 x3 : Int) (x4 : Λ), A bits_Add64.f n idJ 117 [m] (s117 x0 x1 x2 x3 x4) = l117 n m x0 x1 x2 x3 x4 := by
  induction m with
  | zero => intros; rfl
  | succ m ih =>
    intro x0 x1 x2 x3 x4
    refine (e117 bits_Add64.f n idJ m x0 x1 x2 x3 x4).trans ?_
    exact congrFun (congrFun (congrFun (congrFun (congrFun (congr (congrArg (b117 bits_Add64.f) (funext fun y0 => (funext fun y1 => (funext fun y2 => q15 n y0 y1 y2)))) (funext fun y0 => (funext fun y1 => (funext fun y2 => (funext fun y3 => (funext fun y4 => ih y0 y1 y2 y3 y4)))))) x0) x1) x2) x3) x4
theorem eq (n : Nat) (l0 l1 : Λ) : afunw (cfg bits_Add64.f) idJ cuts n code Tryz.f164.results.toList l0 [.ro .u64 l1] (sgw sg) = f n l0 l1 := (e0 bits_Add64.f n idJ l0 l1).trans (congrFun (congrFun (congrArg (b0 bits_Add64.f) (funext fun y0 => (funext fun y1 => (funext fun y2 => (funext fun y3 => (funext fun y4 => q117 n n y0 y1 y2 y3 y4)))))) l0) l1)
theorem ok {n : Nat} {l0 : Λ} {l1 : Λ} {r : Λ × Bool} (h : f n l0 l1 = some r) : CallW Tryz.prog HW 164 l0 [.ro .u64 l1] r.1 (sg.enc r.2) :=
  funw_some Tryz.func164 (by kernel_rfl) (body := code) (by kernel_rfl) tys_ok (c := cfg bits_Add64.f) (orCall_ok bits_Add64.call_ok noCall_ok) noW_ok (by kernel_rfl) (by kernel_rfl) (Nat.le_of_ble_eq_true (by kernel_rfl)) ((eq n l0 l1).trans h)
noncomputable def call {α : Type} (g : T49) (l0 : Λ) (ds : List D) (K : Λ→List D→Ω α) : Ω α := match ds with
  | [.ro .u64 l1] => (g l0 l1).bind fun r => K r.1 (sg.enc r.2)
  | _ => none
theorem call_ok {α : Type} {n : Nat} (l : Λ) (ds : List D) (K : Λ→List D→Ω α) (r : α) (h : call (f n) l ds K = some r) : ∃ l' rs, K l' rs = some r ∧ CallW Tryz.prog HW 164 l ds l' rs := by
  unfold call at h
  split at h
  · obtain ⟨x, hx, hk⟩ := Option.bind_eq_some_iff.1 h
    exact ⟨_, _, hk, ok (n := n) hx⟩
  · cases h
end quot_putBack
/-! ### quot_long: function 157 -/
namespace quot_long
noncomputable def b0 (c144 : T25) (c153 : T2) (c160 : T4) (c161 : T47) (c162 : T6) (c163 : T48) (c164 : T49) (k7157 : T69) (l0 l1 : Λ) : Ω (Λ × Λ) := (if 0 ≤ (wrap64 ((ln l1) - 1)) then (if (wrap64 ((ln l1) - 1)) < (ln l1) then ((c160 (rd l1 (wrap64 ((ln l1) - 1)))).bind fun t1 => ((c161 l1 t1 (ln l1)).bind fun t2 => ((c161 l0 t1 (wrap64 ((ln l0) + 1))).bind fun t3 => (if 0 ≤ (wrap64 ((wrap64 ((ln l0) - (ln l1))) + 1)) then (if (wrap64 ((wrap64 ((ln l0) - (ln l1))) + 1)).toNat ≤ 35184372088832 then k7157 (ln l1) t1 (wrap64 ((ln (List.replicate (wrap64 ((wrap64 ((ln l0) - (ln l1))) + 1)).toNat (0 : Int))) - 1)) t2 t3 (List.replicate (wrap64 ((wrap64 ((ln l0) - (ln l1))) + 1)).toNat (0 : Int)) else none) else none)))) else none) else none)
noncomputable def b895 (c144 : T25) (c153 : T2) (c160 : T4) (c161 : T47) (c162 : T6) (c163 : T48) (c164 : T49) (x0 x1 : Int) (x2 x3 : Λ) : Ω (Λ × Λ) := (if 0 ≤ x0 then (if x0 ≤ (ln x2) then ((c144 ((x2.take (x0 : Int).toNat).drop 0) x1).bind fun t1 => ((c153 x3).bind fun t2 => some (t2, t1.1))) else none) else none)
noncomputable def b7157 (c144 : T25) (c153 : T2) (c160 : T4) (c161 : T47) (c162 : T6) (c163 : T48) (c164 : T49) (k895 : Int→Int→Λ→Λ→Ω (Λ × Λ)) (k1832093 : T93) (x0 x1 x2 : Int) (x3 x4 x5 : Λ) : Ω (Λ × Λ) := (if x2 ≥ 0 then (if 0 ≤ (wrap64 ((wrap64 (x2 + x0)) + 1)) then (if (wrap64 ((wrap64 (x2 + x0)) + 1)) ≤ (ln x4) then (if 0 ≤ x2 then (if x2 ≤ (wrap64 ((wrap64 (x2 + x0)) + 1)) then ((c162 ((x4.take (wrap64 ((wrap64 (x2 + x0)) + 1) : Int).toNat).drop (x2 : Int).toNat) x3).bind fun t1 => (if x2 < (wrap64 ((wrap64 (x2 + x0)) + 1)) then ((c163 ((x4.take (wrap64 ((wrap64 (x2 + x0)) + 1) : Int).toNat).drop (x2 : Int).toNat) x3 t1).bind fun t2 => k1832093 x0 x1 x2 (wrap64 ((wrap64 (x2 + x0)) + 1)) t1 t2.2 x3 (x4.take (x2 : Int).toNat ++ t2.1 ++ x4.drop (wrap64 ((wrap64 (x2 + x0)) + 1) : Int).toNat) x5) else none)) else none) else none) else none) else none) else k895 x0 x1 x4 x5)
noncomputable def b1832093 (c144 : T25) (c153 : T2) (c160 : T4) (c161 : T47) (c162 : T6) (c163 : T48) (c164 : T49) (k7157 : T69) (k1832093 : T93) (x0 x1 x2 x3 x4 : Int) (x5 : Bool) (x6 x7 x8 : Λ) : Ω (Λ × Λ) := (if (!x5) = true then (if 0 ≤ x2 then (if x2 < (ln x8) then k7157 x0 x1 (wrap64 (x2 - 1)) x6 x7 (x8.set (x2 : Int).toNat x4) else none) else none) else (if x2 < x3 then ((c164 ((x7.take (x3 : Int).toNat).drop (x2 : Int).toNat) x6).bind fun t1 => k1832093 x0 x1 x2 x3 (IntKind.u64.wrap (x4 - 1)) (!t1.2) x6 (x7.take (x2 : Int).toNat ++ t1.1 ++ x7.drop (x3 : Int).toNat) x8) else none))
noncomputable def l895 (n : Nat) (x0 x1 : Int) (x2 x3 : Λ) : Ω (Λ × Λ) := b895 (nat_Shr.f n) (nat_Trim.f n) bits_LeadingZeros64.f (quot_raised.f n) (quot_guess.f n) (quot_takeOff.f n) (quot_putBack.f n) x0 x1 x2 x3
noncomputable def l1832093 (n : Nat) (k7157 : T69) : Nat→Int→Int→Int→Int→Int→Bool→Λ→Λ→Λ→Ω (Λ × Λ)
  | 0, _, _, _, _, _, _, _, _, _ => none
  | m + 1, x0, x1, x2, x3, x4, x5, x6, x7, x8 => b1832093 (nat_Shr.f n) (nat_Trim.f n) bits_LeadingZeros64.f (quot_raised.f n) (quot_guess.f n) (quot_takeOff.f n) (quot_putBack.f n) k7157 (l1832093 n k7157 m) x0 x1 x2 x3 x4 x5 x6 x7 x8
noncomputable def l7157 (n : Nat) : Nat→Int→Int→Int→Λ→Λ→Λ→Ω (Λ × Λ)
  | 0, _, _, _, _, _, _ => none
  | m + 1, x0, x1, x2, x3, x4, x5 => b7157 (nat_Shr.f n) (nat_Trim.f n) bits_LeadingZeros64.f (quot_raised.f n) (quot_guess.f n) (quot_takeOff.f n) (quot_putBack.f n) (l895 n) (l1832093 n (l7157 n m) n) x0 x1 x2 x3 x4 x5
noncomputable def f (n : Nat) (l0 l1 : Λ) : Ω (Λ × Λ) := b0 (nat_Shr.f n) (nat_Trim.f n) bits_LeadingZeros64.f (quot_raised.f n) (quot_guess.f n) (quot_takeOff.f n) (quot_putBack.f n) (l7157 n n) l0 l1
noncomputable def sg : Sig (Λ × Λ) := s2 (sRow .u64) (s1 (sRow .u64))
noncomputable def code : Code := (Tryz.f157.body).getD .skip
noncomputable def cfg (c144 : T25) (c153 : T2) (c160 : T4) (c161 : T47) (c162 : T6) (c163 : T48) (c164 : T49) : Cfg (Λ × Λ) := { T := tys, call := orCall 144 (nat_Shr.call c144) (orCall 153 (nat_Trim.call c153) (orCall 160 (bits_LeadingZeros64.call c160) (orCall 161 (quot_raised.call c161) (orCall 162 (quot_guess.call c162) (noCall))))), win := true, wr := [163, 164], callw := orW 163 (quot_takeOff.call c163) (orW 164 (quot_putBack.call c164) (noW)) }
noncomputable def cuts : List (Nat × List (Nat × Want)) := [(895, [(6, .keep), (7, .keep), (9, .keep), (10, .keep)]), (7157, [(6, .keep), (7, .keep), (8, .keep), (9, .keep), (10, .keep), (11, .keep)]), (1832093, [(6, .keep), (7, .keep), (8, .keep), (9, .keep), (10, .keep), (11, .keep), (12, .keep), (13, .keep), (14, .keep)])]
noncomputable def s895 (x0 x1 : Int) (x2 x3 : Λ) : ASt := ⟨[(6, .int .i64 x0), (7, .int .i64 x1), (9, .own 0), (10, .own 1)], [.ints 24 .u64 x2, .ints 24 .u64 x3]⟩
noncomputable def s7157 (x0 x1 x2 : Int) (x3 x4 x5 : Λ) : ASt := ⟨[(6, .int .i64 x0), (7, .int .i64 x1), (8, .own 0), (9, .own 1), (10, .own 2), (11, .int .i64 x2)], [.ints 24 .u64 x3, .ints 24 .u64 x4, .ints 24 .u64 x5]⟩
noncomputable def s1832093 (x0 x1 x2 x3 x4 : Int) (x5 : Bool) (x6 x7 x8 : Λ) : ASt := ⟨[(6, .int .i64 x0), (7, .int .i64 x1), (8, .own 0), (9, .own 1), (10, .own 2), (11, .int .i64 x2), (12, .win 1 x2 x3), (13, .int .u64 x4), (14, .bool x5)], [.ints 24 .u64 x6, .ints 24 .u64 x7, .ints 24 .u64 x8]⟩
noncomputable def A (c144 : T25) (c153 : T2) (c160 : T4) (c161 : T47) (c162 : T6) (c163 : T48) (c164 : T49) (n : Nat) (J : Jt (Λ × Λ)) (q : Nat) (ms : List Nat) : ASt→Ω (Λ × Λ) := acont (cfg c144 c153 c160 c161 c162 c163 c164) J cuts n q code 1 ms (aend (cfg c144 c153 c160 c161 c162 c163 c164) Tryz.f157.results.toList [false, false] sg.out)
theorem e0 {c144 c153 c160 c161 c162 c163 c164 n J l0 l1} : afun (cfg c144 c153 c160 c161 c162 c163 c164) J cuts n code Tryz.f157.results.toList [false, false] [.ro .u64 l0, .ro .u64 l1] sg.out = b0 c144 c153 c160 c161 c162 c163 c164 (fun y0 y1 y2 y3 y4 y5 => J 7157 (A c144 c153 c160 c161 c162 c163 c164 n J 7157 [n]) (s7157 y0 y1 y2 y3 y4 y5)) l0 l1 := by kernel_rfl
theorem e895 {c144 c153 c160 c161 c162 c163 c164 n J x0 x1 x2 x3} : A c144 c153 c160 c161 c162 c163 c164 n J 895 [] (s895 x0 x1 x2 x3) = b895 c144 c153 c160 c161 c162 c163 c164 x0 x1 x2 x3 := by kernel_rfl
theorem e7157 {c144 c153 c160 c161 c162 c163 c164 n J m x0 x1 x2 x3 x4 x5} : A c144 c153 c160 c161 c162 c163 c164 n J 7157 [m + 1] (s7157 x0 x1 x2 x3 x4 x5) = b7157 c144 c153 c160 c161 c162 c163 c164 (fun y0 y1 y2 y3 => J 895 (A c144 c153 c160 c161 c162 c163 c164 n J 895 []) (s895 y0 y1 y2 y3)) (fun y0 y1 y2 y3 y4 y5 y6 y7 y8 => J 1832093 (A c144 c153 c160 c161 c162 c163 c164 n J 1832093 [m, n]) (s1832093 y0 y1 y2 y3 y4 y5 y6 y7 y8)) x0 x1 x2 x3 x4 x5 := by kernel_rfl
theorem e1832093 {c144 c153 c160 c161 c162 c163 c164 n J m7157 m x0 x1 x2 x3 x4 x5 x6 x7 x8} : A c144 c153 c160 c161 c162 c163 c164 n J 1832093 [m7157, m + 1] (s1832093 x0 x1 x2 x3 x4 x5 x6 x7 x8) = b1832093 c144 c153 c160 c161 c162 c163 c164 (fun y0 y1 y2 y3 y4 y5 => J 7157 (A c144 c153 c160 c161 c162 c163 c164 n J 7157 [m7157]) (s7157 y0 y1 y2 y3 y4 y5)) (fun y0 y1 y2 y3 y4 y5 y6 y7 y8 => J 1832093 (A c144 c153 c160 c161 c162 c163 c164 n J 1832093 [m7157, m]) (s1832093 y0 y1 y2 y3 y4 y5 y6 y7 y8)) x0 x1 x2 x3 x4 x5 x6 x7 x8 := by kernel_rfl
noncomputable abbrev I (n : Nat) := A (nat_Shr.f n) (nat_Trim.f n) bits_LeadingZeros64.f (quot_raised.f n) (quot_guess.f n) (quot_takeOff.f n) (quot_putBack.f n) n idJ
theorem q895 (n x0 x1 x2 x3) : I n 895 [] (s895 x0 x1 x2 x3) = l895 n x0 x1 x2 x3 := e895
theorem q1832093 (n m7157 m) : ∀ x0 x1 x2 x3 x4 x5 x6 x7 x8, I n 1832093 [m7157, m] (s1832093 x0 x1 x2 x3 x4 x5 x6 x7 x8) = l1832093 n (fun y0 y1 y2 y3 y4 y5 => I n 7157 [m7157] (s7157 y0 y1 y2 y3 y4 y5)) m x0 x1 x2 x3 x4 x5 x6 x7 x8 := by
  induction m with
  | zero => intros; rfl
  | succ m ih =>
    intros
    exact e1832093.trans (Eq.trans (cf9 (congr (congrArg (b1832093 _ _ _ _ _ _ _) rfl) (fu9 (ih))) _ _ _ _ _ _ _ _ _) rfl)
theorem q7157 (n m) : ∀ x0 x1 x2 x3 x4 x5, I n 7157 [m] (s7157 x0 x1 x2 x3 x4 x5) = l7157 n m x0 x1 x2 x3 x4 x5 := by
  induction m with
  | zero => intros; rfl
  | succ m ih =>
    intros
    exact e7157.trans (Eq.trans (cf6 (congr (congrArg (b7157 _ _ _ _ _ _ _) (fu4 (q895 n))) ((fu9 (q1832093 n m n)).trans (by rw [show (fun y0 y1 y2 y3 y4 y5 => I n 7157 [m] (s7157 y0 y1 y2 y3 y4 y5)) = _ from (fu6 (ih))]))) _ _ _ _ _ _) rfl)
theorem ok {n  l0 l1 r} (h : f n l0 l1 = some r) : CallD Tryz.prog HW 157 [.ro .u64 l0, .ro .u64 l1] (sg.enc r) :=
  fun_some hwS Tryz.func157 (by kernel_rfl) (body := code) (by kernel_rfl) tys_ok (c := cfg (nat_Shr.f n) (nat_Trim.f n) bits_LeadingZeros64.f (quot_raised.f n) (quot_guess.f n) (quot_takeOff.f n) (quot_putBack.f n)) (orCall_ok (nat_Shr.call_ok (n := n)) (orCall_ok (nat_Trim.call_ok (n := n)) (orCall_ok bits_LeadingZeros64.call_ok (orCall_ok (quot_raised.call_ok (n := n)) (orCall_ok (quot_guess.call_ok (n := n)) noCall_ok))))) (orW_ok (quot_takeOff.call_ok (n := n)) (orW_ok (quot_putBack.call_ok (n := n)) noW_ok)) (by kernel_rfl) (by kernel_rfl) (Nat.le_of_ble_eq_true (by kernel_rfl)) (Eq.trans ((e0 (n := n)).trans (Eq.trans (cf2 (congrArg (b0 _ _ _ _ _ _ _) (fu6 (q7157 n n))) _ _) rfl)) h)
noncomputable def call {α : Type} (g : T70) (ds : List D) (K : List D→Ω α) : Ω α := match ds with
  | [.ro .u64 l0, .ro .u64 l1] => (g l0 l1).bind fun r => K (sg.enc r)
  | _ => none
theorem call_ok {α : Type} {n : Nat} : COK Tryz.prog HW 157 (call (α := α) (f n)) := fun _ _ _ h => by
  unfold call at h; split at h
  · exact cok h fun _ => ok
  · cases h
end quot_long
/-! ### quot_DivMod: function 127 -/
namespace quot_DivMod
noncomputable def b0 (c116 : T24) (c124 : T39) (c129 : T6) (c156 : T68) (c157 : T70) (l0 l1 : Λ) : Ω (Λ × Λ × Int) := ((c124 l0 4096).bind fun t1 => ((c124 l1 4096).bind fun t2 => (if (!t1.2) = true then some (([] : Λ), ([] : Λ), 2) else (if (!t2.2) = true then some (([] : Λ), ([] : Λ), 2) else (if (ln t2.1) = 0 then some (([] : Λ), ([] : Λ), 4) else ((c129 t1.1 t2.1).bind fun t3 => (if t3 < 0 then some (([] : Λ), t1.1, 0) else (if (ln t2.1) = 1 then (if 0 < (ln t2.1) then ((c156 t1.1 (rd t2.1 0)).bind fun t4 => ((c116 t4.2.1).bind fun t5 => some (t4.1, t5, t4.2.2))) else none) else ((c157 t1.1 t2.1).bind fun t6 => some (t6.1, t6.2, 0))))))))))
noncomputable def f (n : Nat) (l0 l1 : Λ) : Ω (Λ × Λ × Int) := b0 nat_FromUint.f (quot_small.f n) (nat_Cmp.f n) (nat_DivSmall.f n) (quot_long.f n) l0 l1
noncomputable def sg : Sig (Λ × Λ × Int) := s2 (sRow .u64) (s2 (sRow .u64) (s1 (sInt .i64)))
noncomputable def code : Code := (Tryz.f127.body).getD .skip
noncomputable def cfg (c116 : T24) (c124 : T39) (c129 : T6) (c156 : T68) (c157 : T70) : Cfg (Λ × Λ × Int) := { T := tys, call := orCall 116 (nat_FromUint.call c116) (orCall 124 (quot_small.call c124) (orCall 129 (nat_Cmp.call c129) (orCall 156 (nat_DivSmall.call c156) (orCall 157 (quot_long.call c157) (noCall))))) }
noncomputable def cuts : List (Nat × List (Nat × Want)) := []
theorem e0 {c116 c124 c129 c156 c157 n J l0 l1} : afun (cfg c116 c124 c129 c156 c157) J cuts n code Tryz.f127.results.toList [false, false, false] [.ro .u64 l0, .ro .u64 l1] sg.out = b0 c116 c124 c129 c156 c157 l0 l1 := by kernel_rfl
theorem ok {n  l0 l1 r} (h : f n l0 l1 = some r) : CallD Tryz.prog HW 127 [.ro .u64 l0, .ro .u64 l1] (sg.enc r) :=
  fun_some hwS Tryz.func127 (by kernel_rfl) (body := code) (by kernel_rfl) tys_ok (c := cfg nat_FromUint.f (quot_small.f n) (nat_Cmp.f n) (nat_DivSmall.f n) (quot_long.f n)) (orCall_ok nat_FromUint.call_ok (orCall_ok (quot_small.call_ok (n := n)) (orCall_ok (nat_Cmp.call_ok (n := n)) (orCall_ok (nat_DivSmall.call_ok (n := n)) (orCall_ok (quot_long.call_ok (n := n)) noCall_ok))))) noW_ok (by kernel_rfl) (by kernel_rfl) (Nat.le_of_ble_eq_true (by kernel_rfl)) (Eq.trans ((e0 (n := n))) h)
noncomputable def call {α : Type} (g : T28) (ds : List D) (K : List D→Ω α) : Ω α := match ds with
  | [.ro .u64 l0, .ro .u64 l1] => (g l0 l1).bind fun r => K (sg.enc r)
  | _ => none
theorem call_ok {α : Type} {n : Nat} : COK Tryz.prog HW 127 (call (α := α) (f n)) := fun _ _ _ h => by
  unfold call at h; split at h
  · exact cok h fun _ => ok
  · cases h
end quot_DivMod
/-! ### quot_Root: function 118 -/
namespace quot_Root
noncomputable def b0 (c88 : T19) (c119 : T0) (c124 : T39) (c126 : T8) (c127 : T28) (c129 : T6) (c130 : T8) (c144 : T25) (k505 : T61) (l0 : Λ) : Ω (Λ × Bool × Int) := ((c124 l0 256).bind fun t1 => (if (!t1.2) = true then some (([] : Λ), false, 2) else (if (ln t1.1) = 0 then some (([] : Λ), true, 0) else ((c119 t1.1).bind fun t2 => ((c88 [1] (wrap64 (Int.tdiv (wrap64 (t2 + 1)) 2))).bind fun t3 => k505 t1.1 t3.1)))))
noncomputable def b127 (c88 : T19) (c119 : T0) (c124 : T39) (c126 : T8) (c127 : T28) (c129 : T6) (c130 : T8) (c144 : T25) (x0 x1 : Λ) : Ω (Λ × Bool × Int) := ((c126 x1 x1).bind fun t1 => ((c129 t1.1 x0).bind fun t2 => some (x1, decide (t2 = 0), 0)))
noncomputable def b505 (c88 : T19) (c119 : T0) (c124 : T39) (c126 : T8) (c127 : T28) (c129 : T6) (c130 : T8) (c144 : T25) (k127 k505 : T61) (x0 x1 : Λ) : Ω (Λ × Bool × Int) := ((c127 x0 x1).bind fun t1 => ((c130 x1 t1.1).bind fun t2 => ((c144 t2.1 1).bind fun t3 => ((c129 t3.1 x1).bind fun t4 => (if t4 ≥ 0 then k127 x0 x1 else k505 x0 t3.1)))))
noncomputable def l127 (n : Nat) (x0 x1 : Λ) : Ω (Λ × Bool × Int) := b127 (nat_Shl.f n) (nat_BitLen.f n) (quot_small.f n) (nat_Mul.f n) (quot_DivMod.f n) (nat_Cmp.f n) (nat_Add.f n) (nat_Shr.f n) x0 x1
noncomputable def l505 (n : Nat) : Nat→Λ→Λ→Ω (Λ × Bool × Int)
  | 0, _, _ => none
  | m + 1, x0, x1 => b505 (nat_Shl.f n) (nat_BitLen.f n) (quot_small.f n) (nat_Mul.f n) (quot_DivMod.f n) (nat_Cmp.f n) (nat_Add.f n) (nat_Shr.f n) (l127 n) (l505 n m) x0 x1
noncomputable def f (n : Nat) (l0 : Λ) : Ω (Λ × Bool × Int) := b0 (nat_Shl.f n) (nat_BitLen.f n) (quot_small.f n) (nat_Mul.f n) (quot_DivMod.f n) (nat_Cmp.f n) (nat_Add.f n) (nat_Shr.f n) (l505 n n) l0
noncomputable def sg : Sig (Λ × Bool × Int) := s2 (sRow .u64) (s2 (sBool) (s1 (sInt .i64)))
noncomputable def code : Code := (Tryz.f118.body).getD .skip
noncomputable def cfg (c88 : T19) (c119 : T0) (c124 : T39) (c126 : T8) (c127 : T28) (c129 : T6) (c130 : T8) (c144 : T25) : Cfg (Λ × Bool × Int) := { T := tys, call := orCall 88 (nat_Shl.call c88) (orCall 119 (nat_BitLen.call c119) (orCall 124 (quot_small.call c124) (orCall 126 (nat_Mul.call c126) (orCall 127 (quot_DivMod.call c127) (orCall 129 (nat_Cmp.call c129) (orCall 130 (nat_Add.call c130) (orCall 144 (nat_Shr.call c144) (noCall)))))))) }
noncomputable def cuts : List (Nat × List (Nat × Want)) := [(127, [(5, .keep), (7, .keep)]), (505, [(5, .keep), (7, .keep)])]
noncomputable def s127 (x0 x1 : Λ) : ASt := ⟨[(5, .ro .u64 x0), (7, .ro .u64 x1)], []⟩
noncomputable def s505 (x0 x1 : Λ) : ASt := ⟨[(5, .ro .u64 x0), (7, .ro .u64 x1)], []⟩
noncomputable def A (c88 : T19) (c119 : T0) (c124 : T39) (c126 : T8) (c127 : T28) (c129 : T6) (c130 : T8) (c144 : T25) (n : Nat) (J : Jt (Λ × Bool × Int)) (q : Nat) (ms : List Nat) : ASt→Ω (Λ × Bool × Int) := acont (cfg c88 c119 c124 c126 c127 c129 c130 c144) J cuts n q code 1 ms (aend (cfg c88 c119 c124 c126 c127 c129 c130 c144) Tryz.f118.results.toList [false, false, false] sg.out)
theorem e0 {c88 c119 c124 c126 c127 c129 c130 c144 n J l0} : afun (cfg c88 c119 c124 c126 c127 c129 c130 c144) J cuts n code Tryz.f118.results.toList [false, false, false] [.ro .u64 l0] sg.out = b0 c88 c119 c124 c126 c127 c129 c130 c144 (fun y0 y1 => J 505 (A c88 c119 c124 c126 c127 c129 c130 c144 n J 505 [n]) (s505 y0 y1)) l0 := by kernel_rfl
theorem e127 {c88 c119 c124 c126 c127 c129 c130 c144 n J x0 x1} : A c88 c119 c124 c126 c127 c129 c130 c144 n J 127 [] (s127 x0 x1) = b127 c88 c119 c124 c126 c127 c129 c130 c144 x0 x1 := by kernel_rfl
theorem e505 {c88 c119 c124 c126 c127 c129 c130 c144 n J m x0 x1} : A c88 c119 c124 c126 c127 c129 c130 c144 n J 505 [m + 1] (s505 x0 x1) = b505 c88 c119 c124 c126 c127 c129 c130 c144 (fun y0 y1 => J 127 (A c88 c119 c124 c126 c127 c129 c130 c144 n J 127 []) (s127 y0 y1)) (fun y0 y1 => J 505 (A c88 c119 c124 c126 c127 c129 c130 c144 n J 505 [m]) (s505 y0 y1)) x0 x1 := by kernel_rfl
noncomputable abbrev I (n : Nat) := A (nat_Shl.f n) (nat_BitLen.f n) (quot_small.f n) (nat_Mul.f n) (quot_DivMod.f n) (nat_Cmp.f n) (nat_Add.f n) (nat_Shr.f n) n idJ
theorem q127 (n x0 x1) : I n 127 [] (s127 x0 x1) = l127 n x0 x1 := e127
theorem q505 (n m) : ∀ x0 x1, I n 505 [m] (s505 x0 x1) = l505 n m x0 x1 := by
  induction m with
  | zero => intros; rfl
  | succ m ih =>
    intros
    exact e505.trans (Eq.trans (cf2 (congr (congrArg (b505 _ _ _ _ _ _ _ _) (fu2 (q127 n))) (fu2 (ih))) _ _) rfl)
theorem ok {n  l0 r} (h : f n l0 = some r) : CallD Tryz.prog HW 118 [.ro .u64 l0] (sg.enc r) :=
  fun_some hwS Tryz.func118 (by kernel_rfl) (body := code) (by kernel_rfl) tys_ok (c := cfg (nat_Shl.f n) (nat_BitLen.f n) (quot_small.f n) (nat_Mul.f n) (quot_DivMod.f n) (nat_Cmp.f n) (nat_Add.f n) (nat_Shr.f n)) (orCall_ok (nat_Shl.call_ok (n := n)) (orCall_ok (nat_BitLen.call_ok (n := n)) (orCall_ok (quot_small.call_ok (n := n)) (orCall_ok (nat_Mul.call_ok (n := n)) (orCall_ok (quot_DivMod.call_ok (n := n)) (orCall_ok (nat_Cmp.call_ok (n := n)) (orCall_ok (nat_Add.call_ok (n := n)) (orCall_ok (nat_Shr.call_ok (n := n)) noCall_ok)))))))) noW_ok (by kernel_rfl) (by kernel_rfl) (Nat.le_of_ble_eq_true (by kernel_rfl)) (Eq.trans ((e0 (n := n)).trans (Eq.trans (cf1 (congrArg (b0 _ _ _ _ _ _ _ _) (fu2 (q505 n n))) _) rfl)) h)
noncomputable def call {α : Type} (g : T30) (ds : List D) (K : List D→Ω α) : Ω α := match ds with
  | [.ro .u64 l0] => (g l0).bind fun r => K (sg.enc r)
  | _ => none
theorem call_ok {α : Type} {n : Nat} : COK Tryz.prog HW 118 (call (α := α) (f n)) := fun _ _ _ h => by
  unfold call at h; split at h
  · exact cok h fun _ => ok
  · cases h
end quot_Root
/-! ### soft_sqrt: function 61 -/
namespace soft_sqrt
noncomputable def b0 (c36 : T14) (c37 : T22) (c88 : T19) (c110 : T18) (c116 : T24) (c118 : T30) (c119 c120 : T0) (k63 : Int→Bool→Int→Int→Int→Ω (Int × Int)) (a0 a1 a2 : Int) : Ω (Int × Int) := ((c36 a0).bind fun t1 => (if t1.2.1 = 4 then some (9221120237041090560, 0) else (if t1.2.1 = 0 then some (a0, 0) else (if t1.1 = true then ((c110).bind fun t2 => some (t2.1, t2.2)) else (if t1.2.1 = 3 then some (a0, 0) else (if ¬ (Int.tmod (wrap64 (t1.2.2.2 - 118)) 2) = 0 then k63 119 t1.1 t1.2.1 t1.2.2.1 t1.2.2.2 else k63 118 t1.1 t1.2.1 t1.2.2.1 t1.2.2.2))))))
noncomputable def b63 (c36 : T14) (c37 : T22) (c88 : T19) (c110 : T18) (c116 : T24) (c118 : T30) (c119 c120 : T0) (x0 : Int) (x1 : Bool) (x2 x3 x4 : Int) : Ω (Int × Int) := ((c116 x3).bind fun t1 => ((c88 t1 x0).bind fun t2 => ((c118 t2.1).bind fun t3 => ((c37 false t3.1 (wrap64 (Int.tdiv (wrap64 (x4 - x0)) 2)) (!t3.2.1)).bind fun t4 => (if t3.2.1 = true then ((c119 t3.1).bind fun t5 => ((c120 t3.1).bind fun t6 => (if (wrap64 (t5 - t6)) ≤ 53 then some (t4.1, 0) else some (t4.1, 16)))) else some (t4.1, 16))))))
noncomputable def l63 (n : Nat) (x0 : Int) (x1 : Bool) (x2 x3 x4 : Int) : Ω (Int × Int) := b63 ieee_Decode.f (ieee_Round.f n) (nat_Shl.f n) soft_invalid.f nat_FromUint.f (quot_Root.f n) (nat_BitLen.f n) (nat_Trail.f n) x0 x1 x2 x3 x4
noncomputable def f (n : Nat) (a0 a1 a2 : Int) : Ω (Int × Int) := b0 ieee_Decode.f (ieee_Round.f n) (nat_Shl.f n) soft_invalid.f nat_FromUint.f (quot_Root.f n) (nat_BitLen.f n) (nat_Trail.f n) (l63 n) a0 a1 a2
noncomputable def sg : Sig (Int × Int) := s2 (sInt .u64) (s1 (sInt .i64))
noncomputable def code : Code := (Tryz.f61.body).getD .skip
noncomputable def cfg (c36 : T14) (c37 : T22) (c88 : T19) (c110 : T18) (c116 : T24) (c118 : T30) (c119 c120 : T0) : Cfg (Int × Int) := { T := tys, call := orCall 36 (ieee_Decode.call c36) (orCall 37 (ieee_Round.call c37) (orCall 88 (nat_Shl.call c88) (orCall 110 (soft_invalid.call c110) (orCall 116 (nat_FromUint.call c116) (orCall 118 (quot_Root.call c118) (orCall 119 (nat_BitLen.call c119) (orCall 120 (nat_Trail.call c120) (noCall)))))))) }
noncomputable def cuts : List (Nat × List (Nat × Want)) := [(63, [(8, .keep), (9, .keep)])]
noncomputable def s63 (x0 : Int) (x1 : Bool) (x2 x3 x4 : Int) : ASt := ⟨[(8, .ptr 0 0), (9, .int .i64 x0)], [.cells 54 [.bool x1, .int .i64 x2, .int .u64 x3, .int .i64 x4]]⟩
noncomputable def A (c36 : T14) (c37 : T22) (c88 : T19) (c110 : T18) (c116 : T24) (c118 : T30) (c119 c120 : T0) (n : Nat) (J : Jt (Int × Int)) (q : Nat) (ms : List Nat) : ASt→Ω (Int × Int) := acont (cfg c36 c37 c88 c110 c116 c118 c119 c120) J cuts n q code 1 ms (aend (cfg c36 c37 c88 c110 c116 c118 c119 c120) Tryz.f61.results.toList [false, false] sg.out)
theorem e0 {c36 c37 c88 c110 c116 c118 c119 c120 n J a0 a1 a2} : afun (cfg c36 c37 c88 c110 c116 c118 c119 c120) J cuts n code Tryz.f61.results.toList [false, false] [.int .u64 a0, .int .u64 a1, .int .u64 a2] sg.out = b0 c36 c37 c88 c110 c116 c118 c119 c120 (fun y0 y1 y2 y3 y4 => J 63 (A c36 c37 c88 c110 c116 c118 c119 c120 n J 63 []) (s63 y0 y1 y2 y3 y4)) a0 a1 a2 := by kernel_rfl
theorem e63 {c36 c37 c88 c110 c116 c118 c119 c120 n J x0 x1 x2 x3 x4} : A c36 c37 c88 c110 c116 c118 c119 c120 n J 63 [] (s63 x0 x1 x2 x3 x4) = b63 c36 c37 c88 c110 c116 c118 c119 c120 x0 x1 x2 x3 x4 := by kernel_rfl
noncomputable abbrev I (n : Nat) := A ieee_Decode.f (ieee_Round.f n) (nat_Shl.f n) soft_invalid.f nat_FromUint.f (quot_Root.f n) (nat_BitLen.f n) (nat_Trail.f n) n idJ
theorem q63 (n x0 x1 x2 x3 x4) : I n 63 [] (s63 x0 x1 x2 x3 x4) = l63 n x0 x1 x2 x3 x4 := e63
theorem ok {n  a0 a1 a2 r} (h : f n a0 a1 a2 = some r) : CallD Tryz.prog HW 61 [.int .u64 a0, .int .u64 a1, .int .u64 a2] (sg.enc r) :=
  fun_some hwS Tryz.func61 (by kernel_rfl) (body := code) (by kernel_rfl) tys_ok (c := cfg ieee_Decode.f (ieee_Round.f n) (nat_Shl.f n) soft_invalid.f nat_FromUint.f (quot_Root.f n) (nat_BitLen.f n) (nat_Trail.f n)) (orCall_ok ieee_Decode.call_ok (orCall_ok (ieee_Round.call_ok (n := n)) (orCall_ok (nat_Shl.call_ok (n := n)) (orCall_ok soft_invalid.call_ok (orCall_ok nat_FromUint.call_ok (orCall_ok (quot_Root.call_ok (n := n)) (orCall_ok (nat_BitLen.call_ok (n := n)) (orCall_ok (nat_Trail.call_ok (n := n)) noCall_ok)))))))) noW_ok (by kernel_rfl) (by kernel_rfl) (Nat.le_of_ble_eq_true (by kernel_rfl)) (Eq.trans ((e0 (n := n)).trans (Eq.trans (cf3 (congrArg (b0 _ _ _ _ _ _ _ _) (fu5 (q63 n))) _ _ _) rfl)) h)
noncomputable def call {α : Type} (g : T3) (ds : List D) (K : List D→Ω α) : Ω α := match ds with
  | [.int .u64 a0, .int .u64 a1, .int .u64 a2] => (g a0 a1 a2).bind fun r => K (sg.enc r)
  | _ => none
theorem call_ok {α : Type} {n : Nat} : COK Tryz.prog HW 61 (call (α := α) (f n)) := fun _ _ _ h => by
  unfold call at h; split at h
  · exact cok h fun _ => ok
  · cases h
end soft_sqrt
/-! ### nat_MulAdd: function 131 -/
namespace nat_MulAdd
noncomputable def b0 (c122 : T15) (c141 : T5) (c142 : T0) (c143 : T7) (c155 : T3) (k1013 : T94) (l0 : Λ) (a1 a2 : Int) : Ω (Λ × Int) := ((c141 l0).bind fun t1 => (if t1 = true then some (([] : Λ), 2) else ((c142 l0).bind fun t2 => (if 0 ≤ t2 then (if t2 ≤ (ln l0) then ((some (l0.take t2.toNat) : Ω (Λ)).bind fun y3 => (if 0 ≤ (wrap64 ((ln y3) + 1)) then (if (wrap64 ((ln y3) + 1)).toNat ≤ 35184372088832 then k1013 y3 a1 a2 (ln y3) 0 (List.replicate (wrap64 ((ln y3) + 1)).toNat (0 : Int)) else none) else none)) else none) else none))))
noncomputable def b127 (c122 : T15) (c141 : T5) (c142 : T0) (c143 : T7) (c155 : T3) (x0 : Λ) (x1 : Int) (x2 : Λ) : Ω (Λ × Int) := (if 0 ≤ (ln x0) then (if (ln x0) < (ln x2) then ((c143 (x2.set ((ln x0) : Int).toNat x1)).bind fun t1 => some (t1.1, t1.2)) else none) else none)
noncomputable def b1013 (c122 : T15) (c141 : T5) (c142 : T0) (c143 : T7) (c155 : T3) (k127 : T85) (k1013 : T94) (x0 : Λ) (x1 x2 x3 x4 : Int) (x5 : Λ) : Ω (Λ × Int) := (if x4 < x3 then (if 0 ≤ x4 then (if x4 < (ln x0) then ((c122 (rd x0 x4) x1).bind fun t1 => ((c155 t1.2 x2 0).bind fun t2 => (if 0 ≤ x4 then (if x4 < (ln x5) then k1013 x0 x1 (IntKind.u64.wrap (t1.1 + t2.2)) x3 (wrap64 (x4 + 1)) (x5.set (x4 : Int).toNat t2.1) else none) else none))) else none) else none) else k127 x0 x2 x5)
noncomputable def l127 (n : Nat) (x0 : Λ) (x1 : Int) (x2 : Λ) : Ω (Λ × Int) := b127 bits_Mul64.f (nat_big.f n) (nat_size.f n) (nat_cut.f n) bits_Add64.f x0 x1 x2
noncomputable def l1013 (n : Nat) : Nat→Λ→Int→Int→Int→Int→Λ→Ω (Λ × Int)
  | 0, _, _, _, _, _, _ => none
  | m + 1, x0, x1, x2, x3, x4, x5 => b1013 bits_Mul64.f (nat_big.f n) (nat_size.f n) (nat_cut.f n) bits_Add64.f (l127 n) (l1013 n m) x0 x1 x2 x3 x4 x5
noncomputable def f (n : Nat) (l0 : Λ) (a1 a2 : Int) : Ω (Λ × Int) := b0 bits_Mul64.f (nat_big.f n) (nat_size.f n) (nat_cut.f n) bits_Add64.f (l1013 n n) l0 a1 a2
noncomputable def sg : Sig (Λ × Int) := s2 (sRow .u64) (s1 (sInt .i64))
noncomputable def code : Code := (Tryz.f131.body).getD .skip
noncomputable def cfg (c122 : T15) (c141 : T5) (c142 : T0) (c143 : T7) (c155 : T3) : Cfg (Λ × Int) := { T := tys, call := orCall 122 (bits_Mul64.call c122) (orCall 141 (nat_big.call c141) (orCall 142 (nat_size.call c142) (orCall 143 (nat_cut.call c143) (orCall 155 (bits_Add64.call c155) (noCall))))) }
noncomputable def cuts : List (Nat × List (Nat × Want)) := [(127, [(0, .keep), (8, .keep), (9, .keep)]), (1013, [(0, .keep), (1, .keep), (8, .keep), (9, .keep), (26, .keep), (27, .keep), (28, .keep)])]
noncomputable def s127 (x0 : Λ) (x1 : Int) (x2 : Λ) : ASt := ⟨[(0, .ro .u64 x0), (8, .own 0), (9, .int .u64 x1)], [.ints 24 .u64 x2]⟩
noncomputable def s1013 (x0 : Λ) (x1 x2 x3 x4 : Int) (x5 : Λ) : ASt := ⟨[(0, .ro .u64 x0), (1, .int .u64 x1), (8, .own 0), (9, .int .u64 x2), (26, .ro .u64 x0), (27, .int .i64 x3), (28, .int .i64 x4)], [.ints 24 .u64 x5]⟩
noncomputable def A (c122 : T15) (c141 : T5) (c142 : T0) (c143 : T7) (c155 : T3) (n : Nat) (J : Jt (Λ × Int)) (q : Nat) (ms : List Nat) : ASt→Ω (Λ × Int) := acont (cfg c122 c141 c142 c143 c155) J cuts n q code 1 ms (aend (cfg c122 c141 c142 c143 c155) Tryz.f131.results.toList [false, false] sg.out)
theorem e0 {c122 c141 c142 c143 c155 n J l0 a1 a2} : afun (cfg c122 c141 c142 c143 c155) J cuts n code Tryz.f131.results.toList [false, false] [.ro .u64 l0, .int .u64 a1, .int .u64 a2] sg.out = b0 c122 c141 c142 c143 c155 (fun y0 y1 y2 y3 y4 y5 => J 1013 (A c122 c141 c142 c143 c155 n J 1013 [n]) (s1013 y0 y1 y2 y3 y4 y5)) l0 a1 a2 := by kernel_rfl
theorem e127 {c122 c141 c142 c143 c155 n J x0 x1 x2} : A c122 c141 c142 c143 c155 n J 127 [] (s127 x0 x1 x2) = b127 c122 c141 c142 c143 c155 x0 x1 x2 := by kernel_rfl
theorem e1013 {c122 c141 c142 c143 c155 n J m x0 x1 x2 x3 x4 x5} : A c122 c141 c142 c143 c155 n J 1013 [m + 1] (s1013 x0 x1 x2 x3 x4 x5) = b1013 c122 c141 c142 c143 c155 (fun y0 y1 y2 => J 127 (A c122 c141 c142 c143 c155 n J 127 []) (s127 y0 y1 y2)) (fun y0 y1 y2 y3 y4 y5 => J 1013 (A c122 c141 c142 c143 c155 n J 1013 [m]) (s1013 y0 y1 y2 y3 y4 y5)) x0 x1 x2 x3 x4 x5 := by kernel_rfl
noncomputable abbrev I (n : Nat) := A bits_Mul64.f (nat_big.f n) (nat_size.f n) (nat_cut.f n) bits_Add64.f n idJ
theorem q127 (n x0 x1 x2) : I n 127 [] (s127 x0 x1 x2) = l127 n x0 x1 x2 := e127
theorem q1013 (n m) : ∀ x0 x1 x2 x3 x4 x5, I n 1013 [m] (s1013 x0 x1 x2 x3 x4 x5) = l1013 n m x0 x1 x2 x3 x4 x5 := by
  induction m with
  | zero => intros; rfl
  | succ m ih =>
    intros
    exact e1013.trans (Eq.trans (cf6 (congr (congrArg (b1013 _ _ _ _ _) (fu3 (q127 n))) (fu6 (ih))) _ _ _ _ _ _) rfl)
theorem ok {n  l0 a1 a2 r} (h : f n l0 a1 a2 = some r) : CallD Tryz.prog HW 131 [.ro .u64 l0, .int .u64 a1, .int .u64 a2] (sg.enc r) :=
  fun_some hwS Tryz.func131 (by kernel_rfl) (body := code) (by kernel_rfl) tys_ok (c := cfg bits_Mul64.f (nat_big.f n) (nat_size.f n) (nat_cut.f n) bits_Add64.f) (orCall_ok bits_Mul64.call_ok (orCall_ok (nat_big.call_ok (n := n)) (orCall_ok (nat_size.call_ok (n := n)) (orCall_ok (nat_cut.call_ok (n := n)) (orCall_ok bits_Add64.call_ok noCall_ok))))) noW_ok (by kernel_rfl) (by kernel_rfl) (Nat.le_of_ble_eq_true (by kernel_rfl)) (Eq.trans ((e0 (n := n)).trans (Eq.trans (cf3 (congrArg (b0 _ _ _ _ _) (fu6 (q1013 n n))) _ _ _) rfl)) h)
noncomputable def call {α : Type} (g : T41) (ds : List D) (K : List D→Ω α) : Ω α := match ds with
  | [.ro .u64 l0, .int .u64 a1, .int .u64 a2] => (g l0 a1 a2).bind fun r => K (sg.enc r)
  | _ => none
theorem call_ok {α : Type} {n : Nat} : COK Tryz.prog HW 131 (call (α := α) (f n)) := fun _ _ _ h => by
  unfold call at h; split at h
  · exact cok h fun _ => ok
  · cases h
end nat_MulAdd
end Go.Proofs.YtobocamcoaeliaaGreatDoor.F
