/- What the functions compute, and that calls of them answer so (printed by gen.py). Conditions: HW, a table as it was laid. -/
import Derived.Test.YtobocamcoaeliaaGreatDoorF1
namespace Go.Proofs.YtobocamcoaeliaaGreatDoor.F
open Go.RowKit Go.Proofs.YtobocamcoaeliaaGreatDoorA
set_option linter.unusedVariables false
set_option maxRecDepth 100000
/-! ### ieee_RoundRatio: function 71 -/
namespace ieee_RoundRatio
noncomputable def b0 (c37 : T22) (c88 : T19) (c90 : T4) (c119 : T0) (c127 : T28) (c128 : T8) (c129 : T6) (c130 : T8) (c131 : T41) (k127 : T34) (a0 : Bool) (l1 l2 : Λ) (a3 : Int) : Ω (Int × Int) := ((c88 l1 0).bind fun t1 => ((c88 l2 0).bind fun t2 => (if ¬ t1.2 = 0 then some (0, 2) else (if ¬ t2.2 = 0 then some (0, 2) else (if (ln t2.1) = 0 then some (0, 4) else (if (ln t1.1) = 0 then ((c37 a0 ([] : Λ) 0 false).bind fun t3 => some (t3.1, t3.2)) else ((c90 a3).bind fun t4 => ((c119 t2.1).bind fun t5 => ((c119 t1.1).bind fun t6 => (if (wrap64 (t5 - t6)) > 0 then ((c88 t1.1 (wrap64 (t5 - t6))).bind fun t7 => k127 a0 t7.1 t2.1 (wrap64 (t4 - (wrap64 (t5 - t6))))) else k127 a0 t1.1 t2.1 t4))))))))))
noncomputable def b127 (c37 : T22) (c88 : T19) (c90 : T4) (c119 : T0) (c127 : T28) (c128 : T8) (c129 : T6) (c130 : T8) (c131 : T41) (k4089 : T71) (x0 : Bool) (x1 x2 : Λ) (x3 : Int) : Ω (Int × Int) := ((c127 x1 x2).bind fun t1 => (if ¬ t1.2.2 = 0 then some (0, t1.2.2) else k4089 x0 x2 x3 t1.1 t1.2.1))
noncomputable def b1023 (c37 : T22) (c88 : T19) (c90 : T4) (c119 : T0) (c127 : T28) (c128 : T8) (c129 : T6) (c130 : T8) (c131 : T41) (x0 : Bool) (x1 : Int) (x2 x3 : Λ) : Ω (Int × Int) := ((c37 x0 x2 x1 (decide ((ln x3) > 0))).bind fun t1 => some (t1.1, t1.2))
noncomputable def b4089 (c37 : T22) (c88 : T19) (c90 : T4) (c119 : T0) (c127 : T28) (c128 : T8) (c129 : T6) (c130 : T8) (c131 : T41) (k1023 : Bool→Int→Λ→Λ→Ω (Int × Int)) (k130839 : Bool→Λ→Int→Λ→Λ→Int→Ω (Int × Int)) (x0 : Bool) (x1 : Λ) (x2 : Int) (x3 x4 : Λ) : Ω (Int × Int) := ((c119 x3).bind fun t1 => (if t1 < 66 then ((c128 x1 x4).bind fun t2 => ((c129 x4 t2.1).bind fun t3 => (if t3 ≥ 0 then ((c128 x4 t2.1).bind fun t4 => k130839 x0 x1 x2 x3 t4.1 1) else ((c130 x4 x4).bind fun t5 => k130839 x0 x1 x2 x3 t5.1 0)))) else k1023 x0 x2 x3 x4))
noncomputable def b130839 (c37 : T22) (c88 : T19) (c90 : T4) (c119 : T0) (c127 : T28) (c128 : T8) (c129 : T6) (c130 : T8) (c131 : T41) (k4089 : T71) (x0 : Bool) (x1 : Λ) (x2 : Int) (x3 x4 : Λ) (x5 : Int) : Ω (Int × Int) := ((c131 x3 2 x5).bind fun t1 => k4089 x0 x1 (wrap64 (x2 - 1)) t1.1 x4)
noncomputable def l1023 (n : Nat) (x0 : Bool) (x1 : Int) (x2 x3 : Λ) : Ω (Int × Int) := b1023 (ieee_Round.f n) (nat_Shl.f n) ieee_near.f (nat_BitLen.f n) (quot_DivMod.f n) (nat_Sub.f n) (nat_Cmp.f n) (nat_Add.f n) (nat_MulAdd.f n) x0 x1 x2 x3
noncomputable def l130839 (n : Nat) (k4089 : T71) (x0 : Bool) (x1 : Λ) (x2 : Int) (x3 x4 : Λ) (x5 : Int) : Ω (Int × Int) := b130839 (ieee_Round.f n) (nat_Shl.f n) ieee_near.f (nat_BitLen.f n) (quot_DivMod.f n) (nat_Sub.f n) (nat_Cmp.f n) (nat_Add.f n) (nat_MulAdd.f n) k4089 x0 x1 x2 x3 x4 x5
noncomputable def l4089 (n : Nat) : Nat→Bool→Λ→Int→Λ→Λ→Ω (Int × Int)
  | 0, _, _, _, _, _ => none
  | m + 1, x0, x1, x2, x3, x4 => b4089 (ieee_Round.f n) (nat_Shl.f n) ieee_near.f (nat_BitLen.f n) (quot_DivMod.f n) (nat_Sub.f n) (nat_Cmp.f n) (nat_Add.f n) (nat_MulAdd.f n) (l1023 n) (l130839 n (l4089 n m)) x0 x1 x2 x3 x4
noncomputable def l127 (n : Nat) (x0 : Bool) (x1 x2 : Λ) (x3 : Int) : Ω (Int × Int) := b127 (ieee_Round.f n) (nat_Shl.f n) ieee_near.f (nat_BitLen.f n) (quot_DivMod.f n) (nat_Sub.f n) (nat_Cmp.f n) (nat_Add.f n) (nat_MulAdd.f n) (l4089 n n) x0 x1 x2 x3
noncomputable def f (n : Nat) (a0 : Bool) (l1 l2 : Λ) (a3 : Int) : Ω (Int × Int) := b0 (ieee_Round.f n) (nat_Shl.f n) ieee_near.f (nat_BitLen.f n) (quot_DivMod.f n) (nat_Sub.f n) (nat_Cmp.f n) (nat_Add.f n) (nat_MulAdd.f n) (l127 n) a0 l1 l2 a3
noncomputable def sg : Sig (Int × Int) := s2 (sInt .u64) (s1 (sInt .i64))
noncomputable def code : Code := (Tryz.f71.body).getD .skip
noncomputable def cfg (c37 : T22) (c88 : T19) (c90 : T4) (c119 : T0) (c127 : T28) (c128 : T8) (c129 : T6) (c130 : T8) (c131 : T41) : Cfg (Int × Int) := { T := tys, call := orCall 37 (ieee_Round.call c37) (orCall 88 (nat_Shl.call c88) (orCall 90 (ieee_near.call c90) (orCall 119 (nat_BitLen.call c119) (orCall 127 (quot_DivMod.call c127) (orCall 128 (nat_Sub.call c128) (orCall 129 (nat_Cmp.call c129) (orCall 130 (nat_Add.call c130) (orCall 131 (nat_MulAdd.call c131) (noCall))))))))) }
noncomputable def cuts : List (Nat × List (Nat × Want)) := [(127, [(0, .keep), (1, .keep), (2, .keep), (3, .keep)]), (1023, [(0, .keep), (3, .keep), (13, .keep), (14, .keep)]), (4089, [(0, .keep), (2, .keep), (3, .keep), (13, .keep), (14, .keep)]), (130839, [(0, .keep), (2, .keep), (3, .keep), (13, .keep), (14, .keep), (17, .keep)])]
noncomputable def s127 (x0 : Bool) (x1 x2 : Λ) (x3 : Int) : ASt := ⟨[(0, .bool x0), (1, .ro .u64 x1), (2, .ro .u64 x2), (3, .int .i64 x3)], []⟩
noncomputable def s1023 (x0 : Bool) (x1 : Int) (x2 x3 : Λ) : ASt := ⟨[(0, .bool x0), (3, .int .i64 x1), (13, .ro .u64 x2), (14, .ro .u64 x3)], []⟩
noncomputable def s4089 (x0 : Bool) (x1 : Λ) (x2 : Int) (x3 x4 : Λ) : ASt := ⟨[(0, .bool x0), (2, .ro .u64 x1), (3, .int .i64 x2), (13, .ro .u64 x3), (14, .ro .u64 x4)], []⟩
noncomputable def s130839 (x0 : Bool) (x1 : Λ) (x2 : Int) (x3 x4 : Λ) (x5 : Int) : ASt := ⟨[(0, .bool x0), (2, .ro .u64 x1), (3, .int .i64 x2), (13, .ro .u64 x3), (14, .ro .u64 x4), (17, .int .u64 x5)], []⟩
noncomputable def A (c37 : T22) (c88 : T19) (c90 : T4) (c119 : T0) (c127 : T28) (c128 : T8) (c129 : T6) (c130 : T8) (c131 : T41) (n : Nat) (J : Jt (Int × Int)) (q : Nat) (ms : List Nat) : ASt→Ω (Int × Int) := acont (cfg c37 c88 c90 c119 c127 c128 c129 c130 c131) J cuts n q code 1 ms (aend (cfg c37 c88 c90 c119 c127 c128 c129 c130 c131) Tryz.f71.results.toList [false, false] sg.out)
theorem e0 {c37 c88 c90 c119 c127 c128 c129 c130 c131 n J a0 l1 l2 a3} : afun (cfg c37 c88 c90 c119 c127 c128 c129 c130 c131) J cuts n code Tryz.f71.results.toList [false, false] [.bool a0, .ro .u64 l1, .ro .u64 l2, .int .i64 a3] sg.out = b0 c37 c88 c90 c119 c127 c128 c129 c130 c131 (fun y0 y1 y2 y3 => J 127 (A c37 c88 c90 c119 c127 c128 c129 c130 c131 n J 127 []) (s127 y0 y1 y2 y3)) a0 l1 l2 a3 := by kernel_rfl
theorem e127 {c37 c88 c90 c119 c127 c128 c129 c130 c131 n J x0 x1 x2 x3} : A c37 c88 c90 c119 c127 c128 c129 c130 c131 n J 127 [] (s127 x0 x1 x2 x3) = b127 c37 c88 c90 c119 c127 c128 c129 c130 c131 (fun y0 y1 y2 y3 y4 => J 4089 (A c37 c88 c90 c119 c127 c128 c129 c130 c131 n J 4089 [n]) (s4089 y0 y1 y2 y3 y4)) x0 x1 x2 x3 := by kernel_rfl
theorem e1023 {c37 c88 c90 c119 c127 c128 c129 c130 c131 n J x0 x1 x2 x3} : A c37 c88 c90 c119 c127 c128 c129 c130 c131 n J 1023 [] (s1023 x0 x1 x2 x3) = b1023 c37 c88 c90 c119 c127 c128 c129 c130 c131 x0 x1 x2 x3 := by kernel_rfl
theorem e4089 {c37 c88 c90 c119 c127 c128 c129 c130 c131 n J m x0 x1 x2 x3 x4} : A c37 c88 c90 c119 c127 c128 c129 c130 c131 n J 4089 [m + 1] (s4089 x0 x1 x2 x3 x4) = b4089 c37 c88 c90 c119 c127 c128 c129 c130 c131 (fun y0 y1 y2 y3 => J 1023 (A c37 c88 c90 c119 c127 c128 c129 c130 c131 n J 1023 []) (s1023 y0 y1 y2 y3)) (fun y0 y1 y2 y3 y4 y5 => J 130839 (A c37 c88 c90 c119 c127 c128 c129 c130 c131 n J 130839 [m]) (s130839 y0 y1 y2 y3 y4 y5)) x0 x1 x2 x3 x4 := by kernel_rfl
theorem e130839 {c37 c88 c90 c119 c127 c128 c129 c130 c131 n J m4089 x0 x1 x2 x3 x4 x5} : A c37 c88 c90 c119 c127 c128 c129 c130 c131 n J 130839 [m4089] (s130839 x0 x1 x2 x3 x4 x5) = b130839 c37 c88 c90 c119 c127 c128 c129 c130 c131 (fun y0 y1 y2 y3 y4 => J 4089 (A c37 c88 c90 c119 c127 c128 c129 c130 c131 n J 4089 [m4089]) (s4089 y0 y1 y2 y3 y4)) x0 x1 x2 x3 x4 x5 := by kernel_rfl
noncomputable abbrev I (n : Nat) := A (ieee_Round.f n) (nat_Shl.f n) ieee_near.f (nat_BitLen.f n) (quot_DivMod.f n) (nat_Sub.f n) (nat_Cmp.f n) (nat_Add.f n) (nat_MulAdd.f n) n idJ
theorem q1023 (n x0 x1 x2 x3) : I n 1023 [] (s1023 x0 x1 x2 x3) = l1023 n x0 x1 x2 x3 := e1023
theorem q130839 (n m4089 x0 x1 x2 x3 x4 x5) : I n 130839 [m4089] (s130839 x0 x1 x2 x3 x4 x5) = l130839 n (fun y0 y1 y2 y3 y4 => I n 4089 [m4089] (s4089 y0 y1 y2 y3 y4)) x0 x1 x2 x3 x4 x5 := e130839
theorem q4089 (n m) : ∀ x0 x1 x2 x3 x4, I n 4089 [m] (s4089 x0 x1 x2 x3 x4) = l4089 n m x0 x1 x2 x3 x4 := by
  induction m with
  | zero => intros; rfl
  | succ m ih =>
    intros
    exact e4089.trans (Eq.trans (cf5 (congr (congrArg (b4089 _ _ _ _ _ _ _ _ _) (fu4 (q1023 n))) ((fu6 (q130839 n m)).trans (by rw [show (fun y0 y1 y2 y3 y4 => I n 4089 [m] (s4089 y0 y1 y2 y3 y4)) = _ from (fu5 (ih))]))) _ _ _ _ _) rfl)
theorem q127 (n x0 x1 x2 x3) : I n 127 [] (s127 x0 x1 x2 x3) = l127 n x0 x1 x2 x3 := e127.trans (Eq.trans (cf4 (congrArg (b127 _ _ _ _ _ _ _ _ _) (fu5 (q4089 n n))) _ _ _ _) rfl)
theorem ok {n  a0 l1 l2 a3 r} (h : f n a0 l1 l2 a3 = some r) : CallD Tryz.prog HW 71 [.bool a0, .ro .u64 l1, .ro .u64 l2, .int .i64 a3] (sg.enc r) :=
  fun_some hwS Tryz.func71 (by kernel_rfl) (body := code) (by kernel_rfl) tys_ok (c := cfg (ieee_Round.f n) (nat_Shl.f n) ieee_near.f (nat_BitLen.f n) (quot_DivMod.f n) (nat_Sub.f n) (nat_Cmp.f n) (nat_Add.f n) (nat_MulAdd.f n)) (orCall_ok (ieee_Round.call_ok (n := n)) (orCall_ok (nat_Shl.call_ok (n := n)) (orCall_ok ieee_near.call_ok (orCall_ok (nat_BitLen.call_ok (n := n)) (orCall_ok (quot_DivMod.call_ok (n := n)) (orCall_ok (nat_Sub.call_ok (n := n)) (orCall_ok (nat_Cmp.call_ok (n := n)) (orCall_ok (nat_Add.call_ok (n := n)) (orCall_ok (nat_MulAdd.call_ok (n := n)) noCall_ok))))))))) noW_ok (by kernel_rfl) (by kernel_rfl) (Nat.le_of_ble_eq_true (by kernel_rfl)) (Eq.trans ((e0 (n := n)).trans (Eq.trans (cf4 (congrArg (b0 _ _ _ _ _ _ _ _ _) (fu4 (q127 n))) _ _ _ _) rfl)) h)
noncomputable def call {α : Type} (g : T34) (ds : List D) (K : List D→Ω α) : Ω α := match ds with
  | [.bool a0, .ro .u64 l1, .ro .u64 l2, .int .i64 a3] => (g a0 l1 l2 a3).bind fun r => K (sg.enc r)
  | _ => none
theorem call_ok {α : Type} {n : Nat} : COK Tryz.prog HW 71 (call (α := α) (f n)) := fun _ _ _ h => by
  unfold call at h; split at h
  · exact cok h fun _ => ok
  · cases h
end ieee_RoundRatio
/-! ### soft_div: function 60 -/
namespace soft_div
noncomputable def b0 (c36 : T14) (c71 : T34) (c110 : T18) (c114 : T12) (c116 : T24) (c117 : T46) (k31 : Bool→Bool→Int→Int→Int→Bool→Int→Int→Int→Ω (Int × Int)) (a0 a1 a2 : Int) : Ω (Int × Int) := ((c36 a0).bind fun t1 => ((c36 a1).bind fun t2 => (if t1.2.1 = 4 then some (9221120237041090560, 0) else (if t2.2.1 = 4 then some (9221120237041090560, 0) else (if t1.2.1 = t2.2.1 then (if t1.2.1 = 3 then ((c110).bind fun t3 => some (t3.1, t3.2)) else (if t1.2.1 = 0 then ((c110).bind fun t4 => some (t4.1, t4.2)) else (if t1.2.1 = 3 then ((c114 (t1.1 != t2.1) 9218868437227405312).bind fun t5 => some (t5, 0)) else (if t2.2.1 = 0 then ((c114 (t1.1 != t2.1) 9218868437227405312).bind fun t6 => some (t6, 2)) else (if t1.2.1 = 0 then ((c114 (t1.1 != t2.1) 0).bind fun t7 => some (t7, 0)) else (if t2.2.1 = 3 then ((c114 (t1.1 != t2.1) 0).bind fun t8 => some (t8, 0)) else k31 (t1.1 != t2.1) t1.1 t1.2.1 t1.2.2.1 t1.2.2.2 t2.1 t2.2.1 t2.2.2.1 t2.2.2.2)))))) else (if t1.2.1 = 3 then ((c114 (t1.1 != t2.1) 9218868437227405312).bind fun t9 => some (t9, 0)) else (if t2.2.1 = 0 then ((c114 (t1.1 != t2.1) 9218868437227405312).bind fun t10 => some (t10, 2)) else (if t1.2.1 = 0 then ((c114 (t1.1 != t2.1) 0).bind fun t11 => some (t11, 0)) else (if t2.2.1 = 3 then ((c114 (t1.1 != t2.1) 0).bind fun t12 => some (t12, 0)) else k31 (t1.1 != t2.1) t1.1 t1.2.1 t1.2.2.1 t1.2.2.2 t2.1 t2.2.1 t2.2.2.1 t2.2.2.2)))))))))
noncomputable def b31 (c36 : T14) (c71 : T34) (c110 : T18) (c114 : T12) (c116 : T24) (c117 : T46) (x0 x1 : Bool) (x2 x3 x4 : Int) (x5 : Bool) (x6 x7 x8 : Int) : Ω (Int × Int) := ((c116 x3).bind fun t1 => ((c116 x7).bind fun t2 => ((c71 x0 t1 t2 (wrap64 (x4 - x8))).bind fun t3 => ((c117 x0 t1 t2 (wrap64 (x4 - x8)) t3.1).bind fun t4 => some (t3.1, t4)))))
noncomputable def l31 (n : Nat) (x0 x1 : Bool) (x2 x3 x4 : Int) (x5 : Bool) (x6 x7 x8 : Int) : Ω (Int × Int) := b31 ieee_Decode.f (ieee_RoundRatio.f n) soft_invalid.f soft_withSign.f nat_FromUint.f (soft_fraction_flags.f n) x0 x1 x2 x3 x4 x5 x6 x7 x8
noncomputable def f (n : Nat) (a0 a1 a2 : Int) : Ω (Int × Int) := b0 ieee_Decode.f (ieee_RoundRatio.f n) soft_invalid.f soft_withSign.f nat_FromUint.f (soft_fraction_flags.f n) (l31 n) a0 a1 a2
noncomputable def sg : Sig (Int × Int) := s2 (sInt .u64) (s1 (sInt .i64))
noncomputable def code : Code := (Tryz.f60.body).getD .skip
noncomputable def cfg (c36 : T14) (c71 : T34) (c110 : T18) (c114 : T12) (c116 : T24) (c117 : T46) : Cfg (Int × Int) := { T := tys, call := orCall 36 (ieee_Decode.call c36) (orCall 71 (ieee_RoundRatio.call c71) (orCall 110 (soft_invalid.call c110) (orCall 114 (soft_withSign.call c114) (orCall 116 (nat_FromUint.call c116) (orCall 117 (soft_fraction_flags.call c117) (noCall)))))) }
noncomputable def cuts : List (Nat × List (Nat × Want)) := [(31, [(8, .keep), (9, .keep), (10, .keep)])]
noncomputable def s31 (x0 x1 : Bool) (x2 x3 x4 : Int) (x5 : Bool) (x6 x7 x8 : Int) : ASt := ⟨[(8, .ptr 0 0), (9, .ptr 1 0), (10, .bool x0)], [.cells 54 [.bool x1, .int .i64 x2, .int .u64 x3, .int .i64 x4], .cells 54 [.bool x5, .int .i64 x6, .int .u64 x7, .int .i64 x8]]⟩
noncomputable def A (c36 : T14) (c71 : T34) (c110 : T18) (c114 : T12) (c116 : T24) (c117 : T46) (n : Nat) (J : Jt (Int × Int)) (q : Nat) (ms : List Nat) : ASt→Ω (Int × Int) := acont (cfg c36 c71 c110 c114 c116 c117) J cuts n q code 1 ms (aend (cfg c36 c71 c110 c114 c116 c117) Tryz.f60.results.toList [false, false] sg.out)
theorem e0 {c36 c71 c110 c114 c116 c117 n J a0 a1 a2} : afun (cfg c36 c71 c110 c114 c116 c117) J cuts n code Tryz.f60.results.toList [false, false] [.int .u64 a0, .int .u64 a1, .int .u64 a2] sg.out = b0 c36 c71 c110 c114 c116 c117 (fun y0 y1 y2 y3 y4 y5 y6 y7 y8 => J 31 (A c36 c71 c110 c114 c116 c117 n J 31 []) (s31 y0 y1 y2 y3 y4 y5 y6 y7 y8)) a0 a1 a2 := by kernel_rfl
theorem e31 {c36 c71 c110 c114 c116 c117 n J x0 x1 x2 x3 x4 x5 x6 x7 x8} : A c36 c71 c110 c114 c116 c117 n J 31 [] (s31 x0 x1 x2 x3 x4 x5 x6 x7 x8) = b31 c36 c71 c110 c114 c116 c117 x0 x1 x2 x3 x4 x5 x6 x7 x8 := by kernel_rfl
noncomputable abbrev I (n : Nat) := A ieee_Decode.f (ieee_RoundRatio.f n) soft_invalid.f soft_withSign.f nat_FromUint.f (soft_fraction_flags.f n) n idJ
theorem q31 (n x0 x1 x2 x3 x4 x5 x6 x7 x8) : I n 31 [] (s31 x0 x1 x2 x3 x4 x5 x6 x7 x8) = l31 n x0 x1 x2 x3 x4 x5 x6 x7 x8 := e31
theorem ok {n  a0 a1 a2 r} (h : f n a0 a1 a2 = some r) : CallD Tryz.prog HW 60 [.int .u64 a0, .int .u64 a1, .int .u64 a2] (sg.enc r) :=
  fun_some hwS Tryz.func60 (by kernel_rfl) (body := code) (by kernel_rfl) tys_ok (c := cfg ieee_Decode.f (ieee_RoundRatio.f n) soft_invalid.f soft_withSign.f nat_FromUint.f (soft_fraction_flags.f n)) (orCall_ok ieee_Decode.call_ok (orCall_ok (ieee_RoundRatio.call_ok (n := n)) (orCall_ok soft_invalid.call_ok (orCall_ok soft_withSign.call_ok (orCall_ok nat_FromUint.call_ok (orCall_ok (soft_fraction_flags.call_ok (n := n)) noCall_ok)))))) noW_ok (by kernel_rfl) (by kernel_rfl) (Nat.le_of_ble_eq_true (by kernel_rfl)) (Eq.trans ((e0 (n := n)).trans (Eq.trans (cf3 (congrArg (b0 _ _ _ _ _ _) (fu9 (q31 n))) _ _ _) rfl)) h)
noncomputable def call {α : Type} (g : T3) (ds : List D) (K : List D→Ω α) : Ω α := match ds with
  | [.int .u64 a0, .int .u64 a1, .int .u64 a2] => (g a0 a1 a2).bind fun r => K (sg.enc r)
  | _ => none
theorem call_ok {α : Type} {n : Nat} : COK Tryz.prog HW 60 (call (α := α) (f n)) := fun _ _ _ h => by
  unfold call at h; split at h
  · exact cok h fun _ => ok
  · cases h
end soft_div
/-! ### soft_mul: function 59 -/
namespace soft_mul
noncomputable def b0 (c36 : T14) (c110 : T18) (c113 : T27) (c114 : T12) (c115 : T31) (k487 : Bool→Bool→Bool→Int→Int→Int→Bool→Int→Int→Int→Ω (Int × Int)) (a0 a1 a2 : Int) : Ω (Int × Int) := ((c36 a0).bind fun t1 => ((c36 a1).bind fun t2 => (if t1.2.1 = 4 then some (9221120237041090560, 0) else (if t2.2.1 = 4 then some (9221120237041090560, 0) else (if t1.2.1 = 3 then (if t2.2.1 = 0 then k487 (t1.1 != t2.1) true t1.1 t1.2.1 t1.2.2.1 t1.2.2.2 t2.1 t2.2.1 t2.2.2.1 t2.2.2.2 else (if t1.2.1 = 0 then k487 (t1.1 != t2.1) (decide (t2.2.1 = 3)) t1.1 t1.2.1 t1.2.2.1 t1.2.2.2 t2.1 t2.2.1 t2.2.2.1 t2.2.2.2 else k487 (t1.1 != t2.1) false t1.1 t1.2.1 t1.2.2.1 t1.2.2.2 t2.1 t2.2.1 t2.2.2.1 t2.2.2.2)) else (if t1.2.1 = 0 then k487 (t1.1 != t2.1) (decide (t2.2.1 = 3)) t1.1 t1.2.1 t1.2.2.1 t1.2.2.2 t2.1 t2.2.1 t2.2.2.1 t2.2.2.2 else k487 (t1.1 != t2.1) false t1.1 t1.2.1 t1.2.2.1 t1.2.2.2 t2.1 t2.2.1 t2.2.2.1 t2.2.2.2))))))
noncomputable def b487 (c36 : T14) (c110 : T18) (c113 : T27) (c114 : T12) (c115 : T31) (x0 x1 x2 : Bool) (x3 x4 x5 : Int) (x6 : Bool) (x7 x8 x9 : Int) : Ω (Int × Int) := (if x1 = true then ((c110).bind fun t1 => some (t1.1, t1.2)) else (if x3 = 3 then ((c114 x0 9218868437227405312).bind fun t2 => some (t2, 0)) else (if x7 = 3 then ((c114 x0 9218868437227405312).bind fun t3 => some (t3, 0)) else ((c115 x2 x3 x4 x5 x6 x7 x8 x9).bind fun t4 => ((c113 t4.1 t4.2.1 t4.2.2).bind fun t5 => some (t5.1, t5.2))))))
noncomputable def l487 (n : Nat) (x0 x1 x2 : Bool) (x3 x4 x5 : Int) (x6 : Bool) (x7 x8 x9 : Int) : Ω (Int × Int) := b487 ieee_Decode.f soft_invalid.f (soft_term_rounded.f n) soft_withSign.f (soft_product.f n) x0 x1 x2 x3 x4 x5 x6 x7 x8 x9
noncomputable def f (n : Nat) (a0 a1 a2 : Int) : Ω (Int × Int) := b0 ieee_Decode.f soft_invalid.f (soft_term_rounded.f n) soft_withSign.f (soft_product.f n) (l487 n) a0 a1 a2
noncomputable def sg : Sig (Int × Int) := s2 (sInt .u64) (s1 (sInt .i64))
noncomputable def code : Code := (Tryz.f59.body).getD .skip
noncomputable def cfg (c36 : T14) (c110 : T18) (c113 : T27) (c114 : T12) (c115 : T31) : Cfg (Int × Int) := { T := tys, call := orCall 36 (ieee_Decode.call c36) (orCall 110 (soft_invalid.call c110) (orCall 113 (soft_term_rounded.call c113) (orCall 114 (soft_withSign.call c114) (orCall 115 (soft_product.call c115) (noCall))))) }
noncomputable def cuts : List (Nat × List (Nat × Want)) := [(487, [(8, .keep), (9, .keep), (10, .keep), (29, .keep)])]
noncomputable def s487 (x0 x1 x2 : Bool) (x3 x4 x5 : Int) (x6 : Bool) (x7 x8 x9 : Int) : ASt := ⟨[(8, .ptr 0 0), (9, .ptr 1 0), (10, .bool x0), (29, .bool x1)], [.cells 54 [.bool x2, .int .i64 x3, .int .u64 x4, .int .i64 x5], .cells 54 [.bool x6, .int .i64 x7, .int .u64 x8, .int .i64 x9]]⟩
noncomputable def A (c36 : T14) (c110 : T18) (c113 : T27) (c114 : T12) (c115 : T31) (n : Nat) (J : Jt (Int × Int)) (q : Nat) (ms : List Nat) : ASt→Ω (Int × Int) := acont (cfg c36 c110 c113 c114 c115) J cuts n q code 1 ms (aend (cfg c36 c110 c113 c114 c115) Tryz.f59.results.toList [false, false] sg.out)
theorem e0 {c36 c110 c113 c114 c115 n J a0 a1 a2} : afun (cfg c36 c110 c113 c114 c115) J cuts n code Tryz.f59.results.toList [false, false] [.int .u64 a0, .int .u64 a1, .int .u64 a2] sg.out = b0 c36 c110 c113 c114 c115 (fun y0 y1 y2 y3 y4 y5 y6 y7 y8 y9 => J 487 (A c36 c110 c113 c114 c115 n J 487 []) (s487 y0 y1 y2 y3 y4 y5 y6 y7 y8 y9)) a0 a1 a2 := by kernel_rfl
theorem e487 {c36 c110 c113 c114 c115 n J x0 x1 x2 x3 x4 x5 x6 x7 x8 x9} : A c36 c110 c113 c114 c115 n J 487 [] (s487 x0 x1 x2 x3 x4 x5 x6 x7 x8 x9) = b487 c36 c110 c113 c114 c115 x0 x1 x2 x3 x4 x5 x6 x7 x8 x9 := by kernel_rfl
noncomputable abbrev I (n : Nat) := A ieee_Decode.f soft_invalid.f (soft_term_rounded.f n) soft_withSign.f (soft_product.f n) n idJ
theorem q487 (n x0 x1 x2 x3 x4 x5 x6 x7 x8 x9) : I n 487 [] (s487 x0 x1 x2 x3 x4 x5 x6 x7 x8 x9) = l487 n x0 x1 x2 x3 x4 x5 x6 x7 x8 x9 := e487
theorem ok {n  a0 a1 a2 r} (h : f n a0 a1 a2 = some r) : CallD Tryz.prog HW 59 [.int .u64 a0, .int .u64 a1, .int .u64 a2] (sg.enc r) :=
  fun_some hwS Tryz.func59 (by kernel_rfl) (body := code) (by kernel_rfl) tys_ok (c := cfg ieee_Decode.f soft_invalid.f (soft_term_rounded.f n) soft_withSign.f (soft_product.f n)) (orCall_ok ieee_Decode.call_ok (orCall_ok soft_invalid.call_ok (orCall_ok (soft_term_rounded.call_ok (n := n)) (orCall_ok soft_withSign.call_ok (orCall_ok (soft_product.call_ok (n := n)) noCall_ok))))) noW_ok (by kernel_rfl) (by kernel_rfl) (Nat.le_of_ble_eq_true (by kernel_rfl)) (Eq.trans ((e0 (n := n)).trans (Eq.trans (cf3 (congrArg (b0 _ _ _ _ _) (fu10 (q487 n))) _ _ _) rfl)) h)
noncomputable def call {α : Type} (g : T3) (ds : List D) (K : List D→Ω α) : Ω α := match ds with
  | [.int .u64 a0, .int .u64 a1, .int .u64 a2] => (g a0 a1 a2).bind fun r => K (sg.enc r)
  | _ => none
theorem call_ok {α : Type} {n : Nat} : COK Tryz.prog HW 59 (call (α := α) (f n)) := fun _ _ _ h => by
  unfold call at h; split at h
  · exact cok h fun _ => ok
  · cases h
end soft_mul
/-! ### soft_add: function 57 -/
namespace soft_add
noncomputable def b0 (c36 : T14) (c110 : T18) (c111 : T32) (c112 : T33) (c113 : T27) (k231 : Int→Int→Bool→Bool→Int→Int→Int→Bool→Int→Int→Int→Ω (Int × Int)) (a0 a1 a2 : Int) : Ω (Int × Int) := ((c36 a0).bind fun t1 => ((c36 a1).bind fun t2 => (if t1.2.1 = 4 then some (9221120237041090560, 0) else (if t2.2.1 = 4 then some (9221120237041090560, 0) else (if t1.2.1 = 3 then (if t2.2.1 = 3 then k231 a0 a1 (t1.1 != t2.1) t1.1 t1.2.1 t1.2.2.1 t1.2.2.2 t2.1 t2.2.1 t2.2.2.1 t2.2.2.2 else k231 a0 a1 false t1.1 t1.2.1 t1.2.2.1 t1.2.2.2 t2.1 t2.2.1 t2.2.2.1 t2.2.2.2) else k231 a0 a1 false t1.1 t1.2.1 t1.2.2.1 t1.2.2.2 t2.1 t2.2.1 t2.2.2.1 t2.2.2.2)))))
noncomputable def b231 (c36 : T14) (c110 : T18) (c111 : T32) (c112 : T33) (c113 : T27) (x0 x1 : Int) (x2 x3 : Bool) (x4 x5 x6 : Int) (x7 : Bool) (x8 x9 x10 : Int) : Ω (Int × Int) := (if x2 = true then ((c110).bind fun t1 => some (t1.1, t1.2)) else (if x4 = 3 then some (x0, 0) else (if x8 = 3 then some (x1, 0) else ((c111 x3 x4 x5 x6).bind fun t2 => ((c111 x7 x8 x9 x10).bind fun t3 => ((c112 t2.1 t2.2.1 t2.2.2 t3.1 t3.2.1 t3.2.2).bind fun t4 => ((c113 t4.1 t4.2.1 t4.2.2).bind fun t5 => some (t5.1, t5.2))))))))
noncomputable def l231 (n : Nat) (x0 x1 : Int) (x2 x3 : Bool) (x4 x5 x6 : Int) (x7 : Bool) (x8 x9 x10 : Int) : Ω (Int × Int) := b231 ieee_Decode.f soft_invalid.f soft_termOf.f (soft_term_plus.f n) (soft_term_rounded.f n) x0 x1 x2 x3 x4 x5 x6 x7 x8 x9 x10
noncomputable def f (n : Nat) (a0 a1 a2 : Int) : Ω (Int × Int) := b0 ieee_Decode.f soft_invalid.f soft_termOf.f (soft_term_plus.f n) (soft_term_rounded.f n) (l231 n) a0 a1 a2
noncomputable def sg : Sig (Int × Int) := s2 (sInt .u64) (s1 (sInt .i64))
noncomputable def code : Code := (Tryz.f57.body).getD .skip
noncomputable def cfg (c36 : T14) (c110 : T18) (c111 : T32) (c112 : T33) (c113 : T27) : Cfg (Int × Int) := { T := tys, call := orCall 36 (ieee_Decode.call c36) (orCall 110 (soft_invalid.call c110) (orCall 111 (soft_termOf.call c111) (orCall 112 (soft_term_plus.call c112) (orCall 113 (soft_term_rounded.call c113) (noCall))))) }
noncomputable def cuts : List (Nat × List (Nat × Want)) := [(231, [(0, .keep), (1, .keep), (8, .keep), (9, .keep), (23, .keep)])]
noncomputable def s231 (x0 x1 : Int) (x2 x3 : Bool) (x4 x5 x6 : Int) (x7 : Bool) (x8 x9 x10 : Int) : ASt := ⟨[(0, .int .u64 x0), (1, .int .u64 x1), (8, .ptr 0 0), (9, .ptr 1 0), (23, .bool x2)], [.cells 54 [.bool x3, .int .i64 x4, .int .u64 x5, .int .i64 x6], .cells 54 [.bool x7, .int .i64 x8, .int .u64 x9, .int .i64 x10]]⟩
noncomputable def A (c36 : T14) (c110 : T18) (c111 : T32) (c112 : T33) (c113 : T27) (n : Nat) (J : Jt (Int × Int)) (q : Nat) (ms : List Nat) : ASt→Ω (Int × Int) := acont (cfg c36 c110 c111 c112 c113) J cuts n q code 1 ms (aend (cfg c36 c110 c111 c112 c113) Tryz.f57.results.toList [false, false] sg.out)
theorem e0 {c36 c110 c111 c112 c113 n J a0 a1 a2} : afun (cfg c36 c110 c111 c112 c113) J cuts n code Tryz.f57.results.toList [false, false] [.int .u64 a0, .int .u64 a1, .int .u64 a2] sg.out = b0 c36 c110 c111 c112 c113 (fun y0 y1 y2 y3 y4 y5 y6 y7 y8 y9 y10 => J 231 (A c36 c110 c111 c112 c113 n J 231 []) (s231 y0 y1 y2 y3 y4 y5 y6 y7 y8 y9 y10)) a0 a1 a2 := by kernel_rfl
theorem e231 {c36 c110 c111 c112 c113 n J x0 x1 x2 x3 x4 x5 x6 x7 x8 x9 x10} : A c36 c110 c111 c112 c113 n J 231 [] (s231 x0 x1 x2 x3 x4 x5 x6 x7 x8 x9 x10) = b231 c36 c110 c111 c112 c113 x0 x1 x2 x3 x4 x5 x6 x7 x8 x9 x10 := by kernel_rfl
noncomputable abbrev I (n : Nat) := A ieee_Decode.f soft_invalid.f soft_termOf.f (soft_term_plus.f n) (soft_term_rounded.f n) n idJ
theorem q231 (n x0 x1 x2 x3 x4 x5 x6 x7 x8 x9 x10) : I n 231 [] (s231 x0 x1 x2 x3 x4 x5 x6 x7 x8 x9 x10) = l231 n x0 x1 x2 x3 x4 x5 x6 x7 x8 x9 x10 := e231
theorem ok {n  a0 a1 a2 r} (h : f n a0 a1 a2 = some r) : CallD Tryz.prog HW 57 [.int .u64 a0, .int .u64 a1, .int .u64 a2] (sg.enc r) :=
  fun_some hwS Tryz.func57 (by kernel_rfl) (body := code) (by kernel_rfl) tys_ok (c := cfg ieee_Decode.f soft_invalid.f soft_termOf.f (soft_term_plus.f n) (soft_term_rounded.f n)) (orCall_ok ieee_Decode.call_ok (orCall_ok soft_invalid.call_ok (orCall_ok soft_termOf.call_ok (orCall_ok (soft_term_plus.call_ok (n := n)) (orCall_ok (soft_term_rounded.call_ok (n := n)) noCall_ok))))) noW_ok (by kernel_rfl) (by kernel_rfl) (Nat.le_of_ble_eq_true (by kernel_rfl)) (Eq.trans ((e0 (n := n)).trans (Eq.trans (cf3 (congrArg (b0 _ _ _ _ _) (fu11 (q231 n))) _ _ _) rfl)) h)
noncomputable def call {α : Type} (g : T3) (ds : List D) (K : List D→Ω α) : Ω α := match ds with
  | [.int .u64 a0, .int .u64 a1, .int .u64 a2] => (g a0 a1 a2).bind fun r => K (sg.enc r)
  | _ => none
theorem call_ok {α : Type} {n : Nat} : COK Tryz.prog HW 57 (call (α := α) (f n)) := fun _ _ _ h => by
  unfold call at h; split at h
  · exact cok h fun _ => ok
  · cases h
end soft_add
/-! ### soft_sub: function 58 -/
namespace soft_sub
noncomputable def b0 (c57 : T3) (c91 : T4) (a0 a1 a2 : Int) : Ω (Int × Int) := ((c91 a1).bind fun t1 => ((c57 a0 t1 a2).bind fun t2 => some (t2.1, t2.2)))
noncomputable def f (n : Nat) (a0 a1 a2 : Int) : Ω (Int × Int) := b0 (soft_add.f n) ieee_Neg.f a0 a1 a2
noncomputable def sg : Sig (Int × Int) := s2 (sInt .u64) (s1 (sInt .i64))
noncomputable def code : Code := (Tryz.f58.body).getD .skip
noncomputable def cfg (c57 : T3) (c91 : T4) : Cfg (Int × Int) := { T := tys, call := orCall 57 (soft_add.call c57) (orCall 91 (ieee_Neg.call c91) (noCall)) }
noncomputable def cuts : List (Nat × List (Nat × Want)) := []
theorem e0 {c57 c91 n J a0 a1 a2} : afun (cfg c57 c91) J cuts n code Tryz.f58.results.toList [false, false] [.int .u64 a0, .int .u64 a1, .int .u64 a2] sg.out = b0 c57 c91 a0 a1 a2 := by kernel_rfl
theorem ok {n  a0 a1 a2 r} (h : f n a0 a1 a2 = some r) : CallD Tryz.prog HW 58 [.int .u64 a0, .int .u64 a1, .int .u64 a2] (sg.enc r) :=
  fun_some hwS Tryz.func58 (by kernel_rfl) (body := code) (by kernel_rfl) tys_ok (c := cfg (soft_add.f n) ieee_Neg.f) (orCall_ok (soft_add.call_ok (n := n)) (orCall_ok ieee_Neg.call_ok noCall_ok)) noW_ok (by kernel_rfl) (by kernel_rfl) (Nat.le_of_ble_eq_true (by kernel_rfl)) (Eq.trans ((e0 (n := n))) h)
noncomputable def call {α : Type} (g : T3) (ds : List D) (K : List D→Ω α) : Ω α := match ds with
  | [.int .u64 a0, .int .u64 a1, .int .u64 a2] => (g a0 a1 a2).bind fun r => K (sg.enc r)
  | _ => none
theorem call_ok {α : Type} {n : Nat} : COK Tryz.prog HW 58 (call (α := α) (f n)) := fun _ _ _ h => by
  unfold call at h; split at h
  · exact cok h fun _ => ok
  · cases h
end soft_sub
/-! ### soft_Told: function 8 -/
namespace soft_Told
noncomputable def b0 (c20 : Ω (Unit)) (c57 c58 c59 c60 c61 c62 : T3) (a0 a1 a2 a3 : Int) : Ω (Int × Int × Int) := ((c20).bind fun t1 => (if a0 < 1 then some (0, 0, 50) else (if a0 ≥ 7 then some (0, 0, 50) else (if 0 ≤ a0 then (if a0 < 7 then (if a0 = 0 then none else (if a0 = 1 then ((c57 a1 a2 a3).bind fun t7 => some (t7.1, t7.2, 0)) else (if a0 = 2 then ((c58 a1 a2 a3).bind fun t6 => some (t6.1, t6.2, 0)) else (if a0 = 3 then ((c59 a1 a2 a3).bind fun t5 => some (t5.1, t5.2, 0)) else (if a0 = 4 then ((c60 a1 a2 a3).bind fun t4 => some (t4.1, t4.2, 0)) else (if a0 = 5 then ((c61 a1 a2 a3).bind fun t3 => some (t3.1, t3.2, 0)) else (if a0 = 6 then ((c62 a1 a2 a3).bind fun t2 => some (t2.1, t2.2, 0)) else none))))))) else none) else none))))
noncomputable def f (n : Nat) (a0 a1 a2 a3 : Int) : Ω (Int × Int × Int) := b0 soft_operations.f (soft_add.f n) (soft_sub.f n) (soft_mul.f n) (soft_div.f n) (soft_sqrt.f n) (soft_fma.f n) a0 a1 a2 a3
noncomputable def sg : Sig (Int × Int × Int) := s2 (sInt .u64) (s2 (sInt .i64) (s1 (sInt .i64)))
noncomputable def code : Code := (Tryz.f8.body).getD .skip
noncomputable def cfg (c20 : Ω (Unit)) (c57 c58 c59 c60 c61 c62 : T3) : Cfg (Int × Int × Int) := { T := tys, call := orCall 20 (soft_operations.call c20) (orCall 57 (soft_add.call c57) (orCall 58 (soft_sub.call c58) (orCall 59 (soft_mul.call c59) (orCall 60 (soft_div.call c60) (orCall 61 (soft_sqrt.call c61) (orCall 62 (soft_fma.call c62) (noCall))))))) }
noncomputable def cuts : List (Nat × List (Nat × Want)) := []
theorem e0 {c20 c57 c58 c59 c60 c61 c62 n J a0 a1 a2 a3} : afun (cfg c20 c57 c58 c59 c60 c61 c62) J cuts n code Tryz.f8.results.toList [false, false, false] [.int .i64 a0, .int .u64 a1, .int .u64 a2, .int .u64 a3] sg.out = b0 c20 c57 c58 c59 c60 c61 c62 a0 a1 a2 a3 := by kernel_rfl
theorem ok {n  a0 a1 a2 a3 r} (h : f n a0 a1 a2 a3 = some r) : CallD Tryz.prog HW 8 [.int .i64 a0, .int .u64 a1, .int .u64 a2, .int .u64 a3] (sg.enc r) :=
  fun_some hwS Tryz.func8 (by kernel_rfl) (body := code) (by kernel_rfl) tys_ok (c := cfg soft_operations.f (soft_add.f n) (soft_sub.f n) (soft_mul.f n) (soft_div.f n) (soft_sqrt.f n) (soft_fma.f n)) (orCall_ok soft_operations.call_ok (orCall_ok (soft_add.call_ok (n := n)) (orCall_ok (soft_sub.call_ok (n := n)) (orCall_ok (soft_mul.call_ok (n := n)) (orCall_ok (soft_div.call_ok (n := n)) (orCall_ok (soft_sqrt.call_ok (n := n)) (orCall_ok (soft_fma.call_ok (n := n)) noCall_ok))))))) noW_ok (by kernel_rfl) (by kernel_rfl) (Nat.le_of_ble_eq_true (by kernel_rfl)) (Eq.trans ((e0 (n := n))) h)
noncomputable def call {α : Type} (g : T53) (ds : List D) (K : List D→Ω α) : Ω α := match ds with
  | [.int .i64 a0, .int .u64 a1, .int .u64 a2, .int .u64 a3] => (g a0 a1 a2 a3).bind fun r => K (sg.enc r)
  | _ => none
theorem call_ok {α : Type} {n : Nat} : COK Tryz.prog HW 8 (call (α := α) (f n)) := fun _ _ _ h => by
  unfold call at h; split at h
  · exact cok h fun _ => ok
  · cases h
end soft_Told
/-! ### abacuslaw05_told: function 5 -/
namespace abacuslaw05_told
noncomputable def b0 (c7 c8 : T53) (a0 a1 a2 a3 : Int) : Ω (Bool) := ((c7 a0 a1 a2 a3).bind fun t1 => ((c8 a0 a1 a2 a3).bind fun t2 => (if t2.1 = t1.1 then (if t2.2.1 = t1.2.1 then some (decide (t2.2.2 = t1.2.2)) else some false) else some false)))
noncomputable def f (n : Nat) (a0 a1 a2 a3 : Int) : Ω (Bool) := b0 (abacusref05_Told.f n) (soft_Told.f n) a0 a1 a2 a3
noncomputable def sg : Sig (Bool) := s1 (sBool)
noncomputable def code : Code := (Tryz.f5.body).getD .skip
noncomputable def cfg (c7 c8 : T53) : Cfg (Bool) := { T := tys, call := orCall 7 (abacusref05_Told.call c7) (orCall 8 (soft_Told.call c8) (noCall)) }
noncomputable def cuts : List (Nat × List (Nat × Want)) := []
theorem e0 {c7 c8 n J a0 a1 a2 a3} : afun (cfg c7 c8) J cuts n code Tryz.f5.results.toList [false] [.int .i64 a0, .agg [.int .u64 a1, .int .u64 a2, .int .u64 a3]] sg.out = b0 c7 c8 a0 a1 a2 a3 := by kernel_rfl
theorem ok {n  a0 a1 a2 a3 r} (h : f n a0 a1 a2 a3 = some r) : CallD Tryz.prog HW 5 [.int .i64 a0, .agg [.int .u64 a1, .int .u64 a2, .int .u64 a3]] (sg.enc r) :=
  fun_some hwS Tryz.func5 (by kernel_rfl) (body := code) (by kernel_rfl) tys_ok (c := cfg (abacusref05_Told.f n) (soft_Told.f n)) (orCall_ok (abacusref05_Told.call_ok (n := n)) (orCall_ok (soft_Told.call_ok (n := n)) noCall_ok)) noW_ok (by kernel_rfl) (by kernel_rfl) (Nat.le_of_ble_eq_true (by kernel_rfl)) (Eq.trans ((e0 (n := n))) h)
noncomputable def call {α : Type} (g : T50) (ds : List D) (K : List D→Ω α) : Ω α := match ds with
  | [.int .i64 a0, .agg [.int .u64 a1, .int .u64 a2, .int .u64 a3]] => (g a0 a1 a2 a3).bind fun r => K (sg.enc r)
  | _ => none
theorem call_ok {α : Type} {n : Nat} : COK Tryz.prog HW 5 (call (α := α) (f n)) := fun _ _ _ h => by
  unfold call at h; split at h
  · exact cok h fun _ => ok
  · cases h
end abacuslaw05_told
/-! ### abacuslaw05_SoftTolds: function 3 -/
namespace abacuslaw05_SoftTolds
noncomputable def b0 (c5 : T50) (k117 : T58) (n0 : Int) (r0_0 r0_1 r0_2 : Λ) (a1 : Int) : Ω (Bool) := ((c5 4 4607182418800017408 4613937818241073152 0).bind fun t1 => (if (!t1) = true then some false else k117 n0 r0_0 r0_1 r0_2 a1 0))
noncomputable def b117 (c5 : T50) (k14917 : T95) (x0 : Int) (x1 x2 x3 : Λ) (x4 x5 : Int) : Ω (Bool) := (if x5 < x0 then k14917 x0 x1 x2 x3 x4 x5 0 else some true)
noncomputable def b1865 (c5 : T50) (k117 : T58) (x0 : Int) (x1 x2 x3 : Λ) (x4 x5 : Int) : Ω (Bool) := (if 0 ≤ x5 then (if x5 < x0 then ((c5 x4 (rd x1 x5) (rd x2 x5) (rd x3 x5)).bind fun t1 => (if (!t1) = true then some false else k117 x0 x1 x2 x3 x4 (wrap64 (x5 + 1)))) else none) else none)
noncomputable def b14917 (c5 : T50) (k1865 : T58) (k14917 : T95) (x0 : Int) (x1 x2 x3 : Λ) (x4 x5 x6 : Int) : Ω (Bool) := (if x6 ≤ 7 then (if 0 ≤ x5 then (if x5 < x0 then ((c5 x6 (rd x1 x5) (rd x2 x5) (rd x3 x5)).bind fun t1 => (if (!t1) = true then some false else k14917 x0 x1 x2 x3 x4 x5 (wrap64 (x6 + 1)))) else none) else none) else k1865 x0 x1 x2 x3 x4 x5)
noncomputable def l1865 (n : Nat) (k117 : T58) (x0 : Int) (x1 x2 x3 : Λ) (x4 x5 : Int) : Ω (Bool) := b1865 (abacuslaw05_told.f n) k117 x0 x1 x2 x3 x4 x5
noncomputable def l14917 (n : Nat) (k117 : T58) : Nat→Int→Λ→Λ→Λ→Int→Int→Int→Ω (Bool)
  | 0, _, _, _, _, _, _, _ => none
  | m + 1, x0, x1, x2, x3, x4, x5, x6 => b14917 (abacuslaw05_told.f n) (l1865 n k117) (l14917 n k117 m) x0 x1 x2 x3 x4 x5 x6
noncomputable def l117 (n : Nat) : Nat→Int→Λ→Λ→Λ→Int→Int→Ω (Bool)
  | 0, _, _, _, _, _, _ => none
  | m + 1, x0, x1, x2, x3, x4, x5 => b117 (abacuslaw05_told.f n) (l14917 n (l117 n m) n) x0 x1 x2 x3 x4 x5
noncomputable def f (n : Nat) (n0 : Int) (r0_0 r0_1 r0_2 : Λ) (a1 : Int) : Ω (Bool) := b0 (abacuslaw05_told.f n) (l117 n n) n0 r0_0 r0_1 r0_2 a1
noncomputable def sg : Sig (Bool) := s1 (sBool)
noncomputable def code : Code := (Tryz.f3.body).getD .skip
noncomputable def cfg (c5 : T50) : Cfg (Bool) := { T := tys, call := orCall 5 (abacuslaw05_told.call c5) (noCall) }
noncomputable def cuts : List (Nat × List (Nat × Want)) := [(117, [(0, .keep), (1, .keep), (5, .keep)]), (1865, [(0, .keep), (1, .keep), (5, .keep)]), (14917, [(0, .keep), (1, .keep), (5, .keep), (6, .keep)])]
noncomputable def s117 (x0 : Int) (x1 x2 x3 : Λ) (x4 x5 : Int) : ASt := ⟨[(0, .recs x0 [.int .u64 x1, .int .u64 x2, .int .u64 x3]), (1, .int .i64 x4), (5, .int .i64 x5)], []⟩
noncomputable def s1865 (x0 : Int) (x1 x2 x3 : Λ) (x4 x5 : Int) : ASt := ⟨[(0, .recs x0 [.int .u64 x1, .int .u64 x2, .int .u64 x3]), (1, .int .i64 x4), (5, .int .i64 x5)], []⟩
noncomputable def s14917 (x0 : Int) (x1 x2 x3 : Λ) (x4 x5 x6 : Int) : ASt := ⟨[(0, .recs x0 [.int .u64 x1, .int .u64 x2, .int .u64 x3]), (1, .int .i64 x4), (5, .int .i64 x5), (6, .int .i64 x6)], []⟩
noncomputable def A (c5 : T50) (n : Nat) (J : Jt (Bool)) (q : Nat) (ms : List Nat) : ASt→Ω (Bool) := acont (cfg c5) J cuts n q code 1 ms (aend (cfg c5) Tryz.f3.results.toList [false] sg.out)
theorem e0 {c5 n J n0 r0_0 r0_1 r0_2 a1} : afun (cfg c5) J cuts n code Tryz.f3.results.toList [false] [.recs n0 [.int .u64 r0_0, .int .u64 r0_1, .int .u64 r0_2], .int .i64 a1] sg.out = b0 c5 (fun y0 y1 y2 y3 y4 y5 => J 117 (A c5 n J 117 [n]) (s117 y0 y1 y2 y3 y4 y5)) n0 r0_0 r0_1 r0_2 a1 := by kernel_rfl
theorem e117 {c5 n J m x0 x1 x2 x3 x4 x5} : A c5 n J 117 [m + 1] (s117 x0 x1 x2 x3 x4 x5) = b117 c5 (fun y0 y1 y2 y3 y4 y5 y6 => J 14917 (A c5 n J 14917 [m, n]) (s14917 y0 y1 y2 y3 y4 y5 y6)) x0 x1 x2 x3 x4 x5 := by kernel_rfl
theorem e1865 {c5 n J m117 x0 x1 x2 x3 x4 x5} : A c5 n J 1865 [m117] (s1865 x0 x1 x2 x3 x4 x5) = b1865 c5 (fun y0 y1 y2 y3 y4 y5 => J 117 (A c5 n J 117 [m117]) (s117 y0 y1 y2 y3 y4 y5)) x0 x1 x2 x3 x4 x5 := by kernel_rfl
theorem e14917 {c5 n J m117 m x0 x1 x2 x3 x4 x5 x6} : A c5 n J 14917 [m117, m + 1] (s14917 x0 x1 x2 x3 x4 x5 x6) = b14917 c5 (fun y0 y1 y2 y3 y4 y5 => J 1865 (A c5 n J 1865 [m117]) (s1865 y0 y1 y2 y3 y4 y5)) (fun y0 y1 y2 y3 y4 y5 y6 => J 14917 (A c5 n J 14917 [m117, m]) (s14917 y0 y1 y2 y3 y4 y5 y6)) x0 x1 x2 x3 x4 x5 x6 := by kernel_rfl
noncomputable abbrev I (n : Nat) := A (abacuslaw05_told.f n) n idJ
theorem q1865 (n m117 x0 x1 x2 x3 x4 x5) : I n 1865 [m117] (s1865 x0 x1 x2 x3 x4 x5) = l1865 n (fun y0 y1 y2 y3 y4 y5 => I n 117 [m117] (s117 y0 y1 y2 y3 y4 y5)) x0 x1 x2 x3 x4 x5 := e1865
theorem q14917 (n m117 m) : ∀ x0 x1 x2 x3 x4 x5 x6, I n 14917 [m117, m] (s14917 x0 x1 x2 x3 x4 x5 x6) = l14917 n (fun y0 y1 y2 y3 y4 y5 => I n 117 [m117] (s117 y0 y1 y2 y3 y4 y5)) m x0 x1 x2 x3 x4 x5 x6 := by
  induction m with
  | zero => intros; rfl
  | succ m ih =>
    intros
    exact e14917.trans (Eq.trans (cf7 (congr (congrArg (b14917 _) (fu6 (q1865 n m117))) (fu7 (ih))) _ _ _ _ _ _ _) rfl)
theorem q117 (n m) : ∀ x0 x1 x2 x3 x4 x5, I n 117 [m] (s117 x0 x1 x2 x3 x4 x5) = l117 n m x0 x1 x2 x3 x4 x5 := by
  induction m with
  | zero => intros; rfl
  | succ m ih =>
    intros
    exact e117.trans (Eq.trans (cf6 (congrArg (b117 _) ((fu7 (q14917 n m n)).trans (by rw [show (fun y0 y1 y2 y3 y4 y5 => I n 117 [m] (s117 y0 y1 y2 y3 y4 y5)) = _ from (fu6 (ih))]))) _ _ _ _ _ _) rfl)
theorem ok {n  n0 r0_0 r0_1 r0_2 a1 r} (h : f n n0 r0_0 r0_1 r0_2 a1 = some r) : CallD Tryz.prog HW 3 [.recs n0 [.int .u64 r0_0, .int .u64 r0_1, .int .u64 r0_2], .int .i64 a1] (sg.enc r) :=
  fun_some hwS Tryz.func3 (by kernel_rfl) (body := code) (by kernel_rfl) tys_ok (c := cfg (abacuslaw05_told.f n)) (orCall_ok (abacuslaw05_told.call_ok (n := n)) noCall_ok) noW_ok (by kernel_rfl) (by kernel_rfl) (Nat.le_of_ble_eq_true (by kernel_rfl)) (Eq.trans ((e0 (n := n)).trans (Eq.trans (cf5 (congrArg (b0 _) (fu6 (q117 n n))) _ _ _ _ _) rfl)) h)
theorem walk {n : Nat} {n0 : Int} {r0_0 : Λ} {r0_1 : Λ} {r0_2 : Λ} {a1 : Int} {r : Bool} (h : f n n0 r0_0 r0_1 r0_2 a1 = some r) {w : World} (hw : HW w) {vals : List Value} (hv : VRs (fun _ => none) (fun g => g < w.heap.size) w (ofDs ([.recs n0 [.int .u64 r0_0, .int .u64 r0_1, .int .u64 r0_2], .int .i64 a1] : List D) 0) vals) : Calls Tryz.prog 3 vals.toArray w fun e w' => e = .returned (packV (sg.enc r)) ∧ Below w.heap.size w w' :=
  walk_any (H := HW) rfl (fun_calls hwS Tryz.func3 (by kernel_rfl) (body := code) (by kernel_rfl) tys_ok (c := cfg (abacuslaw05_told.f n)) (orCall_ok (abacuslaw05_told.call_ok (n := n)) noCall_ok) noW_ok (by kernel_rfl) (by kernel_rfl) (Nat.le_of_ble_eq_true (by kernel_rfl)) (Eq.trans ((e0 (n := n)).trans (Eq.trans (cf5 (congrArg (b0 _) (fu6 (q117 n n))) _ _ _ _ _) rfl)) h)) hw hv
noncomputable def call {α : Type} (g : Int→Λ→Λ→Λ→Int→Ω (Bool)) (ds : List D) (K : List D→Ω α) : Ω α := match ds with
  | [.recs n0 [.int .u64 r0_0, .int .u64 r0_1, .int .u64 r0_2], .int .i64 a1] => (g n0 r0_0 r0_1 r0_2 a1).bind fun r => K (sg.enc r)
  | _ => none
theorem call_ok {α : Type} {n : Nat} : COK Tryz.prog HW 3 (call (α := α) (f n)) := fun _ _ _ h => by
  unfold call at h; split at h
  · exact cok h fun _ => ok
  · cases h
end abacuslaw05_SoftTolds
end Go.Proofs.YtobocamcoaeliaaGreatDoor.F
