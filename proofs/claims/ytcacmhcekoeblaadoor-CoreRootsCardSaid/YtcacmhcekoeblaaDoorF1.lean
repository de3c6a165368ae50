/- What the functions compute, and that calls of them answer so (printed by gen.py). Conditions: HW, a table as it was laid. -/
import Derived.Test.YtcacmhcekoeblaaDoorF0
namespace Go.Proofs.YtcacmhcekoeblaaDoor.F
open Go.RowKit Go.Proofs.YtcacmhcekoeblaaDoorA
set_option linter.unusedVariables false
set_option maxRecDepth 100000
/-! ### nat_MulAdd: function 74 -/
namespace nat_MulAdd
noncomputable def b0 (c39 : T5) (c49 : T4) (c50 : T0) (c51 : T3) (c60 : T2) (k1013 : T61) (l0 : Λ) (a1 a2 : Int) : Ω (Λ × Int) := ((c49 l0).bind fun t1 => (if t1 = true then some (([] : Λ), 2) else ((c50 l0).bind fun t2 => (if 0 ≤ t2 then (if t2 ≤ (ln l0) then ((some (l0.take t2.toNat) : Ω (Λ)).bind fun y3 => (if 0 ≤ (wrap64 ((ln y3) + 1)) then (if (wrap64 ((ln y3) + 1)).toNat ≤ 35184372088832 then k1013 y3 a1 a2 (ln y3) 0 (List.replicate (wrap64 ((ln y3) + 1)).toNat (0 : Int)) else none) else none)) else none) else none))))
noncomputable def b127 (c39 : T5) (c49 : T4) (c50 : T0) (c51 : T3) (c60 : T2) (x0 : Λ) (x1 : Int) (x2 : Λ) : Ω (Λ × Int) := (if 0 ≤ (ln x0) then (if (ln x0) < (ln x2) then ((c51 (x2.set ((ln x0) : Int).toNat x1)).bind fun t1 => some (t1.1, t1.2)) else none) else none)
noncomputable def b1013 (c39 : T5) (c49 : T4) (c50 : T0) (c51 : T3) (c60 : T2) (k127 : T58) (k1013 : T61) (x0 : Λ) (x1 x2 x3 x4 : Int) (x5 : Λ) : Ω (Λ × Int) := (if x4 < x3 then (if 0 ≤ x4 then (if x4 < (ln x0) then ((c39 (rd x0 x4) x1).bind fun t1 => ((c60 t1.2 x2 0).bind fun t2 => (if 0 ≤ x4 then (if x4 < (ln x5) then k1013 x0 x1 (IntKind.u64.wrap (t1.1 + t2.2)) x3 (wrap64 (x4 + 1)) (x5.set (x4 : Int).toNat t2.1) else none) else none))) else none) else none) else k127 x0 x2 x5)
noncomputable def l127 (n : Nat) (x0 : Λ) (x1 : Int) (x2 : Λ) : Ω (Λ × Int) := b127 bits_Mul64.f (nat_big.f n) (nat_size.f n) (nat_cut.f n) bits_Add64.f x0 x1 x2
noncomputable def l1013 (n : Nat) : Nat→Λ→Int→Int→Int→Int→Λ→Ω (Λ × Int)
  | 0, _, _, _, _, _, _ => none
  | m + 1, x0, x1, x2, x3, x4, x5 => b1013 bits_Mul64.f (nat_big.f n) (nat_size.f n) (nat_cut.f n) bits_Add64.f (l127 n) (l1013 n m) x0 x1 x2 x3 x4 x5
noncomputable def f (n : Nat) (l0 : Λ) (a1 a2 : Int) : Ω (Λ × Int) := b0 bits_Mul64.f (nat_big.f n) (nat_size.f n) (nat_cut.f n) bits_Add64.f (l1013 n n) l0 a1 a2
noncomputable def sg : Sig (Λ × Int) := s2 (sRow .u64) (s1 (sInt .i64))
noncomputable def code : Code := (Tryd.f74.body).getD .skip
noncomputable def cfg (c39 : T5) (c49 : T4) (c50 : T0) (c51 : T3) (c60 : T2) : Cfg (Λ × Int) := { T := tys, call := orCall 39 (bits_Mul64.call c39) (orCall 49 (nat_big.call c49) (orCall 50 (nat_size.call c50) (orCall 51 (nat_cut.call c51) (orCall 60 (bits_Add64.call c60) (noCall))))), lay := lays }
noncomputable def cuts : List (Nat × List (Nat × Want)) := [(127, [(0, .keep), (8, .keep), (9, .keep)]), (1013, [(0, .keep), (1, .keep), (8, .keep), (9, .keep), (26, .keep), (27, .keep), (28, .keep)])]
noncomputable def s127 (x0 : Λ) (x1 : Int) (x2 : Λ) : ASt := ⟨[(0, .ro .u64 x0), (8, .own 0), (9, .int .u64 x1)], [.ints 22 .u64 x2]⟩
noncomputable def s1013 (x0 : Λ) (x1 x2 x3 x4 : Int) (x5 : Λ) : ASt := ⟨[(0, .ro .u64 x0), (1, .int .u64 x1), (8, .own 0), (9, .int .u64 x2), (26, .ro .u64 x0), (27, .int .i64 x3), (28, .int .i64 x4)], [.ints 22 .u64 x5]⟩
noncomputable def A (c39 : T5) (c49 : T4) (c50 : T0) (c51 : T3) (c60 : T2) (n : Nat) (J : Jt (Λ × Int)) (q : Nat) (ms : List Nat) : ASt→Ω (Λ × Int) := acont (cfg c39 c49 c50 c51 c60) J cuts n q code 1 ms (aend (cfg c39 c49 c50 c51 c60) Tryd.f74.results.toList [false, false] sg.out)
theorem e0 {c39 c49 c50 c51 c60 n J l0 a1 a2} : afun (cfg c39 c49 c50 c51 c60) J cuts n code Tryd.f74.results.toList [false, false] [.ro .u64 l0, .int .u64 a1, .int .u64 a2] sg.out = b0 c39 c49 c50 c51 c60 (fun y0 y1 y2 y3 y4 y5 => J 1013 (A c39 c49 c50 c51 c60 n J 1013 [n]) (s1013 y0 y1 y2 y3 y4 y5)) l0 a1 a2 := by kernel_rfl
theorem e127 {c39 c49 c50 c51 c60 n J x0 x1 x2} : A c39 c49 c50 c51 c60 n J 127 [] (s127 x0 x1 x2) = b127 c39 c49 c50 c51 c60 x0 x1 x2 := by kernel_rfl
theorem e1013 {c39 c49 c50 c51 c60 n J m x0 x1 x2 x3 x4 x5} : A c39 c49 c50 c51 c60 n J 1013 [m + 1] (s1013 x0 x1 x2 x3 x4 x5) = b1013 c39 c49 c50 c51 c60 (fun y0 y1 y2 => J 127 (A c39 c49 c50 c51 c60 n J 127 []) (s127 y0 y1 y2)) (fun y0 y1 y2 y3 y4 y5 => J 1013 (A c39 c49 c50 c51 c60 n J 1013 [m]) (s1013 y0 y1 y2 y3 y4 y5)) x0 x1 x2 x3 x4 x5 := by kernel_rfl
noncomputable abbrev I (n : Nat) := A bits_Mul64.f (nat_big.f n) (nat_size.f n) (nat_cut.f n) bits_Add64.f n idJ
theorem q127 (n x0 x1 x2) : I n 127 [] (s127 x0 x1 x2) = l127 n x0 x1 x2 := e127
theorem q1013 (n m) : ∀ x0 x1 x2 x3 x4 x5, I n 1013 [m] (s1013 x0 x1 x2 x3 x4 x5) = l1013 n m x0 x1 x2 x3 x4 x5 := by
  induction m with
  | zero => intros; rfl
  | succ m ih =>
    intros
    exact e1013.trans (Eq.trans (cf6 (congr (congrArg (b1013 _ _ _ _ _) (fu3 (q127 n))) (fu6 (ih))) _ _ _ _ _ _) rfl)
theorem ok {n  l0 a1 a2 r} (h : f n l0 a1 a2 = some r) : CallD Tryd.prog HW 74 [.ro .u64 l0, .int .u64 a1, .int .u64 a2] (sg.enc r) :=
  fun_some hwS Tryd.func74 (by kernel_rfl) (body := code) (by kernel_rfl) tys_ok (c := cfg bits_Mul64.f (nat_big.f n) (nat_size.f n) (nat_cut.f n) bits_Add64.f) ⟨(orCall_ok bits_Mul64.call_ok (orCall_ok (nat_big.call_ok (n := n)) (orCall_ok (nat_size.call_ok (n := n)) (orCall_ok (nat_cut.call_ok (n := n)) (orCall_ok bits_Add64.call_ok noCall_ok))))), noQ_ok'⟩ ⟨noW_ok, noP_ok'⟩ (by kernel_rfl) (by kernel_rfl) (Nat.le_of_ble_eq_true (by kernel_rfl)) (Eq.trans ((e0 (n := n)).trans (Eq.trans (cf3 (congrArg (b0 _ _ _ _ _) (fu6 (q1013 n n))) _ _ _) rfl)) h)
noncomputable def call {α : Type} (g : T19) (ds : List D) (K : List D→Ω α) : Ω α := match ds with
  | [.ro .u64 l0, .int .u64 a1, .int .u64 a2] => (g l0 a1 a2).bind fun r => K (sg.enc r)
  | _ => none
theorem call_ok {α : Type} {n : Nat} : COK Tryd.prog HW 74 (call (α := α) (f n)) := fun _ _ _ h => by
  unfold call at h; split at h
  · exact cok h fun _ => ok
  · cases h
end nat_MulAdd
/-! ### ieee_RoundRatio: function 63 -/
namespace ieee_RoundRatio
noncomputable def b0 (c27 : T14) (c32 : T10) (c35 : T0) (c45 : T1) (c53 : T13) (c54 : T7) (c56 : T6) (c68 : T7) (c74 : T19) (k127 : T38) (a0 : Bool) (l1 l2 : Λ) (a3 : Int) : Ω (Int × Int) := ((c32 l1 0).bind fun t1 => ((c32 l2 0).bind fun t2 => (if ¬ t1.2 = 0 then some (0, 2) else (if ¬ t2.2 = 0 then some (0, 2) else (if (ln t2.1) = 0 then some (0, 4) else (if (ln t1.1) = 0 then ((c27 a0 ([] : Λ) 0 false).bind fun t3 => some (t3.1, t3.2)) else ((c45 a3).bind fun t4 => ((c35 t2.1).bind fun t5 => ((c35 t1.1).bind fun t6 => (if (wrap64 (t5 - t6)) > 0 then ((c32 t1.1 (wrap64 (t5 - t6))).bind fun t7 => k127 a0 t7.1 t2.1 (wrap64 (t4 - (wrap64 (t5 - t6))))) else k127 a0 t1.1 t2.1 t4))))))))))
noncomputable def b127 (c27 : T14) (c32 : T10) (c35 : T0) (c45 : T1) (c53 : T13) (c54 : T7) (c56 : T6) (c68 : T7) (c74 : T19) (k4089 : T47) (x0 : Bool) (x1 x2 : Λ) (x3 : Int) : Ω (Int × Int) := ((c53 x1 x2).bind fun t1 => (if ¬ t1.2.2 = 0 then some (0, t1.2.2) else k4089 x0 x2 x3 t1.1 t1.2.1))
noncomputable def b1023 (c27 : T14) (c32 : T10) (c35 : T0) (c45 : T1) (c53 : T13) (c54 : T7) (c56 : T6) (c68 : T7) (c74 : T19) (x0 : Bool) (x1 : Int) (x2 x3 : Λ) : Ω (Int × Int) := ((c27 x0 x2 x1 (decide ((ln x3) > 0))).bind fun t1 => some (t1.1, t1.2))
noncomputable def b4089 (c27 : T14) (c32 : T10) (c35 : T0) (c45 : T1) (c53 : T13) (c54 : T7) (c56 : T6) (c68 : T7) (c74 : T19) (k1023 : Bool→Int→Λ→Λ→Ω (Int × Int)) (k130839 : Bool→Λ→Int→Λ→Λ→Int→Ω (Int × Int)) (x0 : Bool) (x1 : Λ) (x2 : Int) (x3 x4 : Λ) : Ω (Int × Int) := ((c35 x3).bind fun t1 => (if t1 < 66 then ((c68 x1 x4).bind fun t2 => ((c56 x4 t2.1).bind fun t3 => (if t3 ≥ 0 then ((c68 x4 t2.1).bind fun t4 => k130839 x0 x1 x2 x3 t4.1 1) else ((c54 x4 x4).bind fun t5 => k130839 x0 x1 x2 x3 t5.1 0)))) else k1023 x0 x2 x3 x4))
noncomputable def b130839 (c27 : T14) (c32 : T10) (c35 : T0) (c45 : T1) (c53 : T13) (c54 : T7) (c56 : T6) (c68 : T7) (c74 : T19) (k4089 : T47) (x0 : Bool) (x1 : Λ) (x2 : Int) (x3 x4 : Λ) (x5 : Int) : Ω (Int × Int) := ((c74 x3 2 x5).bind fun t1 => k4089 x0 x1 (wrap64 (x2 - 1)) t1.1 x4)
noncomputable def l1023 (n : Nat) (x0 : Bool) (x1 : Int) (x2 x3 : Λ) : Ω (Int × Int) := b1023 (ieee_Round.f n) (nat_Shl.f n) (nat_BitLen.f n) ieee_near.f (quot_DivMod.f n) (nat_Add.f n) (nat_Cmp.f n) (nat_Sub.f n) (nat_MulAdd.f n) x0 x1 x2 x3
noncomputable def l130839 (n : Nat) (k4089 : T47) (x0 : Bool) (x1 : Λ) (x2 : Int) (x3 x4 : Λ) (x5 : Int) : Ω (Int × Int) := b130839 (ieee_Round.f n) (nat_Shl.f n) (nat_BitLen.f n) ieee_near.f (quot_DivMod.f n) (nat_Add.f n) (nat_Cmp.f n) (nat_Sub.f n) (nat_MulAdd.f n) k4089 x0 x1 x2 x3 x4 x5
noncomputable def l4089 (n : Nat) : Nat→Bool→Λ→Int→Λ→Λ→Ω (Int × Int)
  | 0, _, _, _, _, _ => none
  | m + 1, x0, x1, x2, x3, x4 => b4089 (ieee_Round.f n) (nat_Shl.f n) (nat_BitLen.f n) ieee_near.f (quot_DivMod.f n) (nat_Add.f n) (nat_Cmp.f n) (nat_Sub.f n) (nat_MulAdd.f n) (l1023 n) (l130839 n (l4089 n m)) x0 x1 x2 x3 x4
noncomputable def l127 (n : Nat) (x0 : Bool) (x1 x2 : Λ) (x3 : Int) : Ω (Int × Int) := b127 (ieee_Round.f n) (nat_Shl.f n) (nat_BitLen.f n) ieee_near.f (quot_DivMod.f n) (nat_Add.f n) (nat_Cmp.f n) (nat_Sub.f n) (nat_MulAdd.f n) (l4089 n n) x0 x1 x2 x3
noncomputable def f (n : Nat) (a0 : Bool) (l1 l2 : Λ) (a3 : Int) : Ω (Int × Int) := b0 (ieee_Round.f n) (nat_Shl.f n) (nat_BitLen.f n) ieee_near.f (quot_DivMod.f n) (nat_Add.f n) (nat_Cmp.f n) (nat_Sub.f n) (nat_MulAdd.f n) (l127 n) a0 l1 l2 a3
noncomputable def sg : Sig (Int × Int) := s2 (sInt .u64) (s1 (sInt .i64))
noncomputable def code : Code := (Tryd.f63.body).getD .skip
noncomputable def cfg (c27 : T14) (c32 : T10) (c35 : T0) (c45 : T1) (c53 : T13) (c54 : T7) (c56 : T6) (c68 : T7) (c74 : T19) : Cfg (Int × Int) := { T := tys, call := orCall 27 (ieee_Round.call c27) (orCall 32 (nat_Shl.call c32) (orCall 35 (nat_BitLen.call c35) (orCall 45 (ieee_near.call c45) (orCall 53 (quot_DivMod.call c53) (orCall 54 (nat_Add.call c54) (orCall 56 (nat_Cmp.call c56) (orCall 68 (nat_Sub.call c68) (orCall 74 (nat_MulAdd.call c74) (noCall))))))))), lay := lays }
noncomputable def cuts : List (Nat × List (Nat × Want)) := [(127, [(0, .keep), (1, .keep), (2, .keep), (3, .keep)]), (1023, [(0, .keep), (3, .keep), (13, .keep), (14, .keep)]), (4089, [(0, .keep), (2, .keep), (3, .keep), (13, .keep), (14, .keep)]), (130839, [(0, .keep), (2, .keep), (3, .keep), (13, .keep), (14, .keep), (17, .keep)])]
noncomputable def s127 (x0 : Bool) (x1 x2 : Λ) (x3 : Int) : ASt := ⟨[(0, .bool x0), (1, .ro .u64 x1), (2, .ro .u64 x2), (3, .int .i64 x3)], []⟩
noncomputable def s1023 (x0 : Bool) (x1 : Int) (x2 x3 : Λ) : ASt := ⟨[(0, .bool x0), (3, .int .i64 x1), (13, .ro .u64 x2), (14, .ro .u64 x3)], []⟩
noncomputable def s4089 (x0 : Bool) (x1 : Λ) (x2 : Int) (x3 x4 : Λ) : ASt := ⟨[(0, .bool x0), (2, .ro .u64 x1), (3, .int .i64 x2), (13, .ro .u64 x3), (14, .ro .u64 x4)], []⟩
noncomputable def s130839 (x0 : Bool) (x1 : Λ) (x2 : Int) (x3 x4 : Λ) (x5 : Int) : ASt := ⟨[(0, .bool x0), (2, .ro .u64 x1), (3, .int .i64 x2), (13, .ro .u64 x3), (14, .ro .u64 x4), (17, .int .u64 x5)], []⟩
noncomputable def A (c27 : T14) (c32 : T10) (c35 : T0) (c45 : T1) (c53 : T13) (c54 : T7) (c56 : T6) (c68 : T7) (c74 : T19) (n : Nat) (J : Jt (Int × Int)) (q : Nat) (ms : List Nat) : ASt→Ω (Int × Int) := acont (cfg c27 c32 c35 c45 c53 c54 c56 c68 c74) J cuts n q code 1 ms (aend (cfg c27 c32 c35 c45 c53 c54 c56 c68 c74) Tryd.f63.results.toList [false, false] sg.out)
theorem e0 {c27 c32 c35 c45 c53 c54 c56 c68 c74 n J a0 l1 l2 a3} : afun (cfg c27 c32 c35 c45 c53 c54 c56 c68 c74) J cuts n code Tryd.f63.results.toList [false, false] [.bool a0, .ro .u64 l1, .ro .u64 l2, .int .i64 a3] sg.out = b0 c27 c32 c35 c45 c53 c54 c56 c68 c74 (fun y0 y1 y2 y3 => J 127 (A c27 c32 c35 c45 c53 c54 c56 c68 c74 n J 127 []) (s127 y0 y1 y2 y3)) a0 l1 l2 a3 := by kernel_rfl
theorem e127 {c27 c32 c35 c45 c53 c54 c56 c68 c74 n J x0 x1 x2 x3} : A c27 c32 c35 c45 c53 c54 c56 c68 c74 n J 127 [] (s127 x0 x1 x2 x3) = b127 c27 c32 c35 c45 c53 c54 c56 c68 c74 (fun y0 y1 y2 y3 y4 => J 4089 (A c27 c32 c35 c45 c53 c54 c56 c68 c74 n J 4089 [n]) (s4089 y0 y1 y2 y3 y4)) x0 x1 x2 x3 := by kernel_rfl
theorem e1023 {c27 c32 c35 c45 c53 c54 c56 c68 c74 n J x0 x1 x2 x3} : A c27 c32 c35 c45 c53 c54 c56 c68 c74 n J 1023 [] (s1023 x0 x1 x2 x3) = b1023 c27 c32 c35 c45 c53 c54 c56 c68 c74 x0 x1 x2 x3 := by kernel_rfl
theorem e4089 {c27 c32 c35 c45 c53 c54 c56 c68 c74 n J m x0 x1 x2 x3 x4} : A c27 c32 c35 c45 c53 c54 c56 c68 c74 n J 4089 [m + 1] (s4089 x0 x1 x2 x3 x4) = b4089 c27 c32 c35 c45 c53 c54 c56 c68 c74 (fun y0 y1 y2 y3 => J 1023 (A c27 c32 c35 c45 c53 c54 c56 c68 c74 n J 1023 []) (s1023 y0 y1 y2 y3)) (fun y0 y1 y2 y3 y4 y5 => J 130839 (A c27 c32 c35 c45 c53 c54 c56 c68 c74 n J 130839 [m]) (s130839 y0 y1 y2 y3 y4 y5)) x0 x1 x2 x3 x4 := by kernel_rfl
theorem e130839 {c27 c32 c35 c45 c53 c54 c56 c68 c74 n J m4089 x0 x1 x2 x3 x4 x5} : A c27 c32 c35 c45 c53 c54 c56 c68 c74 n J 130839 [m4089] (s130839 x0 x1 x2 x3 x4 x5) = b130839 c27 c32 c35 c45 c53 c54 c56 c68 c74 (fun y0 y1 y2 y3 y4 => J 4089 (A c27 c32 c35 c45 c53 c54 c56 c68 c74 n J 4089 [m4089]) (s4089 y0 y1 y2 y3 y4)) x0 x1 x2 x3 x4 x5 := by kernel_rfl
noncomputable abbrev I (n : Nat) := A (ieee_Round.f n) (nat_Shl.f n) (nat_BitLen.f n) ieee_near.f (quot_DivMod.f n) (nat_Add.f n) (nat_Cmp.f n) (nat_Sub.f n) (nat_MulAdd.f n) n idJ
theorem q1023 (n x0 x1 x2 x3) : I n 1023 [] (s1023 x0 x1 x2 x3) = l1023 n x0 x1 x2 x3 := e1023
theorem q130839 (n m4089 x0 x1 x2 x3 x4 x5) : I n 130839 [m4089] (s130839 x0 x1 x2 x3 x4 x5) = l130839 n (fun y0 y1 y2 y3 y4 => I n 4089 [m4089] (s4089 y0 y1 y2 y3 y4)) x0 x1 x2 x3 x4 x5 := e130839
theorem q4089 (n m) : ∀ x0 x1 x2 x3 x4, I n 4089 [m] (s4089 x0 x1 x2 x3 x4) = l4089 n m x0 x1 x2 x3 x4 := by
  induction m with
  | zero => intros; rfl
  | succ m ih =>
    intros
    exact e4089.trans (Eq.trans (cf5 (congr (congrArg (b4089 _ _ _ _ _ _ _ _ _) (fu4 (q1023 n))) ((fu6 (q130839 n m)).trans (by rw [show (fun y0 y1 y2 y3 y4 => I n 4089 [m] (s4089 y0 y1 y2 y3 y4)) = _ from (fu5 (ih))]))) _ _ _ _ _) rfl)
theorem q127 (n x0 x1 x2 x3) : I n 127 [] (s127 x0 x1 x2 x3) = l127 n x0 x1 x2 x3 := e127.trans (Eq.trans (cf4 (congrArg (b127 _ _ _ _ _ _ _ _ _) (fu5 (q4089 n n))) _ _ _ _) rfl)
theorem ok {n  a0 l1 l2 a3 r} (h : f n a0 l1 l2 a3 = some r) : CallD Tryd.prog HW 63 [.bool a0, .ro .u64 l1, .ro .u64 l2, .int .i64 a3] (sg.enc r) :=
  fun_some hwS Tryd.func63 (by kernel_rfl) (body := code) (by kernel_rfl) tys_ok (c := cfg (ieee_Round.f n) (nat_Shl.f n) (nat_BitLen.f n) ieee_near.f (quot_DivMod.f n) (nat_Add.f n) (nat_Cmp.f n) (nat_Sub.f n) (nat_MulAdd.f n)) ⟨(orCall_ok (ieee_Round.call_ok (n := n)) (orCall_ok (nat_Shl.call_ok (n := n)) (orCall_ok (nat_BitLen.call_ok (n := n)) (orCall_ok ieee_near.call_ok (orCall_ok (quot_DivMod.call_ok (n := n)) (orCall_ok (nat_Add.call_ok (n := n)) (orCall_ok (nat_Cmp.call_ok (n := n)) (orCall_ok (nat_Sub.call_ok (n := n)) (orCall_ok (nat_MulAdd.call_ok (n := n)) noCall_ok))))))))), noQ_ok'⟩ ⟨noW_ok, noP_ok'⟩ (by kernel_rfl) (by kernel_rfl) (Nat.le_of_ble_eq_true (by kernel_rfl)) (Eq.trans ((e0 (n := n)).trans (Eq.trans (cf4 (congrArg (b0 _ _ _ _ _ _ _ _ _) (fu4 (q127 n))) _ _ _ _) rfl)) h)
noncomputable def call {α : Type} (g : T38) (ds : List D) (K : List D→Ω α) : Ω α := match ds with
  | [.bool a0, .ro .u64 l1, .ro .u64 l2, .int .i64 a3] => (g a0 l1 l2 a3).bind fun r => K (sg.enc r)
  | _ => none
theorem call_ok {α : Type} {n : Nat} : COK Tryd.prog HW 63 (call (α := α) (f n)) := fun _ _ _ h => by
  unfold call at h; split at h
  · exact cok h fun _ => ok
  · cases h
end ieee_RoundRatio
/-! ### gather_Acc_over: function 42 -/
namespace gather_Acc_over
noncomputable def b0 (c61 : T45) (c62 : T46) (c63 : T38) (a0_0 a0_1 a0_2 a0_3 : Bool) (a0_4 : Int) (r0_5 r0_6 : Λ) (a1 : Int) : Ω (Int) := ((c61 a0_0 a0_1 a0_2 a0_3).bind fun t1 => (if t1.2 = true then some t1.1 else ((c62 a0_0 a0_1 a0_2 a0_3 a0_4 r0_5 r0_6).bind fun t2 => ((c63 t2.1 t2.2 [a1] (-2148)).bind fun t3 => some t3.1))))
noncomputable def f (n : Nat) (a0_0 a0_1 a0_2 a0_3 : Bool) (a0_4 : Int) (r0_5 r0_6 : Λ) (a1 : Int) : Ω (Int) := b0 gather_kinds_beyond.f (gather_Acc_exact.f n) (ieee_RoundRatio.f n) a0_0 a0_1 a0_2 a0_3 a0_4 r0_5 r0_6 a1
noncomputable def sg : Sig (Int) := s1 (sInt .u64)
noncomputable def code : Code := (Tryd.f42.body).getD .skip
noncomputable def cfg (c61 : T45) (c62 : T46) (c63 : T38) : Cfg (Int) := { T := tys, call := orCall 61 (gather_kinds_beyond.call c61) (orCall 62 (gather_Acc_exact.call c62) (orCall 63 (ieee_RoundRatio.call c63) (noCall))), lay := lays }
noncomputable def cuts : List (Nat × List (Nat × Want)) := []
theorem e0 {c61 c62 c63 n J a0_0 a0_1 a0_2 a0_3 a0_4 r0_5 r0_6 a1} : afun (cfg c61 c62 c63) J cuts n code Tryd.f42.results.toList [false] [.pseg [.bool a0_0, .bool a0_1, .bool a0_2, .bool a0_3, .int .i64 a0_4, .arr .u64 72 r0_5, .arr .u64 72 r0_6], .int .u64 a1] sg.out = b0 c61 c62 c63 a0_0 a0_1 a0_2 a0_3 a0_4 r0_5 r0_6 a1 := by kernel_rfl
theorem ok {n  a0_0 a0_1 a0_2 a0_3 a0_4 r0_5 r0_6 a1 r} (h : f n a0_0 a0_1 a0_2 a0_3 a0_4 r0_5 r0_6 a1 = some r) : CallD Tryd.prog HW 42 [.pseg [.bool a0_0, .bool a0_1, .bool a0_2, .bool a0_3, .int .i64 a0_4, .arr .u64 72 r0_5, .arr .u64 72 r0_6], .int .u64 a1] (sg.enc r) :=
  fun_some hwS Tryd.func42 (by kernel_rfl) (body := code) (by kernel_rfl) tys_ok (c := cfg gather_kinds_beyond.f (gather_Acc_exact.f n) (ieee_RoundRatio.f n)) ⟨(orCall_ok (gather_kinds_beyond.call_ok (n := n)) (orCall_ok (gather_Acc_exact.call_ok (n := n)) (orCall_ok (ieee_RoundRatio.call_ok (n := n)) noCall_ok))), noQ_ok'⟩ ⟨noW_ok, noP_ok'⟩ (by kernel_rfl) (by kernel_rfl) (Nat.le_of_ble_eq_true (by kernel_rfl)) (Eq.trans ((e0 (n := n))) h)
noncomputable def call {α : Type} (g : T48) (ds : List D) (K : List D→Ω α) : Ω α := match ds with
  | [.pseg (.bool a0_0 :: .bool a0_1 :: .bool a0_2 :: .bool a0_3 :: .int .i64 a0_4 :: .arr .u64 72 r0_5 :: .arr .u64 72 r0_6 :: _), .int .u64 a1] => (g a0_0 a0_1 a0_2 a0_3 a0_4 r0_5 r0_6 a1).bind fun r => K (sg.enc r)
  | _ => none
theorem call_ok {α : Type} {n : Nat} (ds : List D) (K : List D→Ω α) (r : α) (h : call (f n) ds K = some r) : ∃ rs, K rs = some r ∧ CallD Tryd.prog HW 42 ds rs := by
  unfold call at h
  split at h
  · obtain ⟨x, hx, hk⟩ := Option.bind_eq_some_iff.1 h
    exact ⟨_, hk, calld_sub (ok (n := n) hx) ⟨⟨_, rfl⟩, ⟨rfl, trivial⟩⟩⟩
  · cases h
end gather_Acc_over
/-! ### gather_Acc_Value: function 20 -/
namespace gather_Acc_Value
noncomputable def b0 (c42 : T48) (a0_0 a0_1 a0_2 a0_3 : Bool) (a0_4 : Int) (r0_5 r0_6 : Λ) : Ω (Int) := ((c42 a0_0 a0_1 a0_2 a0_3 a0_4 r0_5 r0_6 1).bind fun t1 => some t1)
noncomputable def f (n : Nat) (a0_0 a0_1 a0_2 a0_3 : Bool) (a0_4 : Int) (r0_5 r0_6 : Λ) : Ω (Int) := b0 (gather_Acc_over.f n) a0_0 a0_1 a0_2 a0_3 a0_4 r0_5 r0_6
noncomputable def sg : Sig (Int) := s1 (sInt .u64)
noncomputable def code : Code := (Tryd.f20.body).getD .skip
noncomputable def cfg (c42 : T48) : Cfg (Int) := { T := tys, call := orCall 42 (gather_Acc_over.call c42) (noCall), lay := lays }
noncomputable def cuts : List (Nat × List (Nat × Want)) := []
theorem e0 {c42 n J a0_0 a0_1 a0_2 a0_3 a0_4 r0_5 r0_6} : afun (cfg c42) J cuts n code Tryd.f20.results.toList [false] [.pseg [.bool a0_0, .bool a0_1, .bool a0_2, .bool a0_3, .int .i64 a0_4, .arr .u64 72 r0_5, .arr .u64 72 r0_6]] sg.out = b0 c42 a0_0 a0_1 a0_2 a0_3 a0_4 r0_5 r0_6 := by kernel_rfl
theorem ok {n  a0_0 a0_1 a0_2 a0_3 a0_4 r0_5 r0_6 r} (h : f n a0_0 a0_1 a0_2 a0_3 a0_4 r0_5 r0_6 = some r) : CallD Tryd.prog HW 20 [.pseg [.bool a0_0, .bool a0_1, .bool a0_2, .bool a0_3, .int .i64 a0_4, .arr .u64 72 r0_5, .arr .u64 72 r0_6]] (sg.enc r) :=
  fun_some hwS Tryd.func20 (by kernel_rfl) (body := code) (by kernel_rfl) tys_ok (c := cfg (gather_Acc_over.f n)) ⟨(orCall_ok (gather_Acc_over.call_ok (n := n)) noCall_ok), noQ_ok'⟩ ⟨noW_ok, noP_ok'⟩ (by kernel_rfl) (by kernel_rfl) (Nat.le_of_ble_eq_true (by kernel_rfl)) (Eq.trans ((e0 (n := n))) h)
noncomputable def call {α : Type} (g : T30) (ds : List D) (K : List D→Ω α) : Ω α := match ds with
  | [.pseg (.bool a0_0 :: .bool a0_1 :: .bool a0_2 :: .bool a0_3 :: .int .i64 a0_4 :: .arr .u64 72 r0_5 :: .arr .u64 72 r0_6 :: _)] => (g a0_0 a0_1 a0_2 a0_3 a0_4 r0_5 r0_6).bind fun r => K (sg.enc r)
  | _ => none
theorem call_ok {α : Type} {n : Nat} (ds : List D) (K : List D→Ω α) (r : α) (h : call (f n) ds K = some r) : ∃ rs, K rs = some r ∧ CallD Tryd.prog HW 20 ds rs := by
  unfold call at h
  split at h
  · obtain ⟨x, hx, hk⟩ := Option.bind_eq_some_iff.1 h
    exact ⟨_, hk, calld_sub (ok (n := n) hx) ⟨⟨_, rfl⟩, trivial⟩⟩
  · cases h
end gather_Acc_Value
/-! ### gather_Dot: function 7 -/
namespace gather_Dot
noncomputable def b0 (c18 : T28) (c19 : T29) (c20 : T30) (k245 : T62) (l0 l1 : Λ) : Ω (Int × Int) := (if ¬ (ln l0) = (ln l1) then some (0, 70) else ((c18).bind fun t1 => k245 l1 l0 (ln l0) 0 t1.1 t1.2.1 t1.2.2.1 t1.2.2.2.1 t1.2.2.2.2.1 t1.2.2.2.2.2.1 t1.2.2.2.2.2.2))
noncomputable def b31 (c18 : T28) (c19 : T29) (c20 : T30) (x0 x1 x2 x3 : Bool) (x4 : Int) (x5 x6 : Λ) : Ω (Int × Int) := ((c20 x0 x1 x2 x3 x4 x5 x6).bind fun t1 => some (t1, 0))
noncomputable def b245 (c18 : T28) (c19 : T29) (c20 : T30) (k31 : Bool→Bool→Bool→Bool→Int→Λ→Λ→Ω (Int × Int)) (k245 : T62) (x0 x1 : Λ) (x2 x3 : Int) (x4 x5 x6 x7 : Bool) (x8 : Int) (x9 x10 : Λ) : Ω (Int × Int) := (if x3 < x2 then (if 0 ≤ x3 then (if x3 < (ln x1) then (if 0 ≤ x3 then (if x3 < (ln x0) then ((c19 x4 x5 x6 x7 x8 x9 x10 (rd x1 x3) (rd x0 x3)).bind fun t1 => k245 x0 x1 x2 (wrap64 (x3 + 1)) t1.1.1 t1.1.2.1 t1.1.2.2.1 t1.1.2.2.2.1 t1.1.2.2.2.2.1 t1.1.2.2.2.2.2.1 t1.1.2.2.2.2.2.2) else none) else none) else none) else none) else k31 x4 x5 x6 x7 x8 x9 x10)
noncomputable def l31 (n : Nat) (x0 x1 x2 x3 : Bool) (x4 : Int) (x5 x6 : Λ) : Ω (Int × Int) := b31 gather_New.f (gather_Acc_AddProduct.f n) (gather_Acc_Value.f n) x0 x1 x2 x3 x4 x5 x6
noncomputable def l245 (n : Nat) : Nat→Λ→Λ→Int→Int→Bool→Bool→Bool→Bool→Int→Λ→Λ→Ω (Int × Int)
  | 0, _, _, _, _, _, _, _, _, _, _, _ => none
  | m + 1, x0, x1, x2, x3, x4, x5, x6, x7, x8, x9, x10 => b245 gather_New.f (gather_Acc_AddProduct.f n) (gather_Acc_Value.f n) (l31 n) (l245 n m) x0 x1 x2 x3 x4 x5 x6 x7 x8 x9 x10
noncomputable def f (n : Nat) (l0 l1 : Λ) : Ω (Int × Int) := b0 gather_New.f (gather_Acc_AddProduct.f n) (gather_Acc_Value.f n) (l245 n n) l0 l1
noncomputable def sg : Sig (Int × Int) := s2 (sInt .u64) (s1 (sInt .i64))
noncomputable def code : Code := (Tryd.f7.body).getD .skip
noncomputable def cfg (c18 : T28) (c19 : T29) (c20 : T30) : Cfg (Int × Int) := { T := tys, call := orCall 18 (gather_New.call c18) (orCall 20 (gather_Acc_Value.call c20) (noCall)), lay := lays, pw := [(19, 149)], callp := orP 19 (gather_Acc_AddProduct.call c19) (noP) }
noncomputable def cuts : List (Nat × List (Nat × Want)) := [(31, [(6, .keep)]), (245, [(1, .keep), (6, .keep), (15, .keep), (16, .keep), (17, .keep)])]
noncomputable def s31 (x0 x1 x2 x3 : Bool) (x4 : Int) (x5 x6 : Λ) : ASt := ⟨[(6, .rp 0 0)], [.part 65 [.bool x0, .bool x1, .bool x2, .bool x3, .int .i64 x4, .arr .u64 72 x5, .arr .u64 72 x6]]⟩
noncomputable def s245 (x0 x1 : Λ) (x2 x3 : Int) (x4 x5 x6 x7 : Bool) (x8 : Int) (x9 x10 : Λ) : ASt := ⟨[(1, .ro .u64 x0), (6, .rp 0 0), (15, .ro .u64 x1), (16, .int .i64 x2), (17, .int .i64 x3)], [.part 65 [.bool x4, .bool x5, .bool x6, .bool x7, .int .i64 x8, .arr .u64 72 x9, .arr .u64 72 x10]]⟩
noncomputable def A (c18 : T28) (c19 : T29) (c20 : T30) (n : Nat) (J : Jt (Int × Int)) (q : Nat) (ms : List Nat) : ASt→Ω (Int × Int) := acont (cfg c18 c19 c20) J cuts n q code 1 ms (aend (cfg c18 c19 c20) Tryd.f7.results.toList [false, false] sg.out)
theorem e0 {c18 c19 c20 n J l0 l1} : afun (cfg c18 c19 c20) J cuts n code Tryd.f7.results.toList [false, false] [.ro .u64 l0, .ro .u64 l1] sg.out = b0 c18 c19 c20 (fun y0 y1 y2 y3 y4 y5 y6 y7 y8 y9 y10 => J 245 (A c18 c19 c20 n J 245 [n]) (s245 y0 y1 y2 y3 y4 y5 y6 y7 y8 y9 y10)) l0 l1 := by kernel_rfl
theorem e31 {c18 c19 c20 n J x0 x1 x2 x3 x4 x5 x6} : A c18 c19 c20 n J 31 [] (s31 x0 x1 x2 x3 x4 x5 x6) = b31 c18 c19 c20 x0 x1 x2 x3 x4 x5 x6 := by kernel_rfl
theorem e245 {c18 c19 c20 n J m x0 x1 x2 x3 x4 x5 x6 x7 x8 x9 x10} : A c18 c19 c20 n J 245 [m + 1] (s245 x0 x1 x2 x3 x4 x5 x6 x7 x8 x9 x10) = b245 c18 c19 c20 (fun y0 y1 y2 y3 y4 y5 y6 => J 31 (A c18 c19 c20 n J 31 []) (s31 y0 y1 y2 y3 y4 y5 y6)) (fun y0 y1 y2 y3 y4 y5 y6 y7 y8 y9 y10 => J 245 (A c18 c19 c20 n J 245 [m]) (s245 y0 y1 y2 y3 y4 y5 y6 y7 y8 y9 y10)) x0 x1 x2 x3 x4 x5 x6 x7 x8 x9 x10 := by kernel_rfl
noncomputable abbrev I (n : Nat) := A gather_New.f (gather_Acc_AddProduct.f n) (gather_Acc_Value.f n) n idJ
theorem q31 (n x0 x1 x2 x3 x4 x5 x6) : I n 31 [] (s31 x0 x1 x2 x3 x4 x5 x6) = l31 n x0 x1 x2 x3 x4 x5 x6 := e31
theorem q245 (n m) : ∀ x0 x1 x2 x3 x4 x5 x6 x7 x8 x9 x10, I n 245 [m] (s245 x0 x1 x2 x3 x4 x5 x6 x7 x8 x9 x10) = l245 n m x0 x1 x2 x3 x4 x5 x6 x7 x8 x9 x10 := by
  induction m with
  | zero => intros; rfl
  | succ m ih =>
    intros
    exact e245.trans (Eq.trans (cf11 (congr (congrArg (b245 _ _ _) (fu7 (q31 n))) (fu11 (ih))) _ _ _ _ _ _ _ _ _ _ _) rfl)
theorem ok {n  l0 l1 r} (h : f n l0 l1 = some r) : CallD Tryd.prog HW 7 [.ro .u64 l0, .ro .u64 l1] (sg.enc r) :=
  fun_some hwS Tryd.func7 (by kernel_rfl) (body := code) (by kernel_rfl) tys_ok (c := cfg gather_New.f (gather_Acc_AddProduct.f n) (gather_Acc_Value.f n)) ⟨(orCall_ok gather_New.call_ok (orCall_ok (gather_Acc_Value.call_ok (n := n)) noCall_ok)), noQ_ok'⟩ ⟨noW_ok, (orP_ok (gather_Acc_AddProduct.call_ok (n := n)) noP_ok)⟩ (by kernel_rfl) (by kernel_rfl) (Nat.le_of_ble_eq_true (by kernel_rfl)) (Eq.trans ((e0 (n := n)).trans (Eq.trans (cf2 (congrArg (b0 _ _ _) (fu11 (q245 n n))) _ _) rfl)) h)
noncomputable def call {α : Type} (g : T35) (ds : List D) (K : List D→Ω α) : Ω α := match ds with
  | [.ro .u64 l0, .ro .u64 l1] => (g l0 l1).bind fun r => K (sg.enc r)
  | _ => none
theorem call_ok {α : Type} {n : Nat} : COK Tryd.prog HW 7 (call (α := α) (f n)) := fun _ _ _ h => by
  unfold call at h; split at h
  · exact cok h fun _ => ok
  · cases h
end gather_Dot
/-! ### abacustop_CoreRoots: function 3 -/
namespace abacustop_CoreRoots
noncomputable def b0 (c5 : T1) (c6 : T26) (c7 : T35) (c8 c9 : T1) (k255 : Int→Int→Ω (Bool)) (a0 : Int) : Ω (Bool) := ((c5 4621256167635550208).bind fun t1 => (if ¬ t1 = 4613937818241073152 then some false else ((c6 a0).bind fun t2 => (if (!t2) = true then some true else (if (a0 / 9223372036854775808) = 1 then some true else ((c5 a0).bind fun t3 => ((c6 t3).bind fun t4 => (if (!t4) = true then some false else ((c8 t3).bind fun t5 => ((c8 t3).bind fun t6 => ((c8 t3).bind fun t7 => ((c8 t3).bind fun t8 => ((c7 [t3, t5, t3, t6, a0] [t3, t7, t8, t3, 13839561654909534208]).bind fun t9 => ((c9 t3).bind fun t10 => ((c9 t3).bind fun t11 => ((c9 t3).bind fun t12 => ((c9 t3).bind fun t13 => ((c7 [t3, t10, t3, t11, a0] [t3, t12, t13, t3, 13839561654909534208]).bind fun t14 => k255 t9.1 t14.1))))))))))))))))))
noncomputable def b255 (c5 : T1) (c6 : T26) (c7 : T35) (c8 c9 : T1) (x0 x1 : Int) : Ω (Bool) := (if (x0 / 9223372036854775808) = 1 then some (decide ((x1 / 9223372036854775808) = 0)) else (if x0 = 0 then some (decide ((x1 / 9223372036854775808) = 0)) else some false))
noncomputable def l255 (n : Nat) (x0 x1 : Int) : Ω (Bool) := b255 (soft_Sqrt.f n) abacustop_middle.f (gather_Dot.f n) ieee_Down.f ieee_Up.f x0 x1
noncomputable def f (n : Nat) (a0 : Int) : Ω (Bool) := b0 (soft_Sqrt.f n) abacustop_middle.f (gather_Dot.f n) ieee_Down.f ieee_Up.f (l255 n) a0
noncomputable def sg : Sig (Bool) := s1 (sBool)
noncomputable def code : Code := (Tryd.f3.body).getD .skip
noncomputable def cfg (c5 : T1) (c6 : T26) (c7 : T35) (c8 c9 : T1) : Cfg (Bool) := { T := tys, call := orCall 5 (soft_Sqrt.call c5) (orCall 6 (abacustop_middle.call c6) (orCall 7 (gather_Dot.call c7) (orCall 8 (ieee_Down.call c8) (orCall 9 (ieee_Up.call c9) (noCall))))), lay := lays }
noncomputable def cuts : List (Nat × List (Nat × Want)) := [(255, [(4, .keep), (6, .keep)])]
noncomputable def s255 (x0 x1 : Int) : ASt := ⟨[(4, .int .u64 x0), (6, .int .u64 x1)], []⟩
noncomputable def A (c5 : T1) (c6 : T26) (c7 : T35) (c8 c9 : T1) (n : Nat) (J : Jt (Bool)) (q : Nat) (ms : List Nat) : ASt→Ω (Bool) := acont (cfg c5 c6 c7 c8 c9) J cuts n q code 1 ms (aend (cfg c5 c6 c7 c8 c9) Tryd.f3.results.toList [false] sg.out)
theorem e0 {c5 c6 c7 c8 c9 n J a0} : afun (cfg c5 c6 c7 c8 c9) J cuts n code Tryd.f3.results.toList [false] [.int .u64 a0] sg.out = b0 c5 c6 c7 c8 c9 (fun y0 y1 => J 255 (A c5 c6 c7 c8 c9 n J 255 []) (s255 y0 y1)) a0 := by kernel_rfl
theorem e255 {c5 c6 c7 c8 c9 n J x0 x1} : A c5 c6 c7 c8 c9 n J 255 [] (s255 x0 x1) = b255 c5 c6 c7 c8 c9 x0 x1 := by kernel_rfl
noncomputable abbrev I (n : Nat) := A (soft_Sqrt.f n) abacustop_middle.f (gather_Dot.f n) ieee_Down.f ieee_Up.f n idJ
theorem q255 (n x0 x1) : I n 255 [] (s255 x0 x1) = l255 n x0 x1 := e255
theorem ok {n  a0 r} (h : f n a0 = some r) : CallD Tryd.prog HW 3 [.int .u64 a0] (sg.enc r) :=
  fun_some hwS Tryd.func3 (by kernel_rfl) (body := code) (by kernel_rfl) tys_ok (c := cfg (soft_Sqrt.f n) abacustop_middle.f (gather_Dot.f n) ieee_Down.f ieee_Up.f) ⟨(orCall_ok (soft_Sqrt.call_ok (n := n)) (orCall_ok abacustop_middle.call_ok (orCall_ok (gather_Dot.call_ok (n := n)) (orCall_ok ieee_Down.call_ok (orCall_ok ieee_Up.call_ok noCall_ok))))), noQ_ok'⟩ ⟨noW_ok, noP_ok'⟩ (by kernel_rfl) (by kernel_rfl) (Nat.le_of_ble_eq_true (by kernel_rfl)) (Eq.trans ((e0 (n := n)).trans (Eq.trans (cf1 (congrArg (b0 _ _ _ _ _) (fu2 (q255 n))) _) rfl)) h)
theorem walk {n : Nat} {a0 : Int} {r : Bool} (h : f n a0 = some r) {w : World} (hw : HW w) : Calls Tryd.prog 3 (([.int .u64 a0] : List D).map D.val).toArray w fun e w' => e = .returned (packV (sg.enc r)) ∧ Below w.heap.size w w' :=
  walk_scal (H := HW) rfl rfl (fun_calls hwS Tryd.func3 (by kernel_rfl) (body := code) (by kernel_rfl) tys_ok (c := cfg (soft_Sqrt.f n) abacustop_middle.f (gather_Dot.f n) ieee_Down.f ieee_Up.f) ⟨(orCall_ok (soft_Sqrt.call_ok (n := n)) (orCall_ok abacustop_middle.call_ok (orCall_ok (gather_Dot.call_ok (n := n)) (orCall_ok ieee_Down.call_ok (orCall_ok ieee_Up.call_ok noCall_ok))))), noQ_ok'⟩ ⟨noW_ok, noP_ok'⟩ (by kernel_rfl) (by kernel_rfl) (Nat.le_of_ble_eq_true (by kernel_rfl)) (Eq.trans ((e0 (n := n)).trans (Eq.trans (cf1 (congrArg (b0 _ _ _ _ _) (fu2 (q255 n))) _) rfl)) h)) hw
noncomputable def call {α : Type} (g : T26) (ds : List D) (K : List D→Ω α) : Ω α := match ds with
  | [.int .u64 a0] => (g a0).bind fun r => K (sg.enc r)
  | _ => none
theorem call_ok {α : Type} {n : Nat} : COK Tryd.prog HW 3 (call (α := α) (f n)) := fun _ _ _ h => by
  unfold call at h; split at h
  · exact cok h fun _ => ok
  · cases h
end abacustop_CoreRoots
end Go.Proofs.YtcacmhcekoeblaaDoor.F
