/- What the functions compute, and that calls of them answer so (printed by gen.py). Conditions: HW, a table as it was laid. -/
import Derived.Test.YtobocamcoaeliaaDoorF0
namespace Go.Proofs.YtobocamcoaeliaaDoor.F
open Go.RowKit Go.Proofs.YtobocamcoaeliaaDoorA
set_option linter.unusedVariables false
set_option maxRecDepth 100000
/-! ### nat_MulAdd: function 94 -/
namespace nat_MulAdd
noncomputable def b0 (c50 : Λ→Ω (Bool)) (c51 : Λ→Ω (Int)) (c52 : Int→Int→Ω (Int × Int)) (c53 : Int→Int→Int→Ω (Int × Int)) (c54 : Λ→Ω (Λ × Int)) (k1013 : Λ→Int→Int→Int→Int→Λ→Ω (Λ × Int)) (l0 : Λ) (a1 a2 : Int) : Ω (Λ × Int) := ((c50 l0).bind fun t1 => (if t1 = true then some (([] : Λ), 2) else ((c51 l0).bind fun t2 => (if 0 ≤ t2 then (if t2 ≤ (ln l0) then ((some (l0.take t2.toNat) : Ω (Λ)).bind fun y3 => (if 0 ≤ (wrap64 ((ln y3) + 1)) then (if (wrap64 ((ln y3) + 1)).toNat ≤ 35184372088832 then k1013 y3 a1 a2 (ln y3) 0 (List.replicate (wrap64 ((ln y3) + 1)).toNat (0 : Int)) else none) else none)) else none) else none))))
noncomputable def b127 (c50 : Λ→Ω (Bool)) (c51 : Λ→Ω (Int)) (c52 : Int→Int→Ω (Int × Int)) (c53 : Int→Int→Int→Ω (Int × Int)) (c54 : Λ→Ω (Λ × Int)) (x0 : Λ) (x1 : Int) (x2 : Λ) : Ω (Λ × Int) := (if 0 ≤ (ln x0) then (if (ln x0) < (ln x2) then ((c54 (x2.set ((ln x0) : Int).toNat x1)).bind fun t1 => some (t1.1, t1.2)) else none) else none)
noncomputable def b1013 (c50 : Λ→Ω (Bool)) (c51 : Λ→Ω (Int)) (c52 : Int→Int→Ω (Int × Int)) (c53 : Int→Int→Int→Ω (Int × Int)) (c54 : Λ→Ω (Λ × Int)) (k127 : Λ→Int→Λ→Ω (Λ × Int)) (k1013 : Λ→Int→Int→Int→Int→Λ→Ω (Λ × Int)) (x0 : Λ) (x1 x2 x3 x4 : Int) (x5 : Λ) : Ω (Λ × Int) := (if x4 < x3 then (if 0 ≤ x4 then (if x4 < (ln x0) then ((c52 (rd x0 x4) x1).bind fun t1 => ((c53 t1.2 x2 0).bind fun t2 => (if 0 ≤ x4 then (if x4 < (ln x5) then k1013 x0 x1 (IntKind.u64.wrap (t1.1 + t2.2)) x3 (wrap64 (x4 + 1)) (x5.set (x4 : Int).toNat t2.1) else none) else none))) else none) else none) else k127 x0 x2 x5)
noncomputable def l127 (n : Nat) (x0 : Λ) (x1 : Int) (x2 : Λ) : Ω (Λ × Int) := b127 (nat_big.f n) (nat_size.f n) bits_Mul64.f bits_Add64.f (nat_cut.f n) x0 x1 x2
noncomputable def l1013 (n : Nat) : Nat→Λ→Int→Int→Int→Int→Λ→Ω (Λ × Int)
  | 0, _, _, _, _, _, _ => none
  | m + 1, x0, x1, x2, x3, x4, x5 => b1013 (nat_big.f n) (nat_size.f n) bits_Mul64.f bits_Add64.f (nat_cut.f n) (l127 n) (l1013 n m) x0 x1 x2 x3 x4 x5
noncomputable def f (n : Nat) (l0 : Λ) (a1 a2 : Int) : Ω (Λ × Int) := b0 (nat_big.f n) (nat_size.f n) bits_Mul64.f bits_Add64.f (nat_cut.f n) (l1013 n n) l0 a1 a2
noncomputable def sg : Sig (Λ × Int) := s2 (sRow .u64) (s1 (sInt .i64))
noncomputable def code : Code := (Tryd.f94.body).getD .skip
noncomputable def cfg (c50 : Λ→Ω (Bool)) (c51 : Λ→Ω (Int)) (c52 : Int→Int→Ω (Int × Int)) (c53 : Int→Int→Int→Ω (Int × Int)) (c54 : Λ→Ω (Λ × Int)) : Cfg (Λ × Int) := { T := tys, call := orCall 50 (nat_big.call c50) (orCall 51 (nat_size.call c51) (orCall 52 (bits_Mul64.call c52) (orCall 53 (bits_Add64.call c53) (orCall 54 (nat_cut.call c54) (noCall))))) }
noncomputable def cuts : List (Nat × List (Nat × Want)) := [(127, [(0, .keep), (8, .keep), (9, .keep)]), (1013, [(0, .keep), (1, .keep), (8, .keep), (9, .keep), (26, .keep), (27, .keep), (28, .keep)])]
noncomputable def s127 (x0 : Λ) (x1 : Int) (x2 : Λ) : ASt := ⟨[(0, .ro .u64 x0), (8, .own 0), (9, .int .u64 x1)], [.ints 22 .u64 x2]⟩
noncomputable def s1013 (x0 : Λ) (x1 x2 x3 x4 : Int) (x5 : Λ) : ASt := ⟨[(0, .ro .u64 x0), (1, .int .u64 x1), (8, .own 0), (9, .int .u64 x2), (26, .ro .u64 x0), (27, .int .i64 x3), (28, .int .i64 x4)], [.ints 22 .u64 x5]⟩
noncomputable def A (c50 : Λ→Ω (Bool)) (c51 : Λ→Ω (Int)) (c52 : Int→Int→Ω (Int × Int)) (c53 : Int→Int→Int→Ω (Int × Int)) (c54 : Λ→Ω (Λ × Int)) (n : Nat) (J : Jt (Λ × Int)) (q : Nat) (ms : List Nat) : ASt→Ω (Λ × Int) := acont (cfg c50 c51 c52 c53 c54) J cuts n q code 1 ms (aend (cfg c50 c51 c52 c53 c54) Tryd.f94.results.toList [false, false] sg.out)
theorem e0 (c50 : Λ→Ω (Bool)) (c51 : Λ→Ω (Int)) (c52 : Int→Int→Ω (Int × Int)) (c53 : Int→Int→Int→Ω (Int × Int)) (c54 : Λ→Ω (Λ × Int)) (n : Nat) (J : Jt (Λ × Int)) (l0 : Λ) (a1 a2 : Int) : afun (cfg c50 c51 c52 c53 c54) J cuts n code Tryd.f94.results.toList [false, false] [.ro .u64 l0, .int .u64 a1, .int .u64 a2] sg.out = b0 c50 c51 c52 c53 c54 (fun y0 y1 y2 y3 y4 y5 => J 1013 (A c50 c51 c52 c53 c54 n J 1013 [n]) (s1013 y0 y1 y2 y3 y4 y5)) l0 a1 a2 := by kernel_rfl
theorem e127 (c50 : Λ→Ω (Bool)) (c51 : Λ→Ω (Int)) (c52 : Int→Int→Ω (Int × Int)) (c53 : Int→Int→Int→Ω (Int × Int)) (c54 : Λ→Ω (Λ × Int)) (n : Nat) (J : Jt (Λ × Int)) (x0 : Λ) (x1 : Int) (x2 : Λ) : A c50 c51 c52 c53 c54 n J 127 [] (s127 x0 x1 x2) = b127 c50 c51 c52 c53 c54 x0 x1 x2 := by kernel_rfl
theorem e1013 (c50 : Λ→Ω (Bool)) (c51 : Λ→Ω (Int)) (c52 : Int→Int→Ω (Int × Int)) (c53 : Int→Int→Int→Ω (Int × Int)) (c54 : Λ→Ω (Λ × Int)) (n : Nat) (J : Jt (Λ × Int)) (m : Nat) (x0 : Λ) (x1 x2 x3 x4 : Int) (x5 : Λ) : A c50 c51 c52 c53 c54 n J 1013 [m + 1] (s1013 x0 x1 x2 x3 x4 x5) = b1013 c50 c51 c52 c53 c54 (fun y0 y1 y2 => J 127 (A c50 c51 c52 c53 c54 n J 127 []) (s127 y0 y1 y2)) (fun y0 y1 y2 y3 y4 y5 => J 1013 (A c50 c51 c52 c53 c54 n J 1013 [m]) (s1013 y0 y1 y2 y3 y4 y5)) x0 x1 x2 x3 x4 x5 := by kernel_rfl
theorem q127 (n : Nat) (x0 : Λ) (x1 : Int) (x2 : Λ) : A (nat_big.f n) (nat_size.f n) bits_Mul64.f bits_Add64.f (nat_cut.f n) n idJ 127 [] (s127 x0 x1 x2) = l127 n x0 x1 x2 := (e127 (nat_big.f n) (nat_size.f n) bits_Mul64.f bits_Add64.f (nat_cut.f n) n idJ x0 x1 x2).trans (rfl)
theorem q1013 (n m : Nat) : ∀ (x0 : Λ) (x1 x2 x3 x4 : Int) (x5 : Λ), A (nat_big.f n) (nat_size.f n) bits_Mul64.f bits_Add64.f (nat_cut.f n) n idJ 1013 [m] (s1013 x0 x1 x2 x3 x4 x5) = l1013 n m x0 x1 x2 x3 x4 x5 := by
  induction m with
  | zero => intros; rfl
  | succ m ih =>
    intro x0 x1 x2 x3 x4 x5
    refine (e1013 (nat_big.f n) (nat_size.f n) bits_Mul64.f bits_Add64.f (nat_cut.f n) n idJ m x0 x1 x2 x3 x4 x5).trans ?_
    exact congrFun (congrFun (congrFun (congrFun (congrFun (congrFun (congr (congrArg (b1013 (nat_big.f n) (nat_size.f n) bits_Mul64.f bits_Add64.f (nat_cut.f n)) (funext fun y0 => (funext fun y1 => (funext fun y2 => q127 n y0 y1 y2)))) (funext fun y0 => (funext fun y1 => (funext fun y2 => (funext fun y3 => (funext fun y4 => (funext fun y5 => ih y0 y1 y2 y3 y4 y5))))))) x0) x1) x2) x3) x4) x5
theorem eq (n : Nat) (l0 : Λ) (a1 a2 : Int) : afun (cfg (nat_big.f n) (nat_size.f n) bits_Mul64.f bits_Add64.f (nat_cut.f n)) idJ cuts n code Tryd.f94.results.toList [false, false] [.ro .u64 l0, .int .u64 a1, .int .u64 a2] sg.out = f n l0 a1 a2 := (e0 (nat_big.f n) (nat_size.f n) bits_Mul64.f bits_Add64.f (nat_cut.f n) n idJ l0 a1 a2).trans (congrFun (congrFun (congrFun (congrArg (b0 (nat_big.f n) (nat_size.f n) bits_Mul64.f bits_Add64.f (nat_cut.f n)) (funext fun y0 => (funext fun y1 => (funext fun y2 => (funext fun y3 => (funext fun y4 => (funext fun y5 => q1013 n n y0 y1 y2 y3 y4 y5))))))) l0) a1) a2)
theorem ok {n : Nat} {l0 : Λ} {a1 : Int} {a2 : Int} {r : Λ × Int} (h : f n l0 a1 a2 = some r) : CallD Tryd.prog HW 94 [.ro .u64 l0, .int .u64 a1, .int .u64 a2] (sg.enc r) :=
  fun_some hwS Tryd.func94 (by kernel_rfl) (body := code) (by kernel_rfl) tys_ok (c := cfg (nat_big.f n) (nat_size.f n) bits_Mul64.f bits_Add64.f (nat_cut.f n)) (orCall_ok (nat_big.call_ok (n := n)) (orCall_ok (nat_size.call_ok (n := n)) (orCall_ok (bits_Mul64.call_ok (n := n)) (orCall_ok (bits_Add64.call_ok (n := n)) (orCall_ok (nat_cut.call_ok (n := n)) noCall_ok))))) noW_ok (by kernel_rfl) (by kernel_rfl) (Nat.le_of_ble_eq_true (by kernel_rfl)) ((eq n l0 a1 a2).trans h)
noncomputable def call {α : Type} (g : Λ→Int→Int→Ω (Λ × Int)) (ds : List D) (K : List D→Ω α) : Ω α := match ds with
  | [.ro .u64 l0, .int .u64 a1, .int .u64 a2] => (g l0 a1 a2).bind fun r => K (sg.enc r)
  | _ => none
theorem call_ok {α : Type} {n : Nat} (ds : List D) (K : List D→Ω α) (r : α) (h : call (f n) ds K = some r) : ∃ rs, K rs = some r ∧ CallD Tryd.prog HW 94 ds rs := by
  unfold call at h
  split at h
  · obtain ⟨x, hx, hk⟩ := Option.bind_eq_some_iff.1 h
    exact ⟨_, hk, ok (n := n) hx⟩
  · cases h
end nat_MulAdd
/-! ### ieee_RoundRatio: function 70 -/
namespace ieee_RoundRatio
noncomputable def b0 (c21 : Λ→Λ→Ω (Int)) (c59 : Λ→Int→Ω (Λ × Int)) (c61 : Λ→Λ→Ω (Λ × Int)) (c62 : Λ→Λ→Ω (Λ × Int)) (c68 : Bool→Λ→Int→Bool→Ω (Int × Int)) (c84 : Λ→Ω (Int)) (c90 : Int→Ω (Int)) (c93 : Λ→Λ→Ω (Λ × Λ × Int)) (c94 : Λ→Int→Int→Ω (Λ × Int)) (k127 : Bool→Λ→Λ→Int→Ω (Int × Int)) (a0 : Bool) (l1 l2 : Λ) (a3 : Int) : Ω (Int × Int) := ((c59 l1 0).bind fun t1 => ((c59 l2 0).bind fun t2 => (if ¬ t1.2 = 0 then some (0, 2) else (if ¬ t2.2 = 0 then some (0, 2) else (if (ln t2.1) = 0 then some (0, 4) else (if (ln t1.1) = 0 then ((c68 a0 ([] : Λ) 0 false).bind fun t3 => some (t3.1, t3.2)) else ((c90 a3).bind fun t4 => ((c84 t2.1).bind fun t5 => ((c84 t1.1).bind fun t6 => (if (wrap64 (t5 - t6)) > 0 then ((c59 t1.1 (wrap64 (t5 - t6))).bind fun t7 => k127 a0 t7.1 t2.1 (wrap64 (t4 - (wrap64 (t5 - t6))))) else k127 a0 t1.1 t2.1 t4))))))))))
noncomputable def b127 (c21 : Λ→Λ→Ω (Int)) (c59 : Λ→Int→Ω (Λ × Int)) (c61 : Λ→Λ→Ω (Λ × Int)) (c62 : Λ→Λ→Ω (Λ × Int)) (c68 : Bool→Λ→Int→Bool→Ω (Int × Int)) (c84 : Λ→Ω (Int)) (c90 : Int→Ω (Int)) (c93 : Λ→Λ→Ω (Λ × Λ × Int)) (c94 : Λ→Int→Int→Ω (Λ × Int)) (k4089 : Bool→Λ→Int→Λ→Λ→Ω (Int × Int)) (x0 : Bool) (x1 x2 : Λ) (x3 : Int) : Ω (Int × Int) := ((c93 x1 x2).bind fun t1 => (if ¬ t1.2.2 = 0 then some (0, t1.2.2) else k4089 x0 x2 x3 t1.1 t1.2.1))
noncomputable def b1023 (c21 : Λ→Λ→Ω (Int)) (c59 : Λ→Int→Ω (Λ × Int)) (c61 : Λ→Λ→Ω (Λ × Int)) (c62 : Λ→Λ→Ω (Λ × Int)) (c68 : Bool→Λ→Int→Bool→Ω (Int × Int)) (c84 : Λ→Ω (Int)) (c90 : Int→Ω (Int)) (c93 : Λ→Λ→Ω (Λ × Λ × Int)) (c94 : Λ→Int→Int→Ω (Λ × Int)) (x0 : Bool) (x1 : Int) (x2 x3 : Λ) : Ω (Int × Int) := ((c68 x0 x2 x1 (decide ((ln x3) > 0))).bind fun t1 => some (t1.1, t1.2))
noncomputable def b4089 (c21 : Λ→Λ→Ω (Int)) (c59 : Λ→Int→Ω (Λ × Int)) (c61 : Λ→Λ→Ω (Λ × Int)) (c62 : Λ→Λ→Ω (Λ × Int)) (c68 : Bool→Λ→Int→Bool→Ω (Int × Int)) (c84 : Λ→Ω (Int)) (c90 : Int→Ω (Int)) (c93 : Λ→Λ→Ω (Λ × Λ × Int)) (c94 : Λ→Int→Int→Ω (Λ × Int)) (k1023 : Bool→Int→Λ→Λ→Ω (Int × Int)) (k130839 : Bool→Λ→Int→Λ→Λ→Int→Ω (Int × Int)) (x0 : Bool) (x1 : Λ) (x2 : Int) (x3 x4 : Λ) : Ω (Int × Int) := ((c84 x3).bind fun t1 => (if t1 < 66 then ((c62 x1 x4).bind fun t2 => ((c21 x4 t2.1).bind fun t3 => (if t3 ≥ 0 then ((c62 x4 t2.1).bind fun t4 => k130839 x0 x1 x2 x3 t4.1 1) else ((c61 x4 x4).bind fun t5 => k130839 x0 x1 x2 x3 t5.1 0)))) else k1023 x0 x2 x3 x4))
noncomputable def b130839 (c21 : Λ→Λ→Ω (Int)) (c59 : Λ→Int→Ω (Λ × Int)) (c61 : Λ→Λ→Ω (Λ × Int)) (c62 : Λ→Λ→Ω (Λ × Int)) (c68 : Bool→Λ→Int→Bool→Ω (Int × Int)) (c84 : Λ→Ω (Int)) (c90 : Int→Ω (Int)) (c93 : Λ→Λ→Ω (Λ × Λ × Int)) (c94 : Λ→Int→Int→Ω (Λ × Int)) (k4089 : Bool→Λ→Int→Λ→Λ→Ω (Int × Int)) (x0 : Bool) (x1 : Λ) (x2 : Int) (x3 x4 : Λ) (x5 : Int) : Ω (Int × Int) := ((c94 x3 2 x5).bind fun t1 => k4089 x0 x1 (wrap64 (x2 - 1)) t1.1 x4)
noncomputable def l1023 (n : Nat) (x0 : Bool) (x1 : Int) (x2 x3 : Λ) : Ω (Int × Int) := b1023 (nat_Cmp.f n) (nat_Shl.f n) (nat_Add.f n) (nat_Sub.f n) (ieee_Round.f n) (nat_BitLen.f n) ieee_near.f (quot_DivMod.f n) (nat_MulAdd.f n) x0 x1 x2 x3
noncomputable def l130839 (n : Nat) (k4089 : Bool→Λ→Int→Λ→Λ→Ω (Int × Int)) (x0 : Bool) (x1 : Λ) (x2 : Int) (x3 x4 : Λ) (x5 : Int) : Ω (Int × Int) := b130839 (nat_Cmp.f n) (nat_Shl.f n) (nat_Add.f n) (nat_Sub.f n) (ieee_Round.f n) (nat_BitLen.f n) ieee_near.f (quot_DivMod.f n) (nat_MulAdd.f n) k4089 x0 x1 x2 x3 x4 x5
noncomputable def l4089 (n : Nat) : Nat→Bool→Λ→Int→Λ→Λ→Ω (Int × Int)
  | 0, _, _, _, _, _ => none
  | m + 1, x0, x1, x2, x3, x4 => b4089 (nat_Cmp.f n) (nat_Shl.f n) (nat_Add.f n) (nat_Sub.f n) (ieee_Round.f n) (nat_BitLen.f n) ieee_near.f (quot_DivMod.f n) (nat_MulAdd.f n) (l1023 n) (l130839 n (l4089 n m)) x0 x1 x2 x3 x4
noncomputable def l127 (n : Nat) (x0 : Bool) (x1 x2 : Λ) (x3 : Int) : Ω (Int × Int) := b127 (nat_Cmp.f n) (nat_Shl.f n) (nat_Add.f n) (nat_Sub.f n) (ieee_Round.f n) (nat_BitLen.f n) ieee_near.f (quot_DivMod.f n) (nat_MulAdd.f n) (l4089 n n) x0 x1 x2 x3
noncomputable def f (n : Nat) (a0 : Bool) (l1 l2 : Λ) (a3 : Int) : Ω (Int × Int) := b0 (nat_Cmp.f n) (nat_Shl.f n) (nat_Add.f n) (nat_Sub.f n) (ieee_Round.f n) (nat_BitLen.f n) ieee_near.f (quot_DivMod.f n) (nat_MulAdd.f n) (l127 n) a0 l1 l2 a3
noncomputable def sg : Sig (Int × Int) := s2 (sInt .u64) (s1 (sInt .i64))
noncomputable def code : Code := (Tryd.f70.body).getD .skip
noncomputable def cfg (c21 : Λ→Λ→Ω (Int)) (c59 : Λ→Int→Ω (Λ × Int)) (c61 : Λ→Λ→Ω (Λ × Int)) (c62 : Λ→Λ→Ω (Λ × Int)) (c68 : Bool→Λ→Int→Bool→Ω (Int × Int)) (c84 : Λ→Ω (Int)) (c90 : Int→Ω (Int)) (c93 : Λ→Λ→Ω (Λ × Λ × Int)) (c94 : Λ→Int→Int→Ω (Λ × Int)) : Cfg (Int × Int) := { T := tys, call := orCall 21 (nat_Cmp.call c21) (orCall 59 (nat_Shl.call c59) (orCall 61 (nat_Add.call c61) (orCall 62 (nat_Sub.call c62) (orCall 68 (ieee_Round.call c68) (orCall 84 (nat_BitLen.call c84) (orCall 90 (ieee_near.call c90) (orCall 93 (quot_DivMod.call c93) (orCall 94 (nat_MulAdd.call c94) (noCall))))))))) }
noncomputable def cuts : List (Nat × List (Nat × Want)) := [(127, [(0, .keep), (1, .keep), (2, .keep), (3, .keep)]), (1023, [(0, .keep), (3, .keep), (13, .keep), (14, .keep)]), (4089, [(0, .keep), (2, .keep), (3, .keep), (13, .keep), (14, .keep)]), (130839, [(0, .keep), (2, .keep), (3, .keep), (13, .keep), (14, .keep), (17, .keep)])]
noncomputable def s127 (x0 : Bool) (x1 x2 : Λ) (x3 : Int) : ASt := ⟨[(0, .bool x0), (1, .ro .u64 x1), (2, .ro .u64 x2), (3, .int .i64 x3)], []⟩
noncomputable def s1023 (x0 : Bool) (x1 : Int) (x2 x3 : Λ) : ASt := ⟨[(0, .bool x0), (3, .int .i64 x1), (13, .ro .u64 x2), (14, .ro .u64 x3)], []⟩
noncomputable def s4089 (x0 : Bool) (x1 : Λ) (x2 : Int) (x3 x4 : Λ) : ASt := ⟨[(0, .bool x0), (2, .ro .u64 x1), (3, .int .i64 x2), (13, .ro .u64 x3), (14, .ro .u64 x4)], []⟩
noncomputable def s130839 (x0 : Bool) (x1 : Λ) (x2 : Int) (x3 x4 : Λ) (x5 : Int) : ASt := ⟨[(0, .bool x0), (2, .ro .u64 x1), (3, .int .i64 x2), (13, .ro .u64 x3), (14, .ro .u64 x4), (17, .int .u64 x5)], []⟩
noncomputable def A (c21 : Λ→Λ→Ω (Int)) (c59 : Λ→Int→Ω (Λ × Int)) (c61 : Λ→Λ→Ω (Λ × Int)) (c62 : Λ→Λ→Ω (Λ × Int)) (c68 : Bool→Λ→Int→Bool→Ω (Int × Int)) (c84 : Λ→Ω (Int)) (c90 : Int→Ω (Int)) (c93 : Λ→Λ→Ω (Λ × Λ × Int)) (c94 : Λ→Int→Int→Ω (Λ × Int)) (n : Nat) (J : Jt (Int × Int)) (q : Nat) (ms : List Nat) : ASt→Ω (Int × Int) := acont (cfg c21 c59 c61 c62 c68 c84 c90 c93 c94) J cuts n q code 1 ms (aend (cfg c21 c59 c61 c62 c68 c84 c90 c93 c94) Tryd.f70.results.toList [false, false] sg.out)
theorem e0 (c21 : Λ→Λ→Ω (Int)) (c59 : Λ→Int→Ω (Λ × Int)) (c61 : Λ→Λ→Ω (Λ × Int)) (c62 : Λ→Λ→Ω (Λ × Int)) (c68 : Bool→Λ→Int→Bool→Ω (Int × Int)) (c84 : Λ→Ω (Int)) (c90 : Int→Ω (Int)) (c93 : Λ→Λ→Ω (Λ × Λ × Int)) (c94 : Λ→Int→Int→Ω (Λ × Int)) (n : Nat) (J : Jt (Int × Int)) (a0 : Bool) (l1 l2 : Λ) (a3 : Int) : afun (cfg c21 c59 c61 c62 c68 c84 c90 c93 c94) J cuts n code Tryd.f70.results.toList [false, false] [.bool a0, .ro .u64 l1, .ro .u64 l2, .int .i64 a3] sg.out = b0 c21 c59 c61 c62 c68 c84 c90 c93 c94 (fun y0 y1 y2 y3 => J 127 (A c21 c59 c61 c62 c68 c84 c90 c93 c94 n J 127 []) (s127 y0 y1 y2 y3)) a0 l1 l2 a3 := by kernel_rfl
theorem e127 (c21 : Λ→Λ→Ω (Int)) (c59 : Λ→Int→Ω (Λ × Int)) (c61 : Λ→Λ→Ω (Λ × Int)) (c62 : Λ→Λ→Ω (Λ × Int)) (c68 : Bool→Λ→Int→Bool→Ω (Int × Int)) (c84 : Λ→Ω (Int)) (c90 : Int→Ω (Int)) (c93 : Λ→Λ→Ω (Λ × Λ × Int)) (c94 : Λ→Int→Int→Ω (Λ × Int)) (n : Nat) (J : Jt (Int × Int)) (x0 : Bool) (x1 x2 : Λ) (x3 : Int) : A c21 c59 c61 c62 c68 c84 c90 c93 c94 n J 127 [] (s127 x0 x1 x2 x3) = b127 c21 c59 c61 c62 c68 c84 c90 c93 c94 (fun y0 y1 y2 y3 y4 => J 4089 (A c21 c59 c61 c62 c68 c84 c90 c93 c94 n J 4089 [n]) (s4089 y0 y1 y2 y3 y4)) x0 x1 x2 x3 := by kernel_rfl
theorem e1023 (c21 : Λ→Λ→Ω (Int)) (c59 : Λ→Int→Ω (Λ × Int)) (c61 : Λ→Λ→Ω (Λ × Int)) (c62 : Λ→Λ→Ω (Λ × Int)) (c68 : Bool→Λ→Int→Bool→Ω (Int × Int)) (c84 : Λ→Ω (Int)) (c90 : Int→Ω (Int)) (c93 : Λ→Λ→Ω (Λ × Λ × Int)) (c94 : Λ→Int→Int→Ω (Λ × Int)) (n : Nat) (J : Jt (Int × Int)) (x0 : Bool) (x1 : Int) (x2 x3 : Λ) : A c21 c59 c61 c62 c68 c84 c90 c93 c94 n J 1023 [] (s1023 x0 x1 x2 x3) = b1023 c21 c59 c61 c62 c68 c84 c90 c93 c94 x0 x1 x2 x3 := by kernel_rfl
theorem e4089 (c21 : Λ→Λ→Ω (Int)) (c59 : Λ→Int→Ω (Λ × Int)) (c61 : Λ→Λ→Ω (Λ × Int)) (c62 : Λ→Λ→Ω (Λ × Int)) (c68 : Bool→Λ→Int→Bool→Ω (Int × Int)) (c84 : Λ→Ω (Int)) (c90 : Int→Ω (Int)) (c93 : Λ→Λ→Ω (Λ × Λ × Int)) (c94 : Λ→Int→Int→Ω (Λ × Int)) (n : Nat) (J : Jt (Int × Int)) (m : Nat) (x0 : Bool) (x1 : Λ) (x2 : Int) (x3 x4 : Λ) : A c21 c59 c61 c62 c68 c84 c90 c93 c94 n J 4089 [m + 1] (s4089 x0 x1 x2 x3 x4) = b4089 c21 c59 c61 c62 c68 c84 c90 c93 c94 (fun y0 y1 y2 y3 => J 1023 (A c21 c59 c61 c62 c68 c84 c90 c93 c94 n J 1023 []) (s1023 y0 y1 y2 y3)) (fun y0 y1 y2 y3 y4 y5 => J 130839 (A c21 c59 c61 c62 c68 c84 c90 c93 c94 n J 130839 [m]) (s130839 y0 y1 y2 y3 y4 y5)) x0 x1 x2 x3 x4 := by kernel_rfl
theorem e130839 (c21 : Λ→Λ→Ω (Int)) (c59 : Λ→Int→Ω (Λ × Int)) (c61 : Λ→Λ→Ω (Λ × Int)) (c62 : Λ→Λ→Ω (Λ × Int)) (c68 : Bool→Λ→Int→Bool→Ω (Int × Int)) (c84 : Λ→Ω (Int)) (c90 : Int→Ω (Int)) (c93 : Λ→Λ→Ω (Λ × Λ × Int)) (c94 : Λ→Int→Int→Ω (Λ × Int)) (n : Nat) (J : Jt (Int × Int)) (m4089 : Nat) (x0 : Bool) (x1 : Λ) (x2 : Int) (x3 x4 : Λ) (x5 : Int) : A c21 c59 c61 c62 c68 c84 c90 c93 c94 n J 130839 [m4089] (s130839 x0 x1 x2 x3 x4 x5) = b130839 c21 c59 c61 c62 c68 c84 c90 c93 c94 (fun y0 y1 y2 y3 y4 => J 4089 (A c21 c59 c61 c62 c68 c84 c90 c93 c94 n J 4089 [m4089]) (s4089 y0 y1 y2 y3 y4)) x0 x1 x2 x3 x4 x5 := by kernel_rfl
theorem q1023 (n : Nat) (x0 : Bool) (x1 : Int) (x2 x3 : Λ) : A (nat_Cmp.f n) (nat_Shl.f n) (nat_Add.f n) (nat_Sub.f n) (ieee_Round.f n) (nat_BitLen.f n) ieee_near.f (quot_DivMod.f n) (nat_MulAdd.f n) n idJ 1023 [] (s1023 x0 x1 x2 x3) = l1023 n x0 x1 x2 x3 := (e1023 (nat_Cmp.f n) (nat_Shl.f n) (nat_Add.f n) (nat_Sub.f n) (ieee_Round.f n) (nat_BitLen.f n) ieee_near.f (quot_DivMod.f n) (nat_MulAdd.f n) n idJ x0 x1 x2 x3).trans (rfl)
theorem q130839 (n m4089 : Nat) (x0 : Bool) (x1 : Λ) (x2 : Int) (x3 x4 : Λ) (x5 : Int) : A (nat_Cmp.f n) (nat_Shl.f n) (nat_Add.f n) (nat_Sub.f n) (ieee_Round.f n) (nat_BitLen.f n) ieee_near.f (quot_DivMod.f n) (nat_MulAdd.f n) n idJ 130839 [m4089] (s130839 x0 x1 x2 x3 x4 x5) = l130839 n (fun y0 y1 y2 y3 y4 => A (nat_Cmp.f n) (nat_Shl.f n) (nat_Add.f n) (nat_Sub.f n) (ieee_Round.f n) (nat_BitLen.f n) ieee_near.f (quot_DivMod.f n) (nat_MulAdd.f n) n idJ 4089 [m4089] (s4089 y0 y1 y2 y3 y4)) x0 x1 x2 x3 x4 x5 := (e130839 (nat_Cmp.f n) (nat_Shl.f n) (nat_Add.f n) (nat_Sub.f n) (ieee_Round.f n) (nat_BitLen.f n) ieee_near.f (quot_DivMod.f n) (nat_MulAdd.f n) n idJ m4089 x0 x1 x2 x3 x4 x5).trans (rfl)
theorem q4089 (n m : Nat) : ∀ (x0 : Bool) (x1 : Λ) (x2 : Int) (x3 x4 : Λ), A (nat_Cmp.f n) (nat_Shl.f n) (nat_Add.f n) (nat_Sub.f n) (ieee_Round.f n) (nat_BitLen.f n) ieee_near.f (quot_DivMod.f n) (nat_MulAdd.f n) n idJ 4089 [m] (s4089 x0 x1 x2 x3 x4) = l4089 n m x0 x1 x2 x3 x4 := by
  induction m with
  | zero => intros; rfl
  | succ m ih =>
    intro x0 x1 x2 x3 x4
    refine (e4089 (nat_Cmp.f n) (nat_Shl.f n) (nat_Add.f n) (nat_Sub.f n) (ieee_Round.f n) (nat_BitLen.f n) ieee_near.f (quot_DivMod.f n) (nat_MulAdd.f n) n idJ m x0 x1 x2 x3 x4).trans ?_
    exact congrFun (congrFun (congrFun (congrFun (congrFun (congr (congrArg (b4089 (nat_Cmp.f n) (nat_Shl.f n) (nat_Add.f n) (nat_Sub.f n) (ieee_Round.f n) (nat_BitLen.f n) ieee_near.f (quot_DivMod.f n) (nat_MulAdd.f n)) (funext fun y0 => (funext fun y1 => (funext fun y2 => (funext fun y3 => q1023 n y0 y1 y2 y3))))) ((funext fun y0 => (funext fun y1 => (funext fun y2 => (funext fun y3 => (funext fun y4 => (funext fun y5 => q130839 n m y0 y1 y2 y3 y4 y5)))))).trans (by rw [show (fun y0 y1 y2 y3 y4 => A (nat_Cmp.f n) (nat_Shl.f n) (nat_Add.f n) (nat_Sub.f n) (ieee_Round.f n) (nat_BitLen.f n) ieee_near.f (quot_DivMod.f n) (nat_MulAdd.f n) n idJ 4089 [m] (s4089 y0 y1 y2 y3 y4)) = _ from (funext fun y0 => (funext fun y1 => (funext fun y2 => (funext fun y3 => (funext fun y4 => ih y0 y1 y2 y3 y4)))))]))) x0) x1) x2) x3) x4
theorem q127 (n : Nat) (x0 : Bool) (x1 x2 : Λ) (x3 : Int) : A (nat_Cmp.f n) (nat_Shl.f n) (nat_Add.f n) (nat_Sub.f n) (ieee_Round.f n) (nat_BitLen.f n) ieee_near.f (quot_DivMod.f n) (nat_MulAdd.f n) n idJ 127 [] (s127 x0 x1 x2 x3) = l127 n x0 x1 x2 x3 := (e127 (nat_Cmp.f n) (nat_Shl.f n) (nat_Add.f n) (nat_Sub.f n) (ieee_Round.f n) (nat_BitLen.f n) ieee_near.f (quot_DivMod.f n) (nat_MulAdd.f n) n idJ x0 x1 x2 x3).trans (congrFun (congrFun (congrFun (congrFun (congrArg (b127 (nat_Cmp.f n) (nat_Shl.f n) (nat_Add.f n) (nat_Sub.f n) (ieee_Round.f n) (nat_BitLen.f n) ieee_near.f (quot_DivMod.f n) (nat_MulAdd.f n)) (funext fun y0 => (funext fun y1 => (funext fun y2 => (funext fun y3 => (funext fun y4 => q4089 n n y0 y1 y2 y3 y4)))))) x0) x1) x2) x3)
theorem eq (n : Nat) (a0 : Bool) (l1 l2 : Λ) (a3 : Int) : afun (cfg (nat_Cmp.f n) (nat_Shl.f n) (nat_Add.f n) (nat_Sub.f n) (ieee_Round.f n) (nat_BitLen.f n) ieee_near.f (quot_DivMod.f n) (nat_MulAdd.f n)) idJ cuts n code Tryd.f70.results.toList [false, false] [.bool a0, .ro .u64 l1, .ro .u64 l2, .int .i64 a3] sg.out = f n a0 l1 l2 a3 := (e0 (nat_Cmp.f n) (nat_Shl.f n) (nat_Add.f n) (nat_Sub.f n) (ieee_Round.f n) (nat_BitLen.f n) ieee_near.f (quot_DivMod.f n) (nat_MulAdd.f n) n idJ a0 l1 l2 a3).trans (congrFun (congrFun (congrFun (congrFun (congrArg (b0 (nat_Cmp.f n) (nat_Shl.f n) (nat_Add.f n) (nat_Sub.f n) (ieee_Round.f n) (nat_BitLen.f n) ieee_near.f (quot_DivMod.f n) (nat_MulAdd.f n)) (funext fun y0 => (funext fun y1 => (funext fun y2 => (funext fun y3 => q127 n y0 y1 y2 y3))))) a0) l1) l2) a3)
theorem ok {n : Nat} {a0 : Bool} {l1 : Λ} {l2 : Λ} {a3 : Int} {r : Int × Int} (h : f n a0 l1 l2 a3 = some r) : CallD Tryd.prog HW 70 [.bool a0, .ro .u64 l1, .ro .u64 l2, .int .i64 a3] (sg.enc r) :=
  fun_some hwS Tryd.func70 (by kernel_rfl) (body := code) (by kernel_rfl) tys_ok (c := cfg (nat_Cmp.f n) (nat_Shl.f n) (nat_Add.f n) (nat_Sub.f n) (ieee_Round.f n) (nat_BitLen.f n) ieee_near.f (quot_DivMod.f n) (nat_MulAdd.f n)) (orCall_ok (nat_Cmp.call_ok (n := n)) (orCall_ok (nat_Shl.call_ok (n := n)) (orCall_ok (nat_Add.call_ok (n := n)) (orCall_ok (nat_Sub.call_ok (n := n)) (orCall_ok (ieee_Round.call_ok (n := n)) (orCall_ok (nat_BitLen.call_ok (n := n)) (orCall_ok (ieee_near.call_ok (n := n)) (orCall_ok (quot_DivMod.call_ok (n := n)) (orCall_ok (nat_MulAdd.call_ok (n := n)) noCall_ok))))))))) noW_ok (by kernel_rfl) (by kernel_rfl) (Nat.le_of_ble_eq_true (by kernel_rfl)) ((eq n a0 l1 l2 a3).trans h)
noncomputable def call {α : Type} (g : Bool→Λ→Λ→Int→Ω (Int × Int)) (ds : List D) (K : List D→Ω α) : Ω α := match ds with
  | [.bool a0, .ro .u64 l1, .ro .u64 l2, .int .i64 a3] => (g a0 l1 l2 a3).bind fun r => K (sg.enc r)
  | _ => none
theorem call_ok {α : Type} {n : Nat} (ds : List D) (K : List D→Ω α) (r : α) (h : call (f n) ds K = some r) : ∃ rs, K rs = some r ∧ CallD Tryd.prog HW 70 ds rs := by
  unfold call at h
  split at h
  · obtain ⟨x, hx, hk⟩ := Option.bind_eq_some_iff.1 h
    exact ⟨_, hk, ok (n := n) hx⟩
  · cases h
end ieee_RoundRatio
/-! ### remain_Power: function 37 -/
namespace remain_Power
noncomputable def b0 (c20 : Int→Ω (Bool × Int × Int × Int)) (c41 : Bool→Int→Ω (Int)) (c42 : Int→Ω (Int)) (c68 : Bool→Λ→Int→Bool→Ω (Int × Int)) (c69 : Λ→Int→Ω (Λ × Int)) (c70 : Bool→Λ→Λ→Int→Ω (Int × Int)) (k63 : Int→Bool→Bool→Int→Int→Int→Ω (Int × Int)) (a0 a1 : Int) : Ω (Int × Int) := (if a1 < (-1024) then some (0, 60) else (if a1 > 1024 then some (0, 60) else (if a1 = 0 then some (4607182418800017408, 0) else ((c20 a0).bind fun t1 => (if t1.1 = true then k63 a1 (decide (¬ (Int.tmod a1 2) = 0)) t1.1 t1.2.1 t1.2.2.1 t1.2.2.2 else k63 a1 false t1.1 t1.2.1 t1.2.2.1 t1.2.2.2)))))
noncomputable def b63 (c20 : Int→Ω (Bool × Int × Int × Int)) (c41 : Bool→Int→Ω (Int)) (c42 : Int→Ω (Int)) (c68 : Bool→Λ→Int→Bool→Ω (Int × Int)) (c69 : Λ→Int→Ω (Λ × Int)) (c70 : Bool→Λ→Λ→Int→Ω (Int × Int)) (x0 : Int) (x1 x2 : Bool) (x3 x4 x5 : Int) : Ω (Int × Int) := (if x3 = 4 then some (9221120237041090560, 0) else (if x3 = 3 then (if ((decide (x3 = 3)) == (decide (x0 > 0))) = true then ((c41 x1 9218868437227405312).bind fun t1 => some (t1, 0)) else ((c41 x1 0).bind fun t2 => some (t2, 0))) else (if x3 = 0 then (if ((decide (x3 = 3)) == (decide (x0 > 0))) = true then ((c41 x1 9218868437227405312).bind fun t3 => some (t3, 0)) else ((c41 x1 0).bind fun t4 => some (t4, 0))) else ((c42 x4).bind fun t5 => (if 0 ≤ t5 then (if x0 > 0 then ((c69 [shr .u64 x4 t5] x0).bind fun t6 => (if ¬ t6.2 = 0 then some (0, t6.2) else ((c68 x1 t6.1 (wrap64 ((wrap64 (x5 + t5)) * x0)) false).bind fun t7 => some (t7.1, t7.2)))) else ((c69 [shr .u64 x4 t5] (wrap64 (-x0))).bind fun t8 => (if ¬ t8.2 = 0 then some (0, t8.2) else ((c70 x1 [1] t8.1 (wrap64 ((wrap64 (x5 + t5)) * x0))).bind fun t9 => some (t9.1, t9.2))))) else none)))))
noncomputable def l63 (n : Nat) (x0 : Int) (x1 x2 : Bool) (x3 x4 x5 : Int) : Ω (Int × Int) := b63 ieee_Decode.f remain_signed.f bits_TrailingZeros64.f (ieee_Round.f n) (quot_Pow.f n) (ieee_RoundRatio.f n) x0 x1 x2 x3 x4 x5
noncomputable def f (n : Nat) (a0 a1 : Int) : Ω (Int × Int) := b0 ieee_Decode.f remain_signed.f bits_TrailingZeros64.f (ieee_Round.f n) (quot_Pow.f n) (ieee_RoundRatio.f n) (l63 n) a0 a1
noncomputable def sg : Sig (Int × Int) := s2 (sInt .u64) (s1 (sInt .i64))
noncomputable def code : Code := (Tryd.f37.body).getD .skip
noncomputable def cfg (c20 : Int→Ω (Bool × Int × Int × Int)) (c41 : Bool→Int→Ω (Int)) (c42 : Int→Ω (Int)) (c68 : Bool→Λ→Int→Bool→Ω (Int × Int)) (c69 : Λ→Int→Ω (Λ × Int)) (c70 : Bool→Λ→Λ→Int→Ω (Int × Int)) : Cfg (Int × Int) := { T := tys, call := orCall 20 (ieee_Decode.call c20) (orCall 41 (remain_signed.call c41) (orCall 42 (bits_TrailingZeros64.call c42) (orCall 68 (ieee_Round.call c68) (orCall 69 (quot_Pow.call c69) (orCall 70 (ieee_RoundRatio.call c70) (noCall)))))) }
noncomputable def cuts : List (Nat × List (Nat × Want)) := [(63, [(1, .keep), (6, .keep), (7, .keep)])]
noncomputable def s63 (x0 : Int) (x1 x2 : Bool) (x3 x4 x5 : Int) : ASt := ⟨[(1, .int .i64 x0), (6, .ptr 0 0), (7, .bool x1)], [.cells 46 [.bool x2, .int .i64 x3, .int .u64 x4, .int .i64 x5]]⟩
noncomputable def A (c20 : Int→Ω (Bool × Int × Int × Int)) (c41 : Bool→Int→Ω (Int)) (c42 : Int→Ω (Int)) (c68 : Bool→Λ→Int→Bool→Ω (Int × Int)) (c69 : Λ→Int→Ω (Λ × Int)) (c70 : Bool→Λ→Λ→Int→Ω (Int × Int)) (n : Nat) (J : Jt (Int × Int)) (q : Nat) (ms : List Nat) : ASt→Ω (Int × Int) := acont (cfg c20 c41 c42 c68 c69 c70) J cuts n q code 1 ms (aend (cfg c20 c41 c42 c68 c69 c70) Tryd.f37.results.toList [false, false] sg.out)
theorem e0 (c20 : Int→Ω (Bool × Int × Int × Int)) (c41 : Bool→Int→Ω (Int)) (c42 : Int→Ω (Int)) (c68 : Bool→Λ→Int→Bool→Ω (Int × Int)) (c69 : Λ→Int→Ω (Λ × Int)) (c70 : Bool→Λ→Λ→Int→Ω (Int × Int)) (n : Nat) (J : Jt (Int × Int)) (a0 a1 : Int) : afun (cfg c20 c41 c42 c68 c69 c70) J cuts n code Tryd.f37.results.toList [false, false] [.int .u64 a0, .int .i64 a1] sg.out = b0 c20 c41 c42 c68 c69 c70 (fun y0 y1 y2 y3 y4 y5 => J 63 (A c20 c41 c42 c68 c69 c70 n J 63 []) (s63 y0 y1 y2 y3 y4 y5)) a0 a1 := by kernel_rfl
theorem e63 (c20 : Int→Ω (Bool × Int × Int × Int)) (c41 : Bool→Int→Ω (Int)) (c42 : Int→Ω (Int)) (c68 : Bool→Λ→Int→Bool→Ω (Int × Int)) (c69 : Λ→Int→Ω (Λ × Int)) (c70 : Bool→Λ→Λ→Int→Ω (Int × Int)) (n : Nat) (J : Jt (Int × Int)) (x0 : Int) (x1 x2 : Bool) (x3 x4 x5 : Int) : A c20 c41 c42 c68 c69 c70 n J 63 [] (s63 x0 x1 x2 x3 x4 x5) = b63 c20 c41 c42 c68 c69 c70 x0 x1 x2 x3 x4 x5 := by kernel_rfl
theorem q63 (n : Nat) (x0 : Int) (x1 x2 : Bool) (x3 x4 x5 : Int) : A ieee_Decode.f remain_signed.f bits_TrailingZeros64.f (ieee_Round.f n) (quot_Pow.f n) (ieee_RoundRatio.f n) n idJ 63 [] (s63 x0 x1 x2 x3 x4 x5) = l63 n x0 x1 x2 x3 x4 x5 := (e63 ieee_Decode.f remain_signed.f bits_TrailingZeros64.f (ieee_Round.f n) (quot_Pow.f n) (ieee_RoundRatio.f n) n idJ x0 x1 x2 x3 x4 x5).trans (rfl)
theorem eq (n : Nat) (a0 a1 : Int) : afun (cfg ieee_Decode.f remain_signed.f bits_TrailingZeros64.f (ieee_Round.f n) (quot_Pow.f n) (ieee_RoundRatio.f n)) idJ cuts n code Tryd.f37.results.toList [false, false] [.int .u64 a0, .int .i64 a1] sg.out = f n a0 a1 := (e0 ieee_Decode.f remain_signed.f bits_TrailingZeros64.f (ieee_Round.f n) (quot_Pow.f n) (ieee_RoundRatio.f n) n idJ a0 a1).trans (congrFun (congrFun (congrArg (b0 ieee_Decode.f remain_signed.f bits_TrailingZeros64.f (ieee_Round.f n) (quot_Pow.f n) (ieee_RoundRatio.f n)) (funext fun y0 => (funext fun y1 => (funext fun y2 => (funext fun y3 => (funext fun y4 => (funext fun y5 => q63 n y0 y1 y2 y3 y4 y5))))))) a0) a1)
theorem ok {n : Nat} {a0 : Int} {a1 : Int} {r : Int × Int} (h : f n a0 a1 = some r) : CallD Tryd.prog HW 37 [.int .u64 a0, .int .i64 a1] (sg.enc r) :=
  fun_some hwS Tryd.func37 (by kernel_rfl) (body := code) (by kernel_rfl) tys_ok (c := cfg ieee_Decode.f remain_signed.f bits_TrailingZeros64.f (ieee_Round.f n) (quot_Pow.f n) (ieee_RoundRatio.f n)) (orCall_ok (ieee_Decode.call_ok (n := n)) (orCall_ok (remain_signed.call_ok (n := n)) (orCall_ok (bits_TrailingZeros64.call_ok (n := n)) (orCall_ok (ieee_Round.call_ok (n := n)) (orCall_ok (quot_Pow.call_ok (n := n)) (orCall_ok (ieee_RoundRatio.call_ok (n := n)) noCall_ok)))))) noW_ok (by kernel_rfl) (by kernel_rfl) (Nat.le_of_ble_eq_true (by kernel_rfl)) ((eq n a0 a1).trans h)
noncomputable def call {α : Type} (g : Int→Int→Ω (Int × Int)) (ds : List D) (K : List D→Ω α) : Ω α := match ds with
  | [.int .u64 a0, .int .i64 a1] => (g a0 a1).bind fun r => K (sg.enc r)
  | _ => none
theorem call_ok {α : Type} {n : Nat} (ds : List D) (K : List D→Ω α) (r : α) (h : call (f n) ds K = some r) : ∃ rs, K rs = some r ∧ CallD Tryd.prog HW 37 ds rs := by
  unfold call at h
  split at h
  · obtain ⟨x, hx, hk⟩ := Option.bind_eq_some_iff.1 h
    exact ⟨_, hk, ok (n := n) hx⟩
  · cases h
end remain_Power
/-! ### abacuslaw06_awake: function 11 -/
namespace abacuslaw06_awake
noncomputable def b0 (c34 : Int→Ω (Int)) (c35 : Int→Int→Ω (Int)) (c36 : Int→Int→Ω (Int)) (c37 : Int→Int→Ω (Int × Int)) : Ω (Bool) := ((c34 4612811918334230528).bind fun t1 => ((c35 13841250504769798144 4611686018427387904).bind fun t2 => ((c36 4613937818241073152 (-1075)).bind fun t3 => ((c37 4611686018427387904 10).bind fun t4 => (if t1 = 4611686018427387904 then (if t2 = 13832806255468478464 then (if t3 = 2 then (if t4.1 = 4652218415073722368 then some (decide (t4.2 = 0)) else some false) else some false) else some false) else some false)))))
noncomputable def f (n : Nat) : Ω (Bool) := b0 (remain_Trunc.f n) (remain_Fmod.f n) (remain_Scale.f n) (remain_Power.f n)
noncomputable def sg : Sig (Bool) := s1 (sBool)
noncomputable def code : Code := (Tryd.f11.body).getD .skip
noncomputable def cfg (c34 : Int→Ω (Int)) (c35 : Int→Int→Ω (Int)) (c36 : Int→Int→Ω (Int)) (c37 : Int→Int→Ω (Int × Int)) : Cfg (Bool) := { T := tys, call := orCall 34 (remain_Trunc.call c34) (orCall 35 (remain_Fmod.call c35) (orCall 36 (remain_Scale.call c36) (orCall 37 (remain_Power.call c37) (noCall)))) }
noncomputable def cuts : List (Nat × List (Nat × Want)) := []
theorem e0 (c34 : Int→Ω (Int)) (c35 : Int→Int→Ω (Int)) (c36 : Int→Int→Ω (Int)) (c37 : Int→Int→Ω (Int × Int)) (n : Nat) (J : Jt (Bool)) : afun (cfg c34 c35 c36 c37) J cuts n code Tryd.f11.results.toList [false] [] sg.out = b0 c34 c35 c36 c37 := by kernel_rfl
theorem eq (n : Nat) : afun (cfg (remain_Trunc.f n) (remain_Fmod.f n) (remain_Scale.f n) (remain_Power.f n)) idJ cuts n code Tryd.f11.results.toList [false] [] sg.out = f n := (e0 (remain_Trunc.f n) (remain_Fmod.f n) (remain_Scale.f n) (remain_Power.f n) n idJ).trans (rfl)
theorem ok {n : Nat} {r : Bool} (h : f n = some r) : CallD Tryd.prog HW 11 [] (sg.enc r) :=
  fun_some hwS Tryd.func11 (by kernel_rfl) (body := code) (by kernel_rfl) tys_ok (c := cfg (remain_Trunc.f n) (remain_Fmod.f n) (remain_Scale.f n) (remain_Power.f n)) (orCall_ok (remain_Trunc.call_ok (n := n)) (orCall_ok (remain_Fmod.call_ok (n := n)) (orCall_ok (remain_Scale.call_ok (n := n)) (orCall_ok (remain_Power.call_ok (n := n)) noCall_ok)))) noW_ok (by kernel_rfl) (by kernel_rfl) (Nat.le_of_ble_eq_true (by kernel_rfl)) ((eq n).trans h)
noncomputable def call {α : Type} (g : Ω (Bool)) (ds : List D) (K : List D→Ω α) : Ω α := match ds with
  | [] => (g).bind fun r => K (sg.enc r)
  | _ :: _ => none
theorem call_ok {α : Type} {n : Nat} (ds : List D) (K : List D→Ω α) (r : α) (h : call (f n) ds K = some r) : ∃ rs, K rs = some r ∧ CallD Tryd.prog HW 11 ds rs := by
  unfold call at h
  split at h
  · obtain ⟨x, hx, hk⟩ := Option.bind_eq_some_iff.1 h
    exact ⟨_, hk, ok (n := n) hx⟩
  · cases h
end abacuslaw06_awake
/-! ### abacuslaw06_finite: function 12 -/
namespace abacuslaw06_finite
noncomputable def b0 (a0 : Int) : Ω (Bool) := some (decide ((Int.tmod a0 9223372036854775808) < 9218868437227405312))
noncomputable def f (a0 : Int) : Ω (Bool) := b0 a0
noncomputable def sg : Sig (Bool) := s1 (sBool)
noncomputable def code : Code := (Tryd.f12.body).getD .skip
noncomputable def cfg : Cfg (Bool) := { T := tys, call := noCall }
noncomputable def cuts : List (Nat × List (Nat × Want)) := []
theorem e0 (n : Nat) (J : Jt (Bool)) (a0 : Int) : afun cfg J cuts n code Tryd.f12.results.toList [false] [.int .u64 a0] sg.out = b0 a0 := by kernel_rfl
theorem eq (n : Nat) (a0 : Int) : afun cfg idJ cuts n code Tryd.f12.results.toList [false] [.int .u64 a0] sg.out = f a0 := (e0 n idJ a0).trans (rfl)
theorem ok {n : Nat} {a0 : Int} {r : Bool} (h : f a0 = some r) : CallD Tryd.prog HW 12 [.int .u64 a0] (sg.enc r) :=
  fun_some hwS Tryd.func12 (by kernel_rfl) (body := code) (by kernel_rfl) tys_ok (c := cfg) noCall_ok noW_ok (by kernel_rfl) (by kernel_rfl) (Nat.le_of_ble_eq_true (by kernel_rfl)) ((eq n a0).trans h)
noncomputable def call {α : Type} (g : Int→Ω (Bool)) (ds : List D) (K : List D→Ω α) : Ω α := match ds with
  | [.int .u64 a0] => (g a0).bind fun r => K (sg.enc r)
  | _ => none
theorem call_ok {α : Type} {n : Nat} (ds : List D) (K : List D→Ω α) (r : α) (h : call f ds K = some r) : ∃ rs, K rs = some r ∧ CallD Tryd.prog HW 12 ds rs := by
  unfold call at h
  split at h
  · obtain ⟨x, hx, hk⟩ := Option.bind_eq_some_iff.1 h
    exact ⟨_, hk, ok (n := n) hx⟩
  · cases h
end abacuslaw06_finite
/-! ### soft_invalid: function 75 -/
namespace soft_invalid
noncomputable def b0 : Ω (Int × Int) := some (9221120237041090560, 1)
noncomputable def f : Ω (Int × Int) := b0
noncomputable def sg : Sig (Int × Int) := s2 (sInt .u64) (s1 (sInt .i64))
noncomputable def code : Code := (Tryd.f75.body).getD .skip
noncomputable def cfg : Cfg (Int × Int) := { T := tys, call := noCall }
noncomputable def cuts : List (Nat × List (Nat × Want)) := []
theorem e0 (n : Nat) (J : Jt (Int × Int)) : afun cfg J cuts n code Tryd.f75.results.toList [false, false] [] sg.out = b0 := by kernel_rfl
theorem eq (n : Nat) : afun cfg idJ cuts n code Tryd.f75.results.toList [false, false] [] sg.out = f := (e0 n idJ).trans (rfl)
theorem ok {n : Nat} {r : Int × Int} (h : f = some r) : CallD Tryd.prog HW 75 [] (sg.enc r) :=
  fun_some hwS Tryd.func75 (by kernel_rfl) (body := code) (by kernel_rfl) tys_ok (c := cfg) noCall_ok noW_ok (by kernel_rfl) (by kernel_rfl) (Nat.le_of_ble_eq_true (by kernel_rfl)) ((eq n).trans h)
noncomputable def call {α : Type} (g : Ω (Int × Int)) (ds : List D) (K : List D→Ω α) : Ω α := match ds with
  | [] => (g).bind fun r => K (sg.enc r)
  | _ :: _ => none
theorem call_ok {α : Type} {n : Nat} (ds : List D) (K : List D→Ω α) (r : α) (h : call f ds K = some r) : ∃ rs, K rs = some r ∧ CallD Tryd.prog HW 75 ds rs := by
  unfold call at h
  split at h
  · obtain ⟨x, hx, hk⟩ := Option.bind_eq_some_iff.1 h
    exact ⟨_, hk, ok (n := n) hx⟩
  · cases h
end soft_invalid
/-! ### soft_termOf: function 76 -/
namespace soft_termOf
noncomputable def b0 (c58 : Int→Ω (Λ)) (a0 : Bool) (a1 a2 a3 : Int) : Ω (Bool × Λ × Int) := ((c58 a2).bind fun t1 => some (a0, t1, a3))
noncomputable def f (a0 : Bool) (a1 a2 a3 : Int) : Ω (Bool × Λ × Int) := b0 nat_FromUint.f a0 a1 a2 a3
noncomputable def sg : Sig (Bool × Λ × Int) := s1 (sAgg (s2 (sBool) (s2 (sRow .u64) (s1 (sInt .i64)))))
noncomputable def code : Code := (Tryd.f76.body).getD .skip
noncomputable def cfg (c58 : Int→Ω (Λ)) : Cfg (Bool × Λ × Int) := { T := tys, call := orCall 58 (nat_FromUint.call c58) (noCall) }
noncomputable def cuts : List (Nat × List (Nat × Want)) := []
theorem e0 (c58 : Int→Ω (Λ)) (n : Nat) (J : Jt (Bool × Λ × Int)) (a0 : Bool) (a1 a2 a3 : Int) : afun (cfg c58) J cuts n code Tryd.f76.results.toList [false] [.agg [.bool a0, .int .i64 a1, .int .u64 a2, .int .i64 a3]] sg.out = b0 c58 a0 a1 a2 a3 := by kernel_rfl
theorem eq (n : Nat) (a0 : Bool) (a1 a2 a3 : Int) : afun (cfg nat_FromUint.f) idJ cuts n code Tryd.f76.results.toList [false] [.agg [.bool a0, .int .i64 a1, .int .u64 a2, .int .i64 a3]] sg.out = f a0 a1 a2 a3 := (e0 nat_FromUint.f n idJ a0 a1 a2 a3).trans (rfl)
theorem ok {n : Nat} {a0 : Bool} {a1 : Int} {a2 : Int} {a3 : Int} {r : Bool × Λ × Int} (h : f a0 a1 a2 a3 = some r) : CallD Tryd.prog HW 76 [.agg [.bool a0, .int .i64 a1, .int .u64 a2, .int .i64 a3]] (sg.enc r) :=
  fun_some hwS Tryd.func76 (by kernel_rfl) (body := code) (by kernel_rfl) tys_ok (c := cfg nat_FromUint.f) (orCall_ok (nat_FromUint.call_ok (n := n)) noCall_ok) noW_ok (by kernel_rfl) (by kernel_rfl) (Nat.le_of_ble_eq_true (by kernel_rfl)) ((eq n a0 a1 a2 a3).trans h)
noncomputable def call {α : Type} (g : Bool→Int→Int→Int→Ω (Bool × Λ × Int)) (ds : List D) (K : List D→Ω α) : Ω α := match ds with
  | [.agg [.bool a0, .int .i64 a1, .int .u64 a2, .int .i64 a3]] => (g a0 a1 a2 a3).bind fun r => K (sg.enc r)
  | _ => none
theorem call_ok {α : Type} {n : Nat} (ds : List D) (K : List D→Ω α) (r : α) (h : call f ds K = some r) : ∃ rs, K rs = some r ∧ CallD Tryd.prog HW 76 ds rs := by
  unfold call at h
  split at h
  · obtain ⟨x, hx, hk⟩ := Option.bind_eq_some_iff.1 h
    exact ⟨_, hk, ok (n := n) hx⟩
  · cases h
end soft_termOf
/-! ### soft_aligned: function 95 -/
namespace soft_aligned
noncomputable def b0 (c59 : Λ→Int→Ω (Λ × Int)) (l0 : Λ) (a1 : Int) (l2 : Λ) (a3 : Int) : Ω (Λ × Λ × Int) := (if a1 > a3 then ((c59 l0 (wrap64 (a1 - a3))).bind fun t1 => some (t1.1, l2, a3)) else ((c59 l2 (wrap64 (a3 - a1))).bind fun t2 => some (l0, t2.1, a1)))
noncomputable def f (n : Nat) (l0 : Λ) (a1 : Int) (l2 : Λ) (a3 : Int) : Ω (Λ × Λ × Int) := b0 (nat_Shl.f n) l0 a1 l2 a3
noncomputable def sg : Sig (Λ × Λ × Int) := s2 (sRow .u64) (s2 (sRow .u64) (s1 (sInt .i64)))
noncomputable def code : Code := (Tryd.f95.body).getD .skip
noncomputable def cfg (c59 : Λ→Int→Ω (Λ × Int)) : Cfg (Λ × Λ × Int) := { T := tys, call := orCall 59 (nat_Shl.call c59) (noCall) }
noncomputable def cuts : List (Nat × List (Nat × Want)) := []
theorem e0 (c59 : Λ→Int→Ω (Λ × Int)) (n : Nat) (J : Jt (Λ × Λ × Int)) (l0 : Λ) (a1 : Int) (l2 : Λ) (a3 : Int) : afun (cfg c59) J cuts n code Tryd.f95.results.toList [false, false, false] [.ro .u64 l0, .int .i64 a1, .ro .u64 l2, .int .i64 a3] sg.out = b0 c59 l0 a1 l2 a3 := by kernel_rfl
theorem eq (n : Nat) (l0 : Λ) (a1 : Int) (l2 : Λ) (a3 : Int) : afun (cfg (nat_Shl.f n)) idJ cuts n code Tryd.f95.results.toList [false, false, false] [.ro .u64 l0, .int .i64 a1, .ro .u64 l2, .int .i64 a3] sg.out = f n l0 a1 l2 a3 := (e0 (nat_Shl.f n) n idJ l0 a1 l2 a3).trans (rfl)
theorem ok {n : Nat} {l0 : Λ} {a1 : Int} {l2 : Λ} {a3 : Int} {r : Λ × Λ × Int} (h : f n l0 a1 l2 a3 = some r) : CallD Tryd.prog HW 95 [.ro .u64 l0, .int .i64 a1, .ro .u64 l2, .int .i64 a3] (sg.enc r) :=
  fun_some hwS Tryd.func95 (by kernel_rfl) (body := code) (by kernel_rfl) tys_ok (c := cfg (nat_Shl.f n)) (orCall_ok (nat_Shl.call_ok (n := n)) noCall_ok) noW_ok (by kernel_rfl) (by kernel_rfl) (Nat.le_of_ble_eq_true (by kernel_rfl)) ((eq n l0 a1 l2 a3).trans h)
noncomputable def call {α : Type} (g : Λ→Int→Λ→Int→Ω (Λ × Λ × Int)) (ds : List D) (K : List D→Ω α) : Ω α := match ds with
  | [.ro .u64 l0, .int .i64 a1, .ro .u64 l2, .int .i64 a3] => (g l0 a1 l2 a3).bind fun r => K (sg.enc r)
  | _ => none
theorem call_ok {α : Type} {n : Nat} (ds : List D) (K : List D→Ω α) (r : α) (h : call (f n) ds K = some r) : ∃ rs, K rs = some r ∧ CallD Tryd.prog HW 95 ds rs := by
  unfold call at h
  split at h
  · obtain ⟨x, hx, hk⟩ := Option.bind_eq_some_iff.1 h
    exact ⟨_, hk, ok (n := n) hx⟩
  · cases h
end soft_aligned
/-! ### soft_term_plus: function 77 -/
namespace soft_term_plus
noncomputable def b0 (c21 : Λ→Λ→Ω (Int)) (c61 : Λ→Λ→Ω (Λ × Int)) (c62 : Λ→Λ→Ω (Λ × Int)) (c95 : Λ→Int→Λ→Int→Ω (Λ × Λ × Int)) (a0 : Bool) (l1 : Λ) (a2 : Int) (a3 : Bool) (l4 : Λ) (a5 : Int) : Ω (Bool × Λ × Int) := ((c95 l1 a2 l4 a5).bind fun t1 => (if (a0 == a3) = true then ((c61 t1.1 t1.2.1).bind fun t2 => some (a0, t2.1, t1.2.2)) else ((c21 t1.1 t1.2.1).bind fun t3 => (if t3 = 0 then some (false, ([] : Λ), 0) else (if t3 = 1 then ((c62 t1.1 t1.2.1).bind fun t4 => some (a0, t4.1, t1.2.2)) else ((c62 t1.2.1 t1.1).bind fun t5 => some (a3, t5.1, t1.2.2)))))))
noncomputable def f (n : Nat) (a0 : Bool) (l1 : Λ) (a2 : Int) (a3 : Bool) (l4 : Λ) (a5 : Int) : Ω (Bool × Λ × Int) := b0 (nat_Cmp.f n) (nat_Add.f n) (nat_Sub.f n) (soft_aligned.f n) a0 l1 a2 a3 l4 a5
noncomputable def sg : Sig (Bool × Λ × Int) := s1 (sAgg (s2 (sBool) (s2 (sRow .u64) (s1 (sInt .i64)))))
noncomputable def code : Code := (Tryd.f77.body).getD .skip
noncomputable def cfg (c21 : Λ→Λ→Ω (Int)) (c61 : Λ→Λ→Ω (Λ × Int)) (c62 : Λ→Λ→Ω (Λ × Int)) (c95 : Λ→Int→Λ→Int→Ω (Λ × Λ × Int)) : Cfg (Bool × Λ × Int) := { T := tys, call := orCall 21 (nat_Cmp.call c21) (orCall 61 (nat_Add.call c61) (orCall 62 (nat_Sub.call c62) (orCall 95 (soft_aligned.call c95) (noCall)))) }
noncomputable def cuts : List (Nat × List (Nat × Want)) := []
theorem e0 (c21 : Λ→Λ→Ω (Int)) (c61 : Λ→Λ→Ω (Λ × Int)) (c62 : Λ→Λ→Ω (Λ × Int)) (c95 : Λ→Int→Λ→Int→Ω (Λ × Λ × Int)) (n : Nat) (J : Jt (Bool × Λ × Int)) (a0 : Bool) (l1 : Λ) (a2 : Int) (a3 : Bool) (l4 : Λ) (a5 : Int) : afun (cfg c21 c61 c62 c95) J cuts n code Tryd.f77.results.toList [false] [.agg [.bool a0, .ro .u64 l1, .int .i64 a2], .agg [.bool a3, .ro .u64 l4, .int .i64 a5]] sg.out = b0 c21 c61 c62 c95 a0 l1 a2 a3 l4 a5 := by kernel_rfl
theorem eq (n : Nat) (a0 : Bool) (l1 : Λ) (a2 : Int) (a3 : Bool) (l4 : Λ) (a5 : Int) : afun (cfg (nat_Cmp.f n) (nat_Add.f n) (nat_Sub.f n) (soft_aligned.f n)) idJ cuts n code Tryd.f77.results.toList [false] [.agg [.bool a0, .ro .u64 l1, .int .i64 a2], .agg [.bool a3, .ro .u64 l4, .int .i64 a5]] sg.out = f n a0 l1 a2 a3 l4 a5 := (e0 (nat_Cmp.f n) (nat_Add.f n) (nat_Sub.f n) (soft_aligned.f n) n idJ a0 l1 a2 a3 l4 a5).trans (rfl)
theorem ok {n : Nat} {a0 : Bool} {l1 : Λ} {a2 : Int} {a3 : Bool} {l4 : Λ} {a5 : Int} {r : Bool × Λ × Int} (h : f n a0 l1 a2 a3 l4 a5 = some r) : CallD Tryd.prog HW 77 [.agg [.bool a0, .ro .u64 l1, .int .i64 a2], .agg [.bool a3, .ro .u64 l4, .int .i64 a5]] (sg.enc r) :=
  fun_some hwS Tryd.func77 (by kernel_rfl) (body := code) (by kernel_rfl) tys_ok (c := cfg (nat_Cmp.f n) (nat_Add.f n) (nat_Sub.f n) (soft_aligned.f n)) (orCall_ok (nat_Cmp.call_ok (n := n)) (orCall_ok (nat_Add.call_ok (n := n)) (orCall_ok (nat_Sub.call_ok (n := n)) (orCall_ok (soft_aligned.call_ok (n := n)) noCall_ok)))) noW_ok (by kernel_rfl) (by kernel_rfl) (Nat.le_of_ble_eq_true (by kernel_rfl)) ((eq n a0 l1 a2 a3 l4 a5).trans h)
noncomputable def call {α : Type} (g : Bool→Λ→Int→Bool→Λ→Int→Ω (Bool × Λ × Int)) (ds : List D) (K : List D→Ω α) : Ω α := match ds with
  | [.agg [.bool a0, .ro .u64 l1, .int .i64 a2], .agg [.bool a3, .ro .u64 l4, .int .i64 a5]] => (g a0 l1 a2 a3 l4 a5).bind fun r => K (sg.enc r)
  | _ => none
theorem call_ok {α : Type} {n : Nat} (ds : List D) (K : List D→Ω α) (r : α) (h : call (f n) ds K = some r) : ∃ rs, K rs = some r ∧ CallD Tryd.prog HW 77 ds rs := by
  unfold call at h
  split at h
  · obtain ⟨x, hx, hk⟩ := Option.bind_eq_some_iff.1 h
    exact ⟨_, hk, ok (n := n) hx⟩
  · cases h
end soft_term_plus
/-! ### soft_withSign: function 80 -/
namespace soft_withSign
noncomputable def b0 (a0 : Bool) (a1 : Int) : Ω (Int) := (if a0 = true then some (Go.bits .or .u64 a1 9223372036854775808) else some a1)
noncomputable def f (a0 : Bool) (a1 : Int) : Ω (Int) := b0 a0 a1
noncomputable def sg : Sig (Int) := s1 (sInt .u64)
noncomputable def code : Code := (Tryd.f80.body).getD .skip
noncomputable def cfg : Cfg (Int) := { T := tys, call := noCall }
noncomputable def cuts : List (Nat × List (Nat × Want)) := []
theorem e0 (n : Nat) (J : Jt (Int)) (a0 : Bool) (a1 : Int) : afun cfg J cuts n code Tryd.f80.results.toList [false] [.bool a0, .int .u64 a1] sg.out = b0 a0 a1 := by kernel_rfl
theorem eq (n : Nat) (a0 : Bool) (a1 : Int) : afun cfg idJ cuts n code Tryd.f80.results.toList [false] [.bool a0, .int .u64 a1] sg.out = f a0 a1 := (e0 n idJ a0 a1).trans (rfl)
theorem ok {n : Nat} {a0 : Bool} {a1 : Int} {r : Int} (h : f a0 a1 = some r) : CallD Tryd.prog HW 80 [.bool a0, .int .u64 a1] (sg.enc r) :=
  fun_some hwS Tryd.func80 (by kernel_rfl) (body := code) (by kernel_rfl) tys_ok (c := cfg) noCall_ok noW_ok (by kernel_rfl) (by kernel_rfl) (Nat.le_of_ble_eq_true (by kernel_rfl)) ((eq n a0 a1).trans h)
noncomputable def call {α : Type} (g : Bool→Int→Ω (Int)) (ds : List D) (K : List D→Ω α) : Ω α := match ds with
  | [.bool a0, .int .u64 a1] => (g a0 a1).bind fun r => K (sg.enc r)
  | _ => none
theorem call_ok {α : Type} {n : Nat} (ds : List D) (K : List D→Ω α) (r : α) (h : call f ds K = some r) : ∃ rs, K rs = some r ∧ CallD Tryd.prog HW 80 ds rs := by
  unfold call at h
  split at h
  · obtain ⟨x, hx, hk⟩ := Option.bind_eq_some_iff.1 h
    exact ⟨_, hk, ok (n := n) hx⟩
  · cases h
end soft_withSign
/-! ### soft_fraction_flags: function 82 -/
namespace soft_fraction_flags
noncomputable def b0 (c19 : Λ→Λ→Ω (Λ × Int)) (c20 : Int→Ω (Bool × Int × Int × Int)) (c21 : Λ→Λ→Ω (Int)) (c58 : Int→Ω (Λ)) (c95 : Λ→Int→Λ→Int→Ω (Λ × Λ × Int)) (a0 : Bool) (l1 l2 : Λ) (a3 a4 : Int) : Ω (Int) := ((c20 a4).bind fun t1 => (if t1.2.1 = 3 then some 20 else ((c58 t1.2.2.1).bind fun t2 => ((c19 l2 t2).bind fun t3 => ((c95 l1 a3 t3.1 t1.2.2.2).bind fun t4 => ((c21 t4.1 t4.2.1).bind fun t5 => (if t5 = 0 then some 0 else ((c95 l1 a3 l2 (-1022)).bind fun t6 => ((c21 t6.1 t6.2.1).bind fun t7 => (if t7 < 0 then some 24 else some 16))))))))))
noncomputable def f (n : Nat) (a0 : Bool) (l1 l2 : Λ) (a3 a4 : Int) : Ω (Int) := b0 (nat_Mul.f n) ieee_Decode.f (nat_Cmp.f n) nat_FromUint.f (soft_aligned.f n) a0 l1 l2 a3 a4
noncomputable def sg : Sig (Int) := s1 (sInt .i64)
noncomputable def code : Code := (Tryd.f82.body).getD .skip
noncomputable def cfg (c19 : Λ→Λ→Ω (Λ × Int)) (c20 : Int→Ω (Bool × Int × Int × Int)) (c21 : Λ→Λ→Ω (Int)) (c58 : Int→Ω (Λ)) (c95 : Λ→Int→Λ→Int→Ω (Λ × Λ × Int)) : Cfg (Int) := { T := tys, call := orCall 19 (nat_Mul.call c19) (orCall 20 (ieee_Decode.call c20) (orCall 21 (nat_Cmp.call c21) (orCall 58 (nat_FromUint.call c58) (orCall 95 (soft_aligned.call c95) (noCall))))) }
noncomputable def cuts : List (Nat × List (Nat × Want)) := []
theorem e0 (c19 : Λ→Λ→Ω (Λ × Int)) (c20 : Int→Ω (Bool × Int × Int × Int)) (c21 : Λ→Λ→Ω (Int)) (c58 : Int→Ω (Λ)) (c95 : Λ→Int→Λ→Int→Ω (Λ × Λ × Int)) (n : Nat) (J : Jt (Int)) (a0 : Bool) (l1 l2 : Λ) (a3 a4 : Int) : afun (cfg c19 c20 c21 c58 c95) J cuts n code Tryd.f82.results.toList [false] [.agg [.bool a0, .ro .u64 l1, .ro .u64 l2, .int .i64 a3], .int .u64 a4] sg.out = b0 c19 c20 c21 c58 c95 a0 l1 l2 a3 a4 := by kernel_rfl
theorem eq (n : Nat) (a0 : Bool) (l1 l2 : Λ) (a3 a4 : Int) : afun (cfg (nat_Mul.f n) ieee_Decode.f (nat_Cmp.f n) nat_FromUint.f (soft_aligned.f n)) idJ cuts n code Tryd.f82.results.toList [false] [.agg [.bool a0, .ro .u64 l1, .ro .u64 l2, .int .i64 a3], .int .u64 a4] sg.out = f n a0 l1 l2 a3 a4 := (e0 (nat_Mul.f n) ieee_Decode.f (nat_Cmp.f n) nat_FromUint.f (soft_aligned.f n) n idJ a0 l1 l2 a3 a4).trans (rfl)
theorem ok {n : Nat} {a0 : Bool} {l1 : Λ} {l2 : Λ} {a3 : Int} {a4 : Int} {r : Int} (h : f n a0 l1 l2 a3 a4 = some r) : CallD Tryd.prog HW 82 [.agg [.bool a0, .ro .u64 l1, .ro .u64 l2, .int .i64 a3], .int .u64 a4] (sg.enc r) :=
  fun_some hwS Tryd.func82 (by kernel_rfl) (body := code) (by kernel_rfl) tys_ok (c := cfg (nat_Mul.f n) ieee_Decode.f (nat_Cmp.f n) nat_FromUint.f (soft_aligned.f n)) (orCall_ok (nat_Mul.call_ok (n := n)) (orCall_ok (ieee_Decode.call_ok (n := n)) (orCall_ok (nat_Cmp.call_ok (n := n)) (orCall_ok (nat_FromUint.call_ok (n := n)) (orCall_ok (soft_aligned.call_ok (n := n)) noCall_ok))))) noW_ok (by kernel_rfl) (by kernel_rfl) (Nat.le_of_ble_eq_true (by kernel_rfl)) ((eq n a0 l1 l2 a3 a4).trans h)
noncomputable def call {α : Type} (g : Bool→Λ→Λ→Int→Int→Ω (Int)) (ds : List D) (K : List D→Ω α) : Ω α := match ds with
  | [.agg [.bool a0, .ro .u64 l1, .ro .u64 l2, .int .i64 a3], .int .u64 a4] => (g a0 l1 l2 a3 a4).bind fun r => K (sg.enc r)
  | _ => none
theorem call_ok {α : Type} {n : Nat} (ds : List D) (K : List D→Ω α) (r : α) (h : call (f n) ds K = some r) : ∃ rs, K rs = some r ∧ CallD Tryd.prog HW 82 ds rs := by
  unfold call at h
  split at h
  · obtain ⟨x, hx, hk⟩ := Option.bind_eq_some_iff.1 h
    exact ⟨_, hk, ok (n := n) hx⟩
  · cases h
end soft_fraction_flags
/-! ### soft_term_rounded: function 78 -/
namespace soft_term_rounded
noncomputable def b0 (c68 : Bool→Λ→Int→Bool→Ω (Int × Int)) (c80 : Bool→Int→Ω (Int)) (c82 : Bool→Λ→Λ→Int→Int→Ω (Int)) (a0 : Bool) (l1 : Λ) (a2 : Int) : Ω (Int × Int) := (if (ln l1) = 0 then ((c80 a0 0).bind fun t1 => some (t1, 0)) else ((c68 a0 l1 a2 false).bind fun t2 => ((c82 a0 l1 [1] a2 t2.1).bind fun t3 => some (t2.1, t3))))
noncomputable def f (n : Nat) (a0 : Bool) (l1 : Λ) (a2 : Int) : Ω (Int × Int) := b0 (ieee_Round.f n) soft_withSign.f (soft_fraction_flags.f n) a0 l1 a2
noncomputable def sg : Sig (Int × Int) := s2 (sInt .u64) (s1 (sInt .i64))
noncomputable def code : Code := (Tryd.f78.body).getD .skip
noncomputable def cfg (c68 : Bool→Λ→Int→Bool→Ω (Int × Int)) (c80 : Bool→Int→Ω (Int)) (c82 : Bool→Λ→Λ→Int→Int→Ω (Int)) : Cfg (Int × Int) := { T := tys, call := orCall 68 (ieee_Round.call c68) (orCall 80 (soft_withSign.call c80) (orCall 82 (soft_fraction_flags.call c82) (noCall))) }
noncomputable def cuts : List (Nat × List (Nat × Want)) := []
theorem e0 (c68 : Bool→Λ→Int→Bool→Ω (Int × Int)) (c80 : Bool→Int→Ω (Int)) (c82 : Bool→Λ→Λ→Int→Int→Ω (Int)) (n : Nat) (J : Jt (Int × Int)) (a0 : Bool) (l1 : Λ) (a2 : Int) : afun (cfg c68 c80 c82) J cuts n code Tryd.f78.results.toList [false, false] [.agg [.bool a0, .ro .u64 l1, .int .i64 a2]] sg.out = b0 c68 c80 c82 a0 l1 a2 := by kernel_rfl
theorem eq (n : Nat) (a0 : Bool) (l1 : Λ) (a2 : Int) : afun (cfg (ieee_Round.f n) soft_withSign.f (soft_fraction_flags.f n)) idJ cuts n code Tryd.f78.results.toList [false, false] [.agg [.bool a0, .ro .u64 l1, .int .i64 a2]] sg.out = f n a0 l1 a2 := (e0 (ieee_Round.f n) soft_withSign.f (soft_fraction_flags.f n) n idJ a0 l1 a2).trans (rfl)
theorem ok {n : Nat} {a0 : Bool} {l1 : Λ} {a2 : Int} {r : Int × Int} (h : f n a0 l1 a2 = some r) : CallD Tryd.prog HW 78 [.agg [.bool a0, .ro .u64 l1, .int .i64 a2]] (sg.enc r) :=
  fun_some hwS Tryd.func78 (by kernel_rfl) (body := code) (by kernel_rfl) tys_ok (c := cfg (ieee_Round.f n) soft_withSign.f (soft_fraction_flags.f n)) (orCall_ok (ieee_Round.call_ok (n := n)) (orCall_ok (soft_withSign.call_ok (n := n)) (orCall_ok (soft_fraction_flags.call_ok (n := n)) noCall_ok))) noW_ok (by kernel_rfl) (by kernel_rfl) (Nat.le_of_ble_eq_true (by kernel_rfl)) ((eq n a0 l1 a2).trans h)
noncomputable def call {α : Type} (g : Bool→Λ→Int→Ω (Int × Int)) (ds : List D) (K : List D→Ω α) : Ω α := match ds with
  | [.agg [.bool a0, .ro .u64 l1, .int .i64 a2]] => (g a0 l1 a2).bind fun r => K (sg.enc r)
  | _ => none
theorem call_ok {α : Type} {n : Nat} (ds : List D) (K : List D→Ω α) (r : α) (h : call (f n) ds K = some r) : ∃ rs, K rs = some r ∧ CallD Tryd.prog HW 78 ds rs := by
  unfold call at h
  split at h
  · obtain ⟨x, hx, hk⟩ := Option.bind_eq_some_iff.1 h
    exact ⟨_, hk, ok (n := n) hx⟩
  · cases h
end soft_term_rounded
/-! ### soft_add: function 44 -/
namespace soft_add
noncomputable def b0 (c20 : Int→Ω (Bool × Int × Int × Int)) (c75 : Ω (Int × Int)) (c76 : Bool→Int→Int→Int→Ω (Bool × Λ × Int)) (c77 : Bool→Λ→Int→Bool→Λ→Int→Ω (Bool × Λ × Int)) (c78 : Bool→Λ→Int→Ω (Int × Int)) (k231 : Int→Int→Bool→Bool→Int→Int→Int→Bool→Int→Int→Int→Ω (Int × Int)) (a0 a1 a2 : Int) : Ω (Int × Int) := ((c20 a0).bind fun t1 => ((c20 a1).bind fun t2 => (if t1.2.1 = 4 then some (9221120237041090560, 0) else (if t2.2.1 = 4 then some (9221120237041090560, 0) else (if t1.2.1 = 3 then (if t2.2.1 = 3 then k231 a0 a1 (t1.1 != t2.1) t1.1 t1.2.1 t1.2.2.1 t1.2.2.2 t2.1 t2.2.1 t2.2.2.1 t2.2.2.2 else k231 a0 a1 false t1.1 t1.2.1 t1.2.2.1 t1.2.2.2 t2.1 t2.2.1 t2.2.2.1 t2.2.2.2) else k231 a0 a1 false t1.1 t1.2.1 t1.2.2.1 t1.2.2.2 t2.1 t2.2.1 t2.2.2.1 t2.2.2.2)))))
noncomputable def b231 (c20 : Int→Ω (Bool × Int × Int × Int)) (c75 : Ω (Int × Int)) (c76 : Bool→Int→Int→Int→Ω (Bool × Λ × Int)) (c77 : Bool→Λ→Int→Bool→Λ→Int→Ω (Bool × Λ × Int)) (c78 : Bool→Λ→Int→Ω (Int × Int)) (x0 x1 : Int) (x2 x3 : Bool) (x4 x5 x6 : Int) (x7 : Bool) (x8 x9 x10 : Int) : Ω (Int × Int) := (if x2 = true then ((c75).bind fun t1 => some (t1.1, t1.2)) else (if x4 = 3 then some (x0, 0) else (if x8 = 3 then some (x1, 0) else ((c76 x3 x4 x5 x6).bind fun t2 => ((c76 x7 x8 x9 x10).bind fun t3 => ((c77 t2.1 t2.2.1 t2.2.2 t3.1 t3.2.1 t3.2.2).bind fun t4 => ((c78 t4.1 t4.2.1 t4.2.2).bind fun t5 => some (t5.1, t5.2))))))))
noncomputable def l231 (n : Nat) (x0 x1 : Int) (x2 x3 : Bool) (x4 x5 x6 : Int) (x7 : Bool) (x8 x9 x10 : Int) : Ω (Int × Int) := b231 ieee_Decode.f soft_invalid.f soft_termOf.f (soft_term_plus.f n) (soft_term_rounded.f n) x0 x1 x2 x3 x4 x5 x6 x7 x8 x9 x10
noncomputable def f (n : Nat) (a0 a1 a2 : Int) : Ω (Int × Int) := b0 ieee_Decode.f soft_invalid.f soft_termOf.f (soft_term_plus.f n) (soft_term_rounded.f n) (l231 n) a0 a1 a2
noncomputable def sg : Sig (Int × Int) := s2 (sInt .u64) (s1 (sInt .i64))
noncomputable def code : Code := (Tryd.f44.body).getD .skip
noncomputable def cfg (c20 : Int→Ω (Bool × Int × Int × Int)) (c75 : Ω (Int × Int)) (c76 : Bool→Int→Int→Int→Ω (Bool × Λ × Int)) (c77 : Bool→Λ→Int→Bool→Λ→Int→Ω (Bool × Λ × Int)) (c78 : Bool→Λ→Int→Ω (Int × Int)) : Cfg (Int × Int) := { T := tys, call := orCall 20 (ieee_Decode.call c20) (orCall 75 (soft_invalid.call c75) (orCall 76 (soft_termOf.call c76) (orCall 77 (soft_term_plus.call c77) (orCall 78 (soft_term_rounded.call c78) (noCall))))) }
noncomputable def cuts : List (Nat × List (Nat × Want)) := [(231, [(0, .keep), (1, .keep), (8, .keep), (9, .keep), (23, .keep)])]
noncomputable def s231 (x0 x1 : Int) (x2 x3 : Bool) (x4 x5 x6 : Int) (x7 : Bool) (x8 x9 x10 : Int) : ASt := ⟨[(0, .int .u64 x0), (1, .int .u64 x1), (8, .ptr 0 0), (9, .ptr 1 0), (23, .bool x2)], [.cells 46 [.bool x3, .int .i64 x4, .int .u64 x5, .int .i64 x6], .cells 46 [.bool x7, .int .i64 x8, .int .u64 x9, .int .i64 x10]]⟩
noncomputable def A (c20 : Int→Ω (Bool × Int × Int × Int)) (c75 : Ω (Int × Int)) (c76 : Bool→Int→Int→Int→Ω (Bool × Λ × Int)) (c77 : Bool→Λ→Int→Bool→Λ→Int→Ω (Bool × Λ × Int)) (c78 : Bool→Λ→Int→Ω (Int × Int)) (n : Nat) (J : Jt (Int × Int)) (q : Nat) (ms : List Nat) : ASt→Ω (Int × Int) := acont (cfg c20 c75 c76 c77 c78) J cuts n q code 1 ms (aend (cfg c20 c75 c76 c77 c78) Tryd.f44.results.toList [false, false] sg.out)
theorem e0 (c20 : Int→Ω (Bool × Int × Int × Int)) (c75 : Ω (Int × Int)) (c76 : Bool→Int→Int→Int→Ω (Bool × Λ × Int)) (c77 : Bool→Λ→Int→Bool→Λ→Int→Ω (Bool × Λ × Int)) (c78 : Bool→Λ→Int→Ω (Int × Int)) (n : Nat) (J : Jt (Int × Int)) (a0 a1 a2 : Int) : afun (cfg c20 c75 c76 c77 c78) J cuts n code Tryd.f44.results.toList [false, false] [.int .u64 a0, .int .u64 a1, .int .u64 a2] sg.out = b0 c20 c75 c76 c77 c78 (fun y0 y1 y2 y3 y4 y5 y6 y7 y8 y9 y10 => J 231 (A c20 c75 c76 c77 c78 n J 231 []) (s231 y0 y1 y2 y3 y4 y5 y6 y7 y8 y9 y10)) a0 a1 a2 := by kernel_rfl
theorem e231 (c20 : Int→Ω (Bool × Int × Int × Int)) (c75 : Ω (Int × Int)) (c76 : Bool→Int→Int→Int→Ω (Bool × Λ × Int)) (c77 : Bool→Λ→Int→Bool→Λ→Int→Ω (Bool × Λ × Int)) (c78 : Bool→Λ→Int→Ω (Int × Int)) (n : Nat) (J : Jt (Int × Int)) (x0 x1 : Int) (x2 x3 : Bool) (x4 x5 x6 : Int) (x7 : Bool) (x8 x9 x10 : Int) : A c20 c75 c76 c77 c78 n J 231 [] (s231 x0 x1 x2 x3 x4 x5 x6 x7 x8 x9 x10) = b231 c20 c75 c76 c77 c78 x0 x1 x2 x3 x4 x5 x6 x7 x8 x9 x10 := by kernel_rfl
theorem q231 (n : Nat) (x0 x1 : Int) (x2 x3 : Bool) (x4 x5 x6 : Int) (x7 : Bool) (x8 x9 x10 : Int) : A ieee_Decode.f soft_invalid.f soft_termOf.f (soft_term_plus.f n) (soft_term_rounded.f n) n idJ 231 [] (s231 x0 x1 x2 x3 x4 x5 x6 x7 x8 x9 x10) = l231 n x0 x1 x2 x3 x4 x5 x6 x7 x8 x9 x10 := (e231 ieee_Decode.f soft_invalid.f soft_termOf.f (soft_term_plus.f n) (soft_term_rounded.f n) n idJ x0 x1 x2 x3 x4 x5 x6 x7 x8 x9 x10).trans (rfl)
theorem eq (n : Nat) (a0 a1 a2 : Int) : afun (cfg ieee_Decode.f soft_invalid.f soft_termOf.f (soft_term_plus.f n) (soft_term_rounded.f n)) idJ cuts n code Tryd.f44.results.toList [false, false] [.int .u64 a0, .int .u64 a1, .int .u64 a2] sg.out = f n a0 a1 a2 := (e0 ieee_Decode.f soft_invalid.f soft_termOf.f (soft_term_plus.f n) (soft_term_rounded.f n) n idJ a0 a1 a2).trans (congrFun (congrFun (congrFun (congrArg (b0 ieee_Decode.f soft_invalid.f soft_termOf.f (soft_term_plus.f n) (soft_term_rounded.f n)) (funext fun y0 => (funext fun y1 => (funext fun y2 => (funext fun y3 => (funext fun y4 => (funext fun y5 => (funext fun y6 => (funext fun y7 => (funext fun y8 => (funext fun y9 => (funext fun y10 => q231 n y0 y1 y2 y3 y4 y5 y6 y7 y8 y9 y10)))))))))))) a0) a1) a2)
theorem ok {n : Nat} {a0 : Int} {a1 : Int} {a2 : Int} {r : Int × Int} (h : f n a0 a1 a2 = some r) : CallD Tryd.prog HW 44 [.int .u64 a0, .int .u64 a1, .int .u64 a2] (sg.enc r) :=
  fun_some hwS Tryd.func44 (by kernel_rfl) (body := code) (by kernel_rfl) tys_ok (c := cfg ieee_Decode.f soft_invalid.f soft_termOf.f (soft_term_plus.f n) (soft_term_rounded.f n)) (orCall_ok (ieee_Decode.call_ok (n := n)) (orCall_ok (soft_invalid.call_ok (n := n)) (orCall_ok (soft_termOf.call_ok (n := n)) (orCall_ok (soft_term_plus.call_ok (n := n)) (orCall_ok (soft_term_rounded.call_ok (n := n)) noCall_ok))))) noW_ok (by kernel_rfl) (by kernel_rfl) (Nat.le_of_ble_eq_true (by kernel_rfl)) ((eq n a0 a1 a2).trans h)
noncomputable def call {α : Type} (g : Int→Int→Int→Ω (Int × Int)) (ds : List D) (K : List D→Ω α) : Ω α := match ds with
  | [.int .u64 a0, .int .u64 a1, .int .u64 a2] => (g a0 a1 a2).bind fun r => K (sg.enc r)
  | _ => none
theorem call_ok {α : Type} {n : Nat} (ds : List D) (K : List D→Ω α) (r : α) (h : call (f n) ds K = some r) : ∃ rs, K rs = some r ∧ CallD Tryd.prog HW 44 ds rs := by
  unfold call at h
  split at h
  · obtain ⟨x, hx, hk⟩ := Option.bind_eq_some_iff.1 h
    exact ⟨_, hk, ok (n := n) hx⟩
  · cases h
end soft_add
/-! ### soft_sub: function 45 -/
namespace soft_sub
noncomputable def b0 (c44 : Int→Int→Int→Ω (Int × Int)) (c79 : Int→Ω (Int)) (a0 a1 a2 : Int) : Ω (Int × Int) := ((c79 a1).bind fun t1 => ((c44 a0 t1 a2).bind fun t2 => some (t2.1, t2.2)))
noncomputable def f (n : Nat) (a0 a1 a2 : Int) : Ω (Int × Int) := b0 (soft_add.f n) ieee_Neg.f a0 a1 a2
noncomputable def sg : Sig (Int × Int) := s2 (sInt .u64) (s1 (sInt .i64))
noncomputable def code : Code := (Tryd.f45.body).getD .skip
noncomputable def cfg (c44 : Int→Int→Int→Ω (Int × Int)) (c79 : Int→Ω (Int)) : Cfg (Int × Int) := { T := tys, call := orCall 44 (soft_add.call c44) (orCall 79 (ieee_Neg.call c79) (noCall)) }
noncomputable def cuts : List (Nat × List (Nat × Want)) := []
theorem e0 (c44 : Int→Int→Int→Ω (Int × Int)) (c79 : Int→Ω (Int)) (n : Nat) (J : Jt (Int × Int)) (a0 a1 a2 : Int) : afun (cfg c44 c79) J cuts n code Tryd.f45.results.toList [false, false] [.int .u64 a0, .int .u64 a1, .int .u64 a2] sg.out = b0 c44 c79 a0 a1 a2 := by kernel_rfl
theorem eq (n : Nat) (a0 a1 a2 : Int) : afun (cfg (soft_add.f n) ieee_Neg.f) idJ cuts n code Tryd.f45.results.toList [false, false] [.int .u64 a0, .int .u64 a1, .int .u64 a2] sg.out = f n a0 a1 a2 := (e0 (soft_add.f n) ieee_Neg.f n idJ a0 a1 a2).trans (rfl)
theorem ok {n : Nat} {a0 : Int} {a1 : Int} {a2 : Int} {r : Int × Int} (h : f n a0 a1 a2 = some r) : CallD Tryd.prog HW 45 [.int .u64 a0, .int .u64 a1, .int .u64 a2] (sg.enc r) :=
  fun_some hwS Tryd.func45 (by kernel_rfl) (body := code) (by kernel_rfl) tys_ok (c := cfg (soft_add.f n) ieee_Neg.f) (orCall_ok (soft_add.call_ok (n := n)) (orCall_ok (ieee_Neg.call_ok (n := n)) noCall_ok)) noW_ok (by kernel_rfl) (by kernel_rfl) (Nat.le_of_ble_eq_true (by kernel_rfl)) ((eq n a0 a1 a2).trans h)
noncomputable def call {α : Type} (g : Int→Int→Int→Ω (Int × Int)) (ds : List D) (K : List D→Ω α) : Ω α := match ds with
  | [.int .u64 a0, .int .u64 a1, .int .u64 a2] => (g a0 a1 a2).bind fun r => K (sg.enc r)
  | _ => none
theorem call_ok {α : Type} {n : Nat} (ds : List D) (K : List D→Ω α) (r : α) (h : call (f n) ds K = some r) : ∃ rs, K rs = some r ∧ CallD Tryd.prog HW 45 ds rs := by
  unfold call at h
  split at h
  · obtain ⟨x, hx, hk⟩ := Option.bind_eq_some_iff.1 h
    exact ⟨_, hk, ok (n := n) hx⟩
  · cases h
end soft_sub
/-! ### soft_Sub: function 24 -/
namespace soft_Sub
noncomputable def b0 (c45 : Int→Int→Int→Ω (Int × Int)) (a0 a1 : Int) : Ω (Int) := ((c45 a0 a1 0).bind fun t1 => some t1.1)
noncomputable def f (n : Nat) (a0 a1 : Int) : Ω (Int) := b0 (soft_sub.f n) a0 a1
noncomputable def sg : Sig (Int) := s1 (sInt .u64)
noncomputable def code : Code := (Tryd.f24.body).getD .skip
noncomputable def cfg (c45 : Int→Int→Int→Ω (Int × Int)) : Cfg (Int) := { T := tys, call := orCall 45 (soft_sub.call c45) (noCall) }
noncomputable def cuts : List (Nat × List (Nat × Want)) := []
theorem e0 (c45 : Int→Int→Int→Ω (Int × Int)) (n : Nat) (J : Jt (Int)) (a0 a1 : Int) : afun (cfg c45) J cuts n code Tryd.f24.results.toList [false] [.int .u64 a0, .int .u64 a1] sg.out = b0 c45 a0 a1 := by kernel_rfl
theorem eq (n : Nat) (a0 a1 : Int) : afun (cfg (soft_sub.f n)) idJ cuts n code Tryd.f24.results.toList [false] [.int .u64 a0, .int .u64 a1] sg.out = f n a0 a1 := (e0 (soft_sub.f n) n idJ a0 a1).trans (rfl)
theorem ok {n : Nat} {a0 : Int} {a1 : Int} {r : Int} (h : f n a0 a1 = some r) : CallD Tryd.prog HW 24 [.int .u64 a0, .int .u64 a1] (sg.enc r) :=
  fun_some hwS Tryd.func24 (by kernel_rfl) (body := code) (by kernel_rfl) tys_ok (c := cfg (soft_sub.f n)) (orCall_ok (soft_sub.call_ok (n := n)) noCall_ok) noW_ok (by kernel_rfl) (by kernel_rfl) (Nat.le_of_ble_eq_true (by kernel_rfl)) ((eq n a0 a1).trans h)
noncomputable def call {α : Type} (g : Int→Int→Ω (Int)) (ds : List D) (K : List D→Ω α) : Ω α := match ds with
  | [.int .u64 a0, .int .u64 a1] => (g a0 a1).bind fun r => K (sg.enc r)
  | _ => none
theorem call_ok {α : Type} {n : Nat} (ds : List D) (K : List D→Ω α) (r : α) (h : call (f n) ds K = some r) : ∃ rs, K rs = some r ∧ CallD Tryd.prog HW 24 ds rs := by
  unfold call at h
  split at h
  · obtain ⟨x, hx, hk⟩ := Option.bind_eq_some_iff.1 h
    exact ⟨_, hk, ok (n := n) hx⟩
  · cases h
end soft_Sub
/-! ### remain_Split: function 14 -/
namespace remain_Split
noncomputable def b0 (c20 : Int→Ω (Bool × Int × Int × Int)) (c24 : Int→Int→Ω (Int)) (c34 : Int→Ω (Int)) (c41 : Bool→Int→Ω (Int)) (a0 : Int) : Ω (Int × Int) := ((c20 a0).bind fun t1 => ((c34 a0).bind fun t2 => (if t1.2.1 = 4 then some (9221120237041090560, 9221120237041090560) else (if t1.2.1 = 3 then ((c41 t1.1 0).bind fun t3 => some (a0, t3)) else ((c24 a0 t2).bind fun t4 => (if (Go.bits .andNot .u64 t4 9223372036854775808) = 0 then ((c41 t1.1 0).bind fun t5 => some (t2, t5)) else some (t2, t4)))))))
noncomputable def f (n : Nat) (a0 : Int) : Ω (Int × Int) := b0 ieee_Decode.f (soft_Sub.f n) (remain_Trunc.f n) remain_signed.f a0
noncomputable def sg : Sig (Int × Int) := s2 (sInt .u64) (s1 (sInt .u64))
noncomputable def code : Code := (Tryd.f14.body).getD .skip
noncomputable def cfg (c20 : Int→Ω (Bool × Int × Int × Int)) (c24 : Int→Int→Ω (Int)) (c34 : Int→Ω (Int)) (c41 : Bool→Int→Ω (Int)) : Cfg (Int × Int) := { T := tys, call := orCall 20 (ieee_Decode.call c20) (orCall 24 (soft_Sub.call c24) (orCall 34 (remain_Trunc.call c34) (orCall 41 (remain_signed.call c41) (noCall)))) }
noncomputable def cuts : List (Nat × List (Nat × Want)) := []
theorem e0 (c20 : Int→Ω (Bool × Int × Int × Int)) (c24 : Int→Int→Ω (Int)) (c34 : Int→Ω (Int)) (c41 : Bool→Int→Ω (Int)) (n : Nat) (J : Jt (Int × Int)) (a0 : Int) : afun (cfg c20 c24 c34 c41) J cuts n code Tryd.f14.results.toList [false, false] [.int .u64 a0] sg.out = b0 c20 c24 c34 c41 a0 := by kernel_rfl
theorem eq (n : Nat) (a0 : Int) : afun (cfg ieee_Decode.f (soft_Sub.f n) (remain_Trunc.f n) remain_signed.f) idJ cuts n code Tryd.f14.results.toList [false, false] [.int .u64 a0] sg.out = f n a0 := (e0 ieee_Decode.f (soft_Sub.f n) (remain_Trunc.f n) remain_signed.f n idJ a0).trans (rfl)
theorem ok {n : Nat} {a0 : Int} {r : Int × Int} (h : f n a0 = some r) : CallD Tryd.prog HW 14 [.int .u64 a0] (sg.enc r) :=
  fun_some hwS Tryd.func14 (by kernel_rfl) (body := code) (by kernel_rfl) tys_ok (c := cfg ieee_Decode.f (soft_Sub.f n) (remain_Trunc.f n) remain_signed.f) (orCall_ok (ieee_Decode.call_ok (n := n)) (orCall_ok (soft_Sub.call_ok (n := n)) (orCall_ok (remain_Trunc.call_ok (n := n)) (orCall_ok (remain_signed.call_ok (n := n)) noCall_ok)))) noW_ok (by kernel_rfl) (by kernel_rfl) (Nat.le_of_ble_eq_true (by kernel_rfl)) ((eq n a0).trans h)
noncomputable def call {α : Type} (g : Int→Ω (Int × Int)) (ds : List D) (K : List D→Ω α) : Ω α := match ds with
  | [.int .u64 a0] => (g a0).bind fun r => K (sg.enc r)
  | _ => none
theorem call_ok {α : Type} {n : Nat} (ds : List D) (K : List D→Ω α) (r : α) (h : call (f n) ds K = some r) : ∃ rs, K rs = some r ∧ CallD Tryd.prog HW 14 ds rs := by
  unfold call at h
  split at h
  · obtain ⟨x, hx, hk⟩ := Option.bind_eq_some_iff.1 h
    exact ⟨_, hk, ok (n := n) hx⟩
  · cases h
end remain_Split
/-! ### remain_Floor_1: function 71 -/
namespace remain_Floor_1
noncomputable def b0 (a0 : Bool) (a1 a2 : Int) : Ω (Bool) := some a0
noncomputable def f (a0 : Bool) (a1 a2 : Int) : Ω (Bool) := b0 a0 a1 a2
noncomputable def sg : Sig (Bool) := s1 (sBool)
noncomputable def code : Code := (Tryd.f71.body).getD .skip
noncomputable def cfg : Cfg (Bool) := { T := tys, call := noCall }
noncomputable def cuts : List (Nat × List (Nat × Want)) := []
theorem e0 (n : Nat) (J : Jt (Bool)) (a0 : Bool) (a1 a2 : Int) : afun cfg J cuts n code Tryd.f71.results.toList [false] [.bool a0, .int .u64 a1, .int .i64 a2] sg.out = b0 a0 a1 a2 := by kernel_rfl
theorem eq (n : Nat) (a0 : Bool) (a1 a2 : Int) : afun cfg idJ cuts n code Tryd.f71.results.toList [false] [.bool a0, .int .u64 a1, .int .i64 a2] sg.out = f a0 a1 a2 := (e0 n idJ a0 a1 a2).trans (rfl)
theorem ok {n : Nat} {a0 : Bool} {a1 : Int} {a2 : Int} {r : Bool} (h : f a0 a1 a2 = some r) : CallD Tryd.prog HW 71 [.bool a0, .int .u64 a1, .int .i64 a2] (sg.enc r) :=
  fun_some hwS Tryd.func71 (by kernel_rfl) (body := code) (by kernel_rfl) tys_ok (c := cfg) noCall_ok noW_ok (by kernel_rfl) (by kernel_rfl) (Nat.le_of_ble_eq_true (by kernel_rfl)) ((eq n a0 a1 a2).trans h)
noncomputable def call {α : Type} (g : Bool→Int→Int→Ω (Bool)) (ds : List D) (K : List D→Ω α) : Ω α := match ds with
  | [.bool a0, .int .u64 a1, .int .i64 a2] => (g a0 a1 a2).bind fun r => K (sg.enc r)
  | _ => none
theorem call_ok {α : Type} {n : Nat} (ds : List D) (K : List D→Ω α) (r : α) (h : call f ds K = some r) : ∃ rs, K rs = some r ∧ CallD Tryd.prog HW 71 ds rs := by
  unfold call at h
  split at h
  · obtain ⟨x, hx, hk⟩ := Option.bind_eq_some_iff.1 h
    exact ⟨_, hk, ok (n := n) hx⟩
  · cases h
end remain_Floor_1
/-! ### remain_round_71: function 63 -/
namespace remain_round_71
noncomputable def b0 (c20 : Int→Ω (Bool × Int × Int × Int)) (c41 : Bool→Int→Ω (Int)) (c71 : Bool→Int→Int→Ω (Bool)) (c87 : Int→Ω (Int)) (k255 : Int→Int→Bool→Int→Int→Int→Ω (Int)) (a0 : Int) : Ω (Int) := ((c20 a0).bind fun t1 => (if t1.2.1 = 4 then some 9221120237041090560 else (if t1.2.1 = 3 then some a0 else (if t1.2.1 = 0 then some a0 else (if t1.2.2.2 ≥ 0 then some a0 else (if (wrap64 (-t1.2.2.2)) ≤ 63 then (if 0 ≤ (wrap64 (-t1.2.2.2)) then (if 0 ≤ (wrap64 (-t1.2.2.2)) then (if 0 ≤ (wrap64 ((wrap64 (-t1.2.2.2)) - 1)) then (if (Go.bits .and .u64 t1.2.2.1 (IntKind.u64.wrap ((shl .u64 1 (wrap64 (-t1.2.2.2))) - 1))) = 0 then k255 (shr .u64 t1.2.2.1 (wrap64 (-t1.2.2.2))) 0 t1.1 t1.2.1 t1.2.2.1 t1.2.2.2 else (if (Go.bits .and .u64 t1.2.2.1 (IntKind.u64.wrap ((shl .u64 1 (wrap64 (-t1.2.2.2))) - 1))) = (shl .u64 1 (wrap64 ((wrap64 (-t1.2.2.2)) - 1))) then k255 (shr .u64 t1.2.2.1 (wrap64 (-t1.2.2.2))) 2 t1.1 t1.2.1 t1.2.2.1 t1.2.2.2 else (if (Go.bits .and .u64 t1.2.2.1 (IntKind.u64.wrap ((shl .u64 1 (wrap64 (-t1.2.2.2))) - 1))) > (shl .u64 1 (wrap64 ((wrap64 (-t1.2.2.2)) - 1))) then k255 (shr .u64 t1.2.2.1 (wrap64 (-t1.2.2.2))) 3 t1.1 t1.2.1 t1.2.2.1 t1.2.2.2 else k255 (shr .u64 t1.2.2.1 (wrap64 (-t1.2.2.2))) 1 t1.1 t1.2.1 t1.2.2.1 t1.2.2.2))) else none) else none) else none) else k255 0 1 t1.1 t1.2.1 t1.2.2.1 t1.2.2.2))))))
noncomputable def b255 (c20 : Int→Ω (Bool × Int × Int × Int)) (c41 : Bool→Int→Ω (Int)) (c71 : Bool→Int→Int→Ω (Bool)) (c87 : Int→Ω (Int)) (k511 : Int→Bool→Int→Int→Int→Ω (Int)) (x0 x1 : Int) (x2 : Bool) (x3 x4 x5 : Int) : Ω (Int) := (if ¬ x1 = 0 then ((c71 x2 x0 x1).bind fun t1 => (if t1 = true then k511 (IntKind.u64.wrap (x0 + 1)) x2 x3 x4 x5 else k511 x0 x2 x3 x4 x5)) else k511 x0 x2 x3 x4 x5)
noncomputable def b511 (c20 : Int→Ω (Bool × Int × Int × Int)) (c41 : Bool→Int→Ω (Int)) (c71 : Bool→Int→Int→Ω (Bool)) (c87 : Int→Ω (Int)) (x0 : Int) (x1 : Bool) (x2 x3 x4 : Int) : Ω (Int) := ((c87 x0).bind fun t1 => ((c41 x1 t1).bind fun t2 => some t2))
noncomputable def l511 (n : Nat) (x0 : Int) (x1 : Bool) (x2 x3 x4 : Int) : Ω (Int) := b511 ieee_Decode.f remain_signed.f remain_Floor_1.f (ieee_FromUint.f n) x0 x1 x2 x3 x4
noncomputable def l255 (n : Nat) (x0 x1 : Int) (x2 : Bool) (x3 x4 x5 : Int) : Ω (Int) := b255 ieee_Decode.f remain_signed.f remain_Floor_1.f (ieee_FromUint.f n) (l511 n) x0 x1 x2 x3 x4 x5
noncomputable def f (n : Nat) (a0 : Int) : Ω (Int) := b0 ieee_Decode.f remain_signed.f remain_Floor_1.f (ieee_FromUint.f n) (l255 n) a0
noncomputable def sg : Sig (Int) := s1 (sInt .u64)
noncomputable def code : Code := (Tryd.f63.body).getD .skip
noncomputable def cfg (c20 : Int→Ω (Bool × Int × Int × Int)) (c41 : Bool→Int→Ω (Int)) (c71 : Bool→Int→Int→Ω (Bool)) (c87 : Int→Ω (Int)) : Cfg (Int) := { T := tys, call := orCall 20 (ieee_Decode.call c20) (orCall 41 (remain_signed.call c41) (orCall 71 (remain_Floor_1.call c71) (orCall 87 (ieee_FromUint.call c87) (noCall)))) }
noncomputable def cuts : List (Nat × List (Nat × Want)) := [(255, [(1, .keep), (5, .keep), (7, .keep), (8, .keep)]), (511, [(5, .keep), (7, .keep)])]
noncomputable def s255 (x0 x1 : Int) (x2 : Bool) (x3 x4 x5 : Int) : ASt := ⟨[(1, .fn 71), (5, .ptr 0 0), (7, .int .u64 x0), (8, .int .i64 x1)], [.cells 46 [.bool x2, .int .i64 x3, .int .u64 x4, .int .i64 x5]]⟩
noncomputable def s511 (x0 : Int) (x1 : Bool) (x2 x3 x4 : Int) : ASt := ⟨[(5, .ptr 0 0), (7, .int .u64 x0)], [.cells 46 [.bool x1, .int .i64 x2, .int .u64 x3, .int .i64 x4]]⟩
noncomputable def A (c20 : Int→Ω (Bool × Int × Int × Int)) (c41 : Bool→Int→Ω (Int)) (c71 : Bool→Int→Int→Ω (Bool)) (c87 : Int→Ω (Int)) (n : Nat) (J : Jt (Int)) (q : Nat) (ms : List Nat) : ASt→Ω (Int) := acont (cfg c20 c41 c71 c87) J cuts n q code 1 ms (aend (cfg c20 c41 c71 c87) Tryd.f63.results.toList [false] sg.out)
theorem e0 (c20 : Int→Ω (Bool × Int × Int × Int)) (c41 : Bool→Int→Ω (Int)) (c71 : Bool→Int→Int→Ω (Bool)) (c87 : Int→Ω (Int)) (n : Nat) (J : Jt (Int)) (a0 : Int) : afun (cfg c20 c41 c71 c87) J cuts n code Tryd.f63.results.toList [false] [.int .u64 a0, .fn 71] sg.out = b0 c20 c41 c71 c87 (fun y0 y1 y2 y3 y4 y5 => J 255 (A c20 c41 c71 c87 n J 255 []) (s255 y0 y1 y2 y3 y4 y5)) a0 := by kernel_rfl
theorem e255 (c20 : Int→Ω (Bool × Int × Int × Int)) (c41 : Bool→Int→Ω (Int)) (c71 : Bool→Int→Int→Ω (Bool)) (c87 : Int→Ω (Int)) (n : Nat) (J : Jt (Int)) (x0 x1 : Int) (x2 : Bool) (x3 x4 x5 : Int) : A c20 c41 c71 c87 n J 255 [] (s255 x0 x1 x2 x3 x4 x5) = b255 c20 c41 c71 c87 (fun y0 y1 y2 y3 y4 => J 511 (A c20 c41 c71 c87 n J 511 []) (s511 y0 y1 y2 y3 y4)) x0 x1 x2 x3 x4 x5 := by kernel_rfl
theorem e511 (c20 : Int→Ω (Bool × Int × Int × Int)) (c41 : Bool→Int→Ω (Int)) (c71 : Bool→Int→Int→Ω (Bool)) (c87 : Int→Ω (Int)) (n : Nat) (J : Jt (Int)) (x0 : Int) (x1 : Bool) (x2 x3 x4 : Int) : A c20 c41 c71 c87 n J 511 [] (s511 x0 x1 x2 x3 x4) = b511 c20 c41 c71 c87 x0 x1 x2 x3 x4 := by kernel_rfl
theorem q511 (n : Nat) (x0 : Int) (x1 : Bool) (x2 x3 x4 : Int) : A ieee_Decode.f remain_signed.f remain_Floor_1.f (ieee_FromUint.f n) n idJ 511 [] (s511 x0 x1 x2 x3 x4) = l511 n x0 x1 x2 x3 x4 := (e511 ieee_Decode.f remain_signed.f remain_Floor_1.f (ieee_FromUint.f n) n idJ x0 x1 x2 x3 x4).trans (rfl)
theorem q255 (n : Nat) (x0 x1 : Int) (x2 : Bool) (x3 x4 x5 : Int) : A ieee_Decode.f remain_signed.f remain_Floor_1.f (ieee_FromUint.f n) n idJ 255 [] (s255 x0 x1 x2 x3 x4 x5) = l255 n x0 x1 x2 x3 x4 x5 := (e255 ieee_Decode.f remain_signed.f remain_Floor_1.f (ieee_FromUint.f n) n idJ x0 x1 x2 x3 x4 x5).trans (congrFun (congrFun (congrFun (congrFun (congrFun (congrFun (congrArg (b255 ieee_Decode.f remain_signed.f remain_Floor_1.f (ieee_FromUint.f n)) (funext fun y0 => (funext fun y1 => (funext fun y2 => (funext fun y3 => (funext fun y4 => q511 n y0 y1 y2 y3 y4)))))) x0) x1) x2) x3) x4) x5)
theorem eq (n : Nat) (a0 : Int) : afun (cfg ieee_Decode.f remain_signed.f remain_Floor_1.f (ieee_FromUint.f n)) idJ cuts n code Tryd.f63.results.toList [false] [.int .u64 a0, .fn 71] sg.out = f n a0 := (e0 ieee_Decode.f remain_signed.f remain_Floor_1.f (ieee_FromUint.f n) n idJ a0).trans (congrFun (congrArg (b0 ieee_Decode.f remain_signed.f remain_Floor_1.f (ieee_FromUint.f n)) (funext fun y0 => (funext fun y1 => (funext fun y2 => (funext fun y3 => (funext fun y4 => (funext fun y5 => q255 n y0 y1 y2 y3 y4 y5))))))) a0)
theorem ok {n : Nat} {a0 : Int} {r : Int} (h : f n a0 = some r) : CallD Tryd.prog HW 63 [.int .u64 a0, .fn 71] (sg.enc r) :=
  fun_some hwS Tryd.func63 (by kernel_rfl) (body := code) (by kernel_rfl) tys_ok (c := cfg ieee_Decode.f remain_signed.f remain_Floor_1.f (ieee_FromUint.f n)) (orCall_ok (ieee_Decode.call_ok (n := n)) (orCall_ok (remain_signed.call_ok (n := n)) (orCall_ok (remain_Floor_1.call_ok (n := n)) (orCall_ok (ieee_FromUint.call_ok (n := n)) noCall_ok)))) noW_ok (by kernel_rfl) (by kernel_rfl) (Nat.le_of_ble_eq_true (by kernel_rfl)) ((eq n a0).trans h)
noncomputable def call {α : Type} (g : Int→Ω (Int)) (ds : List D) (K : List D→Ω α) : Ω α := match ds with
  | [.int .u64 a0, .fn f0] => (match Nat.beq f0 71 with
    | true => (g a0).bind fun r => K (sg.enc r)
    | false => none)
  | _ => none
theorem call_ok {α : Type} {n : Nat} (ds : List D) (K : List D→Ω α) (r : α) (h : call (f n) ds K = some r) : ∃ rs, K rs = some r ∧ CallD Tryd.prog HW 63 ds rs := by
  unfold call at h
  split at h
  · split at h
    · rename_i hq
      rw [Nat.eq_of_beq_eq_true hq]
      obtain ⟨x, hx, hk⟩ := Option.bind_eq_some_iff.1 h
      exact ⟨_, hk, ok (n := n) hx⟩
    · cases h
  · cases h
end remain_round_71
/-! ### remain_Floor: function 38 -/
namespace remain_Floor
noncomputable def b0 (c630071 : Int→Ω (Int)) (a0 : Int) : Ω (Int) := ((c630071 a0).bind fun t1 => some t1)
noncomputable def f (n : Nat) (a0 : Int) : Ω (Int) := b0 (remain_round_71.f n) a0
noncomputable def sg : Sig (Int) := s1 (sInt .u64)
noncomputable def code : Code := (Tryd.f38.body).getD .skip
noncomputable def cfg (c630071 : Int→Ω (Int)) : Cfg (Int) := { T := tys, call := orCall 63 (remain_round_71.call c630071) (noCall) }
noncomputable def cuts : List (Nat × List (Nat × Want)) := []
theorem e0 (c630071 : Int→Ω (Int)) (n : Nat) (J : Jt (Int)) (a0 : Int) : afun (cfg c630071) J cuts n code Tryd.f38.results.toList [false] [.int .u64 a0] sg.out = b0 c630071 a0 := by kernel_rfl
theorem eq (n : Nat) (a0 : Int) : afun (cfg (remain_round_71.f n)) idJ cuts n code Tryd.f38.results.toList [false] [.int .u64 a0] sg.out = f n a0 := (e0 (remain_round_71.f n) n idJ a0).trans (rfl)
theorem ok {n : Nat} {a0 : Int} {r : Int} (h : f n a0 = some r) : CallD Tryd.prog HW 38 [.int .u64 a0] (sg.enc r) :=
  fun_some hwS Tryd.func38 (by kernel_rfl) (body := code) (by kernel_rfl) tys_ok (c := cfg (remain_round_71.f n)) (orCall_ok (remain_round_71.call_ok (n := n)) noCall_ok) noW_ok (by kernel_rfl) (by kernel_rfl) (Nat.le_of_ble_eq_true (by kernel_rfl)) ((eq n a0).trans h)
noncomputable def call {α : Type} (g : Int→Ω (Int)) (ds : List D) (K : List D→Ω α) : Ω α := match ds with
  | [.int .u64 a0] => (g a0).bind fun r => K (sg.enc r)
  | _ => none
theorem call_ok {α : Type} {n : Nat} (ds : List D) (K : List D→Ω α) (r : α) (h : call (f n) ds K = some r) : ∃ rs, K rs = some r ∧ CallD Tryd.prog HW 38 ds rs := by
  unfold call at h
  split at h
  · obtain ⟨x, hx, hk⟩ := Option.bind_eq_some_iff.1 h
    exact ⟨_, hk, ok (n := n) hx⟩
  · cases h
end remain_Floor
/-! ### remain_Ceil_1: function 72 -/
namespace remain_Ceil_1
noncomputable def b0 (a0 : Bool) (a1 a2 : Int) : Ω (Bool) := some (!a0)
noncomputable def f (a0 : Bool) (a1 a2 : Int) : Ω (Bool) := b0 a0 a1 a2
noncomputable def sg : Sig (Bool) := s1 (sBool)
noncomputable def code : Code := (Tryd.f72.body).getD .skip
noncomputable def cfg : Cfg (Bool) := { T := tys, call := noCall }
noncomputable def cuts : List (Nat × List (Nat × Want)) := []
theorem e0 (n : Nat) (J : Jt (Bool)) (a0 : Bool) (a1 a2 : Int) : afun cfg J cuts n code Tryd.f72.results.toList [false] [.bool a0, .int .u64 a1, .int .i64 a2] sg.out = b0 a0 a1 a2 := by kernel_rfl
theorem eq (n : Nat) (a0 : Bool) (a1 a2 : Int) : afun cfg idJ cuts n code Tryd.f72.results.toList [false] [.bool a0, .int .u64 a1, .int .i64 a2] sg.out = f a0 a1 a2 := (e0 n idJ a0 a1 a2).trans (rfl)
theorem ok {n : Nat} {a0 : Bool} {a1 : Int} {a2 : Int} {r : Bool} (h : f a0 a1 a2 = some r) : CallD Tryd.prog HW 72 [.bool a0, .int .u64 a1, .int .i64 a2] (sg.enc r) :=
  fun_some hwS Tryd.func72 (by kernel_rfl) (body := code) (by kernel_rfl) tys_ok (c := cfg) noCall_ok noW_ok (by kernel_rfl) (by kernel_rfl) (Nat.le_of_ble_eq_true (by kernel_rfl)) ((eq n a0 a1 a2).trans h)
noncomputable def call {α : Type} (g : Bool→Int→Int→Ω (Bool)) (ds : List D) (K : List D→Ω α) : Ω α := match ds with
  | [.bool a0, .int .u64 a1, .int .i64 a2] => (g a0 a1 a2).bind fun r => K (sg.enc r)
  | _ => none
theorem call_ok {α : Type} {n : Nat} (ds : List D) (K : List D→Ω α) (r : α) (h : call f ds K = some r) : ∃ rs, K rs = some r ∧ CallD Tryd.prog HW 72 ds rs := by
  unfold call at h
  split at h
  · obtain ⟨x, hx, hk⟩ := Option.bind_eq_some_iff.1 h
    exact ⟨_, hk, ok (n := n) hx⟩
  · cases h
end remain_Ceil_1
/-! ### remain_round_72: function 63 -/
namespace remain_round_72
noncomputable def b0 (c20 : Int→Ω (Bool × Int × Int × Int)) (c41 : Bool→Int→Ω (Int)) (c72 : Bool→Int→Int→Ω (Bool)) (c87 : Int→Ω (Int)) (k255 : Int→Int→Bool→Int→Int→Int→Ω (Int)) (a0 : Int) : Ω (Int) := ((c20 a0).bind fun t1 => (if t1.2.1 = 4 then some 9221120237041090560 else (if t1.2.1 = 3 then some a0 else (if t1.2.1 = 0 then some a0 else (if t1.2.2.2 ≥ 0 then some a0 else (if (wrap64 (-t1.2.2.2)) ≤ 63 then (if 0 ≤ (wrap64 (-t1.2.2.2)) then (if 0 ≤ (wrap64 (-t1.2.2.2)) then (if 0 ≤ (wrap64 ((wrap64 (-t1.2.2.2)) - 1)) then (if (Go.bits .and .u64 t1.2.2.1 (IntKind.u64.wrap ((shl .u64 1 (wrap64 (-t1.2.2.2))) - 1))) = 0 then k255 (shr .u64 t1.2.2.1 (wrap64 (-t1.2.2.2))) 0 t1.1 t1.2.1 t1.2.2.1 t1.2.2.2 else (if (Go.bits .and .u64 t1.2.2.1 (IntKind.u64.wrap ((shl .u64 1 (wrap64 (-t1.2.2.2))) - 1))) = (shl .u64 1 (wrap64 ((wrap64 (-t1.2.2.2)) - 1))) then k255 (shr .u64 t1.2.2.1 (wrap64 (-t1.2.2.2))) 2 t1.1 t1.2.1 t1.2.2.1 t1.2.2.2 else (if (Go.bits .and .u64 t1.2.2.1 (IntKind.u64.wrap ((shl .u64 1 (wrap64 (-t1.2.2.2))) - 1))) > (shl .u64 1 (wrap64 ((wrap64 (-t1.2.2.2)) - 1))) then k255 (shr .u64 t1.2.2.1 (wrap64 (-t1.2.2.2))) 3 t1.1 t1.2.1 t1.2.2.1 t1.2.2.2 else k255 (shr .u64 t1.2.2.1 (wrap64 (-t1.2.2.2))) 1 t1.1 t1.2.1 t1.2.2.1 t1.2.2.2))) else none) else none) else none) else k255 0 1 t1.1 t1.2.1 t1.2.2.1 t1.2.2.2))))))
noncomputable def b255 (c20 : Int→Ω (Bool × Int × Int × Int)) (c41 : Bool→Int→Ω (Int)) (c72 : Bool→Int→Int→Ω (Bool)) (c87 : Int→Ω (Int)) (k511 : Int→Bool→Int→Int→Int→Ω (Int)) (x0 x1 : Int) (x2 : Bool) (x3 x4 x5 : Int) : Ω (Int) := (if ¬ x1 = 0 then ((c72 x2 x0 x1).bind fun t1 => (if t1 = true then k511 (IntKind.u64.wrap (x0 + 1)) x2 x3 x4 x5 else k511 x0 x2 x3 x4 x5)) else k511 x0 x2 x3 x4 x5)
noncomputable def b511 (c20 : Int→Ω (Bool × Int × Int × Int)) (c41 : Bool→Int→Ω (Int)) (c72 : Bool→Int→Int→Ω (Bool)) (c87 : Int→Ω (Int)) (x0 : Int) (x1 : Bool) (x2 x3 x4 : Int) : Ω (Int) := ((c87 x0).bind fun t1 => ((c41 x1 t1).bind fun t2 => some t2))
noncomputable def l511 (n : Nat) (x0 : Int) (x1 : Bool) (x2 x3 x4 : Int) : Ω (Int) := b511 ieee_Decode.f remain_signed.f remain_Ceil_1.f (ieee_FromUint.f n) x0 x1 x2 x3 x4
noncomputable def l255 (n : Nat) (x0 x1 : Int) (x2 : Bool) (x3 x4 x5 : Int) : Ω (Int) := b255 ieee_Decode.f remain_signed.f remain_Ceil_1.f (ieee_FromUint.f n) (l511 n) x0 x1 x2 x3 x4 x5
noncomputable def f (n : Nat) (a0 : Int) : Ω (Int) := b0 ieee_Decode.f remain_signed.f remain_Ceil_1.f (ieee_FromUint.f n) (l255 n) a0
noncomputable def sg : Sig (Int) := s1 (sInt .u64)
noncomputable def code : Code := (Tryd.f63.body).getD .skip
noncomputable def cfg (c20 : Int→Ω (Bool × Int × Int × Int)) (c41 : Bool→Int→Ω (Int)) (c72 : Bool→Int→Int→Ω (Bool)) (c87 : Int→Ω (Int)) : Cfg (Int) := { T := tys, call := orCall 20 (ieee_Decode.call c20) (orCall 41 (remain_signed.call c41) (orCall 72 (remain_Ceil_1.call c72) (orCall 87 (ieee_FromUint.call c87) (noCall)))) }
noncomputable def cuts : List (Nat × List (Nat × Want)) := [(255, [(1, .keep), (5, .keep), (7, .keep), (8, .keep)]), (511, [(5, .keep), (7, .keep)])]
noncomputable def s255 (x0 x1 : Int) (x2 : Bool) (x3 x4 x5 : Int) : ASt := ⟨[(1, .fn 72), (5, .ptr 0 0), (7, .int .u64 x0), (8, .int .i64 x1)], [.cells 46 [.bool x2, .int .i64 x3, .int .u64 x4, .int .i64 x5]]⟩
noncomputable def s511 (x0 : Int) (x1 : Bool) (x2 x3 x4 : Int) : ASt := ⟨[(5, .ptr 0 0), (7, .int .u64 x0)], [.cells 46 [.bool x1, .int .i64 x2, .int .u64 x3, .int .i64 x4]]⟩
noncomputable def A (c20 : Int→Ω (Bool × Int × Int × Int)) (c41 : Bool→Int→Ω (Int)) (c72 : Bool→Int→Int→Ω (Bool)) (c87 : Int→Ω (Int)) (n : Nat) (J : Jt (Int)) (q : Nat) (ms : List Nat) : ASt→Ω (Int) := acont (cfg c20 c41 c72 c87) J cuts n q code 1 ms (aend (cfg c20 c41 c72 c87) Tryd.f63.results.toList [false] sg.out)
theorem e0 (c20 : Int→Ω (Bool × Int × Int × Int)) (c41 : Bool→Int→Ω (Int)) (c72 : Bool→Int→Int→Ω (Bool)) (c87 : Int→Ω (Int)) (n : Nat) (J : Jt (Int)) (a0 : Int) : afun (cfg c20 c41 c72 c87) J cuts n code Tryd.f63.results.toList [false] [.int .u64 a0, .fn 72] sg.out = b0 c20 c41 c72 c87 (fun y0 y1 y2 y3 y4 y5 => J 255 (A c20 c41 c72 c87 n J 255 []) (s255 y0 y1 y2 y3 y4 y5)) a0 := by kernel_rfl
theorem e255 (c20 : Int→Ω (Bool × Int × Int × Int)) (c41 : Bool→Int→Ω (Int)) (c72 : Bool→Int→Int→Ω (Bool)) (c87 : Int→Ω (Int)) (n : Nat) (J : Jt (Int)) (x0 x1 : Int) (x2 : Bool) (x3 x4 x5 : Int) : A c20 c41 c72 c87 n J 255 [] (s255 x0 x1 x2 x3 x4 x5) = b255 c20 c41 c72 c87 (fun y0 y1 y2 y3 y4 => J 511 (A c20 c41 c72 c87 n J 511 []) (s511 y0 y1 y2 y3 y4)) x0 x1 x2 x3 x4 x5 := by kernel_rfl
theorem e511 (c20 : Int→Ω (Bool × Int × Int × Int)) (c41 : Bool→Int→Ω (Int)) (c72 : Bool→Int→Int→Ω (Bool)) (c87 : Int→Ω (Int)) (n : Nat) (J : Jt (Int)) (x0 : Int) (x1 : Bool) (x2 x3 x4 : Int) : A c20 c41 c72 c87 n J 511 [] (s511 x0 x1 x2 x3 x4) = b511 c20 c41 c72 c87 x0 x1 x2 x3 x4 := by kernel_rfl
theorem q511 (n : Nat) (x0 : Int) (x1 : Bool) (x2 x3 x4 : Int) : A ieee_Decode.f remain_signed.f remain_Ceil_1.f (ieee_FromUint.f n) n idJ 511 [] (s511 x0 x1 x2 x3 x4) = l511 n x0 x1 x2 x3 x4 := (e511 ieee_Decode.f remain_signed.f remain_Ceil_1.f (ieee_FromUint.f n) n idJ x0 x1 x2 x3 x4).trans (rfl)
theorem q255 (n : Nat) (x0 x1 : Int) (x2 : Bool) (x3 x4 x5 : Int) : A ieee_Decode.f remain_signed.f remain_Ceil_1.f (ieee_FromUint.f n) n idJ 255 [] (s255 x0 x1 x2 x3 x4 x5) = l255 n x0 x1 x2 x3 x4 x5 := (e255 ieee_Decode.f remain_signed.f remain_Ceil_1.f (ieee_FromUint.f n) n idJ x0 x1 x2 x3 x4 x5).trans (congrFun (congrFun (congrFun (congrFun (congrFun (congrFun (congrArg (b255 ieee_Decode.f remain_signed.f remain_Ceil_1.f (ieee_FromUint.f n)) (funext fun y0 => (funext fun y1 => (funext fun y2 => (funext fun y3 => (funext fun y4 => q511 n y0 y1 y2 y3 y4)))))) x0) x1) x2) x3) x4) x5)
theorem eq (n : Nat) (a0 : Int) : afun (cfg ieee_Decode.f remain_signed.f remain_Ceil_1.f (ieee_FromUint.f n)) idJ cuts n code Tryd.f63.results.toList [false] [.int .u64 a0, .fn 72] sg.out = f n a0 := (e0 ieee_Decode.f remain_signed.f remain_Ceil_1.f (ieee_FromUint.f n) n idJ a0).trans (congrFun (congrArg (b0 ieee_Decode.f remain_signed.f remain_Ceil_1.f (ieee_FromUint.f n)) (funext fun y0 => (funext fun y1 => (funext fun y2 => (funext fun y3 => (funext fun y4 => (funext fun y5 => q255 n y0 y1 y2 y3 y4 y5))))))) a0)
theorem ok {n : Nat} {a0 : Int} {r : Int} (h : f n a0 = some r) : CallD Tryd.prog HW 63 [.int .u64 a0, .fn 72] (sg.enc r) :=
  fun_some hwS Tryd.func63 (by kernel_rfl) (body := code) (by kernel_rfl) tys_ok (c := cfg ieee_Decode.f remain_signed.f remain_Ceil_1.f (ieee_FromUint.f n)) (orCall_ok (ieee_Decode.call_ok (n := n)) (orCall_ok (remain_signed.call_ok (n := n)) (orCall_ok (remain_Ceil_1.call_ok (n := n)) (orCall_ok (ieee_FromUint.call_ok (n := n)) noCall_ok)))) noW_ok (by kernel_rfl) (by kernel_rfl) (Nat.le_of_ble_eq_true (by kernel_rfl)) ((eq n a0).trans h)
noncomputable def call {α : Type} (g : Int→Ω (Int)) (ds : List D) (K : List D→Ω α) : Ω α := match ds with
  | [.int .u64 a0, .fn f0] => (match Nat.beq f0 72 with
    | true => (g a0).bind fun r => K (sg.enc r)
    | false => none)
  | _ => none
theorem call_ok {α : Type} {n : Nat} (ds : List D) (K : List D→Ω α) (r : α) (h : call (f n) ds K = some r) : ∃ rs, K rs = some r ∧ CallD Tryd.prog HW 63 ds rs := by
  unfold call at h
  split at h
  · split at h
    · rename_i hq
      rw [Nat.eq_of_beq_eq_true hq]
      obtain ⟨x, hx, hk⟩ := Option.bind_eq_some_iff.1 h
      exact ⟨_, hk, ok (n := n) hx⟩
    · cases h
  · cases h
end remain_round_72
/-! ### remain_Ceil: function 39 -/
namespace remain_Ceil
noncomputable def b0 (c630072 : Int→Ω (Int)) (a0 : Int) : Ω (Int) := ((c630072 a0).bind fun t1 => some t1)
noncomputable def f (n : Nat) (a0 : Int) : Ω (Int) := b0 (remain_round_72.f n) a0
noncomputable def sg : Sig (Int) := s1 (sInt .u64)
noncomputable def code : Code := (Tryd.f39.body).getD .skip
noncomputable def cfg (c630072 : Int→Ω (Int)) : Cfg (Int) := { T := tys, call := orCall 63 (remain_round_72.call c630072) (noCall) }
noncomputable def cuts : List (Nat × List (Nat × Want)) := []
theorem e0 (c630072 : Int→Ω (Int)) (n : Nat) (J : Jt (Int)) (a0 : Int) : afun (cfg c630072) J cuts n code Tryd.f39.results.toList [false] [.int .u64 a0] sg.out = b0 c630072 a0 := by kernel_rfl
theorem eq (n : Nat) (a0 : Int) : afun (cfg (remain_round_72.f n)) idJ cuts n code Tryd.f39.results.toList [false] [.int .u64 a0] sg.out = f n a0 := (e0 (remain_round_72.f n) n idJ a0).trans (rfl)
theorem ok {n : Nat} {a0 : Int} {r : Int} (h : f n a0 = some r) : CallD Tryd.prog HW 39 [.int .u64 a0] (sg.enc r) :=
  fun_some hwS Tryd.func39 (by kernel_rfl) (body := code) (by kernel_rfl) tys_ok (c := cfg (remain_round_72.f n)) (orCall_ok (remain_round_72.call_ok (n := n)) noCall_ok) noW_ok (by kernel_rfl) (by kernel_rfl) (Nat.le_of_ble_eq_true (by kernel_rfl)) ((eq n a0).trans h)
noncomputable def call {α : Type} (g : Int→Ω (Int)) (ds : List D) (K : List D→Ω α) : Ω α := match ds with
  | [.int .u64 a0] => (g a0).bind fun r => K (sg.enc r)
  | _ => none
theorem call_ok {α : Type} {n : Nat} (ds : List D) (K : List D→Ω α) (r : α) (h : call (f n) ds K = some r) : ∃ rs, K rs = some r ∧ CallD Tryd.prog HW 39 ds rs := by
  unfold call at h
  split at h
  · obtain ⟨x, hx, hk⟩ := Option.bind_eq_some_iff.1 h
    exact ⟨_, hk, ok (n := n) hx⟩
  · cases h
end remain_Ceil
/-! ### remain_Near_1: function 73 -/
namespace remain_Near_1
noncomputable def b0 (a0 : Bool) (a1 a2 : Int) : Ω (Bool) := (if a2 = 3 then some true else (if a2 = 2 then some (decide ((Int.tmod a1 2) = 1)) else some false))
noncomputable def f (a0 : Bool) (a1 a2 : Int) : Ω (Bool) := b0 a0 a1 a2
noncomputable def sg : Sig (Bool) := s1 (sBool)
noncomputable def code : Code := (Tryd.f73.body).getD .skip
noncomputable def cfg : Cfg (Bool) := { T := tys, call := noCall }
noncomputable def cuts : List (Nat × List (Nat × Want)) := []
theorem e0 (n : Nat) (J : Jt (Bool)) (a0 : Bool) (a1 a2 : Int) : afun cfg J cuts n code Tryd.f73.results.toList [false] [.bool a0, .int .u64 a1, .int .i64 a2] sg.out = b0 a0 a1 a2 := by kernel_rfl
theorem eq (n : Nat) (a0 : Bool) (a1 a2 : Int) : afun cfg idJ cuts n code Tryd.f73.results.toList [false] [.bool a0, .int .u64 a1, .int .i64 a2] sg.out = f a0 a1 a2 := (e0 n idJ a0 a1 a2).trans (rfl)
theorem ok {n : Nat} {a0 : Bool} {a1 : Int} {a2 : Int} {r : Bool} (h : f a0 a1 a2 = some r) : CallD Tryd.prog HW 73 [.bool a0, .int .u64 a1, .int .i64 a2] (sg.enc r) :=
  fun_some hwS Tryd.func73 (by kernel_rfl) (body := code) (by kernel_rfl) tys_ok (c := cfg) noCall_ok noW_ok (by kernel_rfl) (by kernel_rfl) (Nat.le_of_ble_eq_true (by kernel_rfl)) ((eq n a0 a1 a2).trans h)
noncomputable def call {α : Type} (g : Bool→Int→Int→Ω (Bool)) (ds : List D) (K : List D→Ω α) : Ω α := match ds with
  | [.bool a0, .int .u64 a1, .int .i64 a2] => (g a0 a1 a2).bind fun r => K (sg.enc r)
  | _ => none
theorem call_ok {α : Type} {n : Nat} (ds : List D) (K : List D→Ω α) (r : α) (h : call f ds K = some r) : ∃ rs, K rs = some r ∧ CallD Tryd.prog HW 73 ds rs := by
  unfold call at h
  split at h
  · obtain ⟨x, hx, hk⟩ := Option.bind_eq_some_iff.1 h
    exact ⟨_, hk, ok (n := n) hx⟩
  · cases h
end remain_Near_1
/-! ### remain_round_73: function 63 -/
namespace remain_round_73
noncomputable def b0 (c20 : Int→Ω (Bool × Int × Int × Int)) (c41 : Bool→Int→Ω (Int)) (c73 : Bool→Int→Int→Ω (Bool)) (c87 : Int→Ω (Int)) (k255 : Int→Int→Bool→Int→Int→Int→Ω (Int)) (a0 : Int) : Ω (Int) := ((c20 a0).bind fun t1 => (if t1.2.1 = 4 then some 9221120237041090560 else (if t1.2.1 = 3 then some a0 else (if t1.2.1 = 0 then some a0 else (if t1.2.2.2 ≥ 0 then some a0 else (if (wrap64 (-t1.2.2.2)) ≤ 63 then (if 0 ≤ (wrap64 (-t1.2.2.2)) then (if 0 ≤ (wrap64 (-t1.2.2.2)) then (if 0 ≤ (wrap64 ((wrap64 (-t1.2.2.2)) - 1)) then (if (Go.bits .and .u64 t1.2.2.1 (IntKind.u64.wrap ((shl .u64 1 (wrap64 (-t1.2.2.2))) - 1))) = 0 then k255 (shr .u64 t1.2.2.1 (wrap64 (-t1.2.2.2))) 0 t1.1 t1.2.1 t1.2.2.1 t1.2.2.2 else (if (Go.bits .and .u64 t1.2.2.1 (IntKind.u64.wrap ((shl .u64 1 (wrap64 (-t1.2.2.2))) - 1))) = (shl .u64 1 (wrap64 ((wrap64 (-t1.2.2.2)) - 1))) then k255 (shr .u64 t1.2.2.1 (wrap64 (-t1.2.2.2))) 2 t1.1 t1.2.1 t1.2.2.1 t1.2.2.2 else (if (Go.bits .and .u64 t1.2.2.1 (IntKind.u64.wrap ((shl .u64 1 (wrap64 (-t1.2.2.2))) - 1))) > (shl .u64 1 (wrap64 ((wrap64 (-t1.2.2.2)) - 1))) then k255 (shr .u64 t1.2.2.1 (wrap64 (-t1.2.2.2))) 3 t1.1 t1.2.1 t1.2.2.1 t1.2.2.2 else k255 (shr .u64 t1.2.2.1 (wrap64 (-t1.2.2.2))) 1 t1.1 t1.2.1 t1.2.2.1 t1.2.2.2))) else none) else none) else none) else k255 0 1 t1.1 t1.2.1 t1.2.2.1 t1.2.2.2))))))
noncomputable def b255 (c20 : Int→Ω (Bool × Int × Int × Int)) (c41 : Bool→Int→Ω (Int)) (c73 : Bool→Int→Int→Ω (Bool)) (c87 : Int→Ω (Int)) (k511 : Int→Bool→Int→Int→Int→Ω (Int)) (x0 x1 : Int) (x2 : Bool) (x3 x4 x5 : Int) : Ω (Int) := (if ¬ x1 = 0 then ((c73 x2 x0 x1).bind fun t1 => (if t1 = true then k511 (IntKind.u64.wrap (x0 + 1)) x2 x3 x4 x5 else k511 x0 x2 x3 x4 x5)) else k511 x0 x2 x3 x4 x5)
noncomputable def b511 (c20 : Int→Ω (Bool × Int × Int × Int)) (c41 : Bool→Int→Ω (Int)) (c73 : Bool→Int→Int→Ω (Bool)) (c87 : Int→Ω (Int)) (x0 : Int) (x1 : Bool) (x2 x3 x4 : Int) : Ω (Int) := ((c87 x0).bind fun t1 => ((c41 x1 t1).bind fun t2 => some t2))
noncomputable def l511 (n : Nat) (x0 : Int) (x1 : Bool) (x2 x3 x4 : Int) : Ω (Int) := b511 ieee_Decode.f remain_signed.f remain_Near_1.f (ieee_FromUint.f n) x0 x1 x2 x3 x4
noncomputable def l255 (n : Nat) (x0 x1 : Int) (x2 : Bool) (x3 x4 x5 : Int) : Ω (Int) := b255 ieee_Decode.f remain_signed.f remain_Near_1.f (ieee_FromUint.f n) (l511 n) x0 x1 x2 x3 x4 x5
noncomputable def f (n : Nat) (a0 : Int) : Ω (Int) := b0 ieee_Decode.f remain_signed.f remain_Near_1.f (ieee_FromUint.f n) (l255 n) a0
noncomputable def sg : Sig (Int) := s1 (sInt .u64)
noncomputable def code : Code := (Tryd.f63.body).getD .skip
noncomputable def cfg (c20 : Int→Ω (Bool × Int × Int × Int)) (c41 : Bool→Int→Ω (Int)) (c73 : Bool→Int→Int→Ω (Bool)) (c87 : Int→Ω (Int)) : Cfg (Int) := { T := tys, call := orCall 20 (ieee_Decode.call c20) (orCall 41 (remain_signed.call c41) (orCall 73 (remain_Near_1.call c73) (orCall 87 (ieee_FromUint.call c87) (noCall)))) }
noncomputable def cuts : List (Nat × List (Nat × Want)) := [(255, [(1, .keep), (5, .keep), (7, .keep), (8, .keep)]), (511, [(5, .keep), (7, .keep)])]
noncomputable def s255 (x0 x1 : Int) (x2 : Bool) (x3 x4 x5 : Int) : ASt := ⟨[(1, .fn 73), (5, .ptr 0 0), (7, .int .u64 x0), (8, .int .i64 x1)], [.cells 46 [.bool x2, .int .i64 x3, .int .u64 x4, .int .i64 x5]]⟩
noncomputable def s511 (x0 : Int) (x1 : Bool) (x2 x3 x4 : Int) : ASt := ⟨[(5, .ptr 0 0), (7, .int .u64 x0)], [.cells 46 [.bool x1, .int .i64 x2, .int .u64 x3, .int .i64 x4]]⟩
noncomputable def A (c20 : Int→Ω (Bool × Int × Int × Int)) (c41 : Bool→Int→Ω (Int)) (c73 : Bool→Int→Int→Ω (Bool)) (c87 : Int→Ω (Int)) (n : Nat) (J : Jt (Int)) (q : Nat) (ms : List Nat) : ASt→Ω (Int) := acont (cfg c20 c41 c73 c87) J cuts n q code 1 ms (aend (cfg c20 c41 c73 c87) Tryd.f63.results.toList [false] sg.out)
theorem e0 (c20 : Int→Ω (Bool × Int × Int × Int)) (c41 : Bool→Int→Ω (Int)) (c73 : Bool→Int→Int→Ω (Bool)) (c87 : Int→Ω (Int)) (n : Nat) (J : Jt (Int)) (a0 : Int) : afun (cfg c20 c41 c73 c87) J cuts n code Tryd.f63.results.toList [false] [.int .u64 a0, .fn 73] sg.out = b0 c20 c41 c73 c87 (fun y0 y1 y2 y3 y4 y5 => J 255 (A c20 c41 c73 c87 n J 255 []) (s255 y0 y1 y2 y3 y4 y5)) a0 := by kernel_rfl
theorem e255 (c20 : Int→Ω (Bool × Int × Int × Int)) (c41 : Bool→Int→Ω (Int)) (c73 : Bool→Int→Int→Ω (Bool)) (c87 : Int→Ω (Int)) (n : Nat) (J : Jt (Int)) (x0 x1 : Int) (x2 : Bool) (x3 x4 x5 : Int) : A c20 c41 c73 c87 n J 255 [] (s255 x0 x1 x2 x3 x4 x5) = b255 c20 c41 c73 c87 (fun y0 y1 y2 y3 y4 => J 511 (A c20 c41 c73 c87 n J 511 []) (s511 y0 y1 y2 y3 y4)) x0 x1 x2 x3 x4 x5 := by kernel_rfl
theorem e511 (c20 : Int→Ω (Bool × Int × Int × Int)) (c41 : Bool→Int→Ω (Int)) (c73 : Bool→Int→Int→Ω (Bool)) (c87 : Int→Ω (Int)) (n : Nat) (J : Jt (Int)) (x0 : Int) (x1 : Bool) (x2 x3 x4 : Int) : A c20 c41 c73 c87 n J 511 [] (s511 x0 x1 x2 x3 x4) = b511 c20 c41 c73 c87 x0 x1 x2 x3 x4 := by kernel_rfl
theorem q511 (n : Nat) (x0 : Int) (x1 : Bool) (x2 x3 x4 : Int) : A ieee_Decode.f remain_signed.f remain_Near_1.f (ieee_FromUint.f n) n idJ 511 [] (s511 x0 x1 x2 x3 x4) = l511 n x0 x1 x2 x3 x4 := (e511 ieee_Decode.f remain_signed.f remain_Near_1.f (ieee_FromUint.f n) n idJ x0 x1 x2 x3 x4).trans (rfl)
theorem q255 (n : Nat) (x0 x1 : Int) (x2 : Bool) (x3 x4 x5 : Int) : A ieee_Decode.f remain_signed.f remain_Near_1.f (ieee_FromUint.f n) n idJ 255 [] (s255 x0 x1 x2 x3 x4 x5) = l255 n x0 x1 x2 x3 x4 x5 := (e255 ieee_Decode.f remain_signed.f remain_Near_1.f (ieee_FromUint.f n) n idJ x0 x1 x2 x3 x4 x5).trans (congrFun (congrFun (congrFun (congrFun (congrFun (congrFun (congrArg (b255 ieee_Decode.f remain_signed.f remain_Near_1.f (ieee_FromUint.f n)) (funext fun y0 => (funext fun y1 => (funext fun y2 => (funext fun y3 => (funext fun y4 => q511 n y0 y1 y2 y3 y4)))))) x0) x1) x2) x3) x4) x5)
theorem eq (n : Nat) (a0 : Int) : afun (cfg ieee_Decode.f remain_signed.f remain_Near_1.f (ieee_FromUint.f n)) idJ cuts n code Tryd.f63.results.toList [false] [.int .u64 a0, .fn 73] sg.out = f n a0 := (e0 ieee_Decode.f remain_signed.f remain_Near_1.f (ieee_FromUint.f n) n idJ a0).trans (congrFun (congrArg (b0 ieee_Decode.f remain_signed.f remain_Near_1.f (ieee_FromUint.f n)) (funext fun y0 => (funext fun y1 => (funext fun y2 => (funext fun y3 => (funext fun y4 => (funext fun y5 => q255 n y0 y1 y2 y3 y4 y5))))))) a0)
theorem ok {n : Nat} {a0 : Int} {r : Int} (h : f n a0 = some r) : CallD Tryd.prog HW 63 [.int .u64 a0, .fn 73] (sg.enc r) :=
  fun_some hwS Tryd.func63 (by kernel_rfl) (body := code) (by kernel_rfl) tys_ok (c := cfg ieee_Decode.f remain_signed.f remain_Near_1.f (ieee_FromUint.f n)) (orCall_ok (ieee_Decode.call_ok (n := n)) (orCall_ok (remain_signed.call_ok (n := n)) (orCall_ok (remain_Near_1.call_ok (n := n)) (orCall_ok (ieee_FromUint.call_ok (n := n)) noCall_ok)))) noW_ok (by kernel_rfl) (by kernel_rfl) (Nat.le_of_ble_eq_true (by kernel_rfl)) ((eq n a0).trans h)
noncomputable def call {α : Type} (g : Int→Ω (Int)) (ds : List D) (K : List D→Ω α) : Ω α := match ds with
  | [.int .u64 a0, .fn f0] => (match Nat.beq f0 73 with
    | true => (g a0).bind fun r => K (sg.enc r)
    | false => none)
  | _ => none
theorem call_ok {α : Type} {n : Nat} (ds : List D) (K : List D→Ω α) (r : α) (h : call (f n) ds K = some r) : ∃ rs, K rs = some r ∧ CallD Tryd.prog HW 63 ds rs := by
  unfold call at h
  split at h
  · split at h
    · rename_i hq
      rw [Nat.eq_of_beq_eq_true hq]
      obtain ⟨x, hx, hk⟩ := Option.bind_eq_some_iff.1 h
      exact ⟨_, hk, ok (n := n) hx⟩
    · cases h
  · cases h
end remain_round_73
/-! ### remain_Near: function 40 -/
namespace remain_Near
noncomputable def b0 (c630073 : Int→Ω (Int)) (a0 : Int) : Ω (Int) := ((c630073 a0).bind fun t1 => some t1)
noncomputable def f (n : Nat) (a0 : Int) : Ω (Int) := b0 (remain_round_73.f n) a0
noncomputable def sg : Sig (Int) := s1 (sInt .u64)
noncomputable def code : Code := (Tryd.f40.body).getD .skip
noncomputable def cfg (c630073 : Int→Ω (Int)) : Cfg (Int) := { T := tys, call := orCall 63 (remain_round_73.call c630073) (noCall) }
noncomputable def cuts : List (Nat × List (Nat × Want)) := []
theorem e0 (c630073 : Int→Ω (Int)) (n : Nat) (J : Jt (Int)) (a0 : Int) : afun (cfg c630073) J cuts n code Tryd.f40.results.toList [false] [.int .u64 a0] sg.out = b0 c630073 a0 := by kernel_rfl
theorem eq (n : Nat) (a0 : Int) : afun (cfg (remain_round_73.f n)) idJ cuts n code Tryd.f40.results.toList [false] [.int .u64 a0] sg.out = f n a0 := (e0 (remain_round_73.f n) n idJ a0).trans (rfl)
theorem ok {n : Nat} {a0 : Int} {r : Int} (h : f n a0 = some r) : CallD Tryd.prog HW 40 [.int .u64 a0] (sg.enc r) :=
  fun_some hwS Tryd.func40 (by kernel_rfl) (body := code) (by kernel_rfl) tys_ok (c := cfg (remain_round_73.f n)) (orCall_ok (remain_round_73.call_ok (n := n)) noCall_ok) noW_ok (by kernel_rfl) (by kernel_rfl) (Nat.le_of_ble_eq_true (by kernel_rfl)) ((eq n a0).trans h)
noncomputable def call {α : Type} (g : Int→Ω (Int)) (ds : List D) (K : List D→Ω α) : Ω α := match ds with
  | [.int .u64 a0] => (g a0).bind fun r => K (sg.enc r)
  | _ => none
theorem call_ok {α : Type} {n : Nat} (ds : List D) (K : List D→Ω α) (r : α) (h : call (f n) ds K = some r) : ∃ rs, K rs = some r ∧ CallD Tryd.prog HW 40 ds rs := by
  unfold call at h
  split at h
  · obtain ⟨x, hx, hk⟩ := Option.bind_eq_some_iff.1 h
    exact ⟨_, hk, ok (n := n) hx⟩
  · cases h
end remain_Near
/-! ### abacuslaw06_bearers: function 13 -/
namespace abacuslaw06_bearers
noncomputable def b0 (c14 : Int→Ω (Int × Int)) (c34 : Int→Ω (Int)) (c38 : Int→Ω (Int)) (c39 : Int→Ω (Int)) (c40 : Int→Ω (Int)) (k31 : Int→Int→Int→Ω (Bool)) (a0 : Int) : Ω (Bool) := (if (Int.tmod a0 9223372036854775808) > 9218868437227405312 then k31 a0 9221120237041090560 9221120237041090560 else k31 a0 a0 (IntKind.u64.wrap (a0 - 9218868437227405312)))
noncomputable def b31 (c14 : Int→Ω (Int × Int)) (c34 : Int→Ω (Int)) (c38 : Int→Ω (Int)) (c39 : Int→Ω (Int)) (c40 : Int→Ω (Int)) (x0 x1 x2 : Int) : Ω (Bool) := ((c14 x0).bind fun t1 => (if t1.2 = x2 then (if t1.1 = x1 then ((c34 x0).bind fun t2 => (if t2 = x1 then ((c38 x0).bind fun t3 => (if t3 = x1 then ((c39 x0).bind fun t4 => (if t4 = x1 then ((c40 x0).bind fun t5 => some (decide (t5 = x1))) else some false)) else some false)) else some false)) else some false) else some false))
noncomputable def l31 (n : Nat) (x0 x1 x2 : Int) : Ω (Bool) := b31 (remain_Split.f n) (remain_Trunc.f n) (remain_Floor.f n) (remain_Ceil.f n) (remain_Near.f n) x0 x1 x2
noncomputable def f (n : Nat) (a0 : Int) : Ω (Bool) := b0 (remain_Split.f n) (remain_Trunc.f n) (remain_Floor.f n) (remain_Ceil.f n) (remain_Near.f n) (l31 n) a0
noncomputable def sg : Sig (Bool) := s1 (sBool)
noncomputable def code : Code := (Tryd.f13.body).getD .skip
noncomputable def cfg (c14 : Int→Ω (Int × Int)) (c34 : Int→Ω (Int)) (c38 : Int→Ω (Int)) (c39 : Int→Ω (Int)) (c40 : Int→Ω (Int)) : Cfg (Bool) := { T := tys, call := orCall 14 (remain_Split.call c14) (orCall 34 (remain_Trunc.call c34) (orCall 38 (remain_Floor.call c38) (orCall 39 (remain_Ceil.call c39) (orCall 40 (remain_Near.call c40) (noCall))))) }
noncomputable def cuts : List (Nat × List (Nat × Want)) := [(31, [(0, .keep), (3, .keep), (4, .keep)])]
noncomputable def s31 (x0 x1 x2 : Int) : ASt := ⟨[(0, .int .u64 x0), (3, .int .u64 x1), (4, .int .u64 x2)], []⟩
noncomputable def A (c14 : Int→Ω (Int × Int)) (c34 : Int→Ω (Int)) (c38 : Int→Ω (Int)) (c39 : Int→Ω (Int)) (c40 : Int→Ω (Int)) (n : Nat) (J : Jt (Bool)) (q : Nat) (ms : List Nat) : ASt→Ω (Bool) := acont (cfg c14 c34 c38 c39 c40) J cuts n q code 1 ms (aend (cfg c14 c34 c38 c39 c40) Tryd.f13.results.toList [false] sg.out)
theorem e0 (c14 : Int→Ω (Int × Int)) (c34 : Int→Ω (Int)) (c38 : Int→Ω (Int)) (c39 : Int→Ω (Int)) (c40 : Int→Ω (Int)) (n : Nat) (J : Jt (Bool)) (a0 : Int) : afun (cfg c14 c34 c38 c39 c40) J cuts n code Tryd.f13.results.toList [false] [.int .u64 a0] sg.out = b0 c14 c34 c38 c39 c40 (fun y0 y1 y2 => J 31 (A c14 c34 c38 c39 c40 n J 31 []) (s31 y0 y1 y2)) a0 := by kernel_rfl
theorem e31 (c14 : Int→Ω (Int × Int)) (c34 : Int→Ω (Int)) (c38 : Int→Ω (Int)) (c39 : Int→Ω (Int)) (c40 : Int→Ω (Int)) (n : Nat) (J : Jt (Bool)) (x0 x1 x2 : Int) : A c14 c34 c38 c39 c40 n J 31 [] (s31 x0 x1 x2) = b31 c14 c34 c38 c39 c40 x0 x1 x2 := by kernel_rfl
theorem q31 (n : Nat) (x0 x1 x2 : Int) : A (remain_Split.f n) (remain_Trunc.f n) (remain_Floor.f n) (remain_Ceil.f n) (remain_Near.f n) n idJ 31 [] (s31 x0 x1 x2) = l31 n x0 x1 x2 := (e31 (remain_Split.f n) (remain_Trunc.f n) (remain_Floor.f n) (remain_Ceil.f n) (remain_Near.f n) n idJ x0 x1 x2).trans (rfl)
theorem eq (n : Nat) (a0 : Int) : afun (cfg (remain_Split.f n) (remain_Trunc.f n) (remain_Floor.f n) (remain_Ceil.f n) (remain_Near.f n)) idJ cuts n code Tryd.f13.results.toList [false] [.int .u64 a0] sg.out = f n a0 := (e0 (remain_Split.f n) (remain_Trunc.f n) (remain_Floor.f n) (remain_Ceil.f n) (remain_Near.f n) n idJ a0).trans (congrFun (congrArg (b0 (remain_Split.f n) (remain_Trunc.f n) (remain_Floor.f n) (remain_Ceil.f n) (remain_Near.f n)) (funext fun y0 => (funext fun y1 => (funext fun y2 => q31 n y0 y1 y2)))) a0)
theorem ok {n : Nat} {a0 : Int} {r : Bool} (h : f n a0 = some r) : CallD Tryd.prog HW 13 [.int .u64 a0] (sg.enc r) :=
  fun_some hwS Tryd.func13 (by kernel_rfl) (body := code) (by kernel_rfl) tys_ok (c := cfg (remain_Split.f n) (remain_Trunc.f n) (remain_Floor.f n) (remain_Ceil.f n) (remain_Near.f n)) (orCall_ok (remain_Split.call_ok (n := n)) (orCall_ok (remain_Trunc.call_ok (n := n)) (orCall_ok (remain_Floor.call_ok (n := n)) (orCall_ok (remain_Ceil.call_ok (n := n)) (orCall_ok (remain_Near.call_ok (n := n)) noCall_ok))))) noW_ok (by kernel_rfl) (by kernel_rfl) (Nat.le_of_ble_eq_true (by kernel_rfl)) ((eq n a0).trans h)
noncomputable def call {α : Type} (g : Int→Ω (Bool)) (ds : List D) (K : List D→Ω α) : Ω α := match ds with
  | [.int .u64 a0] => (g a0).bind fun r => K (sg.enc r)
  | _ => none
theorem call_ok {α : Type} {n : Nat} (ds : List D) (K : List D→Ω α) (r : α) (h : call (f n) ds K = some r) : ∃ rs, K rs = some r ∧ CallD Tryd.prog HW 13 ds rs := by
  unfold call at h
  split at h
  · obtain ⟨x, hx, hk⟩ := Option.bind_eq_some_iff.1 h
    exact ⟨_, hk, ok (n := n) hx⟩
  · cases h
end abacuslaw06_bearers
/-! ### soft_operations: function 18 -/
namespace soft_operations
noncomputable def b0 : Ω (Unit) := some ()
noncomputable def f : Ω (Unit) := b0
noncomputable def sg : Sig (Unit) := s1 (sFns 41 [none, some 44, some 45, some 46, some 47, some 48, some 49])
noncomputable def code : Code := (Tryd.f18.body).getD .skip
noncomputable def cfg : Cfg (Unit) := { T := tys, call := noCall }
noncomputable def cuts : List (Nat × List (Nat × Want)) := []
theorem e0 (n : Nat) (J : Jt (Unit)) : afun cfg J cuts n code Tryd.f18.results.toList [false] [] sg.out = b0 := by kernel_rfl
theorem eq (n : Nat) : afun cfg idJ cuts n code Tryd.f18.results.toList [false] [] sg.out = f := (e0 n idJ).trans (rfl)
theorem ok {n : Nat} {r : Unit} (h : f = some r) : CallD Tryd.prog HW 18 [] (sg.enc r) :=
  fun_some hwS Tryd.func18 (by kernel_rfl) (body := code) (by kernel_rfl) tys_ok (c := cfg) noCall_ok noW_ok (by kernel_rfl) (by kernel_rfl) (Nat.le_of_ble_eq_true (by kernel_rfl)) ((eq n).trans h)
noncomputable def call {α : Type} (g : Ω (Unit)) (ds : List D) (K : List D→Ω α) : Ω α := match ds with
  | [] => (g).bind fun r => K (sg.enc r)
  | _ :: _ => none
theorem call_ok {α : Type} {n : Nat} (ds : List D) (K : List D→Ω α) (r : α) (h : call f ds K = some r) : ∃ rs, K rs = some r ∧ CallD Tryd.prog HW 18 ds rs := by
  unfold call at h
  split at h
  · obtain ⟨x, hx, hk⟩ := Option.bind_eq_some_iff.1 h
    exact ⟨_, hk, ok (n := n) hx⟩
  · cases h
end soft_operations
/-! ### soft_product: function 81 -/
namespace soft_product
noncomputable def b0 (c19 : Λ→Λ→Ω (Λ × Int)) (c58 : Int→Ω (Λ)) (a0 : Bool) (a1 a2 a3 : Int) (a4 : Bool) (a5 a6 a7 : Int) : Ω (Bool × Λ × Int) := ((c58 a2).bind fun t1 => ((c58 a6).bind fun t2 => ((c19 t1 t2).bind fun t3 => some (a0 != a4, t3.1, wrap64 (a3 + a7)))))
noncomputable def f (n : Nat) (a0 : Bool) (a1 a2 a3 : Int) (a4 : Bool) (a5 a6 a7 : Int) : Ω (Bool × Λ × Int) := b0 (nat_Mul.f n) nat_FromUint.f a0 a1 a2 a3 a4 a5 a6 a7
noncomputable def sg : Sig (Bool × Λ × Int) := s1 (sAgg (s2 (sBool) (s2 (sRow .u64) (s1 (sInt .i64)))))
noncomputable def code : Code := (Tryd.f81.body).getD .skip
noncomputable def cfg (c19 : Λ→Λ→Ω (Λ × Int)) (c58 : Int→Ω (Λ)) : Cfg (Bool × Λ × Int) := { T := tys, call := orCall 19 (nat_Mul.call c19) (orCall 58 (nat_FromUint.call c58) (noCall)) }
noncomputable def cuts : List (Nat × List (Nat × Want)) := []
theorem e0 (c19 : Λ→Λ→Ω (Λ × Int)) (c58 : Int→Ω (Λ)) (n : Nat) (J : Jt (Bool × Λ × Int)) (a0 : Bool) (a1 a2 a3 : Int) (a4 : Bool) (a5 a6 a7 : Int) : afun (cfg c19 c58) J cuts n code Tryd.f81.results.toList [false] [.agg [.bool a0, .int .i64 a1, .int .u64 a2, .int .i64 a3], .agg [.bool a4, .int .i64 a5, .int .u64 a6, .int .i64 a7]] sg.out = b0 c19 c58 a0 a1 a2 a3 a4 a5 a6 a7 := by kernel_rfl
theorem eq (n : Nat) (a0 : Bool) (a1 a2 a3 : Int) (a4 : Bool) (a5 a6 a7 : Int) : afun (cfg (nat_Mul.f n) nat_FromUint.f) idJ cuts n code Tryd.f81.results.toList [false] [.agg [.bool a0, .int .i64 a1, .int .u64 a2, .int .i64 a3], .agg [.bool a4, .int .i64 a5, .int .u64 a6, .int .i64 a7]] sg.out = f n a0 a1 a2 a3 a4 a5 a6 a7 := (e0 (nat_Mul.f n) nat_FromUint.f n idJ a0 a1 a2 a3 a4 a5 a6 a7).trans (rfl)
theorem ok {n : Nat} {a0 : Bool} {a1 : Int} {a2 : Int} {a3 : Int} {a4 : Bool} {a5 : Int} {a6 : Int} {a7 : Int} {r : Bool × Λ × Int} (h : f n a0 a1 a2 a3 a4 a5 a6 a7 = some r) : CallD Tryd.prog HW 81 [.agg [.bool a0, .int .i64 a1, .int .u64 a2, .int .i64 a3], .agg [.bool a4, .int .i64 a5, .int .u64 a6, .int .i64 a7]] (sg.enc r) :=
  fun_some hwS Tryd.func81 (by kernel_rfl) (body := code) (by kernel_rfl) tys_ok (c := cfg (nat_Mul.f n) nat_FromUint.f) (orCall_ok (nat_Mul.call_ok (n := n)) (orCall_ok (nat_FromUint.call_ok (n := n)) noCall_ok)) noW_ok (by kernel_rfl) (by kernel_rfl) (Nat.le_of_ble_eq_true (by kernel_rfl)) ((eq n a0 a1 a2 a3 a4 a5 a6 a7).trans h)
noncomputable def call {α : Type} (g : Bool→Int→Int→Int→Bool→Int→Int→Int→Ω (Bool × Λ × Int)) (ds : List D) (K : List D→Ω α) : Ω α := match ds with
  | [.agg [.bool a0, .int .i64 a1, .int .u64 a2, .int .i64 a3], .agg [.bool a4, .int .i64 a5, .int .u64 a6, .int .i64 a7]] => (g a0 a1 a2 a3 a4 a5 a6 a7).bind fun r => K (sg.enc r)
  | _ => none
theorem call_ok {α : Type} {n : Nat} (ds : List D) (K : List D→Ω α) (r : α) (h : call (f n) ds K = some r) : ∃ rs, K rs = some r ∧ CallD Tryd.prog HW 81 ds rs := by
  unfold call at h
  split at h
  · obtain ⟨x, hx, hk⟩ := Option.bind_eq_some_iff.1 h
    exact ⟨_, hk, ok (n := n) hx⟩
  · cases h
end soft_product
/-! ### soft_fma: function 49 -/
namespace soft_fma
noncomputable def b0 (c20 : Int→Ω (Bool × Int × Int × Int)) (c75 : Ω (Int × Int)) (c76 : Bool→Int→Int→Int→Ω (Bool × Λ × Int)) (c77 : Bool→Λ→Int→Bool→Λ→Int→Ω (Bool × Λ × Int)) (c78 : Bool→Λ→Int→Ω (Int × Int)) (c80 : Bool→Int→Ω (Int)) (c81 : Bool→Int→Int→Int→Bool→Int→Int→Int→Ω (Bool × Λ × Int)) (k15 : Int→Bool→Bool→Int→Int→Int→Bool→Int→Int→Int→Bool→Int→Int→Int→Ω (Int × Int)) (a0 a1 a2 : Int) : Ω (Int × Int) := ((c20 a0).bind fun t1 => ((c20 a1).bind fun t2 => ((c20 a2).bind fun t3 => (if t1.2.1 = 3 then k15 a2 true t1.1 t1.2.1 t1.2.2.1 t1.2.2.2 t2.1 t2.2.1 t2.2.2.1 t2.2.2.2 t3.1 t3.2.1 t3.2.2.1 t3.2.2.2 else k15 a2 (decide (t2.2.1 = 3)) t1.1 t1.2.1 t1.2.2.1 t1.2.2.2 t2.1 t2.2.1 t2.2.2.1 t2.2.2.2 t3.1 t3.2.1 t3.2.2.1 t3.2.2.2))))
noncomputable def b15 (c20 : Int→Ω (Bool × Int × Int × Int)) (c75 : Ω (Int × Int)) (c76 : Bool→Int→Int→Int→Ω (Bool × Λ × Int)) (c77 : Bool→Λ→Int→Bool→Λ→Int→Ω (Bool × Λ × Int)) (c78 : Bool→Λ→Int→Ω (Int × Int)) (c80 : Bool→Int→Ω (Int)) (c81 : Bool→Int→Int→Int→Bool→Int→Int→Int→Ω (Bool × Λ × Int)) (k3999 : Int→Bool→Bool→Bool→Bool→Int→Int→Int→Bool→Int→Int→Int→Bool→Int→Int→Int→Ω (Int × Int)) (x0 : Int) (x1 x2 : Bool) (x3 x4 x5 : Int) (x6 : Bool) (x7 x8 x9 : Int) (x10 : Bool) (x11 x12 x13 : Int) : Ω (Int × Int) := (if x3 = 4 then some (9221120237041090560, 0) else (if x7 = 4 then some (9221120237041090560, 0) else (if x11 = 4 then some (9221120237041090560, 0) else (if x1 = true then (if x3 = 0 then ((c75).bind fun t1 => some (t1.1, t1.2)) else (if x7 = 0 then ((c75).bind fun t2 => some (t2.1, t2.2)) else (if x1 = true then (if x11 = 3 then k3999 x0 x1 (x2 != x6) (x10 != (x2 != x6)) x2 x3 x4 x5 x6 x7 x8 x9 x10 x11 x12 x13 else k3999 x0 x1 (x2 != x6) false x2 x3 x4 x5 x6 x7 x8 x9 x10 x11 x12 x13) else k3999 x0 x1 (x2 != x6) false x2 x3 x4 x5 x6 x7 x8 x9 x10 x11 x12 x13))) else (if x1 = true then (if x11 = 3 then k3999 x0 x1 (x2 != x6) (x10 != (x2 != x6)) x2 x3 x4 x5 x6 x7 x8 x9 x10 x11 x12 x13 else k3999 x0 x1 (x2 != x6) false x2 x3 x4 x5 x6 x7 x8 x9 x10 x11 x12 x13) else k3999 x0 x1 (x2 != x6) false x2 x3 x4 x5 x6 x7 x8 x9 x10 x11 x12 x13)))))
noncomputable def b3999 (c20 : Int→Ω (Bool × Int × Int × Int)) (c75 : Ω (Int × Int)) (c76 : Bool→Int→Int→Int→Ω (Bool × Λ × Int)) (c77 : Bool→Λ→Int→Bool→Λ→Int→Ω (Bool × Λ × Int)) (c78 : Bool→Λ→Int→Ω (Int × Int)) (c80 : Bool→Int→Ω (Int)) (c81 : Bool→Int→Int→Int→Bool→Int→Int→Int→Ω (Bool × Λ × Int)) (x0 : Int) (x1 x2 x3 x4 : Bool) (x5 x6 x7 : Int) (x8 : Bool) (x9 x10 x11 : Int) (x12 : Bool) (x13 x14 x15 : Int) : Ω (Int × Int) := (if x3 = true then ((c75).bind fun t1 => some (t1.1, t1.2)) else (if x1 = true then ((c80 x2 9218868437227405312).bind fun t2 => some (t2, 0)) else (if x13 = 3 then some (x0, 0) else ((c81 x4 x5 x6 x7 x8 x9 x10 x11).bind fun t3 => ((c76 x12 x13 x14 x15).bind fun t4 => ((c77 t3.1 t3.2.1 t3.2.2 t4.1 t4.2.1 t4.2.2).bind fun t5 => ((c78 t5.1 t5.2.1 t5.2.2).bind fun t6 => some (t6.1, t6.2))))))))
noncomputable def l3999 (n : Nat) (x0 : Int) (x1 x2 x3 x4 : Bool) (x5 x6 x7 : Int) (x8 : Bool) (x9 x10 x11 : Int) (x12 : Bool) (x13 x14 x15 : Int) : Ω (Int × Int) := b3999 ieee_Decode.f soft_invalid.f soft_termOf.f (soft_term_plus.f n) (soft_term_rounded.f n) soft_withSign.f (soft_product.f n) x0 x1 x2 x3 x4 x5 x6 x7 x8 x9 x10 x11 x12 x13 x14 x15
noncomputable def l15 (n : Nat) (x0 : Int) (x1 x2 : Bool) (x3 x4 x5 : Int) (x6 : Bool) (x7 x8 x9 : Int) (x10 : Bool) (x11 x12 x13 : Int) : Ω (Int × Int) := b15 ieee_Decode.f soft_invalid.f soft_termOf.f (soft_term_plus.f n) (soft_term_rounded.f n) soft_withSign.f (soft_product.f n) (l3999 n) x0 x1 x2 x3 x4 x5 x6 x7 x8 x9 x10 x11 x12 x13
noncomputable def f (n : Nat) (a0 a1 a2 : Int) : Ω (Int × Int) := b0 ieee_Decode.f soft_invalid.f soft_termOf.f (soft_term_plus.f n) (soft_term_rounded.f n) soft_withSign.f (soft_product.f n) (l15 n) a0 a1 a2
noncomputable def sg : Sig (Int × Int) := s2 (sInt .u64) (s1 (sInt .i64))
noncomputable def code : Code := (Tryd.f49.body).getD .skip
noncomputable def cfg (c20 : Int→Ω (Bool × Int × Int × Int)) (c75 : Ω (Int × Int)) (c76 : Bool→Int→Int→Int→Ω (Bool × Λ × Int)) (c77 : Bool→Λ→Int→Bool→Λ→Int→Ω (Bool × Λ × Int)) (c78 : Bool→Λ→Int→Ω (Int × Int)) (c80 : Bool→Int→Ω (Int)) (c81 : Bool→Int→Int→Int→Bool→Int→Int→Int→Ω (Bool × Λ × Int)) : Cfg (Int × Int) := { T := tys, call := orCall 20 (ieee_Decode.call c20) (orCall 75 (soft_invalid.call c75) (orCall 76 (soft_termOf.call c76) (orCall 77 (soft_term_plus.call c77) (orCall 78 (soft_term_rounded.call c78) (orCall 80 (soft_withSign.call c80) (orCall 81 (soft_product.call c81) (noCall))))))) }
noncomputable def cuts : List (Nat × List (Nat × Want)) := [(15, [(2, .keep), (8, .keep), (9, .keep), (10, .keep), (11, .keep)]), (3999, [(2, .keep), (8, .keep), (9, .keep), (10, .keep), (11, .keep), (12, .keep), (61, .keep)])]
noncomputable def s15 (x0 : Int) (x1 x2 : Bool) (x3 x4 x5 : Int) (x6 : Bool) (x7 x8 x9 : Int) (x10 : Bool) (x11 x12 x13 : Int) : ASt := ⟨[(2, .int .u64 x0), (8, .ptr 0 0), (9, .ptr 1 0), (10, .ptr 2 0), (11, .bool x1)], [.cells 46 [.bool x2, .int .i64 x3, .int .u64 x4, .int .i64 x5], .cells 46 [.bool x6, .int .i64 x7, .int .u64 x8, .int .i64 x9], .cells 46 [.bool x10, .int .i64 x11, .int .u64 x12, .int .i64 x13]]⟩
noncomputable def s3999 (x0 : Int) (x1 x2 x3 x4 : Bool) (x5 x6 x7 : Int) (x8 : Bool) (x9 x10 x11 : Int) (x12 : Bool) (x13 x14 x15 : Int) : ASt := ⟨[(2, .int .u64 x0), (8, .ptr 0 0), (9, .ptr 1 0), (10, .ptr 2 0), (11, .bool x1), (12, .bool x2), (61, .bool x3)], [.cells 46 [.bool x4, .int .i64 x5, .int .u64 x6, .int .i64 x7], .cells 46 [.bool x8, .int .i64 x9, .int .u64 x10, .int .i64 x11], .cells 46 [.bool x12, .int .i64 x13, .int .u64 x14, .int .i64 x15]]⟩
noncomputable def A (c20 : Int→Ω (Bool × Int × Int × Int)) (c75 : Ω (Int × Int)) (c76 : Bool→Int→Int→Int→Ω (Bool × Λ × Int)) (c77 : Bool→Λ→Int→Bool→Λ→Int→Ω (Bool × Λ × Int)) (c78 : Bool→Λ→Int→Ω (Int × Int)) (c80 : Bool→Int→Ω (Int)) (c81 : Bool→Int→Int→Int→Bool→Int→Int→Int→Ω (Bool × Λ × Int)) (n : Nat) (J : Jt (Int × Int)) (q : Nat) (ms : List Nat) : ASt→Ω (Int × Int) := acont (cfg c20 c75 c76 c77 c78 c80 c81) J cuts n q code 1 ms (aend (cfg c20 c75 c76 c77 c78 c80 c81) Tryd.f49.results.toList [false, false] sg.out)
theorem e0 (c20 : Int→Ω (Bool × Int × Int × Int)) (c75 : Ω (Int × Int)) (c76 : Bool→Int→Int→Int→Ω (Bool × Λ × Int)) (c77 : Bool→Λ→Int→Bool→Λ→Int→Ω (Bool × Λ × Int)) (c78 : Bool→Λ→Int→Ω (Int × Int)) (c80 : Bool→Int→Ω (Int)) (c81 : Bool→Int→Int→Int→Bool→Int→Int→Int→Ω (Bool × Λ × Int)) (n : Nat) (J : Jt (Int × Int)) (a0 a1 a2 : Int) : afun (cfg c20 c75 c76 c77 c78 c80 c81) J cuts n code Tryd.f49.results.toList [false, false] [.int .u64 a0, .int .u64 a1, .int .u64 a2] sg.out = b0 c20 c75 c76 c77 c78 c80 c81 (fun y0 y1 y2 y3 y4 y5 y6 y7 y8 y9 y10 y11 y12 y13 => J 15 (A c20 c75 c76 c77 c78 c80 c81 n J 15 []) (s15 y0 y1 y2 y3 y4 y5 y6 y7 y8 y9 y10 y11 y12 y13)) a0 a1 a2 := by kernel_rfl
theorem e15 (c20 : Int→Ω (Bool × Int × Int × Int)) (c75 : Ω (Int × Int)) (c76 : Bool→Int→Int→Int→Ω (Bool × Λ × Int)) (c77 : Bool→Λ→Int→Bool→Λ→Int→Ω (Bool × Λ × Int)) (c78 : Bool→Λ→Int→Ω (Int × Int)) (c80 : Bool→Int→Ω (Int)) (c81 : Bool→Int→Int→Int→Bool→Int→Int→Int→Ω (Bool × Λ × Int)) (n : Nat) (J : Jt (Int × Int)) (x0 : Int) (x1 x2 : Bool) (x3 x4 x5 : Int) (x6 : Bool) (x7 x8 x9 : Int) (x10 : Bool) (x11 x12 x13 : Int) : A c20 c75 c76 c77 c78 c80 c81 n J 15 [] (s15 x0 x1 x2 x3 x4 x5 x6 x7 x8 x9 x10 x11 x12 x13) = b15 c20 c75 c76 c77 c78 c80 c81 (fun y0 y1 y2 y3 y4 y5 y6 y7 y8 y9 y10 y11 y12 y13 y14 y15 => J 3999 (A c20 c75 c76 c77 c78 c80 c81 n J 3999 []) (s3999 y0 y1 y2 y3 y4 y5 y6 y7 y8 y9 y10 y11 y12 y13 y14 y15)) x0 x1 x2 x3 x4 x5 x6 x7 x8 x9 x10 x11 x12 x13 := by kernel_rfl
theorem e3999 (c20 : Int→Ω (Bool × Int × Int × Int)) (c75 : Ω (Int × Int)) (c76 : Bool→Int→Int→Int→Ω (Bool × Λ × Int)) (c77 : Bool→Λ→Int→Bool→Λ→Int→Ω (Bool × Λ × Int)) (c78 : Bool→Λ→Int→Ω (Int × Int)) (c80 : Bool→Int→Ω (Int)) (c81 : Bool→Int→Int→Int→Bool→Int→Int→Int→Ω (Bool × Λ × Int)) (n : Nat) (J : Jt (Int × Int)) (x0 : Int) (x1 x2 x3 x4 : Bool) (x5 x6 x7 : Int) (x8 : Bool) (x9 x10 x11 : Int) (x12 : Bool) (x13 x14 x15 : Int) : A c20 c75 c76 c77 c78 c80 c81 n J 3999 [] (s3999 x0 x1 x2 x3 x4 x5 x6 x7 x8 x9 x10 x11 x12 x13 x14 x15) = b3999 c20 c75 c76 c77 c78 c80 c81 x0 x1 x2 x3 x4 x5 x6 x7 x8 x9 x10 x11 x12 x13 x14 x15 := by kernel_rfl
theorem q3999 (n : Nat) (x0 : Int) (x1 x2 x3 x4 : Bool) (x5 x6 x7 : Int) (x8 : Bool) (x9 x10 x11 : Int) (x12 : Bool) (x13 x14 x15 : Int) : A ieee_Decode.f soft_invalid.f soft_termOf.f (soft_term_plus.f n) (soft_term_rounded.f n) soft_withSign.f (soft_product.f n) n idJ 3999 [] (s3999 x0 x1 x2 x3 x4 x5 x6 x7 x8 x9 x10 x11 x12 x13 x14 x15) = l3999 n x0 x1 x2 x3 x4 x5 x6 x7 x8 x9 x10 x11 x12 x13 x14 x15 := (e3999 ieee_Decode.f soft_invalid.f soft_termOf.f (soft_term_plus.f n) (soft_term_rounded.f n) soft_withSign.f (soft_product.f n) n idJ x0 x1 x2 x3 x4 x5 x6 x7 x8 x9 x10 x11 x12 x13 x14 x15).trans (rfl)
theorem q15 (n : Nat) (x0 : Int) (x1 x2 : Bool) (x3 x4 x5 : Int) (x6 : Bool) (x7 x8 x9 : Int) (x10 : Bool) (x11 x12 x13 : Int) : A ieee_Decode.f soft_invalid.f soft_termOf.f (soft_term_plus.f n) (soft_term_rounded.f n) soft_withSign.f (soft_product.f n) n idJ 15 [] (s15 x0 x1 x2 x3 x4 x5 x6 x7 x8 x9 x10 x11 x12 x13) = l15 n x0 x1 x2 x3 x4 x5 x6 x7 x8 x9 x10 x11 x12 x13 := (e15 ieee_Decode.f soft_invalid.f soft_termOf.f (soft_term_plus.f n) (soft_term_rounded.f n) soft_withSign.f (soft_product.f n) n idJ x0 x1 x2 x3 x4 x5 x6 x7 x8 x9 x10 x11 x12 x13).trans (congrFun (congrFun (congrFun (congrFun (congrFun (congrFun (congrFun (congrFun (congrFun (congrFun (congrFun (congrFun (congrFun (congrFun (congrArg (b15 ieee_Decode.f soft_invalid.f soft_termOf.f (soft_term_plus.f n) (soft_term_rounded.f n) soft_withSign.f (soft_product.f n)) (funext fun y0 => (funext fun y1 => (funext fun y2 => (funext fun y3 => (funext fun y4 => (funext fun y5 => (funext fun y6 => (funext fun y7 => (funext fun y8 => (funext fun y9 => (funext fun y10 => (funext fun y11 => (funext fun y12 => (funext fun y13 => (funext fun y14 => (funext fun y15 => q3999 n y0 y1 y2 y3 y4 y5 y6 y7 y8 y9 y10 y11 y12 y13 y14 y15))))))))))))))))) x0) x1) x2) x3) x4) x5) x6) x7) x8) x9) x10) x11) x12) x13)
theorem eq (n : Nat) (a0 a1 a2 : Int) : afun (cfg ieee_Decode.f soft_invalid.f soft_termOf.f (soft_term_plus.f n) (soft_term_rounded.f n) soft_withSign.f (soft_product.f n)) idJ cuts n code Tryd.f49.results.toList [false, false] [.int .u64 a0, .int .u64 a1, .int .u64 a2] sg.out = f n a0 a1 a2 := (e0 ieee_Decode.f soft_invalid.f soft_termOf.f (soft_term_plus.f n) (soft_term_rounded.f n) soft_withSign.f (soft_product.f n) n idJ a0 a1 a2).trans (congrFun (congrFun (congrFun (congrArg (b0 ieee_Decode.f soft_invalid.f soft_termOf.f (soft_term_plus.f n) (soft_term_rounded.f n) soft_withSign.f (soft_product.f n)) (funext fun y0 => (funext fun y1 => (funext fun y2 => (funext fun y3 => (funext fun y4 => (funext fun y5 => (funext fun y6 => (funext fun y7 => (funext fun y8 => (funext fun y9 => (funext fun y10 => (funext fun y11 => (funext fun y12 => (funext fun y13 => q15 n y0 y1 y2 y3 y4 y5 y6 y7 y8 y9 y10 y11 y12 y13))))))))))))))) a0) a1) a2)
theorem ok {n : Nat} {a0 : Int} {a1 : Int} {a2 : Int} {r : Int × Int} (h : f n a0 a1 a2 = some r) : CallD Tryd.prog HW 49 [.int .u64 a0, .int .u64 a1, .int .u64 a2] (sg.enc r) :=
  fun_some hwS Tryd.func49 (by kernel_rfl) (body := code) (by kernel_rfl) tys_ok (c := cfg ieee_Decode.f soft_invalid.f soft_termOf.f (soft_term_plus.f n) (soft_term_rounded.f n) soft_withSign.f (soft_product.f n)) (orCall_ok (ieee_Decode.call_ok (n := n)) (orCall_ok (soft_invalid.call_ok (n := n)) (orCall_ok (soft_termOf.call_ok (n := n)) (orCall_ok (soft_term_plus.call_ok (n := n)) (orCall_ok (soft_term_rounded.call_ok (n := n)) (orCall_ok (soft_withSign.call_ok (n := n)) (orCall_ok (soft_product.call_ok (n := n)) noCall_ok))))))) noW_ok (by kernel_rfl) (by kernel_rfl) (Nat.le_of_ble_eq_true (by kernel_rfl)) ((eq n a0 a1 a2).trans h)
noncomputable def call {α : Type} (g : Int→Int→Int→Ω (Int × Int)) (ds : List D) (K : List D→Ω α) : Ω α := match ds with
  | [.int .u64 a0, .int .u64 a1, .int .u64 a2] => (g a0 a1 a2).bind fun r => K (sg.enc r)
  | _ => none
theorem call_ok {α : Type} {n : Nat} (ds : List D) (K : List D→Ω α) (r : α) (h : call (f n) ds K = some r) : ∃ rs, K rs = some r ∧ CallD Tryd.prog HW 49 ds rs := by
  unfold call at h
  split at h
  · obtain ⟨x, hx, hk⟩ := Option.bind_eq_some_iff.1 h
    exact ⟨_, hk, ok (n := n) hx⟩
  · cases h
end soft_fma
/-! ### quot_Root: function 83 -/
namespace quot_Root
noncomputable def b0 (c19 : Λ→Λ→Ω (Λ × Int)) (c21 : Λ→Λ→Ω (Int)) (c59 : Λ→Int→Ω (Λ × Int)) (c61 : Λ→Λ→Ω (Λ × Int)) (c84 : Λ→Ω (Int)) (c91 : Λ→Int→Ω (Λ × Bool)) (c93 : Λ→Λ→Ω (Λ × Λ × Int)) (c96 : Λ→Int→Ω (Λ × Bool × Int)) (k505 : Λ→Λ→Ω (Λ × Bool × Int)) (l0 : Λ) : Ω (Λ × Bool × Int) := ((c91 l0 256).bind fun t1 => (if (!t1.2) = true then some (([] : Λ), false, 2) else (if (ln t1.1) = 0 then some (([] : Λ), true, 0) else ((c84 t1.1).bind fun t2 => ((c59 [1] (wrap64 (Int.tdiv (wrap64 (t2 + 1)) 2))).bind fun t3 => k505 t1.1 t3.1)))))
noncomputable def b127 (c19 : Λ→Λ→Ω (Λ × Int)) (c21 : Λ→Λ→Ω (Int)) (c59 : Λ→Int→Ω (Λ × Int)) (c61 : Λ→Λ→Ω (Λ × Int)) (c84 : Λ→Ω (Int)) (c91 : Λ→Int→Ω (Λ × Bool)) (c93 : Λ→Λ→Ω (Λ × Λ × Int)) (c96 : Λ→Int→Ω (Λ × Bool × Int)) (x0 x1 : Λ) : Ω (Λ × Bool × Int) := ((c19 x1 x1).bind fun t1 => ((c21 t1.1 x0).bind fun t2 => some (x1, decide (t2 = 0), 0)))
noncomputable def b505 (c19 : Λ→Λ→Ω (Λ × Int)) (c21 : Λ→Λ→Ω (Int)) (c59 : Λ→Int→Ω (Λ × Int)) (c61 : Λ→Λ→Ω (Λ × Int)) (c84 : Λ→Ω (Int)) (c91 : Λ→Int→Ω (Λ × Bool)) (c93 : Λ→Λ→Ω (Λ × Λ × Int)) (c96 : Λ→Int→Ω (Λ × Bool × Int)) (k127 : Λ→Λ→Ω (Λ × Bool × Int)) (k505 : Λ→Λ→Ω (Λ × Bool × Int)) (x0 x1 : Λ) : Ω (Λ × Bool × Int) := ((c93 x0 x1).bind fun t1 => ((c61 x1 t1.1).bind fun t2 => ((c96 t2.1 1).bind fun t3 => ((c21 t3.1 x1).bind fun t4 => (if t4 ≥ 0 then k127 x0 x1 else k505 x0 t3.1)))))
noncomputable def l127 (n : Nat) (x0 x1 : Λ) : Ω (Λ × Bool × Int) := b127 (nat_Mul.f n) (nat_Cmp.f n) (nat_Shl.f n) (nat_Add.f n) (nat_BitLen.f n) (quot_small.f n) (quot_DivMod.f n) (nat_Shr.f n) x0 x1
noncomputable def l505 (n : Nat) : Nat→Λ→Λ→Ω (Λ × Bool × Int)
  | 0, _, _ => none
  | m + 1, x0, x1 => b505 (nat_Mul.f n) (nat_Cmp.f n) (nat_Shl.f n) (nat_Add.f n) (nat_BitLen.f n) (quot_small.f n) (quot_DivMod.f n) (nat_Shr.f n) (l127 n) (l505 n m) x0 x1
noncomputable def f (n : Nat) (l0 : Λ) : Ω (Λ × Bool × Int) := b0 (nat_Mul.f n) (nat_Cmp.f n) (nat_Shl.f n) (nat_Add.f n) (nat_BitLen.f n) (quot_small.f n) (quot_DivMod.f n) (nat_Shr.f n) (l505 n n) l0
noncomputable def sg : Sig (Λ × Bool × Int) := s2 (sRow .u64) (s2 (sBool) (s1 (sInt .i64)))
noncomputable def code : Code := (Tryd.f83.body).getD .skip
noncomputable def cfg (c19 : Λ→Λ→Ω (Λ × Int)) (c21 : Λ→Λ→Ω (Int)) (c59 : Λ→Int→Ω (Λ × Int)) (c61 : Λ→Λ→Ω (Λ × Int)) (c84 : Λ→Ω (Int)) (c91 : Λ→Int→Ω (Λ × Bool)) (c93 : Λ→Λ→Ω (Λ × Λ × Int)) (c96 : Λ→Int→Ω (Λ × Bool × Int)) : Cfg (Λ × Bool × Int) := { T := tys, call := orCall 19 (nat_Mul.call c19) (orCall 21 (nat_Cmp.call c21) (orCall 59 (nat_Shl.call c59) (orCall 61 (nat_Add.call c61) (orCall 84 (nat_BitLen.call c84) (orCall 91 (quot_small.call c91) (orCall 93 (quot_DivMod.call c93) (orCall 96 (nat_Shr.call c96) (noCall)))))))) }
noncomputable def cuts : List (Nat × List (Nat × Want)) := [(127, [(5, .keep), (7, .keep)]), (505, [(5, .keep), (7, .keep)])]
noncomputable def s127 (x0 x1 : Λ) : ASt := ⟨[(5, .ro .u64 x0), (7, .ro .u64 x1)], []⟩
noncomputable def s505 (x0 x1 : Λ) : ASt := ⟨[(5, .ro .u64 x0), (7, .ro .u64 x1)], []⟩
noncomputable def A (c19 : Λ→Λ→Ω (Λ × Int)) (c21 : Λ→Λ→Ω (Int)) (c59 : Λ→Int→Ω (Λ × Int)) (c61 : Λ→Λ→Ω (Λ × Int)) (c84 : Λ→Ω (Int)) (c91 : Λ→Int→Ω (Λ × Bool)) (c93 : Λ→Λ→Ω (Λ × Λ × Int)) (c96 : Λ→Int→Ω (Λ × Bool × Int)) (n : Nat) (J : Jt (Λ × Bool × Int)) (q : Nat) (ms : List Nat) : ASt→Ω (Λ × Bool × Int) := acont (cfg c19 c21 c59 c61 c84 c91 c93 c96) J cuts n q code 1 ms (aend (cfg c19 c21 c59 c61 c84 c91 c93 c96) Tryd.f83.results.toList [false, false, false] sg.out)
theorem e0 (c19 : Λ→Λ→Ω (Λ × Int)) (c21 : Λ→Λ→Ω (Int)) (c59 : Λ→Int→Ω (Λ × Int)) (c61 : Λ→Λ→Ω (Λ × Int)) (c84 : Λ→Ω (Int)) (c91 : Λ→Int→Ω (Λ × Bool)) (c93 : Λ→Λ→Ω (Λ × Λ × Int)) (c96 : Λ→Int→Ω (Λ × Bool × Int)) (n : Nat) (J : Jt (Λ × Bool × Int)) (l0 : Λ) : afun (cfg c19 c21 c59 c61 c84 c91 c93 c96) J cuts n code Tryd.f83.results.toList [false, false, false] [.ro .u64 l0] sg.out = b0 c19 c21 c59 c61 c84 c91 c93 c96 (fun y0 y1 => J 505 (A c19 c21 c59 c61 c84 c91 c93 c96 n J 505 [n]) (s505 y0 y1)) l0 := by kernel_rfl
theorem e127 (c19 : Λ→Λ→Ω (Λ × Int)) (c21 : Λ→Λ→Ω (Int)) (c59 : Λ→Int→Ω (Λ × Int)) (c61 : Λ→Λ→Ω (Λ × Int)) (c84 : Λ→Ω (Int)) (c91 : Λ→Int→Ω (Λ × Bool)) (c93 : Λ→Λ→Ω (Λ × Λ × Int)) (c96 : Λ→Int→Ω (Λ × Bool × Int)) (n : Nat) (J : Jt (Λ × Bool × Int)) (x0 x1 : Λ) : A c19 c21 c59 c61 c84 c91 c93 c96 n J 127 [] (s127 x0 x1) = b127 c19 c21 c59 c61 c84 c91 c93 c96 x0 x1 := by kernel_rfl
theorem e505 (c19 : Λ→Λ→Ω (Λ × Int)) (c21 : Λ→Λ→Ω (Int)) (c59 : Λ→Int→Ω (Λ × Int)) (c61 : Λ→Λ→Ω (Λ × Int)) (c84 : Λ→Ω (Int)) (c91 : Λ→Int→Ω (Λ × Bool)) (c93 : Λ→Λ→Ω (Λ × Λ × Int)) (c96 : Λ→Int→Ω (Λ × Bool × Int)) (n : Nat) (J : Jt (Λ × Bool × Int)) (m : Nat) (x0 x1 : Λ) : A c19 c21 c59 c61 c84 c91 c93 c96 n J 505 [m + 1] (s505 x0 x1) = b505 c19 c21 c59 c61 c84 c91 c93 c96 (fun y0 y1 => J 127 (A c19 c21 c59 c61 c84 c91 c93 c96 n J 127 []) (s127 y0 y1)) (fun y0 y1 => J 505 (A c19 c21 c59 c61 c84 c91 c93 c96 n J 505 [m]) (s505 y0 y1)) x0 x1 := by kernel_rfl
theorem q127 (n : Nat) (x0 x1 : Λ) : A (nat_Mul.f n) (nat_Cmp.f n) (nat_Shl.f n) (nat_Add.f n) (nat_BitLen.f n) (quot_small.f n) (quot_DivMod.f n) (nat_Shr.f n) n idJ 127 [] (s127 x0 x1) = l127 n x0 x1 := (e127 (nat_Mul.f n) (nat_Cmp.f n) (nat_Shl.f n) (nat_Add.f n) (nat_BitLen.f n) (quot_small.f n) (quot_DivMod.f n) (nat_Shr.f n) n idJ x0 x1).trans (rfl)
theorem q505 (n m : Nat) : ∀ (x0 x1 : Λ), A (nat_Mul.f n) (nat_Cmp.f n) (nat_Shl.f n) (nat_Add.f n) (nat_BitLen.f n) (quot_small.f n) (quot_DivMod.f n) (nat_Shr.f n) n idJ 505 [m] (s505 x0 x1) = l505 n m x0 x1 := by
  induction m with
  | zero => intros; rfl
  | succ m ih =>
    intro x0 x1
    refine (e505 (nat_Mul.f n) (nat_Cmp.f n) (nat_Shl.f n) (nat_Add.f n) (nat_BitLen.f n) (quot_small.f n) (quot_DivMod.f n) (nat_Shr.f n) n idJ m x0 x1).trans ?_
    exact congrFun (congrFun (congr (congrArg (b505 (nat_Mul.f n) (nat_Cmp.f n) (nat_Shl.f n) (nat_Add.f n) (nat_BitLen.f n) (quot_small.f n) (quot_DivMod.f n) (nat_Shr.f n)) (funext fun y0 => (funext fun y1 => q127 n y0 y1))) (funext fun y0 => (funext fun y1 => ih y0 y1))) x0) x1
theorem eq (n : Nat) (l0 : Λ) : afun (cfg (nat_Mul.f n) (nat_Cmp.f n) (nat_Shl.f n) (nat_Add.f n) (nat_BitLen.f n) (quot_small.f n) (quot_DivMod.f n) (nat_Shr.f n)) idJ cuts n code Tryd.f83.results.toList [false, false, false] [.ro .u64 l0] sg.out = f n l0 := (e0 (nat_Mul.f n) (nat_Cmp.f n) (nat_Shl.f n) (nat_Add.f n) (nat_BitLen.f n) (quot_small.f n) (quot_DivMod.f n) (nat_Shr.f n) n idJ l0).trans (congrFun (congrArg (b0 (nat_Mul.f n) (nat_Cmp.f n) (nat_Shl.f n) (nat_Add.f n) (nat_BitLen.f n) (quot_small.f n) (quot_DivMod.f n) (nat_Shr.f n)) (funext fun y0 => (funext fun y1 => q505 n n y0 y1))) l0)
theorem ok {n : Nat} {l0 : Λ} {r : Λ × Bool × Int} (h : f n l0 = some r) : CallD Tryd.prog HW 83 [.ro .u64 l0] (sg.enc r) :=
  fun_some hwS Tryd.func83 (by kernel_rfl) (body := code) (by kernel_rfl) tys_ok (c := cfg (nat_Mul.f n) (nat_Cmp.f n) (nat_Shl.f n) (nat_Add.f n) (nat_BitLen.f n) (quot_small.f n) (quot_DivMod.f n) (nat_Shr.f n)) (orCall_ok (nat_Mul.call_ok (n := n)) (orCall_ok (nat_Cmp.call_ok (n := n)) (orCall_ok (nat_Shl.call_ok (n := n)) (orCall_ok (nat_Add.call_ok (n := n)) (orCall_ok (nat_BitLen.call_ok (n := n)) (orCall_ok (quot_small.call_ok (n := n)) (orCall_ok (quot_DivMod.call_ok (n := n)) (orCall_ok (nat_Shr.call_ok (n := n)) noCall_ok)))))))) noW_ok (by kernel_rfl) (by kernel_rfl) (Nat.le_of_ble_eq_true (by kernel_rfl)) ((eq n l0).trans h)
noncomputable def call {α : Type} (g : Λ→Ω (Λ × Bool × Int)) (ds : List D) (K : List D→Ω α) : Ω α := match ds with
  | [.ro .u64 l0] => (g l0).bind fun r => K (sg.enc r)
  | _ => none
theorem call_ok {α : Type} {n : Nat} (ds : List D) (K : List D→Ω α) (r : α) (h : call (f n) ds K = some r) : ∃ rs, K rs = some r ∧ CallD Tryd.prog HW 83 ds rs := by
  unfold call at h
  split at h
  · obtain ⟨x, hx, hk⟩ := Option.bind_eq_some_iff.1 h
    exact ⟨_, hk, ok (n := n) hx⟩
  · cases h
end quot_Root
/-! ### soft_sqrt: function 48 -/
namespace soft_sqrt
noncomputable def b0 (c20 : Int→Ω (Bool × Int × Int × Int)) (c58 : Int→Ω (Λ)) (c59 : Λ→Int→Ω (Λ × Int)) (c68 : Bool→Λ→Int→Bool→Ω (Int × Int)) (c75 : Ω (Int × Int)) (c83 : Λ→Ω (Λ × Bool × Int)) (c84 : Λ→Ω (Int)) (c85 : Λ→Ω (Int)) (k63 : Int→Bool→Int→Int→Int→Ω (Int × Int)) (a0 a1 a2 : Int) : Ω (Int × Int) := ((c20 a0).bind fun t1 => (if t1.2.1 = 4 then some (9221120237041090560, 0) else (if t1.2.1 = 0 then some (a0, 0) else (if t1.1 = true then ((c75).bind fun t2 => some (t2.1, t2.2)) else (if t1.2.1 = 3 then some (a0, 0) else (if ¬ (Int.tmod (wrap64 (t1.2.2.2 - 118)) 2) = 0 then k63 119 t1.1 t1.2.1 t1.2.2.1 t1.2.2.2 else k63 118 t1.1 t1.2.1 t1.2.2.1 t1.2.2.2))))))
noncomputable def b63 (c20 : Int→Ω (Bool × Int × Int × Int)) (c58 : Int→Ω (Λ)) (c59 : Λ→Int→Ω (Λ × Int)) (c68 : Bool→Λ→Int→Bool→Ω (Int × Int)) (c75 : Ω (Int × Int)) (c83 : Λ→Ω (Λ × Bool × Int)) (c84 : Λ→Ω (Int)) (c85 : Λ→Ω (Int)) (x0 : Int) (x1 : Bool) (x2 x3 x4 : Int) : Ω (Int × Int) := ((c58 x3).bind fun t1 => ((c59 t1 x0).bind fun t2 => ((c83 t2.1).bind fun t3 => ((c68 false t3.1 (wrap64 (Int.tdiv (wrap64 (x4 - x0)) 2)) (!t3.2.1)).bind fun t4 => (if t3.2.1 = true then ((c84 t3.1).bind fun t5 => ((c85 t3.1).bind fun t6 => (if (wrap64 (t5 - t6)) ≤ 53 then some (t4.1, 0) else some (t4.1, 16)))) else some (t4.1, 16))))))
noncomputable def l63 (n : Nat) (x0 : Int) (x1 : Bool) (x2 x3 x4 : Int) : Ω (Int × Int) := b63 ieee_Decode.f nat_FromUint.f (nat_Shl.f n) (ieee_Round.f n) soft_invalid.f (quot_Root.f n) (nat_BitLen.f n) (nat_Trail.f n) x0 x1 x2 x3 x4
noncomputable def f (n : Nat) (a0 a1 a2 : Int) : Ω (Int × Int) := b0 ieee_Decode.f nat_FromUint.f (nat_Shl.f n) (ieee_Round.f n) soft_invalid.f (quot_Root.f n) (nat_BitLen.f n) (nat_Trail.f n) (l63 n) a0 a1 a2
noncomputable def sg : Sig (Int × Int) := s2 (sInt .u64) (s1 (sInt .i64))
noncomputable def code : Code := (Tryd.f48.body).getD .skip
noncomputable def cfg (c20 : Int→Ω (Bool × Int × Int × Int)) (c58 : Int→Ω (Λ)) (c59 : Λ→Int→Ω (Λ × Int)) (c68 : Bool→Λ→Int→Bool→Ω (Int × Int)) (c75 : Ω (Int × Int)) (c83 : Λ→Ω (Λ × Bool × Int)) (c84 : Λ→Ω (Int)) (c85 : Λ→Ω (Int)) : Cfg (Int × Int) := { T := tys, call := orCall 20 (ieee_Decode.call c20) (orCall 58 (nat_FromUint.call c58) (orCall 59 (nat_Shl.call c59) (orCall 68 (ieee_Round.call c68) (orCall 75 (soft_invalid.call c75) (orCall 83 (quot_Root.call c83) (orCall 84 (nat_BitLen.call c84) (orCall 85 (nat_Trail.call c85) (noCall)))))))) }
noncomputable def cuts : List (Nat × List (Nat × Want)) := [(63, [(8, .keep), (9, .keep)])]
noncomputable def s63 (x0 : Int) (x1 : Bool) (x2 x3 x4 : Int) : ASt := ⟨[(8, .ptr 0 0), (9, .int .i64 x0)], [.cells 46 [.bool x1, .int .i64 x2, .int .u64 x3, .int .i64 x4]]⟩
noncomputable def A (c20 : Int→Ω (Bool × Int × Int × Int)) (c58 : Int→Ω (Λ)) (c59 : Λ→Int→Ω (Λ × Int)) (c68 : Bool→Λ→Int→Bool→Ω (Int × Int)) (c75 : Ω (Int × Int)) (c83 : Λ→Ω (Λ × Bool × Int)) (c84 : Λ→Ω (Int)) (c85 : Λ→Ω (Int)) (n : Nat) (J : Jt (Int × Int)) (q : Nat) (ms : List Nat) : ASt→Ω (Int × Int) := acont (cfg c20 c58 c59 c68 c75 c83 c84 c85) J cuts n q code 1 ms (aend (cfg c20 c58 c59 c68 c75 c83 c84 c85) Tryd.f48.results.toList [false, false] sg.out)
theorem e0 (c20 : Int→Ω (Bool × Int × Int × Int)) (c58 : Int→Ω (Λ)) (c59 : Λ→Int→Ω (Λ × Int)) (c68 : Bool→Λ→Int→Bool→Ω (Int × Int)) (c75 : Ω (Int × Int)) (c83 : Λ→Ω (Λ × Bool × Int)) (c84 : Λ→Ω (Int)) (c85 : Λ→Ω (Int)) (n : Nat) (J : Jt (Int × Int)) (a0 a1 a2 : Int) : afun (cfg c20 c58 c59 c68 c75 c83 c84 c85) J cuts n code Tryd.f48.results.toList [false, false] [.int .u64 a0, .int .u64 a1, .int .u64 a2] sg.out = b0 c20 c58 c59 c68 c75 c83 c84 c85 (fun y0 y1 y2 y3 y4 => J 63 (A c20 c58 c59 c68 c75 c83 c84 c85 n J 63 []) (s63 y0 y1 y2 y3 y4)) a0 a1 a2 := by kernel_rfl
theorem e63 (c20 : Int→Ω (Bool × Int × Int × Int)) (c58 : Int→Ω (Λ)) (c59 : Λ→Int→Ω (Λ × Int)) (c68 : Bool→Λ→Int→Bool→Ω (Int × Int)) (c75 : Ω (Int × Int)) (c83 : Λ→Ω (Λ × Bool × Int)) (c84 : Λ→Ω (Int)) (c85 : Λ→Ω (Int)) (n : Nat) (J : Jt (Int × Int)) (x0 : Int) (x1 : Bool) (x2 x3 x4 : Int) : A c20 c58 c59 c68 c75 c83 c84 c85 n J 63 [] (s63 x0 x1 x2 x3 x4) = b63 c20 c58 c59 c68 c75 c83 c84 c85 x0 x1 x2 x3 x4 := by kernel_rfl
theorem q63 (n : Nat) (x0 : Int) (x1 : Bool) (x2 x3 x4 : Int) : A ieee_Decode.f nat_FromUint.f (nat_Shl.f n) (ieee_Round.f n) soft_invalid.f (quot_Root.f n) (nat_BitLen.f n) (nat_Trail.f n) n idJ 63 [] (s63 x0 x1 x2 x3 x4) = l63 n x0 x1 x2 x3 x4 := (e63 ieee_Decode.f nat_FromUint.f (nat_Shl.f n) (ieee_Round.f n) soft_invalid.f (quot_Root.f n) (nat_BitLen.f n) (nat_Trail.f n) n idJ x0 x1 x2 x3 x4).trans (rfl)
theorem eq (n : Nat) (a0 a1 a2 : Int) : afun (cfg ieee_Decode.f nat_FromUint.f (nat_Shl.f n) (ieee_Round.f n) soft_invalid.f (quot_Root.f n) (nat_BitLen.f n) (nat_Trail.f n)) idJ cuts n code Tryd.f48.results.toList [false, false] [.int .u64 a0, .int .u64 a1, .int .u64 a2] sg.out = f n a0 a1 a2 := (e0 ieee_Decode.f nat_FromUint.f (nat_Shl.f n) (ieee_Round.f n) soft_invalid.f (quot_Root.f n) (nat_BitLen.f n) (nat_Trail.f n) n idJ a0 a1 a2).trans (congrFun (congrFun (congrFun (congrArg (b0 ieee_Decode.f nat_FromUint.f (nat_Shl.f n) (ieee_Round.f n) soft_invalid.f (quot_Root.f n) (nat_BitLen.f n) (nat_Trail.f n)) (funext fun y0 => (funext fun y1 => (funext fun y2 => (funext fun y3 => (funext fun y4 => q63 n y0 y1 y2 y3 y4)))))) a0) a1) a2)
theorem ok {n : Nat} {a0 : Int} {a1 : Int} {a2 : Int} {r : Int × Int} (h : f n a0 a1 a2 = some r) : CallD Tryd.prog HW 48 [.int .u64 a0, .int .u64 a1, .int .u64 a2] (sg.enc r) :=
  fun_some hwS Tryd.func48 (by kernel_rfl) (body := code) (by kernel_rfl) tys_ok (c := cfg ieee_Decode.f nat_FromUint.f (nat_Shl.f n) (ieee_Round.f n) soft_invalid.f (quot_Root.f n) (nat_BitLen.f n) (nat_Trail.f n)) (orCall_ok (ieee_Decode.call_ok (n := n)) (orCall_ok (nat_FromUint.call_ok (n := n)) (orCall_ok (nat_Shl.call_ok (n := n)) (orCall_ok (ieee_Round.call_ok (n := n)) (orCall_ok (soft_invalid.call_ok (n := n)) (orCall_ok (quot_Root.call_ok (n := n)) (orCall_ok (nat_BitLen.call_ok (n := n)) (orCall_ok (nat_Trail.call_ok (n := n)) noCall_ok)))))))) noW_ok (by kernel_rfl) (by kernel_rfl) (Nat.le_of_ble_eq_true (by kernel_rfl)) ((eq n a0 a1 a2).trans h)
noncomputable def call {α : Type} (g : Int→Int→Int→Ω (Int × Int)) (ds : List D) (K : List D→Ω α) : Ω α := match ds with
  | [.int .u64 a0, .int .u64 a1, .int .u64 a2] => (g a0 a1 a2).bind fun r => K (sg.enc r)
  | _ => none
theorem call_ok {α : Type} {n : Nat} (ds : List D) (K : List D→Ω α) (r : α) (h : call (f n) ds K = some r) : ∃ rs, K rs = some r ∧ CallD Tryd.prog HW 48 ds rs := by
  unfold call at h
  split at h
  · obtain ⟨x, hx, hk⟩ := Option.bind_eq_some_iff.1 h
    exact ⟨_, hk, ok (n := n) hx⟩
  · cases h
end soft_sqrt
/-! ### soft_div: function 47 -/
namespace soft_div
noncomputable def b0 (c20 : Int→Ω (Bool × Int × Int × Int)) (c58 : Int→Ω (Λ)) (c70 : Bool→Λ→Λ→Int→Ω (Int × Int)) (c75 : Ω (Int × Int)) (c80 : Bool→Int→Ω (Int)) (c82 : Bool→Λ→Λ→Int→Int→Ω (Int)) (k31 : Bool→Bool→Int→Int→Int→Bool→Int→Int→Int→Ω (Int × Int)) (a0 a1 a2 : Int) : Ω (Int × Int) := ((c20 a0).bind fun t1 => ((c20 a1).bind fun t2 => (if t1.2.1 = 4 then some (9221120237041090560, 0) else (if t2.2.1 = 4 then some (9221120237041090560, 0) else (if t1.2.1 = t2.2.1 then (if t1.2.1 = 3 then ((c75).bind fun t3 => some (t3.1, t3.2)) else (if t1.2.1 = 0 then ((c75).bind fun t4 => some (t4.1, t4.2)) else (if t1.2.1 = 3 then ((c80 (t1.1 != t2.1) 9218868437227405312).bind fun t5 => some (t5, 0)) else (if t2.2.1 = 0 then ((c80 (t1.1 != t2.1) 9218868437227405312).bind fun t6 => some (t6, 2)) else (if t1.2.1 = 0 then ((c80 (t1.1 != t2.1) 0).bind fun t7 => some (t7, 0)) else (if t2.2.1 = 3 then ((c80 (t1.1 != t2.1) 0).bind fun t8 => some (t8, 0)) else k31 (t1.1 != t2.1) t1.1 t1.2.1 t1.2.2.1 t1.2.2.2 t2.1 t2.2.1 t2.2.2.1 t2.2.2.2)))))) else (if t1.2.1 = 3 then ((c80 (t1.1 != t2.1) 9218868437227405312).bind fun t9 => some (t9, 0)) else (if t2.2.1 = 0 then ((c80 (t1.1 != t2.1) 9218868437227405312).bind fun t10 => some (t10, 2)) else (if t1.2.1 = 0 then ((c80 (t1.1 != t2.1) 0).bind fun t11 => some (t11, 0)) else (if t2.2.1 = 3 then ((c80 (t1.1 != t2.1) 0).bind fun t12 => some (t12, 0)) else k31 (t1.1 != t2.1) t1.1 t1.2.1 t1.2.2.1 t1.2.2.2 t2.1 t2.2.1 t2.2.2.1 t2.2.2.2)))))))))
noncomputable def b31 (c20 : Int→Ω (Bool × Int × Int × Int)) (c58 : Int→Ω (Λ)) (c70 : Bool→Λ→Λ→Int→Ω (Int × Int)) (c75 : Ω (Int × Int)) (c80 : Bool→Int→Ω (Int)) (c82 : Bool→Λ→Λ→Int→Int→Ω (Int)) (x0 x1 : Bool) (x2 x3 x4 : Int) (x5 : Bool) (x6 x7 x8 : Int) : Ω (Int × Int) := ((c58 x3).bind fun t1 => ((c58 x7).bind fun t2 => ((c70 x0 t1 t2 (wrap64 (x4 - x8))).bind fun t3 => ((c82 x0 t1 t2 (wrap64 (x4 - x8)) t3.1).bind fun t4 => some (t3.1, t4)))))
noncomputable def l31 (n : Nat) (x0 x1 : Bool) (x2 x3 x4 : Int) (x5 : Bool) (x6 x7 x8 : Int) : Ω (Int × Int) := b31 ieee_Decode.f nat_FromUint.f (ieee_RoundRatio.f n) soft_invalid.f soft_withSign.f (soft_fraction_flags.f n) x0 x1 x2 x3 x4 x5 x6 x7 x8
noncomputable def f (n : Nat) (a0 a1 a2 : Int) : Ω (Int × Int) := b0 ieee_Decode.f nat_FromUint.f (ieee_RoundRatio.f n) soft_invalid.f soft_withSign.f (soft_fraction_flags.f n) (l31 n) a0 a1 a2
noncomputable def sg : Sig (Int × Int) := s2 (sInt .u64) (s1 (sInt .i64))
noncomputable def code : Code := (Tryd.f47.body).getD .skip
noncomputable def cfg (c20 : Int→Ω (Bool × Int × Int × Int)) (c58 : Int→Ω (Λ)) (c70 : Bool→Λ→Λ→Int→Ω (Int × Int)) (c75 : Ω (Int × Int)) (c80 : Bool→Int→Ω (Int)) (c82 : Bool→Λ→Λ→Int→Int→Ω (Int)) : Cfg (Int × Int) := { T := tys, call := orCall 20 (ieee_Decode.call c20) (orCall 58 (nat_FromUint.call c58) (orCall 70 (ieee_RoundRatio.call c70) (orCall 75 (soft_invalid.call c75) (orCall 80 (soft_withSign.call c80) (orCall 82 (soft_fraction_flags.call c82) (noCall)))))) }
noncomputable def cuts : List (Nat × List (Nat × Want)) := [(31, [(8, .keep), (9, .keep), (10, .keep)])]
noncomputable def s31 (x0 x1 : Bool) (x2 x3 x4 : Int) (x5 : Bool) (x6 x7 x8 : Int) : ASt := ⟨[(8, .ptr 0 0), (9, .ptr 1 0), (10, .bool x0)], [.cells 46 [.bool x1, .int .i64 x2, .int .u64 x3, .int .i64 x4], .cells 46 [.bool x5, .int .i64 x6, .int .u64 x7, .int .i64 x8]]⟩
noncomputable def A (c20 : Int→Ω (Bool × Int × Int × Int)) (c58 : Int→Ω (Λ)) (c70 : Bool→Λ→Λ→Int→Ω (Int × Int)) (c75 : Ω (Int × Int)) (c80 : Bool→Int→Ω (Int)) (c82 : Bool→Λ→Λ→Int→Int→Ω (Int)) (n : Nat) (J : Jt (Int × Int)) (q : Nat) (ms : List Nat) : ASt→Ω (Int × Int) := acont (cfg c20 c58 c70 c75 c80 c82) J cuts n q code 1 ms (aend (cfg c20 c58 c70 c75 c80 c82) Tryd.f47.results.toList [false, false] sg.out)
theorem e0 (c20 : Int→Ω (Bool × Int × Int × Int)) (c58 : Int→Ω (Λ)) (c70 : Bool→Λ→Λ→Int→Ω (Int × Int)) (c75 : Ω (Int × Int)) (c80 : Bool→Int→Ω (Int)) (c82 : Bool→Λ→Λ→Int→Int→Ω (Int)) (n : Nat) (J : Jt (Int × Int)) (a0 a1 a2 : Int) : afun (cfg c20 c58 c70 c75 c80 c82) J cuts n code Tryd.f47.results.toList [false, false] [.int .u64 a0, .int .u64 a1, .int .u64 a2] sg.out = b0 c20 c58 c70 c75 c80 c82 (fun y0 y1 y2 y3 y4 y5 y6 y7 y8 => J 31 (A c20 c58 c70 c75 c80 c82 n J 31 []) (s31 y0 y1 y2 y3 y4 y5 y6 y7 y8)) a0 a1 a2 := by kernel_rfl
theorem e31 (c20 : Int→Ω (Bool × Int × Int × Int)) (c58 : Int→Ω (Λ)) (c70 : Bool→Λ→Λ→Int→Ω (Int × Int)) (c75 : Ω (Int × Int)) (c80 : Bool→Int→Ω (Int)) (c82 : Bool→Λ→Λ→Int→Int→Ω (Int)) (n : Nat) (J : Jt (Int × Int)) (x0 x1 : Bool) (x2 x3 x4 : Int) (x5 : Bool) (x6 x7 x8 : Int) : A c20 c58 c70 c75 c80 c82 n J 31 [] (s31 x0 x1 x2 x3 x4 x5 x6 x7 x8) = b31 c20 c58 c70 c75 c80 c82 x0 x1 x2 x3 x4 x5 x6 x7 x8 := by kernel_rfl
theorem q31 (n : Nat) (x0 x1 : Bool) (x2 x3 x4 : Int) (x5 : Bool) (x6 x7 x8 : Int) : A ieee_Decode.f nat_FromUint.f (ieee_RoundRatio.f n) soft_invalid.f soft_withSign.f (soft_fraction_flags.f n) n idJ 31 [] (s31 x0 x1 x2 x3 x4 x5 x6 x7 x8) = l31 n x0 x1 x2 x3 x4 x5 x6 x7 x8 := (e31 ieee_Decode.f nat_FromUint.f (ieee_RoundRatio.f n) soft_invalid.f soft_withSign.f (soft_fraction_flags.f n) n idJ x0 x1 x2 x3 x4 x5 x6 x7 x8).trans (rfl)
theorem eq (n : Nat) (a0 a1 a2 : Int) : afun (cfg ieee_Decode.f nat_FromUint.f (ieee_RoundRatio.f n) soft_invalid.f soft_withSign.f (soft_fraction_flags.f n)) idJ cuts n code Tryd.f47.results.toList [false, false] [.int .u64 a0, .int .u64 a1, .int .u64 a2] sg.out = f n a0 a1 a2 := (e0 ieee_Decode.f nat_FromUint.f (ieee_RoundRatio.f n) soft_invalid.f soft_withSign.f (soft_fraction_flags.f n) n idJ a0 a1 a2).trans (congrFun (congrFun (congrFun (congrArg (b0 ieee_Decode.f nat_FromUint.f (ieee_RoundRatio.f n) soft_invalid.f soft_withSign.f (soft_fraction_flags.f n)) (funext fun y0 => (funext fun y1 => (funext fun y2 => (funext fun y3 => (funext fun y4 => (funext fun y5 => (funext fun y6 => (funext fun y7 => (funext fun y8 => q31 n y0 y1 y2 y3 y4 y5 y6 y7 y8)))))))))) a0) a1) a2)
theorem ok {n : Nat} {a0 : Int} {a1 : Int} {a2 : Int} {r : Int × Int} (h : f n a0 a1 a2 = some r) : CallD Tryd.prog HW 47 [.int .u64 a0, .int .u64 a1, .int .u64 a2] (sg.enc r) :=
  fun_some hwS Tryd.func47 (by kernel_rfl) (body := code) (by kernel_rfl) tys_ok (c := cfg ieee_Decode.f nat_FromUint.f (ieee_RoundRatio.f n) soft_invalid.f soft_withSign.f (soft_fraction_flags.f n)) (orCall_ok (ieee_Decode.call_ok (n := n)) (orCall_ok (nat_FromUint.call_ok (n := n)) (orCall_ok (ieee_RoundRatio.call_ok (n := n)) (orCall_ok (soft_invalid.call_ok (n := n)) (orCall_ok (soft_withSign.call_ok (n := n)) (orCall_ok (soft_fraction_flags.call_ok (n := n)) noCall_ok)))))) noW_ok (by kernel_rfl) (by kernel_rfl) (Nat.le_of_ble_eq_true (by kernel_rfl)) ((eq n a0 a1 a2).trans h)
noncomputable def call {α : Type} (g : Int→Int→Int→Ω (Int × Int)) (ds : List D) (K : List D→Ω α) : Ω α := match ds with
  | [.int .u64 a0, .int .u64 a1, .int .u64 a2] => (g a0 a1 a2).bind fun r => K (sg.enc r)
  | _ => none
theorem call_ok {α : Type} {n : Nat} (ds : List D) (K : List D→Ω α) (r : α) (h : call (f n) ds K = some r) : ∃ rs, K rs = some r ∧ CallD Tryd.prog HW 47 ds rs := by
  unfold call at h
  split at h
  · obtain ⟨x, hx, hk⟩ := Option.bind_eq_some_iff.1 h
    exact ⟨_, hk, ok (n := n) hx⟩
  · cases h
end soft_div
/-! ### soft_mul: function 46 -/
namespace soft_mul
noncomputable def b0 (c20 : Int→Ω (Bool × Int × Int × Int)) (c75 : Ω (Int × Int)) (c78 : Bool→Λ→Int→Ω (Int × Int)) (c80 : Bool→Int→Ω (Int)) (c81 : Bool→Int→Int→Int→Bool→Int→Int→Int→Ω (Bool × Λ × Int)) (k487 : Bool→Bool→Bool→Int→Int→Int→Bool→Int→Int→Int→Ω (Int × Int)) (a0 a1 a2 : Int) : Ω (Int × Int) := ((c20 a0).bind fun t1 => ((c20 a1).bind fun t2 => (if t1.2.1 = 4 then some (9221120237041090560, 0) else (if t2.2.1 = 4 then some (9221120237041090560, 0) else (if t1.2.1 = 3 then (if t2.2.1 = 0 then k487 (t1.1 != t2.1) true t1.1 t1.2.1 t1.2.2.1 t1.2.2.2 t2.1 t2.2.1 t2.2.2.1 t2.2.2.2 else (if t1.2.1 = 0 then k487 (t1.1 != t2.1) (decide (t2.2.1 = 3)) t1.1 t1.2.1 t1.2.2.1 t1.2.2.2 t2.1 t2.2.1 t2.2.2.1 t2.2.2.2 else k487 (t1.1 != t2.1) false t1.1 t1.2.1 t1.2.2.1 t1.2.2.2 t2.1 t2.2.1 t2.2.2.1 t2.2.2.2)) else (if t1.2.1 = 0 then k487 (t1.1 != t2.1) (decide (t2.2.1 = 3)) t1.1 t1.2.1 t1.2.2.1 t1.2.2.2 t2.1 t2.2.1 t2.2.2.1 t2.2.2.2 else k487 (t1.1 != t2.1) false t1.1 t1.2.1 t1.2.2.1 t1.2.2.2 t2.1 t2.2.1 t2.2.2.1 t2.2.2.2))))))
noncomputable def b487 (c20 : Int→Ω (Bool × Int × Int × Int)) (c75 : Ω (Int × Int)) (c78 : Bool→Λ→Int→Ω (Int × Int)) (c80 : Bool→Int→Ω (Int)) (c81 : Bool→Int→Int→Int→Bool→Int→Int→Int→Ω (Bool × Λ × Int)) (x0 x1 x2 : Bool) (x3 x4 x5 : Int) (x6 : Bool) (x7 x8 x9 : Int) : Ω (Int × Int) := (if x1 = true then ((c75).bind fun t1 => some (t1.1, t1.2)) else (if x3 = 3 then ((c80 x0 9218868437227405312).bind fun t2 => some (t2, 0)) else (if x7 = 3 then ((c80 x0 9218868437227405312).bind fun t3 => some (t3, 0)) else ((c81 x2 x3 x4 x5 x6 x7 x8 x9).bind fun t4 => ((c78 t4.1 t4.2.1 t4.2.2).bind fun t5 => some (t5.1, t5.2))))))
noncomputable def l487 (n : Nat) (x0 x1 x2 : Bool) (x3 x4 x5 : Int) (x6 : Bool) (x7 x8 x9 : Int) : Ω (Int × Int) := b487 ieee_Decode.f soft_invalid.f (soft_term_rounded.f n) soft_withSign.f (soft_product.f n) x0 x1 x2 x3 x4 x5 x6 x7 x8 x9
noncomputable def f (n : Nat) (a0 a1 a2 : Int) : Ω (Int × Int) := b0 ieee_Decode.f soft_invalid.f (soft_term_rounded.f n) soft_withSign.f (soft_product.f n) (l487 n) a0 a1 a2
noncomputable def sg : Sig (Int × Int) := s2 (sInt .u64) (s1 (sInt .i64))
noncomputable def code : Code := (Tryd.f46.body).getD .skip
noncomputable def cfg (c20 : Int→Ω (Bool × Int × Int × Int)) (c75 : Ω (Int × Int)) (c78 : Bool→Λ→Int→Ω (Int × Int)) (c80 : Bool→Int→Ω (Int)) (c81 : Bool→Int→Int→Int→Bool→Int→Int→Int→Ω (Bool × Λ × Int)) : Cfg (Int × Int) := { T := tys, call := orCall 20 (ieee_Decode.call c20) (orCall 75 (soft_invalid.call c75) (orCall 78 (soft_term_rounded.call c78) (orCall 80 (soft_withSign.call c80) (orCall 81 (soft_product.call c81) (noCall))))) }
noncomputable def cuts : List (Nat × List (Nat × Want)) := [(487, [(8, .keep), (9, .keep), (10, .keep), (29, .keep)])]
noncomputable def s487 (x0 x1 x2 : Bool) (x3 x4 x5 : Int) (x6 : Bool) (x7 x8 x9 : Int) : ASt := ⟨[(8, .ptr 0 0), (9, .ptr 1 0), (10, .bool x0), (29, .bool x1)], [.cells 46 [.bool x2, .int .i64 x3, .int .u64 x4, .int .i64 x5], .cells 46 [.bool x6, .int .i64 x7, .int .u64 x8, .int .i64 x9]]⟩
noncomputable def A (c20 : Int→Ω (Bool × Int × Int × Int)) (c75 : Ω (Int × Int)) (c78 : Bool→Λ→Int→Ω (Int × Int)) (c80 : Bool→Int→Ω (Int)) (c81 : Bool→Int→Int→Int→Bool→Int→Int→Int→Ω (Bool × Λ × Int)) (n : Nat) (J : Jt (Int × Int)) (q : Nat) (ms : List Nat) : ASt→Ω (Int × Int) := acont (cfg c20 c75 c78 c80 c81) J cuts n q code 1 ms (aend (cfg c20 c75 c78 c80 c81) Tryd.f46.results.toList [false, false] sg.out)
theorem e0 (c20 : Int→Ω (Bool × Int × Int × Int)) (c75 : Ω (Int × Int)) (c78 : Bool→Λ→Int→Ω (Int × Int)) (c80 : Bool→Int→Ω (Int)) (c81 : Bool→Int→Int→Int→Bool→Int→Int→Int→Ω (Bool × Λ × Int)) (n : Nat) (J : Jt (Int × Int)) (a0 a1 a2 : Int) : afun (cfg c20 c75 c78 c80 c81) J cuts n code Tryd.f46.results.toList [false, false] [.int .u64 a0, .int .u64 a1, .int .u64 a2] sg.out = b0 c20 c75 c78 c80 c81 (fun y0 y1 y2 y3 y4 y5 y6 y7 y8 y9 => J 487 (A c20 c75 c78 c80 c81 n J 487 []) (s487 y0 y1 y2 y3 y4 y5 y6 y7 y8 y9)) a0 a1 a2 := by kernel_rfl
theorem e487 (c20 : Int→Ω (Bool × Int × Int × Int)) (c75 : Ω (Int × Int)) (c78 : Bool→Λ→Int→Ω (Int × Int)) (c80 : Bool→Int→Ω (Int)) (c81 : Bool→Int→Int→Int→Bool→Int→Int→Int→Ω (Bool × Λ × Int)) (n : Nat) (J : Jt (Int × Int)) (x0 x1 x2 : Bool) (x3 x4 x5 : Int) (x6 : Bool) (x7 x8 x9 : Int) : A c20 c75 c78 c80 c81 n J 487 [] (s487 x0 x1 x2 x3 x4 x5 x6 x7 x8 x9) = b487 c20 c75 c78 c80 c81 x0 x1 x2 x3 x4 x5 x6 x7 x8 x9 := by kernel_rfl
theorem q487 (n : Nat) (x0 x1 x2 : Bool) (x3 x4 x5 : Int) (x6 : Bool) (x7 x8 x9 : Int) : A ieee_Decode.f soft_invalid.f (soft_term_rounded.f n) soft_withSign.f (soft_product.f n) n idJ 487 [] (s487 x0 x1 x2 x3 x4 x5 x6 x7 x8 x9) = l487 n x0 x1 x2 x3 x4 x5 x6 x7 x8 x9 := (e487 ieee_Decode.f soft_invalid.f (soft_term_rounded.f n) soft_withSign.f (soft_product.f n) n idJ x0 x1 x2 x3 x4 x5 x6 x7 x8 x9).trans (rfl)
theorem eq (n : Nat) (a0 a1 a2 : Int) : afun (cfg ieee_Decode.f soft_invalid.f (soft_term_rounded.f n) soft_withSign.f (soft_product.f n)) idJ cuts n code Tryd.f46.results.toList [false, false] [.int .u64 a0, .int .u64 a1, .int .u64 a2] sg.out = f n a0 a1 a2 := (e0 ieee_Decode.f soft_invalid.f (soft_term_rounded.f n) soft_withSign.f (soft_product.f n) n idJ a0 a1 a2).trans (congrFun (congrFun (congrFun (congrArg (b0 ieee_Decode.f soft_invalid.f (soft_term_rounded.f n) soft_withSign.f (soft_product.f n)) (funext fun y0 => (funext fun y1 => (funext fun y2 => (funext fun y3 => (funext fun y4 => (funext fun y5 => (funext fun y6 => (funext fun y7 => (funext fun y8 => (funext fun y9 => q487 n y0 y1 y2 y3 y4 y5 y6 y7 y8 y9))))))))))) a0) a1) a2)
theorem ok {n : Nat} {a0 : Int} {a1 : Int} {a2 : Int} {r : Int × Int} (h : f n a0 a1 a2 = some r) : CallD Tryd.prog HW 46 [.int .u64 a0, .int .u64 a1, .int .u64 a2] (sg.enc r) :=
  fun_some hwS Tryd.func46 (by kernel_rfl) (body := code) (by kernel_rfl) tys_ok (c := cfg ieee_Decode.f soft_invalid.f (soft_term_rounded.f n) soft_withSign.f (soft_product.f n)) (orCall_ok (ieee_Decode.call_ok (n := n)) (orCall_ok (soft_invalid.call_ok (n := n)) (orCall_ok (soft_term_rounded.call_ok (n := n)) (orCall_ok (soft_withSign.call_ok (n := n)) (orCall_ok (soft_product.call_ok (n := n)) noCall_ok))))) noW_ok (by kernel_rfl) (by kernel_rfl) (Nat.le_of_ble_eq_true (by kernel_rfl)) ((eq n a0 a1 a2).trans h)
noncomputable def call {α : Type} (g : Int→Int→Int→Ω (Int × Int)) (ds : List D) (K : List D→Ω α) : Ω α := match ds with
  | [.int .u64 a0, .int .u64 a1, .int .u64 a2] => (g a0 a1 a2).bind fun r => K (sg.enc r)
  | _ => none
theorem call_ok {α : Type} {n : Nat} (ds : List D) (K : List D→Ω α) (r : α) (h : call (f n) ds K = some r) : ∃ rs, K rs = some r ∧ CallD Tryd.prog HW 46 ds rs := by
  unfold call at h
  split at h
  · obtain ⟨x, hx, hk⟩ := Option.bind_eq_some_iff.1 h
    exact ⟨_, hk, ok (n := n) hx⟩
  · cases h
end soft_mul
/-! ### soft_Told: function 5 -/
namespace soft_Told
noncomputable def b0 (c18 : Ω (Unit)) (c44 : Int→Int→Int→Ω (Int × Int)) (c45 : Int→Int→Int→Ω (Int × Int)) (c46 : Int→Int→Int→Ω (Int × Int)) (c47 : Int→Int→Int→Ω (Int × Int)) (c48 : Int→Int→Int→Ω (Int × Int)) (c49 : Int→Int→Int→Ω (Int × Int)) (a0 a1 a2 a3 : Int) : Ω (Int × Int × Int) := ((c18).bind fun t1 => (if a0 < 1 then some (0, 0, 50) else (if a0 ≥ 7 then some (0, 0, 50) else (if 0 ≤ a0 then (if a0 < 7 then (if a0 = 0 then none else (if a0 = 1 then ((c44 a1 a2 a3).bind fun t7 => some (t7.1, t7.2, 0)) else (if a0 = 2 then ((c45 a1 a2 a3).bind fun t6 => some (t6.1, t6.2, 0)) else (if a0 = 3 then ((c46 a1 a2 a3).bind fun t5 => some (t5.1, t5.2, 0)) else (if a0 = 4 then ((c47 a1 a2 a3).bind fun t4 => some (t4.1, t4.2, 0)) else (if a0 = 5 then ((c48 a1 a2 a3).bind fun t3 => some (t3.1, t3.2, 0)) else (if a0 = 6 then ((c49 a1 a2 a3).bind fun t2 => some (t2.1, t2.2, 0)) else none))))))) else none) else none))))
noncomputable def f (n : Nat) (a0 a1 a2 a3 : Int) : Ω (Int × Int × Int) := b0 soft_operations.f (soft_add.f n) (soft_sub.f n) (soft_mul.f n) (soft_div.f n) (soft_sqrt.f n) (soft_fma.f n) a0 a1 a2 a3
noncomputable def sg : Sig (Int × Int × Int) := s2 (sInt .u64) (s2 (sInt .i64) (s1 (sInt .i64)))
noncomputable def code : Code := (Tryd.f5.body).getD .skip
noncomputable def cfg (c18 : Ω (Unit)) (c44 : Int→Int→Int→Ω (Int × Int)) (c45 : Int→Int→Int→Ω (Int × Int)) (c46 : Int→Int→Int→Ω (Int × Int)) (c47 : Int→Int→Int→Ω (Int × Int)) (c48 : Int→Int→Int→Ω (Int × Int)) (c49 : Int→Int→Int→Ω (Int × Int)) : Cfg (Int × Int × Int) := { T := tys, call := orCall 18 (soft_operations.call c18) (orCall 44 (soft_add.call c44) (orCall 45 (soft_sub.call c45) (orCall 46 (soft_mul.call c46) (orCall 47 (soft_div.call c47) (orCall 48 (soft_sqrt.call c48) (orCall 49 (soft_fma.call c49) (noCall))))))) }
noncomputable def cuts : List (Nat × List (Nat × Want)) := []
theorem e0 (c18 : Ω (Unit)) (c44 : Int→Int→Int→Ω (Int × Int)) (c45 : Int→Int→Int→Ω (Int × Int)) (c46 : Int→Int→Int→Ω (Int × Int)) (c47 : Int→Int→Int→Ω (Int × Int)) (c48 : Int→Int→Int→Ω (Int × Int)) (c49 : Int→Int→Int→Ω (Int × Int)) (n : Nat) (J : Jt (Int × Int × Int)) (a0 a1 a2 a3 : Int) : afun (cfg c18 c44 c45 c46 c47 c48 c49) J cuts n code Tryd.f5.results.toList [false, false, false] [.int .i64 a0, .int .u64 a1, .int .u64 a2, .int .u64 a3] sg.out = b0 c18 c44 c45 c46 c47 c48 c49 a0 a1 a2 a3 := by kernel_rfl
theorem eq (n : Nat) (a0 a1 a2 a3 : Int) : afun (cfg soft_operations.f (soft_add.f n) (soft_sub.f n) (soft_mul.f n) (soft_div.f n) (soft_sqrt.f n) (soft_fma.f n)) idJ cuts n code Tryd.f5.results.toList [false, false, false] [.int .i64 a0, .int .u64 a1, .int .u64 a2, .int .u64 a3] sg.out = f n a0 a1 a2 a3 := (e0 soft_operations.f (soft_add.f n) (soft_sub.f n) (soft_mul.f n) (soft_div.f n) (soft_sqrt.f n) (soft_fma.f n) n idJ a0 a1 a2 a3).trans (rfl)
theorem ok {n : Nat} {a0 : Int} {a1 : Int} {a2 : Int} {a3 : Int} {r : Int × Int × Int} (h : f n a0 a1 a2 a3 = some r) : CallD Tryd.prog HW 5 [.int .i64 a0, .int .u64 a1, .int .u64 a2, .int .u64 a3] (sg.enc r) :=
  fun_some hwS Tryd.func5 (by kernel_rfl) (body := code) (by kernel_rfl) tys_ok (c := cfg soft_operations.f (soft_add.f n) (soft_sub.f n) (soft_mul.f n) (soft_div.f n) (soft_sqrt.f n) (soft_fma.f n)) (orCall_ok (soft_operations.call_ok (n := n)) (orCall_ok (soft_add.call_ok (n := n)) (orCall_ok (soft_sub.call_ok (n := n)) (orCall_ok (soft_mul.call_ok (n := n)) (orCall_ok (soft_div.call_ok (n := n)) (orCall_ok (soft_sqrt.call_ok (n := n)) (orCall_ok (soft_fma.call_ok (n := n)) noCall_ok))))))) noW_ok (by kernel_rfl) (by kernel_rfl) (Nat.le_of_ble_eq_true (by kernel_rfl)) ((eq n a0 a1 a2 a3).trans h)
noncomputable def call {α : Type} (g : Int→Int→Int→Int→Ω (Int × Int × Int)) (ds : List D) (K : List D→Ω α) : Ω α := match ds with
  | [.int .i64 a0, .int .u64 a1, .int .u64 a2, .int .u64 a3] => (g a0 a1 a2 a3).bind fun r => K (sg.enc r)
  | _ => none
theorem call_ok {α : Type} {n : Nat} (ds : List D) (K : List D→Ω α) (r : α) (h : call (f n) ds K = some r) : ∃ rs, K rs = some r ∧ CallD Tryd.prog HW 5 ds rs := by
  unfold call at h
  split at h
  · obtain ⟨x, hx, hk⟩ := Option.bind_eq_some_iff.1 h
    exact ⟨_, hk, ok (n := n) hx⟩
  · cases h
end soft_Told
/-! ### ieee_Integral: function 15 -/
namespace ieee_Integral
noncomputable def b0 (c20 : Int→Ω (Bool × Int × Int × Int)) (c42 : Int→Ω (Int)) (a0 : Int) : Ω (Bool) := ((c20 a0).bind fun t1 => (if t1.2.1 ≥ 3 then some false else (if t1.2.2.1 = 0 then some true else (if t1.2.2.2 ≥ 0 then some true else ((c42 t1.2.2.1).bind fun t2 => some (decide (t2 ≥ (wrap64 (-t1.2.2.2)))))))))
noncomputable def f (a0 : Int) : Ω (Bool) := b0 ieee_Decode.f bits_TrailingZeros64.f a0
noncomputable def sg : Sig (Bool) := s1 (sBool)
noncomputable def code : Code := (Tryd.f15.body).getD .skip
noncomputable def cfg (c20 : Int→Ω (Bool × Int × Int × Int)) (c42 : Int→Ω (Int)) : Cfg (Bool) := { T := tys, call := orCall 20 (ieee_Decode.call c20) (orCall 42 (bits_TrailingZeros64.call c42) (noCall)) }
noncomputable def cuts : List (Nat × List (Nat × Want)) := []
theorem e0 (c20 : Int→Ω (Bool × Int × Int × Int)) (c42 : Int→Ω (Int)) (n : Nat) (J : Jt (Bool)) (a0 : Int) : afun (cfg c20 c42) J cuts n code Tryd.f15.results.toList [false] [.int .u64 a0] sg.out = b0 c20 c42 a0 := by kernel_rfl
theorem eq (n : Nat) (a0 : Int) : afun (cfg ieee_Decode.f bits_TrailingZeros64.f) idJ cuts n code Tryd.f15.results.toList [false] [.int .u64 a0] sg.out = f a0 := (e0 ieee_Decode.f bits_TrailingZeros64.f n idJ a0).trans (rfl)
theorem ok {n : Nat} {a0 : Int} {r : Bool} (h : f a0 = some r) : CallD Tryd.prog HW 15 [.int .u64 a0] (sg.enc r) :=
  fun_some hwS Tryd.func15 (by kernel_rfl) (body := code) (by kernel_rfl) tys_ok (c := cfg ieee_Decode.f bits_TrailingZeros64.f) (orCall_ok (ieee_Decode.call_ok (n := n)) (orCall_ok (bits_TrailingZeros64.call_ok (n := n)) noCall_ok)) noW_ok (by kernel_rfl) (by kernel_rfl) (Nat.le_of_ble_eq_true (by kernel_rfl)) ((eq n a0).trans h)
noncomputable def call {α : Type} (g : Int→Ω (Bool)) (ds : List D) (K : List D→Ω α) : Ω α := match ds with
  | [.int .u64 a0] => (g a0).bind fun r => K (sg.enc r)
  | _ => none
theorem call_ok {α : Type} {n : Nat} (ds : List D) (K : List D→Ω α) (r : α) (h : call f ds K = some r) : ∃ rs, K rs = some r ∧ CallD Tryd.prog HW 15 ds rs := by
  unfold call at h
  split at h
  · obtain ⟨x, hx, hk⟩ := Option.bind_eq_some_iff.1 h
    exact ⟨_, hk, ok (n := n) hx⟩
  · cases h
end ieee_Integral
/-! ### ieee_Rank: function 56 -/
namespace ieee_Rank
noncomputable def b0 (c17 : Int→Ω (Int)) (a0 : Int) : Ω (Int × Bool) := ((c17 a0).bind fun t1 => (if (wrap64 t1) > 9218868437227405312 then some (0, false) else (if ¬ (Go.bits .and .u64 a0 9223372036854775808) = 0 then some (wrap64 (-(wrap64 t1)), true) else some (wrap64 t1, true))))
noncomputable def f (a0 : Int) : Ω (Int × Bool) := b0 ieee_Abs.f a0
noncomputable def sg : Sig (Int × Bool) := s2 (sInt .i64) (s1 (sBool))
noncomputable def code : Code := (Tryd.f56.body).getD .skip
noncomputable def cfg (c17 : Int→Ω (Int)) : Cfg (Int × Bool) := { T := tys, call := orCall 17 (ieee_Abs.call c17) (noCall) }
noncomputable def cuts : List (Nat × List (Nat × Want)) := []
theorem e0 (c17 : Int→Ω (Int)) (n : Nat) (J : Jt (Int × Bool)) (a0 : Int) : afun (cfg c17) J cuts n code Tryd.f56.results.toList [false, false] [.int .u64 a0] sg.out = b0 c17 a0 := by kernel_rfl
theorem eq (n : Nat) (a0 : Int) : afun (cfg ieee_Abs.f) idJ cuts n code Tryd.f56.results.toList [false, false] [.int .u64 a0] sg.out = f a0 := (e0 ieee_Abs.f n idJ a0).trans (rfl)
theorem ok {n : Nat} {a0 : Int} {r : Int × Bool} (h : f a0 = some r) : CallD Tryd.prog HW 56 [.int .u64 a0] (sg.enc r) :=
  fun_some hwS Tryd.func56 (by kernel_rfl) (body := code) (by kernel_rfl) tys_ok (c := cfg ieee_Abs.f) (orCall_ok (ieee_Abs.call_ok (n := n)) noCall_ok) noW_ok (by kernel_rfl) (by kernel_rfl) (Nat.le_of_ble_eq_true (by kernel_rfl)) ((eq n a0).trans h)
noncomputable def call {α : Type} (g : Int→Ω (Int × Bool)) (ds : List D) (K : List D→Ω α) : Ω α := match ds with
  | [.int .u64 a0] => (g a0).bind fun r => K (sg.enc r)
  | _ => none
theorem call_ok {α : Type} {n : Nat} (ds : List D) (K : List D→Ω α) (r : α) (h : call f ds K = some r) : ∃ rs, K rs = some r ∧ CallD Tryd.prog HW 56 ds rs := by
  unfold call at h
  split at h
  · obtain ⟨x, hx, hk⟩ := Option.bind_eq_some_iff.1 h
    exact ⟨_, hk, ok (n := n) hx⟩
  · cases h
end ieee_Rank
/-! ### ieee_order: function 74 -/
namespace ieee_order
noncomputable def b0 (a0 a1 : Int) : Ω (Int) := (if a0 < a1 then some (-1) else (if a0 > a1 then some 1 else some 0))
noncomputable def f (a0 a1 : Int) : Ω (Int) := b0 a0 a1
noncomputable def sg : Sig (Int) := s1 (sInt .i64)
noncomputable def code : Code := (Tryd.f74.body).getD .skip
noncomputable def cfg : Cfg (Int) := { T := tys, call := noCall }
noncomputable def cuts : List (Nat × List (Nat × Want)) := []
theorem e0 (n : Nat) (J : Jt (Int)) (a0 a1 : Int) : afun cfg J cuts n code Tryd.f74.results.toList [false] [.int .i64 a0, .int .i64 a1] sg.out = b0 a0 a1 := by kernel_rfl
theorem eq (n : Nat) (a0 a1 : Int) : afun cfg idJ cuts n code Tryd.f74.results.toList [false] [.int .i64 a0, .int .i64 a1] sg.out = f a0 a1 := (e0 n idJ a0 a1).trans (rfl)
theorem ok {n : Nat} {a0 : Int} {a1 : Int} {r : Int} (h : f a0 a1 = some r) : CallD Tryd.prog HW 74 [.int .i64 a0, .int .i64 a1] (sg.enc r) :=
  fun_some hwS Tryd.func74 (by kernel_rfl) (body := code) (by kernel_rfl) tys_ok (c := cfg) noCall_ok noW_ok (by kernel_rfl) (by kernel_rfl) (Nat.le_of_ble_eq_true (by kernel_rfl)) ((eq n a0 a1).trans h)
noncomputable def call {α : Type} (g : Int→Int→Ω (Int)) (ds : List D) (K : List D→Ω α) : Ω α := match ds with
  | [.int .i64 a0, .int .i64 a1] => (g a0 a1).bind fun r => K (sg.enc r)
  | _ => none
theorem call_ok {α : Type} {n : Nat} (ds : List D) (K : List D→Ω α) (r : α) (h : call f ds K = some r) : ∃ rs, K rs = some r ∧ CallD Tryd.prog HW 74 ds rs := by
  unfold call at h
  split at h
  · obtain ⟨x, hx, hk⟩ := Option.bind_eq_some_iff.1 h
    exact ⟨_, hk, ok (n := n) hx⟩
  · cases h
end ieee_order
/-! ### ieee_Compare: function 43 -/
namespace ieee_Compare
noncomputable def b0 (c56 : Int→Ω (Int × Bool)) (c74 : Int→Int→Ω (Int)) (a0 a1 : Int) : Ω (Int × Bool) := ((c56 a0).bind fun t1 => ((c56 a1).bind fun t2 => (if (!t1.2) = true then some (0, false) else (if (!t2.2) = true then some (0, false) else ((c74 t1.1 t2.1).bind fun t3 => some (t3, true))))))
noncomputable def f (a0 a1 : Int) : Ω (Int × Bool) := b0 ieee_Rank.f ieee_order.f a0 a1
noncomputable def sg : Sig (Int × Bool) := s2 (sInt .i64) (s1 (sBool))
noncomputable def code : Code := (Tryd.f43.body).getD .skip
noncomputable def cfg (c56 : Int→Ω (Int × Bool)) (c74 : Int→Int→Ω (Int)) : Cfg (Int × Bool) := { T := tys, call := orCall 56 (ieee_Rank.call c56) (orCall 74 (ieee_order.call c74) (noCall)) }
noncomputable def cuts : List (Nat × List (Nat × Want)) := []
theorem e0 (c56 : Int→Ω (Int × Bool)) (c74 : Int→Int→Ω (Int)) (n : Nat) (J : Jt (Int × Bool)) (a0 a1 : Int) : afun (cfg c56 c74) J cuts n code Tryd.f43.results.toList [false, false] [.int .u64 a0, .int .u64 a1] sg.out = b0 c56 c74 a0 a1 := by kernel_rfl
theorem eq (n : Nat) (a0 a1 : Int) : afun (cfg ieee_Rank.f ieee_order.f) idJ cuts n code Tryd.f43.results.toList [false, false] [.int .u64 a0, .int .u64 a1] sg.out = f a0 a1 := (e0 ieee_Rank.f ieee_order.f n idJ a0 a1).trans (rfl)
theorem ok {n : Nat} {a0 : Int} {a1 : Int} {r : Int × Bool} (h : f a0 a1 = some r) : CallD Tryd.prog HW 43 [.int .u64 a0, .int .u64 a1] (sg.enc r) :=
  fun_some hwS Tryd.func43 (by kernel_rfl) (body := code) (by kernel_rfl) tys_ok (c := cfg ieee_Rank.f ieee_order.f) (orCall_ok (ieee_Rank.call_ok (n := n)) (orCall_ok (ieee_order.call_ok (n := n)) noCall_ok)) noW_ok (by kernel_rfl) (by kernel_rfl) (Nat.le_of_ble_eq_true (by kernel_rfl)) ((eq n a0 a1).trans h)
noncomputable def call {α : Type} (g : Int→Int→Ω (Int × Bool)) (ds : List D) (K : List D→Ω α) : Ω α := match ds with
  | [.int .u64 a0, .int .u64 a1] => (g a0 a1).bind fun r => K (sg.enc r)
  | _ => none
theorem call_ok {α : Type} {n : Nat} (ds : List D) (K : List D→Ω α) (r : α) (h : call f ds K = some r) : ∃ rs, K rs = some r ∧ CallD Tryd.prog HW 43 ds rs := by
  unfold call at h
  split at h
  · obtain ⟨x, hx, hk⟩ := Option.bind_eq_some_iff.1 h
    exact ⟨_, hk, ok (n := n) hx⟩
  · cases h
end ieee_Compare
/-! ### abacuslaw06_below: function 16 -/
namespace abacuslaw06_below
noncomputable def b0 (c43 : Int→Int→Ω (Int × Bool)) (a0 a1 : Int) : Ω (Bool) := ((c43 a0 a1).bind fun t1 => (if t1.2 = true then some (decide (t1.1 < 0)) else some false))
noncomputable def f (a0 a1 : Int) : Ω (Bool) := b0 ieee_Compare.f a0 a1
noncomputable def sg : Sig (Bool) := s1 (sBool)
noncomputable def code : Code := (Tryd.f16.body).getD .skip
noncomputable def cfg (c43 : Int→Int→Ω (Int × Bool)) : Cfg (Bool) := { T := tys, call := orCall 43 (ieee_Compare.call c43) (noCall) }
noncomputable def cuts : List (Nat × List (Nat × Want)) := []
theorem e0 (c43 : Int→Int→Ω (Int × Bool)) (n : Nat) (J : Jt (Bool)) (a0 a1 : Int) : afun (cfg c43) J cuts n code Tryd.f16.results.toList [false] [.int .u64 a0, .int .u64 a1] sg.out = b0 c43 a0 a1 := by kernel_rfl
theorem eq (n : Nat) (a0 a1 : Int) : afun (cfg ieee_Compare.f) idJ cuts n code Tryd.f16.results.toList [false] [.int .u64 a0, .int .u64 a1] sg.out = f a0 a1 := (e0 ieee_Compare.f n idJ a0 a1).trans (rfl)
theorem ok {n : Nat} {a0 : Int} {a1 : Int} {r : Bool} (h : f a0 a1 = some r) : CallD Tryd.prog HW 16 [.int .u64 a0, .int .u64 a1] (sg.enc r) :=
  fun_some hwS Tryd.func16 (by kernel_rfl) (body := code) (by kernel_rfl) tys_ok (c := cfg ieee_Compare.f) (orCall_ok (ieee_Compare.call_ok (n := n)) noCall_ok) noW_ok (by kernel_rfl) (by kernel_rfl) (Nat.le_of_ble_eq_true (by kernel_rfl)) ((eq n a0 a1).trans h)
noncomputable def call {α : Type} (g : Int→Int→Ω (Bool)) (ds : List D) (K : List D→Ω α) : Ω α := match ds with
  | [.int .u64 a0, .int .u64 a1] => (g a0 a1).bind fun r => K (sg.enc r)
  | _ => none
theorem call_ok {α : Type} {n : Nat} (ds : List D) (K : List D→Ω α) (r : α) (h : call f ds K = some r) : ∃ rs, K rs = some r ∧ CallD Tryd.prog HW 16 ds rs := by
  unfold call at h
  split at h
  · obtain ⟨x, hx, hk⟩ := Option.bind_eq_some_iff.1 h
    exact ⟨_, hk, ok (n := n) hx⟩
  · cases h
end abacuslaw06_below
/-! ### abacuslaw06_RemainJoins: function 4 -/
namespace abacuslaw06_RemainJoins
noncomputable def b0 (c5 : Int→Int→Int→Int→Ω (Int × Int × Int)) (c11 : Ω (Bool)) (c12 : Int→Ω (Bool)) (c13 : Int→Ω (Bool)) (c14 : Int→Ω (Int × Int)) (c15 : Int→Ω (Bool)) (c16 : Int→Int→Ω (Bool)) (c17 : Int→Ω (Int)) (a0 : Int) : Ω (Bool) := ((c11).bind fun t1 => (if (!t1) = true then some false else ((c12 a0).bind fun t2 => (if (!t2) = true then ((c13 a0).bind fun t3 => some t3) else ((c14 a0).bind fun t4 => ((c5 1 t4.1 t4.2 0).bind fun t5 => (if t5.1 = a0 then (if t5.2.1 = 0 then (if t5.2.2 = 0 then ((c15 t4.1).bind fun t6 => (if t6 = true then ((c17 t4.2).bind fun t7 => ((c16 t7 4607182418800017408).bind fun t8 => (if t8 = true then (if (IntKind.u64.wrap (Int.tdiv t4.1 9223372036854775808)) = (IntKind.u64.wrap (Int.tdiv a0 9223372036854775808)) then some (decide ((IntKind.u64.wrap (Int.tdiv t4.2 9223372036854775808)) = (IntKind.u64.wrap (Int.tdiv a0 9223372036854775808)))) else some false) else some false))) else some false)) else some false) else some false) else some false)))))))
noncomputable def f (n : Nat) (a0 : Int) : Ω (Bool) := b0 (soft_Told.f n) (abacuslaw06_awake.f n) abacuslaw06_finite.f (abacuslaw06_bearers.f n) (remain_Split.f n) ieee_Integral.f abacuslaw06_below.f ieee_Abs.f a0
noncomputable def sg : Sig (Bool) := s1 (sBool)
noncomputable def code : Code := (Tryd.f4.body).getD .skip
noncomputable def cfg (c5 : Int→Int→Int→Int→Ω (Int × Int × Int)) (c11 : Ω (Bool)) (c12 : Int→Ω (Bool)) (c13 : Int→Ω (Bool)) (c14 : Int→Ω (Int × Int)) (c15 : Int→Ω (Bool)) (c16 : Int→Int→Ω (Bool)) (c17 : Int→Ω (Int)) : Cfg (Bool) := { T := tys, call := orCall 5 (soft_Told.call c5) (orCall 11 (abacuslaw06_awake.call c11) (orCall 12 (abacuslaw06_finite.call c12) (orCall 13 (abacuslaw06_bearers.call c13) (orCall 14 (remain_Split.call c14) (orCall 15 (ieee_Integral.call c15) (orCall 16 (abacuslaw06_below.call c16) (orCall 17 (ieee_Abs.call c17) (noCall)))))))) }
noncomputable def cuts : List (Nat × List (Nat × Want)) := []
theorem e0 (c5 : Int→Int→Int→Int→Ω (Int × Int × Int)) (c11 : Ω (Bool)) (c12 : Int→Ω (Bool)) (c13 : Int→Ω (Bool)) (c14 : Int→Ω (Int × Int)) (c15 : Int→Ω (Bool)) (c16 : Int→Int→Ω (Bool)) (c17 : Int→Ω (Int)) (n : Nat) (J : Jt (Bool)) (a0 : Int) : afun (cfg c5 c11 c12 c13 c14 c15 c16 c17) J cuts n code Tryd.f4.results.toList [false] [.int .u64 a0] sg.out = b0 c5 c11 c12 c13 c14 c15 c16 c17 a0 := by kernel_rfl
theorem eq (n : Nat) (a0 : Int) : afun (cfg (soft_Told.f n) (abacuslaw06_awake.f n) abacuslaw06_finite.f (abacuslaw06_bearers.f n) (remain_Split.f n) ieee_Integral.f abacuslaw06_below.f ieee_Abs.f) idJ cuts n code Tryd.f4.results.toList [false] [.int .u64 a0] sg.out = f n a0 := (e0 (soft_Told.f n) (abacuslaw06_awake.f n) abacuslaw06_finite.f (abacuslaw06_bearers.f n) (remain_Split.f n) ieee_Integral.f abacuslaw06_below.f ieee_Abs.f n idJ a0).trans (rfl)
theorem ok {n : Nat} {a0 : Int} {r : Bool} (h : f n a0 = some r) : CallD Tryd.prog HW 4 [.int .u64 a0] (sg.enc r) :=
  fun_some hwS Tryd.func4 (by kernel_rfl) (body := code) (by kernel_rfl) tys_ok (c := cfg (soft_Told.f n) (abacuslaw06_awake.f n) abacuslaw06_finite.f (abacuslaw06_bearers.f n) (remain_Split.f n) ieee_Integral.f abacuslaw06_below.f ieee_Abs.f) (orCall_ok (soft_Told.call_ok (n := n)) (orCall_ok (abacuslaw06_awake.call_ok (n := n)) (orCall_ok (abacuslaw06_finite.call_ok (n := n)) (orCall_ok (abacuslaw06_bearers.call_ok (n := n)) (orCall_ok (remain_Split.call_ok (n := n)) (orCall_ok (ieee_Integral.call_ok (n := n)) (orCall_ok (abacuslaw06_below.call_ok (n := n)) (orCall_ok (ieee_Abs.call_ok (n := n)) noCall_ok)))))))) noW_ok (by kernel_rfl) (by kernel_rfl) (Nat.le_of_ble_eq_true (by kernel_rfl)) ((eq n a0).trans h)
theorem walk {n : Nat} {a0 : Int} {r : Bool} (h : f n a0 = some r) {w : World} (hw : HW w) : Calls Tryd.prog 4 (([.int .u64 a0] : List D).map D.val).toArray w fun e w' => e = .returned (packV (sg.enc r)) ∧ Below w.heap.size w w' :=
  walk_scal (H := HW) rfl rfl (fun_calls hwS Tryd.func4 (by kernel_rfl) (body := code) (by kernel_rfl) tys_ok (c := cfg (soft_Told.f n) (abacuslaw06_awake.f n) abacuslaw06_finite.f (abacuslaw06_bearers.f n) (remain_Split.f n) ieee_Integral.f abacuslaw06_below.f ieee_Abs.f) (orCall_ok (soft_Told.call_ok (n := n)) (orCall_ok (abacuslaw06_awake.call_ok (n := n)) (orCall_ok (abacuslaw06_finite.call_ok (n := n)) (orCall_ok (abacuslaw06_bearers.call_ok (n := n)) (orCall_ok (remain_Split.call_ok (n := n)) (orCall_ok (ieee_Integral.call_ok (n := n)) (orCall_ok (abacuslaw06_below.call_ok (n := n)) (orCall_ok (ieee_Abs.call_ok (n := n)) noCall_ok)))))))) noW_ok (by kernel_rfl) (by kernel_rfl) (Nat.le_of_ble_eq_true (by kernel_rfl)) ((eq n a0).trans h)) hw
noncomputable def call {α : Type} (g : Int→Ω (Bool)) (ds : List D) (K : List D→Ω α) : Ω α := match ds with
  | [.int .u64 a0] => (g a0).bind fun r => K (sg.enc r)
  | _ => none
theorem call_ok {α : Type} {n : Nat} (ds : List D) (K : List D→Ω α) (r : α) (h : call (f n) ds K = some r) : ∃ rs, K rs = some r ∧ CallD Tryd.prog HW 4 ds rs := by
  unfold call at h
  split at h
  · obtain ⟨x, hx, hk⟩ := Option.bind_eq_some_iff.1 h
    exact ⟨_, hk, ok (n := n) hx⟩
  · cases h
end abacuslaw06_RemainJoins
end Go.Proofs.YtobocamcoaeliaaDoor.F
