/- What the functions compute, and that calls of them answer so (printed by gen.py). Conditions: HW, a table as it was laid. -/
import Derived.Test.YtceihajjpeoloaaDoorF0
namespace Go.Proofs.YtceihajjpeoloaaDoor.F
open Go.RowKit Go.Proofs.YtceihajjpeoloaaDoorA
set_option linter.unusedVariables false
set_option maxRecDepth 100000
local notation "Λ" => List Int
local notation "Ω" => Option
/-! ### quot_Root: function 71 -/
noncomputable def quot_Root.b0 (c41 : Λ→Ω (Int)) (c42 : Λ→Λ→Ω (Int)) (c99 : Λ→Λ→Ω (Λ × Int)) (c100 : Λ→Λ→Ω (Λ × Int)) (c125 : Λ→Int→Ω (Λ × Int)) (c126 : Λ→Int→Ω (Λ × Bool × Int)) (c130 : Λ→Λ→Ω (Λ × Λ × Int)) (c157 : Λ→Int→Ω (Λ × Bool)) (k505 : Λ→Λ→Ω (Λ × Bool × Int)) (l0 : Λ) : Ω (Λ × Bool × Int) := ((c157 l0 256).bind fun t1 => (if (!t1.2) = true then some (([] : Λ), false, 2) else (if (ln t1.1) = 0 then some (([] : Λ), true, 0) else ((c41 t1.1).bind fun t2 => ((c125 [1] (wrap64 (Int.tdiv (wrap64 (t2 + 1)) 2))).bind fun t3 => k505 t1.1 t3.1)))))
noncomputable def quot_Root.b127 (c41 : Λ→Ω (Int)) (c42 : Λ→Λ→Ω (Int)) (c99 : Λ→Λ→Ω (Λ × Int)) (c100 : Λ→Λ→Ω (Λ × Int)) (c125 : Λ→Int→Ω (Λ × Int)) (c126 : Λ→Int→Ω (Λ × Bool × Int)) (c130 : Λ→Λ→Ω (Λ × Λ × Int)) (c157 : Λ→Int→Ω (Λ × Bool)) (x0 : Λ) (x1 : Λ) : Ω (Λ × Bool × Int) := ((c100 x1 x1).bind fun t1 => ((c42 t1.1 x0).bind fun t2 => some (x1, decide (t2 = 0), 0)))
noncomputable def quot_Root.b505 (c41 : Λ→Ω (Int)) (c42 : Λ→Λ→Ω (Int)) (c99 : Λ→Λ→Ω (Λ × Int)) (c100 : Λ→Λ→Ω (Λ × Int)) (c125 : Λ→Int→Ω (Λ × Int)) (c126 : Λ→Int→Ω (Λ × Bool × Int)) (c130 : Λ→Λ→Ω (Λ × Λ × Int)) (c157 : Λ→Int→Ω (Λ × Bool)) (k127 : Λ→Λ→Ω (Λ × Bool × Int)) (k505 : Λ→Λ→Ω (Λ × Bool × Int)) (x0 : Λ) (x1 : Λ) : Ω (Λ × Bool × Int) := ((c130 x0 x1).bind fun t1 => ((c99 x1 t1.1).bind fun t2 => ((c126 t2.1 1).bind fun t3 => ((c42 t3.1 x1).bind fun t4 => (if t4 ≥ 0 then k127 x0 x1 else k505 x0 t3.1)))))
noncomputable def quot_Root.l127 (n : Nat) (x0 : Λ) (x1 : Λ) : Ω (Λ × Bool × Int) := quot_Root.b127 (nat_BitLen.f n) (nat_Cmp.f n) (nat_Add.f n) (nat_Mul.f n) (nat_Shl.f n) (nat_Shr.f n) (quot_DivMod.f n) (quot_small.f n) x0 x1
noncomputable def quot_Root.l505 (n : Nat) : Nat→Λ→Λ→Ω (Λ × Bool × Int)
  | 0, _, _ => none
  | m + 1, x0, x1 => quot_Root.b505 (nat_BitLen.f n) (nat_Cmp.f n) (nat_Add.f n) (nat_Mul.f n) (nat_Shl.f n) (nat_Shr.f n) (quot_DivMod.f n) (quot_small.f n) (quot_Root.l127 n) (quot_Root.l505 n m) x0 x1
noncomputable def quot_Root.f (n : Nat) (l0 : Λ) : Ω (Λ × Bool × Int) := quot_Root.b0 (nat_BitLen.f n) (nat_Cmp.f n) (nat_Add.f n) (nat_Mul.f n) (nat_Shl.f n) (nat_Shr.f n) (quot_DivMod.f n) (quot_small.f n) (quot_Root.l505 n n) l0
noncomputable def quot_Root.sg : Sig (Λ × Bool × Int) := s2 (sRow .u64) (s2 (sBool) (s1 (sInt .i64)))
noncomputable def quot_Root.code : Code := (Tryd.f71.body).getD .skip
noncomputable def quot_Root.cfg (c41 : Λ→Ω (Int)) (c42 : Λ→Λ→Ω (Int)) (c99 : Λ→Λ→Ω (Λ × Int)) (c100 : Λ→Λ→Ω (Λ × Int)) (c125 : Λ→Int→Ω (Λ × Int)) (c126 : Λ→Int→Ω (Λ × Bool × Int)) (c130 : Λ→Λ→Ω (Λ × Λ × Int)) (c157 : Λ→Int→Ω (Λ × Bool)) : Cfg (Λ × Bool × Int) := { T := tys, call := orCall 41 (nat_BitLen.call c41) (orCall 42 (nat_Cmp.call c42) (orCall 99 (nat_Add.call c99) (orCall 100 (nat_Mul.call c100) (orCall 125 (nat_Shl.call c125) (orCall 126 (nat_Shr.call c126) (orCall 130 (quot_DivMod.call c130) (orCall 157 (quot_small.call c157) (noCall)))))))) }
noncomputable def quot_Root.cuts : List (Nat × List (Nat × Want)) := [(127, [(5, .keep), (7, .keep)]), (505, [(5, .keep), (7, .keep)])]
noncomputable def quot_Root.s127 (x0 : Λ) (x1 : Λ) : ASt := ⟨[(5, .ro .u64 x0), (7, .ro .u64 x1)], []⟩
noncomputable def quot_Root.s505 (x0 : Λ) (x1 : Λ) : ASt := ⟨[(5, .ro .u64 x0), (7, .ro .u64 x1)], []⟩
noncomputable def quot_Root.A (c41 : Λ→Ω (Int)) (c42 : Λ→Λ→Ω (Int)) (c99 : Λ→Λ→Ω (Λ × Int)) (c100 : Λ→Λ→Ω (Λ × Int)) (c125 : Λ→Int→Ω (Λ × Int)) (c126 : Λ→Int→Ω (Λ × Bool × Int)) (c130 : Λ→Λ→Ω (Λ × Λ × Int)) (c157 : Λ→Int→Ω (Λ × Bool)) (n : Nat) (J : Nat→(ASt→Ω (Λ × Bool × Int))→ASt→Ω (Λ × Bool × Int)) (q : Nat) (ms : List Nat) : ASt→Ω (Λ × Bool × Int) := acont (quot_Root.cfg c41 c42 c99 c100 c125 c126 c130 c157) J quot_Root.cuts n q quot_Root.code 1 ms (aend (quot_Root.cfg c41 c42 c99 c100 c125 c126 c130 c157) Tryd.f71.results.toList [false, false, false] quot_Root.sg.out)
theorem quot_Root.e0 (c41 : Λ→Ω (Int)) (c42 : Λ→Λ→Ω (Int)) (c99 : Λ→Λ→Ω (Λ × Int)) (c100 : Λ→Λ→Ω (Λ × Int)) (c125 : Λ→Int→Ω (Λ × Int)) (c126 : Λ→Int→Ω (Λ × Bool × Int)) (c130 : Λ→Λ→Ω (Λ × Λ × Int)) (c157 : Λ→Int→Ω (Λ × Bool)) (n : Nat) (J : Nat→(ASt→Ω (Λ × Bool × Int))→ASt→Ω (Λ × Bool × Int)) (l0 : Λ) : afun (quot_Root.cfg c41 c42 c99 c100 c125 c126 c130 c157) J quot_Root.cuts n quot_Root.code Tryd.f71.results.toList [false, false, false] [.ro .u64 l0] quot_Root.sg.out = quot_Root.b0 c41 c42 c99 c100 c125 c126 c130 c157 (fun y0 y1 => J 505 (quot_Root.A c41 c42 c99 c100 c125 c126 c130 c157 n J 505 [n]) (quot_Root.s505 y0 y1)) l0 := by kernel_rfl
theorem quot_Root.e127 (c41 : Λ→Ω (Int)) (c42 : Λ→Λ→Ω (Int)) (c99 : Λ→Λ→Ω (Λ × Int)) (c100 : Λ→Λ→Ω (Λ × Int)) (c125 : Λ→Int→Ω (Λ × Int)) (c126 : Λ→Int→Ω (Λ × Bool × Int)) (c130 : Λ→Λ→Ω (Λ × Λ × Int)) (c157 : Λ→Int→Ω (Λ × Bool)) (n : Nat) (J : Nat→(ASt→Ω (Λ × Bool × Int))→ASt→Ω (Λ × Bool × Int)) (x0 : Λ) (x1 : Λ) : quot_Root.A c41 c42 c99 c100 c125 c126 c130 c157 n J 127 [] (quot_Root.s127 x0 x1) = quot_Root.b127 c41 c42 c99 c100 c125 c126 c130 c157 x0 x1 := by kernel_rfl
theorem quot_Root.e505 (c41 : Λ→Ω (Int)) (c42 : Λ→Λ→Ω (Int)) (c99 : Λ→Λ→Ω (Λ × Int)) (c100 : Λ→Λ→Ω (Λ × Int)) (c125 : Λ→Int→Ω (Λ × Int)) (c126 : Λ→Int→Ω (Λ × Bool × Int)) (c130 : Λ→Λ→Ω (Λ × Λ × Int)) (c157 : Λ→Int→Ω (Λ × Bool)) (n : Nat) (J : Nat→(ASt→Ω (Λ × Bool × Int))→ASt→Ω (Λ × Bool × Int)) (m : Nat) (x0 : Λ) (x1 : Λ) : quot_Root.A c41 c42 c99 c100 c125 c126 c130 c157 n J 505 [m + 1] (quot_Root.s505 x0 x1) = quot_Root.b505 c41 c42 c99 c100 c125 c126 c130 c157 (fun y0 y1 => J 127 (quot_Root.A c41 c42 c99 c100 c125 c126 c130 c157 n J 127 []) (quot_Root.s127 y0 y1)) (fun y0 y1 => J 505 (quot_Root.A c41 c42 c99 c100 c125 c126 c130 c157 n J 505 [m]) (quot_Root.s505 y0 y1)) x0 x1 := by kernel_rfl
theorem quot_Root.q127 (n : Nat) (x0 : Λ) (x1 : Λ) : quot_Root.A (nat_BitLen.f n) (nat_Cmp.f n) (nat_Add.f n) (nat_Mul.f n) (nat_Shl.f n) (nat_Shr.f n) (quot_DivMod.f n) (quot_small.f n) n idJ 127 [] (quot_Root.s127 x0 x1) = quot_Root.l127 n x0 x1 := (quot_Root.e127 (nat_BitLen.f n) (nat_Cmp.f n) (nat_Add.f n) (nat_Mul.f n) (nat_Shl.f n) (nat_Shr.f n) (quot_DivMod.f n) (quot_small.f n) n idJ x0 x1).trans (rfl)
theorem quot_Root.q505 (n : Nat) (m : Nat) : ∀ (x0 : Λ) (x1 : Λ), quot_Root.A (nat_BitLen.f n) (nat_Cmp.f n) (nat_Add.f n) (nat_Mul.f n) (nat_Shl.f n) (nat_Shr.f n) (quot_DivMod.f n) (quot_small.f n) n idJ 505 [m] (quot_Root.s505 x0 x1) = quot_Root.l505 n m x0 x1 := by
  induction m with
  | zero => intros; rfl
  | succ m ih =>
    intro x0 x1
    refine (quot_Root.e505 (nat_BitLen.f n) (nat_Cmp.f n) (nat_Add.f n) (nat_Mul.f n) (nat_Shl.f n) (nat_Shr.f n) (quot_DivMod.f n) (quot_small.f n) n idJ m x0 x1).trans ?_
    exact congrFun (congrFun (congr (congrArg (quot_Root.b505 (nat_BitLen.f n) (nat_Cmp.f n) (nat_Add.f n) (nat_Mul.f n) (nat_Shl.f n) (nat_Shr.f n) (quot_DivMod.f n) (quot_small.f n)) (funext fun y0 => (funext fun y1 => quot_Root.q127 n y0 y1))) (funext fun y0 => (funext fun y1 => ih y0 y1))) x0) x1
theorem quot_Root.eq (n : Nat) (l0 : Λ) : afun (quot_Root.cfg (nat_BitLen.f n) (nat_Cmp.f n) (nat_Add.f n) (nat_Mul.f n) (nat_Shl.f n) (nat_Shr.f n) (quot_DivMod.f n) (quot_small.f n)) idJ quot_Root.cuts n quot_Root.code Tryd.f71.results.toList [false, false, false] [.ro .u64 l0] quot_Root.sg.out = quot_Root.f n l0 := (quot_Root.e0 (nat_BitLen.f n) (nat_Cmp.f n) (nat_Add.f n) (nat_Mul.f n) (nat_Shl.f n) (nat_Shr.f n) (quot_DivMod.f n) (quot_small.f n) n idJ l0).trans (congrFun (congrArg (quot_Root.b0 (nat_BitLen.f n) (nat_Cmp.f n) (nat_Add.f n) (nat_Mul.f n) (nat_Shl.f n) (nat_Shr.f n) (quot_DivMod.f n) (quot_small.f n)) (funext fun y0 => (funext fun y1 => quot_Root.q505 n n y0 y1))) l0)
theorem quot_Root.ok {n : Nat} {l0 : Λ} {r : Λ × Bool × Int} (h : quot_Root.f n l0 = some r) : CallD Tryd.prog HW 71 [.ro .u64 l0] (quot_Root.sg.enc r) :=
  fun_some hwS Tryd.func71 (by kernel_rfl) (body := quot_Root.code) (by kernel_rfl) tys_ok (c := quot_Root.cfg (nat_BitLen.f n) (nat_Cmp.f n) (nat_Add.f n) (nat_Mul.f n) (nat_Shl.f n) (nat_Shr.f n) (quot_DivMod.f n) (quot_small.f n)) (orCall_ok (nat_BitLen.call_ok (n := n)) (orCall_ok (nat_Cmp.call_ok (n := n)) (orCall_ok (nat_Add.call_ok (n := n)) (orCall_ok (nat_Mul.call_ok (n := n)) (orCall_ok (nat_Shl.call_ok (n := n)) (orCall_ok (nat_Shr.call_ok (n := n)) (orCall_ok (quot_DivMod.call_ok (n := n)) (orCall_ok (quot_small.call_ok (n := n)) noCall_ok)))))))) noW_ok (by kernel_rfl) (by kernel_rfl) (Nat.le_of_ble_eq_true (by kernel_rfl)) ((quot_Root.eq n l0).trans h)
noncomputable def quot_Root.call {α : Type} (g : Λ→Ω (Λ × Bool × Int)) (ds : List D) (K : List D→Ω α) : Ω α := match ds with
  | [.ro .u64 l0] => (g l0).bind fun r => K (quot_Root.sg.enc r)
  | _ => none
theorem quot_Root.call_ok {α : Type} {n : Nat} (ds : List D) (K : List D→Ω α) (r : α) (h : quot_Root.call (quot_Root.f n) ds K = some r) : ∃ rs, K rs = some r ∧ CallD Tryd.prog HW 71 ds rs := by
  unfold quot_Root.call at h
  split at h
  · obtain ⟨x, hx, hk⟩ := Option.bind_eq_some_iff.1 h
    exact ⟨_, hk, quot_Root.ok (n := n) hx⟩
  · cases h
/-! ### soft_sqrt: function 66 -/
noncomputable def soft_sqrt.b0 (c41 : Λ→Ω (Int)) (c43 : Bool→Λ→Int→Bool→Ω (Int × Int)) (c71 : Λ→Ω (Λ × Bool × Int)) (c73 : Int→Ω (Bool × Int × Int × Int)) (c118 : Int→Ω (Λ)) (c121 : Λ→Ω (Int)) (c125 : Λ→Int→Ω (Λ × Int)) (c137 : Ω (Int × Int)) (k63 : Int→Bool→Int→Int→Int→Ω (Int × Int)) (a0 : Int) (a1 : Int) (a2 : Int) : Ω (Int × Int) := ((c73 a0).bind fun t1 => (if t1.2.1 = 4 then some (9221120237041090560, 0) else (if t1.2.1 = 0 then some (a0, 0) else (if t1.1 = true then ((c137).bind fun t2 => some (t2.1, t2.2)) else (if t1.2.1 = 3 then some (a0, 0) else (if ¬ (Int.tmod (wrap64 (t1.2.2.2 - 118)) 2) = 0 then k63 119 t1.1 t1.2.1 t1.2.2.1 t1.2.2.2 else k63 118 t1.1 t1.2.1 t1.2.2.1 t1.2.2.2))))))
noncomputable def soft_sqrt.b63 (c41 : Λ→Ω (Int)) (c43 : Bool→Λ→Int→Bool→Ω (Int × Int)) (c71 : Λ→Ω (Λ × Bool × Int)) (c73 : Int→Ω (Bool × Int × Int × Int)) (c118 : Int→Ω (Λ)) (c121 : Λ→Ω (Int)) (c125 : Λ→Int→Ω (Λ × Int)) (c137 : Ω (Int × Int)) (x0 : Int) (x1 : Bool) (x2 : Int) (x3 : Int) (x4 : Int) : Ω (Int × Int) := ((c118 x3).bind fun t1 => ((c125 t1 x0).bind fun t2 => ((c71 t2.1).bind fun t3 => ((c43 false t3.1 (wrap64 (Int.tdiv (wrap64 (x4 - x0)) 2)) (!t3.2.1)).bind fun t4 => (if t3.2.1 = true then ((c41 t3.1).bind fun t5 => ((c121 t3.1).bind fun t6 => (if (wrap64 (t5 - t6)) ≤ 53 then some (t4.1, 0) else some (t4.1, 16)))) else some (t4.1, 16))))))
noncomputable def soft_sqrt.l63 (n : Nat) (x0 : Int) (x1 : Bool) (x2 : Int) (x3 : Int) (x4 : Int) : Ω (Int × Int) := soft_sqrt.b63 (nat_BitLen.f n) (ieee_Round.f n) (quot_Root.f n) ieee_Decode.f nat_FromUint.f (nat_Trail.f n) (nat_Shl.f n) soft_invalid.f x0 x1 x2 x3 x4
noncomputable def soft_sqrt.f (n : Nat) (a0 : Int) (a1 : Int) (a2 : Int) : Ω (Int × Int) := soft_sqrt.b0 (nat_BitLen.f n) (ieee_Round.f n) (quot_Root.f n) ieee_Decode.f nat_FromUint.f (nat_Trail.f n) (nat_Shl.f n) soft_invalid.f (soft_sqrt.l63 n) a0 a1 a2
noncomputable def soft_sqrt.sg : Sig (Int × Int) := s2 (sInt .u64) (s1 (sInt .i64))
noncomputable def soft_sqrt.code : Code := (Tryd.f66.body).getD .skip
noncomputable def soft_sqrt.cfg (c41 : Λ→Ω (Int)) (c43 : Bool→Λ→Int→Bool→Ω (Int × Int)) (c71 : Λ→Ω (Λ × Bool × Int)) (c73 : Int→Ω (Bool × Int × Int × Int)) (c118 : Int→Ω (Λ)) (c121 : Λ→Ω (Int)) (c125 : Λ→Int→Ω (Λ × Int)) (c137 : Ω (Int × Int)) : Cfg (Int × Int) := { T := tys, call := orCall 41 (nat_BitLen.call c41) (orCall 43 (ieee_Round.call c43) (orCall 71 (quot_Root.call c71) (orCall 73 (ieee_Decode.call c73) (orCall 118 (nat_FromUint.call c118) (orCall 121 (nat_Trail.call c121) (orCall 125 (nat_Shl.call c125) (orCall 137 (soft_invalid.call c137) (noCall)))))))) }
noncomputable def soft_sqrt.cuts : List (Nat × List (Nat × Want)) := [(63, [(8, .keep), (9, .keep)])]
noncomputable def soft_sqrt.s63 (x0 : Int) (x1 : Bool) (x2 : Int) (x3 : Int) (x4 : Int) : ASt := ⟨[(8, .ptr 0 0), (9, .int .i64 x0)], [.cells 42 [.bool x1, .int .i64 x2, .int .u64 x3, .int .i64 x4]]⟩
noncomputable def soft_sqrt.A (c41 : Λ→Ω (Int)) (c43 : Bool→Λ→Int→Bool→Ω (Int × Int)) (c71 : Λ→Ω (Λ × Bool × Int)) (c73 : Int→Ω (Bool × Int × Int × Int)) (c118 : Int→Ω (Λ)) (c121 : Λ→Ω (Int)) (c125 : Λ→Int→Ω (Λ × Int)) (c137 : Ω (Int × Int)) (n : Nat) (J : Nat→(ASt→Ω (Int × Int))→ASt→Ω (Int × Int)) (q : Nat) (ms : List Nat) : ASt→Ω (Int × Int) := acont (soft_sqrt.cfg c41 c43 c71 c73 c118 c121 c125 c137) J soft_sqrt.cuts n q soft_sqrt.code 1 ms (aend (soft_sqrt.cfg c41 c43 c71 c73 c118 c121 c125 c137) Tryd.f66.results.toList [false, false] soft_sqrt.sg.out)
theorem soft_sqrt.e0 (c41 : Λ→Ω (Int)) (c43 : Bool→Λ→Int→Bool→Ω (Int × Int)) (c71 : Λ→Ω (Λ × Bool × Int)) (c73 : Int→Ω (Bool × Int × Int × Int)) (c118 : Int→Ω (Λ)) (c121 : Λ→Ω (Int)) (c125 : Λ→Int→Ω (Λ × Int)) (c137 : Ω (Int × Int)) (n : Nat) (J : Nat→(ASt→Ω (Int × Int))→ASt→Ω (Int × Int)) (a0 : Int) (a1 : Int) (a2 : Int) : afun (soft_sqrt.cfg c41 c43 c71 c73 c118 c121 c125 c137) J soft_sqrt.cuts n soft_sqrt.code Tryd.f66.results.toList [false, false] [.int .u64 a0, .int .u64 a1, .int .u64 a2] soft_sqrt.sg.out = soft_sqrt.b0 c41 c43 c71 c73 c118 c121 c125 c137 (fun y0 y1 y2 y3 y4 => J 63 (soft_sqrt.A c41 c43 c71 c73 c118 c121 c125 c137 n J 63 []) (soft_sqrt.s63 y0 y1 y2 y3 y4)) a0 a1 a2 := by kernel_rfl
theorem soft_sqrt.e63 (c41 : Λ→Ω (Int)) (c43 : Bool→Λ→Int→Bool→Ω (Int × Int)) (c71 : Λ→Ω (Λ × Bool × Int)) (c73 : Int→Ω (Bool × Int × Int × Int)) (c118 : Int→Ω (Λ)) (c121 : Λ→Ω (Int)) (c125 : Λ→Int→Ω (Λ × Int)) (c137 : Ω (Int × Int)) (n : Nat) (J : Nat→(ASt→Ω (Int × Int))→ASt→Ω (Int × Int)) (x0 : Int) (x1 : Bool) (x2 : Int) (x3 : Int) (x4 : Int) : soft_sqrt.A c41 c43 c71 c73 c118 c121 c125 c137 n J 63 [] (soft_sqrt.s63 x0 x1 x2 x3 x4) = soft_sqrt.b63 c41 c43 c71 c73 c118 c121 c125 c137 x0 x1 x2 x3 x4 := by kernel_rfl
theorem soft_sqrt.q63 (n : Nat) (x0 : Int) (x1 : Bool) (x2 : Int) (x3 : Int) (x4 : Int) : soft_sqrt.A (nat_BitLen.f n) (ieee_Round.f n) (quot_Root.f n) ieee_Decode.f nat_FromUint.f (nat_Trail.f n) (nat_Shl.f n) soft_invalid.f n idJ 63 [] (soft_sqrt.s63 x0 x1 x2 x3 x4) = soft_sqrt.l63 n x0 x1 x2 x3 x4 := (soft_sqrt.e63 (nat_BitLen.f n) (ieee_Round.f n) (quot_Root.f n) ieee_Decode.f nat_FromUint.f (nat_Trail.f n) (nat_Shl.f n) soft_invalid.f n idJ x0 x1 x2 x3 x4).trans (rfl)
theorem soft_sqrt.eq (n : Nat) (a0 : Int) (a1 : Int) (a2 : Int) : afun (soft_sqrt.cfg (nat_BitLen.f n) (ieee_Round.f n) (quot_Root.f n) ieee_Decode.f nat_FromUint.f (nat_Trail.f n) (nat_Shl.f n) soft_invalid.f) idJ soft_sqrt.cuts n soft_sqrt.code Tryd.f66.results.toList [false, false] [.int .u64 a0, .int .u64 a1, .int .u64 a2] soft_sqrt.sg.out = soft_sqrt.f n a0 a1 a2 := (soft_sqrt.e0 (nat_BitLen.f n) (ieee_Round.f n) (quot_Root.f n) ieee_Decode.f nat_FromUint.f (nat_Trail.f n) (nat_Shl.f n) soft_invalid.f n idJ a0 a1 a2).trans (congrFun (congrFun (congrFun (congrArg (soft_sqrt.b0 (nat_BitLen.f n) (ieee_Round.f n) (quot_Root.f n) ieee_Decode.f nat_FromUint.f (nat_Trail.f n) (nat_Shl.f n) soft_invalid.f) (funext fun y0 => (funext fun y1 => (funext fun y2 => (funext fun y3 => (funext fun y4 => soft_sqrt.q63 n y0 y1 y2 y3 y4)))))) a0) a1) a2)
theorem soft_sqrt.ok {n : Nat} {a0 : Int} {a1 : Int} {a2 : Int} {r : Int × Int} (h : soft_sqrt.f n a0 a1 a2 = some r) : CallD Tryd.prog HW 66 [.int .u64 a0, .int .u64 a1, .int .u64 a2] (soft_sqrt.sg.enc r) :=
  fun_some hwS Tryd.func66 (by kernel_rfl) (body := soft_sqrt.code) (by kernel_rfl) tys_ok (c := soft_sqrt.cfg (nat_BitLen.f n) (ieee_Round.f n) (quot_Root.f n) ieee_Decode.f nat_FromUint.f (nat_Trail.f n) (nat_Shl.f n) soft_invalid.f) (orCall_ok (nat_BitLen.call_ok (n := n)) (orCall_ok (ieee_Round.call_ok (n := n)) (orCall_ok (quot_Root.call_ok (n := n)) (orCall_ok (ieee_Decode.call_ok (n := n)) (orCall_ok (nat_FromUint.call_ok (n := n)) (orCall_ok (nat_Trail.call_ok (n := n)) (orCall_ok (nat_Shl.call_ok (n := n)) (orCall_ok (soft_invalid.call_ok (n := n)) noCall_ok)))))))) noW_ok (by kernel_rfl) (by kernel_rfl) (Nat.le_of_ble_eq_true (by kernel_rfl)) ((soft_sqrt.eq n a0 a1 a2).trans h)
noncomputable def soft_sqrt.call {α : Type} (g : Int→Int→Int→Ω (Int × Int)) (ds : List D) (K : List D→Ω α) : Ω α := match ds with
  | [.int .u64 a0, .int .u64 a1, .int .u64 a2] => (g a0 a1 a2).bind fun r => K (soft_sqrt.sg.enc r)
  | _ => none
theorem soft_sqrt.call_ok {α : Type} {n : Nat} (ds : List D) (K : List D→Ω α) (r : α) (h : soft_sqrt.call (soft_sqrt.f n) ds K = some r) : ∃ rs, K rs = some r ∧ CallD Tryd.prog HW 66 ds rs := by
  unfold soft_sqrt.call at h
  split at h
  · obtain ⟨x, hx, hk⟩ := Option.bind_eq_some_iff.1 h
    exact ⟨_, hk, soft_sqrt.ok (n := n) hx⟩
  · cases h
/-! ### soft_Sqrt: function 24 -/
noncomputable def soft_Sqrt.b0 (c66 : Int→Int→Int→Ω (Int × Int)) (a0 : Int) : Ω (Int) := ((c66 a0 0 0).bind fun t1 => some t1.1)
noncomputable def soft_Sqrt.f (n : Nat) (a0 : Int) : Ω (Int) := soft_Sqrt.b0 (soft_sqrt.f n) a0
noncomputable def soft_Sqrt.sg : Sig (Int) := s1 (sInt .u64)
noncomputable def soft_Sqrt.code : Code := (Tryd.f24.body).getD .skip
noncomputable def soft_Sqrt.cfg (c66 : Int→Int→Int→Ω (Int × Int)) : Cfg (Int) := { T := tys, call := orCall 66 (soft_sqrt.call c66) (noCall) }
noncomputable def soft_Sqrt.cuts : List (Nat × List (Nat × Want)) := []
theorem soft_Sqrt.e0 (c66 : Int→Int→Int→Ω (Int × Int)) (n : Nat) (J : Nat→(ASt→Ω (Int))→ASt→Ω (Int)) (a0 : Int) : afun (soft_Sqrt.cfg c66) J soft_Sqrt.cuts n soft_Sqrt.code Tryd.f24.results.toList [false] [.int .u64 a0] soft_Sqrt.sg.out = soft_Sqrt.b0 c66 a0 := by kernel_rfl
theorem soft_Sqrt.eq (n : Nat) (a0 : Int) : afun (soft_Sqrt.cfg (soft_sqrt.f n)) idJ soft_Sqrt.cuts n soft_Sqrt.code Tryd.f24.results.toList [false] [.int .u64 a0] soft_Sqrt.sg.out = soft_Sqrt.f n a0 := (soft_Sqrt.e0 (soft_sqrt.f n) n idJ a0).trans (rfl)
theorem soft_Sqrt.ok {n : Nat} {a0 : Int} {r : Int} (h : soft_Sqrt.f n a0 = some r) : CallD Tryd.prog HW 24 [.int .u64 a0] (soft_Sqrt.sg.enc r) :=
  fun_some hwS Tryd.func24 (by kernel_rfl) (body := soft_Sqrt.code) (by kernel_rfl) tys_ok (c := soft_Sqrt.cfg (soft_sqrt.f n)) (orCall_ok (soft_sqrt.call_ok (n := n)) noCall_ok) noW_ok (by kernel_rfl) (by kernel_rfl) (Nat.le_of_ble_eq_true (by kernel_rfl)) ((soft_Sqrt.eq n a0).trans h)
noncomputable def soft_Sqrt.call {α : Type} (g : Int→Ω (Int)) (ds : List D) (K : List D→Ω α) : Ω α := match ds with
  | [.int .u64 a0] => (g a0).bind fun r => K (soft_Sqrt.sg.enc r)
  | _ => none
theorem soft_Sqrt.call_ok {α : Type} {n : Nat} (ds : List D) (K : List D→Ω α) (r : α) (h : soft_Sqrt.call (soft_Sqrt.f n) ds K = some r) : ∃ rs, K rs = some r ∧ CallD Tryd.prog HW 24 ds rs := by
  unfold soft_Sqrt.call at h
  split at h
  · obtain ⟨x, hx, hk⟩ := Option.bind_eq_some_iff.1 h
    exact ⟨_, hk, soft_Sqrt.ok (n := n) hx⟩
  · cases h
/-! ### abacusref04_Abs: function 77 -/
noncomputable def abacusref04_Abs.b0 (a0 : Int) : Ω (Int) := some (Int.tmod a0 9223372036854775808)
noncomputable def abacusref04_Abs.f (a0 : Int) : Ω (Int) := abacusref04_Abs.b0 a0
noncomputable def abacusref04_Abs.sg : Sig (Int) := s1 (sInt .u64)
noncomputable def abacusref04_Abs.code : Code := (Tryd.f77.body).getD .skip
noncomputable def abacusref04_Abs.cfg : Cfg (Int) := { T := tys, call := noCall }
noncomputable def abacusref04_Abs.cuts : List (Nat × List (Nat × Want)) := []
theorem abacusref04_Abs.e0 (n : Nat) (J : Nat→(ASt→Ω (Int))→ASt→Ω (Int)) (a0 : Int) : afun (abacusref04_Abs.cfg) J abacusref04_Abs.cuts n abacusref04_Abs.code Tryd.f77.results.toList [false] [.int .u64 a0] abacusref04_Abs.sg.out = abacusref04_Abs.b0 a0 := by kernel_rfl
theorem abacusref04_Abs.eq (n : Nat) (a0 : Int) : afun (abacusref04_Abs.cfg) idJ abacusref04_Abs.cuts n abacusref04_Abs.code Tryd.f77.results.toList [false] [.int .u64 a0] abacusref04_Abs.sg.out = abacusref04_Abs.f a0 := (abacusref04_Abs.e0 n idJ a0).trans (rfl)
theorem abacusref04_Abs.ok {n : Nat} {a0 : Int} {r : Int} (h : abacusref04_Abs.f a0 = some r) : CallD Tryd.prog HW 77 [.int .u64 a0] (abacusref04_Abs.sg.enc r) :=
  fun_some hwS Tryd.func77 (by kernel_rfl) (body := abacusref04_Abs.code) (by kernel_rfl) tys_ok (c := abacusref04_Abs.cfg) noCall_ok noW_ok (by kernel_rfl) (by kernel_rfl) (Nat.le_of_ble_eq_true (by kernel_rfl)) ((abacusref04_Abs.eq n a0).trans h)
noncomputable def abacusref04_Abs.call {α : Type} (g : Int→Ω (Int)) (ds : List D) (K : List D→Ω α) : Ω α := match ds with
  | [.int .u64 a0] => (g a0).bind fun r => K (abacusref04_Abs.sg.enc r)
  | _ => none
theorem abacusref04_Abs.call_ok {α : Type} {n : Nat} (ds : List D) (K : List D→Ω α) (r : α) (h : abacusref04_Abs.call abacusref04_Abs.f ds K = some r) : ∃ rs, K rs = some r ∧ CallD Tryd.prog HW 77 ds rs := by
  unfold abacusref04_Abs.call at h
  split at h
  · obtain ⟨x, hx, hk⟩ := Option.bind_eq_some_iff.1 h
    exact ⟨_, hk, abacusref04_Abs.ok (n := n) hx⟩
  · cases h
/-! ### abacusref04_IsNaN: function 67 -/
noncomputable def abacusref04_IsNaN.b0 (c77 : Int→Ω (Int)) (a0 : Int) : Ω (Bool) := ((c77 a0).bind fun t1 => some (decide (t1 > 9218868437227405312)))
noncomputable def abacusref04_IsNaN.f (a0 : Int) : Ω (Bool) := abacusref04_IsNaN.b0 abacusref04_Abs.f a0
noncomputable def abacusref04_IsNaN.sg : Sig (Bool) := s1 (sBool)
noncomputable def abacusref04_IsNaN.code : Code := (Tryd.f67.body).getD .skip
noncomputable def abacusref04_IsNaN.cfg (c77 : Int→Ω (Int)) : Cfg (Bool) := { T := tys, call := orCall 77 (abacusref04_Abs.call c77) (noCall) }
noncomputable def abacusref04_IsNaN.cuts : List (Nat × List (Nat × Want)) := []
theorem abacusref04_IsNaN.e0 (c77 : Int→Ω (Int)) (n : Nat) (J : Nat→(ASt→Ω (Bool))→ASt→Ω (Bool)) (a0 : Int) : afun (abacusref04_IsNaN.cfg c77) J abacusref04_IsNaN.cuts n abacusref04_IsNaN.code Tryd.f67.results.toList [false] [.int .u64 a0] abacusref04_IsNaN.sg.out = abacusref04_IsNaN.b0 c77 a0 := by kernel_rfl
theorem abacusref04_IsNaN.eq (n : Nat) (a0 : Int) : afun (abacusref04_IsNaN.cfg abacusref04_Abs.f) idJ abacusref04_IsNaN.cuts n abacusref04_IsNaN.code Tryd.f67.results.toList [false] [.int .u64 a0] abacusref04_IsNaN.sg.out = abacusref04_IsNaN.f a0 := (abacusref04_IsNaN.e0 abacusref04_Abs.f n idJ a0).trans (rfl)
theorem abacusref04_IsNaN.ok {n : Nat} {a0 : Int} {r : Bool} (h : abacusref04_IsNaN.f a0 = some r) : CallD Tryd.prog HW 67 [.int .u64 a0] (abacusref04_IsNaN.sg.enc r) :=
  fun_some hwS Tryd.func67 (by kernel_rfl) (body := abacusref04_IsNaN.code) (by kernel_rfl) tys_ok (c := abacusref04_IsNaN.cfg abacusref04_Abs.f) (orCall_ok (abacusref04_Abs.call_ok (n := n)) noCall_ok) noW_ok (by kernel_rfl) (by kernel_rfl) (Nat.le_of_ble_eq_true (by kernel_rfl)) ((abacusref04_IsNaN.eq n a0).trans h)
noncomputable def abacusref04_IsNaN.call {α : Type} (g : Int→Ω (Bool)) (ds : List D) (K : List D→Ω α) : Ω α := match ds with
  | [.int .u64 a0] => (g a0).bind fun r => K (abacusref04_IsNaN.sg.enc r)
  | _ => none
theorem abacusref04_IsNaN.call_ok {α : Type} {n : Nat} (ds : List D) (K : List D→Ω α) (r : α) (h : abacusref04_IsNaN.call abacusref04_IsNaN.f ds K = some r) : ∃ rs, K rs = some r ∧ CallD Tryd.prog HW 67 ds rs := by
  unfold abacusref04_IsNaN.call at h
  split at h
  · obtain ⟨x, hx, hk⟩ := Option.bind_eq_some_iff.1 h
    exact ⟨_, hk, abacusref04_IsNaN.ok (n := n) hx⟩
  · cases h
/-! ### abacusref05_anyNaN: function 54 -/
noncomputable def abacusref05_anyNaN.b0 (c67 : Int→Ω (Bool)) (a0 : Int) (a1 : Int) : Ω (Bool) := ((c67 a0).bind fun t1 => (if t1 = true then some true else ((c67 a1).bind fun t2 => some t2)))
noncomputable def abacusref05_anyNaN.f (a0 : Int) (a1 : Int) : Ω (Bool) := abacusref05_anyNaN.b0 abacusref04_IsNaN.f a0 a1
noncomputable def abacusref05_anyNaN.sg : Sig (Bool) := s1 (sBool)
noncomputable def abacusref05_anyNaN.code : Code := (Tryd.f54.body).getD .skip
noncomputable def abacusref05_anyNaN.cfg (c67 : Int→Ω (Bool)) : Cfg (Bool) := { T := tys, call := orCall 67 (abacusref04_IsNaN.call c67) (noCall) }
noncomputable def abacusref05_anyNaN.cuts : List (Nat × List (Nat × Want)) := []
theorem abacusref05_anyNaN.e0 (c67 : Int→Ω (Bool)) (n : Nat) (J : Nat→(ASt→Ω (Bool))→ASt→Ω (Bool)) (a0 : Int) (a1 : Int) : afun (abacusref05_anyNaN.cfg c67) J abacusref05_anyNaN.cuts n abacusref05_anyNaN.code Tryd.f54.results.toList [false] [.int .u64 a0, .int .u64 a1] abacusref05_anyNaN.sg.out = abacusref05_anyNaN.b0 c67 a0 a1 := by kernel_rfl
theorem abacusref05_anyNaN.eq (n : Nat) (a0 : Int) (a1 : Int) : afun (abacusref05_anyNaN.cfg abacusref04_IsNaN.f) idJ abacusref05_anyNaN.cuts n abacusref05_anyNaN.code Tryd.f54.results.toList [false] [.int .u64 a0, .int .u64 a1] abacusref05_anyNaN.sg.out = abacusref05_anyNaN.f a0 a1 := (abacusref05_anyNaN.e0 abacusref04_IsNaN.f n idJ a0 a1).trans (rfl)
theorem abacusref05_anyNaN.ok {n : Nat} {a0 : Int} {a1 : Int} {r : Bool} (h : abacusref05_anyNaN.f a0 a1 = some r) : CallD Tryd.prog HW 54 [.int .u64 a0, .int .u64 a1] (abacusref05_anyNaN.sg.enc r) :=
  fun_some hwS Tryd.func54 (by kernel_rfl) (body := abacusref05_anyNaN.code) (by kernel_rfl) tys_ok (c := abacusref05_anyNaN.cfg abacusref04_IsNaN.f) (orCall_ok (abacusref04_IsNaN.call_ok (n := n)) noCall_ok) noW_ok (by kernel_rfl) (by kernel_rfl) (Nat.le_of_ble_eq_true (by kernel_rfl)) ((abacusref05_anyNaN.eq n a0 a1).trans h)
noncomputable def abacusref05_anyNaN.call {α : Type} (g : Int→Int→Ω (Bool)) (ds : List D) (K : List D→Ω α) : Ω α := match ds with
  | [.int .u64 a0, .int .u64 a1] => (g a0 a1).bind fun r => K (abacusref05_anyNaN.sg.enc r)
  | _ => none
theorem abacusref05_anyNaN.call_ok {α : Type} {n : Nat} (ds : List D) (K : List D→Ω α) (r : α) (h : abacusref05_anyNaN.call abacusref05_anyNaN.f ds K = some r) : ∃ rs, K rs = some r ∧ CallD Tryd.prog HW 54 ds rs := by
  unfold abacusref05_anyNaN.call at h
  split at h
  · obtain ⟨x, hx, hk⟩ := Option.bind_eq_some_iff.1 h
    exact ⟨_, hk, abacusref05_anyNaN.ok (n := n) hx⟩
  · cases h
/-! ### abacusref05_infinite: function 55 -/
noncomputable def abacusref05_infinite.b0 (c77 : Int→Ω (Int)) (a0 : Int) : Ω (Bool) := ((c77 a0).bind fun t1 => some (decide (t1 = 9218868437227405312)))
noncomputable def abacusref05_infinite.f (a0 : Int) : Ω (Bool) := abacusref05_infinite.b0 abacusref04_Abs.f a0
noncomputable def abacusref05_infinite.sg : Sig (Bool) := s1 (sBool)
noncomputable def abacusref05_infinite.code : Code := (Tryd.f55.body).getD .skip
noncomputable def abacusref05_infinite.cfg (c77 : Int→Ω (Int)) : Cfg (Bool) := { T := tys, call := orCall 77 (abacusref04_Abs.call c77) (noCall) }
noncomputable def abacusref05_infinite.cuts : List (Nat × List (Nat × Want)) := []
theorem abacusref05_infinite.e0 (c77 : Int→Ω (Int)) (n : Nat) (J : Nat→(ASt→Ω (Bool))→ASt→Ω (Bool)) (a0 : Int) : afun (abacusref05_infinite.cfg c77) J abacusref05_infinite.cuts n abacusref05_infinite.code Tryd.f55.results.toList [false] [.int .u64 a0] abacusref05_infinite.sg.out = abacusref05_infinite.b0 c77 a0 := by kernel_rfl
theorem abacusref05_infinite.eq (n : Nat) (a0 : Int) : afun (abacusref05_infinite.cfg abacusref04_Abs.f) idJ abacusref05_infinite.cuts n abacusref05_infinite.code Tryd.f55.results.toList [false] [.int .u64 a0] abacusref05_infinite.sg.out = abacusref05_infinite.f a0 := (abacusref05_infinite.e0 abacusref04_Abs.f n idJ a0).trans (rfl)
theorem abacusref05_infinite.ok {n : Nat} {a0 : Int} {r : Bool} (h : abacusref05_infinite.f a0 = some r) : CallD Tryd.prog HW 55 [.int .u64 a0] (abacusref05_infinite.sg.enc r) :=
  fun_some hwS Tryd.func55 (by kernel_rfl) (body := abacusref05_infinite.code) (by kernel_rfl) tys_ok (c := abacusref05_infinite.cfg abacusref04_Abs.f) (orCall_ok (abacusref04_Abs.call_ok (n := n)) noCall_ok) noW_ok (by kernel_rfl) (by kernel_rfl) (Nat.le_of_ble_eq_true (by kernel_rfl)) ((abacusref05_infinite.eq n a0).trans h)
noncomputable def abacusref05_infinite.call {α : Type} (g : Int→Ω (Bool)) (ds : List D) (K : List D→Ω α) : Ω α := match ds with
  | [.int .u64 a0] => (g a0).bind fun r => K (abacusref05_infinite.sg.enc r)
  | _ => none
theorem abacusref05_infinite.call_ok {α : Type} {n : Nat} (ds : List D) (K : List D→Ω α) (r : α) (h : abacusref05_infinite.call abacusref05_infinite.f ds K = some r) : ∃ rs, K rs = some r ∧ CallD Tryd.prog HW 55 ds rs := by
  unfold abacusref05_infinite.call at h
  split at h
  · obtain ⟨x, hx, hk⟩ := Option.bind_eq_some_iff.1 h
    exact ⟨_, hk, abacusref05_infinite.ok (n := n) hx⟩
  · cases h
/-! ### abacusref05_negative: function 56 -/
noncomputable def abacusref05_negative.b0 (a0 : Int) : Ω (Bool) := some (decide (a0 ≥ 9223372036854775808))
noncomputable def abacusref05_negative.f (a0 : Int) : Ω (Bool) := abacusref05_negative.b0 a0
noncomputable def abacusref05_negative.sg : Sig (Bool) := s1 (sBool)
noncomputable def abacusref05_negative.code : Code := (Tryd.f56.body).getD .skip
noncomputable def abacusref05_negative.cfg : Cfg (Bool) := { T := tys, call := noCall }
noncomputable def abacusref05_negative.cuts : List (Nat × List (Nat × Want)) := []
theorem abacusref05_negative.e0 (n : Nat) (J : Nat→(ASt→Ω (Bool))→ASt→Ω (Bool)) (a0 : Int) : afun (abacusref05_negative.cfg) J abacusref05_negative.cuts n abacusref05_negative.code Tryd.f56.results.toList [false] [.int .u64 a0] abacusref05_negative.sg.out = abacusref05_negative.b0 a0 := by kernel_rfl
theorem abacusref05_negative.eq (n : Nat) (a0 : Int) : afun (abacusref05_negative.cfg) idJ abacusref05_negative.cuts n abacusref05_negative.code Tryd.f56.results.toList [false] [.int .u64 a0] abacusref05_negative.sg.out = abacusref05_negative.f a0 := (abacusref05_negative.e0 n idJ a0).trans (rfl)
theorem abacusref05_negative.ok {n : Nat} {a0 : Int} {r : Bool} (h : abacusref05_negative.f a0 = some r) : CallD Tryd.prog HW 56 [.int .u64 a0] (abacusref05_negative.sg.enc r) :=
  fun_some hwS Tryd.func56 (by kernel_rfl) (body := abacusref05_negative.code) (by kernel_rfl) tys_ok (c := abacusref05_negative.cfg) noCall_ok noW_ok (by kernel_rfl) (by kernel_rfl) (Nat.le_of_ble_eq_true (by kernel_rfl)) ((abacusref05_negative.eq n a0).trans h)
noncomputable def abacusref05_negative.call {α : Type} (g : Int→Ω (Bool)) (ds : List D) (K : List D→Ω α) : Ω α := match ds with
  | [.int .u64 a0] => (g a0).bind fun r => K (abacusref05_negative.sg.enc r)
  | _ => none
theorem abacusref05_negative.call_ok {α : Type} {n : Nat} (ds : List D) (K : List D→Ω α) (r : α) (h : abacusref05_negative.call abacusref05_negative.f ds K = some r) : ∃ rs, K rs = some r ∧ CallD Tryd.prog HW 56 ds rs := by
  unfold abacusref05_negative.call at h
  split at h
  · obtain ⟨x, hx, hk⟩ := Option.bind_eq_some_iff.1 h
    exact ⟨_, hk, abacusref05_negative.ok (n := n) hx⟩
  · cases h
/-! ### abacusref05_signed: function 62 -/
noncomputable def abacusref05_signed.b0 (c77 : Int→Ω (Int)) (a0 : Bool) (a1 : Int) : Ω (Int) := (if a0 = true then ((c77 a1).bind fun t1 => some (IntKind.u64.wrap (t1 + 9223372036854775808))) else ((c77 a1).bind fun t2 => some t2))
noncomputable def abacusref05_signed.f (a0 : Bool) (a1 : Int) : Ω (Int) := abacusref05_signed.b0 abacusref04_Abs.f a0 a1
noncomputable def abacusref05_signed.sg : Sig (Int) := s1 (sInt .u64)
noncomputable def abacusref05_signed.code : Code := (Tryd.f62.body).getD .skip
noncomputable def abacusref05_signed.cfg (c77 : Int→Ω (Int)) : Cfg (Int) := { T := tys, call := orCall 77 (abacusref04_Abs.call c77) (noCall) }
noncomputable def abacusref05_signed.cuts : List (Nat × List (Nat × Want)) := []
theorem abacusref05_signed.e0 (c77 : Int→Ω (Int)) (n : Nat) (J : Nat→(ASt→Ω (Int))→ASt→Ω (Int)) (a0 : Bool) (a1 : Int) : afun (abacusref05_signed.cfg c77) J abacusref05_signed.cuts n abacusref05_signed.code Tryd.f62.results.toList [false] [.bool a0, .int .u64 a1] abacusref05_signed.sg.out = abacusref05_signed.b0 c77 a0 a1 := by kernel_rfl
theorem abacusref05_signed.eq (n : Nat) (a0 : Bool) (a1 : Int) : afun (abacusref05_signed.cfg abacusref04_Abs.f) idJ abacusref05_signed.cuts n abacusref05_signed.code Tryd.f62.results.toList [false] [.bool a0, .int .u64 a1] abacusref05_signed.sg.out = abacusref05_signed.f a0 a1 := (abacusref05_signed.e0 abacusref04_Abs.f n idJ a0 a1).trans (rfl)
theorem abacusref05_signed.ok {n : Nat} {a0 : Bool} {a1 : Int} {r : Int} (h : abacusref05_signed.f a0 a1 = some r) : CallD Tryd.prog HW 62 [.bool a0, .int .u64 a1] (abacusref05_signed.sg.enc r) :=
  fun_some hwS Tryd.func62 (by kernel_rfl) (body := abacusref05_signed.code) (by kernel_rfl) tys_ok (c := abacusref05_signed.cfg abacusref04_Abs.f) (orCall_ok (abacusref04_Abs.call_ok (n := n)) noCall_ok) noW_ok (by kernel_rfl) (by kernel_rfl) (Nat.le_of_ble_eq_true (by kernel_rfl)) ((abacusref05_signed.eq n a0 a1).trans h)
noncomputable def abacusref05_signed.call {α : Type} (g : Bool→Int→Ω (Int)) (ds : List D) (K : List D→Ω α) : Ω α := match ds with
  | [.bool a0, .int .u64 a1] => (g a0 a1).bind fun r => K (abacusref05_signed.sg.enc r)
  | _ => none
theorem abacusref05_signed.call_ok {α : Type} {n : Nat} (ds : List D) (K : List D→Ω α) (r : α) (h : abacusref05_signed.call abacusref05_signed.f ds K = some r) : ∃ rs, K rs = some r ∧ CallD Tryd.prog HW 62 ds rs := by
  unfold abacusref05_signed.call at h
  split at h
  · obtain ⟨x, hx, hk⟩ := Option.bind_eq_some_iff.1 h
    exact ⟨_, hk, abacusref05_signed.ok (n := n) hx⟩
  · cases h
/-! ### abacusref05_zero: function 61 -/
noncomputable def abacusref05_zero.b0 (c77 : Int→Ω (Int)) (a0 : Int) : Ω (Bool) := ((c77 a0).bind fun t1 => some (decide (t1 = 0)))
noncomputable def abacusref05_zero.f (a0 : Int) : Ω (Bool) := abacusref05_zero.b0 abacusref04_Abs.f a0
noncomputable def abacusref05_zero.sg : Sig (Bool) := s1 (sBool)
noncomputable def abacusref05_zero.code : Code := (Tryd.f61.body).getD .skip
noncomputable def abacusref05_zero.cfg (c77 : Int→Ω (Int)) : Cfg (Bool) := { T := tys, call := orCall 77 (abacusref04_Abs.call c77) (noCall) }
noncomputable def abacusref05_zero.cuts : List (Nat × List (Nat × Want)) := []
theorem abacusref05_zero.e0 (c77 : Int→Ω (Int)) (n : Nat) (J : Nat→(ASt→Ω (Bool))→ASt→Ω (Bool)) (a0 : Int) : afun (abacusref05_zero.cfg c77) J abacusref05_zero.cuts n abacusref05_zero.code Tryd.f61.results.toList [false] [.int .u64 a0] abacusref05_zero.sg.out = abacusref05_zero.b0 c77 a0 := by kernel_rfl
theorem abacusref05_zero.eq (n : Nat) (a0 : Int) : afun (abacusref05_zero.cfg abacusref04_Abs.f) idJ abacusref05_zero.cuts n abacusref05_zero.code Tryd.f61.results.toList [false] [.int .u64 a0] abacusref05_zero.sg.out = abacusref05_zero.f a0 := (abacusref05_zero.e0 abacusref04_Abs.f n idJ a0).trans (rfl)
theorem abacusref05_zero.ok {n : Nat} {a0 : Int} {r : Bool} (h : abacusref05_zero.f a0 = some r) : CallD Tryd.prog HW 61 [.int .u64 a0] (abacusref05_zero.sg.enc r) :=
  fun_some hwS Tryd.func61 (by kernel_rfl) (body := abacusref05_zero.code) (by kernel_rfl) tys_ok (c := abacusref05_zero.cfg abacusref04_Abs.f) (orCall_ok (abacusref04_Abs.call_ok (n := n)) noCall_ok) noW_ok (by kernel_rfl) (by kernel_rfl) (Nat.le_of_ble_eq_true (by kernel_rfl)) ((abacusref05_zero.eq n a0).trans h)
noncomputable def abacusref05_zero.call {α : Type} (g : Int→Ω (Bool)) (ds : List D) (K : List D→Ω α) : Ω α := match ds with
  | [.int .u64 a0] => (g a0).bind fun r => K (abacusref05_zero.sg.enc r)
  | _ => none
theorem abacusref05_zero.call_ok {α : Type} {n : Nat} (ds : List D) (K : List D→Ω α) (r : α) (h : abacusref05_zero.call abacusref05_zero.f ds K = some r) : ∃ rs, K rs = some r ∧ CallD Tryd.prog HW 61 ds rs := by
  unfold abacusref05_zero.call at h
  split at h
  · obtain ⟨x, hx, hk⟩ := Option.bind_eq_some_iff.1 h
    exact ⟨_, hk, abacusref05_zero.ok (n := n) hx⟩
  · cases h
/-! ### abacusref04_Decode: function 74 -/
noncomputable def abacusref04_Decode.b0 (a0 : Int) : Ω (Bool × Int × Int × Int) := (if (wrap64 (Int.tmod (IntKind.u64.wrap (Int.tdiv a0 4503599627370496)) 2048)) = 2047 then (if (Int.tmod a0 4503599627370496) = 0 then some (decide ((IntKind.u64.wrap (Int.tdiv a0 9223372036854775808)) = 1), 3, 0, 0) else some (decide ((IntKind.u64.wrap (Int.tdiv a0 9223372036854775808)) = 1), 4, Int.tmod a0 4503599627370496, 0)) else (if (wrap64 (Int.tmod (IntKind.u64.wrap (Int.tdiv a0 4503599627370496)) 2048)) > 0 then some (decide ((IntKind.u64.wrap (Int.tdiv a0 9223372036854775808)) = 1), 2, IntKind.u64.wrap (4503599627370496 + (Int.tmod a0 4503599627370496)), wrap64 ((wrap64 (Int.tmod (IntKind.u64.wrap (Int.tdiv a0 4503599627370496)) 2048)) - 1075)) else (if (Int.tmod a0 4503599627370496) = 0 then some (decide ((IntKind.u64.wrap (Int.tdiv a0 9223372036854775808)) = 1), 0, 0, 0) else some (decide ((IntKind.u64.wrap (Int.tdiv a0 9223372036854775808)) = 1), 1, Int.tmod a0 4503599627370496, (-1074)))))
noncomputable def abacusref04_Decode.f (a0 : Int) : Ω (Bool × Int × Int × Int) := abacusref04_Decode.b0 a0
noncomputable def abacusref04_Decode.sg : Sig (Bool × Int × Int × Int) := s1 (sAgg (s2 (sBool) (s2 (sInt .i64) (s2 (sInt .u64) (s1 (sInt .i64))))))
noncomputable def abacusref04_Decode.code : Code := (Tryd.f74.body).getD .skip
noncomputable def abacusref04_Decode.cfg : Cfg (Bool × Int × Int × Int) := { T := tys, call := noCall }
noncomputable def abacusref04_Decode.cuts : List (Nat × List (Nat × Want)) := []
theorem abacusref04_Decode.e0 (n : Nat) (J : Nat→(ASt→Ω (Bool × Int × Int × Int))→ASt→Ω (Bool × Int × Int × Int)) (a0 : Int) : afun (abacusref04_Decode.cfg) J abacusref04_Decode.cuts n abacusref04_Decode.code Tryd.f74.results.toList [false] [.int .u64 a0] abacusref04_Decode.sg.out = abacusref04_Decode.b0 a0 := by kernel_rfl
theorem abacusref04_Decode.eq (n : Nat) (a0 : Int) : afun (abacusref04_Decode.cfg) idJ abacusref04_Decode.cuts n abacusref04_Decode.code Tryd.f74.results.toList [false] [.int .u64 a0] abacusref04_Decode.sg.out = abacusref04_Decode.f a0 := (abacusref04_Decode.e0 n idJ a0).trans (rfl)
theorem abacusref04_Decode.ok {n : Nat} {a0 : Int} {r : Bool × Int × Int × Int} (h : abacusref04_Decode.f a0 = some r) : CallD Tryd.prog HW 74 [.int .u64 a0] (abacusref04_Decode.sg.enc r) :=
  fun_some hwS Tryd.func74 (by kernel_rfl) (body := abacusref04_Decode.code) (by kernel_rfl) tys_ok (c := abacusref04_Decode.cfg) noCall_ok noW_ok (by kernel_rfl) (by kernel_rfl) (Nat.le_of_ble_eq_true (by kernel_rfl)) ((abacusref04_Decode.eq n a0).trans h)
noncomputable def abacusref04_Decode.call {α : Type} (g : Int→Ω (Bool × Int × Int × Int)) (ds : List D) (K : List D→Ω α) : Ω α := match ds with
  | [.int .u64 a0] => (g a0).bind fun r => K (abacusref04_Decode.sg.enc r)
  | _ => none
theorem abacusref04_Decode.call_ok {α : Type} {n : Nat} (ds : List D) (K : List D→Ω α) (r : α) (h : abacusref04_Decode.call abacusref04_Decode.f ds K = some r) : ∃ rs, K rs = some r ∧ CallD Tryd.prog HW 74 ds rs := by
  unfold abacusref04_Decode.call at h
  split at h
  · obtain ⟨x, hx, hk⟩ := Option.bind_eq_some_iff.1 h
    exact ⟨_, hk, abacusref04_Decode.ok (n := n) hx⟩
  · cases h
/-! ### abacusref05_of: function 59 -/
noncomputable def abacusref05_of.b0 (c74 : Int→Ω (Bool × Int × Int × Int)) (a0 : Int) : Ω (Bool × Λ × Λ × Int) := ((c74 a0).bind fun t1 => some (t1.1, [t1.2.2.1], [1], t1.2.2.2))
noncomputable def abacusref05_of.f (a0 : Int) : Ω (Bool × Λ × Λ × Int) := abacusref05_of.b0 abacusref04_Decode.f a0
noncomputable def abacusref05_of.sg : Sig (Bool × Λ × Λ × Int) := s1 (sAgg (s2 (sBool) (s2 (sRow .u64) (s2 (sRow .u64) (s1 (sInt .i64))))))
noncomputable def abacusref05_of.code : Code := (Tryd.f59.body).getD .skip
noncomputable def abacusref05_of.cfg (c74 : Int→Ω (Bool × Int × Int × Int)) : Cfg (Bool × Λ × Λ × Int) := { T := tys, call := orCall 74 (abacusref04_Decode.call c74) (noCall) }
noncomputable def abacusref05_of.cuts : List (Nat × List (Nat × Want)) := []
theorem abacusref05_of.e0 (c74 : Int→Ω (Bool × Int × Int × Int)) (n : Nat) (J : Nat→(ASt→Ω (Bool × Λ × Λ × Int))→ASt→Ω (Bool × Λ × Λ × Int)) (a0 : Int) : afun (abacusref05_of.cfg c74) J abacusref05_of.cuts n abacusref05_of.code Tryd.f59.results.toList [false] [.int .u64 a0] abacusref05_of.sg.out = abacusref05_of.b0 c74 a0 := by kernel_rfl
theorem abacusref05_of.eq (n : Nat) (a0 : Int) : afun (abacusref05_of.cfg abacusref04_Decode.f) idJ abacusref05_of.cuts n abacusref05_of.code Tryd.f59.results.toList [false] [.int .u64 a0] abacusref05_of.sg.out = abacusref05_of.f a0 := (abacusref05_of.e0 abacusref04_Decode.f n idJ a0).trans (rfl)
theorem abacusref05_of.ok {n : Nat} {a0 : Int} {r : Bool × Λ × Λ × Int} (h : abacusref05_of.f a0 = some r) : CallD Tryd.prog HW 59 [.int .u64 a0] (abacusref05_of.sg.enc r) :=
  fun_some hwS Tryd.func59 (by kernel_rfl) (body := abacusref05_of.code) (by kernel_rfl) tys_ok (c := abacusref05_of.cfg abacusref04_Decode.f) (orCall_ok (abacusref04_Decode.call_ok (n := n)) noCall_ok) noW_ok (by kernel_rfl) (by kernel_rfl) (Nat.le_of_ble_eq_true (by kernel_rfl)) ((abacusref05_of.eq n a0).trans h)
noncomputable def abacusref05_of.call {α : Type} (g : Int→Ω (Bool × Λ × Λ × Int)) (ds : List D) (K : List D→Ω α) : Ω α := match ds with
  | [.int .u64 a0] => (g a0).bind fun r => K (abacusref05_of.sg.enc r)
  | _ => none
theorem abacusref05_of.call_ok {α : Type} {n : Nat} (ds : List D) (K : List D→Ω α) (r : α) (h : abacusref05_of.call abacusref05_of.f ds K = some r) : ∃ rs, K rs = some r ∧ CallD Tryd.prog HW 59 ds rs := by
  unfold abacusref05_of.call at h
  split at h
  · obtain ⟨x, hx, hk⟩ := Option.bind_eq_some_iff.1 h
    exact ⟨_, hk, abacusref05_of.ok (n := n) hx⟩
  · cases h
/-! ### abacusref01_halves: function 153 -/
noncomputable def abacusref01_halves.b0 (k117 : Λ→Int→Λ→Ω (Λ)) (l0 : Λ) : Ω (Λ) := (if 0 ≤ (wrap64 (2 * (ln l0))) then (if (wrap64 (2 * (ln l0))).toNat ≤ 35184372088832 then k117 l0 0 (List.replicate 0 (0 : Int)) else none) else none)
noncomputable def abacusref01_halves.b15 (k249 : Int→Λ→Ω (Λ)) (x0 : Λ) : Ω (Λ) := k249 (ln x0) x0
noncomputable def abacusref01_halves.b117 (k15 : Λ→Ω (Λ)) (k117 : Λ→Int→Λ→Ω (Λ)) (x0 : Λ) (x1 : Int) (x2 : Λ) : Ω (Λ) := (if x1 < (ln x0) then (if 0 ≤ x1 then (if x1 < (ln x0) then (if x2.length + 1 ≤ 17592186044416 then (if 0 ≤ x1 then (if x1 < (ln x0) then (if (x2 ++ [Go.bits .and .u64 (rd x0 x1) 4294967295]).length + 1 ≤ 17592186044416 then k117 x0 (wrap64 (x1 + 1)) ((x2 ++ [Go.bits .and .u64 (rd x0 x1) 4294967295]) ++ [(rd x0 x1) / 4294967296]) else none) else none) else none) else none) else none) else none) else k15 x2)
noncomputable def abacusref01_halves.b249 (k249 : Int→Λ→Ω (Λ)) (x0 : Int) (x1 : Λ) : Ω (Λ) := (if x0 > 0 then (if 0 ≤ (wrap64 (x0 - 1)) then (if (wrap64 (x0 - 1)) < (ln x1) then (if (rd x1 (wrap64 (x0 - 1))) = 0 then k249 (wrap64 (x0 - 1)) x1 else (if 0 ≤ x0 then (if x0 ≤ (ln x1) then ((some (x1.take x0.toNat) : Ω (Λ)).bind fun y1 => some y1) else none) else none)) else none) else none) else (if 0 ≤ x0 then (if x0 ≤ (ln x1) then ((some (x1.take x0.toNat) : Ω (Λ)).bind fun y2 => some y2) else none) else none))
noncomputable def abacusref01_halves.l249 (n : Nat) : Nat→Int→Λ→Ω (Λ)
  | 0, _, _ => none
  | m + 1, x0, x1 => abacusref01_halves.b249 (abacusref01_halves.l249 n m) x0 x1
noncomputable def abacusref01_halves.l15 (n : Nat) (x0 : Λ) : Ω (Λ) := abacusref01_halves.b15 (abacusref01_halves.l249 n n) x0
noncomputable def abacusref01_halves.l117 (n : Nat) : Nat→Λ→Int→Λ→Ω (Λ)
  | 0, _, _, _ => none
  | m + 1, x0, x1, x2 => abacusref01_halves.b117 (abacusref01_halves.l15 n) (abacusref01_halves.l117 n m) x0 x1 x2
noncomputable def abacusref01_halves.f (n : Nat) (l0 : Λ) : Ω (Λ) := abacusref01_halves.b0 (abacusref01_halves.l117 n n) l0
noncomputable def abacusref01_halves.sg : Sig (Λ) := s1 (sRow .u64)
noncomputable def abacusref01_halves.code : Code := (Tryd.f153.body).getD .skip
noncomputable def abacusref01_halves.cfg : Cfg (Λ) := { T := tys, call := noCall }
noncomputable def abacusref01_halves.cuts : List (Nat × List (Nat × Want)) := [(15, [(3, .keep)]), (117, [(0, .keep), (3, .keep), (4, .keep)]), (249, [(3, .keep), (5, .keep)])]
noncomputable def abacusref01_halves.s15 (x0 : Λ) : ASt := ⟨[(3, .own 0)], [.ints 22 .u64 x0]⟩
noncomputable def abacusref01_halves.s117 (x0 : Λ) (x1 : Int) (x2 : Λ) : ASt := ⟨[(0, .ro .u64 x0), (3, .own 0), (4, .int .i64 x1)], [.ints 22 .u64 x2]⟩
noncomputable def abacusref01_halves.s249 (x0 : Int) (x1 : Λ) : ASt := ⟨[(3, .own 0), (5, .int .i64 x0)], [.ints 22 .u64 x1]⟩
noncomputable def abacusref01_halves.A (n : Nat) (J : Nat→(ASt→Ω (Λ))→ASt→Ω (Λ)) (q : Nat) (ms : List Nat) : ASt→Ω (Λ) := acont (abacusref01_halves.cfg) J abacusref01_halves.cuts n q abacusref01_halves.code 1 ms (aend (abacusref01_halves.cfg) Tryd.f153.results.toList [false] abacusref01_halves.sg.out)
theorem abacusref01_halves.e0 (n : Nat) (J : Nat→(ASt→Ω (Λ))→ASt→Ω (Λ)) (l0 : Λ) : afun (abacusref01_halves.cfg) J abacusref01_halves.cuts n abacusref01_halves.code Tryd.f153.results.toList [false] [.ro .u64 l0] abacusref01_halves.sg.out = abacusref01_halves.b0 (fun y0 y1 y2 => J 117 (abacusref01_halves.A n J 117 [n]) (abacusref01_halves.s117 y0 y1 y2)) l0 := by kernel_rfl
theorem abacusref01_halves.e15 (n : Nat) (J : Nat→(ASt→Ω (Λ))→ASt→Ω (Λ)) (x0 : Λ) : abacusref01_halves.A n J 15 [] (abacusref01_halves.s15 x0) = abacusref01_halves.b15 (fun y0 y1 => J 249 (abacusref01_halves.A n J 249 [n]) (abacusref01_halves.s249 y0 y1)) x0 := by kernel_rfl
theorem abacusref01_halves.e117 (n : Nat) (J : Nat→(ASt→Ω (Λ))→ASt→Ω (Λ)) (m : Nat) (x0 : Λ) (x1 : Int) (x2 : Λ) : abacusref01_halves.A n J 117 [m + 1] (abacusref01_halves.s117 x0 x1 x2) = abacusref01_halves.b117 (fun y0 => J 15 (abacusref01_halves.A n J 15 []) (abacusref01_halves.s15 y0)) (fun y0 y1 y2 => J 117 (abacusref01_halves.A n J 117 [m]) (abacusref01_halves.s117 y0 y1 y2)) x0 x1 x2 := by kernel_rfl
theorem abacusref01_halves.e249 (n : Nat) (J : Nat→(ASt→Ω (Λ))→ASt→Ω (Λ)) (m : Nat) (x0 : Int) (x1 : Λ) : abacusref01_halves.A n J 249 [m + 1] (abacusref01_halves.s249 x0 x1) = abacusref01_halves.b249 (fun y0 y1 => J 249 (abacusref01_halves.A n J 249 [m]) (abacusref01_halves.s249 y0 y1)) x0 x1 := by kernel_rfl
theorem abacusref01_halves.q249 (n : Nat) (m : Nat) : ∀ (x0 : Int) (x1 : Λ), abacusref01_halves.A n idJ 249 [m] (abacusref01_halves.s249 x0 x1) = abacusref01_halves.l249 n m x0 x1 := by
  induction m with
  | zero => intros; rfl
  | succ m ih =>
    intro x0 x1
    refine (abacusref01_halves.e249 n idJ m x0 x1).trans ?_
    exact congrFun (congrFun (congrArg abacusref01_halves.b249 (funext fun y0 => (funext fun y1 => ih y0 y1))) x0) x1
theorem abacusref01_halves.q15 (n : Nat) (x0 : Λ) : abacusref01_halves.A n idJ 15 [] (abacusref01_halves.s15 x0) = abacusref01_halves.l15 n x0 := (abacusref01_halves.e15 n idJ x0).trans (congrFun (congrArg abacusref01_halves.b15 (funext fun y0 => (funext fun y1 => abacusref01_halves.q249 n n y0 y1))) x0)
theorem abacusref01_halves.q117 (n : Nat) (m : Nat) : ∀ (x0 : Λ) (x1 : Int) (x2 : Λ), abacusref01_halves.A n idJ 117 [m] (abacusref01_halves.s117 x0 x1 x2) = abacusref01_halves.l117 n m x0 x1 x2 := by
  induction m with
  | zero => intros; rfl
  | succ m ih =>
    intro x0 x1 x2
    refine (abacusref01_halves.e117 n idJ m x0 x1 x2).trans ?_
    exact congrFun (congrFun (congrFun (congr (congrArg abacusref01_halves.b117 (funext fun y0 => abacusref01_halves.q15 n y0)) (funext fun y0 => (funext fun y1 => (funext fun y2 => ih y0 y1 y2)))) x0) x1) x2
theorem abacusref01_halves.eq (n : Nat) (l0 : Λ) : afun (abacusref01_halves.cfg) idJ abacusref01_halves.cuts n abacusref01_halves.code Tryd.f153.results.toList [false] [.ro .u64 l0] abacusref01_halves.sg.out = abacusref01_halves.f n l0 := (abacusref01_halves.e0 n idJ l0).trans (congrFun (congrArg abacusref01_halves.b0 (funext fun y0 => (funext fun y1 => (funext fun y2 => abacusref01_halves.q117 n n y0 y1 y2)))) l0)
theorem abacusref01_halves.ok {n : Nat} {l0 : Λ} {r : Λ} (h : abacusref01_halves.f n l0 = some r) : CallD Tryd.prog HW 153 [.ro .u64 l0] (abacusref01_halves.sg.enc r) :=
  fun_some hwS Tryd.func153 (by kernel_rfl) (body := abacusref01_halves.code) (by kernel_rfl) tys_ok (c := abacusref01_halves.cfg) noCall_ok noW_ok (by kernel_rfl) (by kernel_rfl) (Nat.le_of_ble_eq_true (by kernel_rfl)) ((abacusref01_halves.eq n l0).trans h)
noncomputable def abacusref01_halves.call {α : Type} (g : Λ→Ω (Λ)) (ds : List D) (K : List D→Ω α) : Ω α := match ds with
  | [.ro .u64 l0] => (g l0).bind fun r => K (abacusref01_halves.sg.enc r)
  | _ => none
theorem abacusref01_halves.call_ok {α : Type} {n : Nat} (ds : List D) (K : List D→Ω α) (r : α) (h : abacusref01_halves.call (abacusref01_halves.f n) ds K = some r) : ∃ rs, K rs = some r ∧ CallD Tryd.prog HW 153 ds rs := by
  unfold abacusref01_halves.call at h
  split at h
  · obtain ⟨x, hx, hk⟩ := Option.bind_eq_some_iff.1 h
    exact ⟨_, hk, abacusref01_halves.ok (n := n) hx⟩
  · cases h
/-! ### abacusref01_Trim: function 101 -/
noncomputable def abacusref01_Trim.b0 (k57 : Λ→Int→Ω (Λ)) (l0 : Λ) : Ω (Λ) := k57 l0 (ln l0)
noncomputable def abacusref01_Trim.b15 (k501 : Λ→Int→Int→Λ→Ω (Λ)) (x0 : Λ) (x1 : Int) : Ω (Λ) := (if 0 ≤ x1 then (if x1.toNat ≤ 35184372088832 then k501 x0 x1 0 (List.replicate 0 (0 : Int)) else none) else none)
noncomputable def abacusref01_Trim.b57 (k15 : Λ→Int→Ω (Λ)) (k57 : Λ→Int→Ω (Λ)) (x0 : Λ) (x1 : Int) : Ω (Λ) := (if x1 > 0 then (if 0 ≤ (wrap64 (x1 - 1)) then (if (wrap64 (x1 - 1)) < (ln x0) then (if (rd x0 (wrap64 (x1 - 1))) = 0 then k57 x0 (wrap64 (x1 - 1)) else k15 x0 x1) else none) else none) else k15 x0 x1)
noncomputable def abacusref01_Trim.b501 (k501 : Λ→Int→Int→Λ→Ω (Λ)) (x0 : Λ) (x1 : Int) (x2 : Int) (x3 : Λ) : Ω (Λ) := (if x2 < x1 then (if 0 ≤ x2 then (if x2 < (ln x0) then (if x3.length + 1 ≤ 17592186044416 then k501 x0 x1 (wrap64 (x2 + 1)) (x3 ++ [rd x0 x2]) else none) else none) else none) else some x3)
noncomputable def abacusref01_Trim.l501 (n : Nat) : Nat→Λ→Int→Int→Λ→Ω (Λ)
  | 0, _, _, _, _ => none
  | m + 1, x0, x1, x2, x3 => abacusref01_Trim.b501 (abacusref01_Trim.l501 n m) x0 x1 x2 x3
noncomputable def abacusref01_Trim.l15 (n : Nat) (x0 : Λ) (x1 : Int) : Ω (Λ) := abacusref01_Trim.b15 (abacusref01_Trim.l501 n n) x0 x1
noncomputable def abacusref01_Trim.l57 (n : Nat) : Nat→Λ→Int→Ω (Λ)
  | 0, _, _ => none
  | m + 1, x0, x1 => abacusref01_Trim.b57 (abacusref01_Trim.l15 n) (abacusref01_Trim.l57 n m) x0 x1
noncomputable def abacusref01_Trim.f (n : Nat) (l0 : Λ) : Ω (Λ) := abacusref01_Trim.b0 (abacusref01_Trim.l57 n n) l0
noncomputable def abacusref01_Trim.sg : Sig (Λ) := s1 (sOwn 22 .u64)
noncomputable def abacusref01_Trim.code : Code := (Tryd.f101.body).getD .skip
noncomputable def abacusref01_Trim.cfg : Cfg (Λ) := { T := tys, call := noCall }
noncomputable def abacusref01_Trim.cuts : List (Nat × List (Nat × Want)) := [(15, [(0, .keep), (3, .keep)]), (57, [(0, .keep), (3, .keep)]), (501, [(0, .keep), (3, .keep), (4, .keep), (5, .keep)])]
noncomputable def abacusref01_Trim.s15 (x0 : Λ) (x1 : Int) : ASt := ⟨[(0, .ro .u64 x0), (3, .int .i64 x1)], []⟩
noncomputable def abacusref01_Trim.s57 (x0 : Λ) (x1 : Int) : ASt := ⟨[(0, .ro .u64 x0), (3, .int .i64 x1)], []⟩
noncomputable def abacusref01_Trim.s501 (x0 : Λ) (x1 : Int) (x2 : Int) (x3 : Λ) : ASt := ⟨[(0, .ro .u64 x0), (3, .int .i64 x1), (4, .own 0), (5, .int .i64 x2)], [.ints 22 .u64 x3]⟩
noncomputable def abacusref01_Trim.A (n : Nat) (J : Nat→(ASt→Ω (Λ))→ASt→Ω (Λ)) (q : Nat) (ms : List Nat) : ASt→Ω (Λ) := acont (abacusref01_Trim.cfg) J abacusref01_Trim.cuts n q abacusref01_Trim.code 1 ms (aend (abacusref01_Trim.cfg) Tryd.f101.results.toList [true] abacusref01_Trim.sg.out)
theorem abacusref01_Trim.e0 (n : Nat) (J : Nat→(ASt→Ω (Λ))→ASt→Ω (Λ)) (l0 : Λ) : afun (abacusref01_Trim.cfg) J abacusref01_Trim.cuts n abacusref01_Trim.code Tryd.f101.results.toList [true] [.ro .u64 l0] abacusref01_Trim.sg.out = abacusref01_Trim.b0 (fun y0 y1 => J 57 (abacusref01_Trim.A n J 57 [n]) (abacusref01_Trim.s57 y0 y1)) l0 := by kernel_rfl
theorem abacusref01_Trim.e15 (n : Nat) (J : Nat→(ASt→Ω (Λ))→ASt→Ω (Λ)) (x0 : Λ) (x1 : Int) : abacusref01_Trim.A n J 15 [] (abacusref01_Trim.s15 x0 x1) = abacusref01_Trim.b15 (fun y0 y1 y2 y3 => J 501 (abacusref01_Trim.A n J 501 [n]) (abacusref01_Trim.s501 y0 y1 y2 y3)) x0 x1 := by kernel_rfl
theorem abacusref01_Trim.e57 (n : Nat) (J : Nat→(ASt→Ω (Λ))→ASt→Ω (Λ)) (m : Nat) (x0 : Λ) (x1 : Int) : abacusref01_Trim.A n J 57 [m + 1] (abacusref01_Trim.s57 x0 x1) = abacusref01_Trim.b57 (fun y0 y1 => J 15 (abacusref01_Trim.A n J 15 []) (abacusref01_Trim.s15 y0 y1)) (fun y0 y1 => J 57 (abacusref01_Trim.A n J 57 [m]) (abacusref01_Trim.s57 y0 y1)) x0 x1 := by kernel_rfl
theorem abacusref01_Trim.e501 (n : Nat) (J : Nat→(ASt→Ω (Λ))→ASt→Ω (Λ)) (m : Nat) (x0 : Λ) (x1 : Int) (x2 : Int) (x3 : Λ) : abacusref01_Trim.A n J 501 [m + 1] (abacusref01_Trim.s501 x0 x1 x2 x3) = abacusref01_Trim.b501 (fun y0 y1 y2 y3 => J 501 (abacusref01_Trim.A n J 501 [m]) (abacusref01_Trim.s501 y0 y1 y2 y3)) x0 x1 x2 x3 := by kernel_rfl
theorem abacusref01_Trim.q501 (n : Nat) (m : Nat) : ∀ (x0 : Λ) (x1 : Int) (x2 : Int) (x3 : Λ), abacusref01_Trim.A n idJ 501 [m] (abacusref01_Trim.s501 x0 x1 x2 x3) = abacusref01_Trim.l501 n m x0 x1 x2 x3 := by
  induction m with
  | zero => intros; rfl
  | succ m ih =>
    intro x0 x1 x2 x3
    refine (abacusref01_Trim.e501 n idJ m x0 x1 x2 x3).trans ?_
    exact congrFun (congrFun (congrFun (congrFun (congrArg abacusref01_Trim.b501 (funext fun y0 => (funext fun y1 => (funext fun y2 => (funext fun y3 => ih y0 y1 y2 y3))))) x0) x1) x2) x3
theorem abacusref01_Trim.q15 (n : Nat) (x0 : Λ) (x1 : Int) : abacusref01_Trim.A n idJ 15 [] (abacusref01_Trim.s15 x0 x1) = abacusref01_Trim.l15 n x0 x1 := (abacusref01_Trim.e15 n idJ x0 x1).trans (congrFun (congrFun (congrArg abacusref01_Trim.b15 (funext fun y0 => (funext fun y1 => (funext fun y2 => (funext fun y3 => abacusref01_Trim.q501 n n y0 y1 y2 y3))))) x0) x1)
theorem abacusref01_Trim.q57 (n : Nat) (m : Nat) : ∀ (x0 : Λ) (x1 : Int), abacusref01_Trim.A n idJ 57 [m] (abacusref01_Trim.s57 x0 x1) = abacusref01_Trim.l57 n m x0 x1 := by
  induction m with
  | zero => intros; rfl
  | succ m ih =>
    intro x0 x1
    refine (abacusref01_Trim.e57 n idJ m x0 x1).trans ?_
    exact congrFun (congrFun (congr (congrArg abacusref01_Trim.b57 (funext fun y0 => (funext fun y1 => abacusref01_Trim.q15 n y0 y1))) (funext fun y0 => (funext fun y1 => ih y0 y1))) x0) x1
theorem abacusref01_Trim.eq (n : Nat) (l0 : Λ) : afun (abacusref01_Trim.cfg) idJ abacusref01_Trim.cuts n abacusref01_Trim.code Tryd.f101.results.toList [true] [.ro .u64 l0] abacusref01_Trim.sg.out = abacusref01_Trim.f n l0 := (abacusref01_Trim.e0 n idJ l0).trans (congrFun (congrArg abacusref01_Trim.b0 (funext fun y0 => (funext fun y1 => abacusref01_Trim.q57 n n y0 y1))) l0)
theorem abacusref01_Trim.ok {n : Nat} {l0 : Λ} {r : Λ} (h : abacusref01_Trim.f n l0 = some r) : CallD Tryd.prog HW 101 [.ro .u64 l0] (abacusref01_Trim.sg.enc r) :=
  fun_some hwS Tryd.func101 (by kernel_rfl) (body := abacusref01_Trim.code) (by kernel_rfl) tys_ok (c := abacusref01_Trim.cfg) noCall_ok noW_ok (by kernel_rfl) (by kernel_rfl) (Nat.le_of_ble_eq_true (by kernel_rfl)) ((abacusref01_Trim.eq n l0).trans h)
noncomputable def abacusref01_Trim.call {α : Type} (g : Λ→Ω (Λ)) (ds : List D) (K : List D→Ω α) : Ω α := match ds with
  | [.ro .u64 l0] => (g l0).bind fun r => K (abacusref01_Trim.sg.enc r)
  | _ => none
theorem abacusref01_Trim.call_ok {α : Type} {n : Nat} (ds : List D) (K : List D→Ω α) (r : α) (h : abacusref01_Trim.call (abacusref01_Trim.f n) ds K = some r) : ∃ rs, K rs = some r ∧ CallD Tryd.prog HW 101 ds rs := by
  unfold abacusref01_Trim.call at h
  split at h
  · obtain ⟨x, hx, hk⟩ := Option.bind_eq_some_iff.1 h
    exact ⟨_, hk, abacusref01_Trim.ok (n := n) hx⟩
  · cases h
/-! ### abacusref01_limbs: function 154 -/
noncomputable def abacusref01_limbs.b0 (c101 : Λ→Ω (Λ)) (k117 : Λ→Int→Λ→Ω (Λ)) (l0 : Λ) : Ω (Λ) := (if 0 ≤ (wrap64 (Int.tdiv (wrap64 ((ln l0) + 1)) 2)) then (if (wrap64 (Int.tdiv (wrap64 ((ln l0) + 1)) 2)).toNat ≤ 35184372088832 then k117 l0 0 (List.replicate 0 (0 : Int)) else none) else none)
noncomputable def abacusref01_limbs.b15 (c101 : Λ→Ω (Λ)) (x0 : Λ) : Ω (Λ) := ((c101 x0).bind fun t1 => some t1)
noncomputable def abacusref01_limbs.b117 (c101 : Λ→Ω (Λ)) (k15 : Λ→Ω (Λ)) (k117 : Λ→Int→Λ→Ω (Λ)) (x0 : Λ) (x1 : Int) (x2 : Λ) : Ω (Λ) := (if x1 < (ln x0) then (if 0 ≤ x1 then (if x1 < (ln x0) then (if (wrap64 (x1 + 1)) < (ln x0) then (if 0 ≤ (wrap64 (x1 + 1)) then (if (wrap64 (x1 + 1)) < (ln x0) then (if x2.length + 1 ≤ 17592186044416 then k117 x0 (wrap64 (x1 + 2)) (x2 ++ [IntKind.u64.wrap ((rd x0 x1) + (IntKind.u64.wrap ((rd x0 (wrap64 (x1 + 1))) * 4294967296)))]) else none) else none) else none) else (if x2.length + 1 ≤ 17592186044416 then k117 x0 (wrap64 (x1 + 2)) (x2 ++ [rd x0 x1]) else none)) else none) else none) else k15 x2)
noncomputable def abacusref01_limbs.l15 (n : Nat) (x0 : Λ) : Ω (Λ) := abacusref01_limbs.b15 (abacusref01_Trim.f n) x0
noncomputable def abacusref01_limbs.l117 (n : Nat) : Nat→Λ→Int→Λ→Ω (Λ)
  | 0, _, _, _ => none
  | m + 1, x0, x1, x2 => abacusref01_limbs.b117 (abacusref01_Trim.f n) (abacusref01_limbs.l15 n) (abacusref01_limbs.l117 n m) x0 x1 x2
noncomputable def abacusref01_limbs.f (n : Nat) (l0 : Λ) : Ω (Λ) := abacusref01_limbs.b0 (abacusref01_Trim.f n) (abacusref01_limbs.l117 n n) l0
noncomputable def abacusref01_limbs.sg : Sig (Λ) := s1 (sOwn 22 .u64)
noncomputable def abacusref01_limbs.code : Code := (Tryd.f154.body).getD .skip
noncomputable def abacusref01_limbs.cfg (c101 : Λ→Ω (Λ)) : Cfg (Λ) := { T := tys, call := orCall 101 (abacusref01_Trim.call c101) (noCall) }
noncomputable def abacusref01_limbs.cuts : List (Nat × List (Nat × Want)) := [(15, [(3, .keep)]), (117, [(0, .keep), (3, .keep), (4, .keep)])]
noncomputable def abacusref01_limbs.s15 (x0 : Λ) : ASt := ⟨[(3, .own 0)], [.ints 22 .u64 x0]⟩
noncomputable def abacusref01_limbs.s117 (x0 : Λ) (x1 : Int) (x2 : Λ) : ASt := ⟨[(0, .ro .u64 x0), (3, .own 0), (4, .int .i64 x1)], [.ints 22 .u64 x2]⟩
noncomputable def abacusref01_limbs.A (c101 : Λ→Ω (Λ)) (n : Nat) (J : Nat→(ASt→Ω (Λ))→ASt→Ω (Λ)) (q : Nat) (ms : List Nat) : ASt→Ω (Λ) := acont (abacusref01_limbs.cfg c101) J abacusref01_limbs.cuts n q abacusref01_limbs.code 1 ms (aend (abacusref01_limbs.cfg c101) Tryd.f154.results.toList [true] abacusref01_limbs.sg.out)
theorem abacusref01_limbs.e0 (c101 : Λ→Ω (Λ)) (n : Nat) (J : Nat→(ASt→Ω (Λ))→ASt→Ω (Λ)) (l0 : Λ) : afun (abacusref01_limbs.cfg c101) J abacusref01_limbs.cuts n abacusref01_limbs.code Tryd.f154.results.toList [true] [.ro .u64 l0] abacusref01_limbs.sg.out = abacusref01_limbs.b0 c101 (fun y0 y1 y2 => J 117 (abacusref01_limbs.A c101 n J 117 [n]) (abacusref01_limbs.s117 y0 y1 y2)) l0 := by kernel_rfl
theorem abacusref01_limbs.e15 (c101 : Λ→Ω (Λ)) (n : Nat) (J : Nat→(ASt→Ω (Λ))→ASt→Ω (Λ)) (x0 : Λ) : abacusref01_limbs.A c101 n J 15 [] (abacusref01_limbs.s15 x0) = abacusref01_limbs.b15 c101 x0 := by kernel_rfl
theorem abacusref01_limbs.e117 (c101 : Λ→Ω (Λ)) (n : Nat) (J : Nat→(ASt→Ω (Λ))→ASt→Ω (Λ)) (m : Nat) (x0 : Λ) (x1 : Int) (x2 : Λ) : abacusref01_limbs.A c101 n J 117 [m + 1] (abacusref01_limbs.s117 x0 x1 x2) = abacusref01_limbs.b117 c101 (fun y0 => J 15 (abacusref01_limbs.A c101 n J 15 []) (abacusref01_limbs.s15 y0)) (fun y0 y1 y2 => J 117 (abacusref01_limbs.A c101 n J 117 [m]) (abacusref01_limbs.s117 y0 y1 y2)) x0 x1 x2 := by kernel_rfl
theorem abacusref01_limbs.q15 (n : Nat) (x0 : Λ) : abacusref01_limbs.A (abacusref01_Trim.f n) n idJ 15 [] (abacusref01_limbs.s15 x0) = abacusref01_limbs.l15 n x0 := (abacusref01_limbs.e15 (abacusref01_Trim.f n) n idJ x0).trans (rfl)
theorem abacusref01_limbs.q117 (n : Nat) (m : Nat) : ∀ (x0 : Λ) (x1 : Int) (x2 : Λ), abacusref01_limbs.A (abacusref01_Trim.f n) n idJ 117 [m] (abacusref01_limbs.s117 x0 x1 x2) = abacusref01_limbs.l117 n m x0 x1 x2 := by
  induction m with
  | zero => intros; rfl
  | succ m ih =>
    intro x0 x1 x2
    refine (abacusref01_limbs.e117 (abacusref01_Trim.f n) n idJ m x0 x1 x2).trans ?_
    exact congrFun (congrFun (congrFun (congr (congrArg (abacusref01_limbs.b117 (abacusref01_Trim.f n)) (funext fun y0 => abacusref01_limbs.q15 n y0)) (funext fun y0 => (funext fun y1 => (funext fun y2 => ih y0 y1 y2)))) x0) x1) x2
theorem abacusref01_limbs.eq (n : Nat) (l0 : Λ) : afun (abacusref01_limbs.cfg (abacusref01_Trim.f n)) idJ abacusref01_limbs.cuts n abacusref01_limbs.code Tryd.f154.results.toList [true] [.ro .u64 l0] abacusref01_limbs.sg.out = abacusref01_limbs.f n l0 := (abacusref01_limbs.e0 (abacusref01_Trim.f n) n idJ l0).trans (congrFun (congrArg (abacusref01_limbs.b0 (abacusref01_Trim.f n)) (funext fun y0 => (funext fun y1 => (funext fun y2 => abacusref01_limbs.q117 n n y0 y1 y2)))) l0)
theorem abacusref01_limbs.ok {n : Nat} {l0 : Λ} {r : Λ} (h : abacusref01_limbs.f n l0 = some r) : CallD Tryd.prog HW 154 [.ro .u64 l0] (abacusref01_limbs.sg.enc r) :=
  fun_some hwS Tryd.func154 (by kernel_rfl) (body := abacusref01_limbs.code) (by kernel_rfl) tys_ok (c := abacusref01_limbs.cfg (abacusref01_Trim.f n)) (orCall_ok (abacusref01_Trim.call_ok (n := n)) noCall_ok) noW_ok (by kernel_rfl) (by kernel_rfl) (Nat.le_of_ble_eq_true (by kernel_rfl)) ((abacusref01_limbs.eq n l0).trans h)
noncomputable def abacusref01_limbs.call {α : Type} (g : Λ→Ω (Λ)) (ds : List D) (K : List D→Ω α) : Ω α := match ds with
  | [.ro .u64 l0] => (g l0).bind fun r => K (abacusref01_limbs.sg.enc r)
  | _ => none
theorem abacusref01_limbs.call_ok {α : Type} {n : Nat} (ds : List D) (K : List D→Ω α) (r : α) (h : abacusref01_limbs.call (abacusref01_limbs.f n) ds K = some r) : ∃ rs, K rs = some r ∧ CallD Tryd.prog HW 154 ds rs := by
  unfold abacusref01_limbs.call at h
  split at h
  · obtain ⟨x, hx, hk⟩ := Option.bind_eq_some_iff.1 h
    exact ⟨_, hk, abacusref01_limbs.ok (n := n) hx⟩
  · cases h
/-! ### abacusref01_Times: function 147 -/
noncomputable def abacusref01_Times.b0 (c153 : Λ→Ω (Λ)) (c154 : Λ→Ω (Λ)) (k1013 : Λ→Λ→Int→Λ→Ω (Λ)) (l0 : Λ) (l1 : Λ) : Ω (Λ) := ((c153 l0).bind fun t1 => ((c153 l1).bind fun t2 => (if (ln t1) = 0 then some ([] : Λ) else (if (ln t2) = 0 then some ([] : Λ) else (if 0 ≤ (wrap64 ((ln t1) + (ln t2))) then (if (wrap64 ((ln t1) + (ln t2))).toNat ≤ 35184372088832 then k1013 t1 t2 0 (List.replicate (wrap64 ((ln t1) + (ln t2))).toNat (0 : Int)) else none) else none)))))
noncomputable def abacusref01_Times.b127 (c153 : Λ→Ω (Λ)) (c154 : Λ→Ω (Λ)) (x0 : Λ) : Ω (Λ) := ((c154 x0).bind fun t1 => some t1)
noncomputable def abacusref01_Times.b1013 (c153 : Λ→Ω (Λ)) (c154 : Λ→Ω (Λ)) (k127 : Λ→Ω (Λ)) (k259221 : Λ→Λ→Int→Int→Int→Λ→Ω (Λ)) (x0 : Λ) (x1 : Λ) (x2 : Int) (x3 : Λ) : Ω (Λ) := (if x2 < (ln x0) then k259221 x0 x1 x2 0 0 x3 else k127 x3)
noncomputable def abacusref01_Times.b32403 (c153 : Λ→Ω (Λ)) (c154 : Λ→Ω (Λ)) (k1013 : Λ→Λ→Int→Λ→Ω (Λ)) (x0 : Λ) (x1 : Λ) (x2 : Int) (x3 : Int) (x4 : Λ) : Ω (Λ) := (if 0 ≤ (wrap64 (x2 + (ln x1))) then (if (wrap64 (x2 + (ln x1))) < (ln x4) then k1013 x0 x1 (wrap64 (x2 + 1)) (x4.set (wrap64 (x2 + (ln x1)) : Int).toNat x3) else none) else none)
noncomputable def abacusref01_Times.b259221 (c153 : Λ→Ω (Λ)) (c154 : Λ→Ω (Λ)) (k32403 : Λ→Λ→Int→Int→Λ→Ω (Λ)) (k259221 : Λ→Λ→Int→Int→Int→Λ→Ω (Λ)) (x0 : Λ) (x1 : Λ) (x2 : Int) (x3 : Int) (x4 : Int) (x5 : Λ) : Ω (Λ) := (if x4 < (ln x1) then (if 0 ≤ x2 then (if x2 < (ln x0) then (if 0 ≤ x4 then (if x4 < (ln x1) then (if 0 ≤ (wrap64 (x2 + x4)) then (if (wrap64 (x2 + x4)) < (ln x5) then (if 0 ≤ (wrap64 (x2 + x4)) then (if (wrap64 (x2 + x4)) < (ln x5) then k259221 x0 x1 x2 ((IntKind.u64.wrap ((IntKind.u64.wrap ((IntKind.u64.wrap ((rd x0 x2) * (rd x1 x4))) + (rd x5 (wrap64 (x2 + x4))))) + x3)) / 4294967296) (wrap64 (x4 + 1)) (x5.set (wrap64 (x2 + x4) : Int).toNat (Go.bits .and .u64 (IntKind.u64.wrap ((IntKind.u64.wrap ((IntKind.u64.wrap ((rd x0 x2) * (rd x1 x4))) + (rd x5 (wrap64 (x2 + x4))))) + x3)) 4294967295)) else none) else none) else none) else none) else none) else none) else none) else none) else k32403 x0 x1 x2 x3 x5)
noncomputable def abacusref01_Times.l127 (n : Nat) (x0 : Λ) : Ω (Λ) := abacusref01_Times.b127 (abacusref01_halves.f n) (abacusref01_limbs.f n) x0
noncomputable def abacusref01_Times.l32403 (n : Nat) (k1013 : Λ→Λ→Int→Λ→Ω (Λ)) (x0 : Λ) (x1 : Λ) (x2 : Int) (x3 : Int) (x4 : Λ) : Ω (Λ) := abacusref01_Times.b32403 (abacusref01_halves.f n) (abacusref01_limbs.f n) k1013 x0 x1 x2 x3 x4
noncomputable def abacusref01_Times.l259221 (n : Nat) (k1013 : Λ→Λ→Int→Λ→Ω (Λ)) : Nat→Λ→Λ→Int→Int→Int→Λ→Ω (Λ)
  | 0, _, _, _, _, _, _ => none
  | m + 1, x0, x1, x2, x3, x4, x5 => abacusref01_Times.b259221 (abacusref01_halves.f n) (abacusref01_limbs.f n) (abacusref01_Times.l32403 n k1013) (abacusref01_Times.l259221 n k1013 m) x0 x1 x2 x3 x4 x5
noncomputable def abacusref01_Times.l1013 (n : Nat) : Nat→Λ→Λ→Int→Λ→Ω (Λ)
  | 0, _, _, _, _ => none
  | m + 1, x0, x1, x2, x3 => abacusref01_Times.b1013 (abacusref01_halves.f n) (abacusref01_limbs.f n) (abacusref01_Times.l127 n) (abacusref01_Times.l259221 n (abacusref01_Times.l1013 n m) n) x0 x1 x2 x3
noncomputable def abacusref01_Times.f (n : Nat) (l0 : Λ) (l1 : Λ) : Ω (Λ) := abacusref01_Times.b0 (abacusref01_halves.f n) (abacusref01_limbs.f n) (abacusref01_Times.l1013 n n) l0 l1
noncomputable def abacusref01_Times.sg : Sig (Λ) := s1 (sOwn 22 .u64)
noncomputable def abacusref01_Times.code : Code := (Tryd.f147.body).getD .skip
noncomputable def abacusref01_Times.cfg (c153 : Λ→Ω (Λ)) (c154 : Λ→Ω (Λ)) : Cfg (Λ) := { T := tys, call := orCall 153 (abacusref01_halves.call c153) (orCall 154 (abacusref01_limbs.call c154) (noCall)) }
noncomputable def abacusref01_Times.cuts : List (Nat × List (Nat × Want)) := [(127, [(7, .keep)]), (1013, [(5, .keep), (6, .keep), (7, .keep), (8, .keep)]), (32403, [(5, .keep), (6, .keep), (7, .keep), (8, .keep), (9, .keep)]), (259221, [(5, .keep), (6, .keep), (7, .keep), (8, .keep), (9, .keep), (10, .keep)])]
noncomputable def abacusref01_Times.s127 (x0 : Λ) : ASt := ⟨[(7, .own 0)], [.ints 22 .u64 x0]⟩
noncomputable def abacusref01_Times.s1013 (x0 : Λ) (x1 : Λ) (x2 : Int) (x3 : Λ) : ASt := ⟨[(5, .ro .u64 x0), (6, .ro .u64 x1), (7, .own 0), (8, .int .i64 x2)], [.ints 22 .u64 x3]⟩
noncomputable def abacusref01_Times.s32403 (x0 : Λ) (x1 : Λ) (x2 : Int) (x3 : Int) (x4 : Λ) : ASt := ⟨[(5, .ro .u64 x0), (6, .ro .u64 x1), (7, .own 0), (8, .int .i64 x2), (9, .int .u64 x3)], [.ints 22 .u64 x4]⟩
noncomputable def abacusref01_Times.s259221 (x0 : Λ) (x1 : Λ) (x2 : Int) (x3 : Int) (x4 : Int) (x5 : Λ) : ASt := ⟨[(5, .ro .u64 x0), (6, .ro .u64 x1), (7, .own 0), (8, .int .i64 x2), (9, .int .u64 x3), (10, .int .i64 x4)], [.ints 22 .u64 x5]⟩
noncomputable def abacusref01_Times.A (c153 : Λ→Ω (Λ)) (c154 : Λ→Ω (Λ)) (n : Nat) (J : Nat→(ASt→Ω (Λ))→ASt→Ω (Λ)) (q : Nat) (ms : List Nat) : ASt→Ω (Λ) := acont (abacusref01_Times.cfg c153 c154) J abacusref01_Times.cuts n q abacusref01_Times.code 1 ms (aend (abacusref01_Times.cfg c153 c154) Tryd.f147.results.toList [true] abacusref01_Times.sg.out)
theorem abacusref01_Times.e0 (c153 : Λ→Ω (Λ)) (c154 : Λ→Ω (Λ)) (n : Nat) (J : Nat→(ASt→Ω (Λ))→ASt→Ω (Λ)) (l0 : Λ) (l1 : Λ) : afun (abacusref01_Times.cfg c153 c154) J abacusref01_Times.cuts n abacusref01_Times.code Tryd.f147.results.toList [true] [.ro .u64 l0, .ro .u64 l1] abacusref01_Times.sg.out = abacusref01_Times.b0 c153 c154 (fun y0 y1 y2 y3 => J 1013 (abacusref01_Times.A c153 c154 n J 1013 [n]) (abacusref01_Times.s1013 y0 y1 y2 y3)) l0 l1 := by kernel_rfl
theorem abacusref01_Times.e127 (c153 : Λ→Ω (Λ)) (c154 : Λ→Ω (Λ)) (n : Nat) (J : Nat→(ASt→Ω (Λ))→ASt→Ω (Λ)) (x0 : Λ) : abacusref01_Times.A c153 c154 n J 127 [] (abacusref01_Times.s127 x0) = abacusref01_Times.b127 c153 c154 x0 := by kernel_rfl
theorem abacusref01_Times.e1013 (c153 : Λ→Ω (Λ)) (c154 : Λ→Ω (Λ)) (n : Nat) (J : Nat→(ASt→Ω (Λ))→ASt→Ω (Λ)) (m : Nat) (x0 : Λ) (x1 : Λ) (x2 : Int) (x3 : Λ) : abacusref01_Times.A c153 c154 n J 1013 [m + 1] (abacusref01_Times.s1013 x0 x1 x2 x3) = abacusref01_Times.b1013 c153 c154 (fun y0 => J 127 (abacusref01_Times.A c153 c154 n J 127 []) (abacusref01_Times.s127 y0)) (fun y0 y1 y2 y3 y4 y5 => J 259221 (abacusref01_Times.A c153 c154 n J 259221 [m, n]) (abacusref01_Times.s259221 y0 y1 y2 y3 y4 y5)) x0 x1 x2 x3 := by kernel_rfl
theorem abacusref01_Times.e32403 (c153 : Λ→Ω (Λ)) (c154 : Λ→Ω (Λ)) (n : Nat) (J : Nat→(ASt→Ω (Λ))→ASt→Ω (Λ)) (m1013 : Nat) (x0 : Λ) (x1 : Λ) (x2 : Int) (x3 : Int) (x4 : Λ) : abacusref01_Times.A c153 c154 n J 32403 [m1013] (abacusref01_Times.s32403 x0 x1 x2 x3 x4) = abacusref01_Times.b32403 c153 c154 (fun y0 y1 y2 y3 => J 1013 (abacusref01_Times.A c153 c154 n J 1013 [m1013]) (abacusref01_Times.s1013 y0 y1 y2 y3)) x0 x1 x2 x3 x4 := by kernel_rfl
theorem abacusref01_Times.e259221 (c153 : Λ→Ω (Λ)) (c154 : Λ→Ω (Λ)) (n : Nat) (J : Nat→(ASt→Ω (Λ))→ASt→Ω (Λ)) (m1013 : Nat) (m : Nat) (x0 : Λ) (x1 : Λ) (x2 : Int) (x3 : Int) (x4 : Int) (x5 : Λ) : abacusref01_Times.A c153 c154 n J 259221 [m1013, m + 1] (abacusref01_Times.s259221 x0 x1 x2 x3 x4 x5) = abacusref01_Times.b259221 c153 c154 (fun y0 y1 y2 y3 y4 => J 32403 (abacusref01_Times.A c153 c154 n J 32403 [m1013]) (abacusref01_Times.s32403 y0 y1 y2 y3 y4)) (fun y0 y1 y2 y3 y4 y5 => J 259221 (abacusref01_Times.A c153 c154 n J 259221 [m1013, m]) (abacusref01_Times.s259221 y0 y1 y2 y3 y4 y5)) x0 x1 x2 x3 x4 x5 := by kernel_rfl
theorem abacusref01_Times.q127 (n : Nat) (x0 : Λ) : abacusref01_Times.A (abacusref01_halves.f n) (abacusref01_limbs.f n) n idJ 127 [] (abacusref01_Times.s127 x0) = abacusref01_Times.l127 n x0 := (abacusref01_Times.e127 (abacusref01_halves.f n) (abacusref01_limbs.f n) n idJ x0).trans (rfl)
theorem abacusref01_Times.q32403 (n : Nat) (m1013 : Nat) (x0 : Λ) (x1 : Λ) (x2 : Int) (x3 : Int) (x4 : Λ) : abacusref01_Times.A (abacusref01_halves.f n) (abacusref01_limbs.f n) n idJ 32403 [m1013] (abacusref01_Times.s32403 x0 x1 x2 x3 x4) = abacusref01_Times.l32403 n (fun y0 y1 y2 y3 => abacusref01_Times.A (abacusref01_halves.f n) (abacusref01_limbs.f n) n idJ 1013 [m1013] (abacusref01_Times.s1013 y0 y1 y2 y3)) x0 x1 x2 x3 x4 := (abacusref01_Times.e32403 (abacusref01_halves.f n) (abacusref01_limbs.f n) n idJ m1013 x0 x1 x2 x3 x4).trans (rfl)
theorem abacusref01_Times.q259221 (n : Nat) (m1013 : Nat) (m : Nat) : ∀ (x0 : Λ) (x1 : Λ) (x2 : Int) (x3 : Int) (x4 : Int) (x5 : Λ), abacusref01_Times.A (abacusref01_halves.f n) (abacusref01_limbs.f n) n idJ 259221 [m1013, m] (abacusref01_Times.s259221 x0 x1 x2 x3 x4 x5) = abacusref01_Times.l259221 n (fun y0 y1 y2 y3 => abacusref01_Times.A (abacusref01_halves.f n) (abacusref01_limbs.f n) n idJ 1013 [m1013] (abacusref01_Times.s1013 y0 y1 y2 y3)) m x0 x1 x2 x3 x4 x5 := by
  induction m with
  | zero => intros; rfl
  | succ m ih =>
    intro x0 x1 x2 x3 x4 x5
    refine (abacusref01_Times.e259221 (abacusref01_halves.f n) (abacusref01_limbs.f n) n idJ m1013 m x0 x1 x2 x3 x4 x5).trans ?_
    exact congrFun (congrFun (congrFun (congrFun (congrFun (congrFun (congr (congrArg (abacusref01_Times.b259221 (abacusref01_halves.f n) (abacusref01_limbs.f n)) (funext fun y0 => (funext fun y1 => (funext fun y2 => (funext fun y3 => (funext fun y4 => abacusref01_Times.q32403 n m1013 y0 y1 y2 y3 y4)))))) (funext fun y0 => (funext fun y1 => (funext fun y2 => (funext fun y3 => (funext fun y4 => (funext fun y5 => ih y0 y1 y2 y3 y4 y5))))))) x0) x1) x2) x3) x4) x5
theorem abacusref01_Times.q1013 (n : Nat) (m : Nat) : ∀ (x0 : Λ) (x1 : Λ) (x2 : Int) (x3 : Λ), abacusref01_Times.A (abacusref01_halves.f n) (abacusref01_limbs.f n) n idJ 1013 [m] (abacusref01_Times.s1013 x0 x1 x2 x3) = abacusref01_Times.l1013 n m x0 x1 x2 x3 := by
  induction m with
  | zero => intros; rfl
  | succ m ih =>
    intro x0 x1 x2 x3
    refine (abacusref01_Times.e1013 (abacusref01_halves.f n) (abacusref01_limbs.f n) n idJ m x0 x1 x2 x3).trans ?_
    exact congrFun (congrFun (congrFun (congrFun (congr (congrArg (abacusref01_Times.b1013 (abacusref01_halves.f n) (abacusref01_limbs.f n)) (funext fun y0 => abacusref01_Times.q127 n y0)) ((funext fun y0 => (funext fun y1 => (funext fun y2 => (funext fun y3 => (funext fun y4 => (funext fun y5 => abacusref01_Times.q259221 n m n y0 y1 y2 y3 y4 y5)))))).trans (by rw [show (fun y0 y1 y2 y3 => abacusref01_Times.A (abacusref01_halves.f n) (abacusref01_limbs.f n) n idJ 1013 [m] (abacusref01_Times.s1013 y0 y1 y2 y3)) = _ from (funext fun y0 => (funext fun y1 => (funext fun y2 => (funext fun y3 => ih y0 y1 y2 y3))))]))) x0) x1) x2) x3
theorem abacusref01_Times.eq (n : Nat) (l0 : Λ) (l1 : Λ) : afun (abacusref01_Times.cfg (abacusref01_halves.f n) (abacusref01_limbs.f n)) idJ abacusref01_Times.cuts n abacusref01_Times.code Tryd.f147.results.toList [true] [.ro .u64 l0, .ro .u64 l1] abacusref01_Times.sg.out = abacusref01_Times.f n l0 l1 := (abacusref01_Times.e0 (abacusref01_halves.f n) (abacusref01_limbs.f n) n idJ l0 l1).trans (congrFun (congrFun (congrArg (abacusref01_Times.b0 (abacusref01_halves.f n) (abacusref01_limbs.f n)) (funext fun y0 => (funext fun y1 => (funext fun y2 => (funext fun y3 => abacusref01_Times.q1013 n n y0 y1 y2 y3))))) l0) l1)
theorem abacusref01_Times.ok {n : Nat} {l0 : Λ} {l1 : Λ} {r : Λ} (h : abacusref01_Times.f n l0 l1 = some r) : CallD Tryd.prog HW 147 [.ro .u64 l0, .ro .u64 l1] (abacusref01_Times.sg.enc r) :=
  fun_some hwS Tryd.func147 (by kernel_rfl) (body := abacusref01_Times.code) (by kernel_rfl) tys_ok (c := abacusref01_Times.cfg (abacusref01_halves.f n) (abacusref01_limbs.f n)) (orCall_ok (abacusref01_halves.call_ok (n := n)) (orCall_ok (abacusref01_limbs.call_ok (n := n)) noCall_ok)) noW_ok (by kernel_rfl) (by kernel_rfl) (Nat.le_of_ble_eq_true (by kernel_rfl)) ((abacusref01_Times.eq n l0 l1).trans h)
noncomputable def abacusref01_Times.call {α : Type} (g : Λ→Λ→Ω (Λ)) (ds : List D) (K : List D→Ω α) : Ω α := match ds with
  | [.ro .u64 l0, .ro .u64 l1] => (g l0 l1).bind fun r => K (abacusref01_Times.sg.enc r)
  | _ => none
theorem abacusref01_Times.call_ok {α : Type} {n : Nat} (ds : List D) (K : List D→Ω α) (r : α) (h : abacusref01_Times.call (abacusref01_Times.f n) ds K = some r) : ∃ rs, K rs = some r ∧ CallD Tryd.prog HW 147 ds rs := by
  unfold abacusref01_Times.call at h
  split at h
  · obtain ⟨x, hx, hk⟩ := Option.bind_eq_some_iff.1 h
    exact ⟨_, hk, abacusref01_Times.ok (n := n) hx⟩
  · cases h
/-! ### abacusref05_product: function 63 -/
noncomputable def abacusref05_product.b0 (c147 : Λ→Λ→Ω (Λ)) (a0 : Bool) (l1 : Λ) (l2 : Λ) (a3 : Int) (a4 : Bool) (l5 : Λ) (l6 : Λ) (a7 : Int) : Ω (Bool × Λ × Λ × Int) := ((c147 l1 l5).bind fun t1 => some (a0 != a4, t1, l2, wrap64 (a3 + a7)))
noncomputable def abacusref05_product.f (n : Nat) (a0 : Bool) (l1 : Λ) (l2 : Λ) (a3 : Int) (a4 : Bool) (l5 : Λ) (l6 : Λ) (a7 : Int) : Ω (Bool × Λ × Λ × Int) := abacusref05_product.b0 (abacusref01_Times.f n) a0 l1 l2 a3 a4 l5 l6 a7
noncomputable def abacusref05_product.sg : Sig (Bool × Λ × Λ × Int) := s1 (sAgg (s2 (sBool) (s2 (sRow .u64) (s2 (sRow .u64) (s1 (sInt .i64))))))
noncomputable def abacusref05_product.code : Code := (Tryd.f63.body).getD .skip
noncomputable def abacusref05_product.cfg (c147 : Λ→Λ→Ω (Λ)) : Cfg (Bool × Λ × Λ × Int) := { T := tys, call := orCall 147 (abacusref01_Times.call c147) (noCall) }
noncomputable def abacusref05_product.cuts : List (Nat × List (Nat × Want)) := []
theorem abacusref05_product.e0 (c147 : Λ→Λ→Ω (Λ)) (n : Nat) (J : Nat→(ASt→Ω (Bool × Λ × Λ × Int))→ASt→Ω (Bool × Λ × Λ × Int)) (a0 : Bool) (l1 : Λ) (l2 : Λ) (a3 : Int) (a4 : Bool) (l5 : Λ) (l6 : Λ) (a7 : Int) : afun (abacusref05_product.cfg c147) J abacusref05_product.cuts n abacusref05_product.code Tryd.f63.results.toList [false] [.agg [.bool a0, .ro .u64 l1, .ro .u64 l2, .int .i64 a3], .agg [.bool a4, .ro .u64 l5, .ro .u64 l6, .int .i64 a7]] abacusref05_product.sg.out = abacusref05_product.b0 c147 a0 l1 l2 a3 a4 l5 l6 a7 := by kernel_rfl
theorem abacusref05_product.eq (n : Nat) (a0 : Bool) (l1 : Λ) (l2 : Λ) (a3 : Int) (a4 : Bool) (l5 : Λ) (l6 : Λ) (a7 : Int) : afun (abacusref05_product.cfg (abacusref01_Times.f n)) idJ abacusref05_product.cuts n abacusref05_product.code Tryd.f63.results.toList [false] [.agg [.bool a0, .ro .u64 l1, .ro .u64 l2, .int .i64 a3], .agg [.bool a4, .ro .u64 l5, .ro .u64 l6, .int .i64 a7]] abacusref05_product.sg.out = abacusref05_product.f n a0 l1 l2 a3 a4 l5 l6 a7 := (abacusref05_product.e0 (abacusref01_Times.f n) n idJ a0 l1 l2 a3 a4 l5 l6 a7).trans (rfl)
theorem abacusref05_product.ok {n : Nat} {a0 : Bool} {l1 : Λ} {l2 : Λ} {a3 : Int} {a4 : Bool} {l5 : Λ} {l6 : Λ} {a7 : Int} {r : Bool × Λ × Λ × Int} (h : abacusref05_product.f n a0 l1 l2 a3 a4 l5 l6 a7 = some r) : CallD Tryd.prog HW 63 [.agg [.bool a0, .ro .u64 l1, .ro .u64 l2, .int .i64 a3], .agg [.bool a4, .ro .u64 l5, .ro .u64 l6, .int .i64 a7]] (abacusref05_product.sg.enc r) :=
  fun_some hwS Tryd.func63 (by kernel_rfl) (body := abacusref05_product.code) (by kernel_rfl) tys_ok (c := abacusref05_product.cfg (abacusref01_Times.f n)) (orCall_ok (abacusref01_Times.call_ok (n := n)) noCall_ok) noW_ok (by kernel_rfl) (by kernel_rfl) (Nat.le_of_ble_eq_true (by kernel_rfl)) ((abacusref05_product.eq n a0 l1 l2 a3 a4 l5 l6 a7).trans h)
noncomputable def abacusref05_product.call {α : Type} (g : Bool→Λ→Λ→Int→Bool→Λ→Λ→Int→Ω (Bool × Λ × Λ × Int)) (ds : List D) (K : List D→Ω α) : Ω α := match ds with
  | [.agg [.bool a0, .ro .u64 l1, .ro .u64 l2, .int .i64 a3], .agg [.bool a4, .ro .u64 l5, .ro .u64 l6, .int .i64 a7]] => (g a0 l1 l2 a3 a4 l5 l6 a7).bind fun r => K (abacusref05_product.sg.enc r)
  | _ => none
theorem abacusref05_product.call_ok {α : Type} {n : Nat} (ds : List D) (K : List D→Ω α) (r : α) (h : abacusref05_product.call (abacusref05_product.f n) ds K = some r) : ∃ rs, K rs = some r ∧ CallD Tryd.prog HW 63 ds rs := by
  unfold abacusref05_product.call at h
  split at h
  · obtain ⟨x, hx, hk⟩ := Option.bind_eq_some_iff.1 h
    exact ⟨_, hk, abacusref05_product.ok (n := n) hx⟩
  · cases h
/-! ### abacusref01_Size: function 161 -/
noncomputable def abacusref01_Size.b0 (k57 : Λ→Int→Ω (Int)) (l0 : Λ) : Ω (Int) := k57 l0 (ln l0)
noncomputable def abacusref01_Size.b57 (k57 : Λ→Int→Ω (Int)) (x0 : Λ) (x1 : Int) : Ω (Int) := (if x1 > 0 then (if 0 ≤ (wrap64 (x1 - 1)) then (if (wrap64 (x1 - 1)) < (ln x0) then (if (rd x0 (wrap64 (x1 - 1))) = 0 then k57 x0 (wrap64 (x1 - 1)) else some x1) else none) else none) else some x1)
noncomputable def abacusref01_Size.l57 (n : Nat) : Nat→Λ→Int→Ω (Int)
  | 0, _, _ => none
  | m + 1, x0, x1 => abacusref01_Size.b57 (abacusref01_Size.l57 n m) x0 x1
noncomputable def abacusref01_Size.f (n : Nat) (l0 : Λ) : Ω (Int) := abacusref01_Size.b0 (abacusref01_Size.l57 n n) l0
noncomputable def abacusref01_Size.sg : Sig (Int) := s1 (sInt .i64)
noncomputable def abacusref01_Size.code : Code := (Tryd.f161.body).getD .skip
noncomputable def abacusref01_Size.cfg : Cfg (Int) := { T := tys, call := noCall }
noncomputable def abacusref01_Size.cuts : List (Nat × List (Nat × Want)) := [(57, [(0, .keep), (3, .keep)])]
noncomputable def abacusref01_Size.s57 (x0 : Λ) (x1 : Int) : ASt := ⟨[(0, .ro .u64 x0), (3, .int .i64 x1)], []⟩
noncomputable def abacusref01_Size.A (n : Nat) (J : Nat→(ASt→Ω (Int))→ASt→Ω (Int)) (q : Nat) (ms : List Nat) : ASt→Ω (Int) := acont (abacusref01_Size.cfg) J abacusref01_Size.cuts n q abacusref01_Size.code 1 ms (aend (abacusref01_Size.cfg) Tryd.f161.results.toList [false] abacusref01_Size.sg.out)
theorem abacusref01_Size.e0 (n : Nat) (J : Nat→(ASt→Ω (Int))→ASt→Ω (Int)) (l0 : Λ) : afun (abacusref01_Size.cfg) J abacusref01_Size.cuts n abacusref01_Size.code Tryd.f161.results.toList [false] [.ro .u64 l0] abacusref01_Size.sg.out = abacusref01_Size.b0 (fun y0 y1 => J 57 (abacusref01_Size.A n J 57 [n]) (abacusref01_Size.s57 y0 y1)) l0 := by kernel_rfl
theorem abacusref01_Size.e57 (n : Nat) (J : Nat→(ASt→Ω (Int))→ASt→Ω (Int)) (m : Nat) (x0 : Λ) (x1 : Int) : abacusref01_Size.A n J 57 [m + 1] (abacusref01_Size.s57 x0 x1) = abacusref01_Size.b57 (fun y0 y1 => J 57 (abacusref01_Size.A n J 57 [m]) (abacusref01_Size.s57 y0 y1)) x0 x1 := by kernel_rfl
theorem abacusref01_Size.q57 (n : Nat) (m : Nat) : ∀ (x0 : Λ) (x1 : Int), abacusref01_Size.A n idJ 57 [m] (abacusref01_Size.s57 x0 x1) = abacusref01_Size.l57 n m x0 x1 := by
  induction m with
  | zero => intros; rfl
  | succ m ih =>
    intro x0 x1
    refine (abacusref01_Size.e57 n idJ m x0 x1).trans ?_
    exact congrFun (congrFun (congrArg abacusref01_Size.b57 (funext fun y0 => (funext fun y1 => ih y0 y1))) x0) x1
theorem abacusref01_Size.eq (n : Nat) (l0 : Λ) : afun (abacusref01_Size.cfg) idJ abacusref01_Size.cuts n abacusref01_Size.code Tryd.f161.results.toList [false] [.ro .u64 l0] abacusref01_Size.sg.out = abacusref01_Size.f n l0 := (abacusref01_Size.e0 n idJ l0).trans (congrFun (congrArg abacusref01_Size.b0 (funext fun y0 => (funext fun y1 => abacusref01_Size.q57 n n y0 y1))) l0)
theorem abacusref01_Size.ok {n : Nat} {l0 : Λ} {r : Int} (h : abacusref01_Size.f n l0 = some r) : CallD Tryd.prog HW 161 [.ro .u64 l0] (abacusref01_Size.sg.enc r) :=
  fun_some hwS Tryd.func161 (by kernel_rfl) (body := abacusref01_Size.code) (by kernel_rfl) tys_ok (c := abacusref01_Size.cfg) noCall_ok noW_ok (by kernel_rfl) (by kernel_rfl) (Nat.le_of_ble_eq_true (by kernel_rfl)) ((abacusref01_Size.eq n l0).trans h)
noncomputable def abacusref01_Size.call {α : Type} (g : Λ→Ω (Int)) (ds : List D) (K : List D→Ω α) : Ω α := match ds with
  | [.ro .u64 l0] => (g l0).bind fun r => K (abacusref01_Size.sg.enc r)
  | _ => none
theorem abacusref01_Size.call_ok {α : Type} {n : Nat} (ds : List D) (K : List D→Ω α) (r : α) (h : abacusref01_Size.call (abacusref01_Size.f n) ds K = some r) : ∃ rs, K rs = some r ∧ CallD Tryd.prog HW 161 ds rs := by
  unfold abacusref01_Size.call at h
  split at h
  · obtain ⟨x, hx, hk⟩ := Option.bind_eq_some_iff.1 h
    exact ⟨_, hk, abacusref01_Size.ok (n := n) hx⟩
  · cases h
/-! ### abacusref01_Big: function 155 -/
noncomputable def abacusref01_Big.b0 (c161 : Λ→Ω (Int)) (l0 : Λ) : Ω (Bool) := ((c161 l0).bind fun t1 => some (decide (t1 > 4096)))
noncomputable def abacusref01_Big.f (n : Nat) (l0 : Λ) : Ω (Bool) := abacusref01_Big.b0 (abacusref01_Size.f n) l0
noncomputable def abacusref01_Big.sg : Sig (Bool) := s1 (sBool)
noncomputable def abacusref01_Big.code : Code := (Tryd.f155.body).getD .skip
noncomputable def abacusref01_Big.cfg (c161 : Λ→Ω (Int)) : Cfg (Bool) := { T := tys, call := orCall 161 (abacusref01_Size.call c161) (noCall) }
noncomputable def abacusref01_Big.cuts : List (Nat × List (Nat × Want)) := []
theorem abacusref01_Big.e0 (c161 : Λ→Ω (Int)) (n : Nat) (J : Nat→(ASt→Ω (Bool))→ASt→Ω (Bool)) (l0 : Λ) : afun (abacusref01_Big.cfg c161) J abacusref01_Big.cuts n abacusref01_Big.code Tryd.f155.results.toList [false] [.ro .u64 l0] abacusref01_Big.sg.out = abacusref01_Big.b0 c161 l0 := by kernel_rfl
theorem abacusref01_Big.eq (n : Nat) (l0 : Λ) : afun (abacusref01_Big.cfg (abacusref01_Size.f n)) idJ abacusref01_Big.cuts n abacusref01_Big.code Tryd.f155.results.toList [false] [.ro .u64 l0] abacusref01_Big.sg.out = abacusref01_Big.f n l0 := (abacusref01_Big.e0 (abacusref01_Size.f n) n idJ l0).trans (rfl)
theorem abacusref01_Big.ok {n : Nat} {l0 : Λ} {r : Bool} (h : abacusref01_Big.f n l0 = some r) : CallD Tryd.prog HW 155 [.ro .u64 l0] (abacusref01_Big.sg.enc r) :=
  fun_some hwS Tryd.func155 (by kernel_rfl) (body := abacusref01_Big.code) (by kernel_rfl) tys_ok (c := abacusref01_Big.cfg (abacusref01_Size.f n)) (orCall_ok (abacusref01_Size.call_ok (n := n)) noCall_ok) noW_ok (by kernel_rfl) (by kernel_rfl) (Nat.le_of_ble_eq_true (by kernel_rfl)) ((abacusref01_Big.eq n l0).trans h)
noncomputable def abacusref01_Big.call {α : Type} (g : Λ→Ω (Bool)) (ds : List D) (K : List D→Ω α) : Ω α := match ds with
  | [.ro .u64 l0] => (g l0).bind fun r => K (abacusref01_Big.sg.enc r)
  | _ => none
theorem abacusref01_Big.call_ok {α : Type} {n : Nat} (ds : List D) (K : List D→Ω α) (r : α) (h : abacusref01_Big.call (abacusref01_Big.f n) ds K = some r) : ∃ rs, K rs = some r ∧ CallD Tryd.prog HW 155 ds rs := by
  unfold abacusref01_Big.call at h
  split at h
  · obtain ⟨x, hx, hk⟩ := Option.bind_eq_some_iff.1 h
    exact ⟨_, hk, abacusref01_Big.ok (n := n) hx⟩
  · cases h
/-! ### abacusref04_put: function 156 -/
noncomputable def abacusref04_put.b0 (a0 : Bool) (a1 : Int) (a2 : Int) : Ω (Int) := (if a0 = true then some (IntKind.u64.wrap ((IntKind.u64.wrap ((IntKind.u64.wrap ((IntKind.u64.wrap a1) * 4503599627370496)) + a2)) + 9223372036854775808)) else some (IntKind.u64.wrap ((IntKind.u64.wrap ((IntKind.u64.wrap a1) * 4503599627370496)) + a2)))
noncomputable def abacusref04_put.f (a0 : Bool) (a1 : Int) (a2 : Int) : Ω (Int) := abacusref04_put.b0 a0 a1 a2
noncomputable def abacusref04_put.sg : Sig (Int) := s1 (sInt .u64)
noncomputable def abacusref04_put.code : Code := (Tryd.f156.body).getD .skip
noncomputable def abacusref04_put.cfg : Cfg (Int) := { T := tys, call := noCall }
noncomputable def abacusref04_put.cuts : List (Nat × List (Nat × Want)) := []
theorem abacusref04_put.e0 (n : Nat) (J : Nat→(ASt→Ω (Int))→ASt→Ω (Int)) (a0 : Bool) (a1 : Int) (a2 : Int) : afun (abacusref04_put.cfg) J abacusref04_put.cuts n abacusref04_put.code Tryd.f156.results.toList [false] [.bool a0, .int .i64 a1, .int .u64 a2] abacusref04_put.sg.out = abacusref04_put.b0 a0 a1 a2 := by kernel_rfl
theorem abacusref04_put.eq (n : Nat) (a0 : Bool) (a1 : Int) (a2 : Int) : afun (abacusref04_put.cfg) idJ abacusref04_put.cuts n abacusref04_put.code Tryd.f156.results.toList [false] [.bool a0, .int .i64 a1, .int .u64 a2] abacusref04_put.sg.out = abacusref04_put.f a0 a1 a2 := (abacusref04_put.e0 n idJ a0 a1 a2).trans (rfl)
theorem abacusref04_put.ok {n : Nat} {a0 : Bool} {a1 : Int} {a2 : Int} {r : Int} (h : abacusref04_put.f a0 a1 a2 = some r) : CallD Tryd.prog HW 156 [.bool a0, .int .i64 a1, .int .u64 a2] (abacusref04_put.sg.enc r) :=
  fun_some hwS Tryd.func156 (by kernel_rfl) (body := abacusref04_put.code) (by kernel_rfl) tys_ok (c := abacusref04_put.cfg) noCall_ok noW_ok (by kernel_rfl) (by kernel_rfl) (Nat.le_of_ble_eq_true (by kernel_rfl)) ((abacusref04_put.eq n a0 a1 a2).trans h)
noncomputable def abacusref04_put.call {α : Type} (g : Bool→Int→Int→Ω (Int)) (ds : List D) (K : List D→Ω α) : Ω α := match ds with
  | [.bool a0, .int .i64 a1, .int .u64 a2] => (g a0 a1 a2).bind fun r => K (abacusref04_put.sg.enc r)
  | _ => none
theorem abacusref04_put.call_ok {α : Type} {n : Nat} (ds : List D) (K : List D→Ω α) (r : α) (h : abacusref04_put.call abacusref04_put.f ds K = some r) : ∃ rs, K rs = some r ∧ CallD Tryd.prog HW 156 ds rs := by
  unfold abacusref04_put.call at h
  split at h
  · obtain ⟨x, hx, hk⟩ := Option.bind_eq_some_iff.1 h
    exact ⟨_, hk, abacusref04_put.ok (n := n) hx⟩
  · cases h
/-! ### abacusref01_Lift: function 69 -/
noncomputable def abacusref01_Lift.b0 (c153 : Λ→Ω (Λ)) (c154 : Λ→Ω (Λ)) (k501 : Int→Λ→Int→Λ→Ω (Λ)) (l0 : Λ) (a1 : Int) : Ω (Λ) := ((c153 l0).bind fun t1 => (if (ln t1) = 0 then some ([] : Λ) else (if 0 ≤ (wrap64 ((wrap64 ((wrap64 (Int.tdiv a1 32)) + (ln t1))) + 1)) then (if (wrap64 ((wrap64 ((wrap64 (Int.tdiv a1 32)) + (ln t1))) + 1)).toNat ≤ 35184372088832 then k501 a1 t1 0 (List.replicate 0 (0 : Int)) else none) else none)))
noncomputable def abacusref01_Lift.b63 (c153 : Λ→Ω (Λ)) (c154 : Λ→Ω (Λ)) (k2037 : Int→Λ→Int→Int→Λ→Ω (Λ)) (x0 : Int) (x1 : Λ) (x2 : Λ) : Ω (Λ) := k2037 x0 x1 1 0 x2
noncomputable def abacusref01_Lift.b255 (c153 : Λ→Ω (Λ)) (c154 : Λ→Ω (Λ)) (k8181 : Λ→Int→Int→Int→Λ→Ω (Λ)) (x0 : Λ) (x1 : Int) (x2 : Λ) : Ω (Λ) := k8181 x0 x1 0 0 x2
noncomputable def abacusref01_Lift.b501 (c153 : Λ→Ω (Λ)) (c154 : Λ→Ω (Λ)) (k63 : Int→Λ→Λ→Ω (Λ)) (k501 : Int→Λ→Int→Λ→Ω (Λ)) (x0 : Int) (x1 : Λ) (x2 : Int) (x3 : Λ) : Ω (Λ) := (if x2 < (wrap64 (Int.tdiv x0 32)) then (if x3.length + 1 ≤ 17592186044416 then k501 x0 x1 (wrap64 (x2 + 1)) (x3 ++ [0]) else none) else k63 x0 x1 x3)
noncomputable def abacusref01_Lift.b1023 (c153 : Λ→Ω (Λ)) (c154 : Λ→Ω (Λ)) (x0 : Int) (x1 : Λ) : Ω (Λ) := (if x1.length + 1 ≤ 17592186044416 then ((c154 (x1 ++ [x0])).bind fun t1 => some t1) else none)
noncomputable def abacusref01_Lift.b2037 (c153 : Λ→Ω (Λ)) (c154 : Λ→Ω (Λ)) (k255 : Λ→Int→Λ→Ω (Λ)) (k2037 : Int→Λ→Int→Int→Λ→Ω (Λ)) (x0 : Int) (x1 : Λ) (x2 : Int) (x3 : Int) (x4 : Λ) : Ω (Λ) := (if x3 < (Int.tmod x0 32) then k2037 x0 x1 (IntKind.u64.wrap (x2 * 2)) (wrap64 (x3 + 1)) x4 else k255 x1 x2 x4)
noncomputable def abacusref01_Lift.b8181 (c153 : Λ→Ω (Λ)) (c154 : Λ→Ω (Λ)) (k1023 : Int→Λ→Ω (Λ)) (k8181 : Λ→Int→Int→Int→Λ→Ω (Λ)) (x0 : Λ) (x1 : Int) (x2 : Int) (x3 : Int) (x4 : Λ) : Ω (Λ) := (if x3 < (ln x0) then (if 0 ≤ x3 then (if x3 < (ln x0) then (if x4.length + 1 ≤ 17592186044416 then k8181 x0 x1 ((IntKind.u64.wrap ((IntKind.u64.wrap ((rd x0 x3) * x1)) + x2)) / 4294967296) (wrap64 (x3 + 1)) (x4 ++ [Go.bits .and .u64 (IntKind.u64.wrap ((IntKind.u64.wrap ((rd x0 x3) * x1)) + x2)) 4294967295]) else none) else none) else none) else k1023 x2 x4)
noncomputable def abacusref01_Lift.l1023 (n : Nat) (x0 : Int) (x1 : Λ) : Ω (Λ) := abacusref01_Lift.b1023 (abacusref01_halves.f n) (abacusref01_limbs.f n) x0 x1
noncomputable def abacusref01_Lift.l8181 (n : Nat) : Nat→Λ→Int→Int→Int→Λ→Ω (Λ)
  | 0, _, _, _, _, _ => none
  | m + 1, x0, x1, x2, x3, x4 => abacusref01_Lift.b8181 (abacusref01_halves.f n) (abacusref01_limbs.f n) (abacusref01_Lift.l1023 n) (abacusref01_Lift.l8181 n m) x0 x1 x2 x3 x4
noncomputable def abacusref01_Lift.l255 (n : Nat) (x0 : Λ) (x1 : Int) (x2 : Λ) : Ω (Λ) := abacusref01_Lift.b255 (abacusref01_halves.f n) (abacusref01_limbs.f n) (abacusref01_Lift.l8181 n n) x0 x1 x2
noncomputable def abacusref01_Lift.l2037 (n : Nat) : Nat→Int→Λ→Int→Int→Λ→Ω (Λ)
  | 0, _, _, _, _, _ => none
  | m + 1, x0, x1, x2, x3, x4 => abacusref01_Lift.b2037 (abacusref01_halves.f n) (abacusref01_limbs.f n) (abacusref01_Lift.l255 n) (abacusref01_Lift.l2037 n m) x0 x1 x2 x3 x4
noncomputable def abacusref01_Lift.l63 (n : Nat) (x0 : Int) (x1 : Λ) (x2 : Λ) : Ω (Λ) := abacusref01_Lift.b63 (abacusref01_halves.f n) (abacusref01_limbs.f n) (abacusref01_Lift.l2037 n n) x0 x1 x2
noncomputable def abacusref01_Lift.l501 (n : Nat) : Nat→Int→Λ→Int→Λ→Ω (Λ)
  | 0, _, _, _, _ => none
  | m + 1, x0, x1, x2, x3 => abacusref01_Lift.b501 (abacusref01_halves.f n) (abacusref01_limbs.f n) (abacusref01_Lift.l63 n) (abacusref01_Lift.l501 n m) x0 x1 x2 x3
noncomputable def abacusref01_Lift.f (n : Nat) (l0 : Λ) (a1 : Int) : Ω (Λ) := abacusref01_Lift.b0 (abacusref01_halves.f n) (abacusref01_limbs.f n) (abacusref01_Lift.l501 n n) l0 a1
noncomputable def abacusref01_Lift.sg : Sig (Λ) := s1 (sOwn 22 .u64)
noncomputable def abacusref01_Lift.code : Code := (Tryd.f69.body).getD .skip
noncomputable def abacusref01_Lift.cfg (c153 : Λ→Ω (Λ)) (c154 : Λ→Ω (Λ)) : Cfg (Λ) := { T := tys, call := orCall 153 (abacusref01_halves.call c153) (orCall 154 (abacusref01_limbs.call c154) (noCall)) }
noncomputable def abacusref01_Lift.cuts : List (Nat × List (Nat × Want)) := [(63, [(1, .keep), (5, .keep), (6, .keep)]), (255, [(5, .keep), (6, .keep), (8, .keep)]), (501, [(1, .keep), (5, .keep), (6, .keep), (7, .keep)]), (1023, [(6, .keep), (10, .keep)]), (2037, [(1, .keep), (5, .keep), (6, .keep), (8, .keep), (9, .keep)]), (8181, [(5, .keep), (6, .keep), (8, .keep), (10, .keep), (11, .keep)])]
noncomputable def abacusref01_Lift.s63 (x0 : Int) (x1 : Λ) (x2 : Λ) : ASt := ⟨[(1, .int .i64 x0), (5, .ro .u64 x1), (6, .own 0)], [.ints 22 .u64 x2]⟩
noncomputable def abacusref01_Lift.s255 (x0 : Λ) (x1 : Int) (x2 : Λ) : ASt := ⟨[(5, .ro .u64 x0), (6, .own 0), (8, .int .u64 x1)], [.ints 22 .u64 x2]⟩
noncomputable def abacusref01_Lift.s501 (x0 : Int) (x1 : Λ) (x2 : Int) (x3 : Λ) : ASt := ⟨[(1, .int .i64 x0), (5, .ro .u64 x1), (6, .own 0), (7, .int .i64 x2)], [.ints 22 .u64 x3]⟩
noncomputable def abacusref01_Lift.s1023 (x0 : Int) (x1 : Λ) : ASt := ⟨[(6, .own 0), (10, .int .u64 x0)], [.ints 22 .u64 x1]⟩
noncomputable def abacusref01_Lift.s2037 (x0 : Int) (x1 : Λ) (x2 : Int) (x3 : Int) (x4 : Λ) : ASt := ⟨[(1, .int .i64 x0), (5, .ro .u64 x1), (6, .own 0), (8, .int .u64 x2), (9, .int .i64 x3)], [.ints 22 .u64 x4]⟩
noncomputable def abacusref01_Lift.s8181 (x0 : Λ) (x1 : Int) (x2 : Int) (x3 : Int) (x4 : Λ) : ASt := ⟨[(5, .ro .u64 x0), (6, .own 0), (8, .int .u64 x1), (10, .int .u64 x2), (11, .int .i64 x3)], [.ints 22 .u64 x4]⟩
noncomputable def abacusref01_Lift.A (c153 : Λ→Ω (Λ)) (c154 : Λ→Ω (Λ)) (n : Nat) (J : Nat→(ASt→Ω (Λ))→ASt→Ω (Λ)) (q : Nat) (ms : List Nat) : ASt→Ω (Λ) := acont (abacusref01_Lift.cfg c153 c154) J abacusref01_Lift.cuts n q abacusref01_Lift.code 1 ms (aend (abacusref01_Lift.cfg c153 c154) Tryd.f69.results.toList [true] abacusref01_Lift.sg.out)
theorem abacusref01_Lift.e0 (c153 : Λ→Ω (Λ)) (c154 : Λ→Ω (Λ)) (n : Nat) (J : Nat→(ASt→Ω (Λ))→ASt→Ω (Λ)) (l0 : Λ) (a1 : Int) : afun (abacusref01_Lift.cfg c153 c154) J abacusref01_Lift.cuts n abacusref01_Lift.code Tryd.f69.results.toList [true] [.ro .u64 l0, .int .i64 a1] abacusref01_Lift.sg.out = abacusref01_Lift.b0 c153 c154 (fun y0 y1 y2 y3 => J 501 (abacusref01_Lift.A c153 c154 n J 501 [n]) (abacusref01_Lift.s501 y0 y1 y2 y3)) l0 a1 := by kernel_rfl
theorem abacusref01_Lift.e63 (c153 : Λ→Ω (Λ)) (c154 : Λ→Ω (Λ)) (n : Nat) (J : Nat→(ASt→Ω (Λ))→ASt→Ω (Λ)) (x0 : Int) (x1 : Λ) (x2 : Λ) : abacusref01_Lift.A c153 c154 n J 63 [] (abacusref01_Lift.s63 x0 x1 x2) = abacusref01_Lift.b63 c153 c154 (fun y0 y1 y2 y3 y4 => J 2037 (abacusref01_Lift.A c153 c154 n J 2037 [n]) (abacusref01_Lift.s2037 y0 y1 y2 y3 y4)) x0 x1 x2 := by kernel_rfl
theorem abacusref01_Lift.e255 (c153 : Λ→Ω (Λ)) (c154 : Λ→Ω (Λ)) (n : Nat) (J : Nat→(ASt→Ω (Λ))→ASt→Ω (Λ)) (x0 : Λ) (x1 : Int) (x2 : Λ) : abacusref01_Lift.A c153 c154 n J 255 [] (abacusref01_Lift.s255 x0 x1 x2) = abacusref01_Lift.b255 c153 c154 (fun y0 y1 y2 y3 y4 => J 8181 (abacusref01_Lift.A c153 c154 n J 8181 [n]) (abacusref01_Lift.s8181 y0 y1 y2 y3 y4)) x0 x1 x2 := by kernel_rfl
theorem abacusref01_Lift.e501 (c153 : Λ→Ω (Λ)) (c154 : Λ→Ω (Λ)) (n : Nat) (J : Nat→(ASt→Ω (Λ))→ASt→Ω (Λ)) (m : Nat) (x0 : Int) (x1 : Λ) (x2 : Int) (x3 : Λ) : abacusref01_Lift.A c153 c154 n J 501 [m + 1] (abacusref01_Lift.s501 x0 x1 x2 x3) = abacusref01_Lift.b501 c153 c154 (fun y0 y1 y2 => J 63 (abacusref01_Lift.A c153 c154 n J 63 []) (abacusref01_Lift.s63 y0 y1 y2)) (fun y0 y1 y2 y3 => J 501 (abacusref01_Lift.A c153 c154 n J 501 [m]) (abacusref01_Lift.s501 y0 y1 y2 y3)) x0 x1 x2 x3 := by kernel_rfl
theorem abacusref01_Lift.e1023 (c153 : Λ→Ω (Λ)) (c154 : Λ→Ω (Λ)) (n : Nat) (J : Nat→(ASt→Ω (Λ))→ASt→Ω (Λ)) (x0 : Int) (x1 : Λ) : abacusref01_Lift.A c153 c154 n J 1023 [] (abacusref01_Lift.s1023 x0 x1) = abacusref01_Lift.b1023 c153 c154 x0 x1 := by kernel_rfl
theorem abacusref01_Lift.e2037 (c153 : Λ→Ω (Λ)) (c154 : Λ→Ω (Λ)) (n : Nat) (J : Nat→(ASt→Ω (Λ))→ASt→Ω (Λ)) (m : Nat) (x0 : Int) (x1 : Λ) (x2 : Int) (x3 : Int) (x4 : Λ) : abacusref01_Lift.A c153 c154 n J 2037 [m + 1] (abacusref01_Lift.s2037 x0 x1 x2 x3 x4) = abacusref01_Lift.b2037 c153 c154 (fun y0 y1 y2 => J 255 (abacusref01_Lift.A c153 c154 n J 255 []) (abacusref01_Lift.s255 y0 y1 y2)) (fun y0 y1 y2 y3 y4 => J 2037 (abacusref01_Lift.A c153 c154 n J 2037 [m]) (abacusref01_Lift.s2037 y0 y1 y2 y3 y4)) x0 x1 x2 x3 x4 := by kernel_rfl
theorem abacusref01_Lift.e8181 (c153 : Λ→Ω (Λ)) (c154 : Λ→Ω (Λ)) (n : Nat) (J : Nat→(ASt→Ω (Λ))→ASt→Ω (Λ)) (m : Nat) (x0 : Λ) (x1 : Int) (x2 : Int) (x3 : Int) (x4 : Λ) : abacusref01_Lift.A c153 c154 n J 8181 [m + 1] (abacusref01_Lift.s8181 x0 x1 x2 x3 x4) = abacusref01_Lift.b8181 c153 c154 (fun y0 y1 => J 1023 (abacusref01_Lift.A c153 c154 n J 1023 []) (abacusref01_Lift.s1023 y0 y1)) (fun y0 y1 y2 y3 y4 => J 8181 (abacusref01_Lift.A c153 c154 n J 8181 [m]) (abacusref01_Lift.s8181 y0 y1 y2 y3 y4)) x0 x1 x2 x3 x4 := by kernel_rfl
theorem abacusref01_Lift.q1023 (n : Nat) (x0 : Int) (x1 : Λ) : abacusref01_Lift.A (abacusref01_halves.f n) (abacusref01_limbs.f n) n idJ 1023 [] (abacusref01_Lift.s1023 x0 x1) = abacusref01_Lift.l1023 n x0 x1 := (abacusref01_Lift.e1023 (abacusref01_halves.f n) (abacusref01_limbs.f n) n idJ x0 x1).trans (rfl)
theorem abacusref01_Lift.q8181 (n : Nat) (m : Nat) : ∀ (x0 : Λ) (x1 : Int) (x2 : Int) (x3 : Int) (x4 : Λ), abacusref01_Lift.A (abacusref01_halves.f n) (abacusref01_limbs.f n) n idJ 8181 [m] (abacusref01_Lift.s8181 x0 x1 x2 x3 x4) = abacusref01_Lift.l8181 n m x0 x1 x2 x3 x4 := by
  induction m with
  | zero => intros; rfl
  | succ m ih =>
    intro x0 x1 x2 x3 x4
    refine (abacusref01_Lift.e8181 (abacusref01_halves.f n) (abacusref01_limbs.f n) n idJ m x0 x1 x2 x3 x4).trans ?_
    exact congrFun (congrFun (congrFun (congrFun (congrFun (congr (congrArg (abacusref01_Lift.b8181 (abacusref01_halves.f n) (abacusref01_limbs.f n)) (funext fun y0 => (funext fun y1 => abacusref01_Lift.q1023 n y0 y1))) (funext fun y0 => (funext fun y1 => (funext fun y2 => (funext fun y3 => (funext fun y4 => ih y0 y1 y2 y3 y4)))))) x0) x1) x2) x3) x4
theorem abacusref01_Lift.q255 (n : Nat) (x0 : Λ) (x1 : Int) (x2 : Λ) : abacusref01_Lift.A (abacusref01_halves.f n) (abacusref01_limbs.f n) n idJ 255 [] (abacusref01_Lift.s255 x0 x1 x2) = abacusref01_Lift.l255 n x0 x1 x2 := (abacusref01_Lift.e255 (abacusref01_halves.f n) (abacusref01_limbs.f n) n idJ x0 x1 x2).trans (congrFun (congrFun (congrFun (congrArg (abacusref01_Lift.b255 (abacusref01_halves.f n) (abacusref01_limbs.f n)) (funext fun y0 => (funext fun y1 => (funext fun y2 => (funext fun y3 => (funext fun y4 => abacusref01_Lift.q8181 n n y0 y1 y2 y3 y4)))))) x0) x1) x2)
theorem abacusref01_Lift.q2037 (n : Nat) (m : Nat) : ∀ (x0 : Int) (x1 : Λ) (x2 : Int) (x3 : Int) (x4 : Λ), abacusref01_Lift.A (abacusref01_halves.f n) (abacusref01_limbs.f n) n idJ 2037 [m] (abacusref01_Lift.s2037 x0 x1 x2 x3 x4) = abacusref01_Lift.l2037 n m x0 x1 x2 x3 x4 := by
  induction m with
  | zero => intros; rfl
  | succ m ih =>
    intro x0 x1 x2 x3 x4
    refine (abacusref01_Lift.e2037 (abacusref01_halves.f n) (abacusref01_limbs.f n) n idJ m x0 x1 x2 x3 x4).trans ?_
    exact congrFun (congrFun (congrFun (congrFun (congrFun (congr (congrArg (abacusref01_Lift.b2037 (abacusref01_halves.f n) (abacusref01_limbs.f n)) (funext fun y0 => (funext fun y1 => (funext fun y2 => abacusref01_Lift.q255 n y0 y1 y2)))) (funext fun y0 => (funext fun y1 => (funext fun y2 => (funext fun y3 => (funext fun y4 => ih y0 y1 y2 y3 y4)))))) x0) x1) x2) x3) x4
theorem abacusref01_Lift.q63 (n : Nat) (x0 : Int) (x1 : Λ) (x2 : Λ) : abacusref01_Lift.A (abacusref01_halves.f n) (abacusref01_limbs.f n) n idJ 63 [] (abacusref01_Lift.s63 x0 x1 x2) = abacusref01_Lift.l63 n x0 x1 x2 := (abacusref01_Lift.e63 (abacusref01_halves.f n) (abacusref01_limbs.f n) n idJ x0 x1 x2).trans (congrFun (congrFun (congrFun (congrArg (abacusref01_Lift.b63 (abacusref01_halves.f n) (abacusref01_limbs.f n)) (funext fun y0 => (funext fun y1 => (funext fun y2 => (funext fun y3 => (funext fun y4 => abacusref01_Lift.q2037 n n y0 y1 y2 y3 y4)))))) x0) x1) x2)
theorem abacusref01_Lift.q501 (n : Nat) (m : Nat) : ∀ (x0 : Int) (x1 : Λ) (x2 : Int) (x3 : Λ), abacusref01_Lift.A (abacusref01_halves.f n) (abacusref01_limbs.f n) n idJ 501 [m] (abacusref01_Lift.s501 x0 x1 x2 x3) = abacusref01_Lift.l501 n m x0 x1 x2 x3 := by
  induction m with
  | zero => intros; rfl
  | succ m ih =>
    intro x0 x1 x2 x3
    refine (abacusref01_Lift.e501 (abacusref01_halves.f n) (abacusref01_limbs.f n) n idJ m x0 x1 x2 x3).trans ?_
    exact congrFun (congrFun (congrFun (congrFun (congr (congrArg (abacusref01_Lift.b501 (abacusref01_halves.f n) (abacusref01_limbs.f n)) (funext fun y0 => (funext fun y1 => (funext fun y2 => abacusref01_Lift.q63 n y0 y1 y2)))) (funext fun y0 => (funext fun y1 => (funext fun y2 => (funext fun y3 => ih y0 y1 y2 y3))))) x0) x1) x2) x3
theorem abacusref01_Lift.eq (n : Nat) (l0 : Λ) (a1 : Int) : afun (abacusref01_Lift.cfg (abacusref01_halves.f n) (abacusref01_limbs.f n)) idJ abacusref01_Lift.cuts n abacusref01_Lift.code Tryd.f69.results.toList [true] [.ro .u64 l0, .int .i64 a1] abacusref01_Lift.sg.out = abacusref01_Lift.f n l0 a1 := (abacusref01_Lift.e0 (abacusref01_halves.f n) (abacusref01_limbs.f n) n idJ l0 a1).trans (congrFun (congrFun (congrArg (abacusref01_Lift.b0 (abacusref01_halves.f n) (abacusref01_limbs.f n)) (funext fun y0 => (funext fun y1 => (funext fun y2 => (funext fun y3 => abacusref01_Lift.q501 n n y0 y1 y2 y3))))) l0) a1)
theorem abacusref01_Lift.ok {n : Nat} {l0 : Λ} {a1 : Int} {r : Λ} (h : abacusref01_Lift.f n l0 a1 = some r) : CallD Tryd.prog HW 69 [.ro .u64 l0, .int .i64 a1] (abacusref01_Lift.sg.enc r) :=
  fun_some hwS Tryd.func69 (by kernel_rfl) (body := abacusref01_Lift.code) (by kernel_rfl) tys_ok (c := abacusref01_Lift.cfg (abacusref01_halves.f n) (abacusref01_limbs.f n)) (orCall_ok (abacusref01_halves.call_ok (n := n)) (orCall_ok (abacusref01_limbs.call_ok (n := n)) noCall_ok)) noW_ok (by kernel_rfl) (by kernel_rfl) (Nat.le_of_ble_eq_true (by kernel_rfl)) ((abacusref01_Lift.eq n l0 a1).trans h)
noncomputable def abacusref01_Lift.call {α : Type} (g : Λ→Int→Ω (Λ)) (ds : List D) (K : List D→Ω α) : Ω α := match ds with
  | [.ro .u64 l0, .int .i64 a1] => (g l0 a1).bind fun r => K (abacusref01_Lift.sg.enc r)
  | _ => none
theorem abacusref01_Lift.call_ok {α : Type} {n : Nat} (ds : List D) (K : List D→Ω α) (r : α) (h : abacusref01_Lift.call (abacusref01_Lift.f n) ds K = some r) : ∃ rs, K rs = some r ∧ CallD Tryd.prog HW 69 ds rs := by
  unfold abacusref01_Lift.call at h
  split at h
  · obtain ⟨x, hx, hk⟩ := Option.bind_eq_some_iff.1 h
    exact ⟨_, hk, abacusref01_Lift.ok (n := n) hx⟩
  · cases h
/-! ### abacusref01_Cmp: function 107 -/
noncomputable def abacusref01_Cmp.b0 (c161 : Λ→Ω (Int)) (k1013 : Λ→Λ→Int→Ω (Int)) (l0 : Λ) (l1 : Λ) : Ω (Int) := ((c161 l0).bind fun t1 => ((c161 l1).bind fun t2 => (if t1 < t2 then some (-1) else (if t1 > t2 then some 1 else k1013 l0 l1 (wrap64 (t2 - 1))))))
noncomputable def abacusref01_Cmp.b1013 (c161 : Λ→Ω (Int)) (k1013 : Λ→Λ→Int→Ω (Int)) (x0 : Λ) (x1 : Λ) (x2 : Int) : Ω (Int) := (if x2 ≥ 0 then (if 0 ≤ x2 then (if x2 < (ln x0) then (if 0 ≤ x2 then (if x2 < (ln x1) then (if (rd x0 x2) < (rd x1 x2) then some (-1) else (if 0 ≤ x2 then (if x2 < (ln x0) then (if 0 ≤ x2 then (if x2 < (ln x1) then (if (rd x0 x2) > (rd x1 x2) then some 1 else k1013 x0 x1 (wrap64 (x2 - 1))) else none) else none) else none) else none)) else none) else none) else none) else none) else some 0)
noncomputable def abacusref01_Cmp.l1013 (n : Nat) : Nat→Λ→Λ→Int→Ω (Int)
  | 0, _, _, _ => none
  | m + 1, x0, x1, x2 => abacusref01_Cmp.b1013 (abacusref01_Size.f n) (abacusref01_Cmp.l1013 n m) x0 x1 x2
noncomputable def abacusref01_Cmp.f (n : Nat) (l0 : Λ) (l1 : Λ) : Ω (Int) := abacusref01_Cmp.b0 (abacusref01_Size.f n) (abacusref01_Cmp.l1013 n n) l0 l1
noncomputable def abacusref01_Cmp.sg : Sig (Int) := s1 (sInt .i64)
noncomputable def abacusref01_Cmp.code : Code := (Tryd.f107.body).getD .skip
noncomputable def abacusref01_Cmp.cfg (c161 : Λ→Ω (Int)) : Cfg (Int) := { T := tys, call := orCall 161 (abacusref01_Size.call c161) (noCall) }
noncomputable def abacusref01_Cmp.cuts : List (Nat × List (Nat × Want)) := [(1013, [(0, .keep), (1, .keep), (7, .keep)])]
noncomputable def abacusref01_Cmp.s1013 (x0 : Λ) (x1 : Λ) (x2 : Int) : ASt := ⟨[(0, .ro .u64 x0), (1, .ro .u64 x1), (7, .int .i64 x2)], []⟩
noncomputable def abacusref01_Cmp.A (c161 : Λ→Ω (Int)) (n : Nat) (J : Nat→(ASt→Ω (Int))→ASt→Ω (Int)) (q : Nat) (ms : List Nat) : ASt→Ω (Int) := acont (abacusref01_Cmp.cfg c161) J abacusref01_Cmp.cuts n q abacusref01_Cmp.code 1 ms (aend (abacusref01_Cmp.cfg c161) Tryd.f107.results.toList [false] abacusref01_Cmp.sg.out)
theorem abacusref01_Cmp.e0 (c161 : Λ→Ω (Int)) (n : Nat) (J : Nat→(ASt→Ω (Int))→ASt→Ω (Int)) (l0 : Λ) (l1 : Λ) : afun (abacusref01_Cmp.cfg c161) J abacusref01_Cmp.cuts n abacusref01_Cmp.code Tryd.f107.results.toList [false] [.ro .u64 l0, .ro .u64 l1] abacusref01_Cmp.sg.out = abacusref01_Cmp.b0 c161 (fun y0 y1 y2 => J 1013 (abacusref01_Cmp.A c161 n J 1013 [n]) (abacusref01_Cmp.s1013 y0 y1 y2)) l0 l1 := by kernel_rfl
theorem abacusref01_Cmp.e1013 (c161 : Λ→Ω (Int)) (n : Nat) (J : Nat→(ASt→Ω (Int))→ASt→Ω (Int)) (m : Nat) (x0 : Λ) (x1 : Λ) (x2 : Int) : abacusref01_Cmp.A c161 n J 1013 [m + 1] (abacusref01_Cmp.s1013 x0 x1 x2) = abacusref01_Cmp.b1013 c161 (fun y0 y1 y2 => J 1013 (abacusref01_Cmp.A c161 n J 1013 [m]) (abacusref01_Cmp.s1013 y0 y1 y2)) x0 x1 x2 := by kernel_rfl
theorem abacusref01_Cmp.q1013 (n : Nat) (m : Nat) : ∀ (x0 : Λ) (x1 : Λ) (x2 : Int), abacusref01_Cmp.A (abacusref01_Size.f n) n idJ 1013 [m] (abacusref01_Cmp.s1013 x0 x1 x2) = abacusref01_Cmp.l1013 n m x0 x1 x2 := by
  induction m with
  | zero => intros; rfl
  | succ m ih =>
    intro x0 x1 x2
    refine (abacusref01_Cmp.e1013 (abacusref01_Size.f n) n idJ m x0 x1 x2).trans ?_
    exact congrFun (congrFun (congrFun (congrArg (abacusref01_Cmp.b1013 (abacusref01_Size.f n)) (funext fun y0 => (funext fun y1 => (funext fun y2 => ih y0 y1 y2)))) x0) x1) x2
theorem abacusref01_Cmp.eq (n : Nat) (l0 : Λ) (l1 : Λ) : afun (abacusref01_Cmp.cfg (abacusref01_Size.f n)) idJ abacusref01_Cmp.cuts n abacusref01_Cmp.code Tryd.f107.results.toList [false] [.ro .u64 l0, .ro .u64 l1] abacusref01_Cmp.sg.out = abacusref01_Cmp.f n l0 l1 := (abacusref01_Cmp.e0 (abacusref01_Size.f n) n idJ l0 l1).trans (congrFun (congrFun (congrArg (abacusref01_Cmp.b0 (abacusref01_Size.f n)) (funext fun y0 => (funext fun y1 => (funext fun y2 => abacusref01_Cmp.q1013 n n y0 y1 y2)))) l0) l1)
theorem abacusref01_Cmp.ok {n : Nat} {l0 : Λ} {l1 : Λ} {r : Int} (h : abacusref01_Cmp.f n l0 l1 = some r) : CallD Tryd.prog HW 107 [.ro .u64 l0, .ro .u64 l1] (abacusref01_Cmp.sg.enc r) :=
  fun_some hwS Tryd.func107 (by kernel_rfl) (body := abacusref01_Cmp.code) (by kernel_rfl) tys_ok (c := abacusref01_Cmp.cfg (abacusref01_Size.f n)) (orCall_ok (abacusref01_Size.call_ok (n := n)) noCall_ok) noW_ok (by kernel_rfl) (by kernel_rfl) (Nat.le_of_ble_eq_true (by kernel_rfl)) ((abacusref01_Cmp.eq n l0 l1).trans h)
noncomputable def abacusref01_Cmp.call {α : Type} (g : Λ→Λ→Ω (Int)) (ds : List D) (K : List D→Ω α) : Ω α := match ds with
  | [.ro .u64 l0, .ro .u64 l1] => (g l0 l1).bind fun r => K (abacusref01_Cmp.sg.enc r)
  | _ => none
theorem abacusref01_Cmp.call_ok {α : Type} {n : Nat} (ds : List D) (K : List D→Ω α) (r : α) (h : abacusref01_Cmp.call (abacusref01_Cmp.f n) ds K = some r) : ∃ rs, K rs = some r ∧ CallD Tryd.prog HW 107 ds rs := by
  unfold abacusref01_Cmp.call at h
  split at h
  · obtain ⟨x, hx, hk⟩ := Option.bind_eq_some_iff.1 h
    exact ⟨_, hk, abacusref01_Cmp.ok (n := n) hx⟩
  · cases h
/-! ### abacusref04_against: function 162 -/
noncomputable def abacusref04_against.b0 (c69 : Λ→Int→Ω (Λ)) (c107 : Λ→Λ→Ω (Int)) (c147 : Λ→Λ→Ω (Λ)) (k31 : Bool→Λ→Λ→Int→Int→Int→Ω (Int)) (a0 : Int) (a1 : Bool) (l2 : Λ) (l3 : Λ) (a4 : Int) : Ω (Int) := (if a0 ≥ 4503599627370496 then k31 a1 l2 l3 a4 (IntKind.u64.wrap ((Int.tmod a0 4503599627370496) + 4503599627370496)) (wrap64 ((wrap64 (IntKind.u64.wrap (Int.tdiv a0 4503599627370496))) - 1075)) else k31 a1 l2 l3 a4 a0 (-1074))
noncomputable def abacusref04_against.b31 (c69 : Λ→Int→Ω (Λ)) (c107 : Λ→Λ→Ω (Int)) (c147 : Λ→Λ→Ω (Λ)) (k255 : Λ→Λ→Int→Int→Int→Ω (Int)) (x0 : Bool) (x1 : Λ) (x2 : Λ) (x3 : Int) (x4 : Int) (x5 : Int) : Ω (Int) := (if x0 = true then k255 x1 x2 x3 (IntKind.u64.wrap ((IntKind.u64.wrap (2 * x4)) + 1)) (wrap64 (x5 - 1)) else k255 x1 x2 x3 (IntKind.u64.wrap (2 * x4)) (wrap64 (x5 - 1)))
noncomputable def abacusref04_against.b255 (c69 : Λ→Int→Ω (Λ)) (c107 : Λ→Λ→Ω (Int)) (c147 : Λ→Λ→Ω (Λ)) (x0 : Λ) (x1 : Λ) (x2 : Int) (x3 : Int) (x4 : Int) : Ω (Int) := ((c147 x1 [x3]).bind fun t1 => (if x4 ≥ x2 then ((c69 t1 (wrap64 (x4 - x2))).bind fun t2 => ((c107 t2 x0).bind fun t3 => some t3)) else ((c69 x0 (wrap64 (x2 - x4))).bind fun t4 => ((c107 t1 t4).bind fun t5 => some t5))))
noncomputable def abacusref04_against.l255 (n : Nat) (x0 : Λ) (x1 : Λ) (x2 : Int) (x3 : Int) (x4 : Int) : Ω (Int) := abacusref04_against.b255 (abacusref01_Lift.f n) (abacusref01_Cmp.f n) (abacusref01_Times.f n) x0 x1 x2 x3 x4
noncomputable def abacusref04_against.l31 (n : Nat) (x0 : Bool) (x1 : Λ) (x2 : Λ) (x3 : Int) (x4 : Int) (x5 : Int) : Ω (Int) := abacusref04_against.b31 (abacusref01_Lift.f n) (abacusref01_Cmp.f n) (abacusref01_Times.f n) (abacusref04_against.l255 n) x0 x1 x2 x3 x4 x5
noncomputable def abacusref04_against.f (n : Nat) (a0 : Int) (a1 : Bool) (l2 : Λ) (l3 : Λ) (a4 : Int) : Ω (Int) := abacusref04_against.b0 (abacusref01_Lift.f n) (abacusref01_Cmp.f n) (abacusref01_Times.f n) (abacusref04_against.l31 n) a0 a1 l2 l3 a4
noncomputable def abacusref04_against.sg : Sig (Int) := s1 (sInt .i64)
noncomputable def abacusref04_against.code : Code := (Tryd.f162.body).getD .skip
noncomputable def abacusref04_against.cfg (c69 : Λ→Int→Ω (Λ)) (c107 : Λ→Λ→Ω (Int)) (c147 : Λ→Λ→Ω (Λ)) : Cfg (Int) := { T := tys, call := orCall 69 (abacusref01_Lift.call c69) (orCall 107 (abacusref01_Cmp.call c107) (orCall 147 (abacusref01_Times.call c147) (noCall))) }
noncomputable def abacusref04_against.cuts : List (Nat × List (Nat × Want)) := [(31, [(1, .keep), (2, .keep), (3, .keep), (4, .keep), (11, .keep), (12, .keep)]), (255, [(2, .keep), (3, .keep), (4, .keep), (11, .keep), (12, .keep)])]
noncomputable def abacusref04_against.s31 (x0 : Bool) (x1 : Λ) (x2 : Λ) (x3 : Int) (x4 : Int) (x5 : Int) : ASt := ⟨[(1, .bool x0), (2, .ro .u64 x1), (3, .ro .u64 x2), (4, .int .i64 x3), (11, .int .u64 x4), (12, .int .i64 x5)], []⟩
noncomputable def abacusref04_against.s255 (x0 : Λ) (x1 : Λ) (x2 : Int) (x3 : Int) (x4 : Int) : ASt := ⟨[(2, .ro .u64 x0), (3, .ro .u64 x1), (4, .int .i64 x2), (11, .int .u64 x3), (12, .int .i64 x4)], []⟩
noncomputable def abacusref04_against.A (c69 : Λ→Int→Ω (Λ)) (c107 : Λ→Λ→Ω (Int)) (c147 : Λ→Λ→Ω (Λ)) (n : Nat) (J : Nat→(ASt→Ω (Int))→ASt→Ω (Int)) (q : Nat) (ms : List Nat) : ASt→Ω (Int) := acont (abacusref04_against.cfg c69 c107 c147) J abacusref04_against.cuts n q abacusref04_against.code 1 ms (aend (abacusref04_against.cfg c69 c107 c147) Tryd.f162.results.toList [false] abacusref04_against.sg.out)
theorem abacusref04_against.e0 (c69 : Λ→Int→Ω (Λ)) (c107 : Λ→Λ→Ω (Int)) (c147 : Λ→Λ→Ω (Λ)) (n : Nat) (J : Nat→(ASt→Ω (Int))→ASt→Ω (Int)) (a0 : Int) (a1 : Bool) (l2 : Λ) (l3 : Λ) (a4 : Int) : afun (abacusref04_against.cfg c69 c107 c147) J abacusref04_against.cuts n abacusref04_against.code Tryd.f162.results.toList [false] [.int .u64 a0, .bool a1, .ro .u64 l2, .ro .u64 l3, .int .i64 a4] abacusref04_against.sg.out = abacusref04_against.b0 c69 c107 c147 (fun y0 y1 y2 y3 y4 y5 => J 31 (abacusref04_against.A c69 c107 c147 n J 31 []) (abacusref04_against.s31 y0 y1 y2 y3 y4 y5)) a0 a1 l2 l3 a4 := by kernel_rfl
theorem abacusref04_against.e31 (c69 : Λ→Int→Ω (Λ)) (c107 : Λ→Λ→Ω (Int)) (c147 : Λ→Λ→Ω (Λ)) (n : Nat) (J : Nat→(ASt→Ω (Int))→ASt→Ω (Int)) (x0 : Bool) (x1 : Λ) (x2 : Λ) (x3 : Int) (x4 : Int) (x5 : Int) : abacusref04_against.A c69 c107 c147 n J 31 [] (abacusref04_against.s31 x0 x1 x2 x3 x4 x5) = abacusref04_against.b31 c69 c107 c147 (fun y0 y1 y2 y3 y4 => J 255 (abacusref04_against.A c69 c107 c147 n J 255 []) (abacusref04_against.s255 y0 y1 y2 y3 y4)) x0 x1 x2 x3 x4 x5 := by kernel_rfl
theorem abacusref04_against.e255 (c69 : Λ→Int→Ω (Λ)) (c107 : Λ→Λ→Ω (Int)) (c147 : Λ→Λ→Ω (Λ)) (n : Nat) (J : Nat→(ASt→Ω (Int))→ASt→Ω (Int)) (x0 : Λ) (x1 : Λ) (x2 : Int) (x3 : Int) (x4 : Int) : abacusref04_against.A c69 c107 c147 n J 255 [] (abacusref04_against.s255 x0 x1 x2 x3 x4) = abacusref04_against.b255 c69 c107 c147 x0 x1 x2 x3 x4 := by kernel_rfl
theorem abacusref04_against.q255 (n : Nat) (x0 : Λ) (x1 : Λ) (x2 : Int) (x3 : Int) (x4 : Int) : abacusref04_against.A (abacusref01_Lift.f n) (abacusref01_Cmp.f n) (abacusref01_Times.f n) n idJ 255 [] (abacusref04_against.s255 x0 x1 x2 x3 x4) = abacusref04_against.l255 n x0 x1 x2 x3 x4 := (abacusref04_against.e255 (abacusref01_Lift.f n) (abacusref01_Cmp.f n) (abacusref01_Times.f n) n idJ x0 x1 x2 x3 x4).trans (rfl)
theorem abacusref04_against.q31 (n : Nat) (x0 : Bool) (x1 : Λ) (x2 : Λ) (x3 : Int) (x4 : Int) (x5 : Int) : abacusref04_against.A (abacusref01_Lift.f n) (abacusref01_Cmp.f n) (abacusref01_Times.f n) n idJ 31 [] (abacusref04_against.s31 x0 x1 x2 x3 x4 x5) = abacusref04_against.l31 n x0 x1 x2 x3 x4 x5 := (abacusref04_against.e31 (abacusref01_Lift.f n) (abacusref01_Cmp.f n) (abacusref01_Times.f n) n idJ x0 x1 x2 x3 x4 x5).trans (congrFun (congrFun (congrFun (congrFun (congrFun (congrFun (congrArg (abacusref04_against.b31 (abacusref01_Lift.f n) (abacusref01_Cmp.f n) (abacusref01_Times.f n)) (funext fun y0 => (funext fun y1 => (funext fun y2 => (funext fun y3 => (funext fun y4 => abacusref04_against.q255 n y0 y1 y2 y3 y4)))))) x0) x1) x2) x3) x4) x5)
theorem abacusref04_against.eq (n : Nat) (a0 : Int) (a1 : Bool) (l2 : Λ) (l3 : Λ) (a4 : Int) : afun (abacusref04_against.cfg (abacusref01_Lift.f n) (abacusref01_Cmp.f n) (abacusref01_Times.f n)) idJ abacusref04_against.cuts n abacusref04_against.code Tryd.f162.results.toList [false] [.int .u64 a0, .bool a1, .ro .u64 l2, .ro .u64 l3, .int .i64 a4] abacusref04_against.sg.out = abacusref04_against.f n a0 a1 l2 l3 a4 := (abacusref04_against.e0 (abacusref01_Lift.f n) (abacusref01_Cmp.f n) (abacusref01_Times.f n) n idJ a0 a1 l2 l3 a4).trans (congrFun (congrFun (congrFun (congrFun (congrFun (congrArg (abacusref04_against.b0 (abacusref01_Lift.f n) (abacusref01_Cmp.f n) (abacusref01_Times.f n)) (funext fun y0 => (funext fun y1 => (funext fun y2 => (funext fun y3 => (funext fun y4 => (funext fun y5 => abacusref04_against.q31 n y0 y1 y2 y3 y4 y5))))))) a0) a1) l2) l3) a4)
theorem abacusref04_against.ok {n : Nat} {a0 : Int} {a1 : Bool} {l2 : Λ} {l3 : Λ} {a4 : Int} {r : Int} (h : abacusref04_against.f n a0 a1 l2 l3 a4 = some r) : CallD Tryd.prog HW 162 [.int .u64 a0, .bool a1, .ro .u64 l2, .ro .u64 l3, .int .i64 a4] (abacusref04_against.sg.enc r) :=
  fun_some hwS Tryd.func162 (by kernel_rfl) (body := abacusref04_against.code) (by kernel_rfl) tys_ok (c := abacusref04_against.cfg (abacusref01_Lift.f n) (abacusref01_Cmp.f n) (abacusref01_Times.f n)) (orCall_ok (abacusref01_Lift.call_ok (n := n)) (orCall_ok (abacusref01_Cmp.call_ok (n := n)) (orCall_ok (abacusref01_Times.call_ok (n := n)) noCall_ok))) noW_ok (by kernel_rfl) (by kernel_rfl) (Nat.le_of_ble_eq_true (by kernel_rfl)) ((abacusref04_against.eq n a0 a1 l2 l3 a4).trans h)
noncomputable def abacusref04_against.call {α : Type} (g : Int→Bool→Λ→Λ→Int→Ω (Int)) (ds : List D) (K : List D→Ω α) : Ω α := match ds with
  | [.int .u64 a0, .bool a1, .ro .u64 l2, .ro .u64 l3, .int .i64 a4] => (g a0 a1 l2 l3 a4).bind fun r => K (abacusref04_against.sg.enc r)
  | _ => none
theorem abacusref04_against.call_ok {α : Type} {n : Nat} (ds : List D) (K : List D→Ω α) (r : α) (h : abacusref04_against.call (abacusref04_against.f n) ds K = some r) : ∃ rs, K rs = some r ∧ CallD Tryd.prog HW 162 ds rs := by
  unfold abacusref04_against.call at h
  split at h
  · obtain ⟨x, hx, hk⟩ := Option.bind_eq_some_iff.1 h
    exact ⟨_, hk, abacusref04_against.ok (n := n) hx⟩
  · cases h
/-! ### abacusref04_RoundRatio: function 89 -/
noncomputable def abacusref04_RoundRatio.b0 (c155 : Λ→Ω (Bool)) (c156 : Bool→Int→Int→Ω (Int)) (c161 : Λ→Ω (Int)) (c162 : Int→Bool→Λ→Λ→Int→Ω (Int)) (k2041 : Bool→Λ→Λ→Int→Int→Int→Ω (Int × Int)) (a0 : Bool) (l1 : Λ) (l2 : Λ) (a3 : Int) : Ω (Int × Int) := ((c155 l1).bind fun t1 => (if t1 = true then some (0, 2) else ((c155 l2).bind fun t2 => (if t2 = true then some (0, 2) else ((c161 l2).bind fun t3 => (if t3 = 0 then some (0, 4) else ((c161 l1).bind fun t4 => (if t4 = 0 then ((c156 a0 0 0).bind fun t5 => some (t5, 0)) else (if a3 < (-1048576) then ((c156 a0 0 0).bind fun t6 => some (t6, 0)) else (if a3 > 1048576 then ((c156 a0 2047 0).bind fun t7 => some (t7, 0)) else k2041 a0 l1 l2 a3 0 9218868437227405312))))))))))
noncomputable def abacusref04_RoundRatio.b511 (c155 : Λ→Ω (Bool)) (c156 : Bool→Int→Int→Ω (Int)) (c161 : Λ→Ω (Int)) (c162 : Int→Bool→Λ→Λ→Int→Ω (Int)) (k1023 : Bool→Int→Ω (Int × Int)) (x0 : Bool) (x1 : Λ) (x2 : Λ) (x3 : Int) (x4 : Int) : Ω (Int × Int) := (if x4 < 9218868437227405312 then ((c162 x4 true x1 x2 x3).bind fun t1 => (if t1 < 0 then k1023 x0 (IntKind.u64.wrap (x4 + 1)) else (if t1 = 0 then (if (Int.tmod x4 2) = 1 then k1023 x0 (IntKind.u64.wrap (x4 + 1)) else k1023 x0 x4) else k1023 x0 x4))) else k1023 x0 x4)
noncomputable def abacusref04_RoundRatio.b1023 (c155 : Λ→Ω (Bool)) (c156 : Bool→Int→Int→Ω (Int)) (c161 : Λ→Ω (Int)) (c162 : Int→Bool→Λ→Λ→Int→Ω (Int)) (x0 : Bool) (x1 : Int) : Ω (Int × Int) := (if x0 = true then some (IntKind.u64.wrap (x1 + 9223372036854775808), 0) else some (x1, 0))
noncomputable def abacusref04_RoundRatio.b2041 (c155 : Λ→Ω (Bool)) (c156 : Bool→Int→Int→Ω (Int)) (c161 : Λ→Ω (Int)) (c162 : Int→Bool→Λ→Λ→Int→Ω (Int)) (k511 : Bool→Λ→Λ→Int→Int→Ω (Int × Int)) (k2041 : Bool→Λ→Λ→Int→Int→Int→Ω (Int × Int)) (x0 : Bool) (x1 : Λ) (x2 : Λ) (x3 : Int) (x4 : Int) (x5 : Int) : Ω (Int × Int) := (if x4 < x5 then ((c162 (IntKind.u64.wrap (x4 + (IntKind.u64.wrap (Int.tdiv (IntKind.u64.wrap ((IntKind.u64.wrap (x5 - x4)) + 1)) 2)))) false x1 x2 x3).bind fun t1 => (if t1 ≤ 0 then k2041 x0 x1 x2 x3 (IntKind.u64.wrap (x4 + (IntKind.u64.wrap (Int.tdiv (IntKind.u64.wrap ((IntKind.u64.wrap (x5 - x4)) + 1)) 2)))) x5 else k2041 x0 x1 x2 x3 x4 (IntKind.u64.wrap ((IntKind.u64.wrap (x4 + (IntKind.u64.wrap (Int.tdiv (IntKind.u64.wrap ((IntKind.u64.wrap (x5 - x4)) + 1)) 2)))) - 1)))) else k511 x0 x1 x2 x3 x4)
noncomputable def abacusref04_RoundRatio.l1023 (n : Nat) (x0 : Bool) (x1 : Int) : Ω (Int × Int) := abacusref04_RoundRatio.b1023 (abacusref01_Big.f n) abacusref04_put.f (abacusref01_Size.f n) (abacusref04_against.f n) x0 x1
noncomputable def abacusref04_RoundRatio.l511 (n : Nat) (x0 : Bool) (x1 : Λ) (x2 : Λ) (x3 : Int) (x4 : Int) : Ω (Int × Int) := abacusref04_RoundRatio.b511 (abacusref01_Big.f n) abacusref04_put.f (abacusref01_Size.f n) (abacusref04_against.f n) (abacusref04_RoundRatio.l1023 n) x0 x1 x2 x3 x4
noncomputable def abacusref04_RoundRatio.l2041 (n : Nat) : Nat→Bool→Λ→Λ→Int→Int→Int→Ω (Int × Int)
  | 0, _, _, _, _, _, _ => none
  | m + 1, x0, x1, x2, x3, x4, x5 => abacusref04_RoundRatio.b2041 (abacusref01_Big.f n) abacusref04_put.f (abacusref01_Size.f n) (abacusref04_against.f n) (abacusref04_RoundRatio.l511 n) (abacusref04_RoundRatio.l2041 n m) x0 x1 x2 x3 x4 x5
noncomputable def abacusref04_RoundRatio.f (n : Nat) (a0 : Bool) (l1 : Λ) (l2 : Λ) (a3 : Int) : Ω (Int × Int) := abacusref04_RoundRatio.b0 (abacusref01_Big.f n) abacusref04_put.f (abacusref01_Size.f n) (abacusref04_against.f n) (abacusref04_RoundRatio.l2041 n n) a0 l1 l2 a3
noncomputable def abacusref04_RoundRatio.sg : Sig (Int × Int) := s2 (sInt .u64) (s1 (sInt .i64))
noncomputable def abacusref04_RoundRatio.code : Code := (Tryd.f89.body).getD .skip
noncomputable def abacusref04_RoundRatio.cfg (c155 : Λ→Ω (Bool)) (c156 : Bool→Int→Int→Ω (Int)) (c161 : Λ→Ω (Int)) (c162 : Int→Bool→Λ→Λ→Int→Ω (Int)) : Cfg (Int × Int) := { T := tys, call := orCall 155 (abacusref01_Big.call c155) (orCall 156 (abacusref04_put.call c156) (orCall 161 (abacusref01_Size.call c161) (orCall 162 (abacusref04_against.call c162) (noCall)))) }
noncomputable def abacusref04_RoundRatio.cuts : List (Nat × List (Nat × Want)) := [(511, [(0, .keep), (1, .keep), (2, .keep), (3, .keep), (10, .keep)]), (1023, [(0, .keep), (10, .keep)]), (2041, [(0, .keep), (1, .keep), (2, .keep), (3, .keep), (10, .keep), (11, .keep)])]
noncomputable def abacusref04_RoundRatio.s511 (x0 : Bool) (x1 : Λ) (x2 : Λ) (x3 : Int) (x4 : Int) : ASt := ⟨[(0, .bool x0), (1, .ro .u64 x1), (2, .ro .u64 x2), (3, .int .i64 x3), (10, .int .u64 x4)], []⟩
noncomputable def abacusref04_RoundRatio.s1023 (x0 : Bool) (x1 : Int) : ASt := ⟨[(0, .bool x0), (10, .int .u64 x1)], []⟩
noncomputable def abacusref04_RoundRatio.s2041 (x0 : Bool) (x1 : Λ) (x2 : Λ) (x3 : Int) (x4 : Int) (x5 : Int) : ASt := ⟨[(0, .bool x0), (1, .ro .u64 x1), (2, .ro .u64 x2), (3, .int .i64 x3), (10, .int .u64 x4), (11, .int .u64 x5)], []⟩
noncomputable def abacusref04_RoundRatio.A (c155 : Λ→Ω (Bool)) (c156 : Bool→Int→Int→Ω (Int)) (c161 : Λ→Ω (Int)) (c162 : Int→Bool→Λ→Λ→Int→Ω (Int)) (n : Nat) (J : Nat→(ASt→Ω (Int × Int))→ASt→Ω (Int × Int)) (q : Nat) (ms : List Nat) : ASt→Ω (Int × Int) := acont (abacusref04_RoundRatio.cfg c155 c156 c161 c162) J abacusref04_RoundRatio.cuts n q abacusref04_RoundRatio.code 1 ms (aend (abacusref04_RoundRatio.cfg c155 c156 c161 c162) Tryd.f89.results.toList [false, false] abacusref04_RoundRatio.sg.out)
theorem abacusref04_RoundRatio.e0 (c155 : Λ→Ω (Bool)) (c156 : Bool→Int→Int→Ω (Int)) (c161 : Λ→Ω (Int)) (c162 : Int→Bool→Λ→Λ→Int→Ω (Int)) (n : Nat) (J : Nat→(ASt→Ω (Int × Int))→ASt→Ω (Int × Int)) (a0 : Bool) (l1 : Λ) (l2 : Λ) (a3 : Int) : afun (abacusref04_RoundRatio.cfg c155 c156 c161 c162) J abacusref04_RoundRatio.cuts n abacusref04_RoundRatio.code Tryd.f89.results.toList [false, false] [.bool a0, .ro .u64 l1, .ro .u64 l2, .int .i64 a3] abacusref04_RoundRatio.sg.out = abacusref04_RoundRatio.b0 c155 c156 c161 c162 (fun y0 y1 y2 y3 y4 y5 => J 2041 (abacusref04_RoundRatio.A c155 c156 c161 c162 n J 2041 [n]) (abacusref04_RoundRatio.s2041 y0 y1 y2 y3 y4 y5)) a0 l1 l2 a3 := by kernel_rfl
theorem abacusref04_RoundRatio.e511 (c155 : Λ→Ω (Bool)) (c156 : Bool→Int→Int→Ω (Int)) (c161 : Λ→Ω (Int)) (c162 : Int→Bool→Λ→Λ→Int→Ω (Int)) (n : Nat) (J : Nat→(ASt→Ω (Int × Int))→ASt→Ω (Int × Int)) (x0 : Bool) (x1 : Λ) (x2 : Λ) (x3 : Int) (x4 : Int) : abacusref04_RoundRatio.A c155 c156 c161 c162 n J 511 [] (abacusref04_RoundRatio.s511 x0 x1 x2 x3 x4) = abacusref04_RoundRatio.b511 c155 c156 c161 c162 (fun y0 y1 => J 1023 (abacusref04_RoundRatio.A c155 c156 c161 c162 n J 1023 []) (abacusref04_RoundRatio.s1023 y0 y1)) x0 x1 x2 x3 x4 := by kernel_rfl
theorem abacusref04_RoundRatio.e1023 (c155 : Λ→Ω (Bool)) (c156 : Bool→Int→Int→Ω (Int)) (c161 : Λ→Ω (Int)) (c162 : Int→Bool→Λ→Λ→Int→Ω (Int)) (n : Nat) (J : Nat→(ASt→Ω (Int × Int))→ASt→Ω (Int × Int)) (x0 : Bool) (x1 : Int) : abacusref04_RoundRatio.A c155 c156 c161 c162 n J 1023 [] (abacusref04_RoundRatio.s1023 x0 x1) = abacusref04_RoundRatio.b1023 c155 c156 c161 c162 x0 x1 := by kernel_rfl
theorem abacusref04_RoundRatio.e2041 (c155 : Λ→Ω (Bool)) (c156 : Bool→Int→Int→Ω (Int)) (c161 : Λ→Ω (Int)) (c162 : Int→Bool→Λ→Λ→Int→Ω (Int)) (n : Nat) (J : Nat→(ASt→Ω (Int × Int))→ASt→Ω (Int × Int)) (m : Nat) (x0 : Bool) (x1 : Λ) (x2 : Λ) (x3 : Int) (x4 : Int) (x5 : Int) : abacusref04_RoundRatio.A c155 c156 c161 c162 n J 2041 [m + 1] (abacusref04_RoundRatio.s2041 x0 x1 x2 x3 x4 x5) = abacusref04_RoundRatio.b2041 c155 c156 c161 c162 (fun y0 y1 y2 y3 y4 => J 511 (abacusref04_RoundRatio.A c155 c156 c161 c162 n J 511 []) (abacusref04_RoundRatio.s511 y0 y1 y2 y3 y4)) (fun y0 y1 y2 y3 y4 y5 => J 2041 (abacusref04_RoundRatio.A c155 c156 c161 c162 n J 2041 [m]) (abacusref04_RoundRatio.s2041 y0 y1 y2 y3 y4 y5)) x0 x1 x2 x3 x4 x5 := by kernel_rfl
theorem abacusref04_RoundRatio.q1023 (n : Nat) (x0 : Bool) (x1 : Int) : abacusref04_RoundRatio.A (abacusref01_Big.f n) abacusref04_put.f (abacusref01_Size.f n) (abacusref04_against.f n) n idJ 1023 [] (abacusref04_RoundRatio.s1023 x0 x1) = abacusref04_RoundRatio.l1023 n x0 x1 := (abacusref04_RoundRatio.e1023 (abacusref01_Big.f n) abacusref04_put.f (abacusref01_Size.f n) (abacusref04_against.f n) n idJ x0 x1).trans (rfl)
theorem abacusref04_RoundRatio.q511 (n : Nat) (x0 : Bool) (x1 : Λ) (x2 : Λ) (x3 : Int) (x4 : Int) : abacusref04_RoundRatio.A (abacusref01_Big.f n) abacusref04_put.f (abacusref01_Size.f n) (abacusref04_against.f n) n idJ 511 [] (abacusref04_RoundRatio.s511 x0 x1 x2 x3 x4) = abacusref04_RoundRatio.l511 n x0 x1 x2 x3 x4 := (abacusref04_RoundRatio.e511 (abacusref01_Big.f n) abacusref04_put.f (abacusref01_Size.f n) (abacusref04_against.f n) n idJ x0 x1 x2 x3 x4).trans (congrFun (congrFun (congrFun (congrFun (congrFun (congrArg (abacusref04_RoundRatio.b511 (abacusref01_Big.f n) abacusref04_put.f (abacusref01_Size.f n) (abacusref04_against.f n)) (funext fun y0 => (funext fun y1 => abacusref04_RoundRatio.q1023 n y0 y1))) x0) x1) x2) x3) x4)
theorem abacusref04_RoundRatio.q2041 (n : Nat) (m : Nat) : ∀ (x0 : Bool) (x1 : Λ) (x2 : Λ) (x3 : Int) (x4 : Int) (x5 : Int), abacusref04_RoundRatio.A (abacusref01_Big.f n) abacusref04_put.f (abacusref01_Size.f n) (abacusref04_against.f n) n idJ 2041 [m] (abacusref04_RoundRatio.s2041 x0 x1 x2 x3 x4 x5) = abacusref04_RoundRatio.l2041 n m x0 x1 x2 x3 x4 x5 := by
  induction m with
  | zero => intros; rfl
  | succ m ih =>
    intro x0 x1 x2 x3 x4 x5
    refine (abacusref04_RoundRatio.e2041 (abacusref01_Big.f n) abacusref04_put.f (abacusref01_Size.f n) (abacusref04_against.f n) n idJ m x0 x1 x2 x3 x4 x5).trans ?_
    exact congrFun (congrFun (congrFun (congrFun (congrFun (congrFun (congr (congrArg (abacusref04_RoundRatio.b2041 (abacusref01_Big.f n) abacusref04_put.f (abacusref01_Size.f n) (abacusref04_against.f n)) (funext fun y0 => (funext fun y1 => (funext fun y2 => (funext fun y3 => (funext fun y4 => abacusref04_RoundRatio.q511 n y0 y1 y2 y3 y4)))))) (funext fun y0 => (funext fun y1 => (funext fun y2 => (funext fun y3 => (funext fun y4 => (funext fun y5 => ih y0 y1 y2 y3 y4 y5))))))) x0) x1) x2) x3) x4) x5
theorem abacusref04_RoundRatio.eq (n : Nat) (a0 : Bool) (l1 : Λ) (l2 : Λ) (a3 : Int) : afun (abacusref04_RoundRatio.cfg (abacusref01_Big.f n) abacusref04_put.f (abacusref01_Size.f n) (abacusref04_against.f n)) idJ abacusref04_RoundRatio.cuts n abacusref04_RoundRatio.code Tryd.f89.results.toList [false, false] [.bool a0, .ro .u64 l1, .ro .u64 l2, .int .i64 a3] abacusref04_RoundRatio.sg.out = abacusref04_RoundRatio.f n a0 l1 l2 a3 := (abacusref04_RoundRatio.e0 (abacusref01_Big.f n) abacusref04_put.f (abacusref01_Size.f n) (abacusref04_against.f n) n idJ a0 l1 l2 a3).trans (congrFun (congrFun (congrFun (congrFun (congrArg (abacusref04_RoundRatio.b0 (abacusref01_Big.f n) abacusref04_put.f (abacusref01_Size.f n) (abacusref04_against.f n)) (funext fun y0 => (funext fun y1 => (funext fun y2 => (funext fun y3 => (funext fun y4 => (funext fun y5 => abacusref04_RoundRatio.q2041 n n y0 y1 y2 y3 y4 y5))))))) a0) l1) l2) a3)
theorem abacusref04_RoundRatio.ok {n : Nat} {a0 : Bool} {l1 : Λ} {l2 : Λ} {a3 : Int} {r : Int × Int} (h : abacusref04_RoundRatio.f n a0 l1 l2 a3 = some r) : CallD Tryd.prog HW 89 [.bool a0, .ro .u64 l1, .ro .u64 l2, .int .i64 a3] (abacusref04_RoundRatio.sg.enc r) :=
  fun_some hwS Tryd.func89 (by kernel_rfl) (body := abacusref04_RoundRatio.code) (by kernel_rfl) tys_ok (c := abacusref04_RoundRatio.cfg (abacusref01_Big.f n) abacusref04_put.f (abacusref01_Size.f n) (abacusref04_against.f n)) (orCall_ok (abacusref01_Big.call_ok (n := n)) (orCall_ok (abacusref04_put.call_ok (n := n)) (orCall_ok (abacusref01_Size.call_ok (n := n)) (orCall_ok (abacusref04_against.call_ok (n := n)) noCall_ok)))) noW_ok (by kernel_rfl) (by kernel_rfl) (Nat.le_of_ble_eq_true (by kernel_rfl)) ((abacusref04_RoundRatio.eq n a0 l1 l2 a3).trans h)
noncomputable def abacusref04_RoundRatio.call {α : Type} (g : Bool→Λ→Λ→Int→Ω (Int × Int)) (ds : List D) (K : List D→Ω α) : Ω α := match ds with
  | [.bool a0, .ro .u64 l1, .ro .u64 l2, .int .i64 a3] => (g a0 l1 l2 a3).bind fun r => K (abacusref04_RoundRatio.sg.enc r)
  | _ => none
theorem abacusref04_RoundRatio.call_ok {α : Type} {n : Nat} (ds : List D) (K : List D→Ω α) (r : α) (h : abacusref04_RoundRatio.call (abacusref04_RoundRatio.f n) ds K = some r) : ∃ rs, K rs = some r ∧ CallD Tryd.prog HW 89 ds rs := by
  unfold abacusref04_RoundRatio.call at h
  split at h
  · obtain ⟨x, hx, hk⟩ := Option.bind_eq_some_iff.1 h
    exact ⟨_, hk, abacusref04_RoundRatio.ok (n := n) hx⟩
  · cases h
/-! ### abacusref05_rounded: function 57 -/
noncomputable def abacusref05_rounded.b0 (c89 : Bool→Λ→Λ→Int→Ω (Int × Int)) (a0 : Bool) (l1 : Λ) (l2 : Λ) (a3 : Int) : Ω (Int) := ((c89 a0 l1 l2 a3).bind fun t1 => some t1.1)
noncomputable def abacusref05_rounded.f (n : Nat) (a0 : Bool) (l1 : Λ) (l2 : Λ) (a3 : Int) : Ω (Int) := abacusref05_rounded.b0 (abacusref04_RoundRatio.f n) a0 l1 l2 a3
noncomputable def abacusref05_rounded.sg : Sig (Int) := s1 (sInt .u64)
noncomputable def abacusref05_rounded.code : Code := (Tryd.f57.body).getD .skip
noncomputable def abacusref05_rounded.cfg (c89 : Bool→Λ→Λ→Int→Ω (Int × Int)) : Cfg (Int) := { T := tys, call := orCall 89 (abacusref04_RoundRatio.call c89) (noCall) }
noncomputable def abacusref05_rounded.cuts : List (Nat × List (Nat × Want)) := []
theorem abacusref05_rounded.e0 (c89 : Bool→Λ→Λ→Int→Ω (Int × Int)) (n : Nat) (J : Nat→(ASt→Ω (Int))→ASt→Ω (Int)) (a0 : Bool) (l1 : Λ) (l2 : Λ) (a3 : Int) : afun (abacusref05_rounded.cfg c89) J abacusref05_rounded.cuts n abacusref05_rounded.code Tryd.f57.results.toList [false] [.agg [.bool a0, .ro .u64 l1, .ro .u64 l2, .int .i64 a3]] abacusref05_rounded.sg.out = abacusref05_rounded.b0 c89 a0 l1 l2 a3 := by kernel_rfl
theorem abacusref05_rounded.eq (n : Nat) (a0 : Bool) (l1 : Λ) (l2 : Λ) (a3 : Int) : afun (abacusref05_rounded.cfg (abacusref04_RoundRatio.f n)) idJ abacusref05_rounded.cuts n abacusref05_rounded.code Tryd.f57.results.toList [false] [.agg [.bool a0, .ro .u64 l1, .ro .u64 l2, .int .i64 a3]] abacusref05_rounded.sg.out = abacusref05_rounded.f n a0 l1 l2 a3 := (abacusref05_rounded.e0 (abacusref04_RoundRatio.f n) n idJ a0 l1 l2 a3).trans (rfl)
theorem abacusref05_rounded.ok {n : Nat} {a0 : Bool} {l1 : Λ} {l2 : Λ} {a3 : Int} {r : Int} (h : abacusref05_rounded.f n a0 l1 l2 a3 = some r) : CallD Tryd.prog HW 57 [.agg [.bool a0, .ro .u64 l1, .ro .u64 l2, .int .i64 a3]] (abacusref05_rounded.sg.enc r) :=
  fun_some hwS Tryd.func57 (by kernel_rfl) (body := abacusref05_rounded.code) (by kernel_rfl) tys_ok (c := abacusref05_rounded.cfg (abacusref04_RoundRatio.f n)) (orCall_ok (abacusref04_RoundRatio.call_ok (n := n)) noCall_ok) noW_ok (by kernel_rfl) (by kernel_rfl) (Nat.le_of_ble_eq_true (by kernel_rfl)) ((abacusref05_rounded.eq n a0 l1 l2 a3).trans h)
noncomputable def abacusref05_rounded.call {α : Type} (g : Bool→Λ→Λ→Int→Ω (Int)) (ds : List D) (K : List D→Ω α) : Ω α := match ds with
  | [.agg [.bool a0, .ro .u64 l1, .ro .u64 l2, .int .i64 a3]] => (g a0 l1 l2 a3).bind fun r => K (abacusref05_rounded.sg.enc r)
  | _ => none
theorem abacusref05_rounded.call_ok {α : Type} {n : Nat} (ds : List D) (K : List D→Ω α) (r : α) (h : abacusref05_rounded.call (abacusref05_rounded.f n) ds K = some r) : ∃ rs, K rs = some r ∧ CallD Tryd.prog HW 57 ds rs := by
  unfold abacusref05_rounded.call at h
  split at h
  · obtain ⟨x, hx, hk⟩ := Option.bind_eq_some_iff.1 h
    exact ⟨_, hk, abacusref05_rounded.ok (n := n) hx⟩
  · cases h
/-! ### abacusref05_Mul: function 21 -/
noncomputable def abacusref05_Mul.b0 (c54 : Int→Int→Ω (Bool)) (c55 : Int→Ω (Bool)) (c56 : Int→Ω (Bool)) (c57 : Bool→Λ→Λ→Int→Ω (Int)) (c59 : Int→Ω (Bool × Λ × Λ × Int)) (c61 : Int→Ω (Bool)) (c62 : Bool→Int→Ω (Int)) (c63 : Bool→Λ→Λ→Int→Bool→Λ→Λ→Int→Ω (Bool × Λ × Λ × Int)) (k231 : Int→Int→Bool→Bool→Ω (Int)) (a0 : Int) (a1 : Int) : Ω (Int) := ((c56 a0).bind fun t1 => ((c56 a1).bind fun t2 => ((c54 a0 a1).bind fun t3 => (if t3 = true then some 9221120237041090560 else ((c55 a0).bind fun t4 => (if t4 = true then ((c61 a1).bind fun t5 => (if t5 = true then k231 a0 a1 (t1 != t2) true else ((c61 a0).bind fun t6 => (if t6 = true then ((c55 a1).bind fun t7 => k231 a0 a1 (t1 != t2) t7) else k231 a0 a1 (t1 != t2) false)))) else ((c61 a0).bind fun t8 => (if t8 = true then ((c55 a1).bind fun t9 => k231 a0 a1 (t1 != t2) t9) else k231 a0 a1 (t1 != t2) false))))))))
noncomputable def abacusref05_Mul.b231 (c54 : Int→Int→Ω (Bool)) (c55 : Int→Ω (Bool)) (c56 : Int→Ω (Bool)) (c57 : Bool→Λ→Λ→Int→Ω (Int)) (c59 : Int→Ω (Bool × Λ × Λ × Int)) (c61 : Int→Ω (Bool)) (c62 : Bool→Int→Ω (Int)) (c63 : Bool→Λ→Λ→Int→Bool→Λ→Λ→Int→Ω (Bool × Λ × Λ × Int)) (x0 : Int) (x1 : Int) (x2 : Bool) (x3 : Bool) : Ω (Int) := (if x3 = true then some 9221120237041090560 else ((c55 x0).bind fun t1 => (if t1 = true then ((c62 x2 9218868437227405312).bind fun t3 => some t3) else ((c55 x1).bind fun t2 => (if t2 = true then ((c62 x2 9218868437227405312).bind fun t4 => some t4) else ((c59 x0).bind fun t5 => ((c59 x1).bind fun t6 => ((c63 t5.1 t5.2.1 t5.2.2.1 t5.2.2.2 t6.1 t6.2.1 t6.2.2.1 t6.2.2.2).bind fun t7 => ((c57 t7.1 t7.2.1 t7.2.2.1 t7.2.2.2).bind fun t8 => some t8)))))))))
noncomputable def abacusref05_Mul.l231 (n : Nat) (x0 : Int) (x1 : Int) (x2 : Bool) (x3 : Bool) : Ω (Int) := abacusref05_Mul.b231 abacusref05_anyNaN.f abacusref05_infinite.f abacusref05_negative.f (abacusref05_rounded.f n) abacusref05_of.f abacusref05_zero.f abacusref05_signed.f (abacusref05_product.f n) x0 x1 x2 x3
noncomputable def abacusref05_Mul.f (n : Nat) (a0 : Int) (a1 : Int) : Ω (Int) := abacusref05_Mul.b0 abacusref05_anyNaN.f abacusref05_infinite.f abacusref05_negative.f (abacusref05_rounded.f n) abacusref05_of.f abacusref05_zero.f abacusref05_signed.f (abacusref05_product.f n) (abacusref05_Mul.l231 n) a0 a1
noncomputable def abacusref05_Mul.sg : Sig (Int) := s1 (sInt .u64)
noncomputable def abacusref05_Mul.code : Code := (Tryd.f21.body).getD .skip
noncomputable def abacusref05_Mul.cfg (c54 : Int→Int→Ω (Bool)) (c55 : Int→Ω (Bool)) (c56 : Int→Ω (Bool)) (c57 : Bool→Λ→Λ→Int→Ω (Int)) (c59 : Int→Ω (Bool × Λ × Λ × Int)) (c61 : Int→Ω (Bool)) (c62 : Bool→Int→Ω (Int)) (c63 : Bool→Λ→Λ→Int→Bool→Λ→Λ→Int→Ω (Bool × Λ × Λ × Int)) : Cfg (Int) := { T := tys, call := orCall 54 (abacusref05_anyNaN.call c54) (orCall 55 (abacusref05_infinite.call c55) (orCall 56 (abacusref05_negative.call c56) (orCall 57 (abacusref05_rounded.call c57) (orCall 59 (abacusref05_of.call c59) (orCall 61 (abacusref05_zero.call c61) (orCall 62 (abacusref05_signed.call c62) (orCall 63 (abacusref05_product.call c63) (noCall)))))))) }
noncomputable def abacusref05_Mul.cuts : List (Nat × List (Nat × Want)) := [(231, [(0, .keep), (1, .keep), (5, .keep), (15, .keep)])]
noncomputable def abacusref05_Mul.s231 (x0 : Int) (x1 : Int) (x2 : Bool) (x3 : Bool) : ASt := ⟨[(0, .int .u64 x0), (1, .int .u64 x1), (5, .bool x2), (15, .bool x3)], []⟩
noncomputable def abacusref05_Mul.A (c54 : Int→Int→Ω (Bool)) (c55 : Int→Ω (Bool)) (c56 : Int→Ω (Bool)) (c57 : Bool→Λ→Λ→Int→Ω (Int)) (c59 : Int→Ω (Bool × Λ × Λ × Int)) (c61 : Int→Ω (Bool)) (c62 : Bool→Int→Ω (Int)) (c63 : Bool→Λ→Λ→Int→Bool→Λ→Λ→Int→Ω (Bool × Λ × Λ × Int)) (n : Nat) (J : Nat→(ASt→Ω (Int))→ASt→Ω (Int)) (q : Nat) (ms : List Nat) : ASt→Ω (Int) := acont (abacusref05_Mul.cfg c54 c55 c56 c57 c59 c61 c62 c63) J abacusref05_Mul.cuts n q abacusref05_Mul.code 1 ms (aend (abacusref05_Mul.cfg c54 c55 c56 c57 c59 c61 c62 c63) Tryd.f21.results.toList [false] abacusref05_Mul.sg.out)
theorem abacusref05_Mul.e0 (c54 : Int→Int→Ω (Bool)) (c55 : Int→Ω (Bool)) (c56 : Int→Ω (Bool)) (c57 : Bool→Λ→Λ→Int→Ω (Int)) (c59 : Int→Ω (Bool × Λ × Λ × Int)) (c61 : Int→Ω (Bool)) (c62 : Bool→Int→Ω (Int)) (c63 : Bool→Λ→Λ→Int→Bool→Λ→Λ→Int→Ω (Bool × Λ × Λ × Int)) (n : Nat) (J : Nat→(ASt→Ω (Int))→ASt→Ω (Int)) (a0 : Int) (a1 : Int) : afun (abacusref05_Mul.cfg c54 c55 c56 c57 c59 c61 c62 c63) J abacusref05_Mul.cuts n abacusref05_Mul.code Tryd.f21.results.toList [false] [.int .u64 a0, .int .u64 a1] abacusref05_Mul.sg.out = abacusref05_Mul.b0 c54 c55 c56 c57 c59 c61 c62 c63 (fun y0 y1 y2 y3 => J 231 (abacusref05_Mul.A c54 c55 c56 c57 c59 c61 c62 c63 n J 231 []) (abacusref05_Mul.s231 y0 y1 y2 y3)) a0 a1 := by kernel_rfl
theorem abacusref05_Mul.e231 (c54 : Int→Int→Ω (Bool)) (c55 : Int→Ω (Bool)) (c56 : Int→Ω (Bool)) (c57 : Bool→Λ→Λ→Int→Ω (Int)) (c59 : Int→Ω (Bool × Λ × Λ × Int)) (c61 : Int→Ω (Bool)) (c62 : Bool→Int→Ω (Int)) (c63 : Bool→Λ→Λ→Int→Bool→Λ→Λ→Int→Ω (Bool × Λ × Λ × Int)) (n : Nat) (J : Nat→(ASt→Ω (Int))→ASt→Ω (Int)) (x0 : Int) (x1 : Int) (x2 : Bool) (x3 : Bool) : abacusref05_Mul.A c54 c55 c56 c57 c59 c61 c62 c63 n J 231 [] (abacusref05_Mul.s231 x0 x1 x2 x3) = abacusref05_Mul.b231 c54 c55 c56 c57 c59 c61 c62 c63 x0 x1 x2 x3 := by kernel_rfl
theorem abacusref05_Mul.q231 (n : Nat) (x0 : Int) (x1 : Int) (x2 : Bool) (x3 : Bool) : abacusref05_Mul.A abacusref05_anyNaN.f abacusref05_infinite.f abacusref05_negative.f (abacusref05_rounded.f n) abacusref05_of.f abacusref05_zero.f abacusref05_signed.f (abacusref05_product.f n) n idJ 231 [] (abacusref05_Mul.s231 x0 x1 x2 x3) = abacusref05_Mul.l231 n x0 x1 x2 x3 := (abacusref05_Mul.e231 abacusref05_anyNaN.f abacusref05_infinite.f abacusref05_negative.f (abacusref05_rounded.f n) abacusref05_of.f abacusref05_zero.f abacusref05_signed.f (abacusref05_product.f n) n idJ x0 x1 x2 x3).trans (rfl)
theorem abacusref05_Mul.eq (n : Nat) (a0 : Int) (a1 : Int) : afun (abacusref05_Mul.cfg abacusref05_anyNaN.f abacusref05_infinite.f abacusref05_negative.f (abacusref05_rounded.f n) abacusref05_of.f abacusref05_zero.f abacusref05_signed.f (abacusref05_product.f n)) idJ abacusref05_Mul.cuts n abacusref05_Mul.code Tryd.f21.results.toList [false] [.int .u64 a0, .int .u64 a1] abacusref05_Mul.sg.out = abacusref05_Mul.f n a0 a1 := (abacusref05_Mul.e0 abacusref05_anyNaN.f abacusref05_infinite.f abacusref05_negative.f (abacusref05_rounded.f n) abacusref05_of.f abacusref05_zero.f abacusref05_signed.f (abacusref05_product.f n) n idJ a0 a1).trans (congrFun (congrFun (congrArg (abacusref05_Mul.b0 abacusref05_anyNaN.f abacusref05_infinite.f abacusref05_negative.f (abacusref05_rounded.f n) abacusref05_of.f abacusref05_zero.f abacusref05_signed.f (abacusref05_product.f n)) (funext fun y0 => (funext fun y1 => (funext fun y2 => (funext fun y3 => abacusref05_Mul.q231 n y0 y1 y2 y3))))) a0) a1)
theorem abacusref05_Mul.ok {n : Nat} {a0 : Int} {a1 : Int} {r : Int} (h : abacusref05_Mul.f n a0 a1 = some r) : CallD Tryd.prog HW 21 [.int .u64 a0, .int .u64 a1] (abacusref05_Mul.sg.enc r) :=
  fun_some hwS Tryd.func21 (by kernel_rfl) (body := abacusref05_Mul.code) (by kernel_rfl) tys_ok (c := abacusref05_Mul.cfg abacusref05_anyNaN.f abacusref05_infinite.f abacusref05_negative.f (abacusref05_rounded.f n) abacusref05_of.f abacusref05_zero.f abacusref05_signed.f (abacusref05_product.f n)) (orCall_ok (abacusref05_anyNaN.call_ok (n := n)) (orCall_ok (abacusref05_infinite.call_ok (n := n)) (orCall_ok (abacusref05_negative.call_ok (n := n)) (orCall_ok (abacusref05_rounded.call_ok (n := n)) (orCall_ok (abacusref05_of.call_ok (n := n)) (orCall_ok (abacusref05_zero.call_ok (n := n)) (orCall_ok (abacusref05_signed.call_ok (n := n)) (orCall_ok (abacusref05_product.call_ok (n := n)) noCall_ok)))))))) noW_ok (by kernel_rfl) (by kernel_rfl) (Nat.le_of_ble_eq_true (by kernel_rfl)) ((abacusref05_Mul.eq n a0 a1).trans h)
noncomputable def abacusref05_Mul.call {α : Type} (g : Int→Int→Ω (Int)) (ds : List D) (K : List D→Ω α) : Ω α := match ds with
  | [.int .u64 a0, .int .u64 a1] => (g a0 a1).bind fun r => K (abacusref05_Mul.sg.enc r)
  | _ => none
theorem abacusref05_Mul.call_ok {α : Type} {n : Nat} (ds : List D) (K : List D→Ω α) (r : α) (h : abacusref05_Mul.call (abacusref05_Mul.f n) ds K = some r) : ∃ rs, K rs = some r ∧ CallD Tryd.prog HW 21 ds rs := by
  unfold abacusref05_Mul.call at h
  split at h
  · obtain ⟨x, hx, hk⟩ := Option.bind_eq_some_iff.1 h
    exact ⟨_, hk, abacusref05_Mul.ok (n := n) hx⟩
  · cases h
/-! ### abacusref05_none: function 144 -/
noncomputable def abacusref05_none.b0 (c161 : Λ→Ω (Int)) (a0 : Bool) (l1 : Λ) (l2 : Λ) (a3 : Int) : Ω (Bool) := ((c161 l1).bind fun t1 => some (decide (t1 = 0)))
noncomputable def abacusref05_none.f (n : Nat) (a0 : Bool) (l1 : Λ) (l2 : Λ) (a3 : Int) : Ω (Bool) := abacusref05_none.b0 (abacusref01_Size.f n) a0 l1 l2 a3
noncomputable def abacusref05_none.sg : Sig (Bool) := s1 (sBool)
noncomputable def abacusref05_none.code : Code := (Tryd.f144.body).getD .skip
noncomputable def abacusref05_none.cfg (c161 : Λ→Ω (Int)) : Cfg (Bool) := { T := tys, call := orCall 161 (abacusref01_Size.call c161) (noCall) }
noncomputable def abacusref05_none.cuts : List (Nat × List (Nat × Want)) := []
theorem abacusref05_none.e0 (c161 : Λ→Ω (Int)) (n : Nat) (J : Nat→(ASt→Ω (Bool))→ASt→Ω (Bool)) (a0 : Bool) (l1 : Λ) (l2 : Λ) (a3 : Int) : afun (abacusref05_none.cfg c161) J abacusref05_none.cuts n abacusref05_none.code Tryd.f144.results.toList [false] [.agg [.bool a0, .ro .u64 l1, .ro .u64 l2, .int .i64 a3]] abacusref05_none.sg.out = abacusref05_none.b0 c161 a0 l1 l2 a3 := by kernel_rfl
theorem abacusref05_none.eq (n : Nat) (a0 : Bool) (l1 : Λ) (l2 : Λ) (a3 : Int) : afun (abacusref05_none.cfg (abacusref01_Size.f n)) idJ abacusref05_none.cuts n abacusref05_none.code Tryd.f144.results.toList [false] [.agg [.bool a0, .ro .u64 l1, .ro .u64 l2, .int .i64 a3]] abacusref05_none.sg.out = abacusref05_none.f n a0 l1 l2 a3 := (abacusref05_none.e0 (abacusref01_Size.f n) n idJ a0 l1 l2 a3).trans (rfl)
theorem abacusref05_none.ok {n : Nat} {a0 : Bool} {l1 : Λ} {l2 : Λ} {a3 : Int} {r : Bool} (h : abacusref05_none.f n a0 l1 l2 a3 = some r) : CallD Tryd.prog HW 144 [.agg [.bool a0, .ro .u64 l1, .ro .u64 l2, .int .i64 a3]] (abacusref05_none.sg.enc r) :=
  fun_some hwS Tryd.func144 (by kernel_rfl) (body := abacusref05_none.code) (by kernel_rfl) tys_ok (c := abacusref05_none.cfg (abacusref01_Size.f n)) (orCall_ok (abacusref01_Size.call_ok (n := n)) noCall_ok) noW_ok (by kernel_rfl) (by kernel_rfl) (Nat.le_of_ble_eq_true (by kernel_rfl)) ((abacusref05_none.eq n a0 l1 l2 a3).trans h)
noncomputable def abacusref05_none.call {α : Type} (g : Bool→Λ→Λ→Int→Ω (Bool)) (ds : List D) (K : List D→Ω α) : Ω α := match ds with
  | [.agg [.bool a0, .ro .u64 l1, .ro .u64 l2, .int .i64 a3]] => (g a0 l1 l2 a3).bind fun r => K (abacusref05_none.sg.enc r)
  | _ => none
theorem abacusref05_none.call_ok {α : Type} {n : Nat} (ds : List D) (K : List D→Ω α) (r : α) (h : abacusref05_none.call (abacusref05_none.f n) ds K = some r) : ∃ rs, K rs = some r ∧ CallD Tryd.prog HW 144 ds rs := by
  unfold abacusref05_none.call at h
  split at h
  · obtain ⟨x, hx, hk⟩ := Option.bind_eq_some_iff.1 h
    exact ⟨_, hk, abacusref05_none.ok (n := n) hx⟩
  · cases h
/-! ### abacusref01_Plus: function 145 -/
noncomputable def abacusref01_Plus.b0 (c153 : Λ→Ω (Λ)) (c154 : Λ→Ω (Λ)) (k1013 : Λ→Λ→Int→Int→Λ→Ω (Λ)) (l0 : Λ) (l1 : Λ) : Ω (Λ) := ((c153 l0).bind fun t1 => ((c153 l1).bind fun t2 => (if 0 ≤ (wrap64 ((wrap64 ((ln t1) + (ln t2))) + 1)) then (if (wrap64 ((wrap64 ((ln t1) + (ln t2))) + 1)).toNat ≤ 35184372088832 then k1013 t1 t2 0 0 (List.replicate 0 (0 : Int)) else none) else none)))
noncomputable def abacusref01_Plus.b127 (c153 : Λ→Ω (Λ)) (c154 : Λ→Ω (Λ)) (x0 : Int) (x1 : Λ) : Ω (Λ) := (if x1.length + 1 ≤ 17592186044416 then ((c154 (x1 ++ [x0])).bind fun t1 => some t1) else none)
noncomputable def abacusref01_Plus.b1013 (c153 : Λ→Ω (Λ)) (c154 : Λ→Ω (Λ)) (k127 : Int→Λ→Ω (Λ)) (k2025 : Λ→Λ→Int→Int→Λ→Ω (Λ)) (x0 : Λ) (x1 : Λ) (x2 : Int) (x3 : Int) (x4 : Λ) : Ω (Λ) := (if x3 < (ln x0) then k2025 x0 x1 x2 x3 x4 else (if x3 < (ln x1) then k2025 x0 x1 x2 x3 x4 else k127 x2 x4))
noncomputable def abacusref01_Plus.b2025 (c153 : Λ→Ω (Λ)) (c154 : Λ→Ω (Λ)) (k16201 : Λ→Λ→Int→Int→Λ→Ω (Λ)) (x0 : Λ) (x1 : Λ) (x2 : Int) (x3 : Int) (x4 : Λ) : Ω (Λ) := (if x3 < (ln x0) then (if 0 ≤ x3 then (if x3 < (ln x0) then k16201 x0 x1 (IntKind.u64.wrap (x2 + (rd x0 x3))) x3 x4 else none) else none) else k16201 x0 x1 x2 x3 x4)
noncomputable def abacusref01_Plus.b16201 (c153 : Λ→Ω (Λ)) (c154 : Λ→Ω (Λ)) (k1013 : Λ→Λ→Int→Int→Λ→Ω (Λ)) (x0 : Λ) (x1 : Λ) (x2 : Int) (x3 : Int) (x4 : Λ) : Ω (Λ) := (if x3 < (ln x1) then (if 0 ≤ x3 then (if x3 < (ln x1) then (if x4.length + 1 ≤ 17592186044416 then k1013 x0 x1 ((IntKind.u64.wrap (x2 + (rd x1 x3))) / 4294967296) (wrap64 (x3 + 1)) (x4 ++ [Go.bits .and .u64 (IntKind.u64.wrap (x2 + (rd x1 x3))) 4294967295]) else none) else none) else none) else (if x4.length + 1 ≤ 17592186044416 then k1013 x0 x1 (x2 / 4294967296) (wrap64 (x3 + 1)) (x4 ++ [Go.bits .and .u64 x2 4294967295]) else none))
noncomputable def abacusref01_Plus.l127 (n : Nat) (x0 : Int) (x1 : Λ) : Ω (Λ) := abacusref01_Plus.b127 (abacusref01_halves.f n) (abacusref01_limbs.f n) x0 x1
noncomputable def abacusref01_Plus.l16201 (n : Nat) (k1013 : Λ→Λ→Int→Int→Λ→Ω (Λ)) (x0 : Λ) (x1 : Λ) (x2 : Int) (x3 : Int) (x4 : Λ) : Ω (Λ) := abacusref01_Plus.b16201 (abacusref01_halves.f n) (abacusref01_limbs.f n) k1013 x0 x1 x2 x3 x4
noncomputable def abacusref01_Plus.l2025 (n : Nat) (k1013 : Λ→Λ→Int→Int→Λ→Ω (Λ)) (x0 : Λ) (x1 : Λ) (x2 : Int) (x3 : Int) (x4 : Λ) : Ω (Λ) := abacusref01_Plus.b2025 (abacusref01_halves.f n) (abacusref01_limbs.f n) (abacusref01_Plus.l16201 n k1013) x0 x1 x2 x3 x4
noncomputable def abacusref01_Plus.l1013 (n : Nat) : Nat→Λ→Λ→Int→Int→Λ→Ω (Λ)
  | 0, _, _, _, _, _ => none
  | m + 1, x0, x1, x2, x3, x4 => abacusref01_Plus.b1013 (abacusref01_halves.f n) (abacusref01_limbs.f n) (abacusref01_Plus.l127 n) (abacusref01_Plus.l2025 n (abacusref01_Plus.l1013 n m)) x0 x1 x2 x3 x4
noncomputable def abacusref01_Plus.f (n : Nat) (l0 : Λ) (l1 : Λ) : Ω (Λ) := abacusref01_Plus.b0 (abacusref01_halves.f n) (abacusref01_limbs.f n) (abacusref01_Plus.l1013 n n) l0 l1
noncomputable def abacusref01_Plus.sg : Sig (Λ) := s1 (sOwn 22 .u64)
noncomputable def abacusref01_Plus.code : Code := (Tryd.f145.body).getD .skip
noncomputable def abacusref01_Plus.cfg (c153 : Λ→Ω (Λ)) (c154 : Λ→Ω (Λ)) : Cfg (Λ) := { T := tys, call := orCall 153 (abacusref01_halves.call c153) (orCall 154 (abacusref01_limbs.call c154) (noCall)) }
noncomputable def abacusref01_Plus.cuts : List (Nat × List (Nat × Want)) := [(127, [(7, .keep), (8, .keep)]), (1013, [(5, .keep), (6, .keep), (7, .keep), (8, .keep), (9, .keep)]), (2025, [(5, .keep), (6, .keep), (7, .keep), (8, .keep), (9, .keep)]), (16201, [(5, .keep), (6, .keep), (7, .keep), (8, .keep), (9, .keep)])]
noncomputable def abacusref01_Plus.s127 (x0 : Int) (x1 : Λ) : ASt := ⟨[(7, .own 0), (8, .int .u64 x0)], [.ints 22 .u64 x1]⟩
noncomputable def abacusref01_Plus.s1013 (x0 : Λ) (x1 : Λ) (x2 : Int) (x3 : Int) (x4 : Λ) : ASt := ⟨[(5, .ro .u64 x0), (6, .ro .u64 x1), (7, .own 0), (8, .int .u64 x2), (9, .int .i64 x3)], [.ints 22 .u64 x4]⟩
noncomputable def abacusref01_Plus.s2025 (x0 : Λ) (x1 : Λ) (x2 : Int) (x3 : Int) (x4 : Λ) : ASt := ⟨[(5, .ro .u64 x0), (6, .ro .u64 x1), (7, .own 0), (8, .int .u64 x2), (9, .int .i64 x3)], [.ints 22 .u64 x4]⟩
noncomputable def abacusref01_Plus.s16201 (x0 : Λ) (x1 : Λ) (x2 : Int) (x3 : Int) (x4 : Λ) : ASt := ⟨[(5, .ro .u64 x0), (6, .ro .u64 x1), (7, .own 0), (8, .int .u64 x2), (9, .int .i64 x3)], [.ints 22 .u64 x4]⟩
noncomputable def abacusref01_Plus.A (c153 : Λ→Ω (Λ)) (c154 : Λ→Ω (Λ)) (n : Nat) (J : Nat→(ASt→Ω (Λ))→ASt→Ω (Λ)) (q : Nat) (ms : List Nat) : ASt→Ω (Λ) := acont (abacusref01_Plus.cfg c153 c154) J abacusref01_Plus.cuts n q abacusref01_Plus.code 1 ms (aend (abacusref01_Plus.cfg c153 c154) Tryd.f145.results.toList [true] abacusref01_Plus.sg.out)
theorem abacusref01_Plus.e0 (c153 : Λ→Ω (Λ)) (c154 : Λ→Ω (Λ)) (n : Nat) (J : Nat→(ASt→Ω (Λ))→ASt→Ω (Λ)) (l0 : Λ) (l1 : Λ) : afun (abacusref01_Plus.cfg c153 c154) J abacusref01_Plus.cuts n abacusref01_Plus.code Tryd.f145.results.toList [true] [.ro .u64 l0, .ro .u64 l1] abacusref01_Plus.sg.out = abacusref01_Plus.b0 c153 c154 (fun y0 y1 y2 y3 y4 => J 1013 (abacusref01_Plus.A c153 c154 n J 1013 [n]) (abacusref01_Plus.s1013 y0 y1 y2 y3 y4)) l0 l1 := by kernel_rfl
theorem abacusref01_Plus.e127 (c153 : Λ→Ω (Λ)) (c154 : Λ→Ω (Λ)) (n : Nat) (J : Nat→(ASt→Ω (Λ))→ASt→Ω (Λ)) (x0 : Int) (x1 : Λ) : abacusref01_Plus.A c153 c154 n J 127 [] (abacusref01_Plus.s127 x0 x1) = abacusref01_Plus.b127 c153 c154 x0 x1 := by kernel_rfl
theorem abacusref01_Plus.e1013 (c153 : Λ→Ω (Λ)) (c154 : Λ→Ω (Λ)) (n : Nat) (J : Nat→(ASt→Ω (Λ))→ASt→Ω (Λ)) (m : Nat) (x0 : Λ) (x1 : Λ) (x2 : Int) (x3 : Int) (x4 : Λ) : abacusref01_Plus.A c153 c154 n J 1013 [m + 1] (abacusref01_Plus.s1013 x0 x1 x2 x3 x4) = abacusref01_Plus.b1013 c153 c154 (fun y0 y1 => J 127 (abacusref01_Plus.A c153 c154 n J 127 []) (abacusref01_Plus.s127 y0 y1)) (fun y0 y1 y2 y3 y4 => J 2025 (abacusref01_Plus.A c153 c154 n J 2025 [m]) (abacusref01_Plus.s2025 y0 y1 y2 y3 y4)) x0 x1 x2 x3 x4 := by kernel_rfl
theorem abacusref01_Plus.e2025 (c153 : Λ→Ω (Λ)) (c154 : Λ→Ω (Λ)) (n : Nat) (J : Nat→(ASt→Ω (Λ))→ASt→Ω (Λ)) (m1013 : Nat) (x0 : Λ) (x1 : Λ) (x2 : Int) (x3 : Int) (x4 : Λ) : abacusref01_Plus.A c153 c154 n J 2025 [m1013] (abacusref01_Plus.s2025 x0 x1 x2 x3 x4) = abacusref01_Plus.b2025 c153 c154 (fun y0 y1 y2 y3 y4 => J 16201 (abacusref01_Plus.A c153 c154 n J 16201 [m1013]) (abacusref01_Plus.s16201 y0 y1 y2 y3 y4)) x0 x1 x2 x3 x4 := by kernel_rfl
theorem abacusref01_Plus.e16201 (c153 : Λ→Ω (Λ)) (c154 : Λ→Ω (Λ)) (n : Nat) (J : Nat→(ASt→Ω (Λ))→ASt→Ω (Λ)) (m1013 : Nat) (x0 : Λ) (x1 : Λ) (x2 : Int) (x3 : Int) (x4 : Λ) : abacusref01_Plus.A c153 c154 n J 16201 [m1013] (abacusref01_Plus.s16201 x0 x1 x2 x3 x4) = abacusref01_Plus.b16201 c153 c154 (fun y0 y1 y2 y3 y4 => J 1013 (abacusref01_Plus.A c153 c154 n J 1013 [m1013]) (abacusref01_Plus.s1013 y0 y1 y2 y3 y4)) x0 x1 x2 x3 x4 := by kernel_rfl
theorem abacusref01_Plus.q127 (n : Nat) (x0 : Int) (x1 : Λ) : abacusref01_Plus.A (abacusref01_halves.f n) (abacusref01_limbs.f n) n idJ 127 [] (abacusref01_Plus.s127 x0 x1) = abacusref01_Plus.l127 n x0 x1 := (abacusref01_Plus.e127 (abacusref01_halves.f n) (abacusref01_limbs.f n) n idJ x0 x1).trans (rfl)
theorem abacusref01_Plus.q16201 (n : Nat) (m1013 : Nat) (x0 : Λ) (x1 : Λ) (x2 : Int) (x3 : Int) (x4 : Λ) : abacusref01_Plus.A (abacusref01_halves.f n) (abacusref01_limbs.f n) n idJ 16201 [m1013] (abacusref01_Plus.s16201 x0 x1 x2 x3 x4) = abacusref01_Plus.l16201 n (fun y0 y1 y2 y3 y4 => abacusref01_Plus.A (abacusref01_halves.f n) (abacusref01_limbs.f n) n idJ 1013 [m1013] (abacusref01_Plus.s1013 y0 y1 y2 y3 y4)) x0 x1 x2 x3 x4 := (abacusref01_Plus.e16201 (abacusref01_halves.f n) (abacusref01_limbs.f n) n idJ m1013 x0 x1 x2 x3 x4).trans (rfl)
theorem abacusref01_Plus.q2025 (n : Nat) (m1013 : Nat) (x0 : Λ) (x1 : Λ) (x2 : Int) (x3 : Int) (x4 : Λ) : abacusref01_Plus.A (abacusref01_halves.f n) (abacusref01_limbs.f n) n idJ 2025 [m1013] (abacusref01_Plus.s2025 x0 x1 x2 x3 x4) = abacusref01_Plus.l2025 n (fun y0 y1 y2 y3 y4 => abacusref01_Plus.A (abacusref01_halves.f n) (abacusref01_limbs.f n) n idJ 1013 [m1013] (abacusref01_Plus.s1013 y0 y1 y2 y3 y4)) x0 x1 x2 x3 x4 := (abacusref01_Plus.e2025 (abacusref01_halves.f n) (abacusref01_limbs.f n) n idJ m1013 x0 x1 x2 x3 x4).trans (congrFun (congrFun (congrFun (congrFun (congrFun (congrArg (abacusref01_Plus.b2025 (abacusref01_halves.f n) (abacusref01_limbs.f n)) (funext fun y0 => (funext fun y1 => (funext fun y2 => (funext fun y3 => (funext fun y4 => abacusref01_Plus.q16201 n m1013 y0 y1 y2 y3 y4)))))) x0) x1) x2) x3) x4)
theorem abacusref01_Plus.q1013 (n : Nat) (m : Nat) : ∀ (x0 : Λ) (x1 : Λ) (x2 : Int) (x3 : Int) (x4 : Λ), abacusref01_Plus.A (abacusref01_halves.f n) (abacusref01_limbs.f n) n idJ 1013 [m] (abacusref01_Plus.s1013 x0 x1 x2 x3 x4) = abacusref01_Plus.l1013 n m x0 x1 x2 x3 x4 := by
  induction m with
  | zero => intros; rfl
  | succ m ih =>
    intro x0 x1 x2 x3 x4
    refine (abacusref01_Plus.e1013 (abacusref01_halves.f n) (abacusref01_limbs.f n) n idJ m x0 x1 x2 x3 x4).trans ?_
    exact congrFun (congrFun (congrFun (congrFun (congrFun (congr (congrArg (abacusref01_Plus.b1013 (abacusref01_halves.f n) (abacusref01_limbs.f n)) (funext fun y0 => (funext fun y1 => abacusref01_Plus.q127 n y0 y1))) ((funext fun y0 => (funext fun y1 => (funext fun y2 => (funext fun y3 => (funext fun y4 => abacusref01_Plus.q2025 n m y0 y1 y2 y3 y4))))).trans (by rw [show (fun y0 y1 y2 y3 y4 => abacusref01_Plus.A (abacusref01_halves.f n) (abacusref01_limbs.f n) n idJ 1013 [m] (abacusref01_Plus.s1013 y0 y1 y2 y3 y4)) = _ from (funext fun y0 => (funext fun y1 => (funext fun y2 => (funext fun y3 => (funext fun y4 => ih y0 y1 y2 y3 y4)))))]))) x0) x1) x2) x3) x4
theorem abacusref01_Plus.eq (n : Nat) (l0 : Λ) (l1 : Λ) : afun (abacusref01_Plus.cfg (abacusref01_halves.f n) (abacusref01_limbs.f n)) idJ abacusref01_Plus.cuts n abacusref01_Plus.code Tryd.f145.results.toList [true] [.ro .u64 l0, .ro .u64 l1] abacusref01_Plus.sg.out = abacusref01_Plus.f n l0 l1 := (abacusref01_Plus.e0 (abacusref01_halves.f n) (abacusref01_limbs.f n) n idJ l0 l1).trans (congrFun (congrFun (congrArg (abacusref01_Plus.b0 (abacusref01_halves.f n) (abacusref01_limbs.f n)) (funext fun y0 => (funext fun y1 => (funext fun y2 => (funext fun y3 => (funext fun y4 => abacusref01_Plus.q1013 n n y0 y1 y2 y3 y4)))))) l0) l1)
theorem abacusref01_Plus.ok {n : Nat} {l0 : Λ} {l1 : Λ} {r : Λ} (h : abacusref01_Plus.f n l0 l1 = some r) : CallD Tryd.prog HW 145 [.ro .u64 l0, .ro .u64 l1] (abacusref01_Plus.sg.enc r) :=
  fun_some hwS Tryd.func145 (by kernel_rfl) (body := abacusref01_Plus.code) (by kernel_rfl) tys_ok (c := abacusref01_Plus.cfg (abacusref01_halves.f n) (abacusref01_limbs.f n)) (orCall_ok (abacusref01_halves.call_ok (n := n)) (orCall_ok (abacusref01_limbs.call_ok (n := n)) noCall_ok)) noW_ok (by kernel_rfl) (by kernel_rfl) (Nat.le_of_ble_eq_true (by kernel_rfl)) ((abacusref01_Plus.eq n l0 l1).trans h)
noncomputable def abacusref01_Plus.call {α : Type} (g : Λ→Λ→Ω (Λ)) (ds : List D) (K : List D→Ω α) : Ω α := match ds with
  | [.ro .u64 l0, .ro .u64 l1] => (g l0 l1).bind fun r => K (abacusref01_Plus.sg.enc r)
  | _ => none
theorem abacusref01_Plus.call_ok {α : Type} {n : Nat} (ds : List D) (K : List D→Ω α) (r : α) (h : abacusref01_Plus.call (abacusref01_Plus.f n) ds K = some r) : ∃ rs, K rs = some r ∧ CallD Tryd.prog HW 145 ds rs := by
  unfold abacusref01_Plus.call at h
  split at h
  · obtain ⟨x, hx, hk⟩ := Option.bind_eq_some_iff.1 h
    exact ⟨_, hk, abacusref01_Plus.ok (n := n) hx⟩
  · cases h
/-! ### abacusref01_Less: function 146 -/
noncomputable def abacusref01_Less.b0 (c153 : Λ→Ω (Λ)) (c154 : Λ→Ω (Λ)) (k1013 : Λ→Λ→Int→Int→Λ→Ω (Λ)) (l0 : Λ) (l1 : Λ) : Ω (Λ) := ((c153 l0).bind fun t1 => ((c153 l1).bind fun t2 => (if 0 ≤ (ln t1) then (if (ln t1).toNat ≤ 35184372088832 then k1013 t1 t2 0 0 (List.replicate 0 (0 : Int)) else none) else none)))
noncomputable def abacusref01_Less.b127 (c153 : Λ→Ω (Λ)) (c154 : Λ→Ω (Λ)) (x0 : Λ) : Ω (Λ) := ((c154 x0).bind fun t1 => some t1)
noncomputable def abacusref01_Less.b1013 (c153 : Λ→Ω (Λ)) (c154 : Λ→Ω (Λ)) (k127 : Λ→Ω (Λ)) (k32403 : Λ→Λ→Int→Int→Λ→Ω (Λ)) (x0 : Λ) (x1 : Λ) (x2 : Int) (x3 : Int) (x4 : Λ) : Ω (Λ) := (if x3 < (ln x0) then (if x3 < (ln x1) then (if 0 ≤ x3 then (if x3 < (ln x1) then k32403 x0 x1 x3 (IntKind.u64.wrap (x2 + (rd x1 x3))) x4 else none) else none) else k32403 x0 x1 x3 x2 x4) else k127 x4)
noncomputable def abacusref01_Less.b32403 (c153 : Λ→Ω (Λ)) (c154 : Λ→Ω (Λ)) (k259231 : Λ→Λ→Int→Int→Int→Int→Λ→Ω (Λ)) (x0 : Λ) (x1 : Λ) (x2 : Int) (x3 : Int) (x4 : Λ) : Ω (Λ) := (if 0 ≤ x2 then (if x2 < (ln x0) then (if (rd x0 x2) < x3 then k259231 x0 x1 1 x2 x3 (IntKind.u64.wrap ((rd x0 x2) + 4294967296)) x4 else k259231 x0 x1 0 x2 x3 (rd x0 x2) x4) else none) else none)
noncomputable def abacusref01_Less.b259231 (c153 : Λ→Ω (Λ)) (c154 : Λ→Ω (Λ)) (k1013 : Λ→Λ→Int→Int→Λ→Ω (Λ)) (x0 : Λ) (x1 : Λ) (x2 : Int) (x3 : Int) (x4 : Int) (x5 : Int) (x6 : Λ) : Ω (Λ) := (if x6.length + 1 ≤ 17592186044416 then k1013 x0 x1 x2 (wrap64 (x3 + 1)) (x6 ++ [IntKind.u64.wrap (x5 - x4)]) else none)
noncomputable def abacusref01_Less.l127 (n : Nat) (x0 : Λ) : Ω (Λ) := abacusref01_Less.b127 (abacusref01_halves.f n) (abacusref01_limbs.f n) x0
noncomputable def abacusref01_Less.l259231 (n : Nat) (k1013 : Λ→Λ→Int→Int→Λ→Ω (Λ)) (x0 : Λ) (x1 : Λ) (x2 : Int) (x3 : Int) (x4 : Int) (x5 : Int) (x6 : Λ) : Ω (Λ) := abacusref01_Less.b259231 (abacusref01_halves.f n) (abacusref01_limbs.f n) k1013 x0 x1 x2 x3 x4 x5 x6
noncomputable def abacusref01_Less.l32403 (n : Nat) (k1013 : Λ→Λ→Int→Int→Λ→Ω (Λ)) (x0 : Λ) (x1 : Λ) (x2 : Int) (x3 : Int) (x4 : Λ) : Ω (Λ) := abacusref01_Less.b32403 (abacusref01_halves.f n) (abacusref01_limbs.f n) (abacusref01_Less.l259231 n k1013) x0 x1 x2 x3 x4
noncomputable def abacusref01_Less.l1013 (n : Nat) : Nat→Λ→Λ→Int→Int→Λ→Ω (Λ)
  | 0, _, _, _, _, _ => none
  | m + 1, x0, x1, x2, x3, x4 => abacusref01_Less.b1013 (abacusref01_halves.f n) (abacusref01_limbs.f n) (abacusref01_Less.l127 n) (abacusref01_Less.l32403 n (abacusref01_Less.l1013 n m)) x0 x1 x2 x3 x4
noncomputable def abacusref01_Less.f (n : Nat) (l0 : Λ) (l1 : Λ) : Ω (Λ) := abacusref01_Less.b0 (abacusref01_halves.f n) (abacusref01_limbs.f n) (abacusref01_Less.l1013 n n) l0 l1
noncomputable def abacusref01_Less.sg : Sig (Λ) := s1 (sOwn 22 .u64)
noncomputable def abacusref01_Less.code : Code := (Tryd.f146.body).getD .skip
noncomputable def abacusref01_Less.cfg (c153 : Λ→Ω (Λ)) (c154 : Λ→Ω (Λ)) : Cfg (Λ) := { T := tys, call := orCall 153 (abacusref01_halves.call c153) (orCall 154 (abacusref01_limbs.call c154) (noCall)) }
noncomputable def abacusref01_Less.cuts : List (Nat × List (Nat × Want)) := [(127, [(7, .keep)]), (1013, [(5, .keep), (6, .keep), (7, .keep), (8, .keep), (9, .keep)]), (32403, [(5, .keep), (6, .keep), (7, .keep), (9, .keep), (10, .keep)]), (259231, [(5, .keep), (6, .keep), (7, .keep), (8, .keep), (9, .keep), (10, .keep), (11, .keep)])]
noncomputable def abacusref01_Less.s127 (x0 : Λ) : ASt := ⟨[(7, .own 0)], [.ints 22 .u64 x0]⟩
noncomputable def abacusref01_Less.s1013 (x0 : Λ) (x1 : Λ) (x2 : Int) (x3 : Int) (x4 : Λ) : ASt := ⟨[(5, .ro .u64 x0), (6, .ro .u64 x1), (7, .own 0), (8, .int .u64 x2), (9, .int .i64 x3)], [.ints 22 .u64 x4]⟩
noncomputable def abacusref01_Less.s32403 (x0 : Λ) (x1 : Λ) (x2 : Int) (x3 : Int) (x4 : Λ) : ASt := ⟨[(5, .ro .u64 x0), (6, .ro .u64 x1), (7, .own 0), (9, .int .i64 x2), (10, .int .u64 x3)], [.ints 22 .u64 x4]⟩
noncomputable def abacusref01_Less.s259231 (x0 : Λ) (x1 : Λ) (x2 : Int) (x3 : Int) (x4 : Int) (x5 : Int) (x6 : Λ) : ASt := ⟨[(5, .ro .u64 x0), (6, .ro .u64 x1), (7, .own 0), (8, .int .u64 x2), (9, .int .i64 x3), (10, .int .u64 x4), (11, .int .u64 x5)], [.ints 22 .u64 x6]⟩
noncomputable def abacusref01_Less.A (c153 : Λ→Ω (Λ)) (c154 : Λ→Ω (Λ)) (n : Nat) (J : Nat→(ASt→Ω (Λ))→ASt→Ω (Λ)) (q : Nat) (ms : List Nat) : ASt→Ω (Λ) := acont (abacusref01_Less.cfg c153 c154) J abacusref01_Less.cuts n q abacusref01_Less.code 1 ms (aend (abacusref01_Less.cfg c153 c154) Tryd.f146.results.toList [true] abacusref01_Less.sg.out)
theorem abacusref01_Less.e0 (c153 : Λ→Ω (Λ)) (c154 : Λ→Ω (Λ)) (n : Nat) (J : Nat→(ASt→Ω (Λ))→ASt→Ω (Λ)) (l0 : Λ) (l1 : Λ) : afun (abacusref01_Less.cfg c153 c154) J abacusref01_Less.cuts n abacusref01_Less.code Tryd.f146.results.toList [true] [.ro .u64 l0, .ro .u64 l1] abacusref01_Less.sg.out = abacusref01_Less.b0 c153 c154 (fun y0 y1 y2 y3 y4 => J 1013 (abacusref01_Less.A c153 c154 n J 1013 [n]) (abacusref01_Less.s1013 y0 y1 y2 y3 y4)) l0 l1 := by kernel_rfl
theorem abacusref01_Less.e127 (c153 : Λ→Ω (Λ)) (c154 : Λ→Ω (Λ)) (n : Nat) (J : Nat→(ASt→Ω (Λ))→ASt→Ω (Λ)) (x0 : Λ) : abacusref01_Less.A c153 c154 n J 127 [] (abacusref01_Less.s127 x0) = abacusref01_Less.b127 c153 c154 x0 := by kernel_rfl
theorem abacusref01_Less.e1013 (c153 : Λ→Ω (Λ)) (c154 : Λ→Ω (Λ)) (n : Nat) (J : Nat→(ASt→Ω (Λ))→ASt→Ω (Λ)) (m : Nat) (x0 : Λ) (x1 : Λ) (x2 : Int) (x3 : Int) (x4 : Λ) : abacusref01_Less.A c153 c154 n J 1013 [m + 1] (abacusref01_Less.s1013 x0 x1 x2 x3 x4) = abacusref01_Less.b1013 c153 c154 (fun y0 => J 127 (abacusref01_Less.A c153 c154 n J 127 []) (abacusref01_Less.s127 y0)) (fun y0 y1 y2 y3 y4 => J 32403 (abacusref01_Less.A c153 c154 n J 32403 [m]) (abacusref01_Less.s32403 y0 y1 y2 y3 y4)) x0 x1 x2 x3 x4 := by kernel_rfl
theorem abacusref01_Less.e32403 (c153 : Λ→Ω (Λ)) (c154 : Λ→Ω (Λ)) (n : Nat) (J : Nat→(ASt→Ω (Λ))→ASt→Ω (Λ)) (m1013 : Nat) (x0 : Λ) (x1 : Λ) (x2 : Int) (x3 : Int) (x4 : Λ) : abacusref01_Less.A c153 c154 n J 32403 [m1013] (abacusref01_Less.s32403 x0 x1 x2 x3 x4) = abacusref01_Less.b32403 c153 c154 (fun y0 y1 y2 y3 y4 y5 y6 => J 259231 (abacusref01_Less.A c153 c154 n J 259231 [m1013]) (abacusref01_Less.s259231 y0 y1 y2 y3 y4 y5 y6)) x0 x1 x2 x3 x4 := by kernel_rfl
theorem abacusref01_Less.e259231 (c153 : Λ→Ω (Λ)) (c154 : Λ→Ω (Λ)) (n : Nat) (J : Nat→(ASt→Ω (Λ))→ASt→Ω (Λ)) (m1013 : Nat) (x0 : Λ) (x1 : Λ) (x2 : Int) (x3 : Int) (x4 : Int) (x5 : Int) (x6 : Λ) : abacusref01_Less.A c153 c154 n J 259231 [m1013] (abacusref01_Less.s259231 x0 x1 x2 x3 x4 x5 x6) = abacusref01_Less.b259231 c153 c154 (fun y0 y1 y2 y3 y4 => J 1013 (abacusref01_Less.A c153 c154 n J 1013 [m1013]) (abacusref01_Less.s1013 y0 y1 y2 y3 y4)) x0 x1 x2 x3 x4 x5 x6 := by kernel_rfl
theorem abacusref01_Less.q127 (n : Nat) (x0 : Λ) : abacusref01_Less.A (abacusref01_halves.f n) (abacusref01_limbs.f n) n idJ 127 [] (abacusref01_Less.s127 x0) = abacusref01_Less.l127 n x0 := (abacusref01_Less.e127 (abacusref01_halves.f n) (abacusref01_limbs.f n) n idJ x0).trans (rfl)
theorem abacusref01_Less.q259231 (n : Nat) (m1013 : Nat) (x0 : Λ) (x1 : Λ) (x2 : Int) (x3 : Int) (x4 : Int) (x5 : Int) (x6 : Λ) : abacusref01_Less.A (abacusref01_halves.f n) (abacusref01_limbs.f n) n idJ 259231 [m1013] (abacusref01_Less.s259231 x0 x1 x2 x3 x4 x5 x6) = abacusref01_Less.l259231 n (fun y0 y1 y2 y3 y4 => abacusref01_Less.A (abacusref01_halves.f n) (abacusref01_limbs.f n) n idJ 1013 [m1013] (abacusref01_Less.s1013 y0 y1 y2 y3 y4)) x0 x1 x2 x3 x4 x5 x6 := (abacusref01_Less.e259231 (abacusref01_halves.f n) (abacusref01_limbs.f n) n idJ m1013 x0 x1 x2 x3 x4 x5 x6).trans (rfl)
theorem abacusref01_Less.q32403 (n : Nat) (m1013 : Nat) (x0 : Λ) (x1 : Λ) (x2 : Int) (x3 : Int) (x4 : Λ) : abacusref01_Less.A (abacusref01_halves.f n) (abacusref01_limbs.f n) n idJ 32403 [m1013] (abacusref01_Less.s32403 x0 x1 x2 x3 x4) = abacusref01_Less.l32403 n (fun y0 y1 y2 y3 y4 => abacusref01_Less.A (abacusref01_halves.f n) (abacusref01_limbs.f n) n idJ 1013 [m1013] (abacusref01_Less.s1013 y0 y1 y2 y3 y4)) x0 x1 x2 x3 x4 := (abacusref01_Less.e32403 (abacusref01_halves.f n) (abacusref01_limbs.f n) n idJ m1013 x0 x1 x2 x3 x4).trans (congrFun (congrFun (congrFun (congrFun (congrFun (congrArg (abacusref01_Less.b32403 (abacusref01_halves.f n) (abacusref01_limbs.f n)) (funext fun y0 => (funext fun y1 => (funext fun y2 => (funext fun y3 => (funext fun y4 => (funext fun y5 => (funext fun y6 => abacusref01_Less.q259231 n m1013 y0 y1 y2 y3 y4 y5 y6)))))))) x0) x1) x2) x3) x4)
theorem abacusref01_Less.q1013 (n : Nat) (m : Nat) : ∀ (x0 : Λ) (x1 : Λ) (x2 : Int) (x3 : Int) (x4 : Λ), abacusref01_Less.A (abacusref01_halves.f n) (abacusref01_limbs.f n) n idJ 1013 [m] (abacusref01_Less.s1013 x0 x1 x2 x3 x4) = abacusref01_Less.l1013 n m x0 x1 x2 x3 x4 := by
  induction m with
  | zero => intros; rfl
  | succ m ih =>
    intro x0 x1 x2 x3 x4
    refine (abacusref01_Less.e1013 (abacusref01_halves.f n) (abacusref01_limbs.f n) n idJ m x0 x1 x2 x3 x4).trans ?_
    exact congrFun (congrFun (congrFun (congrFun (congrFun (congr (congrArg (abacusref01_Less.b1013 (abacusref01_halves.f n) (abacusref01_limbs.f n)) (funext fun y0 => abacusref01_Less.q127 n y0)) ((funext fun y0 => (funext fun y1 => (funext fun y2 => (funext fun y3 => (funext fun y4 => abacusref01_Less.q32403 n m y0 y1 y2 y3 y4))))).trans (by rw [show (fun y0 y1 y2 y3 y4 => abacusref01_Less.A (abacusref01_halves.f n) (abacusref01_limbs.f n) n idJ 1013 [m] (abacusref01_Less.s1013 y0 y1 y2 y3 y4)) = _ from (funext fun y0 => (funext fun y1 => (funext fun y2 => (funext fun y3 => (funext fun y4 => ih y0 y1 y2 y3 y4)))))]))) x0) x1) x2) x3) x4
theorem abacusref01_Less.eq (n : Nat) (l0 : Λ) (l1 : Λ) : afun (abacusref01_Less.cfg (abacusref01_halves.f n) (abacusref01_limbs.f n)) idJ abacusref01_Less.cuts n abacusref01_Less.code Tryd.f146.results.toList [true] [.ro .u64 l0, .ro .u64 l1] abacusref01_Less.sg.out = abacusref01_Less.f n l0 l1 := (abacusref01_Less.e0 (abacusref01_halves.f n) (abacusref01_limbs.f n) n idJ l0 l1).trans (congrFun (congrFun (congrArg (abacusref01_Less.b0 (abacusref01_halves.f n) (abacusref01_limbs.f n)) (funext fun y0 => (funext fun y1 => (funext fun y2 => (funext fun y3 => (funext fun y4 => abacusref01_Less.q1013 n n y0 y1 y2 y3 y4)))))) l0) l1)
theorem abacusref01_Less.ok {n : Nat} {l0 : Λ} {l1 : Λ} {r : Λ} (h : abacusref01_Less.f n l0 l1 = some r) : CallD Tryd.prog HW 146 [.ro .u64 l0, .ro .u64 l1] (abacusref01_Less.sg.enc r) :=
  fun_some hwS Tryd.func146 (by kernel_rfl) (body := abacusref01_Less.code) (by kernel_rfl) tys_ok (c := abacusref01_Less.cfg (abacusref01_halves.f n) (abacusref01_limbs.f n)) (orCall_ok (abacusref01_halves.call_ok (n := n)) (orCall_ok (abacusref01_limbs.call_ok (n := n)) noCall_ok)) noW_ok (by kernel_rfl) (by kernel_rfl) (Nat.le_of_ble_eq_true (by kernel_rfl)) ((abacusref01_Less.eq n l0 l1).trans h)
noncomputable def abacusref01_Less.call {α : Type} (g : Λ→Λ→Ω (Λ)) (ds : List D) (K : List D→Ω α) : Ω α := match ds with
  | [.ro .u64 l0, .ro .u64 l1] => (g l0 l1).bind fun r => K (abacusref01_Less.sg.enc r)
  | _ => none
theorem abacusref01_Less.call_ok {α : Type} {n : Nat} (ds : List D) (K : List D→Ω α) (r : α) (h : abacusref01_Less.call (abacusref01_Less.f n) ds K = some r) : ∃ rs, K rs = some r ∧ CallD Tryd.prog HW 146 ds rs := by
  unfold abacusref01_Less.call at h
  split at h
  · obtain ⟨x, hx, hk⟩ := Option.bind_eq_some_iff.1 h
    exact ⟨_, hk, abacusref01_Less.ok (n := n) hx⟩
  · cases h
/-! ### abacusref05_sum: function 58 -/
noncomputable def abacusref05_sum.b0 (c69 : Λ→Int→Ω (Λ)) (c107 : Λ→Λ→Ω (Int)) (c144 : Bool→Λ→Λ→Int→Ω (Bool)) (c145 : Λ→Λ→Ω (Λ)) (c146 : Λ→Λ→Ω (Λ)) (k7 : Bool→Λ→Λ→Int→Bool→Λ→Λ→Int→Ω (Bool × Λ × Λ × Int)) (a0 : Bool) (l1 : Λ) (l2 : Λ) (a3 : Int) (a4 : Bool) (l5 : Λ) (l6 : Λ) (a7 : Int) : Ω (Bool × Λ × Λ × Int) := ((c144 a0 l1 l2 a3).bind fun t1 => (if t1 = true then ((c144 a4 l5 l6 a7).bind fun t2 => (if t2 = true then (if a0 = true then some (a4, ([] : Λ), l2, 0) else some (false, ([] : Λ), l2, 0)) else k7 a0 l1 l2 a3 a4 l5 l6 a7)) else k7 a0 l1 l2 a3 a4 l5 l6 a7))
noncomputable def abacusref05_sum.b7 (c69 : Λ→Int→Ω (Λ)) (c107 : Λ→Λ→Ω (Int)) (c144 : Bool→Λ→Λ→Int→Ω (Bool)) (c145 : Λ→Λ→Ω (Λ)) (c146 : Λ→Λ→Ω (Λ)) (k31 : Int→Int→Bool→Λ→Λ→Int→Bool→Λ→Λ→Ω (Bool × Λ × Λ × Int)) (x0 : Bool) (x1 : Λ) (x2 : Λ) (x3 : Int) (x4 : Bool) (x5 : Λ) (x6 : Λ) (x7 : Int) : Ω (Bool × Λ × Λ × Int) := (if x7 < x3 then k31 x7 x7 x0 x1 x2 x3 x4 x5 x6 else k31 x3 x7 x0 x1 x2 x3 x4 x5 x6)
noncomputable def abacusref05_sum.b31 (c69 : Λ→Int→Ω (Λ)) (c107 : Λ→Λ→Ω (Int)) (c144 : Bool→Λ→Λ→Int→Ω (Bool)) (c145 : Λ→Λ→Ω (Λ)) (c146 : Λ→Λ→Ω (Λ)) (x0 : Int) (x1 : Int) (x2 : Bool) (x3 : Λ) (x4 : Λ) (x5 : Int) (x6 : Bool) (x7 : Λ) (x8 : Λ) : Ω (Bool × Λ × Λ × Int) := ((c69 x3 (wrap64 (x5 - x0))).bind fun t1 => ((c69 x7 (wrap64 (x1 - x0))).bind fun t2 => ((c107 t1 t2).bind fun t3 => (if (x2 == x6) = true then ((c145 t1 t2).bind fun t4 => some (x2, t4, x4, x0)) else (if t3 = 0 then some (false, ([] : Λ), x4, x0) else (if t3 > 0 then ((c146 t1 t2).bind fun t5 => some (x2, t5, x4, x0)) else ((c146 t2 t1).bind fun t6 => some (x6, t6, x4, x0))))))))
noncomputable def abacusref05_sum.l31 (n : Nat) (x0 : Int) (x1 : Int) (x2 : Bool) (x3 : Λ) (x4 : Λ) (x5 : Int) (x6 : Bool) (x7 : Λ) (x8 : Λ) : Ω (Bool × Λ × Λ × Int) := abacusref05_sum.b31 (abacusref01_Lift.f n) (abacusref01_Cmp.f n) (abacusref05_none.f n) (abacusref01_Plus.f n) (abacusref01_Less.f n) x0 x1 x2 x3 x4 x5 x6 x7 x8
noncomputable def abacusref05_sum.l7 (n : Nat) (x0 : Bool) (x1 : Λ) (x2 : Λ) (x3 : Int) (x4 : Bool) (x5 : Λ) (x6 : Λ) (x7 : Int) : Ω (Bool × Λ × Λ × Int) := abacusref05_sum.b7 (abacusref01_Lift.f n) (abacusref01_Cmp.f n) (abacusref05_none.f n) (abacusref01_Plus.f n) (abacusref01_Less.f n) (abacusref05_sum.l31 n) x0 x1 x2 x3 x4 x5 x6 x7
noncomputable def abacusref05_sum.f (n : Nat) (a0 : Bool) (l1 : Λ) (l2 : Λ) (a3 : Int) (a4 : Bool) (l5 : Λ) (l6 : Λ) (a7 : Int) : Ω (Bool × Λ × Λ × Int) := abacusref05_sum.b0 (abacusref01_Lift.f n) (abacusref01_Cmp.f n) (abacusref05_none.f n) (abacusref01_Plus.f n) (abacusref01_Less.f n) (abacusref05_sum.l7 n) a0 l1 l2 a3 a4 l5 l6 a7
noncomputable def abacusref05_sum.sg : Sig (Bool × Λ × Λ × Int) := s1 (sAgg (s2 (sBool) (s2 (sRow .u64) (s2 (sRow .u64) (s1 (sInt .i64))))))
noncomputable def abacusref05_sum.code : Code := (Tryd.f58.body).getD .skip
noncomputable def abacusref05_sum.cfg (c69 : Λ→Int→Ω (Λ)) (c107 : Λ→Λ→Ω (Int)) (c144 : Bool→Λ→Λ→Int→Ω (Bool)) (c145 : Λ→Λ→Ω (Λ)) (c146 : Λ→Λ→Ω (Λ)) : Cfg (Bool × Λ × Λ × Int) := { T := tys, call := orCall 69 (abacusref01_Lift.call c69) (orCall 107 (abacusref01_Cmp.call c107) (orCall 144 (abacusref05_none.call c144) (orCall 145 (abacusref01_Plus.call c145) (orCall 146 (abacusref01_Less.call c146) (noCall))))) }
noncomputable def abacusref05_sum.cuts : List (Nat × List (Nat × Want)) := [(7, [(2, .keep), (3, .keep), (4, .keep)]), (31, [(2, .keep), (3, .keep), (4, .keep), (5, .keep)])]
noncomputable def abacusref05_sum.s7 (x0 : Bool) (x1 : Λ) (x2 : Λ) (x3 : Int) (x4 : Bool) (x5 : Λ) (x6 : Λ) (x7 : Int) : ASt := ⟨[(2, .ptr 0 0), (3, .ptr 1 0), (4, .ptr 2 0)], [.cells 79 [.bool x0, .ro .u64 x1, .ro .u64 x2, .int .i64 x3], .cells 79 [.bool x4, .ro .u64 x5, .ro .u64 x6, .int .i64 x7], .cells 79 [.bool false, .nil, .nil, .int .i64 0]]⟩
noncomputable def abacusref05_sum.s31 (x0 : Int) (x1 : Int) (x2 : Bool) (x3 : Λ) (x4 : Λ) (x5 : Int) (x6 : Bool) (x7 : Λ) (x8 : Λ) : ASt := ⟨[(2, .ptr 0 0), (3, .ptr 1 0), (4, .ptr 2 0), (5, .int .i64 x0)], [.cells 79 [.bool x2, .ro .u64 x3, .ro .u64 x4, .int .i64 x5], .cells 79 [.bool x6, .ro .u64 x7, .ro .u64 x8, .int .i64 x1], .cells 79 [.bool false, .nil, .nil, .int .i64 0]]⟩
noncomputable def abacusref05_sum.A (c69 : Λ→Int→Ω (Λ)) (c107 : Λ→Λ→Ω (Int)) (c144 : Bool→Λ→Λ→Int→Ω (Bool)) (c145 : Λ→Λ→Ω (Λ)) (c146 : Λ→Λ→Ω (Λ)) (n : Nat) (J : Nat→(ASt→Ω (Bool × Λ × Λ × Int))→ASt→Ω (Bool × Λ × Λ × Int)) (q : Nat) (ms : List Nat) : ASt→Ω (Bool × Λ × Λ × Int) := acont (abacusref05_sum.cfg c69 c107 c144 c145 c146) J abacusref05_sum.cuts n q abacusref05_sum.code 1 ms (aend (abacusref05_sum.cfg c69 c107 c144 c145 c146) Tryd.f58.results.toList [false] abacusref05_sum.sg.out)
theorem abacusref05_sum.e0 (c69 : Λ→Int→Ω (Λ)) (c107 : Λ→Λ→Ω (Int)) (c144 : Bool→Λ→Λ→Int→Ω (Bool)) (c145 : Λ→Λ→Ω (Λ)) (c146 : Λ→Λ→Ω (Λ)) (n : Nat) (J : Nat→(ASt→Ω (Bool × Λ × Λ × Int))→ASt→Ω (Bool × Λ × Λ × Int)) (a0 : Bool) (l1 : Λ) (l2 : Λ) (a3 : Int) (a4 : Bool) (l5 : Λ) (l6 : Λ) (a7 : Int) : afun (abacusref05_sum.cfg c69 c107 c144 c145 c146) J abacusref05_sum.cuts n abacusref05_sum.code Tryd.f58.results.toList [false] [.agg [.bool a0, .ro .u64 l1, .ro .u64 l2, .int .i64 a3], .agg [.bool a4, .ro .u64 l5, .ro .u64 l6, .int .i64 a7]] abacusref05_sum.sg.out = abacusref05_sum.b0 c69 c107 c144 c145 c146 (fun y0 y1 y2 y3 y4 y5 y6 y7 => J 7 (abacusref05_sum.A c69 c107 c144 c145 c146 n J 7 []) (abacusref05_sum.s7 y0 y1 y2 y3 y4 y5 y6 y7)) a0 l1 l2 a3 a4 l5 l6 a7 := by kernel_rfl
theorem abacusref05_sum.e7 (c69 : Λ→Int→Ω (Λ)) (c107 : Λ→Λ→Ω (Int)) (c144 : Bool→Λ→Λ→Int→Ω (Bool)) (c145 : Λ→Λ→Ω (Λ)) (c146 : Λ→Λ→Ω (Λ)) (n : Nat) (J : Nat→(ASt→Ω (Bool × Λ × Λ × Int))→ASt→Ω (Bool × Λ × Λ × Int)) (x0 : Bool) (x1 : Λ) (x2 : Λ) (x3 : Int) (x4 : Bool) (x5 : Λ) (x6 : Λ) (x7 : Int) : abacusref05_sum.A c69 c107 c144 c145 c146 n J 7 [] (abacusref05_sum.s7 x0 x1 x2 x3 x4 x5 x6 x7) = abacusref05_sum.b7 c69 c107 c144 c145 c146 (fun y0 y1 y2 y3 y4 y5 y6 y7 y8 => J 31 (abacusref05_sum.A c69 c107 c144 c145 c146 n J 31 []) (abacusref05_sum.s31 y0 y1 y2 y3 y4 y5 y6 y7 y8)) x0 x1 x2 x3 x4 x5 x6 x7 := by kernel_rfl
theorem abacusref05_sum.e31 (c69 : Λ→Int→Ω (Λ)) (c107 : Λ→Λ→Ω (Int)) (c144 : Bool→Λ→Λ→Int→Ω (Bool)) (c145 : Λ→Λ→Ω (Λ)) (c146 : Λ→Λ→Ω (Λ)) (n : Nat) (J : Nat→(ASt→Ω (Bool × Λ × Λ × Int))→ASt→Ω (Bool × Λ × Λ × Int)) (x0 : Int) (x1 : Int) (x2 : Bool) (x3 : Λ) (x4 : Λ) (x5 : Int) (x6 : Bool) (x7 : Λ) (x8 : Λ) : abacusref05_sum.A c69 c107 c144 c145 c146 n J 31 [] (abacusref05_sum.s31 x0 x1 x2 x3 x4 x5 x6 x7 x8) = abacusref05_sum.b31 c69 c107 c144 c145 c146 x0 x1 x2 x3 x4 x5 x6 x7 x8 := by kernel_rfl
theorem abacusref05_sum.q31 (n : Nat) (x0 : Int) (x1 : Int) (x2 : Bool) (x3 : Λ) (x4 : Λ) (x5 : Int) (x6 : Bool) (x7 : Λ) (x8 : Λ) : abacusref05_sum.A (abacusref01_Lift.f n) (abacusref01_Cmp.f n) (abacusref05_none.f n) (abacusref01_Plus.f n) (abacusref01_Less.f n) n idJ 31 [] (abacusref05_sum.s31 x0 x1 x2 x3 x4 x5 x6 x7 x8) = abacusref05_sum.l31 n x0 x1 x2 x3 x4 x5 x6 x7 x8 := (abacusref05_sum.e31 (abacusref01_Lift.f n) (abacusref01_Cmp.f n) (abacusref05_none.f n) (abacusref01_Plus.f n) (abacusref01_Less.f n) n idJ x0 x1 x2 x3 x4 x5 x6 x7 x8).trans (rfl)
theorem abacusref05_sum.q7 (n : Nat) (x0 : Bool) (x1 : Λ) (x2 : Λ) (x3 : Int) (x4 : Bool) (x5 : Λ) (x6 : Λ) (x7 : Int) : abacusref05_sum.A (abacusref01_Lift.f n) (abacusref01_Cmp.f n) (abacusref05_none.f n) (abacusref01_Plus.f n) (abacusref01_Less.f n) n idJ 7 [] (abacusref05_sum.s7 x0 x1 x2 x3 x4 x5 x6 x7) = abacusref05_sum.l7 n x0 x1 x2 x3 x4 x5 x6 x7 := (abacusref05_sum.e7 (abacusref01_Lift.f n) (abacusref01_Cmp.f n) (abacusref05_none.f n) (abacusref01_Plus.f n) (abacusref01_Less.f n) n idJ x0 x1 x2 x3 x4 x5 x6 x7).trans (congrFun (congrFun (congrFun (congrFun (congrFun (congrFun (congrFun (congrFun (congrArg (abacusref05_sum.b7 (abacusref01_Lift.f n) (abacusref01_Cmp.f n) (abacusref05_none.f n) (abacusref01_Plus.f n) (abacusref01_Less.f n)) (funext fun y0 => (funext fun y1 => (funext fun y2 => (funext fun y3 => (funext fun y4 => (funext fun y5 => (funext fun y6 => (funext fun y7 => (funext fun y8 => abacusref05_sum.q31 n y0 y1 y2 y3 y4 y5 y6 y7 y8)))))))))) x0) x1) x2) x3) x4) x5) x6) x7)
theorem abacusref05_sum.eq (n : Nat) (a0 : Bool) (l1 : Λ) (l2 : Λ) (a3 : Int) (a4 : Bool) (l5 : Λ) (l6 : Λ) (a7 : Int) : afun (abacusref05_sum.cfg (abacusref01_Lift.f n) (abacusref01_Cmp.f n) (abacusref05_none.f n) (abacusref01_Plus.f n) (abacusref01_Less.f n)) idJ abacusref05_sum.cuts n abacusref05_sum.code Tryd.f58.results.toList [false] [.agg [.bool a0, .ro .u64 l1, .ro .u64 l2, .int .i64 a3], .agg [.bool a4, .ro .u64 l5, .ro .u64 l6, .int .i64 a7]] abacusref05_sum.sg.out = abacusref05_sum.f n a0 l1 l2 a3 a4 l5 l6 a7 := (abacusref05_sum.e0 (abacusref01_Lift.f n) (abacusref01_Cmp.f n) (abacusref05_none.f n) (abacusref01_Plus.f n) (abacusref01_Less.f n) n idJ a0 l1 l2 a3 a4 l5 l6 a7).trans (congrFun (congrFun (congrFun (congrFun (congrFun (congrFun (congrFun (congrFun (congrArg (abacusref05_sum.b0 (abacusref01_Lift.f n) (abacusref01_Cmp.f n) (abacusref05_none.f n) (abacusref01_Plus.f n) (abacusref01_Less.f n)) (funext fun y0 => (funext fun y1 => (funext fun y2 => (funext fun y3 => (funext fun y4 => (funext fun y5 => (funext fun y6 => (funext fun y7 => abacusref05_sum.q7 n y0 y1 y2 y3 y4 y5 y6 y7))))))))) a0) l1) l2) a3) a4) l5) l6) a7)
theorem abacusref05_sum.ok {n : Nat} {a0 : Bool} {l1 : Λ} {l2 : Λ} {a3 : Int} {a4 : Bool} {l5 : Λ} {l6 : Λ} {a7 : Int} {r : Bool × Λ × Λ × Int} (h : abacusref05_sum.f n a0 l1 l2 a3 a4 l5 l6 a7 = some r) : CallD Tryd.prog HW 58 [.agg [.bool a0, .ro .u64 l1, .ro .u64 l2, .int .i64 a3], .agg [.bool a4, .ro .u64 l5, .ro .u64 l6, .int .i64 a7]] (abacusref05_sum.sg.enc r) :=
  fun_some hwS Tryd.func58 (by kernel_rfl) (body := abacusref05_sum.code) (by kernel_rfl) tys_ok (c := abacusref05_sum.cfg (abacusref01_Lift.f n) (abacusref01_Cmp.f n) (abacusref05_none.f n) (abacusref01_Plus.f n) (abacusref01_Less.f n)) (orCall_ok (abacusref01_Lift.call_ok (n := n)) (orCall_ok (abacusref01_Cmp.call_ok (n := n)) (orCall_ok (abacusref05_none.call_ok (n := n)) (orCall_ok (abacusref01_Plus.call_ok (n := n)) (orCall_ok (abacusref01_Less.call_ok (n := n)) noCall_ok))))) noW_ok (by kernel_rfl) (by kernel_rfl) (Nat.le_of_ble_eq_true (by kernel_rfl)) ((abacusref05_sum.eq n a0 l1 l2 a3 a4 l5 l6 a7).trans h)
noncomputable def abacusref05_sum.call {α : Type} (g : Bool→Λ→Λ→Int→Bool→Λ→Λ→Int→Ω (Bool × Λ × Λ × Int)) (ds : List D) (K : List D→Ω α) : Ω α := match ds with
  | [.agg [.bool a0, .ro .u64 l1, .ro .u64 l2, .int .i64 a3], .agg [.bool a4, .ro .u64 l5, .ro .u64 l6, .int .i64 a7]] => (g a0 l1 l2 a3 a4 l5 l6 a7).bind fun r => K (abacusref05_sum.sg.enc r)
  | _ => none
theorem abacusref05_sum.call_ok {α : Type} {n : Nat} (ds : List D) (K : List D→Ω α) (r : α) (h : abacusref05_sum.call (abacusref05_sum.f n) ds K = some r) : ∃ rs, K rs = some r ∧ CallD Tryd.prog HW 58 ds rs := by
  unfold abacusref05_sum.call at h
  split at h
  · obtain ⟨x, hx, hk⟩ := Option.bind_eq_some_iff.1 h
    exact ⟨_, hk, abacusref05_sum.ok (n := n) hx⟩
  · cases h
/-! ### abacusref05_Add: function 19 -/
noncomputable def abacusref05_Add.b0 (c54 : Int→Int→Ω (Bool)) (c55 : Int→Ω (Bool)) (c56 : Int→Ω (Bool)) (c57 : Bool→Λ→Λ→Int→Ω (Int)) (c58 : Bool→Λ→Λ→Int→Bool→Λ→Λ→Int→Ω (Bool × Λ × Λ × Int)) (c59 : Int→Ω (Bool × Λ × Λ × Int)) (k103 : Int→Int→Bool→Ω (Int)) (a0 : Int) (a1 : Int) : Ω (Int) := ((c54 a0 a1).bind fun t1 => (if t1 = true then some 9221120237041090560 else ((c55 a0).bind fun t2 => (if t2 = true then ((c55 a1).bind fun t3 => (if t3 = true then ((c56 a0).bind fun t4 => ((c56 a1).bind fun t5 => k103 a0 a1 (t4 != t5))) else k103 a0 a1 false)) else k103 a0 a1 false))))
noncomputable def abacusref05_Add.b103 (c54 : Int→Int→Ω (Bool)) (c55 : Int→Ω (Bool)) (c56 : Int→Ω (Bool)) (c57 : Bool→Λ→Λ→Int→Ω (Int)) (c58 : Bool→Λ→Λ→Int→Bool→Λ→Λ→Int→Ω (Bool × Λ × Λ × Int)) (c59 : Int→Ω (Bool × Λ × Λ × Int)) (x0 : Int) (x1 : Int) (x2 : Bool) : Ω (Int) := (if x2 = true then some 9221120237041090560 else ((c55 x0).bind fun t1 => (if t1 = true then some x0 else ((c55 x1).bind fun t2 => (if t2 = true then some x1 else ((c59 x0).bind fun t3 => ((c59 x1).bind fun t4 => ((c58 t3.1 t3.2.1 t3.2.2.1 t3.2.2.2 t4.1 t4.2.1 t4.2.2.1 t4.2.2.2).bind fun t5 => ((c57 t5.1 t5.2.1 t5.2.2.1 t5.2.2.2).bind fun t6 => some t6)))))))))
noncomputable def abacusref05_Add.l103 (n : Nat) (x0 : Int) (x1 : Int) (x2 : Bool) : Ω (Int) := abacusref05_Add.b103 abacusref05_anyNaN.f abacusref05_infinite.f abacusref05_negative.f (abacusref05_rounded.f n) (abacusref05_sum.f n) abacusref05_of.f x0 x1 x2
noncomputable def abacusref05_Add.f (n : Nat) (a0 : Int) (a1 : Int) : Ω (Int) := abacusref05_Add.b0 abacusref05_anyNaN.f abacusref05_infinite.f abacusref05_negative.f (abacusref05_rounded.f n) (abacusref05_sum.f n) abacusref05_of.f (abacusref05_Add.l103 n) a0 a1
noncomputable def abacusref05_Add.sg : Sig (Int) := s1 (sInt .u64)
noncomputable def abacusref05_Add.code : Code := (Tryd.f19.body).getD .skip
noncomputable def abacusref05_Add.cfg (c54 : Int→Int→Ω (Bool)) (c55 : Int→Ω (Bool)) (c56 : Int→Ω (Bool)) (c57 : Bool→Λ→Λ→Int→Ω (Int)) (c58 : Bool→Λ→Λ→Int→Bool→Λ→Λ→Int→Ω (Bool × Λ × Λ × Int)) (c59 : Int→Ω (Bool × Λ × Λ × Int)) : Cfg (Int) := { T := tys, call := orCall 54 (abacusref05_anyNaN.call c54) (orCall 55 (abacusref05_infinite.call c55) (orCall 56 (abacusref05_negative.call c56) (orCall 57 (abacusref05_rounded.call c57) (orCall 58 (abacusref05_sum.call c58) (orCall 59 (abacusref05_of.call c59) (noCall)))))) }
noncomputable def abacusref05_Add.cuts : List (Nat × List (Nat × Want)) := [(103, [(0, .keep), (1, .keep), (9, .keep)])]
noncomputable def abacusref05_Add.s103 (x0 : Int) (x1 : Int) (x2 : Bool) : ASt := ⟨[(0, .int .u64 x0), (1, .int .u64 x1), (9, .bool x2)], []⟩
noncomputable def abacusref05_Add.A (c54 : Int→Int→Ω (Bool)) (c55 : Int→Ω (Bool)) (c56 : Int→Ω (Bool)) (c57 : Bool→Λ→Λ→Int→Ω (Int)) (c58 : Bool→Λ→Λ→Int→Bool→Λ→Λ→Int→Ω (Bool × Λ × Λ × Int)) (c59 : Int→Ω (Bool × Λ × Λ × Int)) (n : Nat) (J : Nat→(ASt→Ω (Int))→ASt→Ω (Int)) (q : Nat) (ms : List Nat) : ASt→Ω (Int) := acont (abacusref05_Add.cfg c54 c55 c56 c57 c58 c59) J abacusref05_Add.cuts n q abacusref05_Add.code 1 ms (aend (abacusref05_Add.cfg c54 c55 c56 c57 c58 c59) Tryd.f19.results.toList [false] abacusref05_Add.sg.out)
theorem abacusref05_Add.e0 (c54 : Int→Int→Ω (Bool)) (c55 : Int→Ω (Bool)) (c56 : Int→Ω (Bool)) (c57 : Bool→Λ→Λ→Int→Ω (Int)) (c58 : Bool→Λ→Λ→Int→Bool→Λ→Λ→Int→Ω (Bool × Λ × Λ × Int)) (c59 : Int→Ω (Bool × Λ × Λ × Int)) (n : Nat) (J : Nat→(ASt→Ω (Int))→ASt→Ω (Int)) (a0 : Int) (a1 : Int) : afun (abacusref05_Add.cfg c54 c55 c56 c57 c58 c59) J abacusref05_Add.cuts n abacusref05_Add.code Tryd.f19.results.toList [false] [.int .u64 a0, .int .u64 a1] abacusref05_Add.sg.out = abacusref05_Add.b0 c54 c55 c56 c57 c58 c59 (fun y0 y1 y2 => J 103 (abacusref05_Add.A c54 c55 c56 c57 c58 c59 n J 103 []) (abacusref05_Add.s103 y0 y1 y2)) a0 a1 := by kernel_rfl
theorem abacusref05_Add.e103 (c54 : Int→Int→Ω (Bool)) (c55 : Int→Ω (Bool)) (c56 : Int→Ω (Bool)) (c57 : Bool→Λ→Λ→Int→Ω (Int)) (c58 : Bool→Λ→Λ→Int→Bool→Λ→Λ→Int→Ω (Bool × Λ × Λ × Int)) (c59 : Int→Ω (Bool × Λ × Λ × Int)) (n : Nat) (J : Nat→(ASt→Ω (Int))→ASt→Ω (Int)) (x0 : Int) (x1 : Int) (x2 : Bool) : abacusref05_Add.A c54 c55 c56 c57 c58 c59 n J 103 [] (abacusref05_Add.s103 x0 x1 x2) = abacusref05_Add.b103 c54 c55 c56 c57 c58 c59 x0 x1 x2 := by kernel_rfl
theorem abacusref05_Add.q103 (n : Nat) (x0 : Int) (x1 : Int) (x2 : Bool) : abacusref05_Add.A abacusref05_anyNaN.f abacusref05_infinite.f abacusref05_negative.f (abacusref05_rounded.f n) (abacusref05_sum.f n) abacusref05_of.f n idJ 103 [] (abacusref05_Add.s103 x0 x1 x2) = abacusref05_Add.l103 n x0 x1 x2 := (abacusref05_Add.e103 abacusref05_anyNaN.f abacusref05_infinite.f abacusref05_negative.f (abacusref05_rounded.f n) (abacusref05_sum.f n) abacusref05_of.f n idJ x0 x1 x2).trans (rfl)
theorem abacusref05_Add.eq (n : Nat) (a0 : Int) (a1 : Int) : afun (abacusref05_Add.cfg abacusref05_anyNaN.f abacusref05_infinite.f abacusref05_negative.f (abacusref05_rounded.f n) (abacusref05_sum.f n) abacusref05_of.f) idJ abacusref05_Add.cuts n abacusref05_Add.code Tryd.f19.results.toList [false] [.int .u64 a0, .int .u64 a1] abacusref05_Add.sg.out = abacusref05_Add.f n a0 a1 := (abacusref05_Add.e0 abacusref05_anyNaN.f abacusref05_infinite.f abacusref05_negative.f (abacusref05_rounded.f n) (abacusref05_sum.f n) abacusref05_of.f n idJ a0 a1).trans (congrFun (congrFun (congrArg (abacusref05_Add.b0 abacusref05_anyNaN.f abacusref05_infinite.f abacusref05_negative.f (abacusref05_rounded.f n) (abacusref05_sum.f n) abacusref05_of.f) (funext fun y0 => (funext fun y1 => (funext fun y2 => abacusref05_Add.q103 n y0 y1 y2)))) a0) a1)
theorem abacusref05_Add.ok {n : Nat} {a0 : Int} {a1 : Int} {r : Int} (h : abacusref05_Add.f n a0 a1 = some r) : CallD Tryd.prog HW 19 [.int .u64 a0, .int .u64 a1] (abacusref05_Add.sg.enc r) :=
  fun_some hwS Tryd.func19 (by kernel_rfl) (body := abacusref05_Add.code) (by kernel_rfl) tys_ok (c := abacusref05_Add.cfg abacusref05_anyNaN.f abacusref05_infinite.f abacusref05_negative.f (abacusref05_rounded.f n) (abacusref05_sum.f n) abacusref05_of.f) (orCall_ok (abacusref05_anyNaN.call_ok (n := n)) (orCall_ok (abacusref05_infinite.call_ok (n := n)) (orCall_ok (abacusref05_negative.call_ok (n := n)) (orCall_ok (abacusref05_rounded.call_ok (n := n)) (orCall_ok (abacusref05_sum.call_ok (n := n)) (orCall_ok (abacusref05_of.call_ok (n := n)) noCall_ok)))))) noW_ok (by kernel_rfl) (by kernel_rfl) (Nat.le_of_ble_eq_true (by kernel_rfl)) ((abacusref05_Add.eq n a0 a1).trans h)
noncomputable def abacusref05_Add.call {α : Type} (g : Int→Int→Ω (Int)) (ds : List D) (K : List D→Ω α) : Ω α := match ds with
  | [.int .u64 a0, .int .u64 a1] => (g a0 a1).bind fun r => K (abacusref05_Add.sg.enc r)
  | _ => none
theorem abacusref05_Add.call_ok {α : Type} {n : Nat} (ds : List D) (K : List D→Ω α) (r : α) (h : abacusref05_Add.call (abacusref05_Add.f n) ds K = some r) : ∃ rs, K rs = some r ∧ CallD Tryd.prog HW 19 ds rs := by
  unfold abacusref05_Add.call at h
  split at h
  · obtain ⟨x, hx, hk⟩ := Option.bind_eq_some_iff.1 h
    exact ⟨_, hk, abacusref05_Add.ok (n := n) hx⟩
  · cases h
/-! ### abacusref05_Fma: function 25 -/
noncomputable def abacusref05_Fma.b0 (c19 : Int→Int→Ω (Int)) (c21 : Int→Int→Ω (Int)) (c54 : Int→Int→Ω (Bool)) (c55 : Int→Ω (Bool)) (c56 : Int→Ω (Bool)) (c57 : Bool→Λ→Λ→Int→Ω (Int)) (c58 : Bool→Λ→Λ→Int→Bool→Λ→Λ→Int→Ω (Bool × Λ × Λ × Int)) (c59 : Int→Ω (Bool × Λ × Λ × Int)) (c62 : Bool→Int→Ω (Int)) (c63 : Bool→Λ→Λ→Int→Bool→Λ→Λ→Int→Ω (Bool × Λ × Λ × Int)) (c67 : Int→Ω (Bool)) (k29 : Int→Int→Int→Bool→Ω (Int)) (a0 : Int) (a1 : Int) (a2 : Int) : Ω (Int) := ((c54 a0 a1).bind fun t1 => (if t1 = true then some 9221120237041090560 else ((c67 a2).bind fun t2 => (if t2 = true then some 9221120237041090560 else ((c55 a0).bind fun t3 => (if t3 = true then k29 a0 a1 a2 true else ((c55 a1).bind fun t4 => (if t4 = true then k29 a0 a1 a2 true else ((c55 a2).bind fun t5 => k29 a0 a1 a2 t5)))))))))
noncomputable def abacusref05_Fma.b15 (c19 : Int→Int→Ω (Int)) (c21 : Int→Int→Ω (Int)) (c54 : Int→Int→Ω (Bool)) (c55 : Int→Ω (Bool)) (c56 : Int→Ω (Bool)) (c57 : Bool→Λ→Λ→Int→Ω (Int)) (c58 : Bool→Λ→Λ→Int→Bool→Λ→Λ→Int→Ω (Bool × Λ × Λ × Int)) (c59 : Int→Ω (Bool × Λ × Λ × Int)) (c62 : Bool→Int→Ω (Int)) (c63 : Bool→Λ→Λ→Int→Bool→Λ→Λ→Int→Ω (Bool × Λ × Λ × Int)) (c67 : Int→Ω (Bool)) (x0 : Int) (x1 : Int) (x2 : Int) : Ω (Int) := ((c59 x0).bind fun t1 => ((c59 x1).bind fun t2 => ((c63 t1.1 t1.2.1 t1.2.2.1 t1.2.2.2 t2.1 t2.2.1 t2.2.2.1 t2.2.2.2).bind fun t3 => ((c59 x2).bind fun t4 => ((c58 t3.1 t3.2.1 t3.2.2.1 t3.2.2.2 t4.1 t4.2.1 t4.2.2.1 t4.2.2.2).bind fun t5 => ((c57 t5.1 t5.2.1 t5.2.2.1 t5.2.2.2).bind fun t6 => some t6))))))
noncomputable def abacusref05_Fma.b29 (c19 : Int→Int→Ω (Int)) (c21 : Int→Int→Ω (Int)) (c54 : Int→Int→Ω (Bool)) (c55 : Int→Ω (Bool)) (c56 : Int→Ω (Bool)) (c57 : Bool→Λ→Λ→Int→Ω (Int)) (c58 : Bool→Λ→Λ→Int→Bool→Λ→Λ→Int→Ω (Bool × Λ × Λ × Int)) (c59 : Int→Ω (Bool × Λ × Λ × Int)) (c62 : Bool→Int→Ω (Int)) (c63 : Bool→Λ→Λ→Int→Bool→Λ→Λ→Int→Ω (Bool × Λ × Λ × Int)) (c67 : Int→Ω (Bool)) (k15 : Int→Int→Int→Ω (Int)) (k235 : Int→Int→Ω (Int)) (x0 : Int) (x1 : Int) (x2 : Int) (x3 : Bool) : Ω (Int) := (if x3 = true then ((c56 x0).bind fun t1 => ((c56 x1).bind fun t2 => ((c62 (t1 != t2) 0).bind fun t3 => ((c55 x0).bind fun t4 => (if t4 = true then ((c21 x0 x1).bind fun t6 => k235 x2 t6) else ((c55 x1).bind fun t5 => (if t5 = true then ((c21 x0 x1).bind fun t7 => k235 x2 t7) else k235 x2 t3))))))) else k15 x0 x1 x2)
noncomputable def abacusref05_Fma.b235 (c19 : Int→Int→Ω (Int)) (c21 : Int→Int→Ω (Int)) (c54 : Int→Int→Ω (Bool)) (c55 : Int→Ω (Bool)) (c56 : Int→Ω (Bool)) (c57 : Bool→Λ→Λ→Int→Ω (Int)) (c58 : Bool→Λ→Λ→Int→Bool→Λ→Λ→Int→Ω (Bool × Λ × Λ × Int)) (c59 : Int→Ω (Bool × Λ × Λ × Int)) (c62 : Bool→Int→Ω (Int)) (c63 : Bool→Λ→Λ→Int→Bool→Λ→Λ→Int→Ω (Bool × Λ × Λ × Int)) (c67 : Int→Ω (Bool)) (x0 : Int) (x1 : Int) : Ω (Int) := ((c19 x1 x0).bind fun t1 => some t1)
noncomputable def abacusref05_Fma.l15 (n : Nat) (x0 : Int) (x1 : Int) (x2 : Int) : Ω (Int) := abacusref05_Fma.b15 (abacusref05_Add.f n) (abacusref05_Mul.f n) abacusref05_anyNaN.f abacusref05_infinite.f abacusref05_negative.f (abacusref05_rounded.f n) (abacusref05_sum.f n) abacusref05_of.f abacusref05_signed.f (abacusref05_product.f n) abacusref04_IsNaN.f x0 x1 x2
noncomputable def abacusref05_Fma.l235 (n : Nat) (x0 : Int) (x1 : Int) : Ω (Int) := abacusref05_Fma.b235 (abacusref05_Add.f n) (abacusref05_Mul.f n) abacusref05_anyNaN.f abacusref05_infinite.f abacusref05_negative.f (abacusref05_rounded.f n) (abacusref05_sum.f n) abacusref05_of.f abacusref05_signed.f (abacusref05_product.f n) abacusref04_IsNaN.f x0 x1
noncomputable def abacusref05_Fma.l29 (n : Nat) (x0 : Int) (x1 : Int) (x2 : Int) (x3 : Bool) : Ω (Int) := abacusref05_Fma.b29 (abacusref05_Add.f n) (abacusref05_Mul.f n) abacusref05_anyNaN.f abacusref05_infinite.f abacusref05_negative.f (abacusref05_rounded.f n) (abacusref05_sum.f n) abacusref05_of.f abacusref05_signed.f (abacusref05_product.f n) abacusref04_IsNaN.f (abacusref05_Fma.l15 n) (abacusref05_Fma.l235 n) x0 x1 x2 x3
noncomputable def abacusref05_Fma.f (n : Nat) (a0 : Int) (a1 : Int) (a2 : Int) : Ω (Int) := abacusref05_Fma.b0 (abacusref05_Add.f n) (abacusref05_Mul.f n) abacusref05_anyNaN.f abacusref05_infinite.f abacusref05_negative.f (abacusref05_rounded.f n) (abacusref05_sum.f n) abacusref05_of.f abacusref05_signed.f (abacusref05_product.f n) abacusref04_IsNaN.f (abacusref05_Fma.l29 n) a0 a1 a2
noncomputable def abacusref05_Fma.sg : Sig (Int) := s1 (sInt .u64)
noncomputable def abacusref05_Fma.code : Code := (Tryd.f25.body).getD .skip
noncomputable def abacusref05_Fma.cfg (c19 : Int→Int→Ω (Int)) (c21 : Int→Int→Ω (Int)) (c54 : Int→Int→Ω (Bool)) (c55 : Int→Ω (Bool)) (c56 : Int→Ω (Bool)) (c57 : Bool→Λ→Λ→Int→Ω (Int)) (c58 : Bool→Λ→Λ→Int→Bool→Λ→Λ→Int→Ω (Bool × Λ × Λ × Int)) (c59 : Int→Ω (Bool × Λ × Λ × Int)) (c62 : Bool→Int→Ω (Int)) (c63 : Bool→Λ→Λ→Int→Bool→Λ→Λ→Int→Ω (Bool × Λ × Λ × Int)) (c67 : Int→Ω (Bool)) : Cfg (Int) := { T := tys, call := orCall 19 (abacusref05_Add.call c19) (orCall 21 (abacusref05_Mul.call c21) (orCall 54 (abacusref05_anyNaN.call c54) (orCall 55 (abacusref05_infinite.call c55) (orCall 56 (abacusref05_negative.call c56) (orCall 57 (abacusref05_rounded.call c57) (orCall 58 (abacusref05_sum.call c58) (orCall 59 (abacusref05_of.call c59) (orCall 62 (abacusref05_signed.call c62) (orCall 63 (abacusref05_product.call c63) (orCall 67 (abacusref04_IsNaN.call c67) (noCall))))))))))) }
noncomputable def abacusref05_Fma.cuts : List (Nat × List (Nat × Want)) := [(15, [(0, .keep), (1, .keep), (2, .keep)]), (29, [(0, .keep), (1, .keep), (2, .keep), (24, .keep)]), (235, [(2, .keep), (7, .keep)])]
noncomputable def abacusref05_Fma.s15 (x0 : Int) (x1 : Int) (x2 : Int) : ASt := ⟨[(0, .int .u64 x0), (1, .int .u64 x1), (2, .int .u64 x2)], []⟩
noncomputable def abacusref05_Fma.s29 (x0 : Int) (x1 : Int) (x2 : Int) (x3 : Bool) : ASt := ⟨[(0, .int .u64 x0), (1, .int .u64 x1), (2, .int .u64 x2), (24, .bool x3)], []⟩
noncomputable def abacusref05_Fma.s235 (x0 : Int) (x1 : Int) : ASt := ⟨[(2, .int .u64 x0), (7, .int .u64 x1)], []⟩
noncomputable def abacusref05_Fma.A (c19 : Int→Int→Ω (Int)) (c21 : Int→Int→Ω (Int)) (c54 : Int→Int→Ω (Bool)) (c55 : Int→Ω (Bool)) (c56 : Int→Ω (Bool)) (c57 : Bool→Λ→Λ→Int→Ω (Int)) (c58 : Bool→Λ→Λ→Int→Bool→Λ→Λ→Int→Ω (Bool × Λ × Λ × Int)) (c59 : Int→Ω (Bool × Λ × Λ × Int)) (c62 : Bool→Int→Ω (Int)) (c63 : Bool→Λ→Λ→Int→Bool→Λ→Λ→Int→Ω (Bool × Λ × Λ × Int)) (c67 : Int→Ω (Bool)) (n : Nat) (J : Nat→(ASt→Ω (Int))→ASt→Ω (Int)) (q : Nat) (ms : List Nat) : ASt→Ω (Int) := acont (abacusref05_Fma.cfg c19 c21 c54 c55 c56 c57 c58 c59 c62 c63 c67) J abacusref05_Fma.cuts n q abacusref05_Fma.code 1 ms (aend (abacusref05_Fma.cfg c19 c21 c54 c55 c56 c57 c58 c59 c62 c63 c67) Tryd.f25.results.toList [false] abacusref05_Fma.sg.out)
theorem abacusref05_Fma.e0 (c19 : Int→Int→Ω (Int)) (c21 : Int→Int→Ω (Int)) (c54 : Int→Int→Ω (Bool)) (c55 : Int→Ω (Bool)) (c56 : Int→Ω (Bool)) (c57 : Bool→Λ→Λ→Int→Ω (Int)) (c58 : Bool→Λ→Λ→Int→Bool→Λ→Λ→Int→Ω (Bool × Λ × Λ × Int)) (c59 : Int→Ω (Bool × Λ × Λ × Int)) (c62 : Bool→Int→Ω (Int)) (c63 : Bool→Λ→Λ→Int→Bool→Λ→Λ→Int→Ω (Bool × Λ × Λ × Int)) (c67 : Int→Ω (Bool)) (n : Nat) (J : Nat→(ASt→Ω (Int))→ASt→Ω (Int)) (a0 : Int) (a1 : Int) (a2 : Int) : afun (abacusref05_Fma.cfg c19 c21 c54 c55 c56 c57 c58 c59 c62 c63 c67) J abacusref05_Fma.cuts n abacusref05_Fma.code Tryd.f25.results.toList [false] [.int .u64 a0, .int .u64 a1, .int .u64 a2] abacusref05_Fma.sg.out = abacusref05_Fma.b0 c19 c21 c54 c55 c56 c57 c58 c59 c62 c63 c67 (fun y0 y1 y2 y3 => J 29 (abacusref05_Fma.A c19 c21 c54 c55 c56 c57 c58 c59 c62 c63 c67 n J 29 []) (abacusref05_Fma.s29 y0 y1 y2 y3)) a0 a1 a2 := by kernel_rfl
theorem abacusref05_Fma.e15 (c19 : Int→Int→Ω (Int)) (c21 : Int→Int→Ω (Int)) (c54 : Int→Int→Ω (Bool)) (c55 : Int→Ω (Bool)) (c56 : Int→Ω (Bool)) (c57 : Bool→Λ→Λ→Int→Ω (Int)) (c58 : Bool→Λ→Λ→Int→Bool→Λ→Λ→Int→Ω (Bool × Λ × Λ × Int)) (c59 : Int→Ω (Bool × Λ × Λ × Int)) (c62 : Bool→Int→Ω (Int)) (c63 : Bool→Λ→Λ→Int→Bool→Λ→Λ→Int→Ω (Bool × Λ × Λ × Int)) (c67 : Int→Ω (Bool)) (n : Nat) (J : Nat→(ASt→Ω (Int))→ASt→Ω (Int)) (x0 : Int) (x1 : Int) (x2 : Int) : abacusref05_Fma.A c19 c21 c54 c55 c56 c57 c58 c59 c62 c63 c67 n J 15 [] (abacusref05_Fma.s15 x0 x1 x2) = abacusref05_Fma.b15 c19 c21 c54 c55 c56 c57 c58 c59 c62 c63 c67 x0 x1 x2 := by kernel_rfl
theorem abacusref05_Fma.e29 (c19 : Int→Int→Ω (Int)) (c21 : Int→Int→Ω (Int)) (c54 : Int→Int→Ω (Bool)) (c55 : Int→Ω (Bool)) (c56 : Int→Ω (Bool)) (c57 : Bool→Λ→Λ→Int→Ω (Int)) (c58 : Bool→Λ→Λ→Int→Bool→Λ→Λ→Int→Ω (Bool × Λ × Λ × Int)) (c59 : Int→Ω (Bool × Λ × Λ × Int)) (c62 : Bool→Int→Ω (Int)) (c63 : Bool→Λ→Λ→Int→Bool→Λ→Λ→Int→Ω (Bool × Λ × Λ × Int)) (c67 : Int→Ω (Bool)) (n : Nat) (J : Nat→(ASt→Ω (Int))→ASt→Ω (Int)) (x0 : Int) (x1 : Int) (x2 : Int) (x3 : Bool) : abacusref05_Fma.A c19 c21 c54 c55 c56 c57 c58 c59 c62 c63 c67 n J 29 [] (abacusref05_Fma.s29 x0 x1 x2 x3) = abacusref05_Fma.b29 c19 c21 c54 c55 c56 c57 c58 c59 c62 c63 c67 (fun y0 y1 y2 => J 15 (abacusref05_Fma.A c19 c21 c54 c55 c56 c57 c58 c59 c62 c63 c67 n J 15 []) (abacusref05_Fma.s15 y0 y1 y2)) (fun y0 y1 => J 235 (abacusref05_Fma.A c19 c21 c54 c55 c56 c57 c58 c59 c62 c63 c67 n J 235 []) (abacusref05_Fma.s235 y0 y1)) x0 x1 x2 x3 := by kernel_rfl
theorem abacusref05_Fma.e235 (c19 : Int→Int→Ω (Int)) (c21 : Int→Int→Ω (Int)) (c54 : Int→Int→Ω (Bool)) (c55 : Int→Ω (Bool)) (c56 : Int→Ω (Bool)) (c57 : Bool→Λ→Λ→Int→Ω (Int)) (c58 : Bool→Λ→Λ→Int→Bool→Λ→Λ→Int→Ω (Bool × Λ × Λ × Int)) (c59 : Int→Ω (Bool × Λ × Λ × Int)) (c62 : Bool→Int→Ω (Int)) (c63 : Bool→Λ→Λ→Int→Bool→Λ→Λ→Int→Ω (Bool × Λ × Λ × Int)) (c67 : Int→Ω (Bool)) (n : Nat) (J : Nat→(ASt→Ω (Int))→ASt→Ω (Int)) (x0 : Int) (x1 : Int) : abacusref05_Fma.A c19 c21 c54 c55 c56 c57 c58 c59 c62 c63 c67 n J 235 [] (abacusref05_Fma.s235 x0 x1) = abacusref05_Fma.b235 c19 c21 c54 c55 c56 c57 c58 c59 c62 c63 c67 x0 x1 := by kernel_rfl
theorem abacusref05_Fma.q15 (n : Nat) (x0 : Int) (x1 : Int) (x2 : Int) : abacusref05_Fma.A (abacusref05_Add.f n) (abacusref05_Mul.f n) abacusref05_anyNaN.f abacusref05_infinite.f abacusref05_negative.f (abacusref05_rounded.f n) (abacusref05_sum.f n) abacusref05_of.f abacusref05_signed.f (abacusref05_product.f n) abacusref04_IsNaN.f n idJ 15 [] (abacusref05_Fma.s15 x0 x1 x2) = abacusref05_Fma.l15 n x0 x1 x2 := (abacusref05_Fma.e15 (abacusref05_Add.f n) (abacusref05_Mul.f n) abacusref05_anyNaN.f abacusref05_infinite.f abacusref05_negative.f (abacusref05_rounded.f n) (abacusref05_sum.f n) abacusref05_of.f abacusref05_signed.f (abacusref05_product.f n) abacusref04_IsNaN.f n idJ x0 x1 x2).trans (rfl)
theorem abacusref05_Fma.q235 (n : Nat) (x0 : Int) (x1 : Int) : abacusref05_Fma.A (abacusref05_Add.f n) (abacusref05_Mul.f n) abacusref05_anyNaN.f abacusref05_infinite.f abacusref05_negative.f (abacusref05_rounded.f n) (abacusref05_sum.f n) abacusref05_of.f abacusref05_signed.f (abacusref05_product.f n) abacusref04_IsNaN.f n idJ 235 [] (abacusref05_Fma.s235 x0 x1) = abacusref05_Fma.l235 n x0 x1 := (abacusref05_Fma.e235 (abacusref05_Add.f n) (abacusref05_Mul.f n) abacusref05_anyNaN.f abacusref05_infinite.f abacusref05_negative.f (abacusref05_rounded.f n) (abacusref05_sum.f n) abacusref05_of.f abacusref05_signed.f (abacusref05_product.f n) abacusref04_IsNaN.f n idJ x0 x1).trans (rfl)
theorem abacusref05_Fma.q29 (n : Nat) (x0 : Int) (x1 : Int) (x2 : Int) (x3 : Bool) : abacusref05_Fma.A (abacusref05_Add.f n) (abacusref05_Mul.f n) abacusref05_anyNaN.f abacusref05_infinite.f abacusref05_negative.f (abacusref05_rounded.f n) (abacusref05_sum.f n) abacusref05_of.f abacusref05_signed.f (abacusref05_product.f n) abacusref04_IsNaN.f n idJ 29 [] (abacusref05_Fma.s29 x0 x1 x2 x3) = abacusref05_Fma.l29 n x0 x1 x2 x3 := (abacusref05_Fma.e29 (abacusref05_Add.f n) (abacusref05_Mul.f n) abacusref05_anyNaN.f abacusref05_infinite.f abacusref05_negative.f (abacusref05_rounded.f n) (abacusref05_sum.f n) abacusref05_of.f abacusref05_signed.f (abacusref05_product.f n) abacusref04_IsNaN.f n idJ x0 x1 x2 x3).trans (congrFun (congrFun (congrFun (congrFun (congr (congrArg (abacusref05_Fma.b29 (abacusref05_Add.f n) (abacusref05_Mul.f n) abacusref05_anyNaN.f abacusref05_infinite.f abacusref05_negative.f (abacusref05_rounded.f n) (abacusref05_sum.f n) abacusref05_of.f abacusref05_signed.f (abacusref05_product.f n) abacusref04_IsNaN.f) (funext fun y0 => (funext fun y1 => (funext fun y2 => abacusref05_Fma.q15 n y0 y1 y2)))) (funext fun y0 => (funext fun y1 => abacusref05_Fma.q235 n y0 y1))) x0) x1) x2) x3)
theorem abacusref05_Fma.eq (n : Nat) (a0 : Int) (a1 : Int) (a2 : Int) : afun (abacusref05_Fma.cfg (abacusref05_Add.f n) (abacusref05_Mul.f n) abacusref05_anyNaN.f abacusref05_infinite.f abacusref05_negative.f (abacusref05_rounded.f n) (abacusref05_sum.f n) abacusref05_of.f abacusref05_signed.f (abacusref05_product.f n) abacusref04_IsNaN.f) idJ abacusref05_Fma.cuts n abacusref05_Fma.code Tryd.f25.results.toList [false] [.int .u64 a0, .int .u64 a1, .int .u64 a2] abacusref05_Fma.sg.out = abacusref05_Fma.f n a0 a1 a2 := (abacusref05_Fma.e0 (abacusref05_Add.f n) (abacusref05_Mul.f n) abacusref05_anyNaN.f abacusref05_infinite.f abacusref05_negative.f (abacusref05_rounded.f n) (abacusref05_sum.f n) abacusref05_of.f abacusref05_signed.f (abacusref05_product.f n) abacusref04_IsNaN.f n idJ a0 a1 a2).trans (congrFun (congrFun (congrFun (congrArg (abacusref05_Fma.b0 (abacusref05_Add.f n) (abacusref05_Mul.f n) abacusref05_anyNaN.f abacusref05_infinite.f abacusref05_negative.f (abacusref05_rounded.f n) (abacusref05_sum.f n) abacusref05_of.f abacusref05_signed.f (abacusref05_product.f n) abacusref04_IsNaN.f) (funext fun y0 => (funext fun y1 => (funext fun y2 => (funext fun y3 => abacusref05_Fma.q29 n y0 y1 y2 y3))))) a0) a1) a2)
theorem abacusref05_Fma.ok {n : Nat} {a0 : Int} {a1 : Int} {a2 : Int} {r : Int} (h : abacusref05_Fma.f n a0 a1 a2 = some r) : CallD Tryd.prog HW 25 [.int .u64 a0, .int .u64 a1, .int .u64 a2] (abacusref05_Fma.sg.enc r) :=
  fun_some hwS Tryd.func25 (by kernel_rfl) (body := abacusref05_Fma.code) (by kernel_rfl) tys_ok (c := abacusref05_Fma.cfg (abacusref05_Add.f n) (abacusref05_Mul.f n) abacusref05_anyNaN.f abacusref05_infinite.f abacusref05_negative.f (abacusref05_rounded.f n) (abacusref05_sum.f n) abacusref05_of.f abacusref05_signed.f (abacusref05_product.f n) abacusref04_IsNaN.f) (orCall_ok (abacusref05_Add.call_ok (n := n)) (orCall_ok (abacusref05_Mul.call_ok (n := n)) (orCall_ok (abacusref05_anyNaN.call_ok (n := n)) (orCall_ok (abacusref05_infinite.call_ok (n := n)) (orCall_ok (abacusref05_negative.call_ok (n := n)) (orCall_ok (abacusref05_rounded.call_ok (n := n)) (orCall_ok (abacusref05_sum.call_ok (n := n)) (orCall_ok (abacusref05_of.call_ok (n := n)) (orCall_ok (abacusref05_signed.call_ok (n := n)) (orCall_ok (abacusref05_product.call_ok (n := n)) (orCall_ok (abacusref04_IsNaN.call_ok (n := n)) noCall_ok))))))))))) noW_ok (by kernel_rfl) (by kernel_rfl) (Nat.le_of_ble_eq_true (by kernel_rfl)) ((abacusref05_Fma.eq n a0 a1 a2).trans h)
noncomputable def abacusref05_Fma.call {α : Type} (g : Int→Int→Int→Ω (Int)) (ds : List D) (K : List D→Ω α) : Ω α := match ds with
  | [.int .u64 a0, .int .u64 a1, .int .u64 a2] => (g a0 a1 a2).bind fun r => K (abacusref05_Fma.sg.enc r)
  | _ => none
theorem abacusref05_Fma.call_ok {α : Type} {n : Nat} (ds : List D) (K : List D→Ω α) (r : α) (h : abacusref05_Fma.call (abacusref05_Fma.f n) ds K = some r) : ∃ rs, K rs = some r ∧ CallD Tryd.prog HW 25 ds rs := by
  unfold abacusref05_Fma.call at h
  split at h
  · obtain ⟨x, hx, hk⟩ := Option.bind_eq_some_iff.1 h
    exact ⟨_, hk, abacusref05_Fma.ok (n := n) hx⟩
  · cases h
/-! ### abacusref02_Top: function 148 -/
noncomputable def abacusref02_Top.b0 (k57 : Λ→Int→Ω (Int)) (l0 : Λ) : Ω (Int) := k57 l0 (ln l0)
noncomputable def abacusref02_Top.b57 (k57 : Λ→Int→Ω (Int)) (x0 : Λ) (x1 : Int) : Ω (Int) := (if x1 > 0 then (if 0 ≤ (wrap64 (x1 - 1)) then (if (wrap64 (x1 - 1)) < (ln x0) then (if (rd x0 (wrap64 (x1 - 1))) = 0 then k57 x0 (wrap64 (x1 - 1)) else some x1) else none) else none) else some x1)
noncomputable def abacusref02_Top.l57 (n : Nat) : Nat→Λ→Int→Ω (Int)
  | 0, _, _ => none
  | m + 1, x0, x1 => abacusref02_Top.b57 (abacusref02_Top.l57 n m) x0 x1
noncomputable def abacusref02_Top.f (n : Nat) (l0 : Λ) : Ω (Int) := abacusref02_Top.b0 (abacusref02_Top.l57 n n) l0
noncomputable def abacusref02_Top.sg : Sig (Int) := s1 (sInt .i64)
noncomputable def abacusref02_Top.code : Code := (Tryd.f148.body).getD .skip
noncomputable def abacusref02_Top.cfg : Cfg (Int) := { T := tys, call := noCall }
noncomputable def abacusref02_Top.cuts : List (Nat × List (Nat × Want)) := [(57, [(0, .keep), (3, .keep)])]
noncomputable def abacusref02_Top.s57 (x0 : Λ) (x1 : Int) : ASt := ⟨[(0, .ro .u64 x0), (3, .int .i64 x1)], []⟩
noncomputable def abacusref02_Top.A (n : Nat) (J : Nat→(ASt→Ω (Int))→ASt→Ω (Int)) (q : Nat) (ms : List Nat) : ASt→Ω (Int) := acont (abacusref02_Top.cfg) J abacusref02_Top.cuts n q abacusref02_Top.code 1 ms (aend (abacusref02_Top.cfg) Tryd.f148.results.toList [false] abacusref02_Top.sg.out)
theorem abacusref02_Top.e0 (n : Nat) (J : Nat→(ASt→Ω (Int))→ASt→Ω (Int)) (l0 : Λ) : afun (abacusref02_Top.cfg) J abacusref02_Top.cuts n abacusref02_Top.code Tryd.f148.results.toList [false] [.ro .u64 l0] abacusref02_Top.sg.out = abacusref02_Top.b0 (fun y0 y1 => J 57 (abacusref02_Top.A n J 57 [n]) (abacusref02_Top.s57 y0 y1)) l0 := by kernel_rfl
theorem abacusref02_Top.e57 (n : Nat) (J : Nat→(ASt→Ω (Int))→ASt→Ω (Int)) (m : Nat) (x0 : Λ) (x1 : Int) : abacusref02_Top.A n J 57 [m + 1] (abacusref02_Top.s57 x0 x1) = abacusref02_Top.b57 (fun y0 y1 => J 57 (abacusref02_Top.A n J 57 [m]) (abacusref02_Top.s57 y0 y1)) x0 x1 := by kernel_rfl
theorem abacusref02_Top.q57 (n : Nat) (m : Nat) : ∀ (x0 : Λ) (x1 : Int), abacusref02_Top.A n idJ 57 [m] (abacusref02_Top.s57 x0 x1) = abacusref02_Top.l57 n m x0 x1 := by
  induction m with
  | zero => intros; rfl
  | succ m ih =>
    intro x0 x1
    refine (abacusref02_Top.e57 n idJ m x0 x1).trans ?_
    exact congrFun (congrFun (congrArg abacusref02_Top.b57 (funext fun y0 => (funext fun y1 => ih y0 y1))) x0) x1
theorem abacusref02_Top.eq (n : Nat) (l0 : Λ) : afun (abacusref02_Top.cfg) idJ abacusref02_Top.cuts n abacusref02_Top.code Tryd.f148.results.toList [false] [.ro .u64 l0] abacusref02_Top.sg.out = abacusref02_Top.f n l0 := (abacusref02_Top.e0 n idJ l0).trans (congrFun (congrArg abacusref02_Top.b0 (funext fun y0 => (funext fun y1 => abacusref02_Top.q57 n n y0 y1))) l0)
theorem abacusref02_Top.ok {n : Nat} {l0 : Λ} {r : Int} (h : abacusref02_Top.f n l0 = some r) : CallD Tryd.prog HW 148 [.ro .u64 l0] (abacusref02_Top.sg.enc r) :=
  fun_some hwS Tryd.func148 (by kernel_rfl) (body := abacusref02_Top.code) (by kernel_rfl) tys_ok (c := abacusref02_Top.cfg) noCall_ok noW_ok (by kernel_rfl) (by kernel_rfl) (Nat.le_of_ble_eq_true (by kernel_rfl)) ((abacusref02_Top.eq n l0).trans h)
noncomputable def abacusref02_Top.call {α : Type} (g : Λ→Ω (Int)) (ds : List D) (K : List D→Ω α) : Ω α := match ds with
  | [.ro .u64 l0] => (g l0).bind fun r => K (abacusref02_Top.sg.enc r)
  | _ => none
theorem abacusref02_Top.call_ok {α : Type} {n : Nat} (ds : List D) (K : List D→Ω α) (r : α) (h : abacusref02_Top.call (abacusref02_Top.f n) ds K = some r) : ∃ rs, K rs = some r ∧ CallD Tryd.prog HW 148 ds rs := by
  unfold abacusref02_Top.call at h
  split at h
  · obtain ⟨x, hx, hk⟩ := Option.bind_eq_some_iff.1 h
    exact ⟨_, hk, abacusref02_Top.ok (n := n) hx⟩
  · cases h
/-! ### abacusref02_doubled: function 150 -/
noncomputable def abacusref02_doubled.b0 (k245 : Λ→Int→Int→Λ→Ω (Λ)) (l0 : Λ) (a1 : Int) : Ω (Λ) := (if 0 ≤ (wrap64 ((ln l0) + 1)) then (if (wrap64 ((ln l0) + 1)).toNat ≤ 35184372088832 then k245 l0 a1 0 (List.replicate (wrap64 ((ln l0) + 1)).toNat (0 : Int)) else none) else none)
noncomputable def abacusref02_doubled.b245 (k245 : Λ→Int→Int→Λ→Ω (Λ)) (x0 : Λ) (x1 : Int) (x2 : Int) (x3 : Λ) : Ω (Λ) := (if x2 < (ln x0) then (if 0 ≤ x2 then (if x2 < (ln x0) then (if 0 ≤ x2 then (if x2 < (ln x3) then (if 0 ≤ x2 then (if x2 < (ln x0) then k245 x0 ((rd x0 x2) / 9223372036854775808) (wrap64 (x2 + 1)) (x3.set (x2 : Int).toNat (Go.bits .or .u64 (IntKind.u64.wrap ((rd x0 x2) * 2)) x1)) else none) else none) else none) else none) else none) else none) else (if 0 ≤ (ln x0) then (if (ln x0) < (ln x3) then some (x3.set ((ln x0) : Int).toNat x1) else none) else none))
noncomputable def abacusref02_doubled.l245 (n : Nat) : Nat→Λ→Int→Int→Λ→Ω (Λ)
  | 0, _, _, _, _ => none
  | m + 1, x0, x1, x2, x3 => abacusref02_doubled.b245 (abacusref02_doubled.l245 n m) x0 x1 x2 x3
noncomputable def abacusref02_doubled.f (n : Nat) (l0 : Λ) (a1 : Int) : Ω (Λ) := abacusref02_doubled.b0 (abacusref02_doubled.l245 n n) l0 a1
noncomputable def abacusref02_doubled.sg : Sig (Λ) := s1 (sRow .u64)
noncomputable def abacusref02_doubled.code : Code := (Tryd.f150.body).getD .skip
noncomputable def abacusref02_doubled.cfg : Cfg (Λ) := { T := tys, call := noCall }
noncomputable def abacusref02_doubled.cuts : List (Nat × List (Nat × Want)) := [(245, [(0, .keep), (5, .keep), (6, .keep), (7, .keep)])]
noncomputable def abacusref02_doubled.s245 (x0 : Λ) (x1 : Int) (x2 : Int) (x3 : Λ) : ASt := ⟨[(0, .ro .u64 x0), (5, .own 0), (6, .int .u64 x1), (7, .int .i64 x2)], [.ints 22 .u64 x3]⟩
noncomputable def abacusref02_doubled.A (n : Nat) (J : Nat→(ASt→Ω (Λ))→ASt→Ω (Λ)) (q : Nat) (ms : List Nat) : ASt→Ω (Λ) := acont (abacusref02_doubled.cfg) J abacusref02_doubled.cuts n q abacusref02_doubled.code 1 ms (aend (abacusref02_doubled.cfg) Tryd.f150.results.toList [false] abacusref02_doubled.sg.out)
theorem abacusref02_doubled.e0 (n : Nat) (J : Nat→(ASt→Ω (Λ))→ASt→Ω (Λ)) (l0 : Λ) (a1 : Int) : afun (abacusref02_doubled.cfg) J abacusref02_doubled.cuts n abacusref02_doubled.code Tryd.f150.results.toList [false] [.ro .u64 l0, .int .u64 a1] abacusref02_doubled.sg.out = abacusref02_doubled.b0 (fun y0 y1 y2 y3 => J 245 (abacusref02_doubled.A n J 245 [n]) (abacusref02_doubled.s245 y0 y1 y2 y3)) l0 a1 := by kernel_rfl
theorem abacusref02_doubled.e245 (n : Nat) (J : Nat→(ASt→Ω (Λ))→ASt→Ω (Λ)) (m : Nat) (x0 : Λ) (x1 : Int) (x2 : Int) (x3 : Λ) : abacusref02_doubled.A n J 245 [m + 1] (abacusref02_doubled.s245 x0 x1 x2 x3) = abacusref02_doubled.b245 (fun y0 y1 y2 y3 => J 245 (abacusref02_doubled.A n J 245 [m]) (abacusref02_doubled.s245 y0 y1 y2 y3)) x0 x1 x2 x3 := by kernel_rfl
theorem abacusref02_doubled.q245 (n : Nat) (m : Nat) : ∀ (x0 : Λ) (x1 : Int) (x2 : Int) (x3 : Λ), abacusref02_doubled.A n idJ 245 [m] (abacusref02_doubled.s245 x0 x1 x2 x3) = abacusref02_doubled.l245 n m x0 x1 x2 x3 := by
  induction m with
  | zero => intros; rfl
  | succ m ih =>
    intro x0 x1 x2 x3
    refine (abacusref02_doubled.e245 n idJ m x0 x1 x2 x3).trans ?_
    exact congrFun (congrFun (congrFun (congrFun (congrArg abacusref02_doubled.b245 (funext fun y0 => (funext fun y1 => (funext fun y2 => (funext fun y3 => ih y0 y1 y2 y3))))) x0) x1) x2) x3
theorem abacusref02_doubled.eq (n : Nat) (l0 : Λ) (a1 : Int) : afun (abacusref02_doubled.cfg) idJ abacusref02_doubled.cuts n abacusref02_doubled.code Tryd.f150.results.toList [false] [.ro .u64 l0, .int .u64 a1] abacusref02_doubled.sg.out = abacusref02_doubled.f n l0 a1 := (abacusref02_doubled.e0 n idJ l0 a1).trans (congrFun (congrFun (congrArg abacusref02_doubled.b0 (funext fun y0 => (funext fun y1 => (funext fun y2 => (funext fun y3 => abacusref02_doubled.q245 n n y0 y1 y2 y3))))) l0) a1)
theorem abacusref02_doubled.ok {n : Nat} {l0 : Λ} {a1 : Int} {r : Λ} (h : abacusref02_doubled.f n l0 a1 = some r) : CallD Tryd.prog HW 150 [.ro .u64 l0, .int .u64 a1] (abacusref02_doubled.sg.enc r) :=
  fun_some hwS Tryd.func150 (by kernel_rfl) (body := abacusref02_doubled.code) (by kernel_rfl) tys_ok (c := abacusref02_doubled.cfg) noCall_ok noW_ok (by kernel_rfl) (by kernel_rfl) (Nat.le_of_ble_eq_true (by kernel_rfl)) ((abacusref02_doubled.eq n l0 a1).trans h)
noncomputable def abacusref02_doubled.call {α : Type} (g : Λ→Int→Ω (Λ)) (ds : List D) (K : List D→Ω α) : Ω α := match ds with
  | [.ro .u64 l0, .int .u64 a1] => (g l0 a1).bind fun r => K (abacusref02_doubled.sg.enc r)
  | _ => none
theorem abacusref02_doubled.call_ok {α : Type} {n : Nat} (ds : List D) (K : List D→Ω α) (r : α) (h : abacusref02_doubled.call (abacusref02_doubled.f n) ds K = some r) : ∃ rs, K rs = some r ∧ CallD Tryd.prog HW 150 ds rs := by
  unfold abacusref02_doubled.call at h
  split at h
  · obtain ⟨x, hx, hk⟩ := Option.bind_eq_some_iff.1 h
    exact ⟨_, hk, abacusref02_doubled.ok (n := n) hx⟩
  · cases h
/-! ### abacusref02_Short: function 149 -/
noncomputable def abacusref02_Short.b0 (c148 : Λ→Ω (Int)) (k245 : Λ→Int→Int→Λ→Ω (Λ)) (l0 : Λ) : Ω (Λ) := ((c148 l0).bind fun t1 => (if 0 ≤ t1 then (if t1.toNat ≤ 35184372088832 then k245 l0 t1 0 (List.replicate t1.toNat (0 : Int)) else none) else none))
noncomputable def abacusref02_Short.b245 (c148 : Λ→Ω (Int)) (k245 : Λ→Int→Int→Λ→Ω (Λ)) (x0 : Λ) (x1 : Int) (x2 : Int) (x3 : Λ) : Ω (Λ) := (if x2 < x1 then (if 0 ≤ x2 then (if x2 < (ln x0) then (if 0 ≤ x2 then (if x2 < (ln x3) then k245 x0 x1 (wrap64 (x2 + 1)) (x3.set (x2 : Int).toNat (rd x0 x2)) else none) else none) else none) else none) else some x3)
noncomputable def abacusref02_Short.l245 (n : Nat) : Nat→Λ→Int→Int→Λ→Ω (Λ)
  | 0, _, _, _, _ => none
  | m + 1, x0, x1, x2, x3 => abacusref02_Short.b245 (abacusref02_Top.f n) (abacusref02_Short.l245 n m) x0 x1 x2 x3
noncomputable def abacusref02_Short.f (n : Nat) (l0 : Λ) : Ω (Λ) := abacusref02_Short.b0 (abacusref02_Top.f n) (abacusref02_Short.l245 n n) l0
noncomputable def abacusref02_Short.sg : Sig (Λ) := s1 (sOwn 22 .u64)
noncomputable def abacusref02_Short.code : Code := (Tryd.f149.body).getD .skip
noncomputable def abacusref02_Short.cfg (c148 : Λ→Ω (Int)) : Cfg (Λ) := { T := tys, call := orCall 148 (abacusref02_Top.call c148) (noCall) }
noncomputable def abacusref02_Short.cuts : List (Nat × List (Nat × Want)) := [(245, [(0, .keep), (3, .keep), (4, .keep), (5, .keep)])]
noncomputable def abacusref02_Short.s245 (x0 : Λ) (x1 : Int) (x2 : Int) (x3 : Λ) : ASt := ⟨[(0, .ro .u64 x0), (3, .int .i64 x1), (4, .own 0), (5, .int .i64 x2)], [.ints 22 .u64 x3]⟩
noncomputable def abacusref02_Short.A (c148 : Λ→Ω (Int)) (n : Nat) (J : Nat→(ASt→Ω (Λ))→ASt→Ω (Λ)) (q : Nat) (ms : List Nat) : ASt→Ω (Λ) := acont (abacusref02_Short.cfg c148) J abacusref02_Short.cuts n q abacusref02_Short.code 1 ms (aend (abacusref02_Short.cfg c148) Tryd.f149.results.toList [true] abacusref02_Short.sg.out)
theorem abacusref02_Short.e0 (c148 : Λ→Ω (Int)) (n : Nat) (J : Nat→(ASt→Ω (Λ))→ASt→Ω (Λ)) (l0 : Λ) : afun (abacusref02_Short.cfg c148) J abacusref02_Short.cuts n abacusref02_Short.code Tryd.f149.results.toList [true] [.ro .u64 l0] abacusref02_Short.sg.out = abacusref02_Short.b0 c148 (fun y0 y1 y2 y3 => J 245 (abacusref02_Short.A c148 n J 245 [n]) (abacusref02_Short.s245 y0 y1 y2 y3)) l0 := by kernel_rfl
theorem abacusref02_Short.e245 (c148 : Λ→Ω (Int)) (n : Nat) (J : Nat→(ASt→Ω (Λ))→ASt→Ω (Λ)) (m : Nat) (x0 : Λ) (x1 : Int) (x2 : Int) (x3 : Λ) : abacusref02_Short.A c148 n J 245 [m + 1] (abacusref02_Short.s245 x0 x1 x2 x3) = abacusref02_Short.b245 c148 (fun y0 y1 y2 y3 => J 245 (abacusref02_Short.A c148 n J 245 [m]) (abacusref02_Short.s245 y0 y1 y2 y3)) x0 x1 x2 x3 := by kernel_rfl
theorem abacusref02_Short.q245 (n : Nat) (m : Nat) : ∀ (x0 : Λ) (x1 : Int) (x2 : Int) (x3 : Λ), abacusref02_Short.A (abacusref02_Top.f n) n idJ 245 [m] (abacusref02_Short.s245 x0 x1 x2 x3) = abacusref02_Short.l245 n m x0 x1 x2 x3 := by
  induction m with
  | zero => intros; rfl
  | succ m ih =>
    intro x0 x1 x2 x3
    refine (abacusref02_Short.e245 (abacusref02_Top.f n) n idJ m x0 x1 x2 x3).trans ?_
    exact congrFun (congrFun (congrFun (congrFun (congrArg (abacusref02_Short.b245 (abacusref02_Top.f n)) (funext fun y0 => (funext fun y1 => (funext fun y2 => (funext fun y3 => ih y0 y1 y2 y3))))) x0) x1) x2) x3
theorem abacusref02_Short.eq (n : Nat) (l0 : Λ) : afun (abacusref02_Short.cfg (abacusref02_Top.f n)) idJ abacusref02_Short.cuts n abacusref02_Short.code Tryd.f149.results.toList [true] [.ro .u64 l0] abacusref02_Short.sg.out = abacusref02_Short.f n l0 := (abacusref02_Short.e0 (abacusref02_Top.f n) n idJ l0).trans (congrFun (congrArg (abacusref02_Short.b0 (abacusref02_Top.f n)) (funext fun y0 => (funext fun y1 => (funext fun y2 => (funext fun y3 => abacusref02_Short.q245 n n y0 y1 y2 y3))))) l0)
theorem abacusref02_Short.ok {n : Nat} {l0 : Λ} {r : Λ} (h : abacusref02_Short.f n l0 = some r) : CallD Tryd.prog HW 149 [.ro .u64 l0] (abacusref02_Short.sg.enc r) :=
  fun_some hwS Tryd.func149 (by kernel_rfl) (body := abacusref02_Short.code) (by kernel_rfl) tys_ok (c := abacusref02_Short.cfg (abacusref02_Top.f n)) (orCall_ok (abacusref02_Top.call_ok (n := n)) noCall_ok) noW_ok (by kernel_rfl) (by kernel_rfl) (Nat.le_of_ble_eq_true (by kernel_rfl)) ((abacusref02_Short.eq n l0).trans h)
noncomputable def abacusref02_Short.call {α : Type} (g : Λ→Ω (Λ)) (ds : List D) (K : List D→Ω α) : Ω α := match ds with
  | [.ro .u64 l0] => (g l0).bind fun r => K (abacusref02_Short.sg.enc r)
  | _ => none
theorem abacusref02_Short.call_ok {α : Type} {n : Nat} (ds : List D) (K : List D→Ω α) (r : α) (h : abacusref02_Short.call (abacusref02_Short.f n) ds K = some r) : ∃ rs, K rs = some r ∧ CallD Tryd.prog HW 149 ds rs := by
  unfold abacusref02_Short.call at h
  split at h
  · obtain ⟨x, hx, hk⟩ := Option.bind_eq_some_iff.1 h
    exact ⟨_, hk, abacusref02_Short.ok (n := n) hx⟩
  · cases h
/-! ### abacusref02_Order: function 151 -/
noncomputable def abacusref02_Order.b0 (c148 : Λ→Ω (Int)) (k1013 : Λ→Λ→Int→Ω (Int)) (l0 : Λ) (l1 : Λ) : Ω (Int) := ((c148 l0).bind fun t1 => ((c148 l1).bind fun t2 => (if t1 < t2 then some (-1) else (if t1 > t2 then some 1 else k1013 l0 l1 (wrap64 (t1 - 1))))))
noncomputable def abacusref02_Order.b1013 (c148 : Λ→Ω (Int)) (k1013 : Λ→Λ→Int→Ω (Int)) (x0 : Λ) (x1 : Λ) (x2 : Int) : Ω (Int) := (if x2 ≥ 0 then (if 0 ≤ x2 then (if x2 < (ln x0) then (if 0 ≤ x2 then (if x2 < (ln x1) then (if (rd x0 x2) < (rd x1 x2) then some (-1) else (if 0 ≤ x2 then (if x2 < (ln x0) then (if 0 ≤ x2 then (if x2 < (ln x1) then (if (rd x0 x2) > (rd x1 x2) then some 1 else k1013 x0 x1 (wrap64 (x2 - 1))) else none) else none) else none) else none)) else none) else none) else none) else none) else some 0)
noncomputable def abacusref02_Order.l1013 (n : Nat) : Nat→Λ→Λ→Int→Ω (Int)
  | 0, _, _, _ => none
  | m + 1, x0, x1, x2 => abacusref02_Order.b1013 (abacusref02_Top.f n) (abacusref02_Order.l1013 n m) x0 x1 x2
noncomputable def abacusref02_Order.f (n : Nat) (l0 : Λ) (l1 : Λ) : Ω (Int) := abacusref02_Order.b0 (abacusref02_Top.f n) (abacusref02_Order.l1013 n n) l0 l1
noncomputable def abacusref02_Order.sg : Sig (Int) := s1 (sInt .i64)
noncomputable def abacusref02_Order.code : Code := (Tryd.f151.body).getD .skip
noncomputable def abacusref02_Order.cfg (c148 : Λ→Ω (Int)) : Cfg (Int) := { T := tys, call := orCall 148 (abacusref02_Top.call c148) (noCall) }
noncomputable def abacusref02_Order.cuts : List (Nat × List (Nat × Want)) := [(1013, [(0, .keep), (1, .keep), (7, .keep)])]
noncomputable def abacusref02_Order.s1013 (x0 : Λ) (x1 : Λ) (x2 : Int) : ASt := ⟨[(0, .ro .u64 x0), (1, .ro .u64 x1), (7, .int .i64 x2)], []⟩
noncomputable def abacusref02_Order.A (c148 : Λ→Ω (Int)) (n : Nat) (J : Nat→(ASt→Ω (Int))→ASt→Ω (Int)) (q : Nat) (ms : List Nat) : ASt→Ω (Int) := acont (abacusref02_Order.cfg c148) J abacusref02_Order.cuts n q abacusref02_Order.code 1 ms (aend (abacusref02_Order.cfg c148) Tryd.f151.results.toList [false] abacusref02_Order.sg.out)
theorem abacusref02_Order.e0 (c148 : Λ→Ω (Int)) (n : Nat) (J : Nat→(ASt→Ω (Int))→ASt→Ω (Int)) (l0 : Λ) (l1 : Λ) : afun (abacusref02_Order.cfg c148) J abacusref02_Order.cuts n abacusref02_Order.code Tryd.f151.results.toList [false] [.ro .u64 l0, .ro .u64 l1] abacusref02_Order.sg.out = abacusref02_Order.b0 c148 (fun y0 y1 y2 => J 1013 (abacusref02_Order.A c148 n J 1013 [n]) (abacusref02_Order.s1013 y0 y1 y2)) l0 l1 := by kernel_rfl
theorem abacusref02_Order.e1013 (c148 : Λ→Ω (Int)) (n : Nat) (J : Nat→(ASt→Ω (Int))→ASt→Ω (Int)) (m : Nat) (x0 : Λ) (x1 : Λ) (x2 : Int) : abacusref02_Order.A c148 n J 1013 [m + 1] (abacusref02_Order.s1013 x0 x1 x2) = abacusref02_Order.b1013 c148 (fun y0 y1 y2 => J 1013 (abacusref02_Order.A c148 n J 1013 [m]) (abacusref02_Order.s1013 y0 y1 y2)) x0 x1 x2 := by kernel_rfl
theorem abacusref02_Order.q1013 (n : Nat) (m : Nat) : ∀ (x0 : Λ) (x1 : Λ) (x2 : Int), abacusref02_Order.A (abacusref02_Top.f n) n idJ 1013 [m] (abacusref02_Order.s1013 x0 x1 x2) = abacusref02_Order.l1013 n m x0 x1 x2 := by
  induction m with
  | zero => intros; rfl
  | succ m ih =>
    intro x0 x1 x2
    refine (abacusref02_Order.e1013 (abacusref02_Top.f n) n idJ m x0 x1 x2).trans ?_
    exact congrFun (congrFun (congrFun (congrArg (abacusref02_Order.b1013 (abacusref02_Top.f n)) (funext fun y0 => (funext fun y1 => (funext fun y2 => ih y0 y1 y2)))) x0) x1) x2
theorem abacusref02_Order.eq (n : Nat) (l0 : Λ) (l1 : Λ) : afun (abacusref02_Order.cfg (abacusref02_Top.f n)) idJ abacusref02_Order.cuts n abacusref02_Order.code Tryd.f151.results.toList [false] [.ro .u64 l0, .ro .u64 l1] abacusref02_Order.sg.out = abacusref02_Order.f n l0 l1 := (abacusref02_Order.e0 (abacusref02_Top.f n) n idJ l0 l1).trans (congrFun (congrFun (congrArg (abacusref02_Order.b0 (abacusref02_Top.f n)) (funext fun y0 => (funext fun y1 => (funext fun y2 => abacusref02_Order.q1013 n n y0 y1 y2)))) l0) l1)
theorem abacusref02_Order.ok {n : Nat} {l0 : Λ} {l1 : Λ} {r : Int} (h : abacusref02_Order.f n l0 l1 = some r) : CallD Tryd.prog HW 151 [.ro .u64 l0, .ro .u64 l1] (abacusref02_Order.sg.enc r) :=
  fun_some hwS Tryd.func151 (by kernel_rfl) (body := abacusref02_Order.code) (by kernel_rfl) tys_ok (c := abacusref02_Order.cfg (abacusref02_Top.f n)) (orCall_ok (abacusref02_Top.call_ok (n := n)) noCall_ok) noW_ok (by kernel_rfl) (by kernel_rfl) (Nat.le_of_ble_eq_true (by kernel_rfl)) ((abacusref02_Order.eq n l0 l1).trans h)
noncomputable def abacusref02_Order.call {α : Type} (g : Λ→Λ→Ω (Int)) (ds : List D) (K : List D→Ω α) : Ω α := match ds with
  | [.ro .u64 l0, .ro .u64 l1] => (g l0 l1).bind fun r => K (abacusref02_Order.sg.enc r)
  | _ => none
theorem abacusref02_Order.call_ok {α : Type} {n : Nat} (ds : List D) (K : List D→Ω α) (r : α) (h : abacusref02_Order.call (abacusref02_Order.f n) ds K = some r) : ∃ rs, K rs = some r ∧ CallD Tryd.prog HW 151 ds rs := by
  unfold abacusref02_Order.call at h
  split at h
  · obtain ⟨x, hx, hk⟩ := Option.bind_eq_some_iff.1 h
    exact ⟨_, hk, abacusref02_Order.ok (n := n) hx⟩
  · cases h
/-! ### abacusref02_takeOff: function 152 -/
noncomputable def abacusref02_takeOff.b0 (k29 : Int→Λ→Int→Int→Λ→Ω (Λ × Unit)) (l0 : Λ) (a1 : Int) (l2 : Λ) : Ω (Λ × Unit) := k29 a1 l2 0 0 l0
noncomputable def abacusref02_takeOff.b29 (k3663 : Int→Λ→Int→Int→Int→Λ→Ω (Λ × Unit)) (x0 : Int) (x1 : Λ) (x2 : Int) (x3 : Int) (x4 : Λ) : Ω (Λ × Unit) := (if x3 < (ln x1) then (if 0 ≤ (wrap64 (x0 + x3)) then (if (wrap64 (x0 + x3)) < (ln x4) then (if 0 ≤ x3 then (if x3 < (ln x1) then (if (rd x4 (wrap64 (x0 + x3))) < (rd x1 x3) then k3663 x0 x1 1 x3 (IntKind.u64.wrap ((IntKind.u64.wrap ((rd x4 (wrap64 (x0 + x3))) - (rd x1 x3))) - x2)) x4 else (if (rd x4 (wrap64 (x0 + x3))) = (rd x1 x3) then (if x2 = 1 then k3663 x0 x1 1 x3 (IntKind.u64.wrap ((IntKind.u64.wrap ((rd x4 (wrap64 (x0 + x3))) - (rd x1 x3))) - x2)) x4 else k3663 x0 x1 0 x3 (IntKind.u64.wrap ((IntKind.u64.wrap ((rd x4 (wrap64 (x0 + x3))) - (rd x1 x3))) - x2)) x4) else k3663 x0 x1 0 x3 (IntKind.u64.wrap ((IntKind.u64.wrap ((rd x4 (wrap64 (x0 + x3))) - (rd x1 x3))) - x2)) x4)) else none) else none) else none) else none) else some (x4, ()))
noncomputable def abacusref02_takeOff.b3663 (k29 : Int→Λ→Int→Int→Λ→Ω (Λ × Unit)) (x0 : Int) (x1 : Λ) (x2 : Int) (x3 : Int) (x4 : Int) (x5 : Λ) : Ω (Λ × Unit) := (if 0 ≤ (wrap64 (x0 + x3)) then (if (wrap64 (x0 + x3)) < (ln x5) then k29 x0 x1 x2 (wrap64 (x3 + 1)) (x5.set (wrap64 (x0 + x3) : Int).toNat x4) else none) else none)
noncomputable def abacusref02_takeOff.l3663 (n : Nat) (k29 : Int→Λ→Int→Int→Λ→Ω (Λ × Unit)) (x0 : Int) (x1 : Λ) (x2 : Int) (x3 : Int) (x4 : Int) (x5 : Λ) : Ω (Λ × Unit) := abacusref02_takeOff.b3663 k29 x0 x1 x2 x3 x4 x5
noncomputable def abacusref02_takeOff.l29 (n : Nat) : Nat→Int→Λ→Int→Int→Λ→Ω (Λ × Unit)
  | 0, _, _, _, _, _ => none
  | m + 1, x0, x1, x2, x3, x4 => abacusref02_takeOff.b29 (abacusref02_takeOff.l3663 n (abacusref02_takeOff.l29 n m)) x0 x1 x2 x3 x4
noncomputable def abacusref02_takeOff.f (n : Nat) (l0 : Λ) (a1 : Int) (l2 : Λ) : Ω (Λ × Unit) := abacusref02_takeOff.b0 (abacusref02_takeOff.l29 n n) l0 a1 l2
noncomputable def abacusref02_takeOff.sg : Sig (Unit) := s0
noncomputable def abacusref02_takeOff.code : Code := (Tryd.f152.body).getD .skip
noncomputable def abacusref02_takeOff.cfg : Cfg (Λ × Unit) := { T := tys, call := noCall }
noncomputable def abacusref02_takeOff.cuts : List (Nat × List (Nat × Want)) := [(29, [(0, .keep), (1, .keep), (2, .keep), (6, .keep), (7, .keep)]), (3663, [(0, .keep), (1, .keep), (2, .keep), (6, .keep), (7, .keep), (10, .keep)])]
noncomputable def abacusref02_takeOff.s29 (x0 : Int) (x1 : Λ) (x2 : Int) (x3 : Int) (x4 : Λ) : ASt := ⟨[(0, .own 0), (1, .int .i64 x0), (2, .ro .u64 x1), (6, .int .u64 x2), (7, .int .i64 x3)], [.bor .u64 x4]⟩
noncomputable def abacusref02_takeOff.s3663 (x0 : Int) (x1 : Λ) (x2 : Int) (x3 : Int) (x4 : Int) (x5 : Λ) : ASt := ⟨[(0, .own 0), (1, .int .i64 x0), (2, .ro .u64 x1), (6, .int .u64 x2), (7, .int .i64 x3), (10, .int .u64 x4)], [.bor .u64 x5]⟩
noncomputable def abacusref02_takeOff.A (n : Nat) (J : Nat→(ASt→Ω (Λ × Unit))→ASt→Ω (Λ × Unit)) (q : Nat) (ms : List Nat) : ASt→Ω (Λ × Unit) := acont (abacusref02_takeOff.cfg) J abacusref02_takeOff.cuts n q abacusref02_takeOff.code 1 ms (aendw (abacusref02_takeOff.cfg) Tryd.f152.results.toList (sgw abacusref02_takeOff.sg))
theorem abacusref02_takeOff.e0 (n : Nat) (J : Nat→(ASt→Ω (Λ × Unit))→ASt→Ω (Λ × Unit)) (l0 : Λ) (a1 : Int) (l2 : Λ) : afunw (abacusref02_takeOff.cfg) J abacusref02_takeOff.cuts n abacusref02_takeOff.code Tryd.f152.results.toList l0 [.int .i64 a1, .ro .u64 l2] (sgw abacusref02_takeOff.sg) = abacusref02_takeOff.b0 (fun y0 y1 y2 y3 y4 => J 29 (abacusref02_takeOff.A n J 29 [n]) (abacusref02_takeOff.s29 y0 y1 y2 y3 y4)) l0 a1 l2 := by kernel_rfl
theorem abacusref02_takeOff.e29 (n : Nat) (J : Nat→(ASt→Ω (Λ × Unit))→ASt→Ω (Λ × Unit)) (m : Nat) (x0 : Int) (x1 : Λ) (x2 : Int) (x3 : Int) (x4 : Λ) : abacusref02_takeOff.A n J 29 [m + 1] (abacusref02_takeOff.s29 x0 x1 x2 x3 x4) = abacusref02_takeOff.b29 (fun y0 y1 y2 y3 y4 y5 => J 3663 (abacusref02_takeOff.A n J 3663 [m]) (abacusref02_takeOff.s3663 y0 y1 y2 y3 y4 y5)) x0 x1 x2 x3 x4 := by kernel_rfl
theorem abacusref02_takeOff.e3663 (n : Nat) (J : Nat→(ASt→Ω (Λ × Unit))→ASt→Ω (Λ × Unit)) (m29 : Nat) (x0 : Int) (x1 : Λ) (x2 : Int) (x3 : Int) (x4 : Int) (x5 : Λ) : abacusref02_takeOff.A n J 3663 [m29] (abacusref02_takeOff.s3663 x0 x1 x2 x3 x4 x5) = abacusref02_takeOff.b3663 (fun y0 y1 y2 y3 y4 => J 29 (abacusref02_takeOff.A n J 29 [m29]) (abacusref02_takeOff.s29 y0 y1 y2 y3 y4)) x0 x1 x2 x3 x4 x5 := by kernel_rfl
theorem abacusref02_takeOff.q3663 (n : Nat) (m29 : Nat) (x0 : Int) (x1 : Λ) (x2 : Int) (x3 : Int) (x4 : Int) (x5 : Λ) : abacusref02_takeOff.A n idJ 3663 [m29] (abacusref02_takeOff.s3663 x0 x1 x2 x3 x4 x5) = abacusref02_takeOff.l3663 n (fun y0 y1 y2 y3 y4 => abacusref02_takeOff.A n idJ 29 [m29] (abacusref02_takeOff.s29 y0 y1 y2 y3 y4)) x0 x1 x2 x3 x4 x5 := (abacusref02_takeOff.e3663 n idJ m29 x0 x1 x2 x3 x4 x5).trans (rfl)
theorem abacusref02_takeOff.q29 (n : Nat) (m : Nat) : ∀ (x0 : Int) (x1 : Λ) (x2 : Int) (x3 : Int) (x4 : Λ), abacusref02_takeOff.A n idJ 29 [m] (abacusref02_takeOff.s29 x0 x1 x2 x3 x4) = abacusref02_takeOff.l29 n m x0 x1 x2 x3 x4 := by
  induction m with
  | zero => intros; rfl
  | succ m ih =>
    intro x0 x1 x2 x3 x4
    refine (abacusref02_takeOff.e29 n idJ m x0 x1 x2 x3 x4).trans ?_
    exact congrFun (congrFun (congrFun (congrFun (congrFun (congrArg abacusref02_takeOff.b29 ((funext fun y0 => (funext fun y1 => (funext fun y2 => (funext fun y3 => (funext fun y4 => (funext fun y5 => abacusref02_takeOff.q3663 n m y0 y1 y2 y3 y4 y5)))))).trans (by rw [show (fun y0 y1 y2 y3 y4 => abacusref02_takeOff.A n idJ 29 [m] (abacusref02_takeOff.s29 y0 y1 y2 y3 y4)) = _ from (funext fun y0 => (funext fun y1 => (funext fun y2 => (funext fun y3 => (funext fun y4 => ih y0 y1 y2 y3 y4)))))]))) x0) x1) x2) x3) x4
theorem abacusref02_takeOff.eq (n : Nat) (l0 : Λ) (a1 : Int) (l2 : Λ) : afunw (abacusref02_takeOff.cfg) idJ abacusref02_takeOff.cuts n abacusref02_takeOff.code Tryd.f152.results.toList l0 [.int .i64 a1, .ro .u64 l2] (sgw abacusref02_takeOff.sg) = abacusref02_takeOff.f n l0 a1 l2 := (abacusref02_takeOff.e0 n idJ l0 a1 l2).trans (congrFun (congrFun (congrFun (congrArg abacusref02_takeOff.b0 (funext fun y0 => (funext fun y1 => (funext fun y2 => (funext fun y3 => (funext fun y4 => abacusref02_takeOff.q29 n n y0 y1 y2 y3 y4)))))) l0) a1) l2)
theorem abacusref02_takeOff.ok {n : Nat} {l0 : Λ} {a1 : Int} {l2 : Λ} {r : Λ × Unit} (h : abacusref02_takeOff.f n l0 a1 l2 = some r) : CallW Tryd.prog HW 152 l0 [.int .i64 a1, .ro .u64 l2] r.1 (abacusref02_takeOff.sg.enc r.2) :=
  funw_some Tryd.func152 (by kernel_rfl) (body := abacusref02_takeOff.code) (by kernel_rfl) tys_ok (c := abacusref02_takeOff.cfg) noCall_ok noW_ok (by kernel_rfl) (by kernel_rfl) (Nat.le_of_ble_eq_true (by kernel_rfl)) ((abacusref02_takeOff.eq n l0 a1 l2).trans h)
noncomputable def abacusref02_takeOff.call {α : Type} (g : Λ→Int→Λ→Ω (Λ × Unit)) (l0 : Λ) (ds : List D) (K : Λ→List D→Ω α) : Ω α := match ds with
  | [.int .i64 a1, .ro .u64 l2] => (g l0 a1 l2).bind fun r => K r.1 (abacusref02_takeOff.sg.enc r.2)
  | _ => none
theorem abacusref02_takeOff.call_ok {α : Type} {n : Nat} (l : Λ) (ds : List D) (K : Λ→List D→Ω α) (r : α) (h : abacusref02_takeOff.call (abacusref02_takeOff.f n) l ds K = some r) : ∃ l' rs, K l' rs = some r ∧ CallW Tryd.prog HW 152 l ds l' rs := by
  unfold abacusref02_takeOff.call at h
  split at h
  · obtain ⟨x, hx, hk⟩ := Option.bind_eq_some_iff.1 h
    exact ⟨_, _, hk, abacusref02_takeOff.ok (n := n) hx⟩
  · cases h
end Go.Proofs.YtceihajjpeoloaaDoor.F
