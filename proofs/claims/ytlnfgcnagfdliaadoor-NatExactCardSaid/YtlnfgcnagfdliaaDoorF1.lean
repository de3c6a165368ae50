/- What the functions compute, and that calls of them answer so (printed by gen.py). Conditions: HW, a table as it was laid. -/
import Derived.Test.YtlnfgcnagfdliaaDoorF0
namespace Go.Proofs.YtlnfgcnagfdliaaDoor.F
open Go.RowKit Go.Proofs.YtlnfgcnagfdliaaDoorA
set_option linter.unusedVariables false
set_option maxRecDepth 100000
/-! ### nat_Shr: function 61 -/
namespace nat_Shr
noncomputable def b0 (c55 : T1) (c117 : T2) (c118 : T1) (c120 : T3) (k31 : Λ→Int→Bool→Ω (Λ × Bool × Int)) (l0 : Λ) (a1 : Int) : Ω (Λ × Bool × Int) := ((c117 l0).bind fun t1 => (if t1 = true then some (([] : Λ), false, 2) else (if a1 < 0 then some (([] : Λ), false, 1) else ((c118 l0).bind fun t2 => (if t2 > 0 then ((c55 l0).bind fun t3 => k31 l0 a1 (decide (t3 < a1))) else k31 l0 a1 false)))))
noncomputable def b31 (c55 : T1) (c117 : T2) (c118 : T1) (c120 : T3) (k8181 : T52) (x0 : Λ) (x1 : Int) (x2 : Bool) : Ω (Λ × Bool × Int) := ((c118 x0).bind fun t1 => (if 0 ≤ t1 then (if t1 ≤ (ln x0) then ((some (x0.take t1.toNat) : Ω (Λ)).bind fun y2 => (if x1 ≥ (wrap64 (64 * (ln y2))) then some (([] : Λ), x2, 0) else (if 0 ≤ (wrap64 ((ln y2) - (wrap64 (Int.tdiv x1 64)))) then (if (wrap64 ((ln y2) - (wrap64 (Int.tdiv x1 64)))).toNat ≤ 35184372088832 then k8181 y2 x2 (wrap64 (Int.tdiv x1 64)) (IntKind.u64.wrap (Int.tmod x1 64)) (ln (List.replicate (wrap64 ((ln y2) - (wrap64 (Int.tdiv x1 64)))).toNat (0 : Int))) 0 (List.replicate (wrap64 ((ln y2) - (wrap64 (Int.tdiv x1 64)))).toNat (0 : Int)) else none) else none))) else none) else none))
noncomputable def b1023 (c55 : T1) (c117 : T2) (c118 : T1) (c120 : T3) (x0 : Bool) (x1 : Λ) : Ω (Λ × Bool × Int) := ((c120 x1).bind fun t1 => some (t1.1, x0, t1.2))
noncomputable def b8181 (c55 : T1) (c117 : T2) (c118 : T1) (c120 : T3) (k1023 : Bool→Λ→Ω (Λ × Bool × Int)) (k8181 : T52) (x0 : Λ) (x1 : Bool) (x2 x3 x4 x5 : Int) (x6 : Λ) : Ω (Λ × Bool × Int) := (if x5 < x4 then (if 0 ≤ (wrap64 (x2 + x5)) then (if (wrap64 (x2 + x5)) < (ln x0) then (if 0 ≤ x3 then (if (wrap64 ((wrap64 (x2 + x5)) + 1)) < (ln x0) then (if x3 > 0 then (if 0 ≤ (wrap64 ((wrap64 (x2 + x5)) + 1)) then (if (wrap64 ((wrap64 (x2 + x5)) + 1)) < (ln x0) then (if 0 ≤ (IntKind.u64.wrap (64 - x3)) then (if 0 ≤ x5 then (if x5 < (ln x6) then k8181 x0 x1 x2 x3 x4 (wrap64 (x5 + 1)) (x6.set (x5 : Int).toNat (Go.bits .or .u64 (shr .u64 (rd x0 (wrap64 (x2 + x5))) x3) (shl .u64 (rd x0 (wrap64 ((wrap64 (x2 + x5)) + 1))) (IntKind.u64.wrap (64 - x3))))) else none) else none) else none) else none) else none) else (if 0 ≤ x5 then (if x5 < (ln x6) then k8181 x0 x1 x2 x3 x4 (wrap64 (x5 + 1)) (x6.set (x5 : Int).toNat (shr .u64 (rd x0 (wrap64 (x2 + x5))) x3)) else none) else none)) else (if 0 ≤ x5 then (if x5 < (ln x6) then k8181 x0 x1 x2 x3 x4 (wrap64 (x5 + 1)) (x6.set (x5 : Int).toNat (shr .u64 (rd x0 (wrap64 (x2 + x5))) x3)) else none) else none)) else none) else none) else none) else k1023 x1 x6)
noncomputable def l1023 (n : Nat) (x0 : Bool) (x1 : Λ) : Ω (Λ × Bool × Int) := b1023 (nat_Trail.f n) (nat_big.f n) (nat_size.f n) (nat_cut.f n) x0 x1
noncomputable def l8181 (n : Nat) : Nat→Λ→Bool→Int→Int→Int→Int→Λ→Ω (Λ × Bool × Int)
  | 0, _, _, _, _, _, _, _ => none
  | m + 1, x0, x1, x2, x3, x4, x5, x6 => b8181 (nat_Trail.f n) (nat_big.f n) (nat_size.f n) (nat_cut.f n) (l1023 n) (l8181 n m) x0 x1 x2 x3 x4 x5 x6
noncomputable def l31 (n : Nat) (x0 : Λ) (x1 : Int) (x2 : Bool) : Ω (Λ × Bool × Int) := b31 (nat_Trail.f n) (nat_big.f n) (nat_size.f n) (nat_cut.f n) (l8181 n n) x0 x1 x2
noncomputable def f (n : Nat) (l0 : Λ) (a1 : Int) : Ω (Λ × Bool × Int) := b0 (nat_Trail.f n) (nat_big.f n) (nat_size.f n) (nat_cut.f n) (l31 n) l0 a1
noncomputable def sg : Sig (Λ × Bool × Int) := s2 (sRow .u64) (s2 (sBool) (s1 (sInt .i64)))
noncomputable def code : Code := (Tryd.f61.body).getD .skip
noncomputable def cfg (c55 : T1) (c117 : T2) (c118 : T1) (c120 : T3) : Cfg (Λ × Bool × Int) := { T := tys, call := orCall 55 (nat_Trail.call c55) (orCall 117 (nat_big.call c117) (orCall 118 (nat_size.call c118) (orCall 120 (nat_cut.call c120) (noCall)))) }
noncomputable def cuts : List (Nat × List (Nat × Want)) := [(31, [(0, .keep), (1, .keep), (7, .keep)]), (1023, [(7, .keep), (10, .keep)]), (8181, [(0, .keep), (7, .keep), (8, .keep), (9, .keep), (10, .keep), (49, .keep), (50, .keep)])]
noncomputable def s31 (x0 : Λ) (x1 : Int) (x2 : Bool) : ASt := ⟨[(0, .ro .u64 x0), (1, .int .i64 x1), (7, .bool x2)], []⟩
noncomputable def s1023 (x0 : Bool) (x1 : Λ) : ASt := ⟨[(7, .bool x0), (10, .own 0)], [.ints 25 .u64 x1]⟩
noncomputable def s8181 (x0 : Λ) (x1 : Bool) (x2 x3 x4 x5 : Int) (x6 : Λ) : ASt := ⟨[(0, .ro .u64 x0), (7, .bool x1), (8, .int .i64 x2), (9, .int .u64 x3), (10, .own 0), (49, .int .i64 x4), (50, .int .i64 x5)], [.ints 25 .u64 x6]⟩
noncomputable def A (c55 : T1) (c117 : T2) (c118 : T1) (c120 : T3) (n : Nat) (J : Jt (Λ × Bool × Int)) (q : Nat) (ms : List Nat) : ASt→Ω (Λ × Bool × Int) := acont (cfg c55 c117 c118 c120) J cuts n q code 1 ms (aend (cfg c55 c117 c118 c120) Tryd.f61.results.toList [false, false, false] sg.out)
theorem e0 {c55 c117 c118 c120 n J l0 a1} : afun (cfg c55 c117 c118 c120) J cuts n code Tryd.f61.results.toList [false, false, false] [.ro .u64 l0, .int .i64 a1] sg.out = b0 c55 c117 c118 c120 (fun y0 y1 y2 => J 31 (A c55 c117 c118 c120 n J 31 []) (s31 y0 y1 y2)) l0 a1 := by kernel_rfl
theorem e31 {c55 c117 c118 c120 n J x0 x1 x2} : A c55 c117 c118 c120 n J 31 [] (s31 x0 x1 x2) = b31 c55 c117 c118 c120 (fun y0 y1 y2 y3 y4 y5 y6 => J 8181 (A c55 c117 c118 c120 n J 8181 [n]) (s8181 y0 y1 y2 y3 y4 y5 y6)) x0 x1 x2 := by kernel_rfl
theorem e1023 {c55 c117 c118 c120 n J x0 x1} : A c55 c117 c118 c120 n J 1023 [] (s1023 x0 x1) = b1023 c55 c117 c118 c120 x0 x1 := by kernel_rfl
theorem e8181 {c55 c117 c118 c120 n J m x0 x1 x2 x3 x4 x5 x6} : A c55 c117 c118 c120 n J 8181 [m + 1] (s8181 x0 x1 x2 x3 x4 x5 x6) = b8181 c55 c117 c118 c120 (fun y0 y1 => J 1023 (A c55 c117 c118 c120 n J 1023 []) (s1023 y0 y1)) (fun y0 y1 y2 y3 y4 y5 y6 => J 8181 (A c55 c117 c118 c120 n J 8181 [m]) (s8181 y0 y1 y2 y3 y4 y5 y6)) x0 x1 x2 x3 x4 x5 x6 := by kernel_rfl
noncomputable abbrev I (n : Nat) := A (nat_Trail.f n) (nat_big.f n) (nat_size.f n) (nat_cut.f n) n idJ
theorem q1023 (n x0 x1) : I n 1023 [] (s1023 x0 x1) = l1023 n x0 x1 := e1023
theorem q8181 (n m) : ∀ x0 x1 x2 x3 x4 x5 x6, I n 8181 [m] (s8181 x0 x1 x2 x3 x4 x5 x6) = l8181 n m x0 x1 x2 x3 x4 x5 x6 := by
  induction m with
  | zero => intros; rfl
  | succ m ih =>
    intros
    exact e8181.trans (Eq.trans (cf7 (congr (congrArg (b8181 _ _ _ _) (fu2 (q1023 n))) (fu7 (ih))) _ _ _ _ _ _ _) rfl)
theorem q31 (n x0 x1 x2) : I n 31 [] (s31 x0 x1 x2) = l31 n x0 x1 x2 := e31.trans (Eq.trans (cf3 (congrArg (b31 _ _ _ _) (fu7 (q8181 n n))) _ _ _) rfl)
theorem ok {n  l0 a1 r} (h : f n l0 a1 = some r) : CallD Tryd.prog HW 61 [.ro .u64 l0, .int .i64 a1] (sg.enc r) :=
  fun_some hwS Tryd.func61 (by kernel_rfl) (body := code) (by kernel_rfl) tys_ok (c := cfg (nat_Trail.f n) (nat_big.f n) (nat_size.f n) (nat_cut.f n)) (orCall_ok (nat_Trail.call_ok (n := n)) (orCall_ok (nat_big.call_ok (n := n)) (orCall_ok (nat_size.call_ok (n := n)) (orCall_ok (nat_cut.call_ok (n := n)) noCall_ok)))) noW_ok (by kernel_rfl) (by kernel_rfl) (Nat.le_of_ble_eq_true (by kernel_rfl)) (Eq.trans ((e0 (n := n)).trans (Eq.trans (cf2 (congrArg (b0 _ _ _ _) (fu3 (q31 n))) _ _) rfl)) h)
noncomputable def call {α : Type} (g : T21) (ds : List D) (K : List D→Ω α) : Ω α := match ds with
  | [.ro .u64 l0, .int .i64 a1] => (g l0 a1).bind fun r => K (sg.enc r)
  | _ => none
theorem call_ok {α : Type} {n : Nat} : COK Tryd.prog HW 61 (call (α := α) (f n)) := fun _ _ _ h => by
  unfold call at h; split at h
  · exact cok h fun _ => ok
  · cases h
end nat_Shr
/-! ### nat_Sum: function 62 -/
namespace nat_Sum
noncomputable def b0 (c32 : T5) (c117 : T2) (k53 : T30) (n0 : Int) (r0_0 : List (Λ)) : Ω (Λ × Int) := k53 n0 r0_0 0
noncomputable def b7 (c32 : T5) (c117 : T2) (k245 : T53) (x0 : Int) (x1 : List (Λ)) : Ω (Λ × Int) := k245 ([] : Λ) x0 x1 0
noncomputable def b53 (c32 : T5) (c117 : T2) (k7 : T15) (k53 : T30) (x0 : Int) (x1 : List (Λ)) (x2 : Int) : Ω (Λ × Int) := (if x2 < x0 then (if 0 ≤ x2 then (if x2 < x0 then ((c117 (rdr x1 x2)).bind fun t1 => (if t1 = true then some (([] : Λ), 2) else k53 x0 x1 (wrap64 (x2 + 1)))) else none) else none) else k7 x0 x1)
noncomputable def b245 (c32 : T5) (c117 : T2) (k245 : T53) (x0 : Λ) (x1 : Int) (x2 : List (Λ)) (x3 : Int) : Ω (Λ × Int) := (if x3 < x1 then (if 0 ≤ x3 then (if x3 < x1 then ((c32 x0 (rdr x2 x3)).bind fun t1 => (if ¬ t1.2 = 0 then some (([] : Λ), t1.2) else k245 t1.1 x1 x2 (wrap64 (x3 + 1)))) else none) else none) else some (x0, 0))
noncomputable def l245 (n : Nat) : Nat→Λ→Int→List (Λ)→Int→Ω (Λ × Int)
  | 0, _, _, _, _ => none
  | m + 1, x0, x1, x2, x3 => b245 (nat_Add.f n) (nat_big.f n) (l245 n m) x0 x1 x2 x3
noncomputable def l7 (n : Nat) (x0 : Int) (x1 : List (Λ)) : Ω (Λ × Int) := b7 (nat_Add.f n) (nat_big.f n) (l245 n n) x0 x1
noncomputable def l53 (n : Nat) : Nat→Int→List (Λ)→Int→Ω (Λ × Int)
  | 0, _, _, _ => none
  | m + 1, x0, x1, x2 => b53 (nat_Add.f n) (nat_big.f n) (l7 n) (l53 n m) x0 x1 x2
noncomputable def f (n : Nat) (n0 : Int) (r0_0 : List (Λ)) : Ω (Λ × Int) := b0 (nat_Add.f n) (nat_big.f n) (l53 n n) n0 r0_0
noncomputable def sg : Sig (Λ × Int) := s2 (sRow .u64) (s1 (sInt .i64))
noncomputable def code : Code := (Tryd.f62.body).getD .skip
noncomputable def cfg (c32 : T5) (c117 : T2) : Cfg (Λ × Int) := { T := tys, call := orCall 32 (nat_Add.call c32) (orCall 117 (nat_big.call c117) (noCall)) }
noncomputable def cuts : List (Nat × List (Nat × Want)) := [(7, [(0, .keep)]), (53, [(0, .keep), (11, .keep), (12, .keep), (13, .keep)]), (245, [(6, .row), (20, .keep), (21, .keep), (22, .keep)])]
noncomputable def s7 (x0 : Int) (x1 : List (Λ)) : ASt := ⟨[(0, .recs x0 [.row .u64 x1])], []⟩
noncomputable def s53 (x0 : Int) (x1 : List (Λ)) (x2 : Int) : ASt := ⟨[(0, .recs x0 [.row .u64 x1]), (11, .recs x0 [.row .u64 x1]), (12, .int .i64 x0), (13, .int .i64 x2)], []⟩
noncomputable def s245 (x0 : Λ) (x1 : Int) (x2 : List (Λ)) (x3 : Int) : ASt := ⟨[(6, .ro .u64 x0), (20, .recs x1 [.row .u64 x2]), (21, .int .i64 x1), (22, .int .i64 x3)], []⟩
noncomputable def A (c32 : T5) (c117 : T2) (n : Nat) (J : Jt (Λ × Int)) (q : Nat) (ms : List Nat) : ASt→Ω (Λ × Int) := acont (cfg c32 c117) J cuts n q code 1 ms (aend (cfg c32 c117) Tryd.f62.results.toList [false, false] sg.out)
theorem e0 {c32 c117 n J n0 r0_0} : afun (cfg c32 c117) J cuts n code Tryd.f62.results.toList [false, false] [.recs n0 [.row .u64 r0_0]] sg.out = b0 c32 c117 (fun y0 y1 y2 => J 53 (A c32 c117 n J 53 [n]) (s53 y0 y1 y2)) n0 r0_0 := by kernel_rfl
theorem e7 {c32 c117 n J x0 x1} : A c32 c117 n J 7 [] (s7 x0 x1) = b7 c32 c117 (fun y0 y1 y2 y3 => J 245 (A c32 c117 n J 245 [n]) (s245 y0 y1 y2 y3)) x0 x1 := by kernel_rfl
theorem e53 {c32 c117 n J m x0 x1 x2} : A c32 c117 n J 53 [m + 1] (s53 x0 x1 x2) = b53 c32 c117 (fun y0 y1 => J 7 (A c32 c117 n J 7 []) (s7 y0 y1)) (fun y0 y1 y2 => J 53 (A c32 c117 n J 53 [m]) (s53 y0 y1 y2)) x0 x1 x2 := by kernel_rfl
theorem e245 {c32 c117 n J m x0 x1 x2 x3} : A c32 c117 n J 245 [m + 1] (s245 x0 x1 x2 x3) = b245 c32 c117 (fun y0 y1 y2 y3 => J 245 (A c32 c117 n J 245 [m]) (s245 y0 y1 y2 y3)) x0 x1 x2 x3 := by kernel_rfl
noncomputable abbrev I (n : Nat) := A (nat_Add.f n) (nat_big.f n) n idJ
theorem q245 (n m) : ∀ x0 x1 x2 x3, I n 245 [m] (s245 x0 x1 x2 x3) = l245 n m x0 x1 x2 x3 := by
  induction m with
  | zero => intros; rfl
  | succ m ih =>
    intros
    exact e245.trans (Eq.trans (cf4 (congrArg (b245 _ _) (fu4 (ih))) _ _ _ _) rfl)
theorem q7 (n x0 x1) : I n 7 [] (s7 x0 x1) = l7 n x0 x1 := e7.trans (Eq.trans (cf2 (congrArg (b7 _ _) (fu4 (q245 n n))) _ _) rfl)
theorem q53 (n m) : ∀ x0 x1 x2, I n 53 [m] (s53 x0 x1 x2) = l53 n m x0 x1 x2 := by
  induction m with
  | zero => intros; rfl
  | succ m ih =>
    intros
    exact e53.trans (Eq.trans (cf3 (congr (congrArg (b53 _ _) (fu2 (q7 n))) (fu3 (ih))) _ _ _) rfl)
theorem ok {n  n0 r0_0 r} (h : f n n0 r0_0 = some r) : CallD Tryd.prog HW 62 [.recs n0 [.row .u64 r0_0]] (sg.enc r) :=
  fun_some hwS Tryd.func62 (by kernel_rfl) (body := code) (by kernel_rfl) tys_ok (c := cfg (nat_Add.f n) (nat_big.f n)) (orCall_ok (nat_Add.call_ok (n := n)) (orCall_ok (nat_big.call_ok (n := n)) noCall_ok)) noW_ok (by kernel_rfl) (by kernel_rfl) (Nat.le_of_ble_eq_true (by kernel_rfl)) (Eq.trans ((e0 (n := n)).trans (Eq.trans (cf2 (congrArg (b0 _ _) (fu3 (q53 n n))) _ _) rfl)) h)
noncomputable def call {α : Type} (g : T15) (ds : List D) (K : List D→Ω α) : Ω α := match ds with
  | [.recs n0 [.row .u64 r0_0]] => (g n0 r0_0).bind fun r => K (sg.enc r)
  | _ => none
theorem call_ok {α : Type} {n : Nat} : COK Tryd.prog HW 62 (call (α := α) (f n)) := fun _ _ _ h => by
  unfold call at h; split at h
  · exact cok h fun _ => ok
  · cases h
end nat_Sum
/-! ### nat_Low: function 63 -/
namespace nat_Low
noncomputable def b0 (c50 : T0) (c117 : T2) (c120 : T3) (k1013 : T54) (l0 : Λ) (a1 : Int) : Ω (Λ × Int) := ((c117 l0).bind fun t1 => (if t1 = true then some (([] : Λ), 2) else (if a1 < 0 then some (([] : Λ), 1) else ((c50 l0).bind fun t2 => (if a1 ≥ (wrap64 (64 * (ln t2))) then some (t2, 0) else k1013 a1 (ln t2) 0 t2)))))
noncomputable def b127 (c50 : T0) (c117 : T2) (c120 : T3) (x0 : Λ) : Ω (Λ × Int) := ((c120 x0).bind fun t1 => some (t1.1, t1.2))
noncomputable def b1013 (c50 : T0) (c117 : T2) (c120 k127 : T3) (k1013 : T54) (x0 x1 x2 : Int) (x3 : Λ) : Ω (Λ × Int) := (if x2 < x1 then (if x2 > (wrap64 (Int.tdiv x0 64)) then (if 0 ≤ x2 then (if x2 < (ln x3) then k1013 x0 x1 (wrap64 (x2 + 1)) (x3.set (x2 : Int).toNat 0) else none) else none) else (if x2 = (wrap64 (Int.tdiv x0 64)) then (if 0 ≤ x2 then (if x2 < (ln x3) then (if 0 ≤ (IntKind.u64.wrap (Int.tmod x0 64)) then (if 0 ≤ x2 then (if x2 < (ln x3) then k1013 x0 x1 (wrap64 (x2 + 1)) (x3.set (x2 : Int).toNat (Go.bits .and .u64 (rd x3 x2) (IntKind.u64.wrap ((shl .u64 1 (IntKind.u64.wrap (Int.tmod x0 64))) - 1)))) else none) else none) else none) else none) else none) else k1013 x0 x1 (wrap64 (x2 + 1)) x3)) else k127 x3)
noncomputable def l127 (n : Nat) (x0 : Λ) : Ω (Λ × Int) := b127 (nat_Trim.f n) (nat_big.f n) (nat_cut.f n) x0
noncomputable def l1013 (n : Nat) : Nat→Int→Int→Int→Λ→Ω (Λ × Int)
  | 0, _, _, _, _ => none
  | m + 1, x0, x1, x2, x3 => b1013 (nat_Trim.f n) (nat_big.f n) (nat_cut.f n) (l127 n) (l1013 n m) x0 x1 x2 x3
noncomputable def f (n : Nat) (l0 : Λ) (a1 : Int) : Ω (Λ × Int) := b0 (nat_Trim.f n) (nat_big.f n) (nat_cut.f n) (l1013 n n) l0 a1
noncomputable def sg : Sig (Λ × Int) := s2 (sRow .u64) (s1 (sInt .i64))
noncomputable def code : Code := (Tryd.f63.body).getD .skip
noncomputable def cfg (c50 : T0) (c117 : T2) (c120 : T3) : Cfg (Λ × Int) := { T := tys, call := orCall 50 (nat_Trim.call c50) (orCall 117 (nat_big.call c117) (orCall 120 (nat_cut.call c120) (noCall))) }
noncomputable def cuts : List (Nat × List (Nat × Want)) := [(127, [(6, .keep)]), (1013, [(1, .keep), (6, .keep), (21, .keep), (22, .keep)])]
noncomputable def s127 (x0 : Λ) : ASt := ⟨[(6, .own 0)], [.ints 25 .u64 x0]⟩
noncomputable def s1013 (x0 x1 x2 : Int) (x3 : Λ) : ASt := ⟨[(1, .int .i64 x0), (6, .own 0), (21, .int .i64 x1), (22, .int .i64 x2)], [.ints 25 .u64 x3]⟩
noncomputable def A (c50 : T0) (c117 : T2) (c120 : T3) (n : Nat) (J : Jt (Λ × Int)) (q : Nat) (ms : List Nat) : ASt→Ω (Λ × Int) := acont (cfg c50 c117 c120) J cuts n q code 1 ms (aend (cfg c50 c117 c120) Tryd.f63.results.toList [false, false] sg.out)
theorem e0 {c50 c117 c120 n J l0 a1} : afun (cfg c50 c117 c120) J cuts n code Tryd.f63.results.toList [false, false] [.ro .u64 l0, .int .i64 a1] sg.out = b0 c50 c117 c120 (fun y0 y1 y2 y3 => J 1013 (A c50 c117 c120 n J 1013 [n]) (s1013 y0 y1 y2 y3)) l0 a1 := by kernel_rfl
theorem e127 {c50 c117 c120 n J x0} : A c50 c117 c120 n J 127 [] (s127 x0) = b127 c50 c117 c120 x0 := by kernel_rfl
theorem e1013 {c50 c117 c120 n J m x0 x1 x2 x3} : A c50 c117 c120 n J 1013 [m + 1] (s1013 x0 x1 x2 x3) = b1013 c50 c117 c120 (fun y0 => J 127 (A c50 c117 c120 n J 127 []) (s127 y0)) (fun y0 y1 y2 y3 => J 1013 (A c50 c117 c120 n J 1013 [m]) (s1013 y0 y1 y2 y3)) x0 x1 x2 x3 := by kernel_rfl
noncomputable abbrev I (n : Nat) := A (nat_Trim.f n) (nat_big.f n) (nat_cut.f n) n idJ
theorem q127 (n x0) : I n 127 [] (s127 x0) = l127 n x0 := e127
theorem q1013 (n m) : ∀ x0 x1 x2 x3, I n 1013 [m] (s1013 x0 x1 x2 x3) = l1013 n m x0 x1 x2 x3 := by
  induction m with
  | zero => intros; rfl
  | succ m ih =>
    intros
    exact e1013.trans (Eq.trans (cf4 (congr (congrArg (b1013 _ _ _) (fu1 (q127 n))) (fu4 (ih))) _ _ _ _) rfl)
theorem ok {n  l0 a1 r} (h : f n l0 a1 = some r) : CallD Tryd.prog HW 63 [.ro .u64 l0, .int .i64 a1] (sg.enc r) :=
  fun_some hwS Tryd.func63 (by kernel_rfl) (body := code) (by kernel_rfl) tys_ok (c := cfg (nat_Trim.f n) (nat_big.f n) (nat_cut.f n)) (orCall_ok (nat_Trim.call_ok (n := n)) (orCall_ok (nat_big.call_ok (n := n)) (orCall_ok (nat_cut.call_ok (n := n)) noCall_ok))) noW_ok (by kernel_rfl) (by kernel_rfl) (Nat.le_of_ble_eq_true (by kernel_rfl)) (Eq.trans ((e0 (n := n)).trans (Eq.trans (cf2 (congrArg (b0 _ _ _) (fu4 (q1013 n n))) _ _) rfl)) h)
noncomputable def call {α : Type} (g : T12) (ds : List D) (K : List D→Ω α) : Ω α := match ds with
  | [.ro .u64 l0, .int .i64 a1] => (g l0 a1).bind fun r => K (sg.enc r)
  | _ => none
theorem call_ok {α : Type} {n : Nat} : COK Tryd.prog HW 63 (call (α := α) (f n)) := fun _ _ _ h => by
  unfold call at h; split at h
  · exact cok h fun _ => ok
  · cases h
end nat_Low
/-! ### abacuslaw01_asked: function 12 -/
namespace abacuslaw01_asked
noncomputable def b0 (c32 c33 : T5) (c50 : T0) (c51 : T17) (c52 : T18) (c53 : T1) (c54 : T10) (c55 : T1) (c56 : T9) (c57 : T5) (c58 : T19) (c59 : T20) (c60 : T12) (c61 : T21) (c62 : T15) (c63 : T12) (a0 : Int) (l1 l2 : Λ) (a3 a4 a5 : Int) : Ω (Λ × Int × Int × Bool × Int) := (if a0 = 1 then ((c50 l1).bind fun t1 => some (t1, 0, 0, false, 0)) else (if a0 = 2 then ((c51 a3).bind fun t2 => some (t2, 0, 0, false, 0)) else (if a0 = 3 then ((c52 l1).bind fun t3 => some (([] : Λ), t3.1, 0, t3.2, 0)) else (if a0 = 4 then ((c53 l1).bind fun t4 => some (([] : Λ), 0, t4, false, 0)) else (if a0 = 5 then ((c54 l1 a5).bind fun t5 => some (([] : Λ), 0, t5, false, 0)) else (if a0 = 6 then ((c55 l1).bind fun t6 => some (([] : Λ), 0, t6, false, 0)) else (if a0 = 7 then ((c56 l1 l2).bind fun t7 => some (([] : Λ), 0, t7, false, 0)) else (if a0 = 8 then ((c32 l1 l2).bind fun t8 => some (t8.1, 0, 0, false, t8.2)) else (if a0 = 9 then ((c57 l1 l2).bind fun t9 => some (t9.1, 0, 0, false, t9.2)) else (if a0 = 10 then ((c33 l1 l2).bind fun t10 => some (t10.1, 0, 0, false, t10.2)) else (if a0 = 11 then ((c58 l1 a3 a4).bind fun t11 => some (t11.1, 0, 0, false, t11.2)) else (if a0 = 12 then ((c59 l1 a3).bind fun t12 => some (t12.1, t12.2.1, 0, false, t12.2.2)) else (if a0 = 13 then ((c60 l1 a5).bind fun t13 => some (t13.1, 0, 0, false, t13.2)) else (if a0 = 14 then ((c61 l1 a5).bind fun t14 => some (t14.1, 0, 0, t14.2.1, t14.2.2)) else (if a0 = 15 then ((c62 (lnr [l1, l2, l1]) [l1, l2, l1]).bind fun t15 => some (t15.1, 0, 0, false, t15.2)) else (if a0 = 16 then ((c63 l1 a5).bind fun t16 => some (t16.1, 0, 0, false, t16.2)) else some (([] : Λ), 0, 0, false, 0)))))))))))))))))
noncomputable def f (n : Nat) (a0 : Int) (l1 l2 : Λ) (a3 a4 a5 : Int) : Ω (Λ × Int × Int × Bool × Int) := b0 (nat_Add.f n) (nat_Mul.f n) (nat_Trim.f n) nat_FromUint.f (nat_ToUint.f n) (nat_BitLen.f n) nat_Bit.f (nat_Trail.f n) (nat_Cmp.f n) (nat_Sub.f n) (nat_MulAdd.f n) (nat_DivSmall.f n) (nat_Shl.f n) (nat_Shr.f n) (nat_Sum.f n) (nat_Low.f n) a0 l1 l2 a3 a4 a5
noncomputable def sg : Sig (Λ × Int × Int × Bool × Int) := s1 (sAgg (s2 (sRow .u64) (s2 (sInt .u64) (s2 (sInt .i64) (s2 (sBool) (s1 (sInt .i64)))))))
noncomputable def code : Code := (Tryd.f12.body).getD .skip
noncomputable def cfg (c32 c33 : T5) (c50 : T0) (c51 : T17) (c52 : T18) (c53 : T1) (c54 : T10) (c55 : T1) (c56 : T9) (c57 : T5) (c58 : T19) (c59 : T20) (c60 : T12) (c61 : T21) (c62 : T15) (c63 : T12) : Cfg (Λ × Int × Int × Bool × Int) := { T := tys, call := orCall 32 (nat_Add.call c32) (orCall 33 (nat_Mul.call c33) (orCall 50 (nat_Trim.call c50) (orCall 51 (nat_FromUint.call c51) (orCall 52 (nat_ToUint.call c52) (orCall 53 (nat_BitLen.call c53) (orCall 54 (nat_Bit.call c54) (orCall 55 (nat_Trail.call c55) (orCall 56 (nat_Cmp.call c56) (orCall 57 (nat_Sub.call c57) (orCall 58 (nat_MulAdd.call c58) (orCall 59 (nat_DivSmall.call c59) (orCall 60 (nat_Shl.call c60) (orCall 61 (nat_Shr.call c61) (orCall 62 (nat_Sum.call c62) (orCall 63 (nat_Low.call c63) (noCall)))))))))))))))) }
noncomputable def cuts : List (Nat × List (Nat × Want)) := []
theorem e0 {c32 c33 c50 c51 c52 c53 c54 c55 c56 c57 c58 c59 c60 c61 c62 c63 n J a0 l1 l2 a3 a4 a5} : afun (cfg c32 c33 c50 c51 c52 c53 c54 c55 c56 c57 c58 c59 c60 c61 c62 c63) J cuts n code Tryd.f12.results.toList [false] [.agg [.int .i64 a0, .ro .u64 l1, .ro .u64 l2, .int .u64 a3, .int .u64 a4, .int .i64 a5]] sg.out = b0 c32 c33 c50 c51 c52 c53 c54 c55 c56 c57 c58 c59 c60 c61 c62 c63 a0 l1 l2 a3 a4 a5 := by kernel_rfl
theorem ok {n  a0 l1 l2 a3 a4 a5 r} (h : f n a0 l1 l2 a3 a4 a5 = some r) : CallD Tryd.prog HW 12 [.agg [.int .i64 a0, .ro .u64 l1, .ro .u64 l2, .int .u64 a3, .int .u64 a4, .int .i64 a5]] (sg.enc r) :=
  fun_some hwS Tryd.func12 (by kernel_rfl) (body := code) (by kernel_rfl) tys_ok (c := cfg (nat_Add.f n) (nat_Mul.f n) (nat_Trim.f n) nat_FromUint.f (nat_ToUint.f n) (nat_BitLen.f n) nat_Bit.f (nat_Trail.f n) (nat_Cmp.f n) (nat_Sub.f n) (nat_MulAdd.f n) (nat_DivSmall.f n) (nat_Shl.f n) (nat_Shr.f n) (nat_Sum.f n) (nat_Low.f n)) (orCall_ok (nat_Add.call_ok (n := n)) (orCall_ok (nat_Mul.call_ok (n := n)) (orCall_ok (nat_Trim.call_ok (n := n)) (orCall_ok nat_FromUint.call_ok (orCall_ok (nat_ToUint.call_ok (n := n)) (orCall_ok (nat_BitLen.call_ok (n := n)) (orCall_ok nat_Bit.call_ok (orCall_ok (nat_Trail.call_ok (n := n)) (orCall_ok (nat_Cmp.call_ok (n := n)) (orCall_ok (nat_Sub.call_ok (n := n)) (orCall_ok (nat_MulAdd.call_ok (n := n)) (orCall_ok (nat_DivSmall.call_ok (n := n)) (orCall_ok (nat_Shl.call_ok (n := n)) (orCall_ok (nat_Shr.call_ok (n := n)) (orCall_ok (nat_Sum.call_ok (n := n)) (orCall_ok (nat_Low.call_ok (n := n)) noCall_ok)))))))))))))))) noW_ok (by kernel_rfl) (by kernel_rfl) (Nat.le_of_ble_eq_true (by kernel_rfl)) (Eq.trans ((e0 (n := n))) h)
noncomputable def call {α : Type} (g : T14) (ds : List D) (K : List D→Ω α) : Ω α := match ds with
  | [.agg [.int .i64 a0, .ro .u64 l1, .ro .u64 l2, .int .u64 a3, .int .u64 a4, .int .i64 a5]] => (g a0 l1 l2 a3 a4 a5).bind fun r => K (sg.enc r)
  | _ => none
theorem call_ok {α : Type} {n : Nat} : COK Tryd.prog HW 12 (call (α := α) (f n)) := fun _ _ _ h => by
  unfold call at h; split at h
  · exact cok h fun _ => ok
  · cases h
end abacuslaw01_asked
/-! ### abacusref01_Same: function 15 -/
namespace abacusref01_Same
noncomputable def b0 (k117 : Λ→Λ→Int→Ω (Bool)) (l0 l1 : Λ) : Ω (Bool) := (if ¬ (ln l0) = (ln l1) then some false else k117 l0 l1 0)
noncomputable def b117 (k117 : Λ→Λ→Int→Ω (Bool)) (x0 x1 : Λ) (x2 : Int) : Ω (Bool) := (if x2 < (ln x0) then (if 0 ≤ x2 then (if x2 < (ln x0) then (if 0 ≤ x2 then (if x2 < (ln x1) then (if ¬ (rd x0 x2) = (rd x1 x2) then some false else k117 x0 x1 (wrap64 (x2 + 1))) else none) else none) else none) else none) else some true)
noncomputable def l117 (n : Nat) : Nat→Λ→Λ→Int→Ω (Bool)
  | 0, _, _, _ => none
  | m + 1, x0, x1, x2 => b117 (l117 n m) x0 x1 x2
noncomputable def f (n : Nat) (l0 l1 : Λ) : Ω (Bool) := b0 (l117 n n) l0 l1
noncomputable def sg : Sig (Bool) := s1 (sBool)
noncomputable def code : Code := (Tryd.f15.body).getD .skip
noncomputable def cfg : Cfg (Bool) := { T := tys, call := noCall }
noncomputable def cuts : List (Nat × List (Nat × Want)) := [(117, [(0, .keep), (1, .keep), (5, .keep)])]
noncomputable def s117 (x0 x1 : Λ) (x2 : Int) : ASt := ⟨[(0, .ro .u64 x0), (1, .ro .u64 x1), (5, .int .i64 x2)], []⟩
noncomputable def A (n : Nat) (J : Jt (Bool)) (q : Nat) (ms : List Nat) : ASt→Ω (Bool) := acont cfg J cuts n q code 1 ms (aend cfg Tryd.f15.results.toList [false] sg.out)
theorem e0 {n J l0 l1} : afun cfg J cuts n code Tryd.f15.results.toList [false] [.ro .u64 l0, .ro .u64 l1] sg.out = b0 (fun y0 y1 y2 => J 117 (A n J 117 [n]) (s117 y0 y1 y2)) l0 l1 := by kernel_rfl
theorem e117 {n J m x0 x1 x2} : A n J 117 [m + 1] (s117 x0 x1 x2) = b117 (fun y0 y1 y2 => J 117 (A n J 117 [m]) (s117 y0 y1 y2)) x0 x1 x2 := by kernel_rfl
noncomputable abbrev I (n : Nat) := A n idJ
theorem q117 (n m) : ∀ x0 x1 x2, I n 117 [m] (s117 x0 x1 x2) = l117 n m x0 x1 x2 := by
  induction m with
  | zero => intros; rfl
  | succ m ih =>
    intros
    exact e117.trans (Eq.trans (cf3 (congrArg b117 (fu3 (ih))) _ _ _) rfl)
theorem ok {n  l0 l1 r} (h : f n l0 l1 = some r) : CallD Tryd.prog HW 15 [.ro .u64 l0, .ro .u64 l1] (sg.enc r) :=
  fun_some hwS Tryd.func15 (by kernel_rfl) (body := code) (by kernel_rfl) tys_ok (c := cfg) noCall_ok noW_ok (by kernel_rfl) (by kernel_rfl) (Nat.le_of_ble_eq_true (by kernel_rfl)) (Eq.trans ((e0 (n := n)).trans (Eq.trans (cf2 (congrArg b0 (fu3 (q117 n n))) _ _) rfl)) h)
noncomputable def call {α : Type} (g : T33) (ds : List D) (K : List D→Ω α) : Ω α := match ds with
  | [.ro .u64 l0, .ro .u64 l1] => (g l0 l1).bind fun r => K (sg.enc r)
  | _ => none
theorem call_ok {α : Type} {n : Nat} : COK Tryd.prog HW 15 (call (α := α) (f n)) := fun _ _ _ h => by
  unfold call at h; split at h
  · exact cok h fun _ => ok
  · cases h
end abacusref01_Same
/-! ### abacuslaw01_alike: function 11 -/
namespace abacuslaw01_alike
noncomputable def b0 (c15 : T33) (l0 : Λ) (a1 a2 : Int) (a3 : Bool) (a4 : Int) (l5 : Λ) (a6 a7 : Int) (a8 : Bool) (a9 : Int) : Ω (Bool) := (if a1 = a6 then (if a2 = a7 then (if (a3 == a8) = true then (if a4 = a9 then ((c15 l0 l5).bind fun t1 => some t1) else some false) else some false) else some false) else some false)
noncomputable def f (n : Nat) (l0 : Λ) (a1 a2 : Int) (a3 : Bool) (a4 : Int) (l5 : Λ) (a6 a7 : Int) (a8 : Bool) (a9 : Int) : Ω (Bool) := b0 (abacusref01_Same.f n) l0 a1 a2 a3 a4 l5 a6 a7 a8 a9
noncomputable def sg : Sig (Bool) := s1 (sBool)
noncomputable def code : Code := (Tryd.f11.body).getD .skip
noncomputable def cfg (c15 : T33) : Cfg (Bool) := { T := tys, call := orCall 15 (abacusref01_Same.call c15) (noCall) }
noncomputable def cuts : List (Nat × List (Nat × Want)) := []
theorem e0 {c15 n J l0 a1 a2 a3 a4 l5 a6 a7 a8 a9} : afun (cfg c15) J cuts n code Tryd.f11.results.toList [false] [.agg [.ro .u64 l0, .int .u64 a1, .int .i64 a2, .bool a3, .int .i64 a4], .agg [.ro .u64 l5, .int .u64 a6, .int .i64 a7, .bool a8, .int .i64 a9]] sg.out = b0 c15 l0 a1 a2 a3 a4 l5 a6 a7 a8 a9 := by kernel_rfl
theorem ok {n  l0 a1 a2 a3 a4 l5 a6 a7 a8 a9 r} (h : f n l0 a1 a2 a3 a4 l5 a6 a7 a8 a9 = some r) : CallD Tryd.prog HW 11 [.agg [.ro .u64 l0, .int .u64 a1, .int .i64 a2, .bool a3, .int .i64 a4], .agg [.ro .u64 l5, .int .u64 a6, .int .i64 a7, .bool a8, .int .i64 a9]] (sg.enc r) :=
  fun_some hwS Tryd.func11 (by kernel_rfl) (body := code) (by kernel_rfl) tys_ok (c := cfg (abacusref01_Same.f n)) (orCall_ok (abacusref01_Same.call_ok (n := n)) noCall_ok) noW_ok (by kernel_rfl) (by kernel_rfl) (Nat.le_of_ble_eq_true (by kernel_rfl)) (Eq.trans ((e0 (n := n))) h)
noncomputable def call {α : Type} (g : T24) (ds : List D) (K : List D→Ω α) : Ω α := match ds with
  | [.agg [.ro .u64 l0, .int .u64 a1, .int .i64 a2, .bool a3, .int .i64 a4], .agg [.ro .u64 l5, .int .u64 a6, .int .i64 a7, .bool a8, .int .i64 a9]] => (g l0 a1 a2 a3 a4 l5 a6 a7 a8 a9).bind fun r => K (sg.enc r)
  | _ => none
theorem call_ok {α : Type} {n : Nat} : COK Tryd.prog HW 11 (call (α := α) (f n)) := fun _ _ _ h => by
  unfold call at h; split at h
  · exact cok h fun _ => ok
  · cases h
end abacuslaw01_alike
/-! ### abacuslaw01_NatExact: function 3 -/
namespace abacuslaw01_NatExact
noncomputable def b0 (c8 : T22) (c9 : T14) (c10 : T0) (c11 : T24) (c12 : T14) (k117 : T55) (n0 : Int) (r0_0 : Λ) (r0_1 : List (Λ)) (r0_2 : List (Λ)) (r0_3 r0_4 r0_5 : Λ) : Ω (Bool) := ((c8).bind fun t1 => (if (!t1) = true then some false else k117 n0 r0_0 r0_1 r0_2 r0_3 r0_4 r0_5 0))
noncomputable def b117 (c8 : T22) (c9 : T14) (c10 : T0) (c11 : T24) (c12 : T14) (k117 : T55) (x0 : Int) (x1 : Λ) (x2 : List (Λ)) (x3 : List (Λ)) (x4 x5 x6 : Λ) (x7 : Int) : Ω (Bool) := (if x7 < x0 then (if 0 ≤ x7 then (if x7 < x0 then ((c9 (rd x1 x7) (rdr x2 x7) (rdr x3 x7) (rd x4 x7) (rd x5 x7) (rd x6 x7)).bind fun t1 => ((c10 (rdr x2 x7)).bind fun t2 => ((c10 (rdr x3 x7)).bind fun t3 => ((c12 (rd x1 x7) t2 t3 (rd x4 x7) (rd x5 x7) (rd x6 x7)).bind fun t4 => ((c11 t4.1 t4.2.1 t4.2.2.1 t4.2.2.2.1 t4.2.2.2.2 t1.1 t1.2.1 t1.2.2.1 t1.2.2.2.1 t1.2.2.2.2).bind fun t5 => (if (!t5) = true then some false else k117 x0 x1 x2 x3 x4 x5 x6 (wrap64 (x7 + 1)))))))) else none) else none) else some true)
noncomputable def l117 (n : Nat) : Nat→Int→Λ→List (Λ)→List (Λ)→Λ→Λ→Λ→Int→Ω (Bool)
  | 0, _, _, _, _, _, _, _, _ => none
  | m + 1, x0, x1, x2, x3, x4, x5, x6, x7 => b117 (abacuslaw01_awake.f n) (abacuslaw01_wanted.f n) abacuslaw01_copied.f (abacuslaw01_alike.f n) (abacuslaw01_asked.f n) (l117 n m) x0 x1 x2 x3 x4 x5 x6 x7
noncomputable def f (n : Nat) (n0 : Int) (r0_0 : Λ) (r0_1 : List (Λ)) (r0_2 : List (Λ)) (r0_3 r0_4 r0_5 : Λ) : Ω (Bool) := b0 (abacuslaw01_awake.f n) (abacuslaw01_wanted.f n) abacuslaw01_copied.f (abacuslaw01_alike.f n) (abacuslaw01_asked.f n) (l117 n n) n0 r0_0 r0_1 r0_2 r0_3 r0_4 r0_5
noncomputable def sg : Sig (Bool) := s1 (sBool)
noncomputable def code : Code := (Tryd.f3.body).getD .skip
noncomputable def cfg (c8 : T22) (c9 : T14) (c10 : T0) (c11 : T24) (c12 : T14) : Cfg (Bool) := { T := tys, call := orCall 8 (abacuslaw01_awake.call c8) (orCall 9 (abacuslaw01_wanted.call c9) (orCall 10 (abacuslaw01_copied.call c10) (orCall 11 (abacuslaw01_alike.call c11) (orCall 12 (abacuslaw01_asked.call c12) (noCall))))) }
noncomputable def cuts : List (Nat × List (Nat × Want)) := [(117, [(0, .keep), (3, .keep)])]
noncomputable def s117 (x0 : Int) (x1 : Λ) (x2 : List (Λ)) (x3 : List (Λ)) (x4 x5 x6 : Λ) (x7 : Int) : ASt := ⟨[(0, .recs x0 [.int .i64 x1, .row .u64 x2, .row .u64 x3, .int .u64 x4, .int .u64 x5, .int .i64 x6]), (3, .int .i64 x7)], []⟩
noncomputable def A (c8 : T22) (c9 : T14) (c10 : T0) (c11 : T24) (c12 : T14) (n : Nat) (J : Jt (Bool)) (q : Nat) (ms : List Nat) : ASt→Ω (Bool) := acont (cfg c8 c9 c10 c11 c12) J cuts n q code 1 ms (aend (cfg c8 c9 c10 c11 c12) Tryd.f3.results.toList [false] sg.out)
theorem e0 {c8 c9 c10 c11 c12 n J n0 r0_0 r0_1 r0_2 r0_3 r0_4 r0_5} : afun (cfg c8 c9 c10 c11 c12) J cuts n code Tryd.f3.results.toList [false] [.recs n0 [.int .i64 r0_0, .row .u64 r0_1, .row .u64 r0_2, .int .u64 r0_3, .int .u64 r0_4, .int .i64 r0_5]] sg.out = b0 c8 c9 c10 c11 c12 (fun y0 y1 y2 y3 y4 y5 y6 y7 => J 117 (A c8 c9 c10 c11 c12 n J 117 [n]) (s117 y0 y1 y2 y3 y4 y5 y6 y7)) n0 r0_0 r0_1 r0_2 r0_3 r0_4 r0_5 := by kernel_rfl
theorem e117 {c8 c9 c10 c11 c12 n J m x0 x1 x2 x3 x4 x5 x6 x7} : A c8 c9 c10 c11 c12 n J 117 [m + 1] (s117 x0 x1 x2 x3 x4 x5 x6 x7) = b117 c8 c9 c10 c11 c12 (fun y0 y1 y2 y3 y4 y5 y6 y7 => J 117 (A c8 c9 c10 c11 c12 n J 117 [m]) (s117 y0 y1 y2 y3 y4 y5 y6 y7)) x0 x1 x2 x3 x4 x5 x6 x7 := by kernel_rfl
noncomputable abbrev I (n : Nat) := A (abacuslaw01_awake.f n) (abacuslaw01_wanted.f n) abacuslaw01_copied.f (abacuslaw01_alike.f n) (abacuslaw01_asked.f n) n idJ
theorem q117 (n m) : ∀ x0 x1 x2 x3 x4 x5 x6 x7, I n 117 [m] (s117 x0 x1 x2 x3 x4 x5 x6 x7) = l117 n m x0 x1 x2 x3 x4 x5 x6 x7 := by
  induction m with
  | zero => intros; rfl
  | succ m ih =>
    intros
    exact e117.trans (Eq.trans (cf8 (congrArg (b117 _ _ _ _ _) (fu8 (ih))) _ _ _ _ _ _ _ _) rfl)
theorem ok {n  n0 r0_0 r0_1 r0_2 r0_3 r0_4 r0_5 r} (h : f n n0 r0_0 r0_1 r0_2 r0_3 r0_4 r0_5 = some r) : CallD Tryd.prog HW 3 [.recs n0 [.int .i64 r0_0, .row .u64 r0_1, .row .u64 r0_2, .int .u64 r0_3, .int .u64 r0_4, .int .i64 r0_5]] (sg.enc r) :=
  fun_some hwS Tryd.func3 (by kernel_rfl) (body := code) (by kernel_rfl) tys_ok (c := cfg (abacuslaw01_awake.f n) (abacuslaw01_wanted.f n) abacuslaw01_copied.f (abacuslaw01_alike.f n) (abacuslaw01_asked.f n)) (orCall_ok (abacuslaw01_awake.call_ok (n := n)) (orCall_ok (abacuslaw01_wanted.call_ok (n := n)) (orCall_ok abacuslaw01_copied.call_ok (orCall_ok (abacuslaw01_alike.call_ok (n := n)) (orCall_ok (abacuslaw01_asked.call_ok (n := n)) noCall_ok))))) noW_ok (by kernel_rfl) (by kernel_rfl) (Nat.le_of_ble_eq_true (by kernel_rfl)) (Eq.trans ((e0 (n := n)).trans (Eq.trans (cf7 (congrArg (b0 _ _ _ _ _) (fu8 (q117 n n))) _ _ _ _ _ _ _) rfl)) h)
theorem walk {n : Nat} {n0 : Int} {r0_0 : Λ} {r0_1 : List (Λ)} {r0_2 : List (Λ)} {r0_3 : Λ} {r0_4 : Λ} {r0_5 : Λ} {r : Bool} (h : f n n0 r0_0 r0_1 r0_2 r0_3 r0_4 r0_5 = some r) {w : World} (hw : HW w) {vals : List Value} (hv : VRs (fun _ => none) (fun g => g < w.heap.size) w (ofDs ([.recs n0 [.int .i64 r0_0, .row .u64 r0_1, .row .u64 r0_2, .int .u64 r0_3, .int .u64 r0_4, .int .i64 r0_5]] : List D) 0) vals) : Calls Tryd.prog 3 vals.toArray w fun e w' => e = .returned (packV (sg.enc r)) ∧ Below w.heap.size w w' :=
  walk_any (H := HW) rfl (fun_calls hwS Tryd.func3 (by kernel_rfl) (body := code) (by kernel_rfl) tys_ok (c := cfg (abacuslaw01_awake.f n) (abacuslaw01_wanted.f n) abacuslaw01_copied.f (abacuslaw01_alike.f n) (abacuslaw01_asked.f n)) (orCall_ok (abacuslaw01_awake.call_ok (n := n)) (orCall_ok (abacuslaw01_wanted.call_ok (n := n)) (orCall_ok abacuslaw01_copied.call_ok (orCall_ok (abacuslaw01_alike.call_ok (n := n)) (orCall_ok (abacuslaw01_asked.call_ok (n := n)) noCall_ok))))) noW_ok (by kernel_rfl) (by kernel_rfl) (Nat.le_of_ble_eq_true (by kernel_rfl)) (Eq.trans ((e0 (n := n)).trans (Eq.trans (cf7 (congrArg (b0 _ _ _ _ _) (fu8 (q117 n n))) _ _ _ _ _ _ _) rfl)) h)) hw hv
noncomputable def call {α : Type} (g : Int→Λ→List (Λ)→List (Λ)→Λ→Λ→Λ→Ω (Bool)) (ds : List D) (K : List D→Ω α) : Ω α := match ds with
  | [.recs n0 [.int .i64 r0_0, .row .u64 r0_1, .row .u64 r0_2, .int .u64 r0_3, .int .u64 r0_4, .int .i64 r0_5]] => (g n0 r0_0 r0_1 r0_2 r0_3 r0_4 r0_5).bind fun r => K (sg.enc r)
  | _ => none
theorem call_ok {α : Type} {n : Nat} : COK Tryd.prog HW 3 (call (α := α) (f n)) := fun _ _ _ h => by
  unfold call at h; split at h
  · exact cok h fun _ => ok
  · cases h
end abacuslaw01_NatExact
end Go.Proofs.YtlnfgcnagfdliaaDoor.F
