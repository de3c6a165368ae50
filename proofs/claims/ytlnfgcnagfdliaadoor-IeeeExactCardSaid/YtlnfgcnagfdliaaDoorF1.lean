/- What the functions compute, and that calls of them answer so (printed by gen.py). Conditions: HW, a table as it was laid. -/
import Derived.Test.YtlnfgcnagfdliaaDoorF0
namespace Go.Proofs.YtlnfgcnagfdliaaDoor.F
open Go.RowKit Go.Proofs.YtlnfgcnagfdliaaDoorA
set_option linter.unusedVariables false
set_option maxRecDepth 100000
/-! ### abacusref01_halves: function 153 -/
namespace abacusref01_halves
noncomputable def b0 (k117 : T63) (l0 : Λ) : Ω (Λ) := (if 0 ≤ (wrap64 (2 * (ln l0))) then (if (wrap64 (2 * (ln l0))).toNat ≤ 35184372088832 then k117 l0 0 (List.replicate 0 (0 : Int)) (wrap64 (2 * (ln l0))) else none) else none)
noncomputable def b15 (k249 : Int→Λ→Int→Ω (Λ)) (x0 : Λ) (x1 : Int) : Ω (Λ) := k249 (ln x0) x0 x1
noncomputable def b117 (k15 : T17) (k117 : T63) (x0 : Λ) (x1 : Int) (x2 : Λ) (x3 : Int) : Ω (Λ) := (if x1 < (ln x0) then (if 0 ≤ x1 then (if x1 < (ln x0) then (if ln x2 + ln [Go.bits .and .u64 (rd x0 x1) 4294967295] ≤ x3 then (if 0 ≤ x1 then (if x1 < (ln x0) then (if ln (x2 ++ [Go.bits .and .u64 (rd x0 x1) 4294967295]) + ln [(rd x0 x1) / 4294967296] ≤ x3 then k117 x0 (wrap64 (x1 + 1)) ((x2 ++ [Go.bits .and .u64 (rd x0 x1) 4294967295]) ++ [(rd x0 x1) / 4294967296]) x3 else none) else none) else none) else none) else none) else none) else k15 x2 x3)
noncomputable def b249 (k249 : Int→Λ→Int→Ω (Λ)) (x0 : Int) (x1 : Λ) (x2 : Int) : Ω (Λ) := (if x0 > 0 then (if 0 ≤ (wrap64 (x0 - 1)) then (if (wrap64 (x0 - 1)) < (ln x1) then (if (rd x1 (wrap64 (x0 - 1))) = 0 then k249 (wrap64 (x0 - 1)) x1 x2 else (if 0 ≤ x0 then (if x0 ≤ (ln x1) then ((some (x1.take x0.toNat) : Ω (Λ)).bind fun y1 => some y1) else none) else none)) else none) else none) else (if 0 ≤ x0 then (if x0 ≤ (ln x1) then ((some (x1.take x0.toNat) : Ω (Λ)).bind fun y2 => some y2) else none) else none))
noncomputable def l249 (n : Nat) : Nat→Int→Λ→Int→Ω (Λ)
  | 0, _, _, _ => none
  | m + 1, x0, x1, x2 => b249 (l249 n m) x0 x1 x2
noncomputable def l15 (n : Nat) (x0 : Λ) (x1 : Int) : Ω (Λ) := b15 (l249 n n) x0 x1
noncomputable def l117 (n : Nat) : Nat→Λ→Int→Λ→Int→Ω (Λ)
  | 0, _, _, _, _ => none
  | m + 1, x0, x1, x2, x3 => b117 (l15 n) (l117 n m) x0 x1 x2 x3
noncomputable def f (n : Nat) (l0 : Λ) : Ω (Λ) := b0 (l117 n n) l0
noncomputable def sg : Sig (Λ) := s1 (sRow .u64)
noncomputable def code : Code := (Tryd.f153.body).getD .skip
noncomputable def cfg : Cfg (Λ) := { T := tys, call := noCall, room := true }
noncomputable def cuts : List (Nat × List (Nat × Want)) := [(15, [(3, .keep)]), (117, [(0, .keep), (3, .keep), (4, .keep)]), (249, [(3, .keep), (5, .keep)])]
noncomputable def s15 (x0 : Λ) (x1 : Int) : ASt := ⟨[(3, .own 0)], [.room 25 .u64 x0 x1]⟩
noncomputable def s117 (x0 : Λ) (x1 : Int) (x2 : Λ) (x3 : Int) : ASt := ⟨[(0, .ro .u64 x0), (3, .own 0), (4, .int .i64 x1)], [.room 25 .u64 x2 x3]⟩
noncomputable def s249 (x0 : Int) (x1 : Λ) (x2 : Int) : ASt := ⟨[(3, .own 0), (5, .int .i64 x0)], [.room 25 .u64 x1 x2]⟩
noncomputable def A (n : Nat) (J : Jt (Λ)) (q : Nat) (ms : List Nat) : ASt→Ω (Λ) := acont cfg J cuts n q code 1 ms (aend cfg Tryd.f153.results.toList [false] sg.out)
theorem e0 {n J l0} : afun cfg J cuts n code Tryd.f153.results.toList [false] [.ro .u64 l0] sg.out = b0 (fun y0 y1 y2 y3 => J 117 (A n J 117 [n]) (s117 y0 y1 y2 y3)) l0 := by kernel_rfl
theorem e15 {n J x0 x1} : A n J 15 [] (s15 x0 x1) = b15 (fun y0 y1 y2 => J 249 (A n J 249 [n]) (s249 y0 y1 y2)) x0 x1 := by kernel_rfl
theorem e117 {n J m x0 x1 x2 x3} : A n J 117 [m + 1] (s117 x0 x1 x2 x3) = b117 (fun y0 y1 => J 15 (A n J 15 []) (s15 y0 y1)) (fun y0 y1 y2 y3 => J 117 (A n J 117 [m]) (s117 y0 y1 y2 y3)) x0 x1 x2 x3 := by kernel_rfl
theorem e249 {n J m x0 x1 x2} : A n J 249 [m + 1] (s249 x0 x1 x2) = b249 (fun y0 y1 y2 => J 249 (A n J 249 [m]) (s249 y0 y1 y2)) x0 x1 x2 := by kernel_rfl
noncomputable abbrev I (n : Nat) := A n idJ
theorem q249 (n m) : ∀ x0 x1 x2, I n 249 [m] (s249 x0 x1 x2) = l249 n m x0 x1 x2 := by
  induction m with
  | zero => intros; rfl
  | succ m ih =>
    intros
    exact e249.trans (Eq.trans (cf3 (congrArg b249 (fu3 (ih))) _ _ _) rfl)
theorem q15 (n x0 x1) : I n 15 [] (s15 x0 x1) = l15 n x0 x1 := e15.trans (Eq.trans (cf2 (congrArg b15 (fu3 (q249 n n))) _ _) rfl)
theorem q117 (n m) : ∀ x0 x1 x2 x3, I n 117 [m] (s117 x0 x1 x2 x3) = l117 n m x0 x1 x2 x3 := by
  induction m with
  | zero => intros; rfl
  | succ m ih =>
    intros
    exact e117.trans (Eq.trans (cf4 (congr (congrArg b117 (fu2 (q15 n))) (fu4 (ih))) _ _ _ _) rfl)
theorem ok {n  l0 r} (h : f n l0 = some r) : CallD Tryd.prog HW 153 [.ro .u64 l0] (sg.enc r) :=
  fun_some hwS Tryd.func153 (by kernel_rfl) (body := code) (by kernel_rfl) tys_ok (c := cfg) noCall_ok noW_ok (by kernel_rfl) (by kernel_rfl) (Nat.le_of_ble_eq_true (by kernel_rfl)) (Eq.trans ((e0 (n := n)).trans (Eq.trans (cf1 (congrArg b0 (fu4 (q117 n n))) _) rfl)) h)
noncomputable def call {α : Type} (g : T2) (ds : List D) (K : List D→Ω α) : Ω α := match ds with
  | [.ro .u64 l0] => (g l0).bind fun r => K (sg.enc r)
  | _ => none
theorem call_ok {α : Type} {n : Nat} : COK Tryd.prog HW 153 (call (α := α) (f n)) := fun _ _ _ h => by
  unfold call at h; split at h
  · exact cok h fun _ => ok
  · cases h
end abacusref01_halves
/-! ### abacusref01_Trim: function 34 -/
namespace abacusref01_Trim
noncomputable def b0 (k57 : T17) (l0 : Λ) : Ω (Λ) := k57 l0 (ln l0)
noncomputable def b15 (k501 : T64) (x0 : Λ) (x1 : Int) : Ω (Λ) := (if 0 ≤ x1 then (if x1.toNat ≤ 35184372088832 then k501 x0 x1 0 (List.replicate 0 (0 : Int)) else none) else none)
noncomputable def b57 (k15 k57 : T17) (x0 : Λ) (x1 : Int) : Ω (Λ) := (if x1 > 0 then (if 0 ≤ (wrap64 (x1 - 1)) then (if (wrap64 (x1 - 1)) < (ln x0) then (if (rd x0 (wrap64 (x1 - 1))) = 0 then k57 x0 (wrap64 (x1 - 1)) else k15 x0 x1) else none) else none) else k15 x0 x1)
noncomputable def b501 (k501 : T64) (x0 : Λ) (x1 x2 : Int) (x3 : Λ) : Ω (Λ) := (if x2 < x1 then (if 0 ≤ x2 then (if x2 < (ln x0) then (if x3.length + 1 ≤ 17592186044416 then k501 x0 x1 (wrap64 (x2 + 1)) (x3 ++ [rd x0 x2]) else none) else none) else none) else some x3)
noncomputable def l501 (n : Nat) : Nat→Λ→Int→Int→Λ→Ω (Λ)
  | 0, _, _, _, _ => none
  | m + 1, x0, x1, x2, x3 => b501 (l501 n m) x0 x1 x2 x3
noncomputable def l15 (n : Nat) (x0 : Λ) (x1 : Int) : Ω (Λ) := b15 (l501 n n) x0 x1
noncomputable def l57 (n : Nat) : Nat→Λ→Int→Ω (Λ)
  | 0, _, _ => none
  | m + 1, x0, x1 => b57 (l15 n) (l57 n m) x0 x1
noncomputable def f (n : Nat) (l0 : Λ) : Ω (Λ) := b0 (l57 n n) l0
noncomputable def sg : Sig (Λ) := s1 (sOwn 25 .u64)
noncomputable def code : Code := (Tryd.f34.body).getD .skip
noncomputable def cfg : Cfg (Λ) := { T := tys, call := noCall }
noncomputable def cuts : List (Nat × List (Nat × Want)) := [(15, [(0, .keep), (3, .keep)]), (57, [(0, .keep), (3, .keep)]), (501, [(0, .keep), (3, .keep), (4, .keep), (5, .keep)])]
noncomputable def s15 (x0 : Λ) (x1 : Int) : ASt := ⟨[(0, .ro .u64 x0), (3, .int .i64 x1)], []⟩
noncomputable def s57 (x0 : Λ) (x1 : Int) : ASt := ⟨[(0, .ro .u64 x0), (3, .int .i64 x1)], []⟩
noncomputable def s501 (x0 : Λ) (x1 x2 : Int) (x3 : Λ) : ASt := ⟨[(0, .ro .u64 x0), (3, .int .i64 x1), (4, .own 0), (5, .int .i64 x2)], [.ints 25 .u64 x3]⟩
noncomputable def A (n : Nat) (J : Jt (Λ)) (q : Nat) (ms : List Nat) : ASt→Ω (Λ) := acont cfg J cuts n q code 1 ms (aend cfg Tryd.f34.results.toList [true] sg.out)
theorem e0 {n J l0} : afun cfg J cuts n code Tryd.f34.results.toList [true] [.ro .u64 l0] sg.out = b0 (fun y0 y1 => J 57 (A n J 57 [n]) (s57 y0 y1)) l0 := by kernel_rfl
theorem e15 {n J x0 x1} : A n J 15 [] (s15 x0 x1) = b15 (fun y0 y1 y2 y3 => J 501 (A n J 501 [n]) (s501 y0 y1 y2 y3)) x0 x1 := by kernel_rfl
theorem e57 {n J m x0 x1} : A n J 57 [m + 1] (s57 x0 x1) = b57 (fun y0 y1 => J 15 (A n J 15 []) (s15 y0 y1)) (fun y0 y1 => J 57 (A n J 57 [m]) (s57 y0 y1)) x0 x1 := by kernel_rfl
theorem e501 {n J m x0 x1 x2 x3} : A n J 501 [m + 1] (s501 x0 x1 x2 x3) = b501 (fun y0 y1 y2 y3 => J 501 (A n J 501 [m]) (s501 y0 y1 y2 y3)) x0 x1 x2 x3 := by kernel_rfl
noncomputable abbrev I (n : Nat) := A n idJ
theorem q501 (n m) : ∀ x0 x1 x2 x3, I n 501 [m] (s501 x0 x1 x2 x3) = l501 n m x0 x1 x2 x3 := by
  induction m with
  | zero => intros; rfl
  | succ m ih =>
    intros
    exact e501.trans (Eq.trans (cf4 (congrArg b501 (fu4 (ih))) _ _ _ _) rfl)
theorem q15 (n x0 x1) : I n 15 [] (s15 x0 x1) = l15 n x0 x1 := e15.trans (Eq.trans (cf2 (congrArg b15 (fu4 (q501 n n))) _ _) rfl)
theorem q57 (n m) : ∀ x0 x1, I n 57 [m] (s57 x0 x1) = l57 n m x0 x1 := by
  induction m with
  | zero => intros; rfl
  | succ m ih =>
    intros
    exact e57.trans (Eq.trans (cf2 (congr (congrArg b57 (fu2 (q15 n))) (fu2 (ih))) _ _) rfl)
theorem ok {n  l0 r} (h : f n l0 = some r) : CallD Tryd.prog HW 34 [.ro .u64 l0] (sg.enc r) :=
  fun_some hwS Tryd.func34 (by kernel_rfl) (body := code) (by kernel_rfl) tys_ok (c := cfg) noCall_ok noW_ok (by kernel_rfl) (by kernel_rfl) (Nat.le_of_ble_eq_true (by kernel_rfl)) (Eq.trans ((e0 (n := n)).trans (Eq.trans (cf1 (congrArg b0 (fu2 (q57 n n))) _) rfl)) h)
noncomputable def call {α : Type} (g : T2) (ds : List D) (K : List D→Ω α) : Ω α := match ds with
  | [.ro .u64 l0] => (g l0).bind fun r => K (sg.enc r)
  | _ => none
theorem call_ok {α : Type} {n : Nat} : COK Tryd.prog HW 34 (call (α := α) (f n)) := fun _ _ _ h => by
  unfold call at h; split at h
  · exact cok h fun _ => ok
  · cases h
end abacusref01_Trim
/-! ### abacusref01_limbs: function 154 -/
namespace abacusref01_limbs
noncomputable def b0 (c34 : T2) (k117 : T48) (l0 : Λ) : Ω (Λ) := (if 0 ≤ (wrap64 (Int.tdiv (wrap64 ((ln l0) + 1)) 2)) then (if (wrap64 (Int.tdiv (wrap64 ((ln l0) + 1)) 2)).toNat ≤ 35184372088832 then k117 l0 0 (List.replicate 0 (0 : Int)) else none) else none)
noncomputable def b15 (c34 : T2) (x0 : Λ) : Ω (Λ) := ((c34 x0).bind fun t1 => some t1)
noncomputable def b117 (c34 k15 : T2) (k117 : T48) (x0 : Λ) (x1 : Int) (x2 : Λ) : Ω (Λ) := (if x1 < (ln x0) then (if 0 ≤ x1 then (if x1 < (ln x0) then (if (wrap64 (x1 + 1)) < (ln x0) then (if 0 ≤ (wrap64 (x1 + 1)) then (if (wrap64 (x1 + 1)) < (ln x0) then (if x2.length + 1 ≤ 17592186044416 then k117 x0 (wrap64 (x1 + 2)) (x2 ++ [IntKind.u64.wrap ((rd x0 x1) + (IntKind.u64.wrap ((rd x0 (wrap64 (x1 + 1))) * 4294967296)))]) else none) else none) else none) else (if x2.length + 1 ≤ 17592186044416 then k117 x0 (wrap64 (x1 + 2)) (x2 ++ [rd x0 x1]) else none)) else none) else none) else k15 x2)
noncomputable def l15 (n : Nat) (x0 : Λ) : Ω (Λ) := b15 (abacusref01_Trim.f n) x0
noncomputable def l117 (n : Nat) : Nat→Λ→Int→Λ→Ω (Λ)
  | 0, _, _, _ => none
  | m + 1, x0, x1, x2 => b117 (abacusref01_Trim.f n) (l15 n) (l117 n m) x0 x1 x2
noncomputable def f (n : Nat) (l0 : Λ) : Ω (Λ) := b0 (abacusref01_Trim.f n) (l117 n n) l0
noncomputable def sg : Sig (Λ) := s1 (sOwn 25 .u64)
noncomputable def code : Code := (Tryd.f154.body).getD .skip
noncomputable def cfg (c34 : T2) : Cfg (Λ) := { T := tys, call := orCall 34 (abacusref01_Trim.call c34) (noCall) }
noncomputable def cuts : List (Nat × List (Nat × Want)) := [(15, [(3, .keep)]), (117, [(0, .keep), (3, .keep), (4, .keep)])]
noncomputable def s15 (x0 : Λ) : ASt := ⟨[(3, .own 0)], [.ints 25 .u64 x0]⟩
noncomputable def s117 (x0 : Λ) (x1 : Int) (x2 : Λ) : ASt := ⟨[(0, .ro .u64 x0), (3, .own 0), (4, .int .i64 x1)], [.ints 25 .u64 x2]⟩
noncomputable def A (c34 : T2) (n : Nat) (J : Jt (Λ)) (q : Nat) (ms : List Nat) : ASt→Ω (Λ) := acont (cfg c34) J cuts n q code 1 ms (aend (cfg c34) Tryd.f154.results.toList [true] sg.out)
theorem e0 {c34 n J l0} : afun (cfg c34) J cuts n code Tryd.f154.results.toList [true] [.ro .u64 l0] sg.out = b0 c34 (fun y0 y1 y2 => J 117 (A c34 n J 117 [n]) (s117 y0 y1 y2)) l0 := by kernel_rfl
theorem e15 {c34 n J x0} : A c34 n J 15 [] (s15 x0) = b15 c34 x0 := by kernel_rfl
theorem e117 {c34 n J m x0 x1 x2} : A c34 n J 117 [m + 1] (s117 x0 x1 x2) = b117 c34 (fun y0 => J 15 (A c34 n J 15 []) (s15 y0)) (fun y0 y1 y2 => J 117 (A c34 n J 117 [m]) (s117 y0 y1 y2)) x0 x1 x2 := by kernel_rfl
noncomputable abbrev I (n : Nat) := A (abacusref01_Trim.f n) n idJ
theorem q15 (n x0) : I n 15 [] (s15 x0) = l15 n x0 := e15
theorem q117 (n m) : ∀ x0 x1 x2, I n 117 [m] (s117 x0 x1 x2) = l117 n m x0 x1 x2 := by
  induction m with
  | zero => intros; rfl
  | succ m ih =>
    intros
    exact e117.trans (Eq.trans (cf3 (congr (congrArg (b117 _) (fu1 (q15 n))) (fu3 (ih))) _ _ _) rfl)
theorem ok {n  l0 r} (h : f n l0 = some r) : CallD Tryd.prog HW 154 [.ro .u64 l0] (sg.enc r) :=
  fun_some hwS Tryd.func154 (by kernel_rfl) (body := code) (by kernel_rfl) tys_ok (c := cfg (abacusref01_Trim.f n)) (orCall_ok (abacusref01_Trim.call_ok (n := n)) noCall_ok) noW_ok (by kernel_rfl) (by kernel_rfl) (Nat.le_of_ble_eq_true (by kernel_rfl)) (Eq.trans ((e0 (n := n)).trans (Eq.trans (cf1 (congrArg (b0 _) (fu3 (q117 n n))) _) rfl)) h)
noncomputable def call {α : Type} (g : T2) (ds : List D) (K : List D→Ω α) : Ω α := match ds with
  | [.ro .u64 l0] => (g l0).bind fun r => K (sg.enc r)
  | _ => none
theorem call_ok {α : Type} {n : Nat} : COK Tryd.prog HW 154 (call (α := α) (f n)) := fun _ _ _ h => by
  unfold call at h; split at h
  · exact cok h fun _ => ok
  · cases h
end abacusref01_limbs
/-! ### abacusref01_Lift: function 127 -/
namespace abacusref01_Lift
noncomputable def b0 (c153 c154 : T2) (k501 : T65) (l0 : Λ) (a1 : Int) : Ω (Λ) := ((c153 l0).bind fun t1 => (if (ln t1) = 0 then some ([] : Λ) else (if 0 ≤ (wrap64 ((wrap64 ((wrap64 (Int.tdiv a1 32)) + (ln t1))) + 1)) then (if (wrap64 ((wrap64 ((wrap64 (Int.tdiv a1 32)) + (ln t1))) + 1)).toNat ≤ 35184372088832 then k501 a1 t1 0 (List.replicate 0 (0 : Int)) else none) else none)))
noncomputable def b63 (c153 c154 : T2) (k2037 : T66) (x0 : Int) (x1 x2 : Λ) : Ω (Λ) := k2037 x0 x1 1 0 x2
noncomputable def b255 (c153 c154 : T2) (k8181 : T67) (x0 : Λ) (x1 : Int) (x2 : Λ) : Ω (Λ) := k8181 x0 x1 0 0 x2
noncomputable def b501 (c153 c154 : T2) (k63 : Int→Λ→Λ→Ω (Λ)) (k501 : T65) (x0 : Int) (x1 : Λ) (x2 : Int) (x3 : Λ) : Ω (Λ) := (if x2 < (wrap64 (Int.tdiv x0 32)) then (if x3.length + 1 ≤ 17592186044416 then k501 x0 x1 (wrap64 (x2 + 1)) (x3 ++ [0]) else none) else k63 x0 x1 x3)
noncomputable def b1023 (c153 c154 : T2) (x0 : Int) (x1 : Λ) : Ω (Λ) := (if x1.length + 1 ≤ 17592186044416 then ((c154 (x1 ++ [x0])).bind fun t1 => some t1) else none)
noncomputable def b2037 (c153 c154 : T2) (k255 : T48) (k2037 : T66) (x0 : Int) (x1 : Λ) (x2 x3 : Int) (x4 : Λ) : Ω (Λ) := (if x3 < (Int.tmod x0 32) then k2037 x0 x1 (IntKind.u64.wrap (x2 * 2)) (wrap64 (x3 + 1)) x4 else k255 x1 x2 x4)
noncomputable def b8181 (c153 c154 : T2) (k1023 : Int→Λ→Ω (Λ)) (k8181 : T67) (x0 : Λ) (x1 x2 x3 : Int) (x4 : Λ) : Ω (Λ) := (if x3 < (ln x0) then (if 0 ≤ x3 then (if x3 < (ln x0) then (if x4.length + 1 ≤ 17592186044416 then k8181 x0 x1 ((IntKind.u64.wrap ((IntKind.u64.wrap ((rd x0 x3) * x1)) + x2)) / 4294967296) (wrap64 (x3 + 1)) (x4 ++ [Go.bits .and .u64 (IntKind.u64.wrap ((IntKind.u64.wrap ((rd x0 x3) * x1)) + x2)) 4294967295]) else none) else none) else none) else k1023 x2 x4)
noncomputable def l1023 (n : Nat) (x0 : Int) (x1 : Λ) : Ω (Λ) := b1023 (abacusref01_halves.f n) (abacusref01_limbs.f n) x0 x1
noncomputable def l8181 (n : Nat) : Nat→Λ→Int→Int→Int→Λ→Ω (Λ)
  | 0, _, _, _, _, _ => none
  | m + 1, x0, x1, x2, x3, x4 => b8181 (abacusref01_halves.f n) (abacusref01_limbs.f n) (l1023 n) (l8181 n m) x0 x1 x2 x3 x4
noncomputable def l255 (n : Nat) (x0 : Λ) (x1 : Int) (x2 : Λ) : Ω (Λ) := b255 (abacusref01_halves.f n) (abacusref01_limbs.f n) (l8181 n n) x0 x1 x2
noncomputable def l2037 (n : Nat) : Nat→Int→Λ→Int→Int→Λ→Ω (Λ)
  | 0, _, _, _, _, _ => none
  | m + 1, x0, x1, x2, x3, x4 => b2037 (abacusref01_halves.f n) (abacusref01_limbs.f n) (l255 n) (l2037 n m) x0 x1 x2 x3 x4
noncomputable def l63 (n : Nat) (x0 : Int) (x1 x2 : Λ) : Ω (Λ) := b63 (abacusref01_halves.f n) (abacusref01_limbs.f n) (l2037 n n) x0 x1 x2
noncomputable def l501 (n : Nat) : Nat→Int→Λ→Int→Λ→Ω (Λ)
  | 0, _, _, _, _ => none
  | m + 1, x0, x1, x2, x3 => b501 (abacusref01_halves.f n) (abacusref01_limbs.f n) (l63 n) (l501 n m) x0 x1 x2 x3
noncomputable def f (n : Nat) (l0 : Λ) (a1 : Int) : Ω (Λ) := b0 (abacusref01_halves.f n) (abacusref01_limbs.f n) (l501 n n) l0 a1
noncomputable def sg : Sig (Λ) := s1 (sOwn 25 .u64)
noncomputable def code : Code := (Tryd.f127.body).getD .skip
noncomputable def cfg (c153 c154 : T2) : Cfg (Λ) := { T := tys, call := orCall 153 (abacusref01_halves.call c153) (orCall 154 (abacusref01_limbs.call c154) (noCall)) }
noncomputable def cuts : List (Nat × List (Nat × Want)) := [(63, [(1, .keep), (5, .keep), (6, .keep)]), (255, [(5, .keep), (6, .keep), (8, .keep)]), (501, [(1, .keep), (5, .keep), (6, .keep), (7, .keep)]), (1023, [(6, .keep), (10, .keep)]), (2037, [(1, .keep), (5, .keep), (6, .keep), (8, .keep), (9, .keep)]), (8181, [(5, .keep), (6, .keep), (8, .keep), (10, .keep), (11, .keep)])]
noncomputable def s63 (x0 : Int) (x1 x2 : Λ) : ASt := ⟨[(1, .int .i64 x0), (5, .ro .u64 x1), (6, .own 0)], [.ints 25 .u64 x2]⟩
noncomputable def s255 (x0 : Λ) (x1 : Int) (x2 : Λ) : ASt := ⟨[(5, .ro .u64 x0), (6, .own 0), (8, .int .u64 x1)], [.ints 25 .u64 x2]⟩
noncomputable def s501 (x0 : Int) (x1 : Λ) (x2 : Int) (x3 : Λ) : ASt := ⟨[(1, .int .i64 x0), (5, .ro .u64 x1), (6, .own 0), (7, .int .i64 x2)], [.ints 25 .u64 x3]⟩
noncomputable def s1023 (x0 : Int) (x1 : Λ) : ASt := ⟨[(6, .own 0), (10, .int .u64 x0)], [.ints 25 .u64 x1]⟩
noncomputable def s2037 (x0 : Int) (x1 : Λ) (x2 x3 : Int) (x4 : Λ) : ASt := ⟨[(1, .int .i64 x0), (5, .ro .u64 x1), (6, .own 0), (8, .int .u64 x2), (9, .int .i64 x3)], [.ints 25 .u64 x4]⟩
noncomputable def s8181 (x0 : Λ) (x1 x2 x3 : Int) (x4 : Λ) : ASt := ⟨[(5, .ro .u64 x0), (6, .own 0), (8, .int .u64 x1), (10, .int .u64 x2), (11, .int .i64 x3)], [.ints 25 .u64 x4]⟩
noncomputable def A (c153 c154 : T2) (n : Nat) (J : Jt (Λ)) (q : Nat) (ms : List Nat) : ASt→Ω (Λ) := acont (cfg c153 c154) J cuts n q code 1 ms (aend (cfg c153 c154) Tryd.f127.results.toList [true] sg.out)
theorem e0 {c153 c154 n J l0 a1} : afun (cfg c153 c154) J cuts n code Tryd.f127.results.toList [true] [.ro .u64 l0, .int .i64 a1] sg.out = b0 c153 c154 (fun y0 y1 y2 y3 => J 501 (A c153 c154 n J 501 [n]) (s501 y0 y1 y2 y3)) l0 a1 := by kernel_rfl
theorem e63 {c153 c154 n J x0 x1 x2} : A c153 c154 n J 63 [] (s63 x0 x1 x2) = b63 c153 c154 (fun y0 y1 y2 y3 y4 => J 2037 (A c153 c154 n J 2037 [n]) (s2037 y0 y1 y2 y3 y4)) x0 x1 x2 := by kernel_rfl
theorem e255 {c153 c154 n J x0 x1 x2} : A c153 c154 n J 255 [] (s255 x0 x1 x2) = b255 c153 c154 (fun y0 y1 y2 y3 y4 => J 8181 (A c153 c154 n J 8181 [n]) (s8181 y0 y1 y2 y3 y4)) x0 x1 x2 := by kernel_rfl
theorem e501 {c153 c154 n J m x0 x1 x2 x3} : A c153 c154 n J 501 [m + 1] (s501 x0 x1 x2 x3) = b501 c153 c154 (fun y0 y1 y2 => J 63 (A c153 c154 n J 63 []) (s63 y0 y1 y2)) (fun y0 y1 y2 y3 => J 501 (A c153 c154 n J 501 [m]) (s501 y0 y1 y2 y3)) x0 x1 x2 x3 := by kernel_rfl
theorem e1023 {c153 c154 n J x0 x1} : A c153 c154 n J 1023 [] (s1023 x0 x1) = b1023 c153 c154 x0 x1 := by kernel_rfl
theorem e2037 {c153 c154 n J m x0 x1 x2 x3 x4} : A c153 c154 n J 2037 [m + 1] (s2037 x0 x1 x2 x3 x4) = b2037 c153 c154 (fun y0 y1 y2 => J 255 (A c153 c154 n J 255 []) (s255 y0 y1 y2)) (fun y0 y1 y2 y3 y4 => J 2037 (A c153 c154 n J 2037 [m]) (s2037 y0 y1 y2 y3 y4)) x0 x1 x2 x3 x4 := by kernel_rfl
theorem e8181 {c153 c154 n J m x0 x1 x2 x3 x4} : A c153 c154 n J 8181 [m + 1] (s8181 x0 x1 x2 x3 x4) = b8181 c153 c154 (fun y0 y1 => J 1023 (A c153 c154 n J 1023 []) (s1023 y0 y1)) (fun y0 y1 y2 y3 y4 => J 8181 (A c153 c154 n J 8181 [m]) (s8181 y0 y1 y2 y3 y4)) x0 x1 x2 x3 x4 := by kernel_rfl
noncomputable abbrev I (n : Nat) := A (abacusref01_halves.f n) (abacusref01_limbs.f n) n idJ
theorem q1023 (n x0 x1) : I n 1023 [] (s1023 x0 x1) = l1023 n x0 x1 := e1023
theorem q8181 (n m) : ∀ x0 x1 x2 x3 x4, I n 8181 [m] (s8181 x0 x1 x2 x3 x4) = l8181 n m x0 x1 x2 x3 x4 := by
  induction m with
  | zero => intros; rfl
  | succ m ih =>
    intros
    exact e8181.trans (Eq.trans (cf5 (congr (congrArg (b8181 _ _) (fu2 (q1023 n))) (fu5 (ih))) _ _ _ _ _) rfl)
theorem q255 (n x0 x1 x2) : I n 255 [] (s255 x0 x1 x2) = l255 n x0 x1 x2 := e255.trans (Eq.trans (cf3 (congrArg (b255 _ _) (fu5 (q8181 n n))) _ _ _) rfl)
theorem q2037 (n m) : ∀ x0 x1 x2 x3 x4, I n 2037 [m] (s2037 x0 x1 x2 x3 x4) = l2037 n m x0 x1 x2 x3 x4 := by
  induction m with
  | zero => intros; rfl
  | succ m ih =>
    intros
    exact e2037.trans (Eq.trans (cf5 (congr (congrArg (b2037 _ _) (fu3 (q255 n))) (fu5 (ih))) _ _ _ _ _) rfl)
theorem q63 (n x0 x1 x2) : I n 63 [] (s63 x0 x1 x2) = l63 n x0 x1 x2 := e63.trans (Eq.trans (cf3 (congrArg (b63 _ _) (fu5 (q2037 n n))) _ _ _) rfl)
theorem q501 (n m) : ∀ x0 x1 x2 x3, I n 501 [m] (s501 x0 x1 x2 x3) = l501 n m x0 x1 x2 x3 := by
  induction m with
  | zero => intros; rfl
  | succ m ih =>
    intros
    exact e501.trans (Eq.trans (cf4 (congr (congrArg (b501 _ _) (fu3 (q63 n))) (fu4 (ih))) _ _ _ _) rfl)
theorem ok {n  l0 a1 r} (h : f n l0 a1 = some r) : CallD Tryd.prog HW 127 [.ro .u64 l0, .int .i64 a1] (sg.enc r) :=
  fun_some hwS Tryd.func127 (by kernel_rfl) (body := code) (by kernel_rfl) tys_ok (c := cfg (abacusref01_halves.f n) (abacusref01_limbs.f n)) (orCall_ok (abacusref01_halves.call_ok (n := n)) (orCall_ok (abacusref01_limbs.call_ok (n := n)) noCall_ok)) noW_ok (by kernel_rfl) (by kernel_rfl) (Nat.le_of_ble_eq_true (by kernel_rfl)) (Eq.trans ((e0 (n := n)).trans (Eq.trans (cf2 (congrArg (b0 _ _) (fu4 (q501 n n))) _ _) rfl)) h)
noncomputable def call {α : Type} (g : T17) (ds : List D) (K : List D→Ω α) : Ω α := match ds with
  | [.ro .u64 l0, .int .i64 a1] => (g l0 a1).bind fun r => K (sg.enc r)
  | _ => none
theorem call_ok {α : Type} {n : Nat} : COK Tryd.prog HW 127 (call (α := α) (f n)) := fun _ _ _ h => by
  unfold call at h; split at h
  · exact cok h fun _ => ok
  · cases h
end abacusref01_Lift
/-! ### abacusref01_Drop: function 128 -/
namespace abacusref01_Drop
noncomputable def b0 (c153 c154 : T2) (k1013 : T68) (l0 : Λ) (a1 : Int) : Ω (Λ) := ((c153 l0).bind fun t1 => (if (wrap64 (Int.tdiv a1 32)) ≥ (ln t1) then some ([] : Λ) else k1013 a1 t1 (wrap64 (Int.tdiv a1 32)) 1 0))
noncomputable def b127 (c153 c154 : T2) (k8181 : T69) (x0 : Λ) (x1 x2 : Int) : Ω (Λ) := (if 0 ≤ (wrap64 ((ln x0) - x1)) then (if (wrap64 ((ln x0) - x1)).toNat ≤ 35184372088832 then k8181 x0 x1 x2 0 (wrap64 ((ln x0) - 1)) (List.replicate (wrap64 ((ln x0) - x1)).toNat (0 : Int)) else none) else none)
noncomputable def b1013 (c153 c154 : T2) (k127 : T25) (k1013 : T68) (x0 : Int) (x1 : Λ) (x2 x3 x4 : Int) : Ω (Λ) := (if x4 < (Int.tmod x0 32) then k1013 x0 x1 x2 (IntKind.u64.wrap (x3 * 2)) (wrap64 (x4 + 1)) else k127 x1 x2 x3)
noncomputable def b1023 (c153 c154 : T2) (x0 : Λ) : Ω (Λ) := ((c154 x0).bind fun t1 => some t1)
noncomputable def b8181 (c153 c154 k1023 : T2) (k8181 : T69) (x0 : Λ) (x1 x2 x3 x4 : Int) (x5 : Λ) : Ω (Λ) := (if x4 ≥ x1 then (if 0 ≤ x4 then (if x4 < (ln x0) then (if x2 = 0 then none else (if 0 ≤ (wrap64 (x4 - x1)) then (if (wrap64 (x4 - x1)) < (ln x5) then (if x2 = 0 then none else k8181 x0 x1 x2 (Int.tmod (IntKind.u64.wrap ((IntKind.u64.wrap (x3 * 4294967296)) + (rd x0 x4))) x2) (wrap64 (x4 - 1)) (x5.set (wrap64 (x4 - x1) : Int).toNat (IntKind.u64.wrap (Int.tdiv (IntKind.u64.wrap ((IntKind.u64.wrap (x3 * 4294967296)) + (rd x0 x4))) x2)))) else none) else none)) else none) else none) else k1023 x5)
noncomputable def l1023 (n : Nat) (x0 : Λ) : Ω (Λ) := b1023 (abacusref01_halves.f n) (abacusref01_limbs.f n) x0
noncomputable def l8181 (n : Nat) : Nat→Λ→Int→Int→Int→Int→Λ→Ω (Λ)
  | 0, _, _, _, _, _, _ => none
  | m + 1, x0, x1, x2, x3, x4, x5 => b8181 (abacusref01_halves.f n) (abacusref01_limbs.f n) (l1023 n) (l8181 n m) x0 x1 x2 x3 x4 x5
noncomputable def l127 (n : Nat) (x0 : Λ) (x1 x2 : Int) : Ω (Λ) := b127 (abacusref01_halves.f n) (abacusref01_limbs.f n) (l8181 n n) x0 x1 x2
noncomputable def l1013 (n : Nat) : Nat→Int→Λ→Int→Int→Int→Ω (Λ)
  | 0, _, _, _, _, _ => none
  | m + 1, x0, x1, x2, x3, x4 => b1013 (abacusref01_halves.f n) (abacusref01_limbs.f n) (l127 n) (l1013 n m) x0 x1 x2 x3 x4
noncomputable def f (n : Nat) (l0 : Λ) (a1 : Int) : Ω (Λ) := b0 (abacusref01_halves.f n) (abacusref01_limbs.f n) (l1013 n n) l0 a1
noncomputable def sg : Sig (Λ) := s1 (sOwn 25 .u64)
noncomputable def code : Code := (Tryd.f128.body).getD .skip
noncomputable def cfg (c153 c154 : T2) : Cfg (Λ) := { T := tys, call := orCall 153 (abacusref01_halves.call c153) (orCall 154 (abacusref01_limbs.call c154) (noCall)) }
noncomputable def cuts : List (Nat × List (Nat × Want)) := [(127, [(5, .keep), (6, .keep), (7, .keep)]), (1013, [(1, .keep), (5, .keep), (6, .keep), (7, .keep), (8, .keep)]), (1023, [(9, .keep)]), (8181, [(5, .keep), (6, .keep), (7, .keep), (9, .keep), (10, .keep), (11, .keep)])]
noncomputable def s127 (x0 : Λ) (x1 x2 : Int) : ASt := ⟨[(5, .ro .u64 x0), (6, .int .i64 x1), (7, .int .u64 x2)], []⟩
noncomputable def s1013 (x0 : Int) (x1 : Λ) (x2 x3 x4 : Int) : ASt := ⟨[(1, .int .i64 x0), (5, .ro .u64 x1), (6, .int .i64 x2), (7, .int .u64 x3), (8, .int .i64 x4)], []⟩
noncomputable def s1023 (x0 : Λ) : ASt := ⟨[(9, .own 0)], [.ints 25 .u64 x0]⟩
noncomputable def s8181 (x0 : Λ) (x1 x2 x3 x4 : Int) (x5 : Λ) : ASt := ⟨[(5, .ro .u64 x0), (6, .int .i64 x1), (7, .int .u64 x2), (9, .own 0), (10, .int .u64 x3), (11, .int .i64 x4)], [.ints 25 .u64 x5]⟩
noncomputable def A (c153 c154 : T2) (n : Nat) (J : Jt (Λ)) (q : Nat) (ms : List Nat) : ASt→Ω (Λ) := acont (cfg c153 c154) J cuts n q code 1 ms (aend (cfg c153 c154) Tryd.f128.results.toList [true] sg.out)
theorem e0 {c153 c154 n J l0 a1} : afun (cfg c153 c154) J cuts n code Tryd.f128.results.toList [true] [.ro .u64 l0, .int .i64 a1] sg.out = b0 c153 c154 (fun y0 y1 y2 y3 y4 => J 1013 (A c153 c154 n J 1013 [n]) (s1013 y0 y1 y2 y3 y4)) l0 a1 := by kernel_rfl
theorem e127 {c153 c154 n J x0 x1 x2} : A c153 c154 n J 127 [] (s127 x0 x1 x2) = b127 c153 c154 (fun y0 y1 y2 y3 y4 y5 => J 8181 (A c153 c154 n J 8181 [n]) (s8181 y0 y1 y2 y3 y4 y5)) x0 x1 x2 := by kernel_rfl
theorem e1013 {c153 c154 n J m x0 x1 x2 x3 x4} : A c153 c154 n J 1013 [m + 1] (s1013 x0 x1 x2 x3 x4) = b1013 c153 c154 (fun y0 y1 y2 => J 127 (A c153 c154 n J 127 []) (s127 y0 y1 y2)) (fun y0 y1 y2 y3 y4 => J 1013 (A c153 c154 n J 1013 [m]) (s1013 y0 y1 y2 y3 y4)) x0 x1 x2 x3 x4 := by kernel_rfl
theorem e1023 {c153 c154 n J x0} : A c153 c154 n J 1023 [] (s1023 x0) = b1023 c153 c154 x0 := by kernel_rfl
theorem e8181 {c153 c154 n J m x0 x1 x2 x3 x4 x5} : A c153 c154 n J 8181 [m + 1] (s8181 x0 x1 x2 x3 x4 x5) = b8181 c153 c154 (fun y0 => J 1023 (A c153 c154 n J 1023 []) (s1023 y0)) (fun y0 y1 y2 y3 y4 y5 => J 8181 (A c153 c154 n J 8181 [m]) (s8181 y0 y1 y2 y3 y4 y5)) x0 x1 x2 x3 x4 x5 := by kernel_rfl
noncomputable abbrev I (n : Nat) := A (abacusref01_halves.f n) (abacusref01_limbs.f n) n idJ
theorem q1023 (n x0) : I n 1023 [] (s1023 x0) = l1023 n x0 := e1023
theorem q8181 (n m) : ∀ x0 x1 x2 x3 x4 x5, I n 8181 [m] (s8181 x0 x1 x2 x3 x4 x5) = l8181 n m x0 x1 x2 x3 x4 x5 := by
  induction m with
  | zero => intros; rfl
  | succ m ih =>
    intros
    exact e8181.trans (Eq.trans (cf6 (congr (congrArg (b8181 _ _) (fu1 (q1023 n))) (fu6 (ih))) _ _ _ _ _ _) rfl)
theorem q127 (n x0 x1 x2) : I n 127 [] (s127 x0 x1 x2) = l127 n x0 x1 x2 := e127.trans (Eq.trans (cf3 (congrArg (b127 _ _) (fu6 (q8181 n n))) _ _ _) rfl)
theorem q1013 (n m) : ∀ x0 x1 x2 x3 x4, I n 1013 [m] (s1013 x0 x1 x2 x3 x4) = l1013 n m x0 x1 x2 x3 x4 := by
  induction m with
  | zero => intros; rfl
  | succ m ih =>
    intros
    exact e1013.trans (Eq.trans (cf5 (congr (congrArg (b1013 _ _) (fu3 (q127 n))) (fu5 (ih))) _ _ _ _ _) rfl)
theorem ok {n  l0 a1 r} (h : f n l0 a1 = some r) : CallD Tryd.prog HW 128 [.ro .u64 l0, .int .i64 a1] (sg.enc r) :=
  fun_some hwS Tryd.func128 (by kernel_rfl) (body := code) (by kernel_rfl) tys_ok (c := cfg (abacusref01_halves.f n) (abacusref01_limbs.f n)) (orCall_ok (abacusref01_halves.call_ok (n := n)) (orCall_ok (abacusref01_limbs.call_ok (n := n)) noCall_ok)) noW_ok (by kernel_rfl) (by kernel_rfl) (Nat.le_of_ble_eq_true (by kernel_rfl)) (Eq.trans ((e0 (n := n)).trans (Eq.trans (cf2 (congrArg (b0 _ _) (fu5 (q1013 n n))) _ _) rfl)) h)
noncomputable def call {α : Type} (g : T17) (ds : List D) (K : List D→Ω α) : Ω α := match ds with
  | [.ro .u64 l0, .int .i64 a1] => (g l0 a1).bind fun r => K (sg.enc r)
  | _ => none
theorem call_ok {α : Type} {n : Nat} : COK Tryd.prog HW 128 (call (α := α) (f n)) := fun _ _ _ h => by
  unfold call at h; split at h
  · exact cok h fun _ => ok
  · cases h
end abacusref01_Drop
/-! ### abacusref04_Whole: function 99 -/
namespace abacusref04_Whole
noncomputable def b0 (c84 : T6) (c127 c128 : T17) (c148 : T9) (a0 : Int) : Ω (Bool × Λ × Int) := ((c148 a0).bind fun t1 => (if (!t1) = true then some (false, ([] : Λ), 5) else ((c84 a0).bind fun t2 => (if t2.2.2.2 ≥ 0 then ((c127 [t2.2.2.1] t2.2.2.2).bind fun t3 => some (t2.1, t3, 0)) else ((c128 [t2.2.2.1] (wrap64 (-t2.2.2.2))).bind fun t4 => some (t2.1, t4, 0))))))
noncomputable def f (n : Nat) (a0 : Int) : Ω (Bool × Λ × Int) := b0 abacusref04_Decode.f (abacusref01_Lift.f n) (abacusref01_Drop.f n) abacusref04_Finite.f a0
noncomputable def sg : Sig (Bool × Λ × Int) := s2 (sBool) (s2 (sRow .u64) (s1 (sInt .i64)))
noncomputable def code : Code := (Tryd.f99.body).getD .skip
noncomputable def cfg (c84 : T6) (c127 c128 : T17) (c148 : T9) : Cfg (Bool × Λ × Int) := { T := tys, call := orCall 84 (abacusref04_Decode.call c84) (orCall 127 (abacusref01_Lift.call c127) (orCall 128 (abacusref01_Drop.call c128) (orCall 148 (abacusref04_Finite.call c148) (noCall)))) }
noncomputable def cuts : List (Nat × List (Nat × Want)) := []
theorem e0 {c84 c127 c128 c148 n J a0} : afun (cfg c84 c127 c128 c148) J cuts n code Tryd.f99.results.toList [false, false, false] [.int .u64 a0] sg.out = b0 c84 c127 c128 c148 a0 := by kernel_rfl
theorem ok {n  a0 r} (h : f n a0 = some r) : CallD Tryd.prog HW 99 [.int .u64 a0] (sg.enc r) :=
  fun_some hwS Tryd.func99 (by kernel_rfl) (body := code) (by kernel_rfl) tys_ok (c := cfg abacusref04_Decode.f (abacusref01_Lift.f n) (abacusref01_Drop.f n) abacusref04_Finite.f) (orCall_ok abacusref04_Decode.call_ok (orCall_ok (abacusref01_Lift.call_ok (n := n)) (orCall_ok (abacusref01_Drop.call_ok (n := n)) (orCall_ok abacusref04_Finite.call_ok noCall_ok)))) noW_ok (by kernel_rfl) (by kernel_rfl) (Nat.le_of_ble_eq_true (by kernel_rfl)) (Eq.trans ((e0 (n := n))) h)
noncomputable def call {α : Type} (g : T20) (ds : List D) (K : List D→Ω α) : Ω α := match ds with
  | [.int .u64 a0] => (g a0).bind fun r => K (sg.enc r)
  | _ => none
theorem call_ok {α : Type} {n : Nat} : COK Tryd.prog HW 99 (call (α := α) (f n)) := fun _ _ _ h => by
  unfold call at h; split at h
  · exact cok h fun _ => ok
  · cases h
end abacusref04_Whole
/-! ### abacusref01_ToUint: function 36 -/
namespace abacusref01_ToUint
noncomputable def b0 (c122 : T1) (l0 : Λ) : Ω (Int × Bool) := ((c122 l0).bind fun t1 => (if t1 = 0 then some (0, true) else (if t1 > 1 then some (0, false) else (if 0 < (ln l0) then some (rd l0 0, true) else none))))
noncomputable def f (n : Nat) (l0 : Λ) : Ω (Int × Bool) := b0 (abacusref01_Size.f n) l0
noncomputable def sg : Sig (Int × Bool) := s2 (sInt .u64) (s1 (sBool))
noncomputable def code : Code := (Tryd.f36.body).getD .skip
noncomputable def cfg (c122 : T1) : Cfg (Int × Bool) := { T := tys, call := orCall 122 (abacusref01_Size.call c122) (noCall) }
noncomputable def cuts : List (Nat × List (Nat × Want)) := []
theorem e0 {c122 n J l0} : afun (cfg c122) J cuts n code Tryd.f36.results.toList [false, false] [.ro .u64 l0] sg.out = b0 c122 l0 := by kernel_rfl
theorem ok {n  l0 r} (h : f n l0 = some r) : CallD Tryd.prog HW 36 [.ro .u64 l0] (sg.enc r) :=
  fun_some hwS Tryd.func36 (by kernel_rfl) (body := code) (by kernel_rfl) tys_ok (c := cfg (abacusref01_Size.f n)) (orCall_ok (abacusref01_Size.call_ok (n := n)) noCall_ok) noW_ok (by kernel_rfl) (by kernel_rfl) (Nat.le_of_ble_eq_true (by kernel_rfl)) (Eq.trans ((e0 (n := n))) h)
noncomputable def call {α : Type} (g : T19) (ds : List D) (K : List D→Ω α) : Ω α := match ds with
  | [.ro .u64 l0] => (g l0).bind fun r => K (sg.enc r)
  | _ => none
theorem call_ok {α : Type} {n : Nat} : COK Tryd.prog HW 36 (call (α := α) (f n)) := fun _ _ _ h => by
  unfold call at h; split at h
  · exact cok h fun _ => ok
  · cases h
end abacusref01_ToUint
/-! ### abacusref04_ToInt: function 98 -/
namespace abacusref04_ToInt
noncomputable def b0 (c36 : T19) (c99 : T20) (k63 : T70) (a0 : Int) : Ω (Int × Int) := ((c99 a0).bind fun t1 => (if ¬ t1.2.2 = 0 then some (0, t1.2.2) else ((c36 t1.2.1).bind fun t2 => (if (!t2.2) = true then some (0, 41) else (if t2.1 > 9223372036854775808 then some (0, 41) else (if t2.1 = 9223372036854775808 then (if (!t1.1) = true then some (0, 41) else k63 t1.1 t2.1) else k63 t1.1 t2.1))))))
noncomputable def b63 (c36 : T19) (c99 : T20) (x0 : Bool) (x1 : Int) : Ω (Int × Int) := (if (!x0) = true then some (wrap64 x1, 0) else (if x1 = 9223372036854775808 then some ((-9223372036854775808), 0) else some (wrap64 (-(wrap64 x1)), 0)))
noncomputable def l63 (n : Nat) (x0 : Bool) (x1 : Int) : Ω (Int × Int) := b63 (abacusref01_ToUint.f n) (abacusref04_Whole.f n) x0 x1
noncomputable def f (n : Nat) (a0 : Int) : Ω (Int × Int) := b0 (abacusref01_ToUint.f n) (abacusref04_Whole.f n) (l63 n) a0
noncomputable def sg : Sig (Int × Int) := s2 (sInt .i64) (s1 (sInt .i64))
noncomputable def code : Code := (Tryd.f98.body).getD .skip
noncomputable def cfg (c36 : T19) (c99 : T20) : Cfg (Int × Int) := { T := tys, call := orCall 36 (abacusref01_ToUint.call c36) (orCall 99 (abacusref04_Whole.call c99) (noCall)) }
noncomputable def cuts : List (Nat × List (Nat × Want)) := [(63, [(4, .keep), (7, .keep)])]
noncomputable def s63 (x0 : Bool) (x1 : Int) : ASt := ⟨[(4, .bool x0), (7, .int .u64 x1)], []⟩
noncomputable def A (c36 : T19) (c99 : T20) (n : Nat) (J : Jt (Int × Int)) (q : Nat) (ms : List Nat) : ASt→Ω (Int × Int) := acont (cfg c36 c99) J cuts n q code 1 ms (aend (cfg c36 c99) Tryd.f98.results.toList [false, false] sg.out)
theorem e0 {c36 c99 n J a0} : afun (cfg c36 c99) J cuts n code Tryd.f98.results.toList [false, false] [.int .u64 a0] sg.out = b0 c36 c99 (fun y0 y1 => J 63 (A c36 c99 n J 63 []) (s63 y0 y1)) a0 := by kernel_rfl
theorem e63 {c36 c99 n J x0 x1} : A c36 c99 n J 63 [] (s63 x0 x1) = b63 c36 c99 x0 x1 := by kernel_rfl
noncomputable abbrev I (n : Nat) := A (abacusref01_ToUint.f n) (abacusref04_Whole.f n) n idJ
theorem q63 (n x0 x1) : I n 63 [] (s63 x0 x1) = l63 n x0 x1 := e63
theorem ok {n  a0 r} (h : f n a0 = some r) : CallD Tryd.prog HW 98 [.int .u64 a0] (sg.enc r) :=
  fun_some hwS Tryd.func98 (by kernel_rfl) (body := code) (by kernel_rfl) tys_ok (c := cfg (abacusref01_ToUint.f n) (abacusref04_Whole.f n)) (orCall_ok (abacusref01_ToUint.call_ok (n := n)) (orCall_ok (abacusref04_Whole.call_ok (n := n)) noCall_ok)) noW_ok (by kernel_rfl) (by kernel_rfl) (Nat.le_of_ble_eq_true (by kernel_rfl)) (Eq.trans ((e0 (n := n)).trans (Eq.trans (cf1 (congrArg (b0 _ _) (fu2 (q63 n))) _) rfl)) h)
noncomputable def call {α : Type} (g : T33) (ds : List D) (K : List D→Ω α) : Ω α := match ds with
  | [.int .u64 a0] => (g a0).bind fun r => K (sg.enc r)
  | _ => none
theorem call_ok {α : Type} {n : Nat} : COK Tryd.prog HW 98 (call (α := α) (f n)) := fun _ _ _ h => by
  unfold call at h; split at h
  · exact cok h fun _ => ok
  · cases h
end abacusref04_ToInt
/-! ### abacusref01_Times: function 126 -/
namespace abacusref01_Times
noncomputable def b0 (c153 c154 : T2) (k1013 : T39) (l0 l1 : Λ) : Ω (Λ) := ((c153 l0).bind fun t1 => ((c153 l1).bind fun t2 => (if (ln t1) = 0 then some ([] : Λ) else (if (ln t2) = 0 then some ([] : Λ) else (if 0 ≤ (wrap64 ((ln t1) + (ln t2))) then (if (wrap64 ((ln t1) + (ln t2))).toNat ≤ 35184372088832 then k1013 t1 t2 0 (List.replicate (wrap64 ((ln t1) + (ln t2))).toNat (0 : Int)) else none) else none)))))
noncomputable def b127 (c153 c154 : T2) (x0 : Λ) : Ω (Λ) := ((c154 x0).bind fun t1 => some t1)
noncomputable def b1013 (c153 c154 k127 : T2) (k259221 : T71) (x0 x1 : Λ) (x2 : Int) (x3 : Λ) : Ω (Λ) := (if x2 < (ln x0) then k259221 x0 x1 x2 0 0 x3 else k127 x3)
noncomputable def b32403 (c153 c154 : T2) (k1013 : T39) (x0 x1 : Λ) (x2 x3 : Int) (x4 : Λ) : Ω (Λ) := (if 0 ≤ (wrap64 (x2 + (ln x1))) then (if (wrap64 (x2 + (ln x1))) < (ln x4) then k1013 x0 x1 (wrap64 (x2 + 1)) (x4.set (wrap64 (x2 + (ln x1)) : Int).toNat x3) else none) else none)
noncomputable def b259221 (c153 c154 : T2) (k32403 : Λ→Λ→Int→Int→Λ→Ω (Λ)) (k259221 : T71) (x0 x1 : Λ) (x2 x3 x4 : Int) (x5 : Λ) : Ω (Λ) := (if x4 < (ln x1) then (if 0 ≤ x2 then (if x2 < (ln x0) then (if 0 ≤ x4 then (if x4 < (ln x1) then (if 0 ≤ (wrap64 (x2 + x4)) then (if (wrap64 (x2 + x4)) < (ln x5) then (if 0 ≤ (wrap64 (x2 + x4)) then (if (wrap64 (x2 + x4)) < (ln x5) then k259221 x0 x1 x2 ((IntKind.u64.wrap ((IntKind.u64.wrap ((IntKind.u64.wrap ((rd x0 x2) * (rd x1 x4))) + (rd x5 (wrap64 (x2 + x4))))) + x3)) / 4294967296) (wrap64 (x4 + 1)) (x5.set (wrap64 (x2 + x4) : Int).toNat (Go.bits .and .u64 (IntKind.u64.wrap ((IntKind.u64.wrap ((IntKind.u64.wrap ((rd x0 x2) * (rd x1 x4))) + (rd x5 (wrap64 (x2 + x4))))) + x3)) 4294967295)) else none) else none) else none) else none) else none) else none) else none) else none) else k32403 x0 x1 x2 x3 x5)
noncomputable def l127 (n : Nat) (x0 : Λ) : Ω (Λ) := b127 (abacusref01_halves.f n) (abacusref01_limbs.f n) x0
noncomputable def l32403 (n : Nat) (k1013 : T39) (x0 x1 : Λ) (x2 x3 : Int) (x4 : Λ) : Ω (Λ) := b32403 (abacusref01_halves.f n) (abacusref01_limbs.f n) k1013 x0 x1 x2 x3 x4
noncomputable def l259221 (n : Nat) (k1013 : T39) : Nat→Λ→Λ→Int→Int→Int→Λ→Ω (Λ)
  | 0, _, _, _, _, _, _ => none
  | m + 1, x0, x1, x2, x3, x4, x5 => b259221 (abacusref01_halves.f n) (abacusref01_limbs.f n) (l32403 n k1013) (l259221 n k1013 m) x0 x1 x2 x3 x4 x5
noncomputable def l1013 (n : Nat) : Nat→Λ→Λ→Int→Λ→Ω (Λ)
  | 0, _, _, _, _ => none
  | m + 1, x0, x1, x2, x3 => b1013 (abacusref01_halves.f n) (abacusref01_limbs.f n) (l127 n) (l259221 n (l1013 n m) n) x0 x1 x2 x3
noncomputable def f (n : Nat) (l0 l1 : Λ) : Ω (Λ) := b0 (abacusref01_halves.f n) (abacusref01_limbs.f n) (l1013 n n) l0 l1
noncomputable def sg : Sig (Λ) := s1 (sOwn 25 .u64)
noncomputable def code : Code := (Tryd.f126.body).getD .skip
noncomputable def cfg (c153 c154 : T2) : Cfg (Λ) := { T := tys, call := orCall 153 (abacusref01_halves.call c153) (orCall 154 (abacusref01_limbs.call c154) (noCall)) }
noncomputable def cuts : List (Nat × List (Nat × Want)) := [(127, [(7, .keep)]), (1013, [(5, .keep), (6, .keep), (7, .keep), (8, .keep)]), (32403, [(5, .keep), (6, .keep), (7, .keep), (8, .keep), (9, .keep)]), (259221, [(5, .keep), (6, .keep), (7, .keep), (8, .keep), (9, .keep), (10, .keep)])]
noncomputable def s127 (x0 : Λ) : ASt := ⟨[(7, .own 0)], [.ints 25 .u64 x0]⟩
noncomputable def s1013 (x0 x1 : Λ) (x2 : Int) (x3 : Λ) : ASt := ⟨[(5, .ro .u64 x0), (6, .ro .u64 x1), (7, .own 0), (8, .int .i64 x2)], [.ints 25 .u64 x3]⟩
noncomputable def s32403 (x0 x1 : Λ) (x2 x3 : Int) (x4 : Λ) : ASt := ⟨[(5, .ro .u64 x0), (6, .ro .u64 x1), (7, .own 0), (8, .int .i64 x2), (9, .int .u64 x3)], [.ints 25 .u64 x4]⟩
noncomputable def s259221 (x0 x1 : Λ) (x2 x3 x4 : Int) (x5 : Λ) : ASt := ⟨[(5, .ro .u64 x0), (6, .ro .u64 x1), (7, .own 0), (8, .int .i64 x2), (9, .int .u64 x3), (10, .int .i64 x4)], [.ints 25 .u64 x5]⟩
noncomputable def A (c153 c154 : T2) (n : Nat) (J : Jt (Λ)) (q : Nat) (ms : List Nat) : ASt→Ω (Λ) := acont (cfg c153 c154) J cuts n q code 1 ms (aend (cfg c153 c154) Tryd.f126.results.toList [true] sg.out)
theorem e0 {c153 c154 n J l0 l1} : afun (cfg c153 c154) J cuts n code Tryd.f126.results.toList [true] [.ro .u64 l0, .ro .u64 l1] sg.out = b0 c153 c154 (fun y0 y1 y2 y3 => J 1013 (A c153 c154 n J 1013 [n]) (s1013 y0 y1 y2 y3)) l0 l1 := by kernel_rfl
theorem e127 {c153 c154 n J x0} : A c153 c154 n J 127 [] (s127 x0) = b127 c153 c154 x0 := by kernel_rfl
theorem e1013 {c153 c154 n J m x0 x1 x2 x3} : A c153 c154 n J 1013 [m + 1] (s1013 x0 x1 x2 x3) = b1013 c153 c154 (fun y0 => J 127 (A c153 c154 n J 127 []) (s127 y0)) (fun y0 y1 y2 y3 y4 y5 => J 259221 (A c153 c154 n J 259221 [m, n]) (s259221 y0 y1 y2 y3 y4 y5)) x0 x1 x2 x3 := by kernel_rfl
theorem e32403 {c153 c154 n J m1013 x0 x1 x2 x3 x4} : A c153 c154 n J 32403 [m1013] (s32403 x0 x1 x2 x3 x4) = b32403 c153 c154 (fun y0 y1 y2 y3 => J 1013 (A c153 c154 n J 1013 [m1013]) (s1013 y0 y1 y2 y3)) x0 x1 x2 x3 x4 := by kernel_rfl
theorem e259221 {c153 c154 n J m1013 m x0 x1 x2 x3 x4 x5} : A c153 c154 n J 259221 [m1013, m + 1] (s259221 x0 x1 x2 x3 x4 x5) = b259221 c153 c154 (fun y0 y1 y2 y3 y4 => J 32403 (A c153 c154 n J 32403 [m1013]) (s32403 y0 y1 y2 y3 y4)) (fun y0 y1 y2 y3 y4 y5 => J 259221 (A c153 c154 n J 259221 [m1013, m]) (s259221 y0 y1 y2 y3 y4 y5)) x0 x1 x2 x3 x4 x5 := by kernel_rfl
noncomputable abbrev I (n : Nat) := A (abacusref01_halves.f n) (abacusref01_limbs.f n) n idJ
theorem q127 (n x0) : I n 127 [] (s127 x0) = l127 n x0 := e127
theorem q32403 (n m1013 x0 x1 x2 x3 x4) : I n 32403 [m1013] (s32403 x0 x1 x2 x3 x4) = l32403 n (fun y0 y1 y2 y3 => I n 1013 [m1013] (s1013 y0 y1 y2 y3)) x0 x1 x2 x3 x4 := e32403
theorem q259221 (n m1013 m) : ∀ x0 x1 x2 x3 x4 x5, I n 259221 [m1013, m] (s259221 x0 x1 x2 x3 x4 x5) = l259221 n (fun y0 y1 y2 y3 => I n 1013 [m1013] (s1013 y0 y1 y2 y3)) m x0 x1 x2 x3 x4 x5 := by
  induction m with
  | zero => intros; rfl
  | succ m ih =>
    intros
    exact e259221.trans (Eq.trans (cf6 (congr (congrArg (b259221 _ _) (fu5 (q32403 n m1013))) (fu6 (ih))) _ _ _ _ _ _) rfl)
theorem q1013 (n m) : ∀ x0 x1 x2 x3, I n 1013 [m] (s1013 x0 x1 x2 x3) = l1013 n m x0 x1 x2 x3 := by
  induction m with
  | zero => intros; rfl
  | succ m ih =>
    intros
    exact e1013.trans (Eq.trans (cf4 (congr (congrArg (b1013 _ _) (fu1 (q127 n))) ((fu6 (q259221 n m n)).trans (by rw [show (fun y0 y1 y2 y3 => I n 1013 [m] (s1013 y0 y1 y2 y3)) = _ from (fu4 (ih))]))) _ _ _ _) rfl)
theorem ok {n  l0 l1 r} (h : f n l0 l1 = some r) : CallD Tryd.prog HW 126 [.ro .u64 l0, .ro .u64 l1] (sg.enc r) :=
  fun_some hwS Tryd.func126 (by kernel_rfl) (body := code) (by kernel_rfl) tys_ok (c := cfg (abacusref01_halves.f n) (abacusref01_limbs.f n)) (orCall_ok (abacusref01_halves.call_ok (n := n)) (orCall_ok (abacusref01_limbs.call_ok (n := n)) noCall_ok)) noW_ok (by kernel_rfl) (by kernel_rfl) (Nat.le_of_ble_eq_true (by kernel_rfl)) (Eq.trans ((e0 (n := n)).trans (Eq.trans (cf2 (congrArg (b0 _ _) (fu4 (q1013 n n))) _ _) rfl)) h)
noncomputable def call {α : Type} (g : T34) (ds : List D) (K : List D→Ω α) : Ω α := match ds with
  | [.ro .u64 l0, .ro .u64 l1] => (g l0 l1).bind fun r => K (sg.enc r)
  | _ => none
theorem call_ok {α : Type} {n : Nat} : COK Tryd.prog HW 126 (call (α := α) (f n)) := fun _ _ _ h => by
  unfold call at h; split at h
  · exact cok h fun _ => ok
  · cases h
end abacusref01_Times
/-! ### abacusref01_Cmp: function 40 -/
namespace abacusref01_Cmp
noncomputable def b0 (c122 : T1) (k1013 : T37) (l0 l1 : Λ) : Ω (Int) := ((c122 l0).bind fun t1 => ((c122 l1).bind fun t2 => (if t1 < t2 then some (-1) else (if t1 > t2 then some 1 else k1013 l0 l1 (wrap64 (t2 - 1))))))
noncomputable def b1013 (c122 : T1) (k1013 : T37) (x0 x1 : Λ) (x2 : Int) : Ω (Int) := (if x2 ≥ 0 then (if 0 ≤ x2 then (if x2 < (ln x0) then (if 0 ≤ x2 then (if x2 < (ln x1) then (if (rd x0 x2) < (rd x1 x2) then some (-1) else (if 0 ≤ x2 then (if x2 < (ln x0) then (if 0 ≤ x2 then (if x2 < (ln x1) then (if (rd x0 x2) > (rd x1 x2) then some 1 else k1013 x0 x1 (wrap64 (x2 - 1))) else none) else none) else none) else none)) else none) else none) else none) else none) else some 0)
noncomputable def l1013 (n : Nat) : Nat→Λ→Λ→Int→Ω (Int)
  | 0, _, _, _ => none
  | m + 1, x0, x1, x2 => b1013 (abacusref01_Size.f n) (l1013 n m) x0 x1 x2
noncomputable def f (n : Nat) (l0 l1 : Λ) : Ω (Int) := b0 (abacusref01_Size.f n) (l1013 n n) l0 l1
noncomputable def sg : Sig (Int) := s1 (sInt .i64)
noncomputable def code : Code := (Tryd.f40.body).getD .skip
noncomputable def cfg (c122 : T1) : Cfg (Int) := { T := tys, call := orCall 122 (abacusref01_Size.call c122) (noCall) }
noncomputable def cuts : List (Nat × List (Nat × Want)) := [(1013, [(0, .keep), (1, .keep), (7, .keep)])]
noncomputable def s1013 (x0 x1 : Λ) (x2 : Int) : ASt := ⟨[(0, .ro .u64 x0), (1, .ro .u64 x1), (7, .int .i64 x2)], []⟩
noncomputable def A (c122 : T1) (n : Nat) (J : Jt (Int)) (q : Nat) (ms : List Nat) : ASt→Ω (Int) := acont (cfg c122) J cuts n q code 1 ms (aend (cfg c122) Tryd.f40.results.toList [false] sg.out)
theorem e0 {c122 n J l0 l1} : afun (cfg c122) J cuts n code Tryd.f40.results.toList [false] [.ro .u64 l0, .ro .u64 l1] sg.out = b0 c122 (fun y0 y1 y2 => J 1013 (A c122 n J 1013 [n]) (s1013 y0 y1 y2)) l0 l1 := by kernel_rfl
theorem e1013 {c122 n J m x0 x1 x2} : A c122 n J 1013 [m + 1] (s1013 x0 x1 x2) = b1013 c122 (fun y0 y1 y2 => J 1013 (A c122 n J 1013 [m]) (s1013 y0 y1 y2)) x0 x1 x2 := by kernel_rfl
noncomputable abbrev I (n : Nat) := A (abacusref01_Size.f n) n idJ
theorem q1013 (n m) : ∀ x0 x1 x2, I n 1013 [m] (s1013 x0 x1 x2) = l1013 n m x0 x1 x2 := by
  induction m with
  | zero => intros; rfl
  | succ m ih =>
    intros
    exact e1013.trans (Eq.trans (cf3 (congrArg (b1013 _) (fu3 (ih))) _ _ _) rfl)
theorem ok {n  l0 l1 r} (h : f n l0 l1 = some r) : CallD Tryd.prog HW 40 [.ro .u64 l0, .ro .u64 l1] (sg.enc r) :=
  fun_some hwS Tryd.func40 (by kernel_rfl) (body := code) (by kernel_rfl) tys_ok (c := cfg (abacusref01_Size.f n)) (orCall_ok (abacusref01_Size.call_ok (n := n)) noCall_ok) noW_ok (by kernel_rfl) (by kernel_rfl) (Nat.le_of_ble_eq_true (by kernel_rfl)) (Eq.trans ((e0 (n := n)).trans (Eq.trans (cf2 (congrArg (b0 _) (fu3 (q1013 n n))) _ _) rfl)) h)
noncomputable def call {α : Type} (g : T7) (ds : List D) (K : List D→Ω α) : Ω α := match ds with
  | [.ro .u64 l0, .ro .u64 l1] => (g l0 l1).bind fun r => K (sg.enc r)
  | _ => none
theorem call_ok {α : Type} {n : Nat} : COK Tryd.prog HW 40 (call (α := α) (f n)) := fun _ _ _ h => by
  unfold call at h; split at h
  · exact cok h fun _ => ok
  · cases h
end abacusref01_Cmp
/-! ### abacusref04_against: function 149 -/
namespace abacusref04_against
noncomputable def b0 (c40 : T7) (c126 : T34) (c127 : T17) (k31 : Bool→Λ→Λ→Int→Int→Int→Ω (Int)) (a0 : Int) (a1 : Bool) (l2 l3 : Λ) (a4 : Int) : Ω (Int) := (if a0 ≥ 4503599627370496 then k31 a1 l2 l3 a4 (IntKind.u64.wrap ((Int.tmod a0 4503599627370496) + 4503599627370496)) (wrap64 ((wrap64 (IntKind.u64.wrap (Int.tdiv a0 4503599627370496))) - 1075)) else k31 a1 l2 l3 a4 a0 (-1074))
noncomputable def b31 (c40 : T7) (c126 : T34) (c127 : T17) (k255 : Λ→Λ→Int→Int→Int→Ω (Int)) (x0 : Bool) (x1 x2 : Λ) (x3 x4 x5 : Int) : Ω (Int) := (if x0 = true then k255 x1 x2 x3 (IntKind.u64.wrap ((IntKind.u64.wrap (2 * x4)) + 1)) (wrap64 (x5 - 1)) else k255 x1 x2 x3 (IntKind.u64.wrap (2 * x4)) (wrap64 (x5 - 1)))
noncomputable def b255 (c40 : T7) (c126 : T34) (c127 : T17) (x0 x1 : Λ) (x2 x3 x4 : Int) : Ω (Int) := ((c126 x1 [x3]).bind fun t1 => (if x4 ≥ x2 then ((c127 t1 (wrap64 (x4 - x2))).bind fun t2 => ((c40 t2 x0).bind fun t3 => some t3)) else ((c127 x0 (wrap64 (x2 - x4))).bind fun t4 => ((c40 t1 t4).bind fun t5 => some t5))))
noncomputable def l255 (n : Nat) (x0 x1 : Λ) (x2 x3 x4 : Int) : Ω (Int) := b255 (abacusref01_Cmp.f n) (abacusref01_Times.f n) (abacusref01_Lift.f n) x0 x1 x2 x3 x4
noncomputable def l31 (n : Nat) (x0 : Bool) (x1 x2 : Λ) (x3 x4 x5 : Int) : Ω (Int) := b31 (abacusref01_Cmp.f n) (abacusref01_Times.f n) (abacusref01_Lift.f n) (l255 n) x0 x1 x2 x3 x4 x5
noncomputable def f (n : Nat) (a0 : Int) (a1 : Bool) (l2 l3 : Λ) (a4 : Int) : Ω (Int) := b0 (abacusref01_Cmp.f n) (abacusref01_Times.f n) (abacusref01_Lift.f n) (l31 n) a0 a1 l2 l3 a4
noncomputable def sg : Sig (Int) := s1 (sInt .i64)
noncomputable def code : Code := (Tryd.f149.body).getD .skip
noncomputable def cfg (c40 : T7) (c126 : T34) (c127 : T17) : Cfg (Int) := { T := tys, call := orCall 40 (abacusref01_Cmp.call c40) (orCall 126 (abacusref01_Times.call c126) (orCall 127 (abacusref01_Lift.call c127) (noCall))) }
noncomputable def cuts : List (Nat × List (Nat × Want)) := [(31, [(1, .keep), (2, .keep), (3, .keep), (4, .keep), (11, .keep), (12, .keep)]), (255, [(2, .keep), (3, .keep), (4, .keep), (11, .keep), (12, .keep)])]
noncomputable def s31 (x0 : Bool) (x1 x2 : Λ) (x3 x4 x5 : Int) : ASt := ⟨[(1, .bool x0), (2, .ro .u64 x1), (3, .ro .u64 x2), (4, .int .i64 x3), (11, .int .u64 x4), (12, .int .i64 x5)], []⟩
noncomputable def s255 (x0 x1 : Λ) (x2 x3 x4 : Int) : ASt := ⟨[(2, .ro .u64 x0), (3, .ro .u64 x1), (4, .int .i64 x2), (11, .int .u64 x3), (12, .int .i64 x4)], []⟩
noncomputable def A (c40 : T7) (c126 : T34) (c127 : T17) (n : Nat) (J : Jt (Int)) (q : Nat) (ms : List Nat) : ASt→Ω (Int) := acont (cfg c40 c126 c127) J cuts n q code 1 ms (aend (cfg c40 c126 c127) Tryd.f149.results.toList [false] sg.out)
theorem e0 {c40 c126 c127 n J a0 a1 l2 l3 a4} : afun (cfg c40 c126 c127) J cuts n code Tryd.f149.results.toList [false] [.int .u64 a0, .bool a1, .ro .u64 l2, .ro .u64 l3, .int .i64 a4] sg.out = b0 c40 c126 c127 (fun y0 y1 y2 y3 y4 y5 => J 31 (A c40 c126 c127 n J 31 []) (s31 y0 y1 y2 y3 y4 y5)) a0 a1 l2 l3 a4 := by kernel_rfl
theorem e31 {c40 c126 c127 n J x0 x1 x2 x3 x4 x5} : A c40 c126 c127 n J 31 [] (s31 x0 x1 x2 x3 x4 x5) = b31 c40 c126 c127 (fun y0 y1 y2 y3 y4 => J 255 (A c40 c126 c127 n J 255 []) (s255 y0 y1 y2 y3 y4)) x0 x1 x2 x3 x4 x5 := by kernel_rfl
theorem e255 {c40 c126 c127 n J x0 x1 x2 x3 x4} : A c40 c126 c127 n J 255 [] (s255 x0 x1 x2 x3 x4) = b255 c40 c126 c127 x0 x1 x2 x3 x4 := by kernel_rfl
noncomputable abbrev I (n : Nat) := A (abacusref01_Cmp.f n) (abacusref01_Times.f n) (abacusref01_Lift.f n) n idJ
theorem q255 (n x0 x1 x2 x3 x4) : I n 255 [] (s255 x0 x1 x2 x3 x4) = l255 n x0 x1 x2 x3 x4 := e255
theorem q31 (n x0 x1 x2 x3 x4 x5) : I n 31 [] (s31 x0 x1 x2 x3 x4 x5) = l31 n x0 x1 x2 x3 x4 x5 := e31.trans (Eq.trans (cf6 (congrArg (b31 _ _ _) (fu5 (q255 n))) _ _ _ _ _ _) rfl)
theorem ok {n  a0 a1 l2 l3 a4 r} (h : f n a0 a1 l2 l3 a4 = some r) : CallD Tryd.prog HW 149 [.int .u64 a0, .bool a1, .ro .u64 l2, .ro .u64 l3, .int .i64 a4] (sg.enc r) :=
  fun_some hwS Tryd.func149 (by kernel_rfl) (body := code) (by kernel_rfl) tys_ok (c := cfg (abacusref01_Cmp.f n) (abacusref01_Times.f n) (abacusref01_Lift.f n)) (orCall_ok (abacusref01_Cmp.call_ok (n := n)) (orCall_ok (abacusref01_Times.call_ok (n := n)) (orCall_ok (abacusref01_Lift.call_ok (n := n)) noCall_ok))) noW_ok (by kernel_rfl) (by kernel_rfl) (Nat.le_of_ble_eq_true (by kernel_rfl)) (Eq.trans ((e0 (n := n)).trans (Eq.trans (cf5 (congrArg (b0 _ _ _) (fu6 (q31 n))) _ _ _ _ _) rfl)) h)
noncomputable def call {α : Type} (g : T30) (ds : List D) (K : List D→Ω α) : Ω α := match ds with
  | [.int .u64 a0, .bool a1, .ro .u64 l2, .ro .u64 l3, .int .i64 a4] => (g a0 a1 l2 l3 a4).bind fun r => K (sg.enc r)
  | _ => none
theorem call_ok {α : Type} {n : Nat} : COK Tryd.prog HW 149 (call (α := α) (f n)) := fun _ _ _ h => by
  unfold call at h; split at h
  · exact cok h fun _ => ok
  · cases h
end abacusref04_against
/-! ### abacusref04_RoundRatio: function 101 -/
namespace abacusref04_RoundRatio
noncomputable def b0 (c122 : T1) (c123 : T4) (c145 : T11) (c149 : T30) (k2041 : T72) (a0 : Bool) (l1 l2 : Λ) (a3 : Int) : Ω (Int × Int) := ((c123 l1).bind fun t1 => (if t1 = true then some (0, 2) else ((c123 l2).bind fun t2 => (if t2 = true then some (0, 2) else ((c122 l2).bind fun t3 => (if t3 = 0 then some (0, 4) else ((c122 l1).bind fun t4 => (if t4 = 0 then ((c145 a0 0 0).bind fun t5 => some (t5, 0)) else (if a3 < (-1048576) then ((c145 a0 0 0).bind fun t6 => some (t6, 0)) else (if a3 > 1048576 then ((c145 a0 2047 0).bind fun t7 => some (t7, 0)) else k2041 a0 l1 l2 a3 0 9218868437227405312))))))))))
noncomputable def b511 (c122 : T1) (c123 : T4) (c145 : T11) (c149 : T30) (k1023 : T70) (x0 : Bool) (x1 x2 : Λ) (x3 x4 : Int) : Ω (Int × Int) := (if x4 < 9218868437227405312 then ((c149 x4 true x1 x2 x3).bind fun t1 => (if t1 < 0 then k1023 x0 (IntKind.u64.wrap (x4 + 1)) else (if t1 = 0 then (if (Int.tmod x4 2) = 1 then k1023 x0 (IntKind.u64.wrap (x4 + 1)) else k1023 x0 x4) else k1023 x0 x4))) else k1023 x0 x4)
noncomputable def b1023 (c122 : T1) (c123 : T4) (c145 : T11) (c149 : T30) (x0 : Bool) (x1 : Int) : Ω (Int × Int) := (if x0 = true then some (IntKind.u64.wrap (x1 + 9223372036854775808), 0) else some (x1, 0))
noncomputable def b2041 (c122 : T1) (c123 : T4) (c145 : T11) (c149 : T30) (k511 : Bool→Λ→Λ→Int→Int→Ω (Int × Int)) (k2041 : T72) (x0 : Bool) (x1 x2 : Λ) (x3 x4 x5 : Int) : Ω (Int × Int) := (if x4 < x5 then ((c149 (IntKind.u64.wrap (x4 + (IntKind.u64.wrap (Int.tdiv (IntKind.u64.wrap ((IntKind.u64.wrap (x5 - x4)) + 1)) 2)))) false x1 x2 x3).bind fun t1 => (if t1 ≤ 0 then k2041 x0 x1 x2 x3 (IntKind.u64.wrap (x4 + (IntKind.u64.wrap (Int.tdiv (IntKind.u64.wrap ((IntKind.u64.wrap (x5 - x4)) + 1)) 2)))) x5 else k2041 x0 x1 x2 x3 x4 (IntKind.u64.wrap ((IntKind.u64.wrap (x4 + (IntKind.u64.wrap (Int.tdiv (IntKind.u64.wrap ((IntKind.u64.wrap (x5 - x4)) + 1)) 2)))) - 1)))) else k511 x0 x1 x2 x3 x4)
noncomputable def l1023 (n : Nat) (x0 : Bool) (x1 : Int) : Ω (Int × Int) := b1023 (abacusref01_Size.f n) (abacusref01_Big.f n) abacusref04_put.f (abacusref04_against.f n) x0 x1
noncomputable def l511 (n : Nat) (x0 : Bool) (x1 x2 : Λ) (x3 x4 : Int) : Ω (Int × Int) := b511 (abacusref01_Size.f n) (abacusref01_Big.f n) abacusref04_put.f (abacusref04_against.f n) (l1023 n) x0 x1 x2 x3 x4
noncomputable def l2041 (n : Nat) : Nat→Bool→Λ→Λ→Int→Int→Int→Ω (Int × Int)
  | 0, _, _, _, _, _, _ => none
  | m + 1, x0, x1, x2, x3, x4, x5 => b2041 (abacusref01_Size.f n) (abacusref01_Big.f n) abacusref04_put.f (abacusref04_against.f n) (l511 n) (l2041 n m) x0 x1 x2 x3 x4 x5
noncomputable def f (n : Nat) (a0 : Bool) (l1 l2 : Λ) (a3 : Int) : Ω (Int × Int) := b0 (abacusref01_Size.f n) (abacusref01_Big.f n) abacusref04_put.f (abacusref04_against.f n) (l2041 n n) a0 l1 l2 a3
noncomputable def sg : Sig (Int × Int) := s2 (sInt .u64) (s1 (sInt .i64))
noncomputable def code : Code := (Tryd.f101.body).getD .skip
noncomputable def cfg (c122 : T1) (c123 : T4) (c145 : T11) (c149 : T30) : Cfg (Int × Int) := { T := tys, call := orCall 122 (abacusref01_Size.call c122) (orCall 123 (abacusref01_Big.call c123) (orCall 145 (abacusref04_put.call c145) (orCall 149 (abacusref04_against.call c149) (noCall)))) }
noncomputable def cuts : List (Nat × List (Nat × Want)) := [(511, [(0, .keep), (1, .keep), (2, .keep), (3, .keep), (10, .keep)]), (1023, [(0, .keep), (10, .keep)]), (2041, [(0, .keep), (1, .keep), (2, .keep), (3, .keep), (10, .keep), (11, .keep)])]
noncomputable def s511 (x0 : Bool) (x1 x2 : Λ) (x3 x4 : Int) : ASt := ⟨[(0, .bool x0), (1, .ro .u64 x1), (2, .ro .u64 x2), (3, .int .i64 x3), (10, .int .u64 x4)], []⟩
noncomputable def s1023 (x0 : Bool) (x1 : Int) : ASt := ⟨[(0, .bool x0), (10, .int .u64 x1)], []⟩
noncomputable def s2041 (x0 : Bool) (x1 x2 : Λ) (x3 x4 x5 : Int) : ASt := ⟨[(0, .bool x0), (1, .ro .u64 x1), (2, .ro .u64 x2), (3, .int .i64 x3), (10, .int .u64 x4), (11, .int .u64 x5)], []⟩
noncomputable def A (c122 : T1) (c123 : T4) (c145 : T11) (c149 : T30) (n : Nat) (J : Jt (Int × Int)) (q : Nat) (ms : List Nat) : ASt→Ω (Int × Int) := acont (cfg c122 c123 c145 c149) J cuts n q code 1 ms (aend (cfg c122 c123 c145 c149) Tryd.f101.results.toList [false, false] sg.out)
theorem e0 {c122 c123 c145 c149 n J a0 l1 l2 a3} : afun (cfg c122 c123 c145 c149) J cuts n code Tryd.f101.results.toList [false, false] [.bool a0, .ro .u64 l1, .ro .u64 l2, .int .i64 a3] sg.out = b0 c122 c123 c145 c149 (fun y0 y1 y2 y3 y4 y5 => J 2041 (A c122 c123 c145 c149 n J 2041 [n]) (s2041 y0 y1 y2 y3 y4 y5)) a0 l1 l2 a3 := by kernel_rfl
theorem e511 {c122 c123 c145 c149 n J x0 x1 x2 x3 x4} : A c122 c123 c145 c149 n J 511 [] (s511 x0 x1 x2 x3 x4) = b511 c122 c123 c145 c149 (fun y0 y1 => J 1023 (A c122 c123 c145 c149 n J 1023 []) (s1023 y0 y1)) x0 x1 x2 x3 x4 := by kernel_rfl
theorem e1023 {c122 c123 c145 c149 n J x0 x1} : A c122 c123 c145 c149 n J 1023 [] (s1023 x0 x1) = b1023 c122 c123 c145 c149 x0 x1 := by kernel_rfl
theorem e2041 {c122 c123 c145 c149 n J m x0 x1 x2 x3 x4 x5} : A c122 c123 c145 c149 n J 2041 [m + 1] (s2041 x0 x1 x2 x3 x4 x5) = b2041 c122 c123 c145 c149 (fun y0 y1 y2 y3 y4 => J 511 (A c122 c123 c145 c149 n J 511 []) (s511 y0 y1 y2 y3 y4)) (fun y0 y1 y2 y3 y4 y5 => J 2041 (A c122 c123 c145 c149 n J 2041 [m]) (s2041 y0 y1 y2 y3 y4 y5)) x0 x1 x2 x3 x4 x5 := by kernel_rfl
noncomputable abbrev I (n : Nat) := A (abacusref01_Size.f n) (abacusref01_Big.f n) abacusref04_put.f (abacusref04_against.f n) n idJ
theorem q1023 (n x0 x1) : I n 1023 [] (s1023 x0 x1) = l1023 n x0 x1 := e1023
theorem q511 (n x0 x1 x2 x3 x4) : I n 511 [] (s511 x0 x1 x2 x3 x4) = l511 n x0 x1 x2 x3 x4 := e511.trans (Eq.trans (cf5 (congrArg (b511 _ _ _ _) (fu2 (q1023 n))) _ _ _ _ _) rfl)
theorem q2041 (n m) : ∀ x0 x1 x2 x3 x4 x5, I n 2041 [m] (s2041 x0 x1 x2 x3 x4 x5) = l2041 n m x0 x1 x2 x3 x4 x5 := by
  induction m with
  | zero => intros; rfl
  | succ m ih =>
    intros
    exact e2041.trans (Eq.trans (cf6 (congr (congrArg (b2041 _ _ _ _) (fu5 (q511 n))) (fu6 (ih))) _ _ _ _ _ _) rfl)
theorem ok {n  a0 l1 l2 a3 r} (h : f n a0 l1 l2 a3 = some r) : CallD Tryd.prog HW 101 [.bool a0, .ro .u64 l1, .ro .u64 l2, .int .i64 a3] (sg.enc r) :=
  fun_some hwS Tryd.func101 (by kernel_rfl) (body := code) (by kernel_rfl) tys_ok (c := cfg (abacusref01_Size.f n) (abacusref01_Big.f n) abacusref04_put.f (abacusref04_against.f n)) (orCall_ok (abacusref01_Size.call_ok (n := n)) (orCall_ok (abacusref01_Big.call_ok (n := n)) (orCall_ok abacusref04_put.call_ok (orCall_ok (abacusref04_against.call_ok (n := n)) noCall_ok)))) noW_ok (by kernel_rfl) (by kernel_rfl) (Nat.le_of_ble_eq_true (by kernel_rfl)) (Eq.trans ((e0 (n := n)).trans (Eq.trans (cf4 (congrArg (b0 _ _ _ _) (fu6 (q2041 n n))) _ _ _ _) rfl)) h)
noncomputable def call {α : Type} (g : T23) (ds : List D) (K : List D→Ω α) : Ω α := match ds with
  | [.bool a0, .ro .u64 l1, .ro .u64 l2, .int .i64 a3] => (g a0 l1 l2 a3).bind fun r => K (sg.enc r)
  | _ => none
theorem call_ok {α : Type} {n : Nat} : COK Tryd.prog HW 101 (call (α := α) (f n)) := fun _ _ _ h => by
  unfold call at h; split at h
  · exact cok h fun _ => ok
  · cases h
end abacusref04_RoundRatio
/-! ### abacuslaw04_wanted: function 27 -/
namespace abacuslaw04_wanted
noncomputable def b0 (c84 : T6) (c85 : T31) (c86 c87 c88 : T0) (c89 : T32) (c90 : T12) (c91 c92 : T13) (c93 c94 : T0) (c95 : T9) (c96 c97 : T0) (c98 : T33) (c99 : T20) (c100 : T14) (c101 : T23) (a0 a1 a2 a3 : Int) (a4 : Bool) (a5 a6 a7 : Int) (a8 : Bool) (l9 l10 : Λ) (a11 : Int) (a12 : Bool) : Ω (Int × Int × Int × Bool × Bool × Int × Int × Int × Λ × Int) := (if a0 = 1 then ((c84 a1).bind fun t1 => some (0, 0, 0, false, t1.1, t1.2.1, t1.2.2.1, t1.2.2.2, ([] : Λ), 0)) else (if a0 = 2 then ((c85 a4 a5 a6 a7).bind fun t2 => some (t2.1, 0, 0, false, false, 0, 0, 0, ([] : Λ), t2.2)) else (if a0 = 3 then ((c86 a1).bind fun t3 => some (0, t3, 0, false, false, 0, 0, 0, ([] : Λ), 0)) else (if a0 = 4 then ((c87 a1).bind fun t4 => some (t4, 0, 0, false, false, 0, 0, 0, ([] : Λ), 0)) else (if a0 = 5 then ((c88 a1).bind fun t5 => some (t5, 0, 0, false, false, 0, 0, 0, ([] : Λ), 0)) else (if a0 = 6 then ((c89 a1 a2).bind fun t6 => some (0, t6.1, 0, t6.2, false, 0, 0, 0, ([] : Λ), 0)) else (if a0 = 7 then ((c90 a1 a2).bind fun t7 => some (0, t7, 0, false, false, 0, 0, 0, ([] : Λ), 0)) else (if a0 = 8 then ((c91 a1).bind fun t8 => some (0, 0, t8.1, t8.2, false, 0, 0, 0, ([] : Λ), 0)) else (if a0 = 9 then ((c92 a3).bind fun t9 => some (t9.1, 0, 0, t9.2, false, 0, 0, 0, ([] : Λ), 0)) else (if a0 = 10 then ((c93 a1).bind fun t10 => some (t10, 0, 0, false, false, 0, 0, 0, ([] : Λ), 0)) else (if a0 = 11 then ((c94 a1).bind fun t11 => some (t11, 0, 0, false, false, 0, 0, 0, ([] : Λ), 0)) else (if a0 = 12 then ((c95 a1).bind fun t12 => some (0, 0, 0, t12, false, 0, 0, 0, ([] : Λ), 0)) else (if a0 = 13 then ((c96 a3).bind fun t13 => some (t13, 0, 0, false, false, 0, 0, 0, ([] : Λ), 0)) else (if a0 = 14 then ((c97 a1).bind fun t14 => some (t14, 0, 0, false, false, 0, 0, 0, ([] : Λ), 0)) else (if a0 = 15 then ((c98 a1).bind fun t15 => some (0, 0, t15.1, false, false, 0, 0, 0, ([] : Λ), t15.2)) else (if a0 = 16 then ((c99 a1).bind fun t16 => some (0, 0, 0, t16.1, false, 0, 0, 0, t16.2.1, t16.2.2)) else (if a0 = 17 then ((c100 a8 l9 a11 a12).bind fun t17 => some (t17.1, 0, 0, false, false, 0, 0, 0, ([] : Λ), t17.2)) else (if a0 = 18 then ((c101 a8 l9 l10 a11).bind fun t18 => some (t18.1, 0, 0, false, false, 0, 0, 0, ([] : Λ), t18.2)) else some (0, 0, 0, false, false, 0, 0, 0, ([] : Λ), 0)))))))))))))))))))
noncomputable def f (n : Nat) (a0 a1 a2 a3 : Int) (a4 : Bool) (a5 a6 a7 : Int) (a8 : Bool) (l9 l10 : Λ) (a11 : Int) (a12 : Bool) : Ω (Int × Int × Int × Bool × Bool × Int × Int × Int × Λ × Int) := b0 abacusref04_Decode.f abacusref04_Encode.f abacusref04_Class.f abacusref04_Neg.f abacusref04_Abs.f abacusref04_Compare.f abacusref04_Total.f abacusref04_Rank.f abacusref04_AtRank.f abacusref04_Up.f abacusref04_Down.f (abacusref04_Integral.f n) (abacusref04_FromInt.f n) (abacusref04_FromUint.f n) (abacusref04_ToInt.f n) (abacusref04_Whole.f n) (abacusref04_Round.f n) (abacusref04_RoundRatio.f n) a0 a1 a2 a3 a4 a5 a6 a7 a8 l9 l10 a11 a12
noncomputable def sg : Sig (Int × Int × Int × Bool × Bool × Int × Int × Int × Λ × Int) := s1 (sAgg (s2 (sInt .u64) (s2 (sInt .i64) (s2 (sInt .i64) (s2 (sBool) (s2 (sBool) (s2 (sInt .i64) (s2 (sInt .u64) (s2 (sInt .i64) (s2 (sRow .u64) (s1 (sInt .i64))))))))))))
noncomputable def code : Code := (Tryd.f27.body).getD .skip
noncomputable def cfg (c84 : T6) (c85 : T31) (c86 c87 c88 : T0) (c89 : T32) (c90 : T12) (c91 c92 : T13) (c93 c94 : T0) (c95 : T9) (c96 c97 : T0) (c98 : T33) (c99 : T20) (c100 : T14) (c101 : T23) : Cfg (Int × Int × Int × Bool × Bool × Int × Int × Int × Λ × Int) := { T := tys, call := orCall 84 (abacusref04_Decode.call c84) (orCall 85 (abacusref04_Encode.call c85) (orCall 86 (abacusref04_Class.call c86) (orCall 87 (abacusref04_Neg.call c87) (orCall 88 (abacusref04_Abs.call c88) (orCall 89 (abacusref04_Compare.call c89) (orCall 90 (abacusref04_Total.call c90) (orCall 91 (abacusref04_Rank.call c91) (orCall 92 (abacusref04_AtRank.call c92) (orCall 93 (abacusref04_Up.call c93) (orCall 94 (abacusref04_Down.call c94) (orCall 95 (abacusref04_Integral.call c95) (orCall 96 (abacusref04_FromInt.call c96) (orCall 97 (abacusref04_FromUint.call c97) (orCall 98 (abacusref04_ToInt.call c98) (orCall 99 (abacusref04_Whole.call c99) (orCall 100 (abacusref04_Round.call c100) (orCall 101 (abacusref04_RoundRatio.call c101) (noCall)))))))))))))))))) }
noncomputable def cuts : List (Nat × List (Nat × Want)) := []
theorem e0 {c84 c85 c86 c87 c88 c89 c90 c91 c92 c93 c94 c95 c96 c97 c98 c99 c100 c101 n J a0 a1 a2 a3 a4 a5 a6 a7 a8 l9 l10 a11 a12} : afun (cfg c84 c85 c86 c87 c88 c89 c90 c91 c92 c93 c94 c95 c96 c97 c98 c99 c100 c101) J cuts n code Tryd.f27.results.toList [false] [.agg [.int .i64 a0, .int .u64 a1, .int .u64 a2, .int .i64 a3, .bool a4, .int .i64 a5, .int .u64 a6, .int .i64 a7, .bool a8, .ro .u64 l9, .ro .u64 l10, .int .i64 a11, .bool a12]] sg.out = b0 c84 c85 c86 c87 c88 c89 c90 c91 c92 c93 c94 c95 c96 c97 c98 c99 c100 c101 a0 a1 a2 a3 a4 a5 a6 a7 a8 l9 l10 a11 a12 := by kernel_rfl
theorem ok {n  a0 a1 a2 a3 a4 a5 a6 a7 a8 l9 l10 a11 a12 r} (h : f n a0 a1 a2 a3 a4 a5 a6 a7 a8 l9 l10 a11 a12 = some r) : CallD Tryd.prog HW 27 [.agg [.int .i64 a0, .int .u64 a1, .int .u64 a2, .int .i64 a3, .bool a4, .int .i64 a5, .int .u64 a6, .int .i64 a7, .bool a8, .ro .u64 l9, .ro .u64 l10, .int .i64 a11, .bool a12]] (sg.enc r) :=
  fun_some hwS Tryd.func27 (by kernel_rfl) (body := code) (by kernel_rfl) tys_ok (c := cfg abacusref04_Decode.f abacusref04_Encode.f abacusref04_Class.f abacusref04_Neg.f abacusref04_Abs.f abacusref04_Compare.f abacusref04_Total.f abacusref04_Rank.f abacusref04_AtRank.f abacusref04_Up.f abacusref04_Down.f (abacusref04_Integral.f n) (abacusref04_FromInt.f n) (abacusref04_FromUint.f n) (abacusref04_ToInt.f n) (abacusref04_Whole.f n) (abacusref04_Round.f n) (abacusref04_RoundRatio.f n)) (orCall_ok abacusref04_Decode.call_ok (orCall_ok abacusref04_Encode.call_ok (orCall_ok abacusref04_Class.call_ok (orCall_ok abacusref04_Neg.call_ok (orCall_ok abacusref04_Abs.call_ok (orCall_ok abacusref04_Compare.call_ok (orCall_ok abacusref04_Total.call_ok (orCall_ok abacusref04_Rank.call_ok (orCall_ok abacusref04_AtRank.call_ok (orCall_ok abacusref04_Up.call_ok (orCall_ok abacusref04_Down.call_ok (orCall_ok (abacusref04_Integral.call_ok (n := n)) (orCall_ok (abacusref04_FromInt.call_ok (n := n)) (orCall_ok (abacusref04_FromUint.call_ok (n := n)) (orCall_ok (abacusref04_ToInt.call_ok (n := n)) (orCall_ok (abacusref04_Whole.call_ok (n := n)) (orCall_ok (abacusref04_Round.call_ok (n := n)) (orCall_ok (abacusref04_RoundRatio.call_ok (n := n)) noCall_ok)))))))))))))))))) noW_ok (by kernel_rfl) (by kernel_rfl) (Nat.le_of_ble_eq_true (by kernel_rfl)) (Eq.trans ((e0 (n := n))) h)
noncomputable def call {α : Type} (g : T21) (ds : List D) (K : List D→Ω α) : Ω α := match ds with
  | [.agg [.int .i64 a0, .int .u64 a1, .int .u64 a2, .int .i64 a3, .bool a4, .int .i64 a5, .int .u64 a6, .int .i64 a7, .bool a8, .ro .u64 l9, .ro .u64 l10, .int .i64 a11, .bool a12]] => (g a0 a1 a2 a3 a4 a5 a6 a7 a8 l9 l10 a11 a12).bind fun r => K (sg.enc r)
  | _ => none
theorem call_ok {α : Type} {n : Nat} : COK Tryd.prog HW 27 (call (α := α) (f n)) := fun _ _ _ h => by
  unfold call at h; split at h
  · exact cok h fun _ => ok
  · cases h
end abacuslaw04_wanted
/-! ### abacuslaw04_copied: function 28 -/
namespace abacuslaw04_copied
noncomputable def b0 (l0 : Λ) : Ω (Λ) := (if 0 ≤ (ln l0) then (if (ln l0).toNat ≤ 35184372088832 then (if (List.replicate 0 (0 : Int)).length + l0.length ≤ 17592186044416 then some ((List.replicate 0 (0 : Int)) ++ l0) else none) else none) else none)
noncomputable def f (l0 : Λ) : Ω (Λ) := b0 l0
noncomputable def sg : Sig (Λ) := s1 (sRow .u64)
noncomputable def code : Code := (Tryd.f28.body).getD .skip
noncomputable def cfg : Cfg (Λ) := { T := tys, call := noCall }
noncomputable def cuts : List (Nat × List (Nat × Want)) := []
theorem e0 {n J l0} : afun cfg J cuts n code Tryd.f28.results.toList [false] [.ro .u64 l0] sg.out = b0 l0 := by kernel_rfl
theorem ok {l0 r} (h : f l0 = some r) : CallD Tryd.prog HW 28 [.ro .u64 l0] (sg.enc r) :=
  fun_some hwS Tryd.func28 (by kernel_rfl) (body := code) (by kernel_rfl) tys_ok (c := cfg) noCall_ok noW_ok (by kernel_rfl) (by kernel_rfl) (Nat.le_of_ble_eq_true (by kernel_rfl)) (Eq.trans ((e0 (n := 0))) h)
noncomputable def call {α : Type} (g : T2) (ds : List D) (K : List D→Ω α) : Ω α := match ds with
  | [.ro .u64 l0] => (g l0).bind fun r => K (sg.enc r)
  | _ => none
theorem call_ok {α : Type} : COK Tryd.prog HW 28 (call (α := α) f) := fun _ _ _ h => by
  unfold call at h; split at h
  · exact cok h fun _ => ok
  · cases h
end abacuslaw04_copied
/-! ### ieee_Encode: function 102 -/
namespace ieee_Encode
noncomputable def b0 (c82 : T6) (k15 : T38) (a0 : Bool) (a1 a2 a3 : Int) : Ω (Int × Int) := (if a1 = 1 then k15 (Go.bits .and .u64 a2 4503599627370495) a0 a1 a2 a3 else (if a1 = 2 then (if a3 < (-1074) then some (0, 40) else (if a3 > 971 then some (0, 40) else k15 (Go.bits .or .u64 (IntKind.u64.wrap ((IntKind.u64.wrap (wrap64 (a3 + 1075))) * 4503599627370496)) (Go.bits .and .u64 a2 4503599627370495)) a0 a1 a2 a3)) else (if a1 = 3 then k15 (Go.bits .or .u64 9218868437227405312 (Go.bits .and .u64 a2 4503599627370495)) a0 a1 a2 a3 else (if a1 = 4 then k15 (Go.bits .or .u64 9218868437227405312 (Go.bits .and .u64 a2 4503599627370495)) a0 a1 a2 a3 else k15 0 a0 a1 a2 a3))))
noncomputable def b15 (c82 : T6) (k31 : T38) (x0 : Int) (x1 : Bool) (x2 x3 x4 : Int) : Ω (Int × Int) := (if x1 = true then k31 (Go.bits .or .u64 x0 9223372036854775808) x1 x2 x3 x4 else k31 x0 x1 x2 x3 x4)
noncomputable def b31 (c82 : T6) (x0 : Int) (x1 : Bool) (x2 x3 x4 : Int) : Ω (Int × Int) := ((c82 x0).bind fun t1 => (if (!((t1.1 == x1) && ((decide (t1.2.1 = x2)) && ((decide (t1.2.2.1 = x3)) && ((decide (t1.2.2.2 = x4)) && true))))) = true then some (0, 40) else some (x0, 0)))
noncomputable def l31 (x0 : Int) (x1 : Bool) (x2 x3 x4 : Int) : Ω (Int × Int) := b31 ieee_Decode.f x0 x1 x2 x3 x4
noncomputable def l15 (x0 : Int) (x1 : Bool) (x2 x3 x4 : Int) : Ω (Int × Int) := b15 ieee_Decode.f (l31) x0 x1 x2 x3 x4
noncomputable def f (a0 : Bool) (a1 a2 a3 : Int) : Ω (Int × Int) := b0 ieee_Decode.f (l15) a0 a1 a2 a3
noncomputable def sg : Sig (Int × Int) := s2 (sInt .u64) (s1 (sInt .i64))
noncomputable def code : Code := (Tryd.f102.body).getD .skip
noncomputable def cfg (c82 : T6) : Cfg (Int × Int) := { T := tys, call := orCall 82 (ieee_Decode.call c82) (noCall) }
noncomputable def cuts : List (Nat × List (Nat × Want)) := [(15, [(1, .keep), (4, .keep)]), (31, [(1, .keep), (4, .keep)])]
noncomputable def s15 (x0 : Int) (x1 : Bool) (x2 x3 x4 : Int) : ASt := ⟨[(1, .ptr 0 0), (4, .int .u64 x0)], [.cells 51 [.bool x1, .int .i64 x2, .int .u64 x3, .int .i64 x4]]⟩
noncomputable def s31 (x0 : Int) (x1 : Bool) (x2 x3 x4 : Int) : ASt := ⟨[(1, .ptr 0 0), (4, .int .u64 x0)], [.cells 51 [.bool x1, .int .i64 x2, .int .u64 x3, .int .i64 x4]]⟩
noncomputable def A (c82 : T6) (n : Nat) (J : Jt (Int × Int)) (q : Nat) (ms : List Nat) : ASt→Ω (Int × Int) := acont (cfg c82) J cuts n q code 1 ms (aend (cfg c82) Tryd.f102.results.toList [false, false] sg.out)
theorem e0 {c82 n J a0 a1 a2 a3} : afun (cfg c82) J cuts n code Tryd.f102.results.toList [false, false] [.agg [.bool a0, .int .i64 a1, .int .u64 a2, .int .i64 a3]] sg.out = b0 c82 (fun y0 y1 y2 y3 y4 => J 15 (A c82 n J 15 []) (s15 y0 y1 y2 y3 y4)) a0 a1 a2 a3 := by kernel_rfl
theorem e15 {c82 n J x0 x1 x2 x3 x4} : A c82 n J 15 [] (s15 x0 x1 x2 x3 x4) = b15 c82 (fun y0 y1 y2 y3 y4 => J 31 (A c82 n J 31 []) (s31 y0 y1 y2 y3 y4)) x0 x1 x2 x3 x4 := by kernel_rfl
theorem e31 {c82 n J x0 x1 x2 x3 x4} : A c82 n J 31 [] (s31 x0 x1 x2 x3 x4) = b31 c82 x0 x1 x2 x3 x4 := by kernel_rfl
noncomputable abbrev I (n : Nat) := A ieee_Decode.f n idJ
theorem q31 (n x0 x1 x2 x3 x4) : I n 31 [] (s31 x0 x1 x2 x3 x4) = l31 x0 x1 x2 x3 x4 := e31
theorem q15 (n x0 x1 x2 x3 x4) : I n 15 [] (s15 x0 x1 x2 x3 x4) = l15 x0 x1 x2 x3 x4 := e15.trans (Eq.trans (cf5 (congrArg (b15 _) (fu5 (q31 n))) _ _ _ _ _) rfl)
theorem ok {a0 a1 a2 a3 r} (h : f a0 a1 a2 a3 = some r) : CallD Tryd.prog HW 102 [.agg [.bool a0, .int .i64 a1, .int .u64 a2, .int .i64 a3]] (sg.enc r) :=
  fun_some hwS Tryd.func102 (by kernel_rfl) (body := code) (by kernel_rfl) tys_ok (c := cfg ieee_Decode.f) (orCall_ok ieee_Decode.call_ok noCall_ok) noW_ok (by kernel_rfl) (by kernel_rfl) (Nat.le_of_ble_eq_true (by kernel_rfl)) (Eq.trans ((e0 (n := 0)).trans (Eq.trans (cf4 (congrArg (b0 _) (fu5 (q15 0))) _ _ _ _) rfl)) h)
noncomputable def call {α : Type} (g : T31) (ds : List D) (K : List D→Ω α) : Ω α := match ds with
  | [.agg [.bool a0, .int .i64 a1, .int .u64 a2, .int .i64 a3]] => (g a0 a1 a2 a3).bind fun r => K (sg.enc r)
  | _ => none
theorem call_ok {α : Type} : COK Tryd.prog HW 102 (call (α := α) f) := fun _ _ _ h => by
  unfold call at h; split at h
  · exact cok h fun _ => ok
  · cases h
end ieee_Encode
/-! ### ieee_order: function 150 -/
namespace ieee_order
noncomputable def b0 (a0 a1 : Int) : Ω (Int) := (if a0 < a1 then some (-1) else (if a0 > a1 then some 1 else some 0))
noncomputable def f (a0 a1 : Int) : Ω (Int) := b0 a0 a1
noncomputable def sg : Sig (Int) := s1 (sInt .i64)
noncomputable def code : Code := (Tryd.f150.body).getD .skip
noncomputable def cfg : Cfg (Int) := { T := tys, call := noCall }
noncomputable def cuts : List (Nat × List (Nat × Want)) := []
theorem e0 {n J a0 a1} : afun cfg J cuts n code Tryd.f150.results.toList [false] [.int .i64 a0, .int .i64 a1] sg.out = b0 a0 a1 := by kernel_rfl
theorem ok {a0 a1 r} (h : f a0 a1 = some r) : CallD Tryd.prog HW 150 [.int .i64 a0, .int .i64 a1] (sg.enc r) :=
  fun_some hwS Tryd.func150 (by kernel_rfl) (body := code) (by kernel_rfl) tys_ok (c := cfg) noCall_ok noW_ok (by kernel_rfl) (by kernel_rfl) (Nat.le_of_ble_eq_true (by kernel_rfl)) (Eq.trans ((e0 (n := 0))) h)
noncomputable def call {α : Type} (g : T12) (ds : List D) (K : List D→Ω α) : Ω α := match ds with
  | [.int .i64 a0, .int .i64 a1] => (g a0 a1).bind fun r => K (sg.enc r)
  | _ => none
theorem call_ok {α : Type} : COK Tryd.prog HW 150 (call (α := α) f) := fun _ _ _ h => by
  unfold call at h; split at h
  · exact cok h fun _ => ok
  · cases h
end ieee_order
/-! ### ieee_Compare: function 106 -/
namespace ieee_Compare
noncomputable def b0 (c108 : T13) (c150 : T12) (a0 a1 : Int) : Ω (Int × Bool) := ((c108 a0).bind fun t1 => ((c108 a1).bind fun t2 => (if (!t1.2) = true then some (0, false) else (if (!t2.2) = true then some (0, false) else ((c150 t1.1 t2.1).bind fun t3 => some (t3, true))))))
noncomputable def f (a0 a1 : Int) : Ω (Int × Bool) := b0 ieee_Rank.f ieee_order.f a0 a1
noncomputable def sg : Sig (Int × Bool) := s2 (sInt .i64) (s1 (sBool))
noncomputable def code : Code := (Tryd.f106.body).getD .skip
noncomputable def cfg (c108 : T13) (c150 : T12) : Cfg (Int × Bool) := { T := tys, call := orCall 108 (ieee_Rank.call c108) (orCall 150 (ieee_order.call c150) (noCall)) }
noncomputable def cuts : List (Nat × List (Nat × Want)) := []
theorem e0 {c108 c150 n J a0 a1} : afun (cfg c108 c150) J cuts n code Tryd.f106.results.toList [false, false] [.int .u64 a0, .int .u64 a1] sg.out = b0 c108 c150 a0 a1 := by kernel_rfl
theorem ok {a0 a1 r} (h : f a0 a1 = some r) : CallD Tryd.prog HW 106 [.int .u64 a0, .int .u64 a1] (sg.enc r) :=
  fun_some hwS Tryd.func106 (by kernel_rfl) (body := code) (by kernel_rfl) tys_ok (c := cfg ieee_Rank.f ieee_order.f) (orCall_ok ieee_Rank.call_ok (orCall_ok ieee_order.call_ok noCall_ok)) noW_ok (by kernel_rfl) (by kernel_rfl) (Nat.le_of_ble_eq_true (by kernel_rfl)) (Eq.trans ((e0 (n := 0))) h)
noncomputable def call {α : Type} (g : T32) (ds : List D) (K : List D→Ω α) : Ω α := match ds with
  | [.int .u64 a0, .int .u64 a1] => (g a0 a1).bind fun r => K (sg.enc r)
  | _ => none
theorem call_ok {α : Type} : COK Tryd.prog HW 106 (call (α := α) f) := fun _ _ _ h => by
  unfold call at h; split at h
  · exact cok h fun _ => ok
  · cases h
end ieee_Compare
/-! ### ieee_key: function 151 -/
namespace ieee_key
noncomputable def b0 (c105 : T0) (a0 : Int) : Ω (Int) := (if ¬ (Go.bits .and .u64 a0 9223372036854775808) = 0 then ((c105 a0).bind fun t1 => some (wrap64 ((wrap64 (-(wrap64 t1))) - 1))) else some (wrap64 a0))
noncomputable def f (a0 : Int) : Ω (Int) := b0 ieee_Abs.f a0
noncomputable def sg : Sig (Int) := s1 (sInt .i64)
noncomputable def code : Code := (Tryd.f151.body).getD .skip
noncomputable def cfg (c105 : T0) : Cfg (Int) := { T := tys, call := orCall 105 (ieee_Abs.call c105) (noCall) }
noncomputable def cuts : List (Nat × List (Nat × Want)) := []
theorem e0 {c105 n J a0} : afun (cfg c105) J cuts n code Tryd.f151.results.toList [false] [.int .u64 a0] sg.out = b0 c105 a0 := by kernel_rfl
theorem ok {a0 r} (h : f a0 = some r) : CallD Tryd.prog HW 151 [.int .u64 a0] (sg.enc r) :=
  fun_some hwS Tryd.func151 (by kernel_rfl) (body := code) (by kernel_rfl) tys_ok (c := cfg ieee_Abs.f) (orCall_ok ieee_Abs.call_ok noCall_ok) noW_ok (by kernel_rfl) (by kernel_rfl) (Nat.le_of_ble_eq_true (by kernel_rfl)) (Eq.trans ((e0 (n := 0))) h)
noncomputable def call {α : Type} (g : T0) (ds : List D) (K : List D→Ω α) : Ω α := match ds with
  | [.int .u64 a0] => (g a0).bind fun r => K (sg.enc r)
  | _ => none
theorem call_ok {α : Type} : COK Tryd.prog HW 151 (call (α := α) f) := fun _ _ _ h => by
  unfold call at h; split at h
  · exact cok h fun _ => ok
  · cases h
end ieee_key
/-! ### ieee_Total: function 107 -/
namespace ieee_Total
noncomputable def b0 (c150 : T12) (c151 : T0) (a0 a1 : Int) : Ω (Int) := ((c151 a0).bind fun t1 => ((c151 a1).bind fun t2 => ((c150 t1 t2).bind fun t3 => some t3)))
noncomputable def f (a0 a1 : Int) : Ω (Int) := b0 ieee_order.f ieee_key.f a0 a1
noncomputable def sg : Sig (Int) := s1 (sInt .i64)
noncomputable def code : Code := (Tryd.f107.body).getD .skip
noncomputable def cfg (c150 : T12) (c151 : T0) : Cfg (Int) := { T := tys, call := orCall 150 (ieee_order.call c150) (orCall 151 (ieee_key.call c151) (noCall)) }
noncomputable def cuts : List (Nat × List (Nat × Want)) := []
theorem e0 {c150 c151 n J a0 a1} : afun (cfg c150 c151) J cuts n code Tryd.f107.results.toList [false] [.int .u64 a0, .int .u64 a1] sg.out = b0 c150 c151 a0 a1 := by kernel_rfl
theorem ok {a0 a1 r} (h : f a0 a1 = some r) : CallD Tryd.prog HW 107 [.int .u64 a0, .int .u64 a1] (sg.enc r) :=
  fun_some hwS Tryd.func107 (by kernel_rfl) (body := code) (by kernel_rfl) tys_ok (c := cfg ieee_order.f ieee_key.f) (orCall_ok ieee_order.call_ok (orCall_ok ieee_key.call_ok noCall_ok)) noW_ok (by kernel_rfl) (by kernel_rfl) (Nat.le_of_ble_eq_true (by kernel_rfl)) (Eq.trans ((e0 (n := 0))) h)
noncomputable def call {α : Type} (g : T12) (ds : List D) (K : List D→Ω α) : Ω α := match ds with
  | [.int .u64 a0, .int .u64 a1] => (g a0 a1).bind fun r => K (sg.enc r)
  | _ => none
theorem call_ok {α : Type} : COK Tryd.prog HW 107 (call (α := α) f) := fun _ _ _ h => by
  unfold call at h; split at h
  · exact cok h fun _ => ok
  · cases h
end ieee_Total
/-! ### ieee_Down: function 110 -/
namespace ieee_Down
noncomputable def b0 (c83 c103 c104 : T0) (a0 : Int) : Ω (Int) := ((c103 a0).bind fun t1 => (if t1 = 4 then some 9221120237041090560 else ((c104 a0).bind fun t2 => ((c83 t2).bind fun t3 => ((c104 t3).bind fun t4 => some t4)))))
noncomputable def f (a0 : Int) : Ω (Int) := b0 ieee_Up.f ieee_Class.f ieee_Neg.f a0
noncomputable def sg : Sig (Int) := s1 (sInt .u64)
noncomputable def code : Code := (Tryd.f110.body).getD .skip
noncomputable def cfg (c83 c103 c104 : T0) : Cfg (Int) := { T := tys, call := orCall 83 (ieee_Up.call c83) (orCall 103 (ieee_Class.call c103) (orCall 104 (ieee_Neg.call c104) (noCall))) }
noncomputable def cuts : List (Nat × List (Nat × Want)) := []
theorem e0 {c83 c103 c104 n J a0} : afun (cfg c83 c103 c104) J cuts n code Tryd.f110.results.toList [false] [.int .u64 a0] sg.out = b0 c83 c103 c104 a0 := by kernel_rfl
theorem ok {a0 r} (h : f a0 = some r) : CallD Tryd.prog HW 110 [.int .u64 a0] (sg.enc r) :=
  fun_some hwS Tryd.func110 (by kernel_rfl) (body := code) (by kernel_rfl) tys_ok (c := cfg ieee_Up.f ieee_Class.f ieee_Neg.f) (orCall_ok ieee_Up.call_ok (orCall_ok ieee_Class.call_ok (orCall_ok ieee_Neg.call_ok noCall_ok))) noW_ok (by kernel_rfl) (by kernel_rfl) (Nat.le_of_ble_eq_true (by kernel_rfl)) (Eq.trans ((e0 (n := 0))) h)
noncomputable def call {α : Type} (g : T0) (ds : List D) (K : List D→Ω α) : Ω α := match ds with
  | [.int .u64 a0] => (g a0).bind fun r => K (sg.enc r)
  | _ => none
theorem call_ok {α : Type} : COK Tryd.prog HW 110 (call (α := α) f) := fun _ _ _ h => by
  unfold call at h; split at h
  · exact cok h fun _ => ok
  · cases h
end ieee_Down
/-! ### ieee_Integral: function 111 -/
namespace ieee_Integral
noncomputable def b0 (c82 : T6) (c130 : T0) (a0 : Int) : Ω (Bool) := ((c82 a0).bind fun t1 => (if t1.2.1 ≥ 3 then some false else (if t1.2.2.1 = 0 then some true else (if t1.2.2.2 ≥ 0 then some true else ((c130 t1.2.2.1).bind fun t2 => some (decide (t2 ≥ (wrap64 (-t1.2.2.2)))))))))
noncomputable def f (a0 : Int) : Ω (Bool) := b0 ieee_Decode.f bits_TrailingZeros64.f a0
noncomputable def sg : Sig (Bool) := s1 (sBool)
noncomputable def code : Code := (Tryd.f111.body).getD .skip
noncomputable def cfg (c82 : T6) (c130 : T0) : Cfg (Bool) := { T := tys, call := orCall 82 (ieee_Decode.call c82) (orCall 130 (bits_TrailingZeros64.call c130) (noCall)) }
noncomputable def cuts : List (Nat × List (Nat × Want)) := []
theorem e0 {c82 c130 n J a0} : afun (cfg c82 c130) J cuts n code Tryd.f111.results.toList [false] [.int .u64 a0] sg.out = b0 c82 c130 a0 := by kernel_rfl
theorem ok {a0 r} (h : f a0 = some r) : CallD Tryd.prog HW 111 [.int .u64 a0] (sg.enc r) :=
  fun_some hwS Tryd.func111 (by kernel_rfl) (body := code) (by kernel_rfl) tys_ok (c := cfg ieee_Decode.f bits_TrailingZeros64.f) (orCall_ok ieee_Decode.call_ok (orCall_ok bits_TrailingZeros64.call_ok noCall_ok)) noW_ok (by kernel_rfl) (by kernel_rfl) (Nat.le_of_ble_eq_true (by kernel_rfl)) (Eq.trans ((e0 (n := 0))) h)
noncomputable def call {α : Type} (g : T9) (ds : List D) (K : List D→Ω α) : Ω α := match ds with
  | [.int .u64 a0] => (g a0).bind fun r => K (sg.enc r)
  | _ => none
theorem call_ok {α : Type} : COK Tryd.prog HW 111 (call (α := α) f) := fun _ _ _ h => by
  unfold call at h; split at h
  · exact cok h fun _ => ok
  · cases h
end ieee_Integral
/-! ### ieee_FromUint: function 113 -/
namespace ieee_FromUint
noncomputable def b0 (c51 : T22) (c116 : T14) (a0 : Int) : Ω (Int) := ((c51 a0).bind fun t1 => ((c116 false t1 0 false).bind fun t2 => some t2.1))
noncomputable def f (n : Nat) (a0 : Int) : Ω (Int) := b0 nat_FromUint.f (ieee_Round.f n) a0
noncomputable def sg : Sig (Int) := s1 (sInt .u64)
noncomputable def code : Code := (Tryd.f113.body).getD .skip
noncomputable def cfg (c51 : T22) (c116 : T14) : Cfg (Int) := { T := tys, call := orCall 51 (nat_FromUint.call c51) (orCall 116 (ieee_Round.call c116) (noCall)) }
noncomputable def cuts : List (Nat × List (Nat × Want)) := []
theorem e0 {c51 c116 n J a0} : afun (cfg c51 c116) J cuts n code Tryd.f113.results.toList [false] [.int .u64 a0] sg.out = b0 c51 c116 a0 := by kernel_rfl
theorem ok {n  a0 r} (h : f n a0 = some r) : CallD Tryd.prog HW 113 [.int .u64 a0] (sg.enc r) :=
  fun_some hwS Tryd.func113 (by kernel_rfl) (body := code) (by kernel_rfl) tys_ok (c := cfg nat_FromUint.f (ieee_Round.f n)) (orCall_ok nat_FromUint.call_ok (orCall_ok (ieee_Round.call_ok (n := n)) noCall_ok)) noW_ok (by kernel_rfl) (by kernel_rfl) (Nat.le_of_ble_eq_true (by kernel_rfl)) (Eq.trans ((e0 (n := n))) h)
noncomputable def call {α : Type} (g : T0) (ds : List D) (K : List D→Ω α) : Ω α := match ds with
  | [.int .u64 a0] => (g a0).bind fun r => K (sg.enc r)
  | _ => none
theorem call_ok {α : Type} {n : Nat} : COK Tryd.prog HW 113 (call (α := α) (f n)) := fun _ _ _ h => by
  unfold call at h; split at h
  · exact cok h fun _ => ok
  · cases h
end ieee_FromUint
/-! ### ieee_FromInt: function 112 -/
namespace ieee_FromInt
noncomputable def b0 (c104 c113 : T0) (a0 : Int) : Ω (Int) := (if a0 < 0 then ((c113 (IntKind.u64.wrap (-(IntKind.u64.wrap a0)))).bind fun t1 => ((c104 t1).bind fun t2 => some t2)) else ((c113 (IntKind.u64.wrap a0)).bind fun t3 => some t3))
noncomputable def f (n : Nat) (a0 : Int) : Ω (Int) := b0 ieee_Neg.f (ieee_FromUint.f n) a0
noncomputable def sg : Sig (Int) := s1 (sInt .u64)
noncomputable def code : Code := (Tryd.f112.body).getD .skip
noncomputable def cfg (c104 c113 : T0) : Cfg (Int) := { T := tys, call := orCall 104 (ieee_Neg.call c104) (orCall 113 (ieee_FromUint.call c113) (noCall)) }
noncomputable def cuts : List (Nat × List (Nat × Want)) := []
theorem e0 {c104 c113 n J a0} : afun (cfg c104 c113) J cuts n code Tryd.f112.results.toList [false] [.int .i64 a0] sg.out = b0 c104 c113 a0 := by kernel_rfl
theorem ok {n  a0 r} (h : f n a0 = some r) : CallD Tryd.prog HW 112 [.int .i64 a0] (sg.enc r) :=
  fun_some hwS Tryd.func112 (by kernel_rfl) (body := code) (by kernel_rfl) tys_ok (c := cfg ieee_Neg.f (ieee_FromUint.f n)) (orCall_ok ieee_Neg.call_ok (orCall_ok (ieee_FromUint.call_ok (n := n)) noCall_ok)) noW_ok (by kernel_rfl) (by kernel_rfl) (Nat.le_of_ble_eq_true (by kernel_rfl)) (Eq.trans ((e0 (n := n))) h)
noncomputable def call {α : Type} (g : T0) (ds : List D) (K : List D→Ω α) : Ω α := match ds with
  | [.int .i64 a0] => (g a0).bind fun r => K (sg.enc r)
  | _ => none
theorem call_ok {α : Type} {n : Nat} : COK Tryd.prog HW 112 (call (α := α) (f n)) := fun _ _ _ h => by
  unfold call at h; split at h
  · exact cok h fun _ => ok
  · cases h
end ieee_FromInt
/-! ### ieee_Whole: function 115 -/
namespace ieee_Whole
noncomputable def b0 (c51 : T22) (c60 : T18) (c61 : T16) (c82 : T6) (k127 : Λ→Int→Bool→Int→Int→Int→Ω (Bool × Λ × Int)) (a0 : Int) : Ω (Bool × Λ × Int) := ((c82 a0).bind fun t1 => (if t1.2.1 ≥ 3 then some (false, ([] : Λ), 5) else ((c51 t1.2.2.1).bind fun t2 => (if t1.2.2.2 ≥ 0 then ((c60 t2 t1.2.2.2).bind fun t3 => k127 t3.1 t3.2 t1.1 t1.2.1 t1.2.2.1 t1.2.2.2) else ((c61 t2 (wrap64 (-t1.2.2.2))).bind fun t4 => k127 t4.1 t4.2.2 t1.1 t1.2.1 t1.2.2.1 t1.2.2.2)))))
noncomputable def b127 (c51 : T22) (c60 : T18) (c61 : T16) (c82 : T6) (x0 : Λ) (x1 : Int) (x2 : Bool) (x3 x4 x5 : Int) : Ω (Bool × Λ × Int) := some (x2, x0, x1)
noncomputable def l127 (n : Nat) (x0 : Λ) (x1 : Int) (x2 : Bool) (x3 x4 x5 : Int) : Ω (Bool × Λ × Int) := b127 nat_FromUint.f (nat_Shl.f n) (nat_Shr.f n) ieee_Decode.f x0 x1 x2 x3 x4 x5
noncomputable def f (n : Nat) (a0 : Int) : Ω (Bool × Λ × Int) := b0 nat_FromUint.f (nat_Shl.f n) (nat_Shr.f n) ieee_Decode.f (l127 n) a0
noncomputable def sg : Sig (Bool × Λ × Int) := s2 (sBool) (s2 (sRow .u64) (s1 (sInt .i64)))
noncomputable def code : Code := (Tryd.f115.body).getD .skip
noncomputable def cfg (c51 : T22) (c60 : T18) (c61 : T16) (c82 : T6) : Cfg (Bool × Λ × Int) := { T := tys, call := orCall 51 (nat_FromUint.call c51) (orCall 60 (nat_Shl.call c60) (orCall 61 (nat_Shr.call c61) (orCall 82 (ieee_Decode.call c82) (noCall)))) }
noncomputable def cuts : List (Nat × List (Nat × Want)) := [(127, [(5, .keep), (6, .keep), (7, .keep)])]
noncomputable def s127 (x0 : Λ) (x1 : Int) (x2 : Bool) (x3 x4 x5 : Int) : ASt := ⟨[(5, .ptr 0 0), (6, .ro .u64 x0), (7, .int .i64 x1)], [.cells 51 [.bool x2, .int .i64 x3, .int .u64 x4, .int .i64 x5]]⟩
noncomputable def A (c51 : T22) (c60 : T18) (c61 : T16) (c82 : T6) (n : Nat) (J : Jt (Bool × Λ × Int)) (q : Nat) (ms : List Nat) : ASt→Ω (Bool × Λ × Int) := acont (cfg c51 c60 c61 c82) J cuts n q code 1 ms (aend (cfg c51 c60 c61 c82) Tryd.f115.results.toList [false, false, false] sg.out)
theorem e0 {c51 c60 c61 c82 n J a0} : afun (cfg c51 c60 c61 c82) J cuts n code Tryd.f115.results.toList [false, false, false] [.int .u64 a0] sg.out = b0 c51 c60 c61 c82 (fun y0 y1 y2 y3 y4 y5 => J 127 (A c51 c60 c61 c82 n J 127 []) (s127 y0 y1 y2 y3 y4 y5)) a0 := by kernel_rfl
theorem e127 {c51 c60 c61 c82 n J x0 x1 x2 x3 x4 x5} : A c51 c60 c61 c82 n J 127 [] (s127 x0 x1 x2 x3 x4 x5) = b127 c51 c60 c61 c82 x0 x1 x2 x3 x4 x5 := by kernel_rfl
noncomputable abbrev I (n : Nat) := A nat_FromUint.f (nat_Shl.f n) (nat_Shr.f n) ieee_Decode.f n idJ
theorem q127 (n x0 x1 x2 x3 x4 x5) : I n 127 [] (s127 x0 x1 x2 x3 x4 x5) = l127 n x0 x1 x2 x3 x4 x5 := e127
theorem ok {n  a0 r} (h : f n a0 = some r) : CallD Tryd.prog HW 115 [.int .u64 a0] (sg.enc r) :=
  fun_some hwS Tryd.func115 (by kernel_rfl) (body := code) (by kernel_rfl) tys_ok (c := cfg nat_FromUint.f (nat_Shl.f n) (nat_Shr.f n) ieee_Decode.f) (orCall_ok nat_FromUint.call_ok (orCall_ok (nat_Shl.call_ok (n := n)) (orCall_ok (nat_Shr.call_ok (n := n)) (orCall_ok ieee_Decode.call_ok noCall_ok)))) noW_ok (by kernel_rfl) (by kernel_rfl) (Nat.le_of_ble_eq_true (by kernel_rfl)) (Eq.trans ((e0 (n := n)).trans (Eq.trans (cf1 (congrArg (b0 _ _ _ _) (fu6 (q127 n))) _) rfl)) h)
noncomputable def call {α : Type} (g : T20) (ds : List D) (K : List D→Ω α) : Ω α := match ds with
  | [.int .u64 a0] => (g a0).bind fun r => K (sg.enc r)
  | _ => none
theorem call_ok {α : Type} {n : Nat} : COK Tryd.prog HW 115 (call (α := α) (f n)) := fun _ _ _ h => by
  unfold call at h; split at h
  · exact cok h fun _ => ok
  · cases h
end ieee_Whole
/-! ### ieee_ToInt: function 114 -/
namespace ieee_ToInt
noncomputable def b0 (c52 : T19) (c115 : T20) (k249 : Bool→Int→Bool→Bool→Ω (Int × Int)) (a0 : Int) : Ω (Int × Int) := ((c115 a0).bind fun t1 => (if ¬ t1.2.2 = 0 then some (0, t1.2.2) else ((c52 t1.2.1).bind fun t2 => (if t2.2 = true then (if t2.1 < 9223372036854775808 then k249 t1.1 t2.1 t2.2 (!t1.1) else k249 t1.1 t2.1 t2.2 false) else k249 t1.1 t2.1 t2.2 false))))
noncomputable def b249 (c52 : T19) (c115 : T20) (x0 : Bool) (x1 : Int) (x2 x3 : Bool) : Ω (Int × Int) := (if x3 = true then some (wrap64 x1, 0) else (if x2 = true then (if x1 ≤ 9223372036854775808 then (if x0 = true then some (wrap64 (-(wrap64 x1)), 0) else some (0, 41)) else some (0, 41)) else some (0, 41)))
noncomputable def l249 (n : Nat) (x0 : Bool) (x1 : Int) (x2 x3 : Bool) : Ω (Int × Int) := b249 (nat_ToUint.f n) (ieee_Whole.f n) x0 x1 x2 x3
noncomputable def f (n : Nat) (a0 : Int) : Ω (Int × Int) := b0 (nat_ToUint.f n) (ieee_Whole.f n) (l249 n) a0
noncomputable def sg : Sig (Int × Int) := s2 (sInt .i64) (s1 (sInt .i64))
noncomputable def code : Code := (Tryd.f114.body).getD .skip
noncomputable def cfg (c52 : T19) (c115 : T20) : Cfg (Int × Int) := { T := tys, call := orCall 52 (nat_ToUint.call c52) (orCall 115 (ieee_Whole.call c115) (noCall)) }
noncomputable def cuts : List (Nat × List (Nat × Want)) := [(249, [(4, .keep), (7, .keep), (8, .keep), (23, .keep)])]
noncomputable def s249 (x0 : Bool) (x1 : Int) (x2 x3 : Bool) : ASt := ⟨[(4, .bool x0), (7, .int .u64 x1), (8, .bool x2), (23, .bool x3)], []⟩
noncomputable def A (c52 : T19) (c115 : T20) (n : Nat) (J : Jt (Int × Int)) (q : Nat) (ms : List Nat) : ASt→Ω (Int × Int) := acont (cfg c52 c115) J cuts n q code 1 ms (aend (cfg c52 c115) Tryd.f114.results.toList [false, false] sg.out)
theorem e0 {c52 c115 n J a0} : afun (cfg c52 c115) J cuts n code Tryd.f114.results.toList [false, false] [.int .u64 a0] sg.out = b0 c52 c115 (fun y0 y1 y2 y3 => J 249 (A c52 c115 n J 249 []) (s249 y0 y1 y2 y3)) a0 := by kernel_rfl
theorem e249 {c52 c115 n J x0 x1 x2 x3} : A c52 c115 n J 249 [] (s249 x0 x1 x2 x3) = b249 c52 c115 x0 x1 x2 x3 := by kernel_rfl
noncomputable abbrev I (n : Nat) := A (nat_ToUint.f n) (ieee_Whole.f n) n idJ
theorem q249 (n x0 x1 x2 x3) : I n 249 [] (s249 x0 x1 x2 x3) = l249 n x0 x1 x2 x3 := e249
theorem ok {n  a0 r} (h : f n a0 = some r) : CallD Tryd.prog HW 114 [.int .u64 a0] (sg.enc r) :=
  fun_some hwS Tryd.func114 (by kernel_rfl) (body := code) (by kernel_rfl) tys_ok (c := cfg (nat_ToUint.f n) (ieee_Whole.f n)) (orCall_ok (nat_ToUint.call_ok (n := n)) (orCall_ok (ieee_Whole.call_ok (n := n)) noCall_ok)) noW_ok (by kernel_rfl) (by kernel_rfl) (Nat.le_of_ble_eq_true (by kernel_rfl)) (Eq.trans ((e0 (n := n)).trans (Eq.trans (cf1 (congrArg (b0 _ _) (fu4 (q249 n))) _) rfl)) h)
noncomputable def call {α : Type} (g : T33) (ds : List D) (K : List D→Ω α) : Ω α := match ds with
  | [.int .u64 a0] => (g a0).bind fun r => K (sg.enc r)
  | _ => none
theorem call_ok {α : Type} {n : Nat} : COK Tryd.prog HW 114 (call (α := α) (f n)) := fun _ _ _ h => by
  unfold call at h; split at h
  · exact cok h fun _ => ok
  · cases h
end ieee_ToInt
/-! ### abacuslaw04_asked: function 30 -/
namespace abacuslaw04_asked
noncomputable def b0 (c81 : T23) (c82 : T6) (c83 : T0) (c102 : T31) (c103 c104 c105 : T0) (c106 : T32) (c107 : T12) (c108 c109 : T13) (c110 : T0) (c111 : T9) (c112 c113 : T0) (c114 : T33) (c115 : T20) (c116 : T14) (a0 a1 a2 a3 : Int) (a4 : Bool) (a5 a6 a7 : Int) (a8 : Bool) (l9 l10 : Λ) (a11 : Int) (a12 : Bool) : Ω (Int × Int × Int × Bool × Bool × Int × Int × Int × Λ × Int) := (if a0 = 1 then ((c82 a1).bind fun t1 => some (0, 0, 0, false, t1.1, t1.2.1, t1.2.2.1, t1.2.2.2, ([] : Λ), 0)) else (if a0 = 2 then ((c102 a4 a5 a6 a7).bind fun t2 => some (t2.1, 0, 0, false, false, 0, 0, 0, ([] : Λ), t2.2)) else (if a0 = 3 then ((c103 a1).bind fun t3 => some (0, t3, 0, false, false, 0, 0, 0, ([] : Λ), 0)) else (if a0 = 4 then ((c104 a1).bind fun t4 => some (t4, 0, 0, false, false, 0, 0, 0, ([] : Λ), 0)) else (if a0 = 5 then ((c105 a1).bind fun t5 => some (t5, 0, 0, false, false, 0, 0, 0, ([] : Λ), 0)) else (if a0 = 6 then ((c106 a1 a2).bind fun t6 => some (0, t6.1, 0, t6.2, false, 0, 0, 0, ([] : Λ), 0)) else (if a0 = 7 then ((c107 a1 a2).bind fun t7 => some (0, t7, 0, false, false, 0, 0, 0, ([] : Λ), 0)) else (if a0 = 8 then ((c108 a1).bind fun t8 => some (0, 0, t8.1, t8.2, false, 0, 0, 0, ([] : Λ), 0)) else (if a0 = 9 then ((c109 a3).bind fun t9 => some (t9.1, 0, 0, t9.2, false, 0, 0, 0, ([] : Λ), 0)) else (if a0 = 10 then ((c83 a1).bind fun t10 => some (t10, 0, 0, false, false, 0, 0, 0, ([] : Λ), 0)) else (if a0 = 11 then ((c110 a1).bind fun t11 => some (t11, 0, 0, false, false, 0, 0, 0, ([] : Λ), 0)) else (if a0 = 12 then ((c111 a1).bind fun t12 => some (0, 0, 0, t12, false, 0, 0, 0, ([] : Λ), 0)) else (if a0 = 13 then ((c112 a3).bind fun t13 => some (t13, 0, 0, false, false, 0, 0, 0, ([] : Λ), 0)) else (if a0 = 14 then ((c113 a1).bind fun t14 => some (t14, 0, 0, false, false, 0, 0, 0, ([] : Λ), 0)) else (if a0 = 15 then ((c114 a1).bind fun t15 => some (0, 0, t15.1, false, false, 0, 0, 0, ([] : Λ), t15.2)) else (if a0 = 16 then ((c115 a1).bind fun t16 => some (0, 0, 0, t16.1, false, 0, 0, 0, t16.2.1, t16.2.2)) else (if a0 = 17 then ((c116 a8 l9 a11 a12).bind fun t17 => some (t17.1, 0, 0, false, false, 0, 0, 0, ([] : Λ), t17.2)) else (if a0 = 18 then ((c81 a8 l9 l10 a11).bind fun t18 => some (t18.1, 0, 0, false, false, 0, 0, 0, ([] : Λ), t18.2)) else some (0, 0, 0, false, false, 0, 0, 0, ([] : Λ), 0)))))))))))))))))))
noncomputable def f (n : Nat) (a0 a1 a2 a3 : Int) (a4 : Bool) (a5 a6 a7 : Int) (a8 : Bool) (l9 l10 : Λ) (a11 : Int) (a12 : Bool) : Ω (Int × Int × Int × Bool × Bool × Int × Int × Int × Λ × Int) := b0 (ieee_RoundRatio.f n) ieee_Decode.f ieee_Up.f ieee_Encode.f ieee_Class.f ieee_Neg.f ieee_Abs.f ieee_Compare.f ieee_Total.f ieee_Rank.f ieee_AtRank.f ieee_Down.f ieee_Integral.f (ieee_FromInt.f n) (ieee_FromUint.f n) (ieee_ToInt.f n) (ieee_Whole.f n) (ieee_Round.f n) a0 a1 a2 a3 a4 a5 a6 a7 a8 l9 l10 a11 a12
noncomputable def sg : Sig (Int × Int × Int × Bool × Bool × Int × Int × Int × Λ × Int) := s1 (sAgg (s2 (sInt .u64) (s2 (sInt .i64) (s2 (sInt .i64) (s2 (sBool) (s2 (sBool) (s2 (sInt .i64) (s2 (sInt .u64) (s2 (sInt .i64) (s2 (sRow .u64) (s1 (sInt .i64))))))))))))
noncomputable def code : Code := (Tryd.f30.body).getD .skip
noncomputable def cfg (c81 : T23) (c82 : T6) (c83 : T0) (c102 : T31) (c103 c104 c105 : T0) (c106 : T32) (c107 : T12) (c108 c109 : T13) (c110 : T0) (c111 : T9) (c112 c113 : T0) (c114 : T33) (c115 : T20) (c116 : T14) : Cfg (Int × Int × Int × Bool × Bool × Int × Int × Int × Λ × Int) := { T := tys, call := orCall 81 (ieee_RoundRatio.call c81) (orCall 82 (ieee_Decode.call c82) (orCall 83 (ieee_Up.call c83) (orCall 102 (ieee_Encode.call c102) (orCall 103 (ieee_Class.call c103) (orCall 104 (ieee_Neg.call c104) (orCall 105 (ieee_Abs.call c105) (orCall 106 (ieee_Compare.call c106) (orCall 107 (ieee_Total.call c107) (orCall 108 (ieee_Rank.call c108) (orCall 109 (ieee_AtRank.call c109) (orCall 110 (ieee_Down.call c110) (orCall 111 (ieee_Integral.call c111) (orCall 112 (ieee_FromInt.call c112) (orCall 113 (ieee_FromUint.call c113) (orCall 114 (ieee_ToInt.call c114) (orCall 115 (ieee_Whole.call c115) (orCall 116 (ieee_Round.call c116) (noCall)))))))))))))))))) }
noncomputable def cuts : List (Nat × List (Nat × Want)) := []
theorem e0 {c81 c82 c83 c102 c103 c104 c105 c106 c107 c108 c109 c110 c111 c112 c113 c114 c115 c116 n J a0 a1 a2 a3 a4 a5 a6 a7 a8 l9 l10 a11 a12} : afun (cfg c81 c82 c83 c102 c103 c104 c105 c106 c107 c108 c109 c110 c111 c112 c113 c114 c115 c116) J cuts n code Tryd.f30.results.toList [false] [.agg [.int .i64 a0, .int .u64 a1, .int .u64 a2, .int .i64 a3, .bool a4, .int .i64 a5, .int .u64 a6, .int .i64 a7, .bool a8, .ro .u64 l9, .ro .u64 l10, .int .i64 a11, .bool a12]] sg.out = b0 c81 c82 c83 c102 c103 c104 c105 c106 c107 c108 c109 c110 c111 c112 c113 c114 c115 c116 a0 a1 a2 a3 a4 a5 a6 a7 a8 l9 l10 a11 a12 := by kernel_rfl
theorem ok {n  a0 a1 a2 a3 a4 a5 a6 a7 a8 l9 l10 a11 a12 r} (h : f n a0 a1 a2 a3 a4 a5 a6 a7 a8 l9 l10 a11 a12 = some r) : CallD Tryd.prog HW 30 [.agg [.int .i64 a0, .int .u64 a1, .int .u64 a2, .int .i64 a3, .bool a4, .int .i64 a5, .int .u64 a6, .int .i64 a7, .bool a8, .ro .u64 l9, .ro .u64 l10, .int .i64 a11, .bool a12]] (sg.enc r) :=
  fun_some hwS Tryd.func30 (by kernel_rfl) (body := code) (by kernel_rfl) tys_ok (c := cfg (ieee_RoundRatio.f n) ieee_Decode.f ieee_Up.f ieee_Encode.f ieee_Class.f ieee_Neg.f ieee_Abs.f ieee_Compare.f ieee_Total.f ieee_Rank.f ieee_AtRank.f ieee_Down.f ieee_Integral.f (ieee_FromInt.f n) (ieee_FromUint.f n) (ieee_ToInt.f n) (ieee_Whole.f n) (ieee_Round.f n)) (orCall_ok (ieee_RoundRatio.call_ok (n := n)) (orCall_ok ieee_Decode.call_ok (orCall_ok ieee_Up.call_ok (orCall_ok ieee_Encode.call_ok (orCall_ok ieee_Class.call_ok (orCall_ok ieee_Neg.call_ok (orCall_ok ieee_Abs.call_ok (orCall_ok ieee_Compare.call_ok (orCall_ok ieee_Total.call_ok (orCall_ok ieee_Rank.call_ok (orCall_ok ieee_AtRank.call_ok (orCall_ok ieee_Down.call_ok (orCall_ok ieee_Integral.call_ok (orCall_ok (ieee_FromInt.call_ok (n := n)) (orCall_ok (ieee_FromUint.call_ok (n := n)) (orCall_ok (ieee_ToInt.call_ok (n := n)) (orCall_ok (ieee_Whole.call_ok (n := n)) (orCall_ok (ieee_Round.call_ok (n := n)) noCall_ok)))))))))))))))))) noW_ok (by kernel_rfl) (by kernel_rfl) (Nat.le_of_ble_eq_true (by kernel_rfl)) (Eq.trans ((e0 (n := n))) h)
noncomputable def call {α : Type} (g : T21) (ds : List D) (K : List D→Ω α) : Ω α := match ds with
  | [.agg [.int .i64 a0, .int .u64 a1, .int .u64 a2, .int .i64 a3, .bool a4, .int .i64 a5, .int .u64 a6, .int .i64 a7, .bool a8, .ro .u64 l9, .ro .u64 l10, .int .i64 a11, .bool a12]] => (g a0 a1 a2 a3 a4 a5 a6 a7 a8 l9 l10 a11 a12).bind fun r => K (sg.enc r)
  | _ => none
theorem call_ok {α : Type} {n : Nat} : COK Tryd.prog HW 30 (call (α := α) (f n)) := fun _ _ _ h => by
  unfold call at h; split at h
  · exact cok h fun _ => ok
  · cases h
end abacuslaw04_asked
/-! ### abacusref01_Same: function 15 -/
namespace abacusref01_Same
noncomputable def b0 (k117 : Λ→Λ→Int→Ω (Bool)) (l0 l1 : Λ) : Ω (Bool) := (if ¬ (ln l0) = (ln l1) then some false else k117 l0 l1 0)
noncomputable def b117 (k117 : Λ→Λ→Int→Ω (Bool)) (x0 x1 : Λ) (x2 : Int) : Ω (Bool) := (if x2 < (ln x0) then (if 0 ≤ x2 then (if x2 < (ln x0) then (if 0 ≤ x2 then (if x2 < (ln x1) then (if ¬ (rd x0 x2) = (rd x1 x2) then some false else k117 x0 x1 (wrap64 (x2 + 1))) else none) else none) else none) else none) else some true)
noncomputable def l117 (n : Nat) : Nat→Λ→Λ→Int→Ω (Bool)
  | 0, _, _, _ => none
  | m + 1, x0, x1, x2 => b117 (l117 n m) x0 x1 x2
noncomputable def f (n : Nat) (l0 l1 : Λ) : Ω (Bool) := b0 (l117 n n) l0 l1
noncomputable def sg : Sig (Bool) := s1 (sBool)
noncomputable def code : Code := (Tryd.f15.body).getD .skip
noncomputable def cfg : Cfg (Bool) := { T := tys, call := noCall }
noncomputable def cuts : List (Nat × List (Nat × Want)) := [(117, [(0, .keep), (1, .keep), (5, .keep)])]
noncomputable def s117 (x0 x1 : Λ) (x2 : Int) : ASt := ⟨[(0, .ro .u64 x0), (1, .ro .u64 x1), (5, .int .i64 x2)], []⟩
noncomputable def A (n : Nat) (J : Jt (Bool)) (q : Nat) (ms : List Nat) : ASt→Ω (Bool) := acont cfg J cuts n q code 1 ms (aend cfg Tryd.f15.results.toList [false] sg.out)
theorem e0 {n J l0 l1} : afun cfg J cuts n code Tryd.f15.results.toList [false] [.ro .u64 l0, .ro .u64 l1] sg.out = b0 (fun y0 y1 y2 => J 117 (A n J 117 [n]) (s117 y0 y1 y2)) l0 l1 := by kernel_rfl
theorem e117 {n J m x0 x1 x2} : A n J 117 [m + 1] (s117 x0 x1 x2) = b117 (fun y0 y1 y2 => J 117 (A n J 117 [m]) (s117 y0 y1 y2)) x0 x1 x2 := by kernel_rfl
noncomputable abbrev I (n : Nat) := A n idJ
theorem q117 (n m) : ∀ x0 x1 x2, I n 117 [m] (s117 x0 x1 x2) = l117 n m x0 x1 x2 := by
  induction m with
  | zero => intros; rfl
  | succ m ih =>
    intros
    exact e117.trans (Eq.trans (cf3 (congrArg b117 (fu3 (ih))) _ _ _) rfl)
theorem ok {n  l0 l1 r} (h : f n l0 l1 = some r) : CallD Tryd.prog HW 15 [.ro .u64 l0, .ro .u64 l1] (sg.enc r) :=
  fun_some hwS Tryd.func15 (by kernel_rfl) (body := code) (by kernel_rfl) tys_ok (c := cfg) noCall_ok noW_ok (by kernel_rfl) (by kernel_rfl) (Nat.le_of_ble_eq_true (by kernel_rfl)) (Eq.trans ((e0 (n := n)).trans (Eq.trans (cf2 (congrArg b0 (fu3 (q117 n n))) _ _) rfl)) h)
noncomputable def call {α : Type} (g : T49) (ds : List D) (K : List D→Ω α) : Ω α := match ds with
  | [.ro .u64 l0, .ro .u64 l1] => (g l0 l1).bind fun r => K (sg.enc r)
  | _ => none
theorem call_ok {α : Type} {n : Nat} : COK Tryd.prog HW 15 (call (α := α) (f n)) := fun _ _ _ h => by
  unfold call at h; split at h
  · exact cok h fun _ => ok
  · cases h
end abacusref01_Same
/-! ### abacuslaw04_alike: function 29 -/
namespace abacuslaw04_alike
noncomputable def b0 (c15 : T49) (a0 a1 a2 : Int) (a3 a4 : Bool) (a5 a6 a7 : Int) (l8 : Λ) (a9 a10 a11 a12 : Int) (a13 a14 : Bool) (a15 a16 a17 : Int) (l18 : Λ) (a19 : Int) : Ω (Bool) := (if a0 = a10 then (if a1 = a11 then (if a2 = a12 then (if (a3 == a13) = true then (if ((a4 == a14) && ((decide (a5 = a15)) && ((decide (a6 = a16)) && ((decide (a7 = a17)) && true)))) = true then (if a9 = a19 then ((c15 l8 l18).bind fun t1 => some t1) else some false) else some false) else some false) else some false) else some false) else some false)
noncomputable def f (n : Nat) (a0 a1 a2 : Int) (a3 a4 : Bool) (a5 a6 a7 : Int) (l8 : Λ) (a9 a10 a11 a12 : Int) (a13 a14 : Bool) (a15 a16 a17 : Int) (l18 : Λ) (a19 : Int) : Ω (Bool) := b0 (abacusref01_Same.f n) a0 a1 a2 a3 a4 a5 a6 a7 l8 a9 a10 a11 a12 a13 a14 a15 a16 a17 l18 a19
noncomputable def sg : Sig (Bool) := s1 (sBool)
noncomputable def code : Code := (Tryd.f29.body).getD .skip
noncomputable def cfg (c15 : T49) : Cfg (Bool) := { T := tys, call := orCall 15 (abacusref01_Same.call c15) (noCall) }
noncomputable def cuts : List (Nat × List (Nat × Want)) := []
theorem e0 {c15 n J a0 a1 a2 a3 a4 a5 a6 a7 l8 a9 a10 a11 a12 a13 a14 a15 a16 a17 l18 a19} : afun (cfg c15) J cuts n code Tryd.f29.results.toList [false] [.agg [.int .u64 a0, .int .i64 a1, .int .i64 a2, .bool a3, .bool a4, .int .i64 a5, .int .u64 a6, .int .i64 a7, .ro .u64 l8, .int .i64 a9], .agg [.int .u64 a10, .int .i64 a11, .int .i64 a12, .bool a13, .bool a14, .int .i64 a15, .int .u64 a16, .int .i64 a17, .ro .u64 l18, .int .i64 a19]] sg.out = b0 c15 a0 a1 a2 a3 a4 a5 a6 a7 l8 a9 a10 a11 a12 a13 a14 a15 a16 a17 l18 a19 := by kernel_rfl
theorem ok {n  a0 a1 a2 a3 a4 a5 a6 a7 l8 a9 a10 a11 a12 a13 a14 a15 a16 a17 l18 a19 r} (h : f n a0 a1 a2 a3 a4 a5 a6 a7 l8 a9 a10 a11 a12 a13 a14 a15 a16 a17 l18 a19 = some r) : CallD Tryd.prog HW 29 [.agg [.int .u64 a0, .int .i64 a1, .int .i64 a2, .bool a3, .bool a4, .int .i64 a5, .int .u64 a6, .int .i64 a7, .ro .u64 l8, .int .i64 a9], .agg [.int .u64 a10, .int .i64 a11, .int .i64 a12, .bool a13, .bool a14, .int .i64 a15, .int .u64 a16, .int .i64 a17, .ro .u64 l18, .int .i64 a19]] (sg.enc r) :=
  fun_some hwS Tryd.func29 (by kernel_rfl) (body := code) (by kernel_rfl) tys_ok (c := cfg (abacusref01_Same.f n)) (orCall_ok (abacusref01_Same.call_ok (n := n)) noCall_ok) noW_ok (by kernel_rfl) (by kernel_rfl) (Nat.le_of_ble_eq_true (by kernel_rfl)) (Eq.trans ((e0 (n := n))) h)
noncomputable def call {α : Type} (g : T36) (ds : List D) (K : List D→Ω α) : Ω α := match ds with
  | [.agg [.int .u64 a0, .int .i64 a1, .int .i64 a2, .bool a3, .bool a4, .int .i64 a5, .int .u64 a6, .int .i64 a7, .ro .u64 l8, .int .i64 a9], .agg [.int .u64 a10, .int .i64 a11, .int .i64 a12, .bool a13, .bool a14, .int .i64 a15, .int .u64 a16, .int .i64 a17, .ro .u64 l18, .int .i64 a19]] => (g a0 a1 a2 a3 a4 a5 a6 a7 l8 a9 a10 a11 a12 a13 a14 a15 a16 a17 l18 a19).bind fun r => K (sg.enc r)
  | _ => none
theorem call_ok {α : Type} {n : Nat} : COK Tryd.prog HW 29 (call (α := α) (f n)) := fun _ _ _ h => by
  unfold call at h; split at h
  · exact cok h fun _ => ok
  · cases h
end abacuslaw04_alike
/-! ### abacuslaw04_IeeeExact: function 6 -/
namespace abacuslaw04_IeeeExact
noncomputable def b0 (c26 : T35) (c27 : T21) (c28 : T2) (c29 : T36) (c30 : T21) (k117 : T73) (n0 : Int) (r0_0 r0_1 r0_2 r0_3 : Λ) (r0_4 : List Bool) (r0_5 r0_6 r0_7 : Λ) (r0_8 : List Bool) (r0_9 : List (Λ)) (r0_10 : List (Λ)) (r0_11 : Λ) (r0_12 : List Bool) : Ω (Bool) := ((c26).bind fun t1 => (if (!t1) = true then some false else k117 n0 r0_0 r0_1 r0_2 r0_3 r0_4 r0_5 r0_6 r0_7 r0_8 r0_9 r0_10 r0_11 r0_12 0))
noncomputable def b117 (c26 : T35) (c27 : T21) (c28 : T2) (c29 : T36) (c30 : T21) (k117 : T73) (x0 : Int) (x1 x2 x3 x4 : Λ) (x5 : List Bool) (x6 x7 x8 : Λ) (x9 : List Bool) (x10 : List (Λ)) (x11 : List (Λ)) (x12 : Λ) (x13 : List Bool) (x14 : Int) : Ω (Bool) := (if x14 < x0 then (if 0 ≤ x14 then (if x14 < x0 then ((c27 (rd x1 x14) (rd x2 x14) (rd x3 x14) (rd x4 x14) (rdb x5 x14) (rd x6 x14) (rd x7 x14) (rd x8 x14) (rdb x9 x14) (rdr x10 x14) (rdr x11 x14) (rd x12 x14) (rdb x13 x14)).bind fun t1 => ((c28 (rdr x10 x14)).bind fun t2 => ((c28 (rdr x11 x14)).bind fun t3 => ((c30 (rd x1 x14) (rd x2 x14) (rd x3 x14) (rd x4 x14) (rdb x5 x14) (rd x6 x14) (rd x7 x14) (rd x8 x14) (rdb x9 x14) t2 t3 (rd x12 x14) (rdb x13 x14)).bind fun t4 => ((c29 t4.1 t4.2.1 t4.2.2.1 t4.2.2.2.1 t4.2.2.2.2.1 t4.2.2.2.2.2.1 t4.2.2.2.2.2.2.1 t4.2.2.2.2.2.2.2.1 t4.2.2.2.2.2.2.2.2.1 t4.2.2.2.2.2.2.2.2.2 t1.1 t1.2.1 t1.2.2.1 t1.2.2.2.1 t1.2.2.2.2.1 t1.2.2.2.2.2.1 t1.2.2.2.2.2.2.1 t1.2.2.2.2.2.2.2.1 t1.2.2.2.2.2.2.2.2.1 t1.2.2.2.2.2.2.2.2.2).bind fun t5 => (if (!t5) = true then some false else k117 x0 x1 x2 x3 x4 x5 x6 x7 x8 x9 x10 x11 x12 x13 (wrap64 (x14 + 1)))))))) else none) else none) else some true)
noncomputable def l117 (n : Nat) : Nat→Int→Λ→Λ→Λ→Λ→List Bool→Λ→Λ→Λ→List Bool→List (Λ)→List (Λ)→Λ→List Bool→Int→Ω (Bool)
  | 0, _, _, _, _, _, _, _, _, _, _, _, _, _, _, _ => none
  | m + 1, x0, x1, x2, x3, x4, x5, x6, x7, x8, x9, x10, x11, x12, x13, x14 => b117 (abacuslaw04_awake.f n) (abacuslaw04_wanted.f n) abacuslaw04_copied.f (abacuslaw04_alike.f n) (abacuslaw04_asked.f n) (l117 n m) x0 x1 x2 x3 x4 x5 x6 x7 x8 x9 x10 x11 x12 x13 x14
noncomputable def f (n : Nat) (n0 : Int) (r0_0 r0_1 r0_2 r0_3 : Λ) (r0_4 : List Bool) (r0_5 r0_6 r0_7 : Λ) (r0_8 : List Bool) (r0_9 : List (Λ)) (r0_10 : List (Λ)) (r0_11 : Λ) (r0_12 : List Bool) : Ω (Bool) := b0 (abacuslaw04_awake.f n) (abacuslaw04_wanted.f n) abacuslaw04_copied.f (abacuslaw04_alike.f n) (abacuslaw04_asked.f n) (l117 n n) n0 r0_0 r0_1 r0_2 r0_3 r0_4 r0_5 r0_6 r0_7 r0_8 r0_9 r0_10 r0_11 r0_12
noncomputable def sg : Sig (Bool) := s1 (sBool)
noncomputable def code : Code := (Tryd.f6.body).getD .skip
noncomputable def cfg (c26 : T35) (c27 : T21) (c28 : T2) (c29 : T36) (c30 : T21) : Cfg (Bool) := { T := tys, call := orCall 26 (abacuslaw04_awake.call c26) (orCall 27 (abacuslaw04_wanted.call c27) (orCall 28 (abacuslaw04_copied.call c28) (orCall 29 (abacuslaw04_alike.call c29) (orCall 30 (abacuslaw04_asked.call c30) (noCall))))) }
noncomputable def cuts : List (Nat × List (Nat × Want)) := [(117, [(0, .keep), (3, .keep)])]
noncomputable def s117 (x0 : Int) (x1 x2 x3 x4 : Λ) (x5 : List Bool) (x6 x7 x8 : Λ) (x9 : List Bool) (x10 : List (Λ)) (x11 : List (Λ)) (x12 : Λ) (x13 : List Bool) (x14 : Int) : ASt := ⟨[(0, .recs x0 [.int .i64 x1, .int .u64 x2, .int .u64 x3, .int .i64 x4, .bool x5, .int .i64 x6, .int .u64 x7, .int .i64 x8, .bool x9, .row .u64 x10, .row .u64 x11, .int .i64 x12, .bool x13]), (3, .int .i64 x14)], []⟩
noncomputable def A (c26 : T35) (c27 : T21) (c28 : T2) (c29 : T36) (c30 : T21) (n : Nat) (J : Jt (Bool)) (q : Nat) (ms : List Nat) : ASt→Ω (Bool) := acont (cfg c26 c27 c28 c29 c30) J cuts n q code 1 ms (aend (cfg c26 c27 c28 c29 c30) Tryd.f6.results.toList [false] sg.out)
theorem e0 {c26 c27 c28 c29 c30 n J n0 r0_0 r0_1 r0_2 r0_3 r0_4 r0_5 r0_6 r0_7 r0_8 r0_9 r0_10 r0_11 r0_12} : afun (cfg c26 c27 c28 c29 c30) J cuts n code Tryd.f6.results.toList [false] [.recs n0 [.int .i64 r0_0, .int .u64 r0_1, .int .u64 r0_2, .int .i64 r0_3, .bool r0_4, .int .i64 r0_5, .int .u64 r0_6, .int .i64 r0_7, .bool r0_8, .row .u64 r0_9, .row .u64 r0_10, .int .i64 r0_11, .bool r0_12]] sg.out = b0 c26 c27 c28 c29 c30 (fun y0 y1 y2 y3 y4 y5 y6 y7 y8 y9 y10 y11 y12 y13 y14 => J 117 (A c26 c27 c28 c29 c30 n J 117 [n]) (s117 y0 y1 y2 y3 y4 y5 y6 y7 y8 y9 y10 y11 y12 y13 y14)) n0 r0_0 r0_1 r0_2 r0_3 r0_4 r0_5 r0_6 r0_7 r0_8 r0_9 r0_10 r0_11 r0_12 := by kernel_rfl
theorem e117 {c26 c27 c28 c29 c30 n J m x0 x1 x2 x3 x4 x5 x6 x7 x8 x9 x10 x11 x12 x13 x14} : A c26 c27 c28 c29 c30 n J 117 [m + 1] (s117 x0 x1 x2 x3 x4 x5 x6 x7 x8 x9 x10 x11 x12 x13 x14) = b117 c26 c27 c28 c29 c30 (fun y0 y1 y2 y3 y4 y5 y6 y7 y8 y9 y10 y11 y12 y13 y14 => J 117 (A c26 c27 c28 c29 c30 n J 117 [m]) (s117 y0 y1 y2 y3 y4 y5 y6 y7 y8 y9 y10 y11 y12 y13 y14)) x0 x1 x2 x3 x4 x5 x6 x7 x8 x9 x10 x11 x12 x13 x14 := by kernel_rfl
noncomputable abbrev I (n : Nat) := A (abacuslaw04_awake.f n) (abacuslaw04_wanted.f n) abacuslaw04_copied.f (abacuslaw04_alike.f n) (abacuslaw04_asked.f n) n idJ
theorem q117 (n m) : ∀ x0 x1 x2 x3 x4 x5 x6 x7 x8 x9 x10 x11 x12 x13 x14, I n 117 [m] (s117 x0 x1 x2 x3 x4 x5 x6 x7 x8 x9 x10 x11 x12 x13 x14) = l117 n m x0 x1 x2 x3 x4 x5 x6 x7 x8 x9 x10 x11 x12 x13 x14 := by
  induction m with
  | zero => intros; rfl
  | succ m ih =>
    intros
    exact e117.trans (Eq.trans (cf15 (congrArg (b117 _ _ _ _ _) (fu15 (ih))) _ _ _ _ _ _ _ _ _ _ _ _ _ _ _) rfl)
theorem ok {n  n0 r0_0 r0_1 r0_2 r0_3 r0_4 r0_5 r0_6 r0_7 r0_8 r0_9 r0_10 r0_11 r0_12 r} (h : f n n0 r0_0 r0_1 r0_2 r0_3 r0_4 r0_5 r0_6 r0_7 r0_8 r0_9 r0_10 r0_11 r0_12 = some r) : CallD Tryd.prog HW 6 [.recs n0 [.int .i64 r0_0, .int .u64 r0_1, .int .u64 r0_2, .int .i64 r0_3, .bool r0_4, .int .i64 r0_5, .int .u64 r0_6, .int .i64 r0_7, .bool r0_8, .row .u64 r0_9, .row .u64 r0_10, .int .i64 r0_11, .bool r0_12]] (sg.enc r) :=
  fun_some hwS Tryd.func6 (by kernel_rfl) (body := code) (by kernel_rfl) tys_ok (c := cfg (abacuslaw04_awake.f n) (abacuslaw04_wanted.f n) abacuslaw04_copied.f (abacuslaw04_alike.f n) (abacuslaw04_asked.f n)) (orCall_ok (abacuslaw04_awake.call_ok (n := n)) (orCall_ok (abacuslaw04_wanted.call_ok (n := n)) (orCall_ok abacuslaw04_copied.call_ok (orCall_ok (abacuslaw04_alike.call_ok (n := n)) (orCall_ok (abacuslaw04_asked.call_ok (n := n)) noCall_ok))))) noW_ok (by kernel_rfl) (by kernel_rfl) (Nat.le_of_ble_eq_true (by kernel_rfl)) (Eq.trans ((e0 (n := n)).trans (Eq.trans (cf14 (congrArg (b0 _ _ _ _ _) (fu15 (q117 n n))) _ _ _ _ _ _ _ _ _ _ _ _ _ _) rfl)) h)
theorem walk {n : Nat} {n0 : Int} {r0_0 : Λ} {r0_1 : Λ} {r0_2 : Λ} {r0_3 : Λ} {r0_4 : List Bool} {r0_5 : Λ} {r0_6 : Λ} {r0_7 : Λ} {r0_8 : List Bool} {r0_9 : List (Λ)} {r0_10 : List (Λ)} {r0_11 : Λ} {r0_12 : List Bool} {r : Bool} (h : f n n0 r0_0 r0_1 r0_2 r0_3 r0_4 r0_5 r0_6 r0_7 r0_8 r0_9 r0_10 r0_11 r0_12 = some r) {w : World} (hw : HW w) {vals : List Value} (hv : VRs (fun _ => none) (fun g => g < w.heap.size) w (ofDs ([.recs n0 [.int .i64 r0_0, .int .u64 r0_1, .int .u64 r0_2, .int .i64 r0_3, .bool r0_4, .int .i64 r0_5, .int .u64 r0_6, .int .i64 r0_7, .bool r0_8, .row .u64 r0_9, .row .u64 r0_10, .int .i64 r0_11, .bool r0_12]] : List D) 0) vals) : Calls Tryd.prog 6 vals.toArray w fun e w' => e = .returned (packV (sg.enc r)) ∧ Below w.heap.size w w' :=
  walk_any (H := HW) rfl (fun_calls hwS Tryd.func6 (by kernel_rfl) (body := code) (by kernel_rfl) tys_ok (c := cfg (abacuslaw04_awake.f n) (abacuslaw04_wanted.f n) abacuslaw04_copied.f (abacuslaw04_alike.f n) (abacuslaw04_asked.f n)) (orCall_ok (abacuslaw04_awake.call_ok (n := n)) (orCall_ok (abacuslaw04_wanted.call_ok (n := n)) (orCall_ok abacuslaw04_copied.call_ok (orCall_ok (abacuslaw04_alike.call_ok (n := n)) (orCall_ok (abacuslaw04_asked.call_ok (n := n)) noCall_ok))))) noW_ok (by kernel_rfl) (by kernel_rfl) (Nat.le_of_ble_eq_true (by kernel_rfl)) (Eq.trans ((e0 (n := n)).trans (Eq.trans (cf14 (congrArg (b0 _ _ _ _ _) (fu15 (q117 n n))) _ _ _ _ _ _ _ _ _ _ _ _ _ _) rfl)) h)) hw hv
noncomputable def call {α : Type} (g : Int→Λ→Λ→Λ→Λ→List Bool→Λ→Λ→Λ→List Bool→List (Λ)→List (Λ)→Λ→List Bool→Ω (Bool)) (ds : List D) (K : List D→Ω α) : Ω α := match ds with
  | [.recs n0 [.int .i64 r0_0, .int .u64 r0_1, .int .u64 r0_2, .int .i64 r0_3, .bool r0_4, .int .i64 r0_5, .int .u64 r0_6, .int .i64 r0_7, .bool r0_8, .row .u64 r0_9, .row .u64 r0_10, .int .i64 r0_11, .bool r0_12]] => (g n0 r0_0 r0_1 r0_2 r0_3 r0_4 r0_5 r0_6 r0_7 r0_8 r0_9 r0_10 r0_11 r0_12).bind fun r => K (sg.enc r)
  | _ => none
theorem call_ok {α : Type} {n : Nat} : COK Tryd.prog HW 6 (call (α := α) (f n)) := fun _ _ _ h => by
  unfold call at h; split at h
  · exact cok h fun _ => ok
  · cases h
end abacuslaw04_IeeeExact
end Go.Proofs.YtlnfgcnagfdliaaDoor.F
