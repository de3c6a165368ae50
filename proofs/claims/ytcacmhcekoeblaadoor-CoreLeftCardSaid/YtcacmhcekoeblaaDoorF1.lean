/- What the functions compute, and that calls of them answer so (printed by gen.py). Conditions: HW, a table as it was laid. -/
import Derived.Test.YtcacmhcekoeblaaDoorF0
namespace Go.Proofs.YtcacmhcekoeblaaDoor.F
open Go.RowKit Go.Proofs.YtcacmhcekoeblaaDoorA
set_option linter.unusedVariables false
set_option maxRecDepth 100000
/-! ### quot_takeOff: function 79 -/
namespace quot_takeOff
noncomputable def b0 (c39 : T5) (c60 c76 : T2) (k117 : T65) (l0 l1 : Λ) (a2 : Int) : Ω (Λ × Bool) := k117 l1 a2 0 0 0 (ln l1) l0
noncomputable def b15 (c39 : T5) (c60 c76 : T2) (x0 : Λ) (x1 x2 : Int) (x3 : Λ) : Ω (Λ × Bool) := (if 0 ≤ (ln x0) then (if (ln x0) < (ln x3) then ((c76 (rd x3 (ln x0)) x1 x2).bind fun t1 => (if 0 ≤ (ln x0) then (if (ln x0) < (ln x3) then some (x3.set ((ln x0) : Int).toNat t1.1, decide (¬ t1.2 = 0)) else none) else none)) else none) else none)
noncomputable def b117 (c39 : T5) (c60 c76 : T2) (k15 : Λ→Int→Int→Λ→Ω (Λ × Bool)) (k117 : T65) (x0 : Λ) (x1 x2 x3 x4 x5 : Int) (x6 : Λ) : Ω (Λ × Bool) := (if x4 < x5 then (if 0 ≤ x4 then (if x4 < (ln x0) then ((c39 x1 (rd x0 x4)).bind fun t1 => ((c60 t1.2 x2 0).bind fun t2 => (if 0 ≤ x4 then (if x4 < (ln x6) then ((c76 (rd x6 x4) t2.1 x3).bind fun t3 => (if 0 ≤ x4 then (if x4 < (ln x6) then k117 x0 x1 (IntKind.u64.wrap (t1.1 + t2.2)) t3.2 (wrap64 (x4 + 1)) x5 (x6.set (x4 : Int).toNat t3.1) else none) else none)) else none) else none))) else none) else none) else k15 x0 x2 x3 x6)
noncomputable def l15 (n : Nat) (x0 : Λ) (x1 x2 : Int) (x3 : Λ) : Ω (Λ × Bool) := b15 bits_Mul64.f bits_Add64.f bits_Sub64.f x0 x1 x2 x3
noncomputable def l117 (n : Nat) : Nat→Λ→Int→Int→Int→Int→Int→Λ→Ω (Λ × Bool)
  | 0, _, _, _, _, _, _, _ => none
  | m + 1, x0, x1, x2, x3, x4, x5, x6 => b117 bits_Mul64.f bits_Add64.f bits_Sub64.f (l15 n) (l117 n m) x0 x1 x2 x3 x4 x5 x6
noncomputable def f (n : Nat) (l0 l1 : Λ) (a2 : Int) : Ω (Λ × Bool) := b0 bits_Mul64.f bits_Add64.f bits_Sub64.f (l117 n n) l0 l1 a2
noncomputable def sg : Sig (Bool) := s1 (sBool)
noncomputable def code : Code := (Tryd.f79.body).getD .skip
noncomputable def cfg (c39 : T5) (c60 c76 : T2) : Cfg (Λ × Bool) := { T := tys, call := orCall 39 (bits_Mul64.call c39) (orCall 60 (bits_Add64.call c60) (orCall 76 (bits_Sub64.call c76) (noCall))), lay := lays }
noncomputable def cuts : List (Nat × List (Nat × Want)) := [(15, [(0, .keep), (1, .keep), (7, .keep), (8, .keep)]), (117, [(0, .keep), (1, .keep), (2, .keep), (7, .keep), (8, .keep), (14, .keep), (15, .keep), (16, .keep)])]
noncomputable def s15 (x0 : Λ) (x1 x2 : Int) (x3 : Λ) : ASt := ⟨[(0, .own 0), (1, .ro .u64 x0), (7, .int .u64 x1), (8, .int .u64 x2)], [.bor .u64 x3]⟩
noncomputable def s117 (x0 : Λ) (x1 x2 x3 x4 x5 : Int) (x6 : Λ) : ASt := ⟨[(0, .own 0), (1, .ro .u64 x0), (2, .int .u64 x1), (7, .int .u64 x2), (8, .int .u64 x3), (14, .ro .u64 x0), (15, .int .i64 x5), (16, .int .i64 x4)], [.bor .u64 x6]⟩
noncomputable def A (c39 : T5) (c60 c76 : T2) (n : Nat) (J : Jt (Λ × Bool)) (q : Nat) (ms : List Nat) : ASt→Ω (Λ × Bool) := acont (cfg c39 c60 c76) J cuts n q code 1 ms (aendw (cfg c39 c60 c76) Tryd.f79.results.toList (sgw sg))
theorem e0 (c39 : T5) (c60 c76 : T2) (n : Nat) (J : Jt (Λ × Bool)) (l0 l1 : Λ) (a2 : Int) : afunw (cfg c39 c60 c76) J cuts n code Tryd.f79.results.toList l0 [.ro .u64 l1, .int .u64 a2] (sgw sg) = b0 c39 c60 c76 (fun y0 y1 y2 y3 y4 y5 y6 => J 117 (A c39 c60 c76 n J 117 [n]) (s117 y0 y1 y2 y3 y4 y5 y6)) l0 l1 a2 := by kernel_rfl
theorem e15 (c39 : T5) (c60 c76 : T2) (n : Nat) (J : Jt (Λ × Bool)) (x0 : Λ) (x1 x2 : Int) (x3 : Λ) : A c39 c60 c76 n J 15 [] (s15 x0 x1 x2 x3) = b15 c39 c60 c76 x0 x1 x2 x3 := by kernel_rfl
theorem e117 (c39 : T5) (c60 c76 : T2) (n : Nat) (J : Jt (Λ × Bool)) (m : Nat) (x0 : Λ) (x1 x2 x3 x4 x5 : Int) (x6 : Λ) : A c39 c60 c76 n J 117 [m + 1] (s117 x0 x1 x2 x3 x4 x5 x6) = b117 c39 c60 c76 (fun y0 y1 y2 y3 => J 15 (A c39 c60 c76 n J 15 []) (s15 y0 y1 y2 y3)) (fun y0 y1 y2 y3 y4 y5 y6 => J 117 (A c39 c60 c76 n J 117 [m]) (s117 y0 y1 y2 y3 y4 y5 y6)) x0 x1 x2 x3 x4 x5 x6 := by kernel_rfl
theorem q15 (n : Nat) (x0 : Λ) (x1 x2 : Int) (x3 : Λ) : A bits_Mul64.f bits_Add64.f bits_Sub64.f n idJ 15 [] (s15 x0 x1 x2 x3) = l15 n x0 x1 x2 x3 := (e15 bits_Mul64.f bits_Add64.f bits_Sub64.f n idJ x0 x1 x2 x3).trans (rfl)
theorem q117 (n m : Nat) : ∀ (x0 : Λ) (x1 x2 x3 x4 x5 : Int) (x6 : Λ), A bits_Mul64.f bits_Add64.f bits_Sub64.f n idJ 117 [m] (s117 x0 x1 x2 x3 x4 x5 x6) = l117 n m x0 x1 x2 x3 x4 x5 x6 := by
  induction m with
  | zero => intros; rfl
  | succ m ih =>
    intro x0 x1 x2 x3 x4 x5 x6
    refine (e117 bits_Mul64.f bits_Add64.f bits_Sub64.f n idJ m x0 x1 x2 x3 x4 x5 x6).trans ?_
    exact congrFun (congrFun (congrFun (congrFun (congrFun (congrFun (congrFun (congr (congrArg (b117 bits_Mul64.f bits_Add64.f bits_Sub64.f) (funext fun y0 => (funext fun y1 => (funext fun y2 => (funext fun y3 => q15 n y0 y1 y2 y3))))) (funext fun y0 => (funext fun y1 => (funext fun y2 => (funext fun y3 => (funext fun y4 => (funext fun y5 => (funext fun y6 => ih y0 y1 y2 y3 y4 y5 y6)))))))) x0) x1) x2) x3) x4) x5) x6
theorem eq (n : Nat) (l0 l1 : Λ) (a2 : Int) : afunw (cfg bits_Mul64.f bits_Add64.f bits_Sub64.f) idJ cuts n code Tryd.f79.results.toList l0 [.ro .u64 l1, .int .u64 a2] (sgw sg) = f n l0 l1 a2 := (e0 bits_Mul64.f bits_Add64.f bits_Sub64.f n idJ l0 l1 a2).trans (congrFun (congrFun (congrFun (congrArg (b0 bits_Mul64.f bits_Add64.f bits_Sub64.f) (funext fun y0 => (funext fun y1 => (funext fun y2 => (funext fun y3 => (funext fun y4 => (funext fun y5 => (funext fun y6 => q117 n n y0 y1 y2 y3 y4 y5 y6)))))))) l0) l1) a2)
theorem ok {n : Nat} {l0 : Λ} {l1 : Λ} {a2 : Int} {r : Λ × Bool} (h : f n l0 l1 a2 = some r) : CallW Tryd.prog HW 79 l0 [.ro .u64 l1, .int .u64 a2] r.1 (sg.enc r.2) :=
  funw_some Tryd.func79 (by kernel_rfl) (body := code) (by kernel_rfl) tys_ok (c := cfg bits_Mul64.f bits_Add64.f bits_Sub64.f) ⟨(orCall_ok bits_Mul64.call_ok (orCall_ok bits_Add64.call_ok (orCall_ok bits_Sub64.call_ok noCall_ok))), noQ_ok'⟩ ⟨noW_ok, noP_ok'⟩ (by kernel_rfl) (by kernel_rfl) (Nat.le_of_ble_eq_true (by kernel_rfl)) ((eq n l0 l1 a2).trans h)
noncomputable def call {α : Type} (g : T27) (l0 : Λ) (ds : List D) (K : Λ→List D→Ω α) : Ω α := match ds with
  | [.ro .u64 l1, .int .u64 a2] => (g l0 l1 a2).bind fun r => K r.1 (sg.enc r.2)
  | _ => none
theorem call_ok {α : Type} {n : Nat} (l : Λ) (ds : List D) (K : Λ→List D→Ω α) (r : α) (h : call (f n) l ds K = some r) : ∃ l' rs, K l' rs = some r ∧ CallW Tryd.prog HW 79 l ds l' rs := by
  unfold call at h
  split at h
  · obtain ⟨x, hx, hk⟩ := Option.bind_eq_some_iff.1 h
    exact ⟨_, _, hk, ok (n := n) hx⟩
  · cases h
end quot_takeOff
/-! ### quot_putBack: function 80 -/
namespace quot_putBack
noncomputable def b0 (c60 : T2) (k117 : T66) (l0 l1 : Λ) : Ω (Λ × Bool) := k117 l1 0 0 (ln l1) l0
noncomputable def b15 (c60 : T2) (x0 : Λ) (x1 : Int) (x2 : Λ) : Ω (Λ × Bool) := (if 0 ≤ (ln x0) then (if (ln x0) < (ln x2) then ((c60 (rd x2 (ln x0)) 0 x1).bind fun t1 => (if 0 ≤ (ln x0) then (if (ln x0) < (ln x2) then some (x2.set ((ln x0) : Int).toNat t1.1, decide (¬ t1.2 = 0)) else none) else none)) else none) else none)
noncomputable def b117 (c60 : T2) (k15 : Λ→Int→Λ→Ω (Λ × Bool)) (k117 : T66) (x0 : Λ) (x1 x2 x3 : Int) (x4 : Λ) : Ω (Λ × Bool) := (if x2 < x3 then (if 0 ≤ x2 then (if x2 < (ln x0) then (if 0 ≤ x2 then (if x2 < (ln x4) then ((c60 (rd x4 x2) (rd x0 x2) x1).bind fun t1 => (if 0 ≤ x2 then (if x2 < (ln x4) then k117 x0 t1.2 (wrap64 (x2 + 1)) x3 (x4.set (x2 : Int).toNat t1.1) else none) else none)) else none) else none) else none) else none) else k15 x0 x1 x4)
noncomputable def l15 (n : Nat) (x0 : Λ) (x1 : Int) (x2 : Λ) : Ω (Λ × Bool) := b15 bits_Add64.f x0 x1 x2
noncomputable def l117 (n : Nat) : Nat→Λ→Int→Int→Int→Λ→Ω (Λ × Bool)
  | 0, _, _, _, _, _ => none
  | m + 1, x0, x1, x2, x3, x4 => b117 bits_Add64.f (l15 n) (l117 n m) x0 x1 x2 x3 x4
noncomputable def f (n : Nat) (l0 l1 : Λ) : Ω (Λ × Bool) := b0 bits_Add64.f (l117 n n) l0 l1
noncomputable def sg : Sig (Bool) := s1 (sBool)
noncomputable def code : Code := (Tryd.f80.body).getD .skip
noncomputable def cfg (c60 : T2) : Cfg (Λ × Bool) := { T := tys, call := orCall 60 (bits_Add64.call c60) (noCall), lay := lays }
noncomputable def cuts : List (Nat × List (Nat × Want)) := [(15, [(0, .keep), (1, .keep), (5, .keep)]), (117, [(0, .keep), (1, .keep), (5, .keep), (8, .keep), (9, .keep), (10, .keep)])]
noncomputable def s15 (x0 : Λ) (x1 : Int) (x2 : Λ) : ASt := ⟨[(0, .own 0), (1, .ro .u64 x0), (5, .int .u64 x1)], [.bor .u64 x2]⟩
noncomputable def s117 (x0 : Λ) (x1 x2 x3 : Int) (x4 : Λ) : ASt := ⟨[(0, .own 0), (1, .ro .u64 x0), (5, .int .u64 x1), (8, .ro .u64 x0), (9, .int .i64 x3), (10, .int .i64 x2)], [.bor .u64 x4]⟩
noncomputable def A (c60 : T2) (n : Nat) (J : Jt (Λ × Bool)) (q : Nat) (ms : List Nat) : ASt→Ω (Λ × Bool) := acont (cfg c60) J cuts n q code 1 ms (aendw (cfg c60) Tryd.f80.results.toList (sgw sg))
theorem e0 (c60 : T2) (n : Nat) (J : Jt (Λ × Bool)) (l0 l1 : Λ) : afunw (cfg c60) J cuts n code Tryd.f80.results.toList l0 [.ro .u64 l1] (sgw sg) = b0 c60 (fun y0 y1 y2 y3 y4 => J 117 (A c60 n J 117 [n]) (s117 y0 y1 y2 y3 y4)) l0 l1 := by kernel_rfl
theorem e15 (c60 : T2) (n : Nat) (J : Jt (Λ × Bool)) (x0 : Λ) (x1 : Int) (x2 : Λ) : A c60 n J 15 [] (s15 x0 x1 x2) = b15 c60 x0 x1 x2 := by kernel_rfl
theorem e117 (c60 : T2) (n : Nat) (J : Jt (Λ × Bool)) (m : Nat) (x0 : Λ) (x1 x2 x3 : Int) (x4 : Λ) : A c60 n J 117 [m + 1] (s117 x0 x1 x2 x3 x4) = b117 c60 (fun y0 y1 y2 => J 15 (A c60 n J 15 []) (s15 y0 y1 y2)) (fun y0 y1 y2 y3 y4 => J 117 (A c60 n J 117 [m]) (s117 y0 y1 y2 y3 y4)) x0 x1 x2 x3 x4 := by kernel_rfl
theorem q15 (n : Nat) (x0 : Λ) (x1 : Int) (x2 : Λ) : A bits_Add64.f n idJ 15 [] (s15 x0 x1 x2) = l15 n x0 x1 x2 := (e15 bits_Add64.f n idJ x0 x1 x2).trans (rfl)
theorem q117 (n m : Nat) : ∀ (x0 : Λ) (x1 x2 x3 : Int) (x4 : Λ), A bits_Add64.f n idJ 117 [m] (s117 x0 x1 x2 x3 x4) = l117 n m x0 x1 x2 x3 x4 := by
  induction m with
  | zero => intros; rfl
  | succ m ih =>
    intro x0 x1 x2 x3 x4
    refine (e117 bits_Add64.f n idJ m x0 x1 x2 x3 x4).trans ?_
    exact congrFun (congrFun (congrFun (congrFun (congrFun (congr (congrArg (b117 bits_Add64.f) (funext fun y0 => (funext fun y1 => (funext fun y2 => q15 n y0 y1 y2)))) (funext fun y0 => (funext fun y1 => (funext fun y2 => (funext fun y3 => (funext fun y4 => ih y0 y1 y2 y3 y4)))))) x0) x1) x2) x3) x4
theorem eq (n : Nat) (l0 l1 : Λ) : afunw (cfg bits_Add64.f) idJ cuts n code Tryd.f80.results.toList l0 [.ro .u64 l1] (sgw sg) = f n l0 l1 := (e0 bits_Add64.f n idJ l0 l1).trans (congrFun (congrFun (congrArg (b0 bits_Add64.f) (funext fun y0 => (funext fun y1 => (funext fun y2 => (funext fun y3 => (funext fun y4 => q117 n n y0 y1 y2 y3 y4)))))) l0) l1)
theorem ok {n : Nat} {l0 : Λ} {l1 : Λ} {r : Λ × Bool} (h : f n l0 l1 = some r) : CallW Tryd.prog HW 80 l0 [.ro .u64 l1] r.1 (sg.enc r.2) :=
  funw_some Tryd.func80 (by kernel_rfl) (body := code) (by kernel_rfl) tys_ok (c := cfg bits_Add64.f) ⟨(orCall_ok bits_Add64.call_ok noCall_ok), noQ_ok'⟩ ⟨noW_ok, noP_ok'⟩ (by kernel_rfl) (by kernel_rfl) (Nat.le_of_ble_eq_true (by kernel_rfl)) ((eq n l0 l1).trans h)
noncomputable def call {α : Type} (g : T28) (l0 : Λ) (ds : List D) (K : Λ→List D→Ω α) : Ω α := match ds with
  | [.ro .u64 l1] => (g l0 l1).bind fun r => K r.1 (sg.enc r.2)
  | _ => none
theorem call_ok {α : Type} {n : Nat} (l : Λ) (ds : List D) (K : Λ→List D→Ω α) (r : α) (h : call (f n) l ds K = some r) : ∃ l' rs, K l' rs = some r ∧ CallW Tryd.prog HW 80 l ds l' rs := by
  unfold call at h
  split at h
  · obtain ⟨x, hx, hk⟩ := Option.bind_eq_some_iff.1 h
    exact ⟨_, _, hk, ok (n := n) hx⟩
  · cases h
end quot_putBack
/-! ### quot_long: function 73 -/
namespace quot_long
noncomputable def b0 (c55 : T16) (c71 : T19) (c75 : T0) (c77 : T26) (c78 : T7) (c79 : T27) (c80 : T28) (k7157 : T52) (l0 l1 : Λ) : Ω (Λ × Λ) := (if 0 ≤ (wrap64 ((ln l1) - 1)) then (if (wrap64 ((ln l1) - 1)) < (ln l1) then ((c75 (rd l1 (wrap64 ((ln l1) - 1)))).bind fun t1 => ((c77 l1 t1 (ln l1)).bind fun t2 => ((c77 l0 t1 (wrap64 ((ln l0) + 1))).bind fun t3 => (if 0 ≤ (wrap64 ((wrap64 ((ln l0) - (ln l1))) + 1)) then (if (wrap64 ((wrap64 ((ln l0) - (ln l1))) + 1)).toNat ≤ 35184372088832 then k7157 (ln l1) t1 (wrap64 ((ln (List.replicate (wrap64 ((wrap64 ((ln l0) - (ln l1))) + 1)).toNat (0 : Int))) - 1)) t2 t3 (List.replicate (wrap64 ((wrap64 ((ln l0) - (ln l1))) + 1)).toNat (0 : Int)) else none) else none)))) else none) else none)
noncomputable def b895 (c55 : T16) (c71 : T19) (c75 : T0) (c77 : T26) (c78 : T7) (c79 : T27) (c80 : T28) (x0 x1 : Int) (x2 x3 : Λ) : Ω (Λ × Λ) := (if 0 ≤ x0 then (if x0 ≤ (ln x2) then ((c55 ((x2.take (x0 : Int).toNat).drop 0) x1).bind fun t1 => ((c71 x3).bind fun t2 => some (t2, t1.1))) else none) else none)
noncomputable def b7157 (c55 : T16) (c71 : T19) (c75 : T0) (c77 : T26) (c78 : T7) (c79 : T27) (c80 : T28) (k895 : Int→Int→Λ→Λ→Ω (Λ × Λ)) (k1832093 : T67) (x0 x1 x2 : Int) (x3 x4 x5 : Λ) : Ω (Λ × Λ) := (if x2 ≥ 0 then (if 0 ≤ (wrap64 ((wrap64 (x2 + x0)) + 1)) then (if (wrap64 ((wrap64 (x2 + x0)) + 1)) ≤ (ln x4) then (if 0 ≤ x2 then (if x2 ≤ (wrap64 ((wrap64 (x2 + x0)) + 1)) then ((c78 ((x4.take (wrap64 ((wrap64 (x2 + x0)) + 1) : Int).toNat).drop (x2 : Int).toNat) x3).bind fun t1 => (if x2 < (wrap64 ((wrap64 (x2 + x0)) + 1)) then ((c79 ((x4.take (wrap64 ((wrap64 (x2 + x0)) + 1) : Int).toNat).drop (x2 : Int).toNat) x3 t1).bind fun t2 => k1832093 x0 x1 x2 (wrap64 ((wrap64 (x2 + x0)) + 1)) t1 t2.2 x3 (x4.take (x2 : Int).toNat ++ t2.1 ++ x4.drop (wrap64 ((wrap64 (x2 + x0)) + 1) : Int).toNat) x5) else none)) else none) else none) else none) else none) else k895 x0 x1 x4 x5)
noncomputable def b1832093 (c55 : T16) (c71 : T19) (c75 : T0) (c77 : T26) (c78 : T7) (c79 : T27) (c80 : T28) (k7157 : T52) (k1832093 : T67) (x0 x1 x2 x3 x4 : Int) (x5 : Bool) (x6 x7 x8 : Λ) : Ω (Λ × Λ) := (if (!x5) = true then (if 0 ≤ x2 then (if x2 < (ln x8) then k7157 x0 x1 (wrap64 (x2 - 1)) x6 x7 (x8.set (x2 : Int).toNat x4) else none) else none) else (if x2 < x3 then ((c80 ((x7.take (x3 : Int).toNat).drop (x2 : Int).toNat) x6).bind fun t1 => k1832093 x0 x1 x2 x3 (IntKind.u64.wrap (x4 - 1)) (!t1.2) x6 (x7.take (x2 : Int).toNat ++ t1.1 ++ x7.drop (x3 : Int).toNat) x8) else none))
noncomputable def l895 (n : Nat) (x0 x1 : Int) (x2 x3 : Λ) : Ω (Λ × Λ) := b895 (nat_Shr.f n) (nat_Trim.f n) bits_LeadingZeros64.f (quot_raised.f n) (quot_guess.f n) (quot_takeOff.f n) (quot_putBack.f n) x0 x1 x2 x3
noncomputable def l1832093 (n : Nat) (k7157 : T52) : Nat→Int→Int→Int→Int→Int→Bool→Λ→Λ→Λ→Ω (Λ × Λ)
  | 0, _, _, _, _, _, _, _, _, _ => none
  | m + 1, x0, x1, x2, x3, x4, x5, x6, x7, x8 => b1832093 (nat_Shr.f n) (nat_Trim.f n) bits_LeadingZeros64.f (quot_raised.f n) (quot_guess.f n) (quot_takeOff.f n) (quot_putBack.f n) k7157 (l1832093 n k7157 m) x0 x1 x2 x3 x4 x5 x6 x7 x8
noncomputable def l7157 (n : Nat) : Nat→Int→Int→Int→Λ→Λ→Λ→Ω (Λ × Λ)
  | 0, _, _, _, _, _, _ => none
  | m + 1, x0, x1, x2, x3, x4, x5 => b7157 (nat_Shr.f n) (nat_Trim.f n) bits_LeadingZeros64.f (quot_raised.f n) (quot_guess.f n) (quot_takeOff.f n) (quot_putBack.f n) (l895 n) (l1832093 n (l7157 n m) n) x0 x1 x2 x3 x4 x5
noncomputable def f (n : Nat) (l0 l1 : Λ) : Ω (Λ × Λ) := b0 (nat_Shr.f n) (nat_Trim.f n) bits_LeadingZeros64.f (quot_raised.f n) (quot_guess.f n) (quot_takeOff.f n) (quot_putBack.f n) (l7157 n n) l0 l1
noncomputable def sg : Sig (Λ × Λ) := s2 (sRow .u64) (s1 (sRow .u64))
noncomputable def code : Code := (Tryd.f73.body).getD .skip
noncomputable def cfg (c55 : T16) (c71 : T19) (c75 : T0) (c77 : T26) (c78 : T7) (c79 : T27) (c80 : T28) : Cfg (Λ × Λ) := { T := tys, call := orCall 55 (nat_Shr.call c55) (orCall 71 (nat_Trim.call c71) (orCall 75 (bits_LeadingZeros64.call c75) (orCall 77 (quot_raised.call c77) (orCall 78 (quot_guess.call c78) (noCall))))), win := true, wr := [79, 80], callw := orW 79 (quot_takeOff.call c79) (orW 80 (quot_putBack.call c80) (noW)), lay := lays }
noncomputable def cuts : List (Nat × List (Nat × Want)) := [(895, [(6, .keep), (7, .keep), (9, .keep), (10, .keep)]), (7157, [(6, .keep), (7, .keep), (8, .keep), (9, .keep), (10, .keep), (11, .keep)]), (1832093, [(6, .keep), (7, .keep), (8, .keep), (9, .keep), (10, .keep), (11, .keep), (12, .keep), (13, .keep), (14, .keep)])]
noncomputable def s895 (x0 x1 : Int) (x2 x3 : Λ) : ASt := ⟨[(6, .int .i64 x0), (7, .int .i64 x1), (9, .own 0), (10, .own 1)], [.ints 22 .u64 x2, .ints 22 .u64 x3]⟩
noncomputable def s7157 (x0 x1 x2 : Int) (x3 x4 x5 : Λ) : ASt := ⟨[(6, .int .i64 x0), (7, .int .i64 x1), (8, .own 0), (9, .own 1), (10, .own 2), (11, .int .i64 x2)], [.ints 22 .u64 x3, .ints 22 .u64 x4, .ints 22 .u64 x5]⟩
noncomputable def s1832093 (x0 x1 x2 x3 x4 : Int) (x5 : Bool) (x6 x7 x8 : Λ) : ASt := ⟨[(6, .int .i64 x0), (7, .int .i64 x1), (8, .own 0), (9, .own 1), (10, .own 2), (11, .int .i64 x2), (12, .win 1 x2 x3), (13, .int .u64 x4), (14, .bool x5)], [.ints 22 .u64 x6, .ints 22 .u64 x7, .ints 22 .u64 x8]⟩
noncomputable def A (c55 : T16) (c71 : T19) (c75 : T0) (c77 : T26) (c78 : T7) (c79 : T27) (c80 : T28) (n : Nat) (J : Jt (Λ × Λ)) (q : Nat) (ms : List Nat) : ASt→Ω (Λ × Λ) := acont (cfg c55 c71 c75 c77 c78 c79 c80) J cuts n q code 1 ms (aend (cfg c55 c71 c75 c77 c78 c79 c80) Tryd.f73.results.toList [false, false] sg.out)
theorem e0 {c55 c71 c75 c77 c78 c79 c80 n J l0 l1} : afun (cfg c55 c71 c75 c77 c78 c79 c80) J cuts n code Tryd.f73.results.toList [false, false] [.ro .u64 l0, .ro .u64 l1] sg.out = b0 c55 c71 c75 c77 c78 c79 c80 (fun y0 y1 y2 y3 y4 y5 => J 7157 (A c55 c71 c75 c77 c78 c79 c80 n J 7157 [n]) (s7157 y0 y1 y2 y3 y4 y5)) l0 l1 := by kernel_rfl
theorem e895 {c55 c71 c75 c77 c78 c79 c80 n J x0 x1 x2 x3} : A c55 c71 c75 c77 c78 c79 c80 n J 895 [] (s895 x0 x1 x2 x3) = b895 c55 c71 c75 c77 c78 c79 c80 x0 x1 x2 x3 := by kernel_rfl
theorem e7157 {c55 c71 c75 c77 c78 c79 c80 n J m x0 x1 x2 x3 x4 x5} : A c55 c71 c75 c77 c78 c79 c80 n J 7157 [m + 1] (s7157 x0 x1 x2 x3 x4 x5) = b7157 c55 c71 c75 c77 c78 c79 c80 (fun y0 y1 y2 y3 => J 895 (A c55 c71 c75 c77 c78 c79 c80 n J 895 []) (s895 y0 y1 y2 y3)) (fun y0 y1 y2 y3 y4 y5 y6 y7 y8 => J 1832093 (A c55 c71 c75 c77 c78 c79 c80 n J 1832093 [m, n]) (s1832093 y0 y1 y2 y3 y4 y5 y6 y7 y8)) x0 x1 x2 x3 x4 x5 := by kernel_rfl
theorem e1832093 {c55 c71 c75 c77 c78 c79 c80 n J m7157 m x0 x1 x2 x3 x4 x5 x6 x7 x8} : A c55 c71 c75 c77 c78 c79 c80 n J 1832093 [m7157, m + 1] (s1832093 x0 x1 x2 x3 x4 x5 x6 x7 x8) = b1832093 c55 c71 c75 c77 c78 c79 c80 (fun y0 y1 y2 y3 y4 y5 => J 7157 (A c55 c71 c75 c77 c78 c79 c80 n J 7157 [m7157]) (s7157 y0 y1 y2 y3 y4 y5)) (fun y0 y1 y2 y3 y4 y5 y6 y7 y8 => J 1832093 (A c55 c71 c75 c77 c78 c79 c80 n J 1832093 [m7157, m]) (s1832093 y0 y1 y2 y3 y4 y5 y6 y7 y8)) x0 x1 x2 x3 x4 x5 x6 x7 x8 := by kernel_rfl
noncomputable abbrev I (n : Nat) := A (nat_Shr.f n) (nat_Trim.f n) bits_LeadingZeros64.f (quot_raised.f n) (quot_guess.f n) (quot_takeOff.f n) (quot_putBack.f n) n idJ
theorem q895 (n x0 x1 x2 x3) : I n 895 [] (s895 x0 x1 x2 x3) = l895 n x0 x1 x2 x3 := e895
theorem q1832093 (n m7157 m) : ∀ x0 x1 x2 x3 x4 x5 x6 x7 x8, I n 1832093 [m7157, m] (s1832093 x0 x1 x2 x3 x4 x5 x6 x7 x8) = l1832093 n (fun y0 y1 y2 y3 y4 y5 => I n 7157 [m7157] (s7157 y0 y1 y2 y3 y4 y5)) m x0 x1 x2 x3 x4 x5 x6 x7 x8 := by
  induction m with
  | zero => intros; rfl
  | succ m ih =>
    intros
    exact e1832093.trans (Eq.trans (cf9 (congr (congrArg (b1832093 _ _ _ _ _ _ _) rfl) (fu9 (ih))) _ _ _ _ _ _ _ _ _) rfl)
theorem q7157 (n m) : ∀ x0 x1 x2 x3 x4 x5, I n 7157 [m] (s7157 x0 x1 x2 x3 x4 x5) = l7157 n m x0 x1 x2 x3 x4 x5 := by
  induction m with
  | zero => intros; rfl
  | succ m ih =>
    intros
    exact e7157.trans (Eq.trans (cf6 (congr (congrArg (b7157 _ _ _ _ _ _ _) (fu4 (q895 n))) ((fu9 (q1832093 n m n)).trans (by rw [show (fun y0 y1 y2 y3 y4 y5 => I n 7157 [m] (s7157 y0 y1 y2 y3 y4 y5)) = _ from (fu6 (ih))]))) _ _ _ _ _ _) rfl)
theorem ok {n  l0 l1 r} (h : f n l0 l1 = some r) : CallD Tryd.prog HW 73 [.ro .u64 l0, .ro .u64 l1] (sg.enc r) :=
  fun_some hwS Tryd.func73 (by kernel_rfl) (body := code) (by kernel_rfl) tys_ok (c := cfg (nat_Shr.f n) (nat_Trim.f n) bits_LeadingZeros64.f (quot_raised.f n) (quot_guess.f n) (quot_takeOff.f n) (quot_putBack.f n)) ⟨(orCall_ok (nat_Shr.call_ok (n := n)) (orCall_ok (nat_Trim.call_ok (n := n)) (orCall_ok bits_LeadingZeros64.call_ok (orCall_ok (quot_raised.call_ok (n := n)) (orCall_ok (quot_guess.call_ok (n := n)) noCall_ok))))), noQ_ok'⟩ ⟨(orW_ok (quot_takeOff.call_ok (n := n)) (orW_ok (quot_putBack.call_ok (n := n)) noW_ok)), noP_ok'⟩ (by kernel_rfl) (by kernel_rfl) (Nat.le_of_ble_eq_true (by kernel_rfl)) (Eq.trans ((e0 (n := n)).trans (Eq.trans (cf2 (congrArg (b0 _ _ _ _ _ _ _) (fu6 (q7157 n n))) _ _) rfl)) h)
noncomputable def call {α : Type} (g : T53) (ds : List D) (K : List D→Ω α) : Ω α := match ds with
  | [.ro .u64 l0, .ro .u64 l1] => (g l0 l1).bind fun r => K (sg.enc r)
  | _ => none
theorem call_ok {α : Type} {n : Nat} : COK Tryd.prog HW 73 (call (α := α) (f n)) := fun _ _ _ h => by
  unfold call at h; split at h
  · exact cok h fun _ => ok
  · cases h
end quot_long
/-! ### quot_DivMod: function 53 -/
namespace quot_DivMod
noncomputable def b0 (c33 : T24) (c52 : T50) (c56 : T7) (c72 : T51) (c73 : T53) (l0 l1 : Λ) : Ω (Λ × Λ × Int) := ((c52 l0 4096).bind fun t1 => ((c52 l1 4096).bind fun t2 => (if (!t1.2) = true then some (([] : Λ), ([] : Λ), 2) else (if (!t2.2) = true then some (([] : Λ), ([] : Λ), 2) else (if (ln t2.1) = 0 then some (([] : Λ), ([] : Λ), 4) else ((c56 t1.1 t2.1).bind fun t3 => (if t3 < 0 then some (([] : Λ), t1.1, 0) else (if (ln t2.1) = 1 then (if 0 < (ln t2.1) then ((c72 t1.1 (rd t2.1 0)).bind fun t4 => ((c33 t4.2.1).bind fun t5 => some (t4.1, t5, t4.2.2))) else none) else ((c73 t1.1 t2.1).bind fun t6 => some (t6.1, t6.2, 0))))))))))
noncomputable def f (n : Nat) (l0 l1 : Λ) : Ω (Λ × Λ × Int) := b0 nat_FromUint.f (quot_small.f n) (nat_Cmp.f n) (nat_DivSmall.f n) (quot_long.f n) l0 l1
noncomputable def sg : Sig (Λ × Λ × Int) := s2 (sRow .u64) (s2 (sRow .u64) (s1 (sInt .i64)))
noncomputable def code : Code := (Tryd.f53.body).getD .skip
noncomputable def cfg (c33 : T24) (c52 : T50) (c56 : T7) (c72 : T51) (c73 : T53) : Cfg (Λ × Λ × Int) := { T := tys, call := orCall 33 (nat_FromUint.call c33) (orCall 52 (quot_small.call c52) (orCall 56 (nat_Cmp.call c56) (orCall 72 (nat_DivSmall.call c72) (orCall 73 (quot_long.call c73) (noCall))))), lay := lays }
noncomputable def cuts : List (Nat × List (Nat × Want)) := []
theorem e0 {c33 c52 c56 c72 c73 n J l0 l1} : afun (cfg c33 c52 c56 c72 c73) J cuts n code Tryd.f53.results.toList [false, false, false] [.ro .u64 l0, .ro .u64 l1] sg.out = b0 c33 c52 c56 c72 c73 l0 l1 := by kernel_rfl
theorem ok {n  l0 l1 r} (h : f n l0 l1 = some r) : CallD Tryd.prog HW 53 [.ro .u64 l0, .ro .u64 l1] (sg.enc r) :=
  fun_some hwS Tryd.func53 (by kernel_rfl) (body := code) (by kernel_rfl) tys_ok (c := cfg nat_FromUint.f (quot_small.f n) (nat_Cmp.f n) (nat_DivSmall.f n) (quot_long.f n)) ⟨(orCall_ok nat_FromUint.call_ok (orCall_ok (quot_small.call_ok (n := n)) (orCall_ok (nat_Cmp.call_ok (n := n)) (orCall_ok (nat_DivSmall.call_ok (n := n)) (orCall_ok (quot_long.call_ok (n := n)) noCall_ok))))), noQ_ok'⟩ ⟨noW_ok, noP_ok'⟩ (by kernel_rfl) (by kernel_rfl) (Nat.le_of_ble_eq_true (by kernel_rfl)) (Eq.trans ((e0 (n := n))) h)
noncomputable def call {α : Type} (g : T21) (ds : List D) (K : List D→Ω α) : Ω α := match ds with
  | [.ro .u64 l0, .ro .u64 l1] => (g l0 l1).bind fun r => K (sg.enc r)
  | _ => none
theorem call_ok {α : Type} {n : Nat} : COK Tryd.prog HW 53 (call (α := α) (f n)) := fun _ _ _ h => by
  unfold call at h; split at h
  · exact cok h fun _ => ok
  · cases h
end quot_DivMod
/-! ### nat_MulAdd: function 74 -/
namespace nat_MulAdd
noncomputable def b0 (c39 : T5) (c49 : T4) (c50 : T1) (c51 : T3) (c60 : T2) (k1013 : T68) (l0 : Λ) (a1 a2 : Int) : Ω (Λ × Int) := ((c49 l0).bind fun t1 => (if t1 = true then some (([] : Λ), 2) else ((c50 l0).bind fun t2 => (if 0 ≤ t2 then (if t2 ≤ (ln l0) then ((some (l0.take t2.toNat) : Ω (Λ)).bind fun y3 => (if 0 ≤ (wrap64 ((ln y3) + 1)) then (if (wrap64 ((ln y3) + 1)).toNat ≤ 35184372088832 then k1013 y3 a1 a2 (ln y3) 0 (List.replicate (wrap64 ((ln y3) + 1)).toNat (0 : Int)) else none) else none)) else none) else none))))
noncomputable def b127 (c39 : T5) (c49 : T4) (c50 : T1) (c51 : T3) (c60 : T2) (x0 : Λ) (x1 : Int) (x2 : Λ) : Ω (Λ × Int) := (if 0 ≤ (ln x0) then (if (ln x0) < (ln x2) then ((c51 (x2.set ((ln x0) : Int).toNat x1)).bind fun t1 => some (t1.1, t1.2)) else none) else none)
noncomputable def b1013 (c39 : T5) (c49 : T4) (c50 : T1) (c51 : T3) (c60 : T2) (k127 : T60) (k1013 : T68) (x0 : Λ) (x1 x2 x3 x4 : Int) (x5 : Λ) : Ω (Λ × Int) := (if x4 < x3 then (if 0 ≤ x4 then (if x4 < (ln x0) then ((c39 (rd x0 x4) x1).bind fun t1 => ((c60 t1.2 x2 0).bind fun t2 => (if 0 ≤ x4 then (if x4 < (ln x5) then k1013 x0 x1 (IntKind.u64.wrap (t1.1 + t2.2)) x3 (wrap64 (x4 + 1)) (x5.set (x4 : Int).toNat t2.1) else none) else none))) else none) else none) else k127 x0 x2 x5)
noncomputable def l127 (n : Nat) (x0 : Λ) (x1 : Int) (x2 : Λ) : Ω (Λ × Int) := b127 bits_Mul64.f (nat_big.f n) (nat_size.f n) (nat_cut.f n) bits_Add64.f x0 x1 x2
noncomputable def l1013 (n : Nat) : Nat→Λ→Int→Int→Int→Int→Λ→Ω (Λ × Int)
  | 0, _, _, _, _, _, _ => none
  | m + 1, x0, x1, x2, x3, x4, x5 => b1013 bits_Mul64.f (nat_big.f n) (nat_size.f n) (nat_cut.f n) bits_Add64.f (l127 n) (l1013 n m) x0 x1 x2 x3 x4 x5
noncomputable def f (n : Nat) (l0 : Λ) (a1 a2 : Int) : Ω (Λ × Int) := b0 bits_Mul64.f (nat_big.f n) (nat_size.f n) (nat_cut.f n) bits_Add64.f (l1013 n n) l0 a1 a2
noncomputable def sg : Sig (Λ × Int) := s2 (sRow .u64) (s1 (sInt .i64))
noncomputable def code : Code := (Tryd.f74.body).getD .skip
noncomputable def cfg (c39 : T5) (c49 : T4) (c50 : T1) (c51 : T3) (c60 : T2) : Cfg (Λ × Int) := { T := tys, call := orCall 39 (bits_Mul64.call c39) (orCall 49 (nat_big.call c49) (orCall 50 (nat_size.call c50) (orCall 51 (nat_cut.call c51) (orCall 60 (bits_Add64.call c60) (noCall))))), lay := lays }
noncomputable def cuts : List (Nat × List (Nat × Want)) := [(127, [(0, .keep), (8, .keep), (9, .keep)]), (1013, [(0, .keep), (1, .keep), (8, .keep), (9, .keep), (26, .keep), (27, .keep), (28, .keep)])]
noncomputable def s127 (x0 : Λ) (x1 : Int) (x2 : Λ) : ASt := ⟨[(0, .ro .u64 x0), (8, .own 0), (9, .int .u64 x1)], [.ints 22 .u64 x2]⟩
noncomputable def s1013 (x0 : Λ) (x1 x2 x3 x4 : Int) (x5 : Λ) : ASt := ⟨[(0, .ro .u64 x0), (1, .int .u64 x1), (8, .own 0), (9, .int .u64 x2), (26, .ro .u64 x0), (27, .int .i64 x3), (28, .int .i64 x4)], [.ints 22 .u64 x5]⟩
noncomputable def A (c39 : T5) (c49 : T4) (c50 : T1) (c51 : T3) (c60 : T2) (n : Nat) (J : Jt (Λ × Int)) (q : Nat) (ms : List Nat) : ASt→Ω (Λ × Int) := acont (cfg c39 c49 c50 c51 c60) J cuts n q code 1 ms (aend (cfg c39 c49 c50 c51 c60) Tryd.f74.results.toList [false, false] sg.out)
theorem e0 {c39 c49 c50 c51 c60 n J l0 a1 a2} : afun (cfg c39 c49 c50 c51 c60) J cuts n code Tryd.f74.results.toList [false, false] [.ro .u64 l0, .int .u64 a1, .int .u64 a2] sg.out = b0 c39 c49 c50 c51 c60 (fun y0 y1 y2 y3 y4 y5 => J 1013 (A c39 c49 c50 c51 c60 n J 1013 [n]) (s1013 y0 y1 y2 y3 y4 y5)) l0 a1 a2 := by kernel_rfl
theorem e127 {c39 c49 c50 c51 c60 n J x0 x1 x2} : A c39 c49 c50 c51 c60 n J 127 [] (s127 x0 x1 x2) = b127 c39 c49 c50 c51 c60 x0 x1 x2 := by kernel_rfl
theorem e1013 {c39 c49 c50 c51 c60 n J m x0 x1 x2 x3 x4 x5} : A c39 c49 c50 c51 c60 n J 1013 [m + 1] (s1013 x0 x1 x2 x3 x4 x5) = b1013 c39 c49 c50 c51 c60 (fun y0 y1 y2 => J 127 (A c39 c49 c50 c51 c60 n J 127 []) (s127 y0 y1 y2)) (fun y0 y1 y2 y3 y4 y5 => J 1013 (A c39 c49 c50 c51 c60 n J 1013 [m]) (s1013 y0 y1 y2 y3 y4 y5)) x0 x1 x2 x3 x4 x5 := by kernel_rfl
noncomputable abbrev I (n : Nat) := A bits_Mul64.f (nat_big.f n) (nat_size.f n) (nat_cut.f n) bits_Add64.f n idJ
theorem q127 (n x0 x1 x2) : I n 127 [] (s127 x0 x1 x2) = l127 n x0 x1 x2 := e127
theorem q1013 (n m) : ∀ x0 x1 x2 x3 x4 x5, I n 1013 [m] (s1013 x0 x1 x2 x3 x4 x5) = l1013 n m x0 x1 x2 x3 x4 x5 := by
  induction m with
  | zero => intros; rfl
  | succ m ih =>
    intros
    exact e1013.trans (Eq.trans (cf6 (congr (congrArg (b1013 _ _ _ _ _) (fu3 (q127 n))) (fu6 (ih))) _ _ _ _ _ _) rfl)
theorem ok {n  l0 a1 a2 r} (h : f n l0 a1 a2 = some r) : CallD Tryd.prog HW 74 [.ro .u64 l0, .int .u64 a1, .int .u64 a2] (sg.enc r) :=
  fun_some hwS Tryd.func74 (by kernel_rfl) (body := code) (by kernel_rfl) tys_ok (c := cfg bits_Mul64.f (nat_big.f n) (nat_size.f n) (nat_cut.f n) bits_Add64.f) ⟨(orCall_ok bits_Mul64.call_ok (orCall_ok (nat_big.call_ok (n := n)) (orCall_ok (nat_size.call_ok (n := n)) (orCall_ok (nat_cut.call_ok (n := n)) (orCall_ok bits_Add64.call_ok noCall_ok))))), noQ_ok'⟩ ⟨noW_ok, noP_ok'⟩ (by kernel_rfl) (by kernel_rfl) (Nat.le_of_ble_eq_true (by kernel_rfl)) (Eq.trans ((e0 (n := n)).trans (Eq.trans (cf3 (congrArg (b0 _ _ _ _ _) (fu6 (q1013 n n))) _ _ _) rfl)) h)
noncomputable def call {α : Type} (g : T22) (ds : List D) (K : List D→Ω α) : Ω α := match ds with
  | [.ro .u64 l0, .int .u64 a1, .int .u64 a2] => (g l0 a1 a2).bind fun r => K (sg.enc r)
  | _ => none
theorem call_ok {α : Type} {n : Nat} : COK Tryd.prog HW 74 (call (α := α) (f n)) := fun _ _ _ h => by
  unfold call at h; split at h
  · exact cok h fun _ => ok
  · cases h
end nat_MulAdd
/-! ### ieee_RoundRatio: function 63 -/
namespace ieee_RoundRatio
noncomputable def b0 (c27 : T11) (c32 : T14) (c35 : T1) (c45 : T0) (c53 : T21) (c54 : T9) (c56 : T7) (c68 : T9) (c74 : T22) (k127 : T43) (a0 : Bool) (l1 l2 : Λ) (a3 : Int) : Ω (Int × Int) := ((c32 l1 0).bind fun t1 => ((c32 l2 0).bind fun t2 => (if ¬ t1.2 = 0 then some (0, 2) else (if ¬ t2.2 = 0 then some (0, 2) else (if (ln t2.1) = 0 then some (0, 4) else (if (ln t1.1) = 0 then ((c27 a0 ([] : Λ) 0 false).bind fun t3 => some (t3.1, t3.2)) else ((c45 a3).bind fun t4 => ((c35 t2.1).bind fun t5 => ((c35 t1.1).bind fun t6 => (if (wrap64 (t5 - t6)) > 0 then ((c32 t1.1 (wrap64 (t5 - t6))).bind fun t7 => k127 a0 t7.1 t2.1 (wrap64 (t4 - (wrap64 (t5 - t6))))) else k127 a0 t1.1 t2.1 t4))))))))))
noncomputable def b127 (c27 : T11) (c32 : T14) (c35 : T1) (c45 : T0) (c53 : T21) (c54 : T9) (c56 : T7) (c68 : T9) (c74 : T22) (k4089 : T54) (x0 : Bool) (x1 x2 : Λ) (x3 : Int) : Ω (Int × Int) := ((c53 x1 x2).bind fun t1 => (if ¬ t1.2.2 = 0 then some (0, t1.2.2) else k4089 x0 x2 x3 t1.1 t1.2.1))
noncomputable def b1023 (c27 : T11) (c32 : T14) (c35 : T1) (c45 : T0) (c53 : T21) (c54 : T9) (c56 : T7) (c68 : T9) (c74 : T22) (x0 : Bool) (x1 : Int) (x2 x3 : Λ) : Ω (Int × Int) := ((c27 x0 x2 x1 (decide ((ln x3) > 0))).bind fun t1 => some (t1.1, t1.2))
noncomputable def b4089 (c27 : T11) (c32 : T14) (c35 : T1) (c45 : T0) (c53 : T21) (c54 : T9) (c56 : T7) (c68 : T9) (c74 : T22) (k1023 : Bool→Int→Λ→Λ→Ω (Int × Int)) (k130839 : Bool→Λ→Int→Λ→Λ→Int→Ω (Int × Int)) (x0 : Bool) (x1 : Λ) (x2 : Int) (x3 x4 : Λ) : Ω (Int × Int) := ((c35 x3).bind fun t1 => (if t1 < 66 then ((c68 x1 x4).bind fun t2 => ((c56 x4 t2.1).bind fun t3 => (if t3 ≥ 0 then ((c68 x4 t2.1).bind fun t4 => k130839 x0 x1 x2 x3 t4.1 1) else ((c54 x4 x4).bind fun t5 => k130839 x0 x1 x2 x3 t5.1 0)))) else k1023 x0 x2 x3 x4))
noncomputable def b130839 (c27 : T11) (c32 : T14) (c35 : T1) (c45 : T0) (c53 : T21) (c54 : T9) (c56 : T7) (c68 : T9) (c74 : T22) (k4089 : T54) (x0 : Bool) (x1 : Λ) (x2 : Int) (x3 x4 : Λ) (x5 : Int) : Ω (Int × Int) := ((c74 x3 2 x5).bind fun t1 => k4089 x0 x1 (wrap64 (x2 - 1)) t1.1 x4)
noncomputable def l1023 (n : Nat) (x0 : Bool) (x1 : Int) (x2 x3 : Λ) : Ω (Int × Int) := b1023 (ieee_Round.f n) (nat_Shl.f n) (nat_BitLen.f n) ieee_near.f (quot_DivMod.f n) (nat_Add.f n) (nat_Cmp.f n) (nat_Sub.f n) (nat_MulAdd.f n) x0 x1 x2 x3
noncomputable def l130839 (n : Nat) (k4089 : T54) (x0 : Bool) (x1 : Λ) (x2 : Int) (x3 x4 : Λ) (x5 : Int) : Ω (Int × Int) := b130839 (ieee_Round.f n) (nat_Shl.f n) (nat_BitLen.f n) ieee_near.f (quot_DivMod.f n) (nat_Add.f n) (nat_Cmp.f n) (nat_Sub.f n) (nat_MulAdd.f n) k4089 x0 x1 x2 x3 x4 x5
noncomputable def l4089 (n : Nat) : Nat→Bool→Λ→Int→Λ→Λ→Ω (Int × Int)
  | 0, _, _, _, _, _ => none
  | m + 1, x0, x1, x2, x3, x4 => b4089 (ieee_Round.f n) (nat_Shl.f n) (nat_BitLen.f n) ieee_near.f (quot_DivMod.f n) (nat_Add.f n) (nat_Cmp.f n) (nat_Sub.f n) (nat_MulAdd.f n) (l1023 n) (l130839 n (l4089 n m)) x0 x1 x2 x3 x4
noncomputable def l127 (n : Nat) (x0 : Bool) (x1 x2 : Λ) (x3 : Int) : Ω (Int × Int) := b127 (ieee_Round.f n) (nat_Shl.f n) (nat_BitLen.f n) ieee_near.f (quot_DivMod.f n) (nat_Add.f n) (nat_Cmp.f n) (nat_Sub.f n) (nat_MulAdd.f n) (l4089 n n) x0 x1 x2 x3
noncomputable def f (n : Nat) (a0 : Bool) (l1 l2 : Λ) (a3 : Int) : Ω (Int × Int) := b0 (ieee_Round.f n) (nat_Shl.f n) (nat_BitLen.f n) ieee_near.f (quot_DivMod.f n) (nat_Add.f n) (nat_Cmp.f n) (nat_Sub.f n) (nat_MulAdd.f n) (l127 n) a0 l1 l2 a3
noncomputable def sg : Sig (Int × Int) := s2 (sInt .u64) (s1 (sInt .i64))
noncomputable def code : Code := (Tryd.f63.body).getD .skip
noncomputable def cfg (c27 : T11) (c32 : T14) (c35 : T1) (c45 : T0) (c53 : T21) (c54 : T9) (c56 : T7) (c68 : T9) (c74 : T22) : Cfg (Int × Int) := { T := tys, call := orCall 27 (ieee_Round.call c27) (orCall 32 (nat_Shl.call c32) (orCall 35 (nat_BitLen.call c35) (orCall 45 (ieee_near.call c45) (orCall 53 (quot_DivMod.call c53) (orCall 54 (nat_Add.call c54) (orCall 56 (nat_Cmp.call c56) (orCall 68 (nat_Sub.call c68) (orCall 74 (nat_MulAdd.call c74) (noCall))))))))), lay := lays }
noncomputable def cuts : List (Nat × List (Nat × Want)) := [(127, [(0, .keep), (1, .keep), (2, .keep), (3, .keep)]), (1023, [(0, .keep), (3, .keep), (13, .keep), (14, .keep)]), (4089, [(0, .keep), (2, .keep), (3, .keep), (13, .keep), (14, .keep)]), (130839, [(0, .keep), (2, .keep), (3, .keep), (13, .keep), (14, .keep), (17, .keep)])]
noncomputable def s127 (x0 : Bool) (x1 x2 : Λ) (x3 : Int) : ASt := ⟨[(0, .bool x0), (1, .ro .u64 x1), (2, .ro .u64 x2), (3, .int .i64 x3)], []⟩
noncomputable def s1023 (x0 : Bool) (x1 : Int) (x2 x3 : Λ) : ASt := ⟨[(0, .bool x0), (3, .int .i64 x1), (13, .ro .u64 x2), (14, .ro .u64 x3)], []⟩
noncomputable def s4089 (x0 : Bool) (x1 : Λ) (x2 : Int) (x3 x4 : Λ) : ASt := ⟨[(0, .bool x0), (2, .ro .u64 x1), (3, .int .i64 x2), (13, .ro .u64 x3), (14, .ro .u64 x4)], []⟩
noncomputable def s130839 (x0 : Bool) (x1 : Λ) (x2 : Int) (x3 x4 : Λ) (x5 : Int) : ASt := ⟨[(0, .bool x0), (2, .ro .u64 x1), (3, .int .i64 x2), (13, .ro .u64 x3), (14, .ro .u64 x4), (17, .int .u64 x5)], []⟩
noncomputable def A (c27 : T11) (c32 : T14) (c35 : T1) (c45 : T0) (c53 : T21) (c54 : T9) (c56 : T7) (c68 : T9) (c74 : T22) (n : Nat) (J : Jt (Int × Int)) (q : Nat) (ms : List Nat) : ASt→Ω (Int × Int) := acont (cfg c27 c32 c35 c45 c53 c54 c56 c68 c74) J cuts n q code 1 ms (aend (cfg c27 c32 c35 c45 c53 c54 c56 c68 c74) Tryd.f63.results.toList [false, false] sg.out)
theorem e0 {c27 c32 c35 c45 c53 c54 c56 c68 c74 n J a0 l1 l2 a3} : afun (cfg c27 c32 c35 c45 c53 c54 c56 c68 c74) J cuts n code Tryd.f63.results.toList [false, false] [.bool a0, .ro .u64 l1, .ro .u64 l2, .int .i64 a3] sg.out = b0 c27 c32 c35 c45 c53 c54 c56 c68 c74 (fun y0 y1 y2 y3 => J 127 (A c27 c32 c35 c45 c53 c54 c56 c68 c74 n J 127 []) (s127 y0 y1 y2 y3)) a0 l1 l2 a3 := by kernel_rfl
theorem e127 {c27 c32 c35 c45 c53 c54 c56 c68 c74 n J x0 x1 x2 x3} : A c27 c32 c35 c45 c53 c54 c56 c68 c74 n J 127 [] (s127 x0 x1 x2 x3) = b127 c27 c32 c35 c45 c53 c54 c56 c68 c74 (fun y0 y1 y2 y3 y4 => J 4089 (A c27 c32 c35 c45 c53 c54 c56 c68 c74 n J 4089 [n]) (s4089 y0 y1 y2 y3 y4)) x0 x1 x2 x3 := by kernel_rfl
theorem e1023 {c27 c32 c35 c45 c53 c54 c56 c68 c74 n J x0 x1 x2 x3} : A c27 c32 c35 c45 c53 c54 c56 c68 c74 n J 1023 [] (s1023 x0 x1 x2 x3) = b1023 c27 c32 c35 c45 c53 c54 c56 c68 c74 x0 x1 x2 x3 := by kernel_rfl
theorem e4089 {c27 c32 c35 c45 c53 c54 c56 c68 c74 n J m x0 x1 x2 x3 x4} : A c27 c32 c35 c45 c53 c54 c56 c68 c74 n J 4089 [m + 1] (s4089 x0 x1 x2 x3 x4) = b4089 c27 c32 c35 c45 c53 c54 c56 c68 c74 (fun y0 y1 y2 y3 => J 1023 (A c27 c32 c35 c45 c53 c54 c56 c68 c74 n J 1023 []) (s1023 y0 y1 y2 y3)) (fun y0 y1 y2 y3 y4 y5 => J 130839 (A c27 c32 c35 c45 c53 c54 c56 c68 c74 n J 130839 [m]) (s130839 y0 y1 y2 y3 y4 y5)) x0 x1 x2 x3 x4 := by kernel_rfl
theorem e130839 {c27 c32 c35 c45 c53 c54 c56 c68 c74 n J m4089 x0 x1 x2 x3 x4 x5} : A c27 c32 c35 c45 c53 c54 c56 c68 c74 n J 130839 [m4089] (s130839 x0 x1 x2 x3 x4 x5) = b130839 c27 c32 c35 c45 c53 c54 c56 c68 c74 (fun y0 y1 y2 y3 y4 => J 4089 (A c27 c32 c35 c45 c53 c54 c56 c68 c74 n J 4089 [m4089]) (s4089 y0 y1 y2 y3 y4)) x0 x1 x2 x3 x4 x5 := by kernel_rfl
noncomputable abbrev I (n : Nat) := A (ieee_Round.f n) (nat_Shl.f n) (nat_BitLen.f n) ieee_near.f (quot_DivMod.f n) (nat_Add.f n) (nat_Cmp.f n) (nat_Sub.f n) (nat_MulAdd.f n) n idJ
theorem q1023 (n x0 x1 x2 x3) : I n 1023 [] (s1023 x0 x1 x2 x3) = l1023 n x0 x1 x2 x3 := e1023
theorem q130839 (n m4089 x0 x1 x2 x3 x4 x5) : I n 130839 [m4089] (s130839 x0 x1 x2 x3 x4 x5) = l130839 n (fun y0 y1 y2 y3 y4 => I n 4089 [m4089] (s4089 y0 y1 y2 y3 y4)) x0 x1 x2 x3 x4 x5 := e130839
theorem q4089 (n m) : ∀ x0 x1 x2 x3 x4, I n 4089 [m] (s4089 x0 x1 x2 x3 x4) = l4089 n m x0 x1 x2 x3 x4 := by
  induction m with
  | zero => intros; rfl
  | succ m ih =>
    intros
    exact e4089.trans (Eq.trans (cf5 (congr (congrArg (b4089 _ _ _ _ _ _ _ _ _) (fu4 (q1023 n))) ((fu6 (q130839 n m)).trans (by rw [show (fun y0 y1 y2 y3 y4 => I n 4089 [m] (s4089 y0 y1 y2 y3 y4)) = _ from (fu5 (ih))]))) _ _ _ _ _) rfl)
theorem q127 (n x0 x1 x2 x3) : I n 127 [] (s127 x0 x1 x2 x3) = l127 n x0 x1 x2 x3 := e127.trans (Eq.trans (cf4 (congrArg (b127 _ _ _ _ _ _ _ _ _) (fu5 (q4089 n n))) _ _ _ _) rfl)
theorem ok {n  a0 l1 l2 a3 r} (h : f n a0 l1 l2 a3 = some r) : CallD Tryd.prog HW 63 [.bool a0, .ro .u64 l1, .ro .u64 l2, .int .i64 a3] (sg.enc r) :=
  fun_some hwS Tryd.func63 (by kernel_rfl) (body := code) (by kernel_rfl) tys_ok (c := cfg (ieee_Round.f n) (nat_Shl.f n) (nat_BitLen.f n) ieee_near.f (quot_DivMod.f n) (nat_Add.f n) (nat_Cmp.f n) (nat_Sub.f n) (nat_MulAdd.f n)) ⟨(orCall_ok (ieee_Round.call_ok (n := n)) (orCall_ok (nat_Shl.call_ok (n := n)) (orCall_ok (nat_BitLen.call_ok (n := n)) (orCall_ok ieee_near.call_ok (orCall_ok (quot_DivMod.call_ok (n := n)) (orCall_ok (nat_Add.call_ok (n := n)) (orCall_ok (nat_Cmp.call_ok (n := n)) (orCall_ok (nat_Sub.call_ok (n := n)) (orCall_ok (nat_MulAdd.call_ok (n := n)) noCall_ok))))))))), noQ_ok'⟩ ⟨noW_ok, noP_ok'⟩ (by kernel_rfl) (by kernel_rfl) (Nat.le_of_ble_eq_true (by kernel_rfl)) (Eq.trans ((e0 (n := n)).trans (Eq.trans (cf4 (congrArg (b0 _ _ _ _ _ _ _ _ _) (fu4 (q127 n))) _ _ _ _) rfl)) h)
noncomputable def call {α : Type} (g : T43) (ds : List D) (K : List D→Ω α) : Ω α := match ds with
  | [.bool a0, .ro .u64 l1, .ro .u64 l2, .int .i64 a3] => (g a0 l1 l2 a3).bind fun r => K (sg.enc r)
  | _ => none
theorem call_ok {α : Type} {n : Nat} : COK Tryd.prog HW 63 (call (α := α) (f n)) := fun _ _ _ h => by
  unfold call at h; split at h
  · exact cok h fun _ => ok
  · cases h
end ieee_RoundRatio
/-! ### gather_Acc_over: function 42 -/
namespace gather_Acc_over
noncomputable def b0 (c61 : T48) (c62 : T49) (c63 : T43) (a0_0 a0_1 a0_2 a0_3 : Bool) (a0_4 : Int) (r0_5 r0_6 : Λ) (a1 : Int) : Ω (Int) := ((c61 a0_0 a0_1 a0_2 a0_3).bind fun t1 => (if t1.2 = true then some t1.1 else ((c62 a0_0 a0_1 a0_2 a0_3 a0_4 r0_5 r0_6).bind fun t2 => ((c63 t2.1 t2.2 [a1] (-2148)).bind fun t3 => some t3.1))))
noncomputable def f (n : Nat) (a0_0 a0_1 a0_2 a0_3 : Bool) (a0_4 : Int) (r0_5 r0_6 : Λ) (a1 : Int) : Ω (Int) := b0 gather_kinds_beyond.f (gather_Acc_exact.f n) (ieee_RoundRatio.f n) a0_0 a0_1 a0_2 a0_3 a0_4 r0_5 r0_6 a1
noncomputable def sg : Sig (Int) := s1 (sInt .u64)
noncomputable def code : Code := (Tryd.f42.body).getD .skip
noncomputable def cfg (c61 : T48) (c62 : T49) (c63 : T43) : Cfg (Int) := { T := tys, call := orCall 61 (gather_kinds_beyond.call c61) (orCall 62 (gather_Acc_exact.call c62) (orCall 63 (ieee_RoundRatio.call c63) (noCall))), lay := lays }
noncomputable def cuts : List (Nat × List (Nat × Want)) := []
theorem e0 {c61 c62 c63 n J a0_0 a0_1 a0_2 a0_3 a0_4 r0_5 r0_6 a1} : afun (cfg c61 c62 c63) J cuts n code Tryd.f42.results.toList [false] [.pseg [.bool a0_0, .bool a0_1, .bool a0_2, .bool a0_3, .int .i64 a0_4, .arr .u64 72 r0_5, .arr .u64 72 r0_6], .int .u64 a1] sg.out = b0 c61 c62 c63 a0_0 a0_1 a0_2 a0_3 a0_4 r0_5 r0_6 a1 := by kernel_rfl
theorem ok {n  a0_0 a0_1 a0_2 a0_3 a0_4 r0_5 r0_6 a1 r} (h : f n a0_0 a0_1 a0_2 a0_3 a0_4 r0_5 r0_6 a1 = some r) : CallD Tryd.prog HW 42 [.pseg [.bool a0_0, .bool a0_1, .bool a0_2, .bool a0_3, .int .i64 a0_4, .arr .u64 72 r0_5, .arr .u64 72 r0_6], .int .u64 a1] (sg.enc r) :=
  fun_some hwS Tryd.func42 (by kernel_rfl) (body := code) (by kernel_rfl) tys_ok (c := cfg gather_kinds_beyond.f (gather_Acc_exact.f n) (ieee_RoundRatio.f n)) ⟨(orCall_ok (gather_kinds_beyond.call_ok (n := n)) (orCall_ok (gather_Acc_exact.call_ok (n := n)) (orCall_ok (ieee_RoundRatio.call_ok (n := n)) noCall_ok))), noQ_ok'⟩ ⟨noW_ok, noP_ok'⟩ (by kernel_rfl) (by kernel_rfl) (Nat.le_of_ble_eq_true (by kernel_rfl)) (Eq.trans ((e0 (n := n))) h)
noncomputable def call {α : Type} (g : T55) (ds : List D) (K : List D→Ω α) : Ω α := match ds with
  | [.pseg (.bool a0_0 :: .bool a0_1 :: .bool a0_2 :: .bool a0_3 :: .int .i64 a0_4 :: .arr .u64 72 r0_5 :: .arr .u64 72 r0_6 :: _), .int .u64 a1] => (g a0_0 a0_1 a0_2 a0_3 a0_4 r0_5 r0_6 a1).bind fun r => K (sg.enc r)
  | _ => none
theorem call_ok {α : Type} {n : Nat} (ds : List D) (K : List D→Ω α) (r : α) (h : call (f n) ds K = some r) : ∃ rs, K rs = some r ∧ CallD Tryd.prog HW 42 ds rs := by
  unfold call at h
  split at h
  · obtain ⟨x, hx, hk⟩ := Option.bind_eq_some_iff.1 h
    exact ⟨_, hk, calld_sub (ok (n := n) hx) ⟨⟨_, rfl⟩, ⟨rfl, trivial⟩⟩⟩
  · cases h
end gather_Acc_over
/-! ### gather_Acc_Value: function 20 -/
namespace gather_Acc_Value
noncomputable def b0 (c42 : T55) (a0_0 a0_1 a0_2 a0_3 : Bool) (a0_4 : Int) (r0_5 r0_6 : Λ) : Ω (Int) := ((c42 a0_0 a0_1 a0_2 a0_3 a0_4 r0_5 r0_6 1).bind fun t1 => some t1)
noncomputable def f (n : Nat) (a0_0 a0_1 a0_2 a0_3 : Bool) (a0_4 : Int) (r0_5 r0_6 : Λ) : Ω (Int) := b0 (gather_Acc_over.f n) a0_0 a0_1 a0_2 a0_3 a0_4 r0_5 r0_6
noncomputable def sg : Sig (Int) := s1 (sInt .u64)
noncomputable def code : Code := (Tryd.f20.body).getD .skip
noncomputable def cfg (c42 : T55) : Cfg (Int) := { T := tys, call := orCall 42 (gather_Acc_over.call c42) (noCall), lay := lays }
noncomputable def cuts : List (Nat × List (Nat × Want)) := []
theorem e0 {c42 n J a0_0 a0_1 a0_2 a0_3 a0_4 r0_5 r0_6} : afun (cfg c42) J cuts n code Tryd.f20.results.toList [false] [.pseg [.bool a0_0, .bool a0_1, .bool a0_2, .bool a0_3, .int .i64 a0_4, .arr .u64 72 r0_5, .arr .u64 72 r0_6]] sg.out = b0 c42 a0_0 a0_1 a0_2 a0_3 a0_4 r0_5 r0_6 := by kernel_rfl
theorem ok {n  a0_0 a0_1 a0_2 a0_3 a0_4 r0_5 r0_6 r} (h : f n a0_0 a0_1 a0_2 a0_3 a0_4 r0_5 r0_6 = some r) : CallD Tryd.prog HW 20 [.pseg [.bool a0_0, .bool a0_1, .bool a0_2, .bool a0_3, .int .i64 a0_4, .arr .u64 72 r0_5, .arr .u64 72 r0_6]] (sg.enc r) :=
  fun_some hwS Tryd.func20 (by kernel_rfl) (body := code) (by kernel_rfl) tys_ok (c := cfg (gather_Acc_over.f n)) ⟨(orCall_ok (gather_Acc_over.call_ok (n := n)) noCall_ok), noQ_ok'⟩ ⟨noW_ok, noP_ok'⟩ (by kernel_rfl) (by kernel_rfl) (Nat.le_of_ble_eq_true (by kernel_rfl)) (Eq.trans ((e0 (n := n))) h)
noncomputable def call {α : Type} (g : T32) (ds : List D) (K : List D→Ω α) : Ω α := match ds with
  | [.pseg (.bool a0_0 :: .bool a0_1 :: .bool a0_2 :: .bool a0_3 :: .int .i64 a0_4 :: .arr .u64 72 r0_5 :: .arr .u64 72 r0_6 :: _)] => (g a0_0 a0_1 a0_2 a0_3 a0_4 r0_5 r0_6).bind fun r => K (sg.enc r)
  | _ => none
theorem call_ok {α : Type} {n : Nat} (ds : List D) (K : List D→Ω α) (r : α) (h : call (f n) ds K = some r) : ∃ rs, K rs = some r ∧ CallD Tryd.prog HW 20 ds rs := by
  unfold call at h
  split at h
  · obtain ⟨x, hx, hk⟩ := Option.bind_eq_some_iff.1 h
    exact ⟨_, hk, calld_sub (ok (n := n) hx) ⟨⟨_, rfl⟩, trivial⟩⟩
  · cases h
end gather_Acc_Value
/-! ### gather_Dot: function 7 -/
namespace gather_Dot
noncomputable def b0 (c18 : T30) (c19 : T31) (c20 : T32) (k245 : T69) (l0 l1 : Λ) : Ω (Int × Int) := (if ¬ (ln l0) = (ln l1) then some (0, 70) else ((c18).bind fun t1 => k245 l1 l0 (ln l0) 0 t1.1 t1.2.1 t1.2.2.1 t1.2.2.2.1 t1.2.2.2.2.1 t1.2.2.2.2.2.1 t1.2.2.2.2.2.2))
noncomputable def b31 (c18 : T30) (c19 : T31) (c20 : T32) (x0 x1 x2 x3 : Bool) (x4 : Int) (x5 x6 : Λ) : Ω (Int × Int) := ((c20 x0 x1 x2 x3 x4 x5 x6).bind fun t1 => some (t1, 0))
noncomputable def b245 (c18 : T30) (c19 : T31) (c20 : T32) (k31 : Bool→Bool→Bool→Bool→Int→Λ→Λ→Ω (Int × Int)) (k245 : T69) (x0 x1 : Λ) (x2 x3 : Int) (x4 x5 x6 x7 : Bool) (x8 : Int) (x9 x10 : Λ) : Ω (Int × Int) := (if x3 < x2 then (if 0 ≤ x3 then (if x3 < (ln x1) then (if 0 ≤ x3 then (if x3 < (ln x0) then ((c19 x4 x5 x6 x7 x8 x9 x10 (rd x1 x3) (rd x0 x3)).bind fun t1 => k245 x0 x1 x2 (wrap64 (x3 + 1)) t1.1.1 t1.1.2.1 t1.1.2.2.1 t1.1.2.2.2.1 t1.1.2.2.2.2.1 t1.1.2.2.2.2.2.1 t1.1.2.2.2.2.2.2) else none) else none) else none) else none) else k31 x4 x5 x6 x7 x8 x9 x10)
noncomputable def l31 (n : Nat) (x0 x1 x2 x3 : Bool) (x4 : Int) (x5 x6 : Λ) : Ω (Int × Int) := b31 gather_New.f (gather_Acc_AddProduct.f n) (gather_Acc_Value.f n) x0 x1 x2 x3 x4 x5 x6
noncomputable def l245 (n : Nat) : Nat→Λ→Λ→Int→Int→Bool→Bool→Bool→Bool→Int→Λ→Λ→Ω (Int × Int)
  | 0, _, _, _, _, _, _, _, _, _, _, _ => none
  | m + 1, x0, x1, x2, x3, x4, x5, x6, x7, x8, x9, x10 => b245 gather_New.f (gather_Acc_AddProduct.f n) (gather_Acc_Value.f n) (l31 n) (l245 n m) x0 x1 x2 x3 x4 x5 x6 x7 x8 x9 x10
noncomputable def f (n : Nat) (l0 l1 : Λ) : Ω (Int × Int) := b0 gather_New.f (gather_Acc_AddProduct.f n) (gather_Acc_Value.f n) (l245 n n) l0 l1
noncomputable def sg : Sig (Int × Int) := s2 (sInt .u64) (s1 (sInt .i64))
noncomputable def code : Code := (Tryd.f7.body).getD .skip
noncomputable def cfg (c18 : T30) (c19 : T31) (c20 : T32) : Cfg (Int × Int) := { T := tys, call := orCall 18 (gather_New.call c18) (orCall 20 (gather_Acc_Value.call c20) (noCall)), lay := lays, pw := [(19, 149)], callp := orP 19 (gather_Acc_AddProduct.call c19) (noP) }
noncomputable def cuts : List (Nat × List (Nat × Want)) := [(31, [(6, .keep)]), (245, [(1, .keep), (6, .keep), (15, .keep), (16, .keep), (17, .keep)])]
noncomputable def s31 (x0 x1 x2 x3 : Bool) (x4 : Int) (x5 x6 : Λ) : ASt := ⟨[(6, .rp 0 0)], [.part 65 [.bool x0, .bool x1, .bool x2, .bool x3, .int .i64 x4, .arr .u64 72 x5, .arr .u64 72 x6]]⟩
noncomputable def s245 (x0 x1 : Λ) (x2 x3 : Int) (x4 x5 x6 x7 : Bool) (x8 : Int) (x9 x10 : Λ) : ASt := ⟨[(1, .ro .u64 x0), (6, .rp 0 0), (15, .ro .u64 x1), (16, .int .i64 x2), (17, .int .i64 x3)], [.part 65 [.bool x4, .bool x5, .bool x6, .bool x7, .int .i64 x8, .arr .u64 72 x9, .arr .u64 72 x10]]⟩
noncomputable def A (c18 : T30) (c19 : T31) (c20 : T32) (n : Nat) (J : Jt (Int × Int)) (q : Nat) (ms : List Nat) : ASt→Ω (Int × Int) := acont (cfg c18 c19 c20) J cuts n q code 1 ms (aend (cfg c18 c19 c20) Tryd.f7.results.toList [false, false] sg.out)
theorem e0 {c18 c19 c20 n J l0 l1} : afun (cfg c18 c19 c20) J cuts n code Tryd.f7.results.toList [false, false] [.ro .u64 l0, .ro .u64 l1] sg.out = b0 c18 c19 c20 (fun y0 y1 y2 y3 y4 y5 y6 y7 y8 y9 y10 => J 245 (A c18 c19 c20 n J 245 [n]) (s245 y0 y1 y2 y3 y4 y5 y6 y7 y8 y9 y10)) l0 l1 := by kernel_rfl
theorem e31 {c18 c19 c20 n J x0 x1 x2 x3 x4 x5 x6} : A c18 c19 c20 n J 31 [] (s31 x0 x1 x2 x3 x4 x5 x6) = b31 c18 c19 c20 x0 x1 x2 x3 x4 x5 x6 := by kernel_rfl
theorem e245 {c18 c19 c20 n J m x0 x1 x2 x3 x4 x5 x6 x7 x8 x9 x10} : A c18 c19 c20 n J 245 [m + 1] (s245 x0 x1 x2 x3 x4 x5 x6 x7 x8 x9 x10) = b245 c18 c19 c20 (fun y0 y1 y2 y3 y4 y5 y6 => J 31 (A c18 c19 c20 n J 31 []) (s31 y0 y1 y2 y3 y4 y5 y6)) (fun y0 y1 y2 y3 y4 y5 y6 y7 y8 y9 y10 => J 245 (A c18 c19 c20 n J 245 [m]) (s245 y0 y1 y2 y3 y4 y5 y6 y7 y8 y9 y10)) x0 x1 x2 x3 x4 x5 x6 x7 x8 x9 x10 := by kernel_rfl
noncomputable abbrev I (n : Nat) := A gather_New.f (gather_Acc_AddProduct.f n) (gather_Acc_Value.f n) n idJ
theorem q31 (n x0 x1 x2 x3 x4 x5 x6) : I n 31 [] (s31 x0 x1 x2 x3 x4 x5 x6) = l31 n x0 x1 x2 x3 x4 x5 x6 := e31
theorem q245 (n m) : ∀ x0 x1 x2 x3 x4 x5 x6 x7 x8 x9 x10, I n 245 [m] (s245 x0 x1 x2 x3 x4 x5 x6 x7 x8 x9 x10) = l245 n m x0 x1 x2 x3 x4 x5 x6 x7 x8 x9 x10 := by
  induction m with
  | zero => intros; rfl
  | succ m ih =>
    intros
    exact e245.trans (Eq.trans (cf11 (congr (congrArg (b245 _ _ _) (fu7 (q31 n))) (fu11 (ih))) _ _ _ _ _ _ _ _ _ _ _) rfl)
theorem ok {n  l0 l1 r} (h : f n l0 l1 = some r) : CallD Tryd.prog HW 7 [.ro .u64 l0, .ro .u64 l1] (sg.enc r) :=
  fun_some hwS Tryd.func7 (by kernel_rfl) (body := code) (by kernel_rfl) tys_ok (c := cfg gather_New.f (gather_Acc_AddProduct.f n) (gather_Acc_Value.f n)) ⟨(orCall_ok gather_New.call_ok (orCall_ok (gather_Acc_Value.call_ok (n := n)) noCall_ok)), noQ_ok'⟩ ⟨noW_ok, (orP_ok (gather_Acc_AddProduct.call_ok (n := n)) noP_ok)⟩ (by kernel_rfl) (by kernel_rfl) (Nat.le_of_ble_eq_true (by kernel_rfl)) (Eq.trans ((e0 (n := n)).trans (Eq.trans (cf2 (congrArg (b0 _ _ _) (fu11 (q245 n n))) _ _) rfl)) h)
noncomputable def call {α : Type} (g : T33) (ds : List D) (K : List D→Ω α) : Ω α := match ds with
  | [.ro .u64 l0, .ro .u64 l1] => (g l0 l1).bind fun r => K (sg.enc r)
  | _ => none
theorem call_ok {α : Type} {n : Nat} : COK Tryd.prog HW 7 (call (α := α) (f n)) := fun _ _ _ h => by
  unfold call at h; split at h
  · exact cok h fun _ => ok
  · cases h
end gather_Dot
/-! ### abacustop_CoreLeft: function 4 -/
namespace abacustop_CoreLeft
noncomputable def b0 (c7 : T33) (c10 : T10) (c11 : T0) (c12 : T29) (c13 : T0) (c14 c15 : T10) (c16 : T0) (k31 : Int→Int→Int→Ω (Bool)) (a0 a1 : Int) : Ω (Bool) := ((c10 4619567317775286272 4613937818241073152).bind fun t1 => (if ¬ t1 = 4607182418800017408 then some false else ((c10 a0 a1).bind fun t2 => ((c11 a0).bind fun t3 => (if t3 < 3 then ((c11 a1).bind fun t4 => (if t4 = 3 then some (decide (t2 = a0)) else k31 a0 a1 t2)) else k31 a0 a1 t2)))))
noncomputable def b31 (c7 : T33) (c10 : T10) (c11 : T0) (c12 : T29) (c13 : T0) (c14 c15 : T10) (c16 : T0) (k1023 : Int→Int→Bool→Int→Int→Ω (Bool)) (x0 x1 x2 : Int) : Ω (Bool) := ((c11 x0).bind fun t1 => (if t1 ≥ 3 then some (decide (x2 = 9221120237041090560)) else ((c11 x1).bind fun t2 => (if t2 ≥ 3 then some (decide (x2 = 9221120237041090560)) else ((c11 x1).bind fun t3 => (if t3 = 0 then some (decide (x2 = 9221120237041090560)) else ((c13 x2).bind fun t4 => ((c13 x1).bind fun t5 => ((c12 t4 t5).bind fun t6 => (if (!t6.2) = true then some false else (if t6.1 ≥ 0 then some false else (if ¬ (x2 / 9223372036854775808) = (x0 / 9223372036854775808) then some false else ((c14 x0 x1).bind fun t7 => ((c13 t7).bind fun t8 => ((c13 t7).bind fun t9 => ((c15 t8 t9).bind fun t10 => ((c13 x1).bind fun t11 => ((c12 t10 t11).bind fun t12 => k1023 x1 x2 t12.2 t7 t12.1))))))))))))))))))
noncomputable def b1023 (c7 : T33) (c10 : T10) (c11 : T0) (c12 : T29) (c13 : T0) (c14 c15 : T10) (c16 : T0) (x0 x1 : Int) (x2 : Bool) (x3 x4 : Int) : Ω (Bool) := (if (!x2) = true then some false else (if x4 > 0 then some false else ((c16 4607182418800017408).bind fun t1 => ((c7 [x1, x3] [4607182418800017408, t1]).bind fun t2 => ((c11 t2.1).bind fun t3 => (if t3 = 0 then some true else ((c13 t2.1).bind fun t4 => ((c13 x0).bind fun t5 => some (decide (t4 = t5))))))))))
noncomputable def l1023 (n : Nat) (x0 x1 : Int) (x2 : Bool) (x3 x4 : Int) : Ω (Bool) := b1023 (gather_Dot.f n) (remain_Fmod.f n) ieee_Class.f ieee_Compare.f ieee_Abs.f (remain_Remainder.f n) (soft_Add.f n) ieee_Neg.f x0 x1 x2 x3 x4
noncomputable def l31 (n : Nat) (x0 x1 x2 : Int) : Ω (Bool) := b31 (gather_Dot.f n) (remain_Fmod.f n) ieee_Class.f ieee_Compare.f ieee_Abs.f (remain_Remainder.f n) (soft_Add.f n) ieee_Neg.f (l1023 n) x0 x1 x2
noncomputable def f (n : Nat) (a0 a1 : Int) : Ω (Bool) := b0 (gather_Dot.f n) (remain_Fmod.f n) ieee_Class.f ieee_Compare.f ieee_Abs.f (remain_Remainder.f n) (soft_Add.f n) ieee_Neg.f (l31 n) a0 a1
noncomputable def sg : Sig (Bool) := s1 (sBool)
noncomputable def code : Code := (Tryd.f4.body).getD .skip
noncomputable def cfg (c7 : T33) (c10 : T10) (c11 : T0) (c12 : T29) (c13 : T0) (c14 c15 : T10) (c16 : T0) : Cfg (Bool) := { T := tys, call := orCall 7 (gather_Dot.call c7) (orCall 10 (remain_Fmod.call c10) (orCall 11 (ieee_Class.call c11) (orCall 12 (ieee_Compare.call c12) (orCall 13 (ieee_Abs.call c13) (orCall 14 (remain_Remainder.call c14) (orCall 15 (soft_Add.call c15) (orCall 16 (ieee_Neg.call c16) (noCall)))))))), lay := lays }
noncomputable def cuts : List (Nat × List (Nat × Want)) := [(31, [(0, .keep), (1, .keep), (5, .keep)]), (1023, [(1, .keep), (5, .keep), (7, .keep), (8, .keep), (9, .keep)])]
noncomputable def s31 (x0 x1 x2 : Int) : ASt := ⟨[(0, .int .u64 x0), (1, .int .u64 x1), (5, .int .u64 x2)], []⟩
noncomputable def s1023 (x0 x1 : Int) (x2 : Bool) (x3 x4 : Int) : ASt := ⟨[(1, .int .u64 x0), (5, .int .u64 x1), (7, .bool x2), (8, .int .u64 x3), (9, .int .i64 x4)], []⟩
noncomputable def A (c7 : T33) (c10 : T10) (c11 : T0) (c12 : T29) (c13 : T0) (c14 c15 : T10) (c16 : T0) (n : Nat) (J : Jt (Bool)) (q : Nat) (ms : List Nat) : ASt→Ω (Bool) := acont (cfg c7 c10 c11 c12 c13 c14 c15 c16) J cuts n q code 1 ms (aend (cfg c7 c10 c11 c12 c13 c14 c15 c16) Tryd.f4.results.toList [false] sg.out)
theorem e0 {c7 c10 c11 c12 c13 c14 c15 c16 n J a0 a1} : afun (cfg c7 c10 c11 c12 c13 c14 c15 c16) J cuts n code Tryd.f4.results.toList [false] [.int .u64 a0, .int .u64 a1] sg.out = b0 c7 c10 c11 c12 c13 c14 c15 c16 (fun y0 y1 y2 => J 31 (A c7 c10 c11 c12 c13 c14 c15 c16 n J 31 []) (s31 y0 y1 y2)) a0 a1 := by kernel_rfl
theorem e31 {c7 c10 c11 c12 c13 c14 c15 c16 n J x0 x1 x2} : A c7 c10 c11 c12 c13 c14 c15 c16 n J 31 [] (s31 x0 x1 x2) = b31 c7 c10 c11 c12 c13 c14 c15 c16 (fun y0 y1 y2 y3 y4 => J 1023 (A c7 c10 c11 c12 c13 c14 c15 c16 n J 1023 []) (s1023 y0 y1 y2 y3 y4)) x0 x1 x2 := by kernel_rfl
theorem e1023 {c7 c10 c11 c12 c13 c14 c15 c16 n J x0 x1 x2 x3 x4} : A c7 c10 c11 c12 c13 c14 c15 c16 n J 1023 [] (s1023 x0 x1 x2 x3 x4) = b1023 c7 c10 c11 c12 c13 c14 c15 c16 x0 x1 x2 x3 x4 := by kernel_rfl
noncomputable abbrev I (n : Nat) := A (gather_Dot.f n) (remain_Fmod.f n) ieee_Class.f ieee_Compare.f ieee_Abs.f (remain_Remainder.f n) (soft_Add.f n) ieee_Neg.f n idJ
theorem q1023 (n x0 x1 x2 x3 x4) : I n 1023 [] (s1023 x0 x1 x2 x3 x4) = l1023 n x0 x1 x2 x3 x4 := e1023
theorem q31 (n x0 x1 x2) : I n 31 [] (s31 x0 x1 x2) = l31 n x0 x1 x2 := e31.trans (Eq.trans (cf3 (congrArg (b31 _ _ _ _ _ _ _ _) (fu5 (q1023 n))) _ _ _) rfl)
theorem ok {n  a0 a1 r} (h : f n a0 a1 = some r) : CallD Tryd.prog HW 4 [.int .u64 a0, .int .u64 a1] (sg.enc r) :=
  fun_some hwS Tryd.func4 (by kernel_rfl) (body := code) (by kernel_rfl) tys_ok (c := cfg (gather_Dot.f n) (remain_Fmod.f n) ieee_Class.f ieee_Compare.f ieee_Abs.f (remain_Remainder.f n) (soft_Add.f n) ieee_Neg.f) ⟨(orCall_ok (gather_Dot.call_ok (n := n)) (orCall_ok (remain_Fmod.call_ok (n := n)) (orCall_ok ieee_Class.call_ok (orCall_ok ieee_Compare.call_ok (orCall_ok ieee_Abs.call_ok (orCall_ok (remain_Remainder.call_ok (n := n)) (orCall_ok (soft_Add.call_ok (n := n)) (orCall_ok ieee_Neg.call_ok noCall_ok)))))))), noQ_ok'⟩ ⟨noW_ok, noP_ok'⟩ (by kernel_rfl) (by kernel_rfl) (Nat.le_of_ble_eq_true (by kernel_rfl)) (Eq.trans ((e0 (n := n)).trans (Eq.trans (cf2 (congrArg (b0 _ _ _ _ _ _ _ _) (fu3 (q31 n))) _ _) rfl)) h)
theorem walk {n : Nat} {a0 : Int} {a1 : Int} {r : Bool} (h : f n a0 a1 = some r) {w : World} (hw : HW w) : Calls Tryd.prog 4 (([.int .u64 a0, .int .u64 a1] : List D).map D.val).toArray w fun e w' => e = .returned (packV (sg.enc r)) ∧ Below w.heap.size w w' :=
  walk_scal (H := HW) rfl rfl (fun_calls hwS Tryd.func4 (by kernel_rfl) (body := code) (by kernel_rfl) tys_ok (c := cfg (gather_Dot.f n) (remain_Fmod.f n) ieee_Class.f ieee_Compare.f ieee_Abs.f (remain_Remainder.f n) (soft_Add.f n) ieee_Neg.f) ⟨(orCall_ok (gather_Dot.call_ok (n := n)) (orCall_ok (remain_Fmod.call_ok (n := n)) (orCall_ok ieee_Class.call_ok (orCall_ok ieee_Compare.call_ok (orCall_ok ieee_Abs.call_ok (orCall_ok (remain_Remainder.call_ok (n := n)) (orCall_ok (soft_Add.call_ok (n := n)) (orCall_ok ieee_Neg.call_ok noCall_ok)))))))), noQ_ok'⟩ ⟨noW_ok, noP_ok'⟩ (by kernel_rfl) (by kernel_rfl) (Nat.le_of_ble_eq_true (by kernel_rfl)) (Eq.trans ((e0 (n := n)).trans (Eq.trans (cf2 (congrArg (b0 _ _ _ _ _ _ _ _) (fu3 (q31 n))) _ _) rfl)) h)) hw
noncomputable def call {α : Type} (g : Int→Int→Ω (Bool)) (ds : List D) (K : List D→Ω α) : Ω α := match ds with
  | [.int .u64 a0, .int .u64 a1] => (g a0 a1).bind fun r => K (sg.enc r)
  | _ => none
theorem call_ok {α : Type} {n : Nat} : COK Tryd.prog HW 4 (call (α := α) (f n)) := fun _ _ _ h => by
  unfold call at h; split at h
  · exact cok h fun _ => ok
  · cases h
end abacustop_CoreLeft
end Go.Proofs.YtcacmhcekoeblaaDoor.F
