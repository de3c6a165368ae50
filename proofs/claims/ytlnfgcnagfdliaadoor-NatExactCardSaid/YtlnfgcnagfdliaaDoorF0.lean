/- What the functions compute, and that calls of them answer so (printed by gen.py). Conditions: HW, a table as it was laid. -/
import Derived.Test.YtlnfgcnagfdliaaDoorA17
import Derived.Test.YtlnfgcnagfdliaaDoorProg
namespace Go.Proofs.YtlnfgcnagfdliaaDoor.F
open Go.RowKit Go.Proofs.YtlnfgcnagfdliaaDoorA
set_option linter.unusedVariables false
set_option maxRecDepth 100000
abbrev Λ := List Int
abbrev Ω := Option
abbrev T0 := Λ→Ω (Λ)
abbrev T1 := Λ→Ω (Int)
abbrev T2 := Λ→Ω (Bool)
abbrev T3 := Λ→Ω (Λ × Int)
abbrev T4 := Int→Int→Int→Ω (Int × Int)
abbrev T5 := Λ→Λ→Ω (Λ × Int)
abbrev T6 := Λ→Λ→Ω (Λ)
abbrev T7 := Int→Ω (Int)
abbrev T8 := Int→Int→Ω (Int × Int)
abbrev T9 := Λ→Λ→Ω (Int)
abbrev T10 := Λ→Int→Ω (Int)
abbrev T11 := Λ→Λ→Int→Int→Λ→Ω (Λ)
abbrev T12 := Λ→Int→Ω (Λ × Int)
abbrev T13 := Λ→Int→Ω (Λ)
abbrev T14 := Int→Λ→Λ→Int→Int→Int→Ω (Λ × Int × Int × Bool × Int)
abbrev T15 := Int→List (Λ)→Ω (Λ × Int)
abbrev T16 := Int→Int→Int→Int→Int→Int→Int→Int→Int→Ω (Int × Int)
abbrev T17 := Int→Ω (Λ)
abbrev T18 := Λ→Ω (Int × Bool)
abbrev T19 := Λ→Int→Int→Ω (Λ × Int)
abbrev T20 := Λ→Int→Ω (Λ × Int × Int)
abbrev T21 := Λ→Int→Ω (Λ × Bool × Int)
abbrev T22 := Ω (Bool)
abbrev T23 := Λ→Int→Int→Int→Λ→Ω (Λ × Int × Int)
abbrev T24 := Λ→Int→Int→Bool→Int→Λ→Int→Int→Bool→Int→Ω (Bool)
abbrev T25 := Λ→Λ→Int→Int→Λ→Ω (Λ × Int)
abbrev T26 := Λ→Int→Int→Λ→Int→Λ→Ω (Λ × Int)
abbrev T27 := Int→Int→Ω (Int)
abbrev T28 := Λ→Λ→Int→Ω (Int)
abbrev T29 := Λ→Λ→Int→Λ→Ω (Λ)
abbrev T30 := Int→List (Λ)→Int→Ω (Λ × Int)
abbrev T31 := Λ→Λ→Int→Int→Int→Λ→Ω (Λ × Int)
abbrev T32 := Λ→Int→Λ→Ω (Λ)
abbrev T33 := Λ→Λ→Ω (Bool)
abbrev T34 := Λ→Int→Λ→Ω (Λ × Int)
abbrev T35 := Λ→Int→Int→Int→Int→Λ→Int→Int→Λ→Ω (Λ × Int)
abbrev T36 := Λ→Int→Int→Λ→Ω (Λ)
abbrev T37 := Λ→Int→Λ→Int→Ω (Λ)
abbrev T38 := Λ→Λ→Int→Int→Int→Λ→Ω (Λ)
abbrev T39 := Int→Λ→Ω (Λ × Int × Int)
abbrev T40 := Λ→Int→Int→Int→Int→Λ→Ω (Λ × Int × Int)
abbrev T41 := Int→Λ→Int→Λ→Ω (Λ)
abbrev T42 := Int→Λ→Int→Int→Λ→Ω (Λ)
abbrev T43 := Λ→Int→Int→Int→Λ→Ω (Λ)
abbrev T44 := Int→Λ→Int→Int→Int→Ω (Λ)
abbrev T45 := Λ→Int→Int→Int→Int→Λ→Ω (Λ)
abbrev T46 := Int→List (Λ)→Int→Λ→Ω (Λ × Int)
abbrev T47 := Int→Int→Int→Int→Int→Λ→Ω (Λ × Int)
abbrev T48 := Λ→Int→Int→Int→Int→Λ→Ω (Λ × Int)
abbrev T49 := Int→Int→Int→Int→Int→Int→Int→Int→Ω (Int × Int)
abbrev T50 := Int→Int→Int→Int→Int→Int→Ω (Int × Int)
abbrev T51 := Int→Int→Λ→Int→Int→Λ→Ω (Λ × Int)
abbrev T52 := Λ→Bool→Int→Int→Int→Int→Λ→Ω (Λ × Bool × Int)
abbrev T53 := Λ→Int→List (Λ)→Int→Ω (Λ × Int)
abbrev T54 := Int→Int→Int→Λ→Ω (Λ × Int)
abbrev T55 := Int→Λ→List (Λ)→List (Λ)→Λ→Λ→Λ→Int→Ω (Bool)
/-- The table of math/bits.TrailingZeros64 stands as it was laid. -/
def HW : World → Prop := fun w => ∀ j, j < 64 → w.cell? ⟨0, j, none⟩ = some (.int .u8 ((Lib.deBruijn64tab.getD j 0 : Nat) : Int))
theorem hwS : ∀ w w' : World, Below w.heap.size w w' → HW w → HW w' := fun w w' hb h j hj => by
  have h1 := h j hj
  rw [← h1]
  exact hb.cell (Nat.lt_of_not_le fun hn => by simp [World.cell?, Array.getElem?_eq_none hn] at h1)
def tys : List (Nat × TI) := [(3, ⟨.int .i64, 1, 8, [.int .i64 0], false⟩),
  (4, ⟨.bool, 1, 1, [.bool false], false⟩),
  (22, ⟨.slice 27, 1, 24, [.nil], false⟩),
  (24, ⟨.slice 25, 1, 24, [.nil], false⟩),
  (25, ⟨.int .u64, 1, 8, [.int .u64 0], false⟩),
  (27, ⟨.struct [(0, 1, false), (1, 1, false), (2, 1, false), (3, 1, false), (4, 1, false), (5, 1, false)], 6, 80, [.int .i64 0, .nil, .nil, .int .u64 0, .int .u64 0, .int .i64 0], false⟩),
  (29, ⟨.struct [(0, 1, false), (1, 1, false), (2, 1, false), (3, 1, false), (4, 1, false)], 5, 56, [.nil, .int .u64 0, .int .i64 0, .bool false, .int .i64 0], false⟩),
  (34, ⟨.slice 24, 1, 24, [.nil], false⟩),
  (106, ⟨.int .u64, 1, 8, [.int .u64 0], false⟩)]
theorem tys_ok : TOK Tryd.prog tys := tok_of (by kernel_rfl)
/-! ### nat_size: function 118 -/
namespace nat_size
noncomputable def b0 (k57 : T10) (l0 : Λ) : Ω (Int) := k57 l0 (ln l0)
noncomputable def b57 (k57 : T10) (x0 : Λ) (x1 : Int) : Ω (Int) := (if x1 > 0 then (if 0 ≤ (wrap64 (x1 - 1)) then (if (wrap64 (x1 - 1)) < (ln x0) then (if (rd x0 (wrap64 (x1 - 1))) = 0 then k57 x0 (wrap64 (x1 - 1)) else some x1) else none) else none) else some x1)
noncomputable def l57 (n : Nat) : Nat→Λ→Int→Ω (Int)
  | 0, _, _ => none
  | m + 1, x0, x1 => b57 (l57 n m) x0 x1
noncomputable def f (n : Nat) (l0 : Λ) : Ω (Int) := b0 (l57 n n) l0
noncomputable def sg : Sig (Int) := s1 (sInt .i64)
noncomputable def code : Code := (Tryd.f118.body).getD .skip
noncomputable def cfg : Cfg (Int) := { T := tys, call := noCall }
noncomputable def cuts : List (Nat × List (Nat × Want)) := [(57, [(0, .keep), (3, .keep)])]
noncomputable def s57 (x0 : Λ) (x1 : Int) : ASt := ⟨[(0, .ro .u64 x0), (3, .int .i64 x1)], []⟩
noncomputable def A (n : Nat) (J : Jt (Int)) (q : Nat) (ms : List Nat) : ASt→Ω (Int) := acont cfg J cuts n q code 1 ms (aend cfg Tryd.f118.results.toList [false] sg.out)
theorem e0 {n J l0} : afun cfg J cuts n code Tryd.f118.results.toList [false] [.ro .u64 l0] sg.out = b0 (fun y0 y1 => J 57 (A n J 57 [n]) (s57 y0 y1)) l0 := by kernel_rfl
theorem e57 {n J m x0 x1} : A n J 57 [m + 1] (s57 x0 x1) = b57 (fun y0 y1 => J 57 (A n J 57 [m]) (s57 y0 y1)) x0 x1 := by kernel_rfl
noncomputable abbrev I (n : Nat) := A n idJ
theorem q57 (n m) : ∀ x0 x1, I n 57 [m] (s57 x0 x1) = l57 n m x0 x1 := by
  induction m with
  | zero => intros; rfl
  | succ m ih =>
    intros
    exact e57.trans (Eq.trans (cf2 (congrArg b57 (fu2 (ih))) _ _) rfl)
theorem ok {n  l0 r} (h : f n l0 = some r) : CallD Tryd.prog HW 118 [.ro .u64 l0] (sg.enc r) :=
  fun_some hwS Tryd.func118 (by kernel_rfl) (body := code) (by kernel_rfl) tys_ok (c := cfg) noCall_ok noW_ok (by kernel_rfl) (by kernel_rfl) (Nat.le_of_ble_eq_true (by kernel_rfl)) (Eq.trans ((e0 (n := n)).trans (Eq.trans (cf1 (congrArg b0 (fu2 (q57 n n))) _) rfl)) h)
noncomputable def call {α : Type} (g : T1) (ds : List D) (K : List D→Ω α) : Ω α := match ds with
  | [.ro .u64 l0] => (g l0).bind fun r => K (sg.enc r)
  | _ => none
theorem call_ok {α : Type} {n : Nat} : COK Tryd.prog HW 118 (call (α := α) (f n)) := fun _ _ _ h => by
  unfold call at h; split at h
  · exact cok h fun _ => ok
  · cases h
end nat_size
/-! ### nat_big: function 117 -/
namespace nat_big
noncomputable def b0 (c118 : T1) (l0 : Λ) : Ω (Bool) := ((c118 l0).bind fun t1 => some (decide (t1 > 4096)))
noncomputable def f (n : Nat) (l0 : Λ) : Ω (Bool) := b0 (nat_size.f n) l0
noncomputable def sg : Sig (Bool) := s1 (sBool)
noncomputable def code : Code := (Tryd.f117.body).getD .skip
noncomputable def cfg (c118 : T1) : Cfg (Bool) := { T := tys, call := orCall 118 (nat_size.call c118) (noCall) }
noncomputable def cuts : List (Nat × List (Nat × Want)) := []
theorem e0 {c118 n J l0} : afun (cfg c118) J cuts n code Tryd.f117.results.toList [false] [.ro .u64 l0] sg.out = b0 c118 l0 := by kernel_rfl
theorem ok {n  l0 r} (h : f n l0 = some r) : CallD Tryd.prog HW 117 [.ro .u64 l0] (sg.enc r) :=
  fun_some hwS Tryd.func117 (by kernel_rfl) (body := code) (by kernel_rfl) tys_ok (c := cfg (nat_size.f n)) (orCall_ok (nat_size.call_ok (n := n)) noCall_ok) noW_ok (by kernel_rfl) (by kernel_rfl) (Nat.le_of_ble_eq_true (by kernel_rfl)) (Eq.trans ((e0 (n := n))) h)
noncomputable def call {α : Type} (g : T2) (ds : List D) (K : List D→Ω α) : Ω α := match ds with
  | [.ro .u64 l0] => (g l0).bind fun r => K (sg.enc r)
  | _ => none
theorem call_ok {α : Type} {n : Nat} : COK Tryd.prog HW 117 (call (α := α) (f n)) := fun _ _ _ h => by
  unfold call at h; split at h
  · exact cok h fun _ => ok
  · cases h
end nat_big
/-! ### bits_Add64: function 119 -/
namespace bits_Add64
def f (a0 a1 a2 : Int) : Ω (Int × Int) := if 0 ≤ a0 ∧ 0 ≤ a1 ∧ 0 ≤ a2 ∧ a2 ≤ 1 then some ((a0 + a1 + a2) % 18446744073709551616, (a0 + a1 + a2) / 18446744073709551616) else none
def sg : Sig (Int × Int) := s2 (sInt .u64) (s1 (sInt .u64))
theorem ok {a0 a1 a2 : Int} {r : Int × Int} (h : f a0 a1 a2 = some r) : CallD Tryd.prog HW 119 [.int .u64 a0, .int .u64 a1, .int .u64 a2] (sg.enc r) := by
  unfold f at h
  split at h
  · rename_i hh
    obtain rfl := Option.some.inj h
    exact calld_scal rfl rfl fun w _ => .inr ⟨_, _, run_add64' Tryd.func119 (by kernel_rfl) (by kernel_rfl) (by kernel_rfl) (by kernel_rfl) a0 a1 a2 hh.1 hh.2.1 hh.2.2.1 hh.2.2.2 w, rfl, rfl⟩
  · cases h
noncomputable def call {α : Type} (g : T4) (ds : List D) (K : List D→Ω α) : Ω α := match ds with
  | [.int .u64 a0, .int .u64 a1, .int .u64 a2] => (g a0 a1 a2).bind fun r => K (sg.enc r)
  | _ => none
theorem call_ok {α : Type} : COK Tryd.prog HW 119 (call (α := α) f) := fun _ _ _ h => by
  unfold call at h; split at h
  · exact cok h fun _ => ok
  · cases h
end bits_Add64
/-! ### nat_cut: function 120 -/
namespace nat_cut
noncomputable def b0 (c118 : T1) (l0 : Λ) : Ω (Λ × Int) := ((c118 l0).bind fun t1 => (if t1 > 4096 then some (([] : Λ), 2) else (if 0 ≤ t1 then (if t1 ≤ t1 then (if t1 ≤ (ln l0) then ((some (l0.take t1.toNat) : Ω (Λ)).bind fun y2 => some (y2, 0)) else none) else none) else none)))
noncomputable def f (n : Nat) (l0 : Λ) : Ω (Λ × Int) := b0 (nat_size.f n) l0
noncomputable def sg : Sig (Λ × Int) := s2 (sRow .u64) (s1 (sInt .i64))
noncomputable def code : Code := (Tryd.f120.body).getD .skip
noncomputable def cfg (c118 : T1) : Cfg (Λ × Int) := { T := tys, call := orCall 118 (nat_size.call c118) (noCall) }
noncomputable def cuts : List (Nat × List (Nat × Want)) := []
theorem e0 {c118 n J l0} : afun (cfg c118) J cuts n code Tryd.f120.results.toList [false, false] [.ro .u64 l0] sg.out = b0 c118 l0 := by kernel_rfl
theorem ok {n  l0 r} (h : f n l0 = some r) : CallD Tryd.prog HW 120 [.ro .u64 l0] (sg.enc r) :=
  fun_some hwS Tryd.func120 (by kernel_rfl) (body := code) (by kernel_rfl) tys_ok (c := cfg (nat_size.f n)) (orCall_ok (nat_size.call_ok (n := n)) noCall_ok) noW_ok (by kernel_rfl) (by kernel_rfl) (Nat.le_of_ble_eq_true (by kernel_rfl)) (Eq.trans ((e0 (n := n))) h)
noncomputable def call {α : Type} (g : T3) (ds : List D) (K : List D→Ω α) : Ω α := match ds with
  | [.ro .u64 l0] => (g l0).bind fun r => K (sg.enc r)
  | _ => none
theorem call_ok {α : Type} {n : Nat} : COK Tryd.prog HW 120 (call (α := α) (f n)) := fun _ _ _ h => by
  unfold call at h; split at h
  · exact cok h fun _ => ok
  · cases h
end nat_cut
/-! ### nat_Add: function 32 -/
namespace nat_Add
noncomputable def b0 (c117 : T2) (c118 : T1) (c119 : T4) (c120 : T3) (k31 : T5) (l0 l1 : Λ) : Ω (Λ × Int) := ((c117 l0).bind fun t1 => (if t1 = true then some (([] : Λ), 2) else ((c117 l1).bind fun t2 => (if t2 = true then some (([] : Λ), 2) else ((c118 l0).bind fun t3 => (if 0 ≤ t3 then (if t3 ≤ (ln l0) then ((some (l0.take t3.toNat) : Ω (Λ)).bind fun y4 => ((c118 l1).bind fun t5 => (if 0 ≤ t5 then (if t5 ≤ (ln l1) then ((some (l1.take t5.toNat) : Ω (Λ)).bind fun y6 => (if (ln y4) < (ln y6) then k31 y6 y4 else k31 y4 y6)) else none) else none))) else none) else none))))))
noncomputable def b31 (c117 : T2) (c118 : T1) (c119 : T4) (c120 : T3) (k2037 : T31) (x0 x1 : Λ) : Ω (Λ × Int) := (if 0 ≤ (wrap64 ((ln x0) + 1)) then (if (wrap64 ((ln x0) + 1)).toNat ≤ 35184372088832 then k2037 x0 x1 0 0 (ln x0) (List.replicate (wrap64 ((ln x0) + 1)).toNat (0 : Int)) else none) else none)
noncomputable def b255 (c117 : T2) (c118 : T1) (c119 : T4) (c120 : T3) (x0 : Λ) (x1 : Int) (x2 : Λ) : Ω (Λ × Int) := (if 0 ≤ (ln x0) then (if (ln x0) < (ln x2) then ((c120 (x2.set ((ln x0) : Int).toNat x1)).bind fun t1 => some (t1.1, t1.2)) else none) else none)
noncomputable def b2037 (c117 : T2) (c118 : T1) (c119 : T4) (c120 : T3) (k255 : T34) (k260711 : Λ→Λ→Int→Int→Int→Int→Int→Λ→Ω (Λ × Int)) (x0 x1 : Λ) (x2 x3 x4 : Int) (x5 : Λ) : Ω (Λ × Int) := (if x3 < x4 then (if 0 ≤ x3 then (if x3 < (ln x0) then (if x3 < (ln x1) then (if 0 ≤ x3 then (if x3 < (ln x1) then k260711 x0 x1 x2 x3 (rd x0 x3) (rd x1 x3) x4 x5 else none) else none) else k260711 x0 x1 x2 x3 (rd x0 x3) 0 x4 x5) else none) else none) else k255 x0 x2 x5)
noncomputable def b260711 (c117 : T2) (c118 : T1) (c119 : T4) (c120 : T3) (k2037 : T31) (x0 x1 : Λ) (x2 x3 x4 x5 x6 : Int) (x7 : Λ) : Ω (Λ × Int) := ((c119 x4 x5 x2).bind fun t1 => (if 0 ≤ x3 then (if x3 < (ln x7) then k2037 x0 x1 t1.2 (wrap64 (x3 + 1)) x6 (x7.set (x3 : Int).toNat t1.1) else none) else none))
noncomputable def l255 (n : Nat) (x0 : Λ) (x1 : Int) (x2 : Λ) : Ω (Λ × Int) := b255 (nat_big.f n) (nat_size.f n) bits_Add64.f (nat_cut.f n) x0 x1 x2
noncomputable def l260711 (n : Nat) (k2037 : T31) (x0 x1 : Λ) (x2 x3 x4 x5 x6 : Int) (x7 : Λ) : Ω (Λ × Int) := b260711 (nat_big.f n) (nat_size.f n) bits_Add64.f (nat_cut.f n) k2037 x0 x1 x2 x3 x4 x5 x6 x7
noncomputable def l2037 (n : Nat) : Nat→Λ→Λ→Int→Int→Int→Λ→Ω (Λ × Int)
  | 0, _, _, _, _, _, _ => none
  | m + 1, x0, x1, x2, x3, x4, x5 => b2037 (nat_big.f n) (nat_size.f n) bits_Add64.f (nat_cut.f n) (l255 n) (l260711 n (l2037 n m)) x0 x1 x2 x3 x4 x5
noncomputable def l31 (n : Nat) (x0 x1 : Λ) : Ω (Λ × Int) := b31 (nat_big.f n) (nat_size.f n) bits_Add64.f (nat_cut.f n) (l2037 n n) x0 x1
noncomputable def f (n : Nat) (l0 l1 : Λ) : Ω (Λ × Int) := b0 (nat_big.f n) (nat_size.f n) bits_Add64.f (nat_cut.f n) (l31 n) l0 l1
noncomputable def sg : Sig (Λ × Int) := s2 (sRow .u64) (s1 (sInt .i64))
noncomputable def code : Code := (Tryd.f32.body).getD .skip
noncomputable def cfg (c117 : T2) (c118 : T1) (c119 : T4) (c120 : T3) : Cfg (Λ × Int) := { T := tys, call := orCall 117 (nat_big.call c117) (orCall 118 (nat_size.call c118) (orCall 119 (bits_Add64.call c119) (orCall 120 (nat_cut.call c120) (noCall)))) }
noncomputable def cuts : List (Nat × List (Nat × Want)) := [(31, [(0, .keep), (1, .keep)]), (255, [(0, .keep), (6, .keep), (7, .keep)]), (2037, [(0, .keep), (1, .keep), (6, .keep), (7, .keep), (36, .keep), (37, .keep), (38, .keep)]), (260711, [(0, .keep), (1, .keep), (6, .keep), (7, .keep), (8, .keep), (9, .keep), (10, .keep), (36, .keep), (37, .keep), (38, .keep)])]
noncomputable def s31 (x0 x1 : Λ) : ASt := ⟨[(0, .ro .u64 x0), (1, .ro .u64 x1)], []⟩
noncomputable def s255 (x0 : Λ) (x1 : Int) (x2 : Λ) : ASt := ⟨[(0, .ro .u64 x0), (6, .own 0), (7, .int .u64 x1)], [.ints 25 .u64 x2]⟩
noncomputable def s2037 (x0 x1 : Λ) (x2 x3 x4 : Int) (x5 : Λ) : ASt := ⟨[(0, .ro .u64 x0), (1, .ro .u64 x1), (6, .own 0), (7, .int .u64 x2), (36, .ro .u64 x0), (37, .int .i64 x4), (38, .int .i64 x3)], [.ints 25 .u64 x5]⟩
noncomputable def s260711 (x0 x1 : Λ) (x2 x3 x4 x5 x6 : Int) (x7 : Λ) : ASt := ⟨[(0, .ro .u64 x0), (1, .ro .u64 x1), (6, .own 0), (7, .int .u64 x2), (8, .int .i64 x3), (9, .int .u64 x4), (10, .int .u64 x5), (36, .ro .u64 x0), (37, .int .i64 x6), (38, .int .i64 x3)], [.ints 25 .u64 x7]⟩
noncomputable def A (c117 : T2) (c118 : T1) (c119 : T4) (c120 : T3) (n : Nat) (J : Jt (Λ × Int)) (q : Nat) (ms : List Nat) : ASt→Ω (Λ × Int) := acont (cfg c117 c118 c119 c120) J cuts n q code 1 ms (aend (cfg c117 c118 c119 c120) Tryd.f32.results.toList [false, false] sg.out)
theorem e0 {c117 c118 c119 c120 n J l0 l1} : afun (cfg c117 c118 c119 c120) J cuts n code Tryd.f32.results.toList [false, false] [.ro .u64 l0, .ro .u64 l1] sg.out = b0 c117 c118 c119 c120 (fun y0 y1 => J 31 (A c117 c118 c119 c120 n J 31 []) (s31 y0 y1)) l0 l1 := by kernel_rfl
theorem e31 {c117 c118 c119 c120 n J x0 x1} : A c117 c118 c119 c120 n J 31 [] (s31 x0 x1) = b31 c117 c118 c119 c120 (fun y0 y1 y2 y3 y4 y5 => J 2037 (A c117 c118 c119 c120 n J 2037 [n]) (s2037 y0 y1 y2 y3 y4 y5)) x0 x1 := by kernel_rfl
theorem e255 {c117 c118 c119 c120 n J x0 x1 x2} : A c117 c118 c119 c120 n J 255 [] (s255 x0 x1 x2) = b255 c117 c118 c119 c120 x0 x1 x2 := by kernel_rfl
theorem e2037 {c117 c118 c119 c120 n J m x0 x1 x2 x3 x4 x5} : A c117 c118 c119 c120 n J 2037 [m + 1] (s2037 x0 x1 x2 x3 x4 x5) = b2037 c117 c118 c119 c120 (fun y0 y1 y2 => J 255 (A c117 c118 c119 c120 n J 255 []) (s255 y0 y1 y2)) (fun y0 y1 y2 y3 y4 y5 y6 y7 => J 260711 (A c117 c118 c119 c120 n J 260711 [m]) (s260711 y0 y1 y2 y3 y4 y5 y6 y7)) x0 x1 x2 x3 x4 x5 := by kernel_rfl
theorem e260711 {c117 c118 c119 c120 n J m2037 x0 x1 x2 x3 x4 x5 x6 x7} : A c117 c118 c119 c120 n J 260711 [m2037] (s260711 x0 x1 x2 x3 x4 x5 x6 x7) = b260711 c117 c118 c119 c120 (fun y0 y1 y2 y3 y4 y5 => J 2037 (A c117 c118 c119 c120 n J 2037 [m2037]) (s2037 y0 y1 y2 y3 y4 y5)) x0 x1 x2 x3 x4 x5 x6 x7 := by kernel_rfl
noncomputable abbrev I (n : Nat) := A (nat_big.f n) (nat_size.f n) bits_Add64.f (nat_cut.f n) n idJ
theorem q255 (n x0 x1 x2) : I n 255 [] (s255 x0 x1 x2) = l255 n x0 x1 x2 := e255
theorem q260711 (n m2037 x0 x1 x2 x3 x4 x5 x6 x7) : I n 260711 [m2037] (s260711 x0 x1 x2 x3 x4 x5 x6 x7) = l260711 n (fun y0 y1 y2 y3 y4 y5 => I n 2037 [m2037] (s2037 y0 y1 y2 y3 y4 y5)) x0 x1 x2 x3 x4 x5 x6 x7 := e260711
theorem q2037 (n m) : ∀ x0 x1 x2 x3 x4 x5, I n 2037 [m] (s2037 x0 x1 x2 x3 x4 x5) = l2037 n m x0 x1 x2 x3 x4 x5 := by
  induction m with
  | zero => intros; rfl
  | succ m ih =>
    intros
    exact e2037.trans (Eq.trans (cf6 (congr (congrArg (b2037 _ _ _ _) (fu3 (q255 n))) ((fu8 (q260711 n m)).trans (by rw [show (fun y0 y1 y2 y3 y4 y5 => I n 2037 [m] (s2037 y0 y1 y2 y3 y4 y5)) = _ from (fu6 (ih))]))) _ _ _ _ _ _) rfl)
theorem q31 (n x0 x1) : I n 31 [] (s31 x0 x1) = l31 n x0 x1 := e31.trans (Eq.trans (cf2 (congrArg (b31 _ _ _ _) (fu6 (q2037 n n))) _ _) rfl)
theorem ok {n  l0 l1 r} (h : f n l0 l1 = some r) : CallD Tryd.prog HW 32 [.ro .u64 l0, .ro .u64 l1] (sg.enc r) :=
  fun_some hwS Tryd.func32 (by kernel_rfl) (body := code) (by kernel_rfl) tys_ok (c := cfg (nat_big.f n) (nat_size.f n) bits_Add64.f (nat_cut.f n)) (orCall_ok (nat_big.call_ok (n := n)) (orCall_ok (nat_size.call_ok (n := n)) (orCall_ok bits_Add64.call_ok (orCall_ok (nat_cut.call_ok (n := n)) noCall_ok)))) noW_ok (by kernel_rfl) (by kernel_rfl) (Nat.le_of_ble_eq_true (by kernel_rfl)) (Eq.trans ((e0 (n := n)).trans (Eq.trans (cf2 (congrArg (b0 _ _ _ _) (fu2 (q31 n))) _ _) rfl)) h)
noncomputable def call {α : Type} (g : T5) (ds : List D) (K : List D→Ω α) : Ω α := match ds with
  | [.ro .u64 l0, .ro .u64 l1] => (g l0 l1).bind fun r => K (sg.enc r)
  | _ => none
theorem call_ok {α : Type} {n : Nat} : COK Tryd.prog HW 32 (call (α := α) (f n)) := fun _ _ _ h => by
  unfold call at h; split at h
  · exact cok h fun _ => ok
  · cases h
end nat_Add
/-! ### bits_Mul64: function 121 -/
namespace bits_Mul64
noncomputable def b0 (a0 a1 : Int) : Ω (Int × Int) := some (IntKind.u64.wrap ((IntKind.u64.wrap ((IntKind.u64.wrap ((a0 / 4294967296) * (a1 / 4294967296))) + ((IntKind.u64.wrap ((IntKind.u64.wrap ((a0 / 4294967296) * (Go.bits .and .u64 a1 4294967295))) + ((IntKind.u64.wrap ((Go.bits .and .u64 a0 4294967295) * (Go.bits .and .u64 a1 4294967295))) / 4294967296))) / 4294967296))) + ((IntKind.u64.wrap ((Go.bits .and .u64 (IntKind.u64.wrap ((IntKind.u64.wrap ((a0 / 4294967296) * (Go.bits .and .u64 a1 4294967295))) + ((IntKind.u64.wrap ((Go.bits .and .u64 a0 4294967295) * (Go.bits .and .u64 a1 4294967295))) / 4294967296))) 4294967295) + (IntKind.u64.wrap ((Go.bits .and .u64 a0 4294967295) * (a1 / 4294967296))))) / 4294967296)), IntKind.u64.wrap (a0 * a1))
noncomputable def f (a0 a1 : Int) : Ω (Int × Int) := b0 a0 a1
noncomputable def sg : Sig (Int × Int) := s2 (sInt .u64) (s1 (sInt .u64))
noncomputable def code : Code := (Tryd.f121.body).getD .skip
noncomputable def cfg : Cfg (Int × Int) := { T := tys, call := noCall }
noncomputable def cuts : List (Nat × List (Nat × Want)) := []
theorem e0 {n J a0 a1} : afun cfg J cuts n code Tryd.f121.results.toList [false, false] [.int .u64 a0, .int .u64 a1] sg.out = b0 a0 a1 := by kernel_rfl
theorem ok {a0 a1 r} (h : f a0 a1 = some r) : CallD Tryd.prog HW 121 [.int .u64 a0, .int .u64 a1] (sg.enc r) :=
  fun_some hwS Tryd.func121 (by kernel_rfl) (body := code) (by kernel_rfl) tys_ok (c := cfg) noCall_ok noW_ok (by kernel_rfl) (by kernel_rfl) (Nat.le_of_ble_eq_true (by kernel_rfl)) (Eq.trans ((e0 (n := 0))) h)
noncomputable def call {α : Type} (g : T8) (ds : List D) (K : List D→Ω α) : Ω α := match ds with
  | [.int .u64 a0, .int .u64 a1] => (g a0 a1).bind fun r => K (sg.enc r)
  | _ => none
theorem call_ok {α : Type} : COK Tryd.prog HW 121 (call (α := α) f) := fun _ _ _ h => by
  unfold call at h; split at h
  · exact cok h fun _ => ok
  · cases h
end bits_Mul64
/-! ### nat_Mul: function 33 -/
namespace nat_Mul
noncomputable def b0 (c117 : T2) (c118 : T1) (c119 : T4) (c120 : T3) (c121 : T8) (k2037 : T25) (l0 l1 : Λ) : Ω (Λ × Int) := ((c117 l0).bind fun t1 => (if t1 = true then some (([] : Λ), 2) else ((c117 l1).bind fun t2 => (if t2 = true then some (([] : Λ), 2) else ((c118 l0).bind fun t3 => (if 0 ≤ t3 then (if t3 ≤ (ln l0) then ((some (l0.take t3.toNat) : Ω (Λ)).bind fun y4 => ((c118 l1).bind fun t5 => (if 0 ≤ t5 then (if t5 ≤ (ln l1) then ((some (l1.take t5.toNat) : Ω (Λ)).bind fun y6 => (if (ln y4) = 0 then some (([] : Λ), 0) else (if (ln y6) = 0 then some (([] : Λ), 0) else (if (wrap64 ((wrap64 ((ln y4) + (ln y6))) - 1)) > 4096 then some (([] : Λ), 2) else (if 0 ≤ (wrap64 ((ln y4) + (ln y6))) then (if (wrap64 ((ln y4) + (ln y6))).toNat ≤ 35184372088832 then k2037 y6 y4 (ln y4) 0 (List.replicate (wrap64 ((ln y4) + (ln y6))).toNat (0 : Int)) else none) else none))))) else none) else none))) else none) else none))))))
noncomputable def b255 (c117 : T2) (c118 : T1) (c119 : T4) (c120 : T3) (c121 : T8) (x0 : Λ) : Ω (Λ × Int) := ((c120 x0).bind fun t1 => some (t1.1, t1.2))
noncomputable def b2037 (c117 : T2) (c118 : T1) (c119 : T4) (c120 : T3) (c121 : T8) (k255 : T3) (k2085685 : T35) (x0 x1 : Λ) (x2 x3 : Int) (x4 : Λ) : Ω (Λ × Int) := (if x3 < x2 then (if 0 ≤ x3 then (if x3 < (ln x1) then k2085685 x0 x3 0 0 (rd x1 x3) x1 x2 (ln x0) x4 else none) else none) else k255 x4)
noncomputable def b260711 (c117 : T2) (c118 : T1) (c119 : T4) (c120 : T3) (c121 : T8) (k2037 : T25) (x0 : Λ) (x1 x2 : Int) (x3 : Λ) (x4 : Int) (x5 : Λ) : Ω (Λ × Int) := (if 0 ≤ (wrap64 (x1 + (ln x0))) then (if (wrap64 (x1 + (ln x0))) < (ln x5) then k2037 x0 x3 x4 (wrap64 (x1 + 1)) (x5.set (wrap64 (x1 + (ln x0)) : Int).toNat x2) else none) else none)
noncomputable def b2085685 (c117 : T2) (c118 : T1) (c119 : T4) (c120 : T3) (c121 : T8) (k260711 : T26) (k2085685 : T35) (x0 : Λ) (x1 x2 x3 x4 : Int) (x5 : Λ) (x6 x7 : Int) (x8 : Λ) : Ω (Λ × Int) := (if x3 < x7 then (if 0 ≤ x3 then (if x3 < (ln x0) then ((c121 x4 (rd x0 x3)).bind fun t1 => (if 0 ≤ (wrap64 (x1 + x3)) then (if (wrap64 (x1 + x3)) < (ln x8) then ((c119 t1.2 (rd x8 (wrap64 (x1 + x3))) 0).bind fun t2 => ((c119 t2.1 x2 0).bind fun t3 => (if 0 ≤ (wrap64 (x1 + x3)) then (if (wrap64 (x1 + x3)) < (ln x8) then k2085685 x0 x1 (IntKind.u64.wrap ((IntKind.u64.wrap (t1.1 + t2.2)) + t3.2)) (wrap64 (x3 + 1)) x4 x5 x6 x7 (x8.set (wrap64 (x1 + x3) : Int).toNat t3.1) else none) else none))) else none) else none)) else none) else none) else k260711 x0 x1 x2 x5 x6 x8)
noncomputable def l255 (n : Nat) (x0 : Λ) : Ω (Λ × Int) := b255 (nat_big.f n) (nat_size.f n) bits_Add64.f (nat_cut.f n) bits_Mul64.f x0
noncomputable def l260711 (n : Nat) (k2037 : T25) (x0 : Λ) (x1 x2 : Int) (x3 : Λ) (x4 : Int) (x5 : Λ) : Ω (Λ × Int) := b260711 (nat_big.f n) (nat_size.f n) bits_Add64.f (nat_cut.f n) bits_Mul64.f k2037 x0 x1 x2 x3 x4 x5
noncomputable def l2085685 (n : Nat) (k2037 : T25) : Nat→Λ→Int→Int→Int→Int→Λ→Int→Int→Λ→Ω (Λ × Int)
  | 0, _, _, _, _, _, _, _, _, _ => none
  | m + 1, x0, x1, x2, x3, x4, x5, x6, x7, x8 => b2085685 (nat_big.f n) (nat_size.f n) bits_Add64.f (nat_cut.f n) bits_Mul64.f (l260711 n k2037) (l2085685 n k2037 m) x0 x1 x2 x3 x4 x5 x6 x7 x8
noncomputable def l2037 (n : Nat) : Nat→Λ→Λ→Int→Int→Λ→Ω (Λ × Int)
  | 0, _, _, _, _, _ => none
  | m + 1, x0, x1, x2, x3, x4 => b2037 (nat_big.f n) (nat_size.f n) bits_Add64.f (nat_cut.f n) bits_Mul64.f (l255 n) (l2085685 n (l2037 n m) n) x0 x1 x2 x3 x4
noncomputable def f (n : Nat) (l0 l1 : Λ) : Ω (Λ × Int) := b0 (nat_big.f n) (nat_size.f n) bits_Add64.f (nat_cut.f n) bits_Mul64.f (l2037 n n) l0 l1
noncomputable def sg : Sig (Λ × Int) := s2 (sRow .u64) (s1 (sInt .i64))
noncomputable def code : Code := (Tryd.f33.body).getD .skip
noncomputable def cfg (c117 : T2) (c118 : T1) (c119 : T4) (c120 : T3) (c121 : T8) : Cfg (Λ × Int) := { T := tys, call := orCall 117 (nat_big.call c117) (orCall 118 (nat_size.call c118) (orCall 119 (bits_Add64.call c119) (orCall 120 (nat_cut.call c120) (orCall 121 (bits_Mul64.call c121) (noCall))))) }
noncomputable def cuts : List (Nat × List (Nat × Want)) := [(255, [(6, .keep)]), (2037, [(1, .keep), (6, .keep), (50, .keep), (51, .keep), (52, .keep)]), (260711, [(1, .keep), (6, .keep), (7, .keep), (9, .keep), (50, .keep), (51, .keep), (52, .keep)]), (2085685, [(1, .keep), (6, .keep), (7, .keep), (8, .keep), (9, .keep), (50, .keep), (51, .keep), (52, .keep), (57, .keep), (58, .keep), (59, .keep)])]
noncomputable def s255 (x0 : Λ) : ASt := ⟨[(6, .own 0)], [.ints 25 .u64 x0]⟩
noncomputable def s2037 (x0 x1 : Λ) (x2 x3 : Int) (x4 : Λ) : ASt := ⟨[(1, .ro .u64 x0), (6, .own 0), (50, .ro .u64 x1), (51, .int .i64 x2), (52, .int .i64 x3)], [.ints 25 .u64 x4]⟩
noncomputable def s260711 (x0 : Λ) (x1 x2 : Int) (x3 : Λ) (x4 : Int) (x5 : Λ) : ASt := ⟨[(1, .ro .u64 x0), (6, .own 0), (7, .int .i64 x1), (9, .int .u64 x2), (50, .ro .u64 x3), (51, .int .i64 x4), (52, .int .i64 x1)], [.ints 25 .u64 x5]⟩
noncomputable def s2085685 (x0 : Λ) (x1 x2 x3 x4 : Int) (x5 : Λ) (x6 x7 : Int) (x8 : Λ) : ASt := ⟨[(1, .ro .u64 x0), (6, .own 0), (7, .int .i64 x1), (8, .int .u64 x4), (9, .int .u64 x2), (50, .ro .u64 x5), (51, .int .i64 x6), (52, .int .i64 x1), (57, .ro .u64 x0), (58, .int .i64 x7), (59, .int .i64 x3)], [.ints 25 .u64 x8]⟩
noncomputable def A (c117 : T2) (c118 : T1) (c119 : T4) (c120 : T3) (c121 : T8) (n : Nat) (J : Jt (Λ × Int)) (q : Nat) (ms : List Nat) : ASt→Ω (Λ × Int) := acont (cfg c117 c118 c119 c120 c121) J cuts n q code 1 ms (aend (cfg c117 c118 c119 c120 c121) Tryd.f33.results.toList [false, false] sg.out)
theorem e0 {c117 c118 c119 c120 c121 n J l0 l1} : afun (cfg c117 c118 c119 c120 c121) J cuts n code Tryd.f33.results.toList [false, false] [.ro .u64 l0, .ro .u64 l1] sg.out = b0 c117 c118 c119 c120 c121 (fun y0 y1 y2 y3 y4 => J 2037 (A c117 c118 c119 c120 c121 n J 2037 [n]) (s2037 y0 y1 y2 y3 y4)) l0 l1 := by kernel_rfl
theorem e255 {c117 c118 c119 c120 c121 n J x0} : A c117 c118 c119 c120 c121 n J 255 [] (s255 x0) = b255 c117 c118 c119 c120 c121 x0 := by kernel_rfl
theorem e2037 {c117 c118 c119 c120 c121 n J m x0 x1 x2 x3 x4} : A c117 c118 c119 c120 c121 n J 2037 [m + 1] (s2037 x0 x1 x2 x3 x4) = b2037 c117 c118 c119 c120 c121 (fun y0 => J 255 (A c117 c118 c119 c120 c121 n J 255 []) (s255 y0)) (fun y0 y1 y2 y3 y4 y5 y6 y7 y8 => J 2085685 (A c117 c118 c119 c120 c121 n J 2085685 [m, n]) (s2085685 y0 y1 y2 y3 y4 y5 y6 y7 y8)) x0 x1 x2 x3 x4 := by kernel_rfl
theorem e260711 {c117 c118 c119 c120 c121 n J m2037 x0 x1 x2 x3 x4 x5} : A c117 c118 c119 c120 c121 n J 260711 [m2037] (s260711 x0 x1 x2 x3 x4 x5) = b260711 c117 c118 c119 c120 c121 (fun y0 y1 y2 y3 y4 => J 2037 (A c117 c118 c119 c120 c121 n J 2037 [m2037]) (s2037 y0 y1 y2 y3 y4)) x0 x1 x2 x3 x4 x5 := by kernel_rfl
theorem e2085685 {c117 c118 c119 c120 c121 n J m2037 m x0 x1 x2 x3 x4 x5 x6 x7 x8} : A c117 c118 c119 c120 c121 n J 2085685 [m2037, m + 1] (s2085685 x0 x1 x2 x3 x4 x5 x6 x7 x8) = b2085685 c117 c118 c119 c120 c121 (fun y0 y1 y2 y3 y4 y5 => J 260711 (A c117 c118 c119 c120 c121 n J 260711 [m2037]) (s260711 y0 y1 y2 y3 y4 y5)) (fun y0 y1 y2 y3 y4 y5 y6 y7 y8 => J 2085685 (A c117 c118 c119 c120 c121 n J 2085685 [m2037, m]) (s2085685 y0 y1 y2 y3 y4 y5 y6 y7 y8)) x0 x1 x2 x3 x4 x5 x6 x7 x8 := by kernel_rfl
noncomputable abbrev I (n : Nat) := A (nat_big.f n) (nat_size.f n) bits_Add64.f (nat_cut.f n) bits_Mul64.f n idJ
theorem q255 (n x0) : I n 255 [] (s255 x0) = l255 n x0 := e255
theorem q260711 (n m2037 x0 x1 x2 x3 x4 x5) : I n 260711 [m2037] (s260711 x0 x1 x2 x3 x4 x5) = l260711 n (fun y0 y1 y2 y3 y4 => I n 2037 [m2037] (s2037 y0 y1 y2 y3 y4)) x0 x1 x2 x3 x4 x5 := e260711
theorem q2085685 (n m2037 m) : ∀ x0 x1 x2 x3 x4 x5 x6 x7 x8, I n 2085685 [m2037, m] (s2085685 x0 x1 x2 x3 x4 x5 x6 x7 x8) = l2085685 n (fun y0 y1 y2 y3 y4 => I n 2037 [m2037] (s2037 y0 y1 y2 y3 y4)) m x0 x1 x2 x3 x4 x5 x6 x7 x8 := by
  induction m with
  | zero => intros; rfl
  | succ m ih =>
    intros
    exact e2085685.trans (Eq.trans (cf9 (congr (congrArg (b2085685 _ _ _ _ _) (fu6 (q260711 n m2037))) (fu9 (ih))) _ _ _ _ _ _ _ _ _) rfl)
theorem q2037 (n m) : ∀ x0 x1 x2 x3 x4, I n 2037 [m] (s2037 x0 x1 x2 x3 x4) = l2037 n m x0 x1 x2 x3 x4 := by
  induction m with
  | zero => intros; rfl
  | succ m ih =>
    intros
    exact e2037.trans (Eq.trans (cf5 (congr (congrArg (b2037 _ _ _ _ _) (fu1 (q255 n))) ((fu9 (q2085685 n m n)).trans (by rw [show (fun y0 y1 y2 y3 y4 => I n 2037 [m] (s2037 y0 y1 y2 y3 y4)) = _ from (fu5 (ih))]))) _ _ _ _ _) rfl)
theorem ok {n  l0 l1 r} (h : f n l0 l1 = some r) : CallD Tryd.prog HW 33 [.ro .u64 l0, .ro .u64 l1] (sg.enc r) :=
  fun_some hwS Tryd.func33 (by kernel_rfl) (body := code) (by kernel_rfl) tys_ok (c := cfg (nat_big.f n) (nat_size.f n) bits_Add64.f (nat_cut.f n) bits_Mul64.f) (orCall_ok (nat_big.call_ok (n := n)) (orCall_ok (nat_size.call_ok (n := n)) (orCall_ok bits_Add64.call_ok (orCall_ok (nat_cut.call_ok (n := n)) (orCall_ok bits_Mul64.call_ok noCall_ok))))) noW_ok (by kernel_rfl) (by kernel_rfl) (Nat.le_of_ble_eq_true (by kernel_rfl)) (Eq.trans ((e0 (n := n)).trans (Eq.trans (cf2 (congrArg (b0 _ _ _ _ _) (fu5 (q2037 n n))) _ _) rfl)) h)
noncomputable def call {α : Type} (g : T5) (ds : List D) (K : List D→Ω α) : Ω α := match ds with
  | [.ro .u64 l0, .ro .u64 l1] => (g l0 l1).bind fun r => K (sg.enc r)
  | _ => none
theorem call_ok {α : Type} {n : Nat} : COK Tryd.prog HW 33 (call (α := α) (f n)) := fun _ _ _ h => by
  unfold call at h; split at h
  · exact cok h fun _ => ok
  · cases h
end nat_Mul
/-! ### abacuslaw01_awake: function 8 -/
namespace abacuslaw01_awake
noncomputable def b0 (c32 c33 : T5) : Ω (Bool) := ((c32 [18446744073709551615] [1]).bind fun t1 => (if ¬ t1.2 = 0 then some false else (if ¬ (ln t1.1) = 2 then some false else (if 0 < (ln t1.1) then (if ¬ (rd t1.1 0) = 0 then some false else (if 1 < (ln t1.1) then (if ¬ (rd t1.1 1) = 1 then some false else ((c33 [0, 3] [7]).bind fun t2 => (if t2.2 = 0 then (if (ln t2.1) = 2 then (if 0 < (ln t2.1) then (if (rd t2.1 0) = 0 then (if 1 < (ln t2.1) then some (decide ((rd t2.1 1) = 21)) else none) else some false) else none) else some false) else some false))) else none)) else none))))
noncomputable def f (n : Nat) : Ω (Bool) := b0 (nat_Add.f n) (nat_Mul.f n)
noncomputable def sg : Sig (Bool) := s1 (sBool)
noncomputable def code : Code := (Tryd.f8.body).getD .skip
noncomputable def cfg (c32 c33 : T5) : Cfg (Bool) := { T := tys, call := orCall 32 (nat_Add.call c32) (orCall 33 (nat_Mul.call c33) (noCall)) }
noncomputable def cuts : List (Nat × List (Nat × Want)) := []
theorem e0 {c32 c33 n J} : afun (cfg c32 c33) J cuts n code Tryd.f8.results.toList [false] [] sg.out = b0 c32 c33 := by kernel_rfl
theorem ok {n r} (h : f n = some r) : CallD Tryd.prog HW 8 [] (sg.enc r) :=
  fun_some hwS Tryd.func8 (by kernel_rfl) (body := code) (by kernel_rfl) tys_ok (c := cfg (nat_Add.f n) (nat_Mul.f n)) (orCall_ok (nat_Add.call_ok (n := n)) (orCall_ok (nat_Mul.call_ok (n := n)) noCall_ok)) noW_ok (by kernel_rfl) (by kernel_rfl) (Nat.le_of_ble_eq_true (by kernel_rfl)) (Eq.trans ((e0 (n := n))) h)
noncomputable def call {α : Type} (g : T22) (ds : List D) (K : List D→Ω α) : Ω α := match ds with
  | [] => (g).bind fun r => K (sg.enc r)
  | _ :: _ => none
theorem call_ok {α : Type} {n : Nat} : COK Tryd.prog HW 8 (call (α := α) (f n)) := fun _ _ _ h => by
  unfold call at h; split at h
  · exact cok h fun _ => ok
  · cases h
end abacuslaw01_awake
/-! ### abacusref01_Trim: function 34 -/
namespace abacusref01_Trim
noncomputable def b0 (k57 : T13) (l0 : Λ) : Ω (Λ) := k57 l0 (ln l0)
noncomputable def b15 (k501 : T36) (x0 : Λ) (x1 : Int) : Ω (Λ) := (if 0 ≤ x1 then (if x1.toNat ≤ 35184372088832 then k501 x0 x1 0 (List.replicate 0 (0 : Int)) else none) else none)
noncomputable def b57 (k15 k57 : T13) (x0 : Λ) (x1 : Int) : Ω (Λ) := (if x1 > 0 then (if 0 ≤ (wrap64 (x1 - 1)) then (if (wrap64 (x1 - 1)) < (ln x0) then (if (rd x0 (wrap64 (x1 - 1))) = 0 then k57 x0 (wrap64 (x1 - 1)) else k15 x0 x1) else none) else none) else k15 x0 x1)
noncomputable def b501 (k501 : T36) (x0 : Λ) (x1 x2 : Int) (x3 : Λ) : Ω (Λ) := (if x2 < x1 then (if 0 ≤ x2 then (if x2 < (ln x0) then (if x3.length + 1 ≤ 17592186044416 then k501 x0 x1 (wrap64 (x2 + 1)) (x3 ++ [rd x0 x2]) else none) else none) else none) else some x3)
noncomputable def l501 (n : Nat) : Nat→Λ→Int→Int→Λ→Ω (Λ)
  | 0, _, _, _, _ => none
  | m + 1, x0, x1, x2, x3 => b501 (l501 n m) x0 x1 x2 x3
noncomputable def l15 (n : Nat) (x0 : Λ) (x1 : Int) : Ω (Λ) := b15 (l501 n n) x0 x1
noncomputable def l57 (n : Nat) : Nat→Λ→Int→Ω (Λ)
  | 0, _, _ => none
  | m + 1, x0, x1 => b57 (l15 n) (l57 n m) x0 x1
noncomputable def f (n : Nat) (l0 : Λ) : Ω (Λ) := b0 (l57 n n) l0
noncomputable def sg : Sig (Λ) := s1 (sOwn 25 .u64)
noncomputable def code : Code := (Tryd.f34.body).getD .skip
noncomputable def cfg : Cfg (Λ) := { T := tys, call := noCall }
noncomputable def cuts : List (Nat × List (Nat × Want)) := [(15, [(0, .keep), (3, .keep)]), (57, [(0, .keep), (3, .keep)]), (501, [(0, .keep), (3, .keep), (4, .keep), (5, .keep)])]
noncomputable def s15 (x0 : Λ) (x1 : Int) : ASt := ⟨[(0, .ro .u64 x0), (3, .int .i64 x1)], []⟩
noncomputable def s57 (x0 : Λ) (x1 : Int) : ASt := ⟨[(0, .ro .u64 x0), (3, .int .i64 x1)], []⟩
noncomputable def s501 (x0 : Λ) (x1 x2 : Int) (x3 : Λ) : ASt := ⟨[(0, .ro .u64 x0), (3, .int .i64 x1), (4, .own 0), (5, .int .i64 x2)], [.ints 25 .u64 x3]⟩
noncomputable def A (n : Nat) (J : Jt (Λ)) (q : Nat) (ms : List Nat) : ASt→Ω (Λ) := acont cfg J cuts n q code 1 ms (aend cfg Tryd.f34.results.toList [true] sg.out)
theorem e0 {n J l0} : afun cfg J cuts n code Tryd.f34.results.toList [true] [.ro .u64 l0] sg.out = b0 (fun y0 y1 => J 57 (A n J 57 [n]) (s57 y0 y1)) l0 := by kernel_rfl
theorem e15 {n J x0 x1} : A n J 15 [] (s15 x0 x1) = b15 (fun y0 y1 y2 y3 => J 501 (A n J 501 [n]) (s501 y0 y1 y2 y3)) x0 x1 := by kernel_rfl
theorem e57 {n J m x0 x1} : A n J 57 [m + 1] (s57 x0 x1) = b57 (fun y0 y1 => J 15 (A n J 15 []) (s15 y0 y1)) (fun y0 y1 => J 57 (A n J 57 [m]) (s57 y0 y1)) x0 x1 := by kernel_rfl
theorem e501 {n J m x0 x1 x2 x3} : A n J 501 [m + 1] (s501 x0 x1 x2 x3) = b501 (fun y0 y1 y2 y3 => J 501 (A n J 501 [m]) (s501 y0 y1 y2 y3)) x0 x1 x2 x3 := by kernel_rfl
noncomputable abbrev I (n : Nat) := A n idJ
theorem q501 (n m) : ∀ x0 x1 x2 x3, I n 501 [m] (s501 x0 x1 x2 x3) = l501 n m x0 x1 x2 x3 := by
  induction m with
  | zero => intros; rfl
  | succ m ih =>
    intros
    exact e501.trans (Eq.trans (cf4 (congrArg b501 (fu4 (ih))) _ _ _ _) rfl)
theorem q15 (n x0 x1) : I n 15 [] (s15 x0 x1) = l15 n x0 x1 := e15.trans (Eq.trans (cf2 (congrArg b15 (fu4 (q501 n n))) _ _) rfl)
theorem q57 (n m) : ∀ x0 x1, I n 57 [m] (s57 x0 x1) = l57 n m x0 x1 := by
  induction m with
  | zero => intros; rfl
  | succ m ih =>
    intros
    exact e57.trans (Eq.trans (cf2 (congr (congrArg b57 (fu2 (q15 n))) (fu2 (ih))) _ _) rfl)
theorem ok {n  l0 r} (h : f n l0 = some r) : CallD Tryd.prog HW 34 [.ro .u64 l0] (sg.enc r) :=
  fun_some hwS Tryd.func34 (by kernel_rfl) (body := code) (by kernel_rfl) tys_ok (c := cfg) noCall_ok noW_ok (by kernel_rfl) (by kernel_rfl) (Nat.le_of_ble_eq_true (by kernel_rfl)) (Eq.trans ((e0 (n := n)).trans (Eq.trans (cf1 (congrArg b0 (fu2 (q57 n n))) _) rfl)) h)
noncomputable def call {α : Type} (g : T0) (ds : List D) (K : List D→Ω α) : Ω α := match ds with
  | [.ro .u64 l0] => (g l0).bind fun r => K (sg.enc r)
  | _ => none
theorem call_ok {α : Type} {n : Nat} : COK Tryd.prog HW 34 (call (α := α) (f n)) := fun _ _ _ h => by
  unfold call at h; split at h
  · exact cok h fun _ => ok
  · cases h
end abacusref01_Trim
/-! ### abacusref01_FromUint: function 35 -/
namespace abacusref01_FromUint
noncomputable def b0 (a0 : Int) : Ω (Λ) := (if a0 = 0 then some ([] : Λ) else some [a0])
noncomputable def f (a0 : Int) : Ω (Λ) := b0 a0
noncomputable def sg : Sig (Λ) := s1 (sRow .u64)
noncomputable def code : Code := (Tryd.f35.body).getD .skip
noncomputable def cfg : Cfg (Λ) := { T := tys, call := noCall }
noncomputable def cuts : List (Nat × List (Nat × Want)) := []
theorem e0 {n J a0} : afun cfg J cuts n code Tryd.f35.results.toList [false] [.int .u64 a0] sg.out = b0 a0 := by kernel_rfl
theorem ok {a0 r} (h : f a0 = some r) : CallD Tryd.prog HW 35 [.int .u64 a0] (sg.enc r) :=
  fun_some hwS Tryd.func35 (by kernel_rfl) (body := code) (by kernel_rfl) tys_ok (c := cfg) noCall_ok noW_ok (by kernel_rfl) (by kernel_rfl) (Nat.le_of_ble_eq_true (by kernel_rfl)) (Eq.trans ((e0 (n := 0))) h)
noncomputable def call {α : Type} (g : T17) (ds : List D) (K : List D→Ω α) : Ω α := match ds with
  | [.int .u64 a0] => (g a0).bind fun r => K (sg.enc r)
  | _ => none
theorem call_ok {α : Type} : COK Tryd.prog HW 35 (call (α := α) f) := fun _ _ _ h => by
  unfold call at h; split at h
  · exact cok h fun _ => ok
  · cases h
end abacusref01_FromUint
/-! ### abacusref01_Size: function 122 -/
namespace abacusref01_Size
noncomputable def b0 (k57 : T10) (l0 : Λ) : Ω (Int) := k57 l0 (ln l0)
noncomputable def b57 (k57 : T10) (x0 : Λ) (x1 : Int) : Ω (Int) := (if x1 > 0 then (if 0 ≤ (wrap64 (x1 - 1)) then (if (wrap64 (x1 - 1)) < (ln x0) then (if (rd x0 (wrap64 (x1 - 1))) = 0 then k57 x0 (wrap64 (x1 - 1)) else some x1) else none) else none) else some x1)
noncomputable def l57 (n : Nat) : Nat→Λ→Int→Ω (Int)
  | 0, _, _ => none
  | m + 1, x0, x1 => b57 (l57 n m) x0 x1
noncomputable def f (n : Nat) (l0 : Λ) : Ω (Int) := b0 (l57 n n) l0
noncomputable def sg : Sig (Int) := s1 (sInt .i64)
noncomputable def code : Code := (Tryd.f122.body).getD .skip
noncomputable def cfg : Cfg (Int) := { T := tys, call := noCall }
noncomputable def cuts : List (Nat × List (Nat × Want)) := [(57, [(0, .keep), (3, .keep)])]
noncomputable def s57 (x0 : Λ) (x1 : Int) : ASt := ⟨[(0, .ro .u64 x0), (3, .int .i64 x1)], []⟩
noncomputable def A (n : Nat) (J : Jt (Int)) (q : Nat) (ms : List Nat) : ASt→Ω (Int) := acont cfg J cuts n q code 1 ms (aend cfg Tryd.f122.results.toList [false] sg.out)
theorem e0 {n J l0} : afun cfg J cuts n code Tryd.f122.results.toList [false] [.ro .u64 l0] sg.out = b0 (fun y0 y1 => J 57 (A n J 57 [n]) (s57 y0 y1)) l0 := by kernel_rfl
theorem e57 {n J m x0 x1} : A n J 57 [m + 1] (s57 x0 x1) = b57 (fun y0 y1 => J 57 (A n J 57 [m]) (s57 y0 y1)) x0 x1 := by kernel_rfl
noncomputable abbrev I (n : Nat) := A n idJ
theorem q57 (n m) : ∀ x0 x1, I n 57 [m] (s57 x0 x1) = l57 n m x0 x1 := by
  induction m with
  | zero => intros; rfl
  | succ m ih =>
    intros
    exact e57.trans (Eq.trans (cf2 (congrArg b57 (fu2 (ih))) _ _) rfl)
theorem ok {n  l0 r} (h : f n l0 = some r) : CallD Tryd.prog HW 122 [.ro .u64 l0] (sg.enc r) :=
  fun_some hwS Tryd.func122 (by kernel_rfl) (body := code) (by kernel_rfl) tys_ok (c := cfg) noCall_ok noW_ok (by kernel_rfl) (by kernel_rfl) (Nat.le_of_ble_eq_true (by kernel_rfl)) (Eq.trans ((e0 (n := n)).trans (Eq.trans (cf1 (congrArg b0 (fu2 (q57 n n))) _) rfl)) h)
noncomputable def call {α : Type} (g : T1) (ds : List D) (K : List D→Ω α) : Ω α := match ds with
  | [.ro .u64 l0] => (g l0).bind fun r => K (sg.enc r)
  | _ => none
theorem call_ok {α : Type} {n : Nat} : COK Tryd.prog HW 122 (call (α := α) (f n)) := fun _ _ _ h => by
  unfold call at h; split at h
  · exact cok h fun _ => ok
  · cases h
end abacusref01_Size
/-! ### abacusref01_ToUint: function 36 -/
namespace abacusref01_ToUint
noncomputable def b0 (c122 : T1) (l0 : Λ) : Ω (Int × Bool) := ((c122 l0).bind fun t1 => (if t1 = 0 then some (0, true) else (if t1 > 1 then some (0, false) else (if 0 < (ln l0) then some (rd l0 0, true) else none))))
noncomputable def f (n : Nat) (l0 : Λ) : Ω (Int × Bool) := b0 (abacusref01_Size.f n) l0
noncomputable def sg : Sig (Int × Bool) := s2 (sInt .u64) (s1 (sBool))
noncomputable def code : Code := (Tryd.f36.body).getD .skip
noncomputable def cfg (c122 : T1) : Cfg (Int × Bool) := { T := tys, call := orCall 122 (abacusref01_Size.call c122) (noCall) }
noncomputable def cuts : List (Nat × List (Nat × Want)) := []
theorem e0 {c122 n J l0} : afun (cfg c122) J cuts n code Tryd.f36.results.toList [false, false] [.ro .u64 l0] sg.out = b0 c122 l0 := by kernel_rfl
theorem ok {n  l0 r} (h : f n l0 = some r) : CallD Tryd.prog HW 36 [.ro .u64 l0] (sg.enc r) :=
  fun_some hwS Tryd.func36 (by kernel_rfl) (body := code) (by kernel_rfl) tys_ok (c := cfg (abacusref01_Size.f n)) (orCall_ok (abacusref01_Size.call_ok (n := n)) noCall_ok) noW_ok (by kernel_rfl) (by kernel_rfl) (Nat.le_of_ble_eq_true (by kernel_rfl)) (Eq.trans ((e0 (n := n))) h)
noncomputable def call {α : Type} (g : T18) (ds : List D) (K : List D→Ω α) : Ω α := match ds with
  | [.ro .u64 l0] => (g l0).bind fun r => K (sg.enc r)
  | _ => none
theorem call_ok {α : Type} {n : Nat} : COK Tryd.prog HW 36 (call (α := α) (f n)) := fun _ _ _ h => by
  unfold call at h; split at h
  · exact cok h fun _ => ok
  · cases h
end abacusref01_ToUint
/-! ### abacusref01_BitLen: function 37 -/
namespace abacusref01_BitLen
noncomputable def b0 (c122 : T1) (k501 : T27) (l0 : Λ) : Ω (Int) := ((c122 l0).bind fun t1 => (if t1 = 0 then some 0 else (if 0 ≤ (wrap64 (t1 - 1)) then (if (wrap64 (t1 - 1)) < (ln l0) then k501 (wrap64 (64 * (wrap64 (t1 - 1)))) (rd l0 (wrap64 (t1 - 1))) else none) else none)))
noncomputable def b501 (c122 : T1) (k501 : T27) (x0 x1 : Int) : Ω (Int) := (if x1 > 0 then k501 (wrap64 (x0 + 1)) (IntKind.u64.wrap (Int.tdiv x1 2)) else some x0)
noncomputable def l501 (n : Nat) : Nat→Int→Int→Ω (Int)
  | 0, _, _ => none
  | m + 1, x0, x1 => b501 (abacusref01_Size.f n) (l501 n m) x0 x1
noncomputable def f (n : Nat) (l0 : Λ) : Ω (Int) := b0 (abacusref01_Size.f n) (l501 n n) l0
noncomputable def sg : Sig (Int) := s1 (sInt .i64)
noncomputable def code : Code := (Tryd.f37.body).getD .skip
noncomputable def cfg (c122 : T1) : Cfg (Int) := { T := tys, call := orCall 122 (abacusref01_Size.call c122) (noCall) }
noncomputable def cuts : List (Nat × List (Nat × Want)) := [(501, [(4, .keep), (5, .keep)])]
noncomputable def s501 (x0 x1 : Int) : ASt := ⟨[(4, .int .i64 x0), (5, .int .u64 x1)], []⟩
noncomputable def A (c122 : T1) (n : Nat) (J : Jt (Int)) (q : Nat) (ms : List Nat) : ASt→Ω (Int) := acont (cfg c122) J cuts n q code 1 ms (aend (cfg c122) Tryd.f37.results.toList [false] sg.out)
theorem e0 {c122 n J l0} : afun (cfg c122) J cuts n code Tryd.f37.results.toList [false] [.ro .u64 l0] sg.out = b0 c122 (fun y0 y1 => J 501 (A c122 n J 501 [n]) (s501 y0 y1)) l0 := by kernel_rfl
theorem e501 {c122 n J m x0 x1} : A c122 n J 501 [m + 1] (s501 x0 x1) = b501 c122 (fun y0 y1 => J 501 (A c122 n J 501 [m]) (s501 y0 y1)) x0 x1 := by kernel_rfl
noncomputable abbrev I (n : Nat) := A (abacusref01_Size.f n) n idJ
theorem q501 (n m) : ∀ x0 x1, I n 501 [m] (s501 x0 x1) = l501 n m x0 x1 := by
  induction m with
  | zero => intros; rfl
  | succ m ih =>
    intros
    exact e501.trans (Eq.trans (cf2 (congrArg (b501 _) (fu2 (ih))) _ _) rfl)
theorem ok {n  l0 r} (h : f n l0 = some r) : CallD Tryd.prog HW 37 [.ro .u64 l0] (sg.enc r) :=
  fun_some hwS Tryd.func37 (by kernel_rfl) (body := code) (by kernel_rfl) tys_ok (c := cfg (abacusref01_Size.f n)) (orCall_ok (abacusref01_Size.call_ok (n := n)) noCall_ok) noW_ok (by kernel_rfl) (by kernel_rfl) (Nat.le_of_ble_eq_true (by kernel_rfl)) (Eq.trans ((e0 (n := n)).trans (Eq.trans (cf1 (congrArg (b0 _) (fu2 (q501 n n))) _) rfl)) h)
noncomputable def call {α : Type} (g : T1) (ds : List D) (K : List D→Ω α) : Ω α := match ds with
  | [.ro .u64 l0] => (g l0).bind fun r => K (sg.enc r)
  | _ => none
theorem call_ok {α : Type} {n : Nat} : COK Tryd.prog HW 37 (call (α := α) (f n)) := fun _ _ _ h => by
  unfold call at h; split at h
  · exact cok h fun _ => ok
  · cases h
end abacusref01_BitLen
/-! ### abacusref01_Bit: function 38 -/
namespace abacusref01_Bit
noncomputable def b0 (k245 : Int→Int→Int→Ω (Int)) (l0 : Λ) (a1 : Int) : Ω (Int) := (if a1 < 0 then some 0 else (if (wrap64 (Int.tdiv a1 64)) ≥ (ln l0) then some 0 else (if 0 ≤ (wrap64 (Int.tdiv a1 64)) then (if (wrap64 (Int.tdiv a1 64)) < (ln l0) then k245 a1 (rd l0 (wrap64 (Int.tdiv a1 64))) 0 else none) else none)))
noncomputable def b245 (k245 : Int→Int→Int→Ω (Int)) (x0 x1 x2 : Int) : Ω (Int) := (if x2 < (Int.tmod x0 64) then k245 x0 (IntKind.u64.wrap (Int.tdiv x1 2)) (wrap64 (x2 + 1)) else some (wrap64 (Int.tmod x1 2)))
noncomputable def l245 (n : Nat) : Nat→Int→Int→Int→Ω (Int)
  | 0, _, _, _ => none
  | m + 1, x0, x1, x2 => b245 (l245 n m) x0 x1 x2
noncomputable def f (n : Nat) (l0 : Λ) (a1 : Int) : Ω (Int) := b0 (l245 n n) l0 a1
noncomputable def sg : Sig (Int) := s1 (sInt .i64)
noncomputable def code : Code := (Tryd.f38.body).getD .skip
noncomputable def cfg : Cfg (Int) := { T := tys, call := noCall }
noncomputable def cuts : List (Nat × List (Nat × Want)) := [(245, [(1, .keep), (5, .keep), (6, .keep)])]
noncomputable def s245 (x0 x1 x2 : Int) : ASt := ⟨[(1, .int .i64 x0), (5, .int .u64 x1), (6, .int .i64 x2)], []⟩
noncomputable def A (n : Nat) (J : Jt (Int)) (q : Nat) (ms : List Nat) : ASt→Ω (Int) := acont cfg J cuts n q code 1 ms (aend cfg Tryd.f38.results.toList [false] sg.out)
theorem e0 {n J l0 a1} : afun cfg J cuts n code Tryd.f38.results.toList [false] [.ro .u64 l0, .int .i64 a1] sg.out = b0 (fun y0 y1 y2 => J 245 (A n J 245 [n]) (s245 y0 y1 y2)) l0 a1 := by kernel_rfl
theorem e245 {n J m x0 x1 x2} : A n J 245 [m + 1] (s245 x0 x1 x2) = b245 (fun y0 y1 y2 => J 245 (A n J 245 [m]) (s245 y0 y1 y2)) x0 x1 x2 := by kernel_rfl
noncomputable abbrev I (n : Nat) := A n idJ
theorem q245 (n m) : ∀ x0 x1 x2, I n 245 [m] (s245 x0 x1 x2) = l245 n m x0 x1 x2 := by
  induction m with
  | zero => intros; rfl
  | succ m ih =>
    intros
    exact e245.trans (Eq.trans (cf3 (congrArg b245 (fu3 (ih))) _ _ _) rfl)
theorem ok {n  l0 a1 r} (h : f n l0 a1 = some r) : CallD Tryd.prog HW 38 [.ro .u64 l0, .int .i64 a1] (sg.enc r) :=
  fun_some hwS Tryd.func38 (by kernel_rfl) (body := code) (by kernel_rfl) tys_ok (c := cfg) noCall_ok noW_ok (by kernel_rfl) (by kernel_rfl) (Nat.le_of_ble_eq_true (by kernel_rfl)) (Eq.trans ((e0 (n := n)).trans (Eq.trans (cf2 (congrArg b0 (fu3 (q245 n n))) _ _) rfl)) h)
noncomputable def call {α : Type} (g : T10) (ds : List D) (K : List D→Ω α) : Ω α := match ds with
  | [.ro .u64 l0, .int .i64 a1] => (g l0 a1).bind fun r => K (sg.enc r)
  | _ => none
theorem call_ok {α : Type} {n : Nat} : COK Tryd.prog HW 38 (call (α := α) (f n)) := fun _ _ _ h => by
  unfold call at h; split at h
  · exact cok h fun _ => ok
  · cases h
end abacusref01_Bit
/-! ### abacusref01_Trail: function 39 -/
namespace abacusref01_Trail
noncomputable def b0 (k53 : T10) (l0 : Λ) : Ω (Int) := k53 l0 0
noncomputable def b53 (k53 : T10) (k53845 : T27) (x0 : Λ) (x1 : Int) : Ω (Int) := (if x1 < (ln x0) then (if 0 ≤ x1 then (if x1 < (ln x0) then (if ¬ (rd x0 x1) = 0 then (if 0 ≤ x1 then (if x1 < (ln x0) then k53845 (wrap64 (64 * x1)) (rd x0 x1) else none) else none) else k53 x0 (wrap64 (x1 + 1))) else none) else none) else some 0)
noncomputable def b53845 (k53845 : T27) (x0 x1 : Int) : Ω (Int) := (if (Int.tmod x1 2) = 0 then k53845 (wrap64 (x0 + 1)) (IntKind.u64.wrap (Int.tdiv x1 2)) else some x0)
noncomputable def l53845 (n : Nat) (k53 : T10) : Nat→Int→Int→Ω (Int)
  | 0, _, _ => none
  | m + 1, x0, x1 => b53845 (l53845 n k53 m) x0 x1
noncomputable def l53 (n : Nat) : Nat→Λ→Int→Ω (Int)
  | 0, _, _ => none
  | m + 1, x0, x1 => b53 (l53 n m) (l53845 n (l53 n m) n) x0 x1
noncomputable def f (n : Nat) (l0 : Λ) : Ω (Int) := b0 (l53 n n) l0
noncomputable def sg : Sig (Int) := s1 (sInt .i64)
noncomputable def code : Code := (Tryd.f39.body).getD .skip
noncomputable def cfg : Cfg (Int) := { T := tys, call := noCall }
noncomputable def cuts : List (Nat × List (Nat × Want)) := [(53, [(0, .keep), (3, .keep)]), (53845, [(4, .keep), (5, .keep)])]
noncomputable def s53 (x0 : Λ) (x1 : Int) : ASt := ⟨[(0, .ro .u64 x0), (3, .int .i64 x1)], []⟩
noncomputable def s53845 (x0 x1 : Int) : ASt := ⟨[(4, .int .i64 x0), (5, .int .u64 x1)], []⟩
noncomputable def A (n : Nat) (J : Jt (Int)) (q : Nat) (ms : List Nat) : ASt→Ω (Int) := acont cfg J cuts n q code 1 ms (aend cfg Tryd.f39.results.toList [false] sg.out)
theorem e0 {n J l0} : afun cfg J cuts n code Tryd.f39.results.toList [false] [.ro .u64 l0] sg.out = b0 (fun y0 y1 => J 53 (A n J 53 [n]) (s53 y0 y1)) l0 := by kernel_rfl
theorem e53 {n J m x0 x1} : A n J 53 [m + 1] (s53 x0 x1) = b53 (fun y0 y1 => J 53 (A n J 53 [m]) (s53 y0 y1)) (fun y0 y1 => J 53845 (A n J 53845 [m, n]) (s53845 y0 y1)) x0 x1 := by kernel_rfl
theorem e53845 {n J m53 m x0 x1} : A n J 53845 [m53, m + 1] (s53845 x0 x1) = b53845 (fun y0 y1 => J 53845 (A n J 53845 [m53, m]) (s53845 y0 y1)) x0 x1 := by kernel_rfl
noncomputable abbrev I (n : Nat) := A n idJ
theorem q53845 (n m53 m) : ∀ x0 x1, I n 53845 [m53, m] (s53845 x0 x1) = l53845 n (fun y0 y1 => I n 53 [m53] (s53 y0 y1)) m x0 x1 := by
  induction m with
  | zero => intros; rfl
  | succ m ih =>
    intros
    exact e53845.trans (Eq.trans (cf2 (congrArg b53845 (fu2 (ih))) _ _) rfl)
theorem q53 (n m) : ∀ x0 x1, I n 53 [m] (s53 x0 x1) = l53 n m x0 x1 := by
  induction m with
  | zero => intros; rfl
  | succ m ih =>
    intros
    exact e53.trans (Eq.trans (cf2 (congr (congrArg b53 (fu2 (ih))) ((fu2 (q53845 n m n)).trans (by rw [show (fun y0 y1 => I n 53 [m] (s53 y0 y1)) = _ from (fu2 (ih))]))) _ _) rfl)
theorem ok {n  l0 r} (h : f n l0 = some r) : CallD Tryd.prog HW 39 [.ro .u64 l0] (sg.enc r) :=
  fun_some hwS Tryd.func39 (by kernel_rfl) (body := code) (by kernel_rfl) tys_ok (c := cfg) noCall_ok noW_ok (by kernel_rfl) (by kernel_rfl) (Nat.le_of_ble_eq_true (by kernel_rfl)) (Eq.trans ((e0 (n := n)).trans (Eq.trans (cf1 (congrArg b0 (fu2 (q53 n n))) _) rfl)) h)
noncomputable def call {α : Type} (g : T1) (ds : List D) (K : List D→Ω α) : Ω α := match ds with
  | [.ro .u64 l0] => (g l0).bind fun r => K (sg.enc r)
  | _ => none
theorem call_ok {α : Type} {n : Nat} : COK Tryd.prog HW 39 (call (α := α) (f n)) := fun _ _ _ h => by
  unfold call at h; split at h
  · exact cok h fun _ => ok
  · cases h
end abacusref01_Trail
/-! ### abacusref01_Cmp: function 40 -/
namespace abacusref01_Cmp
noncomputable def b0 (c122 : T1) (k1013 : T28) (l0 l1 : Λ) : Ω (Int) := ((c122 l0).bind fun t1 => ((c122 l1).bind fun t2 => (if t1 < t2 then some (-1) else (if t1 > t2 then some 1 else k1013 l0 l1 (wrap64 (t2 - 1))))))
noncomputable def b1013 (c122 : T1) (k1013 : T28) (x0 x1 : Λ) (x2 : Int) : Ω (Int) := (if x2 ≥ 0 then (if 0 ≤ x2 then (if x2 < (ln x0) then (if 0 ≤ x2 then (if x2 < (ln x1) then (if (rd x0 x2) < (rd x1 x2) then some (-1) else (if 0 ≤ x2 then (if x2 < (ln x0) then (if 0 ≤ x2 then (if x2 < (ln x1) then (if (rd x0 x2) > (rd x1 x2) then some 1 else k1013 x0 x1 (wrap64 (x2 - 1))) else none) else none) else none) else none)) else none) else none) else none) else none) else some 0)
noncomputable def l1013 (n : Nat) : Nat→Λ→Λ→Int→Ω (Int)
  | 0, _, _, _ => none
  | m + 1, x0, x1, x2 => b1013 (abacusref01_Size.f n) (l1013 n m) x0 x1 x2
noncomputable def f (n : Nat) (l0 l1 : Λ) : Ω (Int) := b0 (abacusref01_Size.f n) (l1013 n n) l0 l1
noncomputable def sg : Sig (Int) := s1 (sInt .i64)
noncomputable def code : Code := (Tryd.f40.body).getD .skip
noncomputable def cfg (c122 : T1) : Cfg (Int) := { T := tys, call := orCall 122 (abacusref01_Size.call c122) (noCall) }
noncomputable def cuts : List (Nat × List (Nat × Want)) := [(1013, [(0, .keep), (1, .keep), (7, .keep)])]
noncomputable def s1013 (x0 x1 : Λ) (x2 : Int) : ASt := ⟨[(0, .ro .u64 x0), (1, .ro .u64 x1), (7, .int .i64 x2)], []⟩
noncomputable def A (c122 : T1) (n : Nat) (J : Jt (Int)) (q : Nat) (ms : List Nat) : ASt→Ω (Int) := acont (cfg c122) J cuts n q code 1 ms (aend (cfg c122) Tryd.f40.results.toList [false] sg.out)
theorem e0 {c122 n J l0 l1} : afun (cfg c122) J cuts n code Tryd.f40.results.toList [false] [.ro .u64 l0, .ro .u64 l1] sg.out = b0 c122 (fun y0 y1 y2 => J 1013 (A c122 n J 1013 [n]) (s1013 y0 y1 y2)) l0 l1 := by kernel_rfl
theorem e1013 {c122 n J m x0 x1 x2} : A c122 n J 1013 [m + 1] (s1013 x0 x1 x2) = b1013 c122 (fun y0 y1 y2 => J 1013 (A c122 n J 1013 [m]) (s1013 y0 y1 y2)) x0 x1 x2 := by kernel_rfl
noncomputable abbrev I (n : Nat) := A (abacusref01_Size.f n) n idJ
theorem q1013 (n m) : ∀ x0 x1 x2, I n 1013 [m] (s1013 x0 x1 x2) = l1013 n m x0 x1 x2 := by
  induction m with
  | zero => intros; rfl
  | succ m ih =>
    intros
    exact e1013.trans (Eq.trans (cf3 (congrArg (b1013 _) (fu3 (ih))) _ _ _) rfl)
theorem ok {n  l0 l1 r} (h : f n l0 l1 = some r) : CallD Tryd.prog HW 40 [.ro .u64 l0, .ro .u64 l1] (sg.enc r) :=
  fun_some hwS Tryd.func40 (by kernel_rfl) (body := code) (by kernel_rfl) tys_ok (c := cfg (abacusref01_Size.f n)) (orCall_ok (abacusref01_Size.call_ok (n := n)) noCall_ok) noW_ok (by kernel_rfl) (by kernel_rfl) (Nat.le_of_ble_eq_true (by kernel_rfl)) (Eq.trans ((e0 (n := n)).trans (Eq.trans (cf2 (congrArg (b0 _) (fu3 (q1013 n n))) _ _) rfl)) h)
noncomputable def call {α : Type} (g : T9) (ds : List D) (K : List D→Ω α) : Ω α := match ds with
  | [.ro .u64 l0, .ro .u64 l1] => (g l0 l1).bind fun r => K (sg.enc r)
  | _ => none
theorem call_ok {α : Type} {n : Nat} : COK Tryd.prog HW 40 (call (α := α) (f n)) := fun _ _ _ h => by
  unfold call at h; split at h
  · exact cok h fun _ => ok
  · cases h
end abacusref01_Cmp
/-! ### abacusref01_Big: function 123 -/
namespace abacusref01_Big
noncomputable def b0 (c122 : T1) (l0 : Λ) : Ω (Bool) := ((c122 l0).bind fun t1 => some (decide (t1 > 4096)))
noncomputable def f (n : Nat) (l0 : Λ) : Ω (Bool) := b0 (abacusref01_Size.f n) l0
noncomputable def sg : Sig (Bool) := s1 (sBool)
noncomputable def code : Code := (Tryd.f123.body).getD .skip
noncomputable def cfg (c122 : T1) : Cfg (Bool) := { T := tys, call := orCall 122 (abacusref01_Size.call c122) (noCall) }
noncomputable def cuts : List (Nat × List (Nat × Want)) := []
theorem e0 {c122 n J l0} : afun (cfg c122) J cuts n code Tryd.f123.results.toList [false] [.ro .u64 l0] sg.out = b0 c122 l0 := by kernel_rfl
theorem ok {n  l0 r} (h : f n l0 = some r) : CallD Tryd.prog HW 123 [.ro .u64 l0] (sg.enc r) :=
  fun_some hwS Tryd.func123 (by kernel_rfl) (body := code) (by kernel_rfl) tys_ok (c := cfg (abacusref01_Size.f n)) (orCall_ok (abacusref01_Size.call_ok (n := n)) noCall_ok) noW_ok (by kernel_rfl) (by kernel_rfl) (Nat.le_of_ble_eq_true (by kernel_rfl)) (Eq.trans ((e0 (n := n))) h)
noncomputable def call {α : Type} (g : T2) (ds : List D) (K : List D→Ω α) : Ω α := match ds with
  | [.ro .u64 l0] => (g l0).bind fun r => K (sg.enc r)
  | _ => none
theorem call_ok {α : Type} {n : Nat} : COK Tryd.prog HW 123 (call (α := α) (f n)) := fun _ _ _ h => by
  unfold call at h; split at h
  · exact cok h fun _ => ok
  · cases h
end abacusref01_Big
/-! ### abacusref01_halves: function 153 -/
namespace abacusref01_halves
noncomputable def b0 (k117 : T37) (l0 : Λ) : Ω (Λ) := (if 0 ≤ (wrap64 (2 * (ln l0))) then (if (wrap64 (2 * (ln l0))).toNat ≤ 35184372088832 then k117 l0 0 (List.replicate 0 (0 : Int)) (wrap64 (2 * (ln l0))) else none) else none)
noncomputable def b15 (k249 : Int→Λ→Int→Ω (Λ)) (x0 : Λ) (x1 : Int) : Ω (Λ) := k249 (ln x0) x0 x1
noncomputable def b117 (k15 : T13) (k117 : T37) (x0 : Λ) (x1 : Int) (x2 : Λ) (x3 : Int) : Ω (Λ) := (if x1 < (ln x0) then (if 0 ≤ x1 then (if x1 < (ln x0) then (if ln x2 + ln [Go.bits .and .u64 (rd x0 x1) 4294967295] ≤ x3 then (if 0 ≤ x1 then (if x1 < (ln x0) then (if ln (x2 ++ [Go.bits .and .u64 (rd x0 x1) 4294967295]) + ln [(rd x0 x1) / 4294967296] ≤ x3 then k117 x0 (wrap64 (x1 + 1)) ((x2 ++ [Go.bits .and .u64 (rd x0 x1) 4294967295]) ++ [(rd x0 x1) / 4294967296]) x3 else none) else none) else none) else none) else none) else none) else k15 x2 x3)
noncomputable def b249 (k249 : Int→Λ→Int→Ω (Λ)) (x0 : Int) (x1 : Λ) (x2 : Int) : Ω (Λ) := (if x0 > 0 then (if 0 ≤ (wrap64 (x0 - 1)) then (if (wrap64 (x0 - 1)) < (ln x1) then (if (rd x1 (wrap64 (x0 - 1))) = 0 then k249 (wrap64 (x0 - 1)) x1 x2 else (if 0 ≤ x0 then (if x0 ≤ (ln x1) then ((some (x1.take x0.toNat) : Ω (Λ)).bind fun y1 => some y1) else none) else none)) else none) else none) else (if 0 ≤ x0 then (if x0 ≤ (ln x1) then ((some (x1.take x0.toNat) : Ω (Λ)).bind fun y2 => some y2) else none) else none))
noncomputable def l249 (n : Nat) : Nat→Int→Λ→Int→Ω (Λ)
  | 0, _, _, _ => none
  | m + 1, x0, x1, x2 => b249 (l249 n m) x0 x1 x2
noncomputable def l15 (n : Nat) (x0 : Λ) (x1 : Int) : Ω (Λ) := b15 (l249 n n) x0 x1
noncomputable def l117 (n : Nat) : Nat→Λ→Int→Λ→Int→Ω (Λ)
  | 0, _, _, _, _ => none
  | m + 1, x0, x1, x2, x3 => b117 (l15 n) (l117 n m) x0 x1 x2 x3
noncomputable def f (n : Nat) (l0 : Λ) : Ω (Λ) := b0 (l117 n n) l0
noncomputable def sg : Sig (Λ) := s1 (sRow .u64)
noncomputable def code : Code := (Tryd.f153.body).getD .skip
noncomputable def cfg : Cfg (Λ) := { T := tys, call := noCall, room := true }
noncomputable def cuts : List (Nat × List (Nat × Want)) := [(15, [(3, .keep)]), (117, [(0, .keep), (3, .keep), (4, .keep)]), (249, [(3, .keep), (5, .keep)])]
noncomputable def s15 (x0 : Λ) (x1 : Int) : ASt := ⟨[(3, .own 0)], [.room 25 .u64 x0 x1]⟩
noncomputable def s117 (x0 : Λ) (x1 : Int) (x2 : Λ) (x3 : Int) : ASt := ⟨[(0, .ro .u64 x0), (3, .own 0), (4, .int .i64 x1)], [.room 25 .u64 x2 x3]⟩
noncomputable def s249 (x0 : Int) (x1 : Λ) (x2 : Int) : ASt := ⟨[(3, .own 0), (5, .int .i64 x0)], [.room 25 .u64 x1 x2]⟩
noncomputable def A (n : Nat) (J : Jt (Λ)) (q : Nat) (ms : List Nat) : ASt→Ω (Λ) := acont cfg J cuts n q code 1 ms (aend cfg Tryd.f153.results.toList [false] sg.out)
theorem e0 {n J l0} : afun cfg J cuts n code Tryd.f153.results.toList [false] [.ro .u64 l0] sg.out = b0 (fun y0 y1 y2 y3 => J 117 (A n J 117 [n]) (s117 y0 y1 y2 y3)) l0 := by kernel_rfl
theorem e15 {n J x0 x1} : A n J 15 [] (s15 x0 x1) = b15 (fun y0 y1 y2 => J 249 (A n J 249 [n]) (s249 y0 y1 y2)) x0 x1 := by kernel_rfl
theorem e117 {n J m x0 x1 x2 x3} : A n J 117 [m + 1] (s117 x0 x1 x2 x3) = b117 (fun y0 y1 => J 15 (A n J 15 []) (s15 y0 y1)) (fun y0 y1 y2 y3 => J 117 (A n J 117 [m]) (s117 y0 y1 y2 y3)) x0 x1 x2 x3 := by kernel_rfl
theorem e249 {n J m x0 x1 x2} : A n J 249 [m + 1] (s249 x0 x1 x2) = b249 (fun y0 y1 y2 => J 249 (A n J 249 [m]) (s249 y0 y1 y2)) x0 x1 x2 := by kernel_rfl
noncomputable abbrev I (n : Nat) := A n idJ
theorem q249 (n m) : ∀ x0 x1 x2, I n 249 [m] (s249 x0 x1 x2) = l249 n m x0 x1 x2 := by
  induction m with
  | zero => intros; rfl
  | succ m ih =>
    intros
    exact e249.trans (Eq.trans (cf3 (congrArg b249 (fu3 (ih))) _ _ _) rfl)
theorem q15 (n x0 x1) : I n 15 [] (s15 x0 x1) = l15 n x0 x1 := e15.trans (Eq.trans (cf2 (congrArg b15 (fu3 (q249 n n))) _ _) rfl)
theorem q117 (n m) : ∀ x0 x1 x2 x3, I n 117 [m] (s117 x0 x1 x2 x3) = l117 n m x0 x1 x2 x3 := by
  induction m with
  | zero => intros; rfl
  | succ m ih =>
    intros
    exact e117.trans (Eq.trans (cf4 (congr (congrArg b117 (fu2 (q15 n))) (fu4 (ih))) _ _ _ _) rfl)
theorem ok {n  l0 r} (h : f n l0 = some r) : CallD Tryd.prog HW 153 [.ro .u64 l0] (sg.enc r) :=
  fun_some hwS Tryd.func153 (by kernel_rfl) (body := code) (by kernel_rfl) tys_ok (c := cfg) noCall_ok noW_ok (by kernel_rfl) (by kernel_rfl) (Nat.le_of_ble_eq_true (by kernel_rfl)) (Eq.trans ((e0 (n := n)).trans (Eq.trans (cf1 (congrArg b0 (fu4 (q117 n n))) _) rfl)) h)
noncomputable def call {α : Type} (g : T0) (ds : List D) (K : List D→Ω α) : Ω α := match ds with
  | [.ro .u64 l0] => (g l0).bind fun r => K (sg.enc r)
  | _ => none
theorem call_ok {α : Type} {n : Nat} : COK Tryd.prog HW 153 (call (α := α) (f n)) := fun _ _ _ h => by
  unfold call at h; split at h
  · exact cok h fun _ => ok
  · cases h
end abacusref01_halves
/-! ### abacusref01_limbs: function 154 -/
namespace abacusref01_limbs
noncomputable def b0 (c34 : T0) (k117 : T32) (l0 : Λ) : Ω (Λ) := (if 0 ≤ (wrap64 (Int.tdiv (wrap64 ((ln l0) + 1)) 2)) then (if (wrap64 (Int.tdiv (wrap64 ((ln l0) + 1)) 2)).toNat ≤ 35184372088832 then k117 l0 0 (List.replicate 0 (0 : Int)) else none) else none)
noncomputable def b15 (c34 : T0) (x0 : Λ) : Ω (Λ) := ((c34 x0).bind fun t1 => some t1)
noncomputable def b117 (c34 k15 : T0) (k117 : T32) (x0 : Λ) (x1 : Int) (x2 : Λ) : Ω (Λ) := (if x1 < (ln x0) then (if 0 ≤ x1 then (if x1 < (ln x0) then (if (wrap64 (x1 + 1)) < (ln x0) then (if 0 ≤ (wrap64 (x1 + 1)) then (if (wrap64 (x1 + 1)) < (ln x0) then (if x2.length + 1 ≤ 17592186044416 then k117 x0 (wrap64 (x1 + 2)) (x2 ++ [IntKind.u64.wrap ((rd x0 x1) + (IntKind.u64.wrap ((rd x0 (wrap64 (x1 + 1))) * 4294967296)))]) else none) else none) else none) else (if x2.length + 1 ≤ 17592186044416 then k117 x0 (wrap64 (x1 + 2)) (x2 ++ [rd x0 x1]) else none)) else none) else none) else k15 x2)
noncomputable def l15 (n : Nat) (x0 : Λ) : Ω (Λ) := b15 (abacusref01_Trim.f n) x0
noncomputable def l117 (n : Nat) : Nat→Λ→Int→Λ→Ω (Λ)
  | 0, _, _, _ => none
  | m + 1, x0, x1, x2 => b117 (abacusref01_Trim.f n) (l15 n) (l117 n m) x0 x1 x2
noncomputable def f (n : Nat) (l0 : Λ) : Ω (Λ) := b0 (abacusref01_Trim.f n) (l117 n n) l0
noncomputable def sg : Sig (Λ) := s1 (sOwn 25 .u64)
noncomputable def code : Code := (Tryd.f154.body).getD .skip
noncomputable def cfg (c34 : T0) : Cfg (Λ) := { T := tys, call := orCall 34 (abacusref01_Trim.call c34) (noCall) }
noncomputable def cuts : List (Nat × List (Nat × Want)) := [(15, [(3, .keep)]), (117, [(0, .keep), (3, .keep), (4, .keep)])]
noncomputable def s15 (x0 : Λ) : ASt := ⟨[(3, .own 0)], [.ints 25 .u64 x0]⟩
noncomputable def s117 (x0 : Λ) (x1 : Int) (x2 : Λ) : ASt := ⟨[(0, .ro .u64 x0), (3, .own 0), (4, .int .i64 x1)], [.ints 25 .u64 x2]⟩
noncomputable def A (c34 : T0) (n : Nat) (J : Jt (Λ)) (q : Nat) (ms : List Nat) : ASt→Ω (Λ) := acont (cfg c34) J cuts n q code 1 ms (aend (cfg c34) Tryd.f154.results.toList [true] sg.out)
theorem e0 {c34 n J l0} : afun (cfg c34) J cuts n code Tryd.f154.results.toList [true] [.ro .u64 l0] sg.out = b0 c34 (fun y0 y1 y2 => J 117 (A c34 n J 117 [n]) (s117 y0 y1 y2)) l0 := by kernel_rfl
theorem e15 {c34 n J x0} : A c34 n J 15 [] (s15 x0) = b15 c34 x0 := by kernel_rfl
theorem e117 {c34 n J m x0 x1 x2} : A c34 n J 117 [m + 1] (s117 x0 x1 x2) = b117 c34 (fun y0 => J 15 (A c34 n J 15 []) (s15 y0)) (fun y0 y1 y2 => J 117 (A c34 n J 117 [m]) (s117 y0 y1 y2)) x0 x1 x2 := by kernel_rfl
noncomputable abbrev I (n : Nat) := A (abacusref01_Trim.f n) n idJ
theorem q15 (n x0) : I n 15 [] (s15 x0) = l15 n x0 := e15
theorem q117 (n m) : ∀ x0 x1 x2, I n 117 [m] (s117 x0 x1 x2) = l117 n m x0 x1 x2 := by
  induction m with
  | zero => intros; rfl
  | succ m ih =>
    intros
    exact e117.trans (Eq.trans (cf3 (congr (congrArg (b117 _) (fu1 (q15 n))) (fu3 (ih))) _ _ _) rfl)
theorem ok {n  l0 r} (h : f n l0 = some r) : CallD Tryd.prog HW 154 [.ro .u64 l0] (sg.enc r) :=
  fun_some hwS Tryd.func154 (by kernel_rfl) (body := code) (by kernel_rfl) tys_ok (c := cfg (abacusref01_Trim.f n)) (orCall_ok (abacusref01_Trim.call_ok (n := n)) noCall_ok) noW_ok (by kernel_rfl) (by kernel_rfl) (Nat.le_of_ble_eq_true (by kernel_rfl)) (Eq.trans ((e0 (n := n)).trans (Eq.trans (cf1 (congrArg (b0 _) (fu3 (q117 n n))) _) rfl)) h)
noncomputable def call {α : Type} (g : T0) (ds : List D) (K : List D→Ω α) : Ω α := match ds with
  | [.ro .u64 l0] => (g l0).bind fun r => K (sg.enc r)
  | _ => none
theorem call_ok {α : Type} {n : Nat} : COK Tryd.prog HW 154 (call (α := α) (f n)) := fun _ _ _ h => by
  unfold call at h; split at h
  · exact cok h fun _ => ok
  · cases h
end abacusref01_limbs
/-! ### abacusref01_Plus: function 124 -/
namespace abacusref01_Plus
noncomputable def b0 (c153 c154 : T0) (k1013 : T11) (l0 l1 : Λ) : Ω (Λ) := ((c153 l0).bind fun t1 => ((c153 l1).bind fun t2 => (if 0 ≤ (wrap64 ((wrap64 ((ln t1) + (ln t2))) + 1)) then (if (wrap64 ((wrap64 ((ln t1) + (ln t2))) + 1)).toNat ≤ 35184372088832 then k1013 t1 t2 0 0 (List.replicate 0 (0 : Int)) else none) else none)))
noncomputable def b127 (c153 c154 : T0) (x0 : Int) (x1 : Λ) : Ω (Λ) := (if x1.length + 1 ≤ 17592186044416 then ((c154 (x1 ++ [x0])).bind fun t1 => some t1) else none)
noncomputable def b1013 (c153 c154 : T0) (k127 : Int→Λ→Ω (Λ)) (k2025 : T11) (x0 x1 : Λ) (x2 x3 : Int) (x4 : Λ) : Ω (Λ) := (if x3 < (ln x0) then k2025 x0 x1 x2 x3 x4 else (if x3 < (ln x1) then k2025 x0 x1 x2 x3 x4 else k127 x2 x4))
noncomputable def b2025 (c153 c154 : T0) (k16201 : T11) (x0 x1 : Λ) (x2 x3 : Int) (x4 : Λ) : Ω (Λ) := (if x3 < (ln x0) then (if 0 ≤ x3 then (if x3 < (ln x0) then k16201 x0 x1 (IntKind.u64.wrap (x2 + (rd x0 x3))) x3 x4 else none) else none) else k16201 x0 x1 x2 x3 x4)
noncomputable def b16201 (c153 c154 : T0) (k1013 : T11) (x0 x1 : Λ) (x2 x3 : Int) (x4 : Λ) : Ω (Λ) := (if x3 < (ln x1) then (if 0 ≤ x3 then (if x3 < (ln x1) then (if x4.length + 1 ≤ 17592186044416 then k1013 x0 x1 ((IntKind.u64.wrap (x2 + (rd x1 x3))) / 4294967296) (wrap64 (x3 + 1)) (x4 ++ [Go.bits .and .u64 (IntKind.u64.wrap (x2 + (rd x1 x3))) 4294967295]) else none) else none) else none) else (if x4.length + 1 ≤ 17592186044416 then k1013 x0 x1 (x2 / 4294967296) (wrap64 (x3 + 1)) (x4 ++ [Go.bits .and .u64 x2 4294967295]) else none))
noncomputable def l127 (n : Nat) (x0 : Int) (x1 : Λ) : Ω (Λ) := b127 (abacusref01_halves.f n) (abacusref01_limbs.f n) x0 x1
noncomputable def l16201 (n : Nat) (k1013 : T11) (x0 x1 : Λ) (x2 x3 : Int) (x4 : Λ) : Ω (Λ) := b16201 (abacusref01_halves.f n) (abacusref01_limbs.f n) k1013 x0 x1 x2 x3 x4
noncomputable def l2025 (n : Nat) (k1013 : T11) (x0 x1 : Λ) (x2 x3 : Int) (x4 : Λ) : Ω (Λ) := b2025 (abacusref01_halves.f n) (abacusref01_limbs.f n) (l16201 n k1013) x0 x1 x2 x3 x4
noncomputable def l1013 (n : Nat) : Nat→Λ→Λ→Int→Int→Λ→Ω (Λ)
  | 0, _, _, _, _, _ => none
  | m + 1, x0, x1, x2, x3, x4 => b1013 (abacusref01_halves.f n) (abacusref01_limbs.f n) (l127 n) (l2025 n (l1013 n m)) x0 x1 x2 x3 x4
noncomputable def f (n : Nat) (l0 l1 : Λ) : Ω (Λ) := b0 (abacusref01_halves.f n) (abacusref01_limbs.f n) (l1013 n n) l0 l1
noncomputable def sg : Sig (Λ) := s1 (sOwn 25 .u64)
noncomputable def code : Code := (Tryd.f124.body).getD .skip
noncomputable def cfg (c153 c154 : T0) : Cfg (Λ) := { T := tys, call := orCall 153 (abacusref01_halves.call c153) (orCall 154 (abacusref01_limbs.call c154) (noCall)) }
noncomputable def cuts : List (Nat × List (Nat × Want)) := [(127, [(7, .keep), (8, .keep)]), (1013, [(5, .keep), (6, .keep), (7, .keep), (8, .keep), (9, .keep)]), (2025, [(5, .keep), (6, .keep), (7, .keep), (8, .keep), (9, .keep)]), (16201, [(5, .keep), (6, .keep), (7, .keep), (8, .keep), (9, .keep)])]
noncomputable def s127 (x0 : Int) (x1 : Λ) : ASt := ⟨[(7, .own 0), (8, .int .u64 x0)], [.ints 25 .u64 x1]⟩
noncomputable def s1013 (x0 x1 : Λ) (x2 x3 : Int) (x4 : Λ) : ASt := ⟨[(5, .ro .u64 x0), (6, .ro .u64 x1), (7, .own 0), (8, .int .u64 x2), (9, .int .i64 x3)], [.ints 25 .u64 x4]⟩
noncomputable def s2025 (x0 x1 : Λ) (x2 x3 : Int) (x4 : Λ) : ASt := ⟨[(5, .ro .u64 x0), (6, .ro .u64 x1), (7, .own 0), (8, .int .u64 x2), (9, .int .i64 x3)], [.ints 25 .u64 x4]⟩
noncomputable def s16201 (x0 x1 : Λ) (x2 x3 : Int) (x4 : Λ) : ASt := ⟨[(5, .ro .u64 x0), (6, .ro .u64 x1), (7, .own 0), (8, .int .u64 x2), (9, .int .i64 x3)], [.ints 25 .u64 x4]⟩
noncomputable def A (c153 c154 : T0) (n : Nat) (J : Jt (Λ)) (q : Nat) (ms : List Nat) : ASt→Ω (Λ) := acont (cfg c153 c154) J cuts n q code 1 ms (aend (cfg c153 c154) Tryd.f124.results.toList [true] sg.out)
theorem e0 {c153 c154 n J l0 l1} : afun (cfg c153 c154) J cuts n code Tryd.f124.results.toList [true] [.ro .u64 l0, .ro .u64 l1] sg.out = b0 c153 c154 (fun y0 y1 y2 y3 y4 => J 1013 (A c153 c154 n J 1013 [n]) (s1013 y0 y1 y2 y3 y4)) l0 l1 := by kernel_rfl
theorem e127 {c153 c154 n J x0 x1} : A c153 c154 n J 127 [] (s127 x0 x1) = b127 c153 c154 x0 x1 := by kernel_rfl
theorem e1013 {c153 c154 n J m x0 x1 x2 x3 x4} : A c153 c154 n J 1013 [m + 1] (s1013 x0 x1 x2 x3 x4) = b1013 c153 c154 (fun y0 y1 => J 127 (A c153 c154 n J 127 []) (s127 y0 y1)) (fun y0 y1 y2 y3 y4 => J 2025 (A c153 c154 n J 2025 [m]) (s2025 y0 y1 y2 y3 y4)) x0 x1 x2 x3 x4 := by kernel_rfl
theorem e2025 {c153 c154 n J m1013 x0 x1 x2 x3 x4} : A c153 c154 n J 2025 [m1013] (s2025 x0 x1 x2 x3 x4) = b2025 c153 c154 (fun y0 y1 y2 y3 y4 => J 16201 (A c153 c154 n J 16201 [m1013]) (s16201 y0 y1 y2 y3 y4)) x0 x1 x2 x3 x4 := by kernel_rfl
theorem e16201 {c153 c154 n J m1013 x0 x1 x2 x3 x4} : A c153 c154 n J 16201 [m1013] (s16201 x0 x1 x2 x3 x4) = b16201 c153 c154 (fun y0 y1 y2 y3 y4 => J 1013 (A c153 c154 n J 1013 [m1013]) (s1013 y0 y1 y2 y3 y4)) x0 x1 x2 x3 x4 := by kernel_rfl
noncomputable abbrev I (n : Nat) := A (abacusref01_halves.f n) (abacusref01_limbs.f n) n idJ
theorem q127 (n x0 x1) : I n 127 [] (s127 x0 x1) = l127 n x0 x1 := e127
theorem q16201 (n m1013 x0 x1 x2 x3 x4) : I n 16201 [m1013] (s16201 x0 x1 x2 x3 x4) = l16201 n (fun y0 y1 y2 y3 y4 => I n 1013 [m1013] (s1013 y0 y1 y2 y3 y4)) x0 x1 x2 x3 x4 := e16201
theorem q2025 (n m1013 x0 x1 x2 x3 x4) : I n 2025 [m1013] (s2025 x0 x1 x2 x3 x4) = l2025 n (fun y0 y1 y2 y3 y4 => I n 1013 [m1013] (s1013 y0 y1 y2 y3 y4)) x0 x1 x2 x3 x4 := e2025.trans (Eq.trans (cf5 (congrArg (b2025 _ _) (fu5 (q16201 n m1013))) _ _ _ _ _) rfl)
theorem q1013 (n m) : ∀ x0 x1 x2 x3 x4, I n 1013 [m] (s1013 x0 x1 x2 x3 x4) = l1013 n m x0 x1 x2 x3 x4 := by
  induction m with
  | zero => intros; rfl
  | succ m ih =>
    intros
    exact e1013.trans (Eq.trans (cf5 (congr (congrArg (b1013 _ _) (fu2 (q127 n))) ((fu5 (q2025 n m)).trans (by rw [show (fun y0 y1 y2 y3 y4 => I n 1013 [m] (s1013 y0 y1 y2 y3 y4)) = _ from (fu5 (ih))]))) _ _ _ _ _) rfl)
theorem ok {n  l0 l1 r} (h : f n l0 l1 = some r) : CallD Tryd.prog HW 124 [.ro .u64 l0, .ro .u64 l1] (sg.enc r) :=
  fun_some hwS Tryd.func124 (by kernel_rfl) (body := code) (by kernel_rfl) tys_ok (c := cfg (abacusref01_halves.f n) (abacusref01_limbs.f n)) (orCall_ok (abacusref01_halves.call_ok (n := n)) (orCall_ok (abacusref01_limbs.call_ok (n := n)) noCall_ok)) noW_ok (by kernel_rfl) (by kernel_rfl) (Nat.le_of_ble_eq_true (by kernel_rfl)) (Eq.trans ((e0 (n := n)).trans (Eq.trans (cf2 (congrArg (b0 _ _) (fu5 (q1013 n n))) _ _) rfl)) h)
noncomputable def call {α : Type} (g : T6) (ds : List D) (K : List D→Ω α) : Ω α := match ds with
  | [.ro .u64 l0, .ro .u64 l1] => (g l0 l1).bind fun r => K (sg.enc r)
  | _ => none
theorem call_ok {α : Type} {n : Nat} : COK Tryd.prog HW 124 (call (α := α) (f n)) := fun _ _ _ h => by
  unfold call at h; split at h
  · exact cok h fun _ => ok
  · cases h
end abacusref01_Plus
/-! ### abacusref01_Add: function 41 -/
namespace abacusref01_Add
noncomputable def b0 (c123 : T2) (c124 : T6) (l0 l1 : Λ) : Ω (Λ × Int) := ((c123 l0).bind fun t1 => (if t1 = true then some (([] : Λ), 2) else ((c123 l1).bind fun t2 => (if t2 = true then some (([] : Λ), 2) else ((c124 l0 l1).bind fun t3 => ((c123 t3).bind fun t4 => (if t4 = true then some (([] : Λ), 2) else some (t3, 0))))))))
noncomputable def f (n : Nat) (l0 l1 : Λ) : Ω (Λ × Int) := b0 (abacusref01_Big.f n) (abacusref01_Plus.f n) l0 l1
noncomputable def sg : Sig (Λ × Int) := s2 (sRow .u64) (s1 (sInt .i64))
noncomputable def code : Code := (Tryd.f41.body).getD .skip
noncomputable def cfg (c123 : T2) (c124 : T6) : Cfg (Λ × Int) := { T := tys, call := orCall 123 (abacusref01_Big.call c123) (orCall 124 (abacusref01_Plus.call c124) (noCall)) }
noncomputable def cuts : List (Nat × List (Nat × Want)) := []
theorem e0 {c123 c124 n J l0 l1} : afun (cfg c123 c124) J cuts n code Tryd.f41.results.toList [false, false] [.ro .u64 l0, .ro .u64 l1] sg.out = b0 c123 c124 l0 l1 := by kernel_rfl
theorem ok {n  l0 l1 r} (h : f n l0 l1 = some r) : CallD Tryd.prog HW 41 [.ro .u64 l0, .ro .u64 l1] (sg.enc r) :=
  fun_some hwS Tryd.func41 (by kernel_rfl) (body := code) (by kernel_rfl) tys_ok (c := cfg (abacusref01_Big.f n) (abacusref01_Plus.f n)) (orCall_ok (abacusref01_Big.call_ok (n := n)) (orCall_ok (abacusref01_Plus.call_ok (n := n)) noCall_ok)) noW_ok (by kernel_rfl) (by kernel_rfl) (Nat.le_of_ble_eq_true (by kernel_rfl)) (Eq.trans ((e0 (n := n))) h)
noncomputable def call {α : Type} (g : T5) (ds : List D) (K : List D→Ω α) : Ω α := match ds with
  | [.ro .u64 l0, .ro .u64 l1] => (g l0 l1).bind fun r => K (sg.enc r)
  | _ => none
theorem call_ok {α : Type} {n : Nat} : COK Tryd.prog HW 41 (call (α := α) (f n)) := fun _ _ _ h => by
  unfold call at h; split at h
  · exact cok h fun _ => ok
  · cases h
end abacusref01_Add
/-! ### abacusref01_Less: function 125 -/
namespace abacusref01_Less
noncomputable def b0 (c153 c154 : T0) (k1013 : T11) (l0 l1 : Λ) : Ω (Λ) := ((c153 l0).bind fun t1 => ((c153 l1).bind fun t2 => (if 0 ≤ (ln t1) then (if (ln t1).toNat ≤ 35184372088832 then k1013 t1 t2 0 0 (List.replicate 0 (0 : Int)) else none) else none)))
noncomputable def b127 (c153 c154 : T0) (x0 : Λ) : Ω (Λ) := ((c154 x0).bind fun t1 => some t1)
noncomputable def b1013 (c153 c154 k127 : T0) (k32403 : T11) (x0 x1 : Λ) (x2 x3 : Int) (x4 : Λ) : Ω (Λ) := (if x3 < (ln x0) then (if x3 < (ln x1) then (if 0 ≤ x3 then (if x3 < (ln x1) then k32403 x0 x1 x3 (IntKind.u64.wrap (x2 + (rd x1 x3))) x4 else none) else none) else k32403 x0 x1 x3 x2 x4) else k127 x4)
noncomputable def b32403 (c153 c154 : T0) (k259231 : Λ→Λ→Int→Int→Int→Int→Λ→Ω (Λ)) (x0 x1 : Λ) (x2 x3 : Int) (x4 : Λ) : Ω (Λ) := (if 0 ≤ x2 then (if x2 < (ln x0) then (if (rd x0 x2) < x3 then k259231 x0 x1 1 x2 x3 (IntKind.u64.wrap ((rd x0 x2) + 4294967296)) x4 else k259231 x0 x1 0 x2 x3 (rd x0 x2) x4) else none) else none)
noncomputable def b259231 (c153 c154 : T0) (k1013 : T11) (x0 x1 : Λ) (x2 x3 x4 x5 : Int) (x6 : Λ) : Ω (Λ) := (if x6.length + 1 ≤ 17592186044416 then k1013 x0 x1 x2 (wrap64 (x3 + 1)) (x6 ++ [IntKind.u64.wrap (x5 - x4)]) else none)
noncomputable def l127 (n : Nat) (x0 : Λ) : Ω (Λ) := b127 (abacusref01_halves.f n) (abacusref01_limbs.f n) x0
noncomputable def l259231 (n : Nat) (k1013 : T11) (x0 x1 : Λ) (x2 x3 x4 x5 : Int) (x6 : Λ) : Ω (Λ) := b259231 (abacusref01_halves.f n) (abacusref01_limbs.f n) k1013 x0 x1 x2 x3 x4 x5 x6
noncomputable def l32403 (n : Nat) (k1013 : T11) (x0 x1 : Λ) (x2 x3 : Int) (x4 : Λ) : Ω (Λ) := b32403 (abacusref01_halves.f n) (abacusref01_limbs.f n) (l259231 n k1013) x0 x1 x2 x3 x4
noncomputable def l1013 (n : Nat) : Nat→Λ→Λ→Int→Int→Λ→Ω (Λ)
  | 0, _, _, _, _, _ => none
  | m + 1, x0, x1, x2, x3, x4 => b1013 (abacusref01_halves.f n) (abacusref01_limbs.f n) (l127 n) (l32403 n (l1013 n m)) x0 x1 x2 x3 x4
noncomputable def f (n : Nat) (l0 l1 : Λ) : Ω (Λ) := b0 (abacusref01_halves.f n) (abacusref01_limbs.f n) (l1013 n n) l0 l1
noncomputable def sg : Sig (Λ) := s1 (sOwn 25 .u64)
noncomputable def code : Code := (Tryd.f125.body).getD .skip
noncomputable def cfg (c153 c154 : T0) : Cfg (Λ) := { T := tys, call := orCall 153 (abacusref01_halves.call c153) (orCall 154 (abacusref01_limbs.call c154) (noCall)) }
noncomputable def cuts : List (Nat × List (Nat × Want)) := [(127, [(7, .keep)]), (1013, [(5, .keep), (6, .keep), (7, .keep), (8, .keep), (9, .keep)]), (32403, [(5, .keep), (6, .keep), (7, .keep), (9, .keep), (10, .keep)]), (259231, [(5, .keep), (6, .keep), (7, .keep), (8, .keep), (9, .keep), (10, .keep), (11, .keep)])]
noncomputable def s127 (x0 : Λ) : ASt := ⟨[(7, .own 0)], [.ints 25 .u64 x0]⟩
noncomputable def s1013 (x0 x1 : Λ) (x2 x3 : Int) (x4 : Λ) : ASt := ⟨[(5, .ro .u64 x0), (6, .ro .u64 x1), (7, .own 0), (8, .int .u64 x2), (9, .int .i64 x3)], [.ints 25 .u64 x4]⟩
noncomputable def s32403 (x0 x1 : Λ) (x2 x3 : Int) (x4 : Λ) : ASt := ⟨[(5, .ro .u64 x0), (6, .ro .u64 x1), (7, .own 0), (9, .int .i64 x2), (10, .int .u64 x3)], [.ints 25 .u64 x4]⟩
noncomputable def s259231 (x0 x1 : Λ) (x2 x3 x4 x5 : Int) (x6 : Λ) : ASt := ⟨[(5, .ro .u64 x0), (6, .ro .u64 x1), (7, .own 0), (8, .int .u64 x2), (9, .int .i64 x3), (10, .int .u64 x4), (11, .int .u64 x5)], [.ints 25 .u64 x6]⟩
noncomputable def A (c153 c154 : T0) (n : Nat) (J : Jt (Λ)) (q : Nat) (ms : List Nat) : ASt→Ω (Λ) := acont (cfg c153 c154) J cuts n q code 1 ms (aend (cfg c153 c154) Tryd.f125.results.toList [true] sg.out)
theorem e0 {c153 c154 n J l0 l1} : afun (cfg c153 c154) J cuts n code Tryd.f125.results.toList [true] [.ro .u64 l0, .ro .u64 l1] sg.out = b0 c153 c154 (fun y0 y1 y2 y3 y4 => J 1013 (A c153 c154 n J 1013 [n]) (s1013 y0 y1 y2 y3 y4)) l0 l1 := by kernel_rfl
theorem e127 {c153 c154 n J x0} : A c153 c154 n J 127 [] (s127 x0) = b127 c153 c154 x0 := by kernel_rfl
theorem e1013 {c153 c154 n J m x0 x1 x2 x3 x4} : A c153 c154 n J 1013 [m + 1] (s1013 x0 x1 x2 x3 x4) = b1013 c153 c154 (fun y0 => J 127 (A c153 c154 n J 127 []) (s127 y0)) (fun y0 y1 y2 y3 y4 => J 32403 (A c153 c154 n J 32403 [m]) (s32403 y0 y1 y2 y3 y4)) x0 x1 x2 x3 x4 := by kernel_rfl
theorem e32403 {c153 c154 n J m1013 x0 x1 x2 x3 x4} : A c153 c154 n J 32403 [m1013] (s32403 x0 x1 x2 x3 x4) = b32403 c153 c154 (fun y0 y1 y2 y3 y4 y5 y6 => J 259231 (A c153 c154 n J 259231 [m1013]) (s259231 y0 y1 y2 y3 y4 y5 y6)) x0 x1 x2 x3 x4 := by kernel_rfl
theorem e259231 {c153 c154 n J m1013 x0 x1 x2 x3 x4 x5 x6} : A c153 c154 n J 259231 [m1013] (s259231 x0 x1 x2 x3 x4 x5 x6) = b259231 c153 c154 (fun y0 y1 y2 y3 y4 => J 1013 (A c153 c154 n J 1013 [m1013]) (s1013 y0 y1 y2 y3 y4)) x0 x1 x2 x3 x4 x5 x6 := by kernel_rfl
noncomputable abbrev I (n : Nat) := A (abacusref01_halves.f n) (abacusref01_limbs.f n) n idJ
theorem q127 (n x0) : I n 127 [] (s127 x0) = l127 n x0 := e127
theorem q259231 (n m1013 x0 x1 x2 x3 x4 x5 x6) : I n 259231 [m1013] (s259231 x0 x1 x2 x3 x4 x5 x6) = l259231 n (fun y0 y1 y2 y3 y4 => I n 1013 [m1013] (s1013 y0 y1 y2 y3 y4)) x0 x1 x2 x3 x4 x5 x6 := e259231
theorem q32403 (n m1013 x0 x1 x2 x3 x4) : I n 32403 [m1013] (s32403 x0 x1 x2 x3 x4) = l32403 n (fun y0 y1 y2 y3 y4 => I n 1013 [m1013] (s1013 y0 y1 y2 y3 y4)) x0 x1 x2 x3 x4 := e32403.trans (Eq.trans (cf5 (congrArg (b32403 _ _) (fu7 (q259231 n m1013))) _ _ _ _ _) rfl)
theorem q1013 (n m) : ∀ x0 x1 x2 x3 x4, I n 1013 [m] (s1013 x0 x1 x2 x3 x4) = l1013 n m x0 x1 x2 x3 x4 := by
  induction m with
  | zero => intros; rfl
  | succ m ih =>
    intros
    exact e1013.trans (Eq.trans (cf5 (congr (congrArg (b1013 _ _) (fu1 (q127 n))) ((fu5 (q32403 n m)).trans (by rw [show (fun y0 y1 y2 y3 y4 => I n 1013 [m] (s1013 y0 y1 y2 y3 y4)) = _ from (fu5 (ih))]))) _ _ _ _ _) rfl)
theorem ok {n  l0 l1 r} (h : f n l0 l1 = some r) : CallD Tryd.prog HW 125 [.ro .u64 l0, .ro .u64 l1] (sg.enc r) :=
  fun_some hwS Tryd.func125 (by kernel_rfl) (body := code) (by kernel_rfl) tys_ok (c := cfg (abacusref01_halves.f n) (abacusref01_limbs.f n)) (orCall_ok (abacusref01_halves.call_ok (n := n)) (orCall_ok (abacusref01_limbs.call_ok (n := n)) noCall_ok)) noW_ok (by kernel_rfl) (by kernel_rfl) (Nat.le_of_ble_eq_true (by kernel_rfl)) (Eq.trans ((e0 (n := n)).trans (Eq.trans (cf2 (congrArg (b0 _ _) (fu5 (q1013 n n))) _ _) rfl)) h)
noncomputable def call {α : Type} (g : T6) (ds : List D) (K : List D→Ω α) : Ω α := match ds with
  | [.ro .u64 l0, .ro .u64 l1] => (g l0 l1).bind fun r => K (sg.enc r)
  | _ => none
theorem call_ok {α : Type} {n : Nat} : COK Tryd.prog HW 125 (call (α := α) (f n)) := fun _ _ _ h => by
  unfold call at h; split at h
  · exact cok h fun _ => ok
  · cases h
end abacusref01_Less
/-! ### abacusref01_Sub: function 42 -/
namespace abacusref01_Sub
noncomputable def b0 (c40 : T9) (c123 : T2) (c125 : T6) (l0 l1 : Λ) : Ω (Λ × Int) := ((c123 l0).bind fun t1 => (if t1 = true then some (([] : Λ), 2) else ((c123 l1).bind fun t2 => (if t2 = true then some (([] : Λ), 2) else ((c40 l0 l1).bind fun t3 => (if t3 < 0 then some (([] : Λ), 10) else ((c125 l0 l1).bind fun t4 => some (t4, 0))))))))
noncomputable def f (n : Nat) (l0 l1 : Λ) : Ω (Λ × Int) := b0 (abacusref01_Cmp.f n) (abacusref01_Big.f n) (abacusref01_Less.f n) l0 l1
noncomputable def sg : Sig (Λ × Int) := s2 (sRow .u64) (s1 (sInt .i64))
noncomputable def code : Code := (Tryd.f42.body).getD .skip
noncomputable def cfg (c40 : T9) (c123 : T2) (c125 : T6) : Cfg (Λ × Int) := { T := tys, call := orCall 40 (abacusref01_Cmp.call c40) (orCall 123 (abacusref01_Big.call c123) (orCall 125 (abacusref01_Less.call c125) (noCall))) }
noncomputable def cuts : List (Nat × List (Nat × Want)) := []
theorem e0 {c40 c123 c125 n J l0 l1} : afun (cfg c40 c123 c125) J cuts n code Tryd.f42.results.toList [false, false] [.ro .u64 l0, .ro .u64 l1] sg.out = b0 c40 c123 c125 l0 l1 := by kernel_rfl
theorem ok {n  l0 l1 r} (h : f n l0 l1 = some r) : CallD Tryd.prog HW 42 [.ro .u64 l0, .ro .u64 l1] (sg.enc r) :=
  fun_some hwS Tryd.func42 (by kernel_rfl) (body := code) (by kernel_rfl) tys_ok (c := cfg (abacusref01_Cmp.f n) (abacusref01_Big.f n) (abacusref01_Less.f n)) (orCall_ok (abacusref01_Cmp.call_ok (n := n)) (orCall_ok (abacusref01_Big.call_ok (n := n)) (orCall_ok (abacusref01_Less.call_ok (n := n)) noCall_ok))) noW_ok (by kernel_rfl) (by kernel_rfl) (Nat.le_of_ble_eq_true (by kernel_rfl)) (Eq.trans ((e0 (n := n))) h)
noncomputable def call {α : Type} (g : T5) (ds : List D) (K : List D→Ω α) : Ω α := match ds with
  | [.ro .u64 l0, .ro .u64 l1] => (g l0 l1).bind fun r => K (sg.enc r)
  | _ => none
theorem call_ok {α : Type} {n : Nat} : COK Tryd.prog HW 42 (call (α := α) (f n)) := fun _ _ _ h => by
  unfold call at h; split at h
  · exact cok h fun _ => ok
  · cases h
end abacusref01_Sub
/-! ### abacusref01_Times: function 126 -/
namespace abacusref01_Times
noncomputable def b0 (c153 c154 : T0) (k1013 : T29) (l0 l1 : Λ) : Ω (Λ) := ((c153 l0).bind fun t1 => ((c153 l1).bind fun t2 => (if (ln t1) = 0 then some ([] : Λ) else (if (ln t2) = 0 then some ([] : Λ) else (if 0 ≤ (wrap64 ((ln t1) + (ln t2))) then (if (wrap64 ((ln t1) + (ln t2))).toNat ≤ 35184372088832 then k1013 t1 t2 0 (List.replicate (wrap64 ((ln t1) + (ln t2))).toNat (0 : Int)) else none) else none)))))
noncomputable def b127 (c153 c154 : T0) (x0 : Λ) : Ω (Λ) := ((c154 x0).bind fun t1 => some t1)
noncomputable def b1013 (c153 c154 k127 : T0) (k259221 : T38) (x0 x1 : Λ) (x2 : Int) (x3 : Λ) : Ω (Λ) := (if x2 < (ln x0) then k259221 x0 x1 x2 0 0 x3 else k127 x3)
noncomputable def b32403 (c153 c154 : T0) (k1013 : T29) (x0 x1 : Λ) (x2 x3 : Int) (x4 : Λ) : Ω (Λ) := (if 0 ≤ (wrap64 (x2 + (ln x1))) then (if (wrap64 (x2 + (ln x1))) < (ln x4) then k1013 x0 x1 (wrap64 (x2 + 1)) (x4.set (wrap64 (x2 + (ln x1)) : Int).toNat x3) else none) else none)
noncomputable def b259221 (c153 c154 : T0) (k32403 : T11) (k259221 : T38) (x0 x1 : Λ) (x2 x3 x4 : Int) (x5 : Λ) : Ω (Λ) := (if x4 < (ln x1) then (if 0 ≤ x2 then (if x2 < (ln x0) then (if 0 ≤ x4 then (if x4 < (ln x1) then (if 0 ≤ (wrap64 (x2 + x4)) then (if (wrap64 (x2 + x4)) < (ln x5) then (if 0 ≤ (wrap64 (x2 + x4)) then (if (wrap64 (x2 + x4)) < (ln x5) then k259221 x0 x1 x2 ((IntKind.u64.wrap ((IntKind.u64.wrap ((IntKind.u64.wrap ((rd x0 x2) * (rd x1 x4))) + (rd x5 (wrap64 (x2 + x4))))) + x3)) / 4294967296) (wrap64 (x4 + 1)) (x5.set (wrap64 (x2 + x4) : Int).toNat (Go.bits .and .u64 (IntKind.u64.wrap ((IntKind.u64.wrap ((IntKind.u64.wrap ((rd x0 x2) * (rd x1 x4))) + (rd x5 (wrap64 (x2 + x4))))) + x3)) 4294967295)) else none) else none) else none) else none) else none) else none) else none) else none) else k32403 x0 x1 x2 x3 x5)
noncomputable def l127 (n : Nat) (x0 : Λ) : Ω (Λ) := b127 (abacusref01_halves.f n) (abacusref01_limbs.f n) x0
noncomputable def l32403 (n : Nat) (k1013 : T29) (x0 x1 : Λ) (x2 x3 : Int) (x4 : Λ) : Ω (Λ) := b32403 (abacusref01_halves.f n) (abacusref01_limbs.f n) k1013 x0 x1 x2 x3 x4
noncomputable def l259221 (n : Nat) (k1013 : T29) : Nat→Λ→Λ→Int→Int→Int→Λ→Ω (Λ)
  | 0, _, _, _, _, _, _ => none
  | m + 1, x0, x1, x2, x3, x4, x5 => b259221 (abacusref01_halves.f n) (abacusref01_limbs.f n) (l32403 n k1013) (l259221 n k1013 m) x0 x1 x2 x3 x4 x5
noncomputable def l1013 (n : Nat) : Nat→Λ→Λ→Int→Λ→Ω (Λ)
  | 0, _, _, _, _ => none
  | m + 1, x0, x1, x2, x3 => b1013 (abacusref01_halves.f n) (abacusref01_limbs.f n) (l127 n) (l259221 n (l1013 n m) n) x0 x1 x2 x3
noncomputable def f (n : Nat) (l0 l1 : Λ) : Ω (Λ) := b0 (abacusref01_halves.f n) (abacusref01_limbs.f n) (l1013 n n) l0 l1
noncomputable def sg : Sig (Λ) := s1 (sOwn 25 .u64)
noncomputable def code : Code := (Tryd.f126.body).getD .skip
noncomputable def cfg (c153 c154 : T0) : Cfg (Λ) := { T := tys, call := orCall 153 (abacusref01_halves.call c153) (orCall 154 (abacusref01_limbs.call c154) (noCall)) }
noncomputable def cuts : List (Nat × List (Nat × Want)) := [(127, [(7, .keep)]), (1013, [(5, .keep), (6, .keep), (7, .keep), (8, .keep)]), (32403, [(5, .keep), (6, .keep), (7, .keep), (8, .keep), (9, .keep)]), (259221, [(5, .keep), (6, .keep), (7, .keep), (8, .keep), (9, .keep), (10, .keep)])]
noncomputable def s127 (x0 : Λ) : ASt := ⟨[(7, .own 0)], [.ints 25 .u64 x0]⟩
noncomputable def s1013 (x0 x1 : Λ) (x2 : Int) (x3 : Λ) : ASt := ⟨[(5, .ro .u64 x0), (6, .ro .u64 x1), (7, .own 0), (8, .int .i64 x2)], [.ints 25 .u64 x3]⟩
noncomputable def s32403 (x0 x1 : Λ) (x2 x3 : Int) (x4 : Λ) : ASt := ⟨[(5, .ro .u64 x0), (6, .ro .u64 x1), (7, .own 0), (8, .int .i64 x2), (9, .int .u64 x3)], [.ints 25 .u64 x4]⟩
noncomputable def s259221 (x0 x1 : Λ) (x2 x3 x4 : Int) (x5 : Λ) : ASt := ⟨[(5, .ro .u64 x0), (6, .ro .u64 x1), (7, .own 0), (8, .int .i64 x2), (9, .int .u64 x3), (10, .int .i64 x4)], [.ints 25 .u64 x5]⟩
noncomputable def A (c153 c154 : T0) (n : Nat) (J : Jt (Λ)) (q : Nat) (ms : List Nat) : ASt→Ω (Λ) := acont (cfg c153 c154) J cuts n q code 1 ms (aend (cfg c153 c154) Tryd.f126.results.toList [true] sg.out)
theorem e0 {c153 c154 n J l0 l1} : afun (cfg c153 c154) J cuts n code Tryd.f126.results.toList [true] [.ro .u64 l0, .ro .u64 l1] sg.out = b0 c153 c154 (fun y0 y1 y2 y3 => J 1013 (A c153 c154 n J 1013 [n]) (s1013 y0 y1 y2 y3)) l0 l1 := by kernel_rfl
theorem e127 {c153 c154 n J x0} : A c153 c154 n J 127 [] (s127 x0) = b127 c153 c154 x0 := by kernel_rfl
theorem e1013 {c153 c154 n J m x0 x1 x2 x3} : A c153 c154 n J 1013 [m + 1] (s1013 x0 x1 x2 x3) = b1013 c153 c154 (fun y0 => J 127 (A c153 c154 n J 127 []) (s127 y0)) (fun y0 y1 y2 y3 y4 y5 => J 259221 (A c153 c154 n J 259221 [m, n]) (s259221 y0 y1 y2 y3 y4 y5)) x0 x1 x2 x3 := by kernel_rfl
theorem e32403 {c153 c154 n J m1013 x0 x1 x2 x3 x4} : A c153 c154 n J 32403 [m1013] (s32403 x0 x1 x2 x3 x4) = b32403 c153 c154 (fun y0 y1 y2 y3 => J 1013 (A c153 c154 n J 1013 [m1013]) (s1013 y0 y1 y2 y3)) x0 x1 x2 x3 x4 := by kernel_rfl
theorem e259221 {c153 c154 n J m1013 m x0 x1 x2 x3 x4 x5} : A c153 c154 n J 259221 [m1013, m + 1] (s259221 x0 x1 x2 x3 x4 x5) = b259221 c153 c154 (fun y0 y1 y2 y3 y4 => J 32403 (A c153 c154 n J 32403 [m1013]) (s32403 y0 y1 y2 y3 y4)) (fun y0 y1 y2 y3 y4 y5 => J 259221 (A c153 c154 n J 259221 [m1013, m]) (s259221 y0 y1 y2 y3 y4 y5)) x0 x1 x2 x3 x4 x5 := by kernel_rfl
noncomputable abbrev I (n : Nat) := A (abacusref01_halves.f n) (abacusref01_limbs.f n) n idJ
theorem q127 (n x0) : I n 127 [] (s127 x0) = l127 n x0 := e127
theorem q32403 (n m1013 x0 x1 x2 x3 x4) : I n 32403 [m1013] (s32403 x0 x1 x2 x3 x4) = l32403 n (fun y0 y1 y2 y3 => I n 1013 [m1013] (s1013 y0 y1 y2 y3)) x0 x1 x2 x3 x4 := e32403
theorem q259221 (n m1013 m) : ∀ x0 x1 x2 x3 x4 x5, I n 259221 [m1013, m] (s259221 x0 x1 x2 x3 x4 x5) = l259221 n (fun y0 y1 y2 y3 => I n 1013 [m1013] (s1013 y0 y1 y2 y3)) m x0 x1 x2 x3 x4 x5 := by
  induction m with
  | zero => intros; rfl
  | succ m ih =>
    intros
    exact e259221.trans (Eq.trans (cf6 (congr (congrArg (b259221 _ _) (fu5 (q32403 n m1013))) (fu6 (ih))) _ _ _ _ _ _) rfl)
theorem q1013 (n m) : ∀ x0 x1 x2 x3, I n 1013 [m] (s1013 x0 x1 x2 x3) = l1013 n m x0 x1 x2 x3 := by
  induction m with
  | zero => intros; rfl
  | succ m ih =>
    intros
    exact e1013.trans (Eq.trans (cf4 (congr (congrArg (b1013 _ _) (fu1 (q127 n))) ((fu6 (q259221 n m n)).trans (by rw [show (fun y0 y1 y2 y3 => I n 1013 [m] (s1013 y0 y1 y2 y3)) = _ from (fu4 (ih))]))) _ _ _ _) rfl)
theorem ok {n  l0 l1 r} (h : f n l0 l1 = some r) : CallD Tryd.prog HW 126 [.ro .u64 l0, .ro .u64 l1] (sg.enc r) :=
  fun_some hwS Tryd.func126 (by kernel_rfl) (body := code) (by kernel_rfl) tys_ok (c := cfg (abacusref01_halves.f n) (abacusref01_limbs.f n)) (orCall_ok (abacusref01_halves.call_ok (n := n)) (orCall_ok (abacusref01_limbs.call_ok (n := n)) noCall_ok)) noW_ok (by kernel_rfl) (by kernel_rfl) (Nat.le_of_ble_eq_true (by kernel_rfl)) (Eq.trans ((e0 (n := n)).trans (Eq.trans (cf2 (congrArg (b0 _ _) (fu4 (q1013 n n))) _ _) rfl)) h)
noncomputable def call {α : Type} (g : T6) (ds : List D) (K : List D→Ω α) : Ω α := match ds with
  | [.ro .u64 l0, .ro .u64 l1] => (g l0 l1).bind fun r => K (sg.enc r)
  | _ => none
theorem call_ok {α : Type} {n : Nat} : COK Tryd.prog HW 126 (call (α := α) (f n)) := fun _ _ _ h => by
  unfold call at h; split at h
  · exact cok h fun _ => ok
  · cases h
end abacusref01_Times
/-! ### abacusref01_Mul: function 43 -/
namespace abacusref01_Mul
noncomputable def b0 (c37 : T1) (c123 : T2) (c126 : T6) (l0 l1 : Λ) : Ω (Λ × Int) := ((c123 l0).bind fun t1 => (if t1 = true then some (([] : Λ), 2) else ((c123 l1).bind fun t2 => (if t2 = true then some (([] : Λ), 2) else ((c37 l0).bind fun t3 => ((c37 l1).bind fun t4 => (if (wrap64 (t3 + t4)) > 262145 then some (([] : Λ), 2) else ((c126 l0 l1).bind fun t5 => ((c123 t5).bind fun t6 => (if t6 = true then some (([] : Λ), 2) else some (t5, 0)))))))))))
noncomputable def f (n : Nat) (l0 l1 : Λ) : Ω (Λ × Int) := b0 (abacusref01_BitLen.f n) (abacusref01_Big.f n) (abacusref01_Times.f n) l0 l1
noncomputable def sg : Sig (Λ × Int) := s2 (sRow .u64) (s1 (sInt .i64))
noncomputable def code : Code := (Tryd.f43.body).getD .skip
noncomputable def cfg (c37 : T1) (c123 : T2) (c126 : T6) : Cfg (Λ × Int) := { T := tys, call := orCall 37 (abacusref01_BitLen.call c37) (orCall 123 (abacusref01_Big.call c123) (orCall 126 (abacusref01_Times.call c126) (noCall))) }
noncomputable def cuts : List (Nat × List (Nat × Want)) := []
theorem e0 {c37 c123 c126 n J l0 l1} : afun (cfg c37 c123 c126) J cuts n code Tryd.f43.results.toList [false, false] [.ro .u64 l0, .ro .u64 l1] sg.out = b0 c37 c123 c126 l0 l1 := by kernel_rfl
theorem ok {n  l0 l1 r} (h : f n l0 l1 = some r) : CallD Tryd.prog HW 43 [.ro .u64 l0, .ro .u64 l1] (sg.enc r) :=
  fun_some hwS Tryd.func43 (by kernel_rfl) (body := code) (by kernel_rfl) tys_ok (c := cfg (abacusref01_BitLen.f n) (abacusref01_Big.f n) (abacusref01_Times.f n)) (orCall_ok (abacusref01_BitLen.call_ok (n := n)) (orCall_ok (abacusref01_Big.call_ok (n := n)) (orCall_ok (abacusref01_Times.call_ok (n := n)) noCall_ok))) noW_ok (by kernel_rfl) (by kernel_rfl) (Nat.le_of_ble_eq_true (by kernel_rfl)) (Eq.trans ((e0 (n := n))) h)
noncomputable def call {α : Type} (g : T5) (ds : List D) (K : List D→Ω α) : Ω α := match ds with
  | [.ro .u64 l0, .ro .u64 l1] => (g l0 l1).bind fun r => K (sg.enc r)
  | _ => none
theorem call_ok {α : Type} {n : Nat} : COK Tryd.prog HW 43 (call (α := α) (f n)) := fun _ _ _ h => by
  unfold call at h; split at h
  · exact cok h fun _ => ok
  · cases h
end abacusref01_Mul
/-! ### abacusref01_MulAdd: function 44 -/
namespace abacusref01_MulAdd
noncomputable def b0 (c123 : T2) (c124 c126 : T6) (l0 : Λ) (a1 a2 : Int) : Ω (Λ × Int) := ((c123 l0).bind fun t1 => (if t1 = true then some (([] : Λ), 2) else ((c126 l0 [a1]).bind fun t2 => ((c124 t2 [a2]).bind fun t3 => ((c123 t3).bind fun t4 => (if t4 = true then some (([] : Λ), 2) else some (t3, 0)))))))
noncomputable def f (n : Nat) (l0 : Λ) (a1 a2 : Int) : Ω (Λ × Int) := b0 (abacusref01_Big.f n) (abacusref01_Plus.f n) (abacusref01_Times.f n) l0 a1 a2
noncomputable def sg : Sig (Λ × Int) := s2 (sRow .u64) (s1 (sInt .i64))
noncomputable def code : Code := (Tryd.f44.body).getD .skip
noncomputable def cfg (c123 : T2) (c124 c126 : T6) : Cfg (Λ × Int) := { T := tys, call := orCall 123 (abacusref01_Big.call c123) (orCall 124 (abacusref01_Plus.call c124) (orCall 126 (abacusref01_Times.call c126) (noCall))) }
noncomputable def cuts : List (Nat × List (Nat × Want)) := []
theorem e0 {c123 c124 c126 n J l0 a1 a2} : afun (cfg c123 c124 c126) J cuts n code Tryd.f44.results.toList [false, false] [.ro .u64 l0, .int .u64 a1, .int .u64 a2] sg.out = b0 c123 c124 c126 l0 a1 a2 := by kernel_rfl
theorem ok {n  l0 a1 a2 r} (h : f n l0 a1 a2 = some r) : CallD Tryd.prog HW 44 [.ro .u64 l0, .int .u64 a1, .int .u64 a2] (sg.enc r) :=
  fun_some hwS Tryd.func44 (by kernel_rfl) (body := code) (by kernel_rfl) tys_ok (c := cfg (abacusref01_Big.f n) (abacusref01_Plus.f n) (abacusref01_Times.f n)) (orCall_ok (abacusref01_Big.call_ok (n := n)) (orCall_ok (abacusref01_Plus.call_ok (n := n)) (orCall_ok (abacusref01_Times.call_ok (n := n)) noCall_ok))) noW_ok (by kernel_rfl) (by kernel_rfl) (Nat.le_of_ble_eq_true (by kernel_rfl)) (Eq.trans ((e0 (n := n))) h)
noncomputable def call {α : Type} (g : T19) (ds : List D) (K : List D→Ω α) : Ω α := match ds with
  | [.ro .u64 l0, .int .u64 a1, .int .u64 a2] => (g l0 a1 a2).bind fun r => K (sg.enc r)
  | _ => none
theorem call_ok {α : Type} {n : Nat} : COK Tryd.prog HW 44 (call (α := α) (f n)) := fun _ _ _ h => by
  unfold call at h; split at h
  · exact cok h fun _ => ok
  · cases h
end abacusref01_MulAdd
/-! ### abacusref01_DivSmall: function 45 -/
namespace abacusref01_DivSmall
noncomputable def b0 (c34 : T0) (c122 : T1) (c123 : T2) (k2037 : T23) (l0 : Λ) (a1 : Int) : Ω (Λ × Int × Int) := ((c123 l0).bind fun t1 => (if t1 = true then some (([] : Λ), 0, 2) else (if a1 = 0 then some (([] : Λ), 0, 4) else ((c122 l0).bind fun t2 => (if 0 ≤ t2 then (if t2.toNat ≤ 35184372088832 then k2037 l0 a1 0 (wrap64 (t2 - 1)) (List.replicate t2.toNat (0 : Int)) else none) else none)))))
noncomputable def b255 (c34 : T0) (c122 : T1) (c123 : T2) (x0 : Int) (x1 : Λ) : Ω (Λ × Int × Int) := ((c34 x1).bind fun t1 => some (t1, x0, 0))
noncomputable def b2037 (c34 : T0) (c122 : T1) (c123 : T2) (k255 : T39) (k130341 : T40) (x0 : Λ) (x1 x2 x3 : Int) (x4 : Λ) : Ω (Λ × Int × Int) := (if x3 ≥ 0 then k130341 x0 x1 x2 0 x3 x4 else k255 x2 x4)
noncomputable def b130341 (c34 : T0) (c122 : T1) (c123 : T2) (k2037 : T23) (k130341 : T40) (x0 : Λ) (x1 x2 x3 x4 : Int) (x5 : Λ) : Ω (Λ × Int × Int) := (if x3 < 64 then (if 0 ≤ x4 then (if x4 < (ln x0) then (if 0 ≤ x3 then (if 0 ≤ x4 then (if x4 < (ln x5) then (if 0 ≤ x4 then (if x4 < (ln x5) then (if (x2 / 9223372036854775808) = 1 then (if 0 ≤ x4 then (if x4 < (ln (x5.set (x4 : Int).toNat (IntKind.u64.wrap ((rd x5 x4) * 2)))) then (if 0 ≤ x4 then (if x4 < (ln (x5.set (x4 : Int).toNat (IntKind.u64.wrap ((rd x5 x4) * 2)))) then k130341 x0 x1 (IntKind.u64.wrap ((Go.bits .or .u64 (IntKind.u64.wrap (x2 * 2)) ((shl .u64 (rd x0 x4) x3) / 9223372036854775808)) - x1)) (wrap64 (x3 + 1)) x4 ((x5.set (x4 : Int).toNat (IntKind.u64.wrap ((rd x5 x4) * 2))).set (x4 : Int).toNat (IntKind.u64.wrap ((rd (x5.set (x4 : Int).toNat (IntKind.u64.wrap ((rd x5 x4) * 2))) x4) + 1))) else none) else none) else none) else none) else (if (Go.bits .or .u64 (IntKind.u64.wrap (x2 * 2)) ((shl .u64 (rd x0 x4) x3) / 9223372036854775808)) ≥ x1 then (if 0 ≤ x4 then (if x4 < (ln (x5.set (x4 : Int).toNat (IntKind.u64.wrap ((rd x5 x4) * 2)))) then (if 0 ≤ x4 then (if x4 < (ln (x5.set (x4 : Int).toNat (IntKind.u64.wrap ((rd x5 x4) * 2)))) then k130341 x0 x1 (IntKind.u64.wrap ((Go.bits .or .u64 (IntKind.u64.wrap (x2 * 2)) ((shl .u64 (rd x0 x4) x3) / 9223372036854775808)) - x1)) (wrap64 (x3 + 1)) x4 ((x5.set (x4 : Int).toNat (IntKind.u64.wrap ((rd x5 x4) * 2))).set (x4 : Int).toNat (IntKind.u64.wrap ((rd (x5.set (x4 : Int).toNat (IntKind.u64.wrap ((rd x5 x4) * 2))) x4) + 1))) else none) else none) else none) else none) else k130341 x0 x1 (Go.bits .or .u64 (IntKind.u64.wrap (x2 * 2)) ((shl .u64 (rd x0 x4) x3) / 9223372036854775808)) (wrap64 (x3 + 1)) x4 (x5.set (x4 : Int).toNat (IntKind.u64.wrap ((rd x5 x4) * 2))))) else none) else none) else none) else none) else none) else none) else none) else k2037 x0 x1 x2 (wrap64 (x4 - 1)) x5)
noncomputable def l255 (n : Nat) (x0 : Int) (x1 : Λ) : Ω (Λ × Int × Int) := b255 (abacusref01_Trim.f n) (abacusref01_Size.f n) (abacusref01_Big.f n) x0 x1
noncomputable def l130341 (n : Nat) (k2037 : T23) : Nat→Λ→Int→Int→Int→Int→Λ→Ω (Λ × Int × Int)
  | 0, _, _, _, _, _, _ => none
  | m + 1, x0, x1, x2, x3, x4, x5 => b130341 (abacusref01_Trim.f n) (abacusref01_Size.f n) (abacusref01_Big.f n) k2037 (l130341 n k2037 m) x0 x1 x2 x3 x4 x5
noncomputable def l2037 (n : Nat) : Nat→Λ→Int→Int→Int→Λ→Ω (Λ × Int × Int)
  | 0, _, _, _, _, _ => none
  | m + 1, x0, x1, x2, x3, x4 => b2037 (abacusref01_Trim.f n) (abacusref01_Size.f n) (abacusref01_Big.f n) (l255 n) (l130341 n (l2037 n m) n) x0 x1 x2 x3 x4
noncomputable def f (n : Nat) (l0 : Λ) (a1 : Int) : Ω (Λ × Int × Int) := b0 (abacusref01_Trim.f n) (abacusref01_Size.f n) (abacusref01_Big.f n) (l2037 n n) l0 a1
noncomputable def sg : Sig (Λ × Int × Int) := s2 (sRow .u64) (s2 (sInt .u64) (s1 (sInt .i64)))
noncomputable def code : Code := (Tryd.f45.body).getD .skip
noncomputable def cfg (c34 : T0) (c122 : T1) (c123 : T2) : Cfg (Λ × Int × Int) := { T := tys, call := orCall 34 (abacusref01_Trim.call c34) (orCall 122 (abacusref01_Size.call c122) (orCall 123 (abacusref01_Big.call c123) (noCall))) }
noncomputable def cuts : List (Nat × List (Nat × Want)) := [(255, [(8, .keep), (9, .keep)]), (2037, [(0, .keep), (1, .keep), (8, .keep), (9, .keep), (10, .keep)]), (130341, [(0, .keep), (1, .keep), (8, .keep), (9, .keep), (10, .keep), (11, .keep)])]
noncomputable def s255 (x0 : Int) (x1 : Λ) : ASt := ⟨[(8, .own 0), (9, .int .u64 x0)], [.ints 25 .u64 x1]⟩
noncomputable def s2037 (x0 : Λ) (x1 x2 x3 : Int) (x4 : Λ) : ASt := ⟨[(0, .ro .u64 x0), (1, .int .u64 x1), (8, .own 0), (9, .int .u64 x2), (10, .int .i64 x3)], [.ints 25 .u64 x4]⟩
noncomputable def s130341 (x0 : Λ) (x1 x2 x3 x4 : Int) (x5 : Λ) : ASt := ⟨[(0, .ro .u64 x0), (1, .int .u64 x1), (8, .own 0), (9, .int .u64 x2), (10, .int .i64 x4), (11, .int .i64 x3)], [.ints 25 .u64 x5]⟩
noncomputable def A (c34 : T0) (c122 : T1) (c123 : T2) (n : Nat) (J : Jt (Λ × Int × Int)) (q : Nat) (ms : List Nat) : ASt→Ω (Λ × Int × Int) := acont (cfg c34 c122 c123) J cuts n q code 1 ms (aend (cfg c34 c122 c123) Tryd.f45.results.toList [false, false, false] sg.out)
theorem e0 {c34 c122 c123 n J l0 a1} : afun (cfg c34 c122 c123) J cuts n code Tryd.f45.results.toList [false, false, false] [.ro .u64 l0, .int .u64 a1] sg.out = b0 c34 c122 c123 (fun y0 y1 y2 y3 y4 => J 2037 (A c34 c122 c123 n J 2037 [n]) (s2037 y0 y1 y2 y3 y4)) l0 a1 := by kernel_rfl
theorem e255 {c34 c122 c123 n J x0 x1} : A c34 c122 c123 n J 255 [] (s255 x0 x1) = b255 c34 c122 c123 x0 x1 := by kernel_rfl
theorem e2037 {c34 c122 c123 n J m x0 x1 x2 x3 x4} : A c34 c122 c123 n J 2037 [m + 1] (s2037 x0 x1 x2 x3 x4) = b2037 c34 c122 c123 (fun y0 y1 => J 255 (A c34 c122 c123 n J 255 []) (s255 y0 y1)) (fun y0 y1 y2 y3 y4 y5 => J 130341 (A c34 c122 c123 n J 130341 [m, n]) (s130341 y0 y1 y2 y3 y4 y5)) x0 x1 x2 x3 x4 := by kernel_rfl
theorem e130341 {c34 c122 c123 n J m2037 m x0 x1 x2 x3 x4 x5} : A c34 c122 c123 n J 130341 [m2037, m + 1] (s130341 x0 x1 x2 x3 x4 x5) = b130341 c34 c122 c123 (fun y0 y1 y2 y3 y4 => J 2037 (A c34 c122 c123 n J 2037 [m2037]) (s2037 y0 y1 y2 y3 y4)) (fun y0 y1 y2 y3 y4 y5 => J 130341 (A c34 c122 c123 n J 130341 [m2037, m]) (s130341 y0 y1 y2 y3 y4 y5)) x0 x1 x2 x3 x4 x5 := by kernel_rfl
noncomputable abbrev I (n : Nat) := A (abacusref01_Trim.f n) (abacusref01_Size.f n) (abacusref01_Big.f n) n idJ
theorem q255 (n x0 x1) : I n 255 [] (s255 x0 x1) = l255 n x0 x1 := e255
theorem q130341 (n m2037 m) : ∀ x0 x1 x2 x3 x4 x5, I n 130341 [m2037, m] (s130341 x0 x1 x2 x3 x4 x5) = l130341 n (fun y0 y1 y2 y3 y4 => I n 2037 [m2037] (s2037 y0 y1 y2 y3 y4)) m x0 x1 x2 x3 x4 x5 := by
  induction m with
  | zero => intros; rfl
  | succ m ih =>
    intros
    exact e130341.trans (Eq.trans (cf6 (congr (congrArg (b130341 _ _ _) rfl) (fu6 (ih))) _ _ _ _ _ _) rfl)
theorem q2037 (n m) : ∀ x0 x1 x2 x3 x4, I n 2037 [m] (s2037 x0 x1 x2 x3 x4) = l2037 n m x0 x1 x2 x3 x4 := by
  induction m with
  | zero => intros; rfl
  | succ m ih =>
    intros
    exact e2037.trans (Eq.trans (cf5 (congr (congrArg (b2037 _ _ _) (fu2 (q255 n))) ((fu6 (q130341 n m n)).trans (by rw [show (fun y0 y1 y2 y3 y4 => I n 2037 [m] (s2037 y0 y1 y2 y3 y4)) = _ from (fu5 (ih))]))) _ _ _ _ _) rfl)
theorem ok {n  l0 a1 r} (h : f n l0 a1 = some r) : CallD Tryd.prog HW 45 [.ro .u64 l0, .int .u64 a1] (sg.enc r) :=
  fun_some hwS Tryd.func45 (by kernel_rfl) (body := code) (by kernel_rfl) tys_ok (c := cfg (abacusref01_Trim.f n) (abacusref01_Size.f n) (abacusref01_Big.f n)) (orCall_ok (abacusref01_Trim.call_ok (n := n)) (orCall_ok (abacusref01_Size.call_ok (n := n)) (orCall_ok (abacusref01_Big.call_ok (n := n)) noCall_ok))) noW_ok (by kernel_rfl) (by kernel_rfl) (Nat.le_of_ble_eq_true (by kernel_rfl)) (Eq.trans ((e0 (n := n)).trans (Eq.trans (cf2 (congrArg (b0 _ _ _) (fu5 (q2037 n n))) _ _) rfl)) h)
noncomputable def call {α : Type} (g : T20) (ds : List D) (K : List D→Ω α) : Ω α := match ds with
  | [.ro .u64 l0, .int .u64 a1] => (g l0 a1).bind fun r => K (sg.enc r)
  | _ => none
theorem call_ok {α : Type} {n : Nat} : COK Tryd.prog HW 45 (call (α := α) (f n)) := fun _ _ _ h => by
  unfold call at h; split at h
  · exact cok h fun _ => ok
  · cases h
end abacusref01_DivSmall
/-! ### abacusref01_Lift: function 127 -/
namespace abacusref01_Lift
noncomputable def b0 (c153 c154 : T0) (k501 : T41) (l0 : Λ) (a1 : Int) : Ω (Λ) := ((c153 l0).bind fun t1 => (if (ln t1) = 0 then some ([] : Λ) else (if 0 ≤ (wrap64 ((wrap64 ((wrap64 (Int.tdiv a1 32)) + (ln t1))) + 1)) then (if (wrap64 ((wrap64 ((wrap64 (Int.tdiv a1 32)) + (ln t1))) + 1)).toNat ≤ 35184372088832 then k501 a1 t1 0 (List.replicate 0 (0 : Int)) else none) else none)))
noncomputable def b63 (c153 c154 : T0) (k2037 : T42) (x0 : Int) (x1 x2 : Λ) : Ω (Λ) := k2037 x0 x1 1 0 x2
noncomputable def b255 (c153 c154 : T0) (k8181 : T43) (x0 : Λ) (x1 : Int) (x2 : Λ) : Ω (Λ) := k8181 x0 x1 0 0 x2
noncomputable def b501 (c153 c154 : T0) (k63 : Int→Λ→Λ→Ω (Λ)) (k501 : T41) (x0 : Int) (x1 : Λ) (x2 : Int) (x3 : Λ) : Ω (Λ) := (if x2 < (wrap64 (Int.tdiv x0 32)) then (if x3.length + 1 ≤ 17592186044416 then k501 x0 x1 (wrap64 (x2 + 1)) (x3 ++ [0]) else none) else k63 x0 x1 x3)
noncomputable def b1023 (c153 c154 : T0) (x0 : Int) (x1 : Λ) : Ω (Λ) := (if x1.length + 1 ≤ 17592186044416 then ((c154 (x1 ++ [x0])).bind fun t1 => some t1) else none)
noncomputable def b2037 (c153 c154 : T0) (k255 : T32) (k2037 : T42) (x0 : Int) (x1 : Λ) (x2 x3 : Int) (x4 : Λ) : Ω (Λ) := (if x3 < (Int.tmod x0 32) then k2037 x0 x1 (IntKind.u64.wrap (x2 * 2)) (wrap64 (x3 + 1)) x4 else k255 x1 x2 x4)
noncomputable def b8181 (c153 c154 : T0) (k1023 : Int→Λ→Ω (Λ)) (k8181 : T43) (x0 : Λ) (x1 x2 x3 : Int) (x4 : Λ) : Ω (Λ) := (if x3 < (ln x0) then (if 0 ≤ x3 then (if x3 < (ln x0) then (if x4.length + 1 ≤ 17592186044416 then k8181 x0 x1 ((IntKind.u64.wrap ((IntKind.u64.wrap ((rd x0 x3) * x1)) + x2)) / 4294967296) (wrap64 (x3 + 1)) (x4 ++ [Go.bits .and .u64 (IntKind.u64.wrap ((IntKind.u64.wrap ((rd x0 x3) * x1)) + x2)) 4294967295]) else none) else none) else none) else k1023 x2 x4)
noncomputable def l1023 (n : Nat) (x0 : Int) (x1 : Λ) : Ω (Λ) := b1023 (abacusref01_halves.f n) (abacusref01_limbs.f n) x0 x1
noncomputable def l8181 (n : Nat) : Nat→Λ→Int→Int→Int→Λ→Ω (Λ)
  | 0, _, _, _, _, _ => none
  | m + 1, x0, x1, x2, x3, x4 => b8181 (abacusref01_halves.f n) (abacusref01_limbs.f n) (l1023 n) (l8181 n m) x0 x1 x2 x3 x4
noncomputable def l255 (n : Nat) (x0 : Λ) (x1 : Int) (x2 : Λ) : Ω (Λ) := b255 (abacusref01_halves.f n) (abacusref01_limbs.f n) (l8181 n n) x0 x1 x2
noncomputable def l2037 (n : Nat) : Nat→Int→Λ→Int→Int→Λ→Ω (Λ)
  | 0, _, _, _, _, _ => none
  | m + 1, x0, x1, x2, x3, x4 => b2037 (abacusref01_halves.f n) (abacusref01_limbs.f n) (l255 n) (l2037 n m) x0 x1 x2 x3 x4
noncomputable def l63 (n : Nat) (x0 : Int) (x1 x2 : Λ) : Ω (Λ) := b63 (abacusref01_halves.f n) (abacusref01_limbs.f n) (l2037 n n) x0 x1 x2
noncomputable def l501 (n : Nat) : Nat→Int→Λ→Int→Λ→Ω (Λ)
  | 0, _, _, _, _ => none
  | m + 1, x0, x1, x2, x3 => b501 (abacusref01_halves.f n) (abacusref01_limbs.f n) (l63 n) (l501 n m) x0 x1 x2 x3
noncomputable def f (n : Nat) (l0 : Λ) (a1 : Int) : Ω (Λ) := b0 (abacusref01_halves.f n) (abacusref01_limbs.f n) (l501 n n) l0 a1
noncomputable def sg : Sig (Λ) := s1 (sOwn 25 .u64)
noncomputable def code : Code := (Tryd.f127.body).getD .skip
noncomputable def cfg (c153 c154 : T0) : Cfg (Λ) := { T := tys, call := orCall 153 (abacusref01_halves.call c153) (orCall 154 (abacusref01_limbs.call c154) (noCall)) }
noncomputable def cuts : List (Nat × List (Nat × Want)) := [(63, [(1, .keep), (5, .keep), (6, .keep)]), (255, [(5, .keep), (6, .keep), (8, .keep)]), (501, [(1, .keep), (5, .keep), (6, .keep), (7, .keep)]), (1023, [(6, .keep), (10, .keep)]), (2037, [(1, .keep), (5, .keep), (6, .keep), (8, .keep), (9, .keep)]), (8181, [(5, .keep), (6, .keep), (8, .keep), (10, .keep), (11, .keep)])]
noncomputable def s63 (x0 : Int) (x1 x2 : Λ) : ASt := ⟨[(1, .int .i64 x0), (5, .ro .u64 x1), (6, .own 0)], [.ints 25 .u64 x2]⟩
noncomputable def s255 (x0 : Λ) (x1 : Int) (x2 : Λ) : ASt := ⟨[(5, .ro .u64 x0), (6, .own 0), (8, .int .u64 x1)], [.ints 25 .u64 x2]⟩
noncomputable def s501 (x0 : Int) (x1 : Λ) (x2 : Int) (x3 : Λ) : ASt := ⟨[(1, .int .i64 x0), (5, .ro .u64 x1), (6, .own 0), (7, .int .i64 x2)], [.ints 25 .u64 x3]⟩
noncomputable def s1023 (x0 : Int) (x1 : Λ) : ASt := ⟨[(6, .own 0), (10, .int .u64 x0)], [.ints 25 .u64 x1]⟩
noncomputable def s2037 (x0 : Int) (x1 : Λ) (x2 x3 : Int) (x4 : Λ) : ASt := ⟨[(1, .int .i64 x0), (5, .ro .u64 x1), (6, .own 0), (8, .int .u64 x2), (9, .int .i64 x3)], [.ints 25 .u64 x4]⟩
noncomputable def s8181 (x0 : Λ) (x1 x2 x3 : Int) (x4 : Λ) : ASt := ⟨[(5, .ro .u64 x0), (6, .own 0), (8, .int .u64 x1), (10, .int .u64 x2), (11, .int .i64 x3)], [.ints 25 .u64 x4]⟩
noncomputable def A (c153 c154 : T0) (n : Nat) (J : Jt (Λ)) (q : Nat) (ms : List Nat) : ASt→Ω (Λ) := acont (cfg c153 c154) J cuts n q code 1 ms (aend (cfg c153 c154) Tryd.f127.results.toList [true] sg.out)
theorem e0 {c153 c154 n J l0 a1} : afun (cfg c153 c154) J cuts n code Tryd.f127.results.toList [true] [.ro .u64 l0, .int .i64 a1] sg.out = b0 c153 c154 (fun y0 y1 y2 y3 => J 501 (A c153 c154 n J 501 [n]) (s501 y0 y1 y2 y3)) l0 a1 := by kernel_rfl
theorem e63 {c153 c154 n J x0 x1 x2} : A c153 c154 n J 63 [] (s63 x0 x1 x2) = b63 c153 c154 (fun y0 y1 y2 y3 y4 => J 2037 (A c153 c154 n J 2037 [n]) (s2037 y0 y1 y2 y3 y4)) x0 x1 x2 := by kernel_rfl
theorem e255 {c153 c154 n J x0 x1 x2} : A c153 c154 n J 255 [] (s255 x0 x1 x2) = b255 c153 c154 (fun y0 y1 y2 y3 y4 => J 8181 (A c153 c154 n J 8181 [n]) (s8181 y0 y1 y2 y3 y4)) x0 x1 x2 := by kernel_rfl
theorem e501 {c153 c154 n J m x0 x1 x2 x3} : A c153 c154 n J 501 [m + 1] (s501 x0 x1 x2 x3) = b501 c153 c154 (fun y0 y1 y2 => J 63 (A c153 c154 n J 63 []) (s63 y0 y1 y2)) (fun y0 y1 y2 y3 => J 501 (A c153 c154 n J 501 [m]) (s501 y0 y1 y2 y3)) x0 x1 x2 x3 := by kernel_rfl
theorem e1023 {c153 c154 n J x0 x1} : A c153 c154 n J 1023 [] (s1023 x0 x1) = b1023 c153 c154 x0 x1 := by kernel_rfl
theorem e2037 {c153 c154 n J m x0 x1 x2 x3 x4} : A c153 c154 n J 2037 [m + 1] (s2037 x0 x1 x2 x3 x4) = b2037 c153 c154 (fun y0 y1 y2 => J 255 (A c153 c154 n J 255 []) (s255 y0 y1 y2)) (fun y0 y1 y2 y3 y4 => J 2037 (A c153 c154 n J 2037 [m]) (s2037 y0 y1 y2 y3 y4)) x0 x1 x2 x3 x4 := by kernel_rfl
theorem e8181 {c153 c154 n J m x0 x1 x2 x3 x4} : A c153 c154 n J 8181 [m + 1] (s8181 x0 x1 x2 x3 x4) = b8181 c153 c154 (fun y0 y1 => J 1023 (A c153 c154 n J 1023 []) (s1023 y0 y1)) (fun y0 y1 y2 y3 y4 => J 8181 (A c153 c154 n J 8181 [m]) (s8181 y0 y1 y2 y3 y4)) x0 x1 x2 x3 x4 := by kernel_rfl
noncomputable abbrev I (n : Nat) := A (abacusref01_halves.f n) (abacusref01_limbs.f n) n idJ
theorem q1023 (n x0 x1) : I n 1023 [] (s1023 x0 x1) = l1023 n x0 x1 := e1023
theorem q8181 (n m) : ∀ x0 x1 x2 x3 x4, I n 8181 [m] (s8181 x0 x1 x2 x3 x4) = l8181 n m x0 x1 x2 x3 x4 := by
  induction m with
  | zero => intros; rfl
  | succ m ih =>
    intros
    exact e8181.trans (Eq.trans (cf5 (congr (congrArg (b8181 _ _) (fu2 (q1023 n))) (fu5 (ih))) _ _ _ _ _) rfl)
theorem q255 (n x0 x1 x2) : I n 255 [] (s255 x0 x1 x2) = l255 n x0 x1 x2 := e255.trans (Eq.trans (cf3 (congrArg (b255 _ _) (fu5 (q8181 n n))) _ _ _) rfl)
theorem q2037 (n m) : ∀ x0 x1 x2 x3 x4, I n 2037 [m] (s2037 x0 x1 x2 x3 x4) = l2037 n m x0 x1 x2 x3 x4 := by
  induction m with
  | zero => intros; rfl
  | succ m ih =>
    intros
    exact e2037.trans (Eq.trans (cf5 (congr (congrArg (b2037 _ _) (fu3 (q255 n))) (fu5 (ih))) _ _ _ _ _) rfl)
theorem q63 (n x0 x1 x2) : I n 63 [] (s63 x0 x1 x2) = l63 n x0 x1 x2 := e63.trans (Eq.trans (cf3 (congrArg (b63 _ _) (fu5 (q2037 n n))) _ _ _) rfl)
theorem q501 (n m) : ∀ x0 x1 x2 x3, I n 501 [m] (s501 x0 x1 x2 x3) = l501 n m x0 x1 x2 x3 := by
  induction m with
  | zero => intros; rfl
  | succ m ih =>
    intros
    exact e501.trans (Eq.trans (cf4 (congr (congrArg (b501 _ _) (fu3 (q63 n))) (fu4 (ih))) _ _ _ _) rfl)
theorem ok {n  l0 a1 r} (h : f n l0 a1 = some r) : CallD Tryd.prog HW 127 [.ro .u64 l0, .int .i64 a1] (sg.enc r) :=
  fun_some hwS Tryd.func127 (by kernel_rfl) (body := code) (by kernel_rfl) tys_ok (c := cfg (abacusref01_halves.f n) (abacusref01_limbs.f n)) (orCall_ok (abacusref01_halves.call_ok (n := n)) (orCall_ok (abacusref01_limbs.call_ok (n := n)) noCall_ok)) noW_ok (by kernel_rfl) (by kernel_rfl) (Nat.le_of_ble_eq_true (by kernel_rfl)) (Eq.trans ((e0 (n := n)).trans (Eq.trans (cf2 (congrArg (b0 _ _) (fu4 (q501 n n))) _ _) rfl)) h)
noncomputable def call {α : Type} (g : T13) (ds : List D) (K : List D→Ω α) : Ω α := match ds with
  | [.ro .u64 l0, .int .i64 a1] => (g l0 a1).bind fun r => K (sg.enc r)
  | _ => none
theorem call_ok {α : Type} {n : Nat} : COK Tryd.prog HW 127 (call (α := α) (f n)) := fun _ _ _ h => by
  unfold call at h; split at h
  · exact cok h fun _ => ok
  · cases h
end abacusref01_Lift
/-! ### abacusref01_Shl: function 46 -/
namespace abacusref01_Shl
noncomputable def b0 (c37 : T1) (c123 : T2) (c127 : T13) (l0 : Λ) (a1 : Int) : Ω (Λ × Int) := ((c123 l0).bind fun t1 => (if t1 = true then some (([] : Λ), 2) else (if a1 < 0 then some (([] : Λ), 1) else ((c37 l0).bind fun t2 => (if t2 = 0 then some (([] : Λ), 0) else (if a1 > (wrap64 (262144 - t2)) then some (([] : Λ), 2) else ((c127 l0 a1).bind fun t3 => some (t3, 0))))))))
noncomputable def f (n : Nat) (l0 : Λ) (a1 : Int) : Ω (Λ × Int) := b0 (abacusref01_BitLen.f n) (abacusref01_Big.f n) (abacusref01_Lift.f n) l0 a1
noncomputable def sg : Sig (Λ × Int) := s2 (sRow .u64) (s1 (sInt .i64))
noncomputable def code : Code := (Tryd.f46.body).getD .skip
noncomputable def cfg (c37 : T1) (c123 : T2) (c127 : T13) : Cfg (Λ × Int) := { T := tys, call := orCall 37 (abacusref01_BitLen.call c37) (orCall 123 (abacusref01_Big.call c123) (orCall 127 (abacusref01_Lift.call c127) (noCall))) }
noncomputable def cuts : List (Nat × List (Nat × Want)) := []
theorem e0 {c37 c123 c127 n J l0 a1} : afun (cfg c37 c123 c127) J cuts n code Tryd.f46.results.toList [false, false] [.ro .u64 l0, .int .i64 a1] sg.out = b0 c37 c123 c127 l0 a1 := by kernel_rfl
theorem ok {n  l0 a1 r} (h : f n l0 a1 = some r) : CallD Tryd.prog HW 46 [.ro .u64 l0, .int .i64 a1] (sg.enc r) :=
  fun_some hwS Tryd.func46 (by kernel_rfl) (body := code) (by kernel_rfl) tys_ok (c := cfg (abacusref01_BitLen.f n) (abacusref01_Big.f n) (abacusref01_Lift.f n)) (orCall_ok (abacusref01_BitLen.call_ok (n := n)) (orCall_ok (abacusref01_Big.call_ok (n := n)) (orCall_ok (abacusref01_Lift.call_ok (n := n)) noCall_ok))) noW_ok (by kernel_rfl) (by kernel_rfl) (Nat.le_of_ble_eq_true (by kernel_rfl)) (Eq.trans ((e0 (n := n))) h)
noncomputable def call {α : Type} (g : T12) (ds : List D) (K : List D→Ω α) : Ω α := match ds with
  | [.ro .u64 l0, .int .i64 a1] => (g l0 a1).bind fun r => K (sg.enc r)
  | _ => none
theorem call_ok {α : Type} {n : Nat} : COK Tryd.prog HW 46 (call (α := α) (f n)) := fun _ _ _ h => by
  unfold call at h; split at h
  · exact cok h fun _ => ok
  · cases h
end abacusref01_Shl
/-! ### abacusref01_Drop: function 128 -/
namespace abacusref01_Drop
noncomputable def b0 (c153 c154 : T0) (k1013 : T44) (l0 : Λ) (a1 : Int) : Ω (Λ) := ((c153 l0).bind fun t1 => (if (wrap64 (Int.tdiv a1 32)) ≥ (ln t1) then some ([] : Λ) else k1013 a1 t1 (wrap64 (Int.tdiv a1 32)) 1 0))
noncomputable def b127 (c153 c154 : T0) (k8181 : T45) (x0 : Λ) (x1 x2 : Int) : Ω (Λ) := (if 0 ≤ (wrap64 ((ln x0) - x1)) then (if (wrap64 ((ln x0) - x1)).toNat ≤ 35184372088832 then k8181 x0 x1 x2 0 (wrap64 ((ln x0) - 1)) (List.replicate (wrap64 ((ln x0) - x1)).toNat (0 : Int)) else none) else none)
noncomputable def b1013 (c153 c154 : T0) (k127 : Λ→Int→Int→Ω (Λ)) (k1013 : T44) (x0 : Int) (x1 : Λ) (x2 x3 x4 : Int) : Ω (Λ) := (if x4 < (Int.tmod x0 32) then k1013 x0 x1 x2 (IntKind.u64.wrap (x3 * 2)) (wrap64 (x4 + 1)) else k127 x1 x2 x3)
noncomputable def b1023 (c153 c154 : T0) (x0 : Λ) : Ω (Λ) := ((c154 x0).bind fun t1 => some t1)
noncomputable def b8181 (c153 c154 k1023 : T0) (k8181 : T45) (x0 : Λ) (x1 x2 x3 x4 : Int) (x5 : Λ) : Ω (Λ) := (if x4 ≥ x1 then (if 0 ≤ x4 then (if x4 < (ln x0) then (if x2 = 0 then none else (if 0 ≤ (wrap64 (x4 - x1)) then (if (wrap64 (x4 - x1)) < (ln x5) then (if x2 = 0 then none else k8181 x0 x1 x2 (Int.tmod (IntKind.u64.wrap ((IntKind.u64.wrap (x3 * 4294967296)) + (rd x0 x4))) x2) (wrap64 (x4 - 1)) (x5.set (wrap64 (x4 - x1) : Int).toNat (IntKind.u64.wrap (Int.tdiv (IntKind.u64.wrap ((IntKind.u64.wrap (x3 * 4294967296)) + (rd x0 x4))) x2)))) else none) else none)) else none) else none) else k1023 x5)
noncomputable def l1023 (n : Nat) (x0 : Λ) : Ω (Λ) := b1023 (abacusref01_halves.f n) (abacusref01_limbs.f n) x0
noncomputable def l8181 (n : Nat) : Nat→Λ→Int→Int→Int→Int→Λ→Ω (Λ)
  | 0, _, _, _, _, _, _ => none
  | m + 1, x0, x1, x2, x3, x4, x5 => b8181 (abacusref01_halves.f n) (abacusref01_limbs.f n) (l1023 n) (l8181 n m) x0 x1 x2 x3 x4 x5
noncomputable def l127 (n : Nat) (x0 : Λ) (x1 x2 : Int) : Ω (Λ) := b127 (abacusref01_halves.f n) (abacusref01_limbs.f n) (l8181 n n) x0 x1 x2
noncomputable def l1013 (n : Nat) : Nat→Int→Λ→Int→Int→Int→Ω (Λ)
  | 0, _, _, _, _, _ => none
  | m + 1, x0, x1, x2, x3, x4 => b1013 (abacusref01_halves.f n) (abacusref01_limbs.f n) (l127 n) (l1013 n m) x0 x1 x2 x3 x4
noncomputable def f (n : Nat) (l0 : Λ) (a1 : Int) : Ω (Λ) := b0 (abacusref01_halves.f n) (abacusref01_limbs.f n) (l1013 n n) l0 a1
noncomputable def sg : Sig (Λ) := s1 (sOwn 25 .u64)
noncomputable def code : Code := (Tryd.f128.body).getD .skip
noncomputable def cfg (c153 c154 : T0) : Cfg (Λ) := { T := tys, call := orCall 153 (abacusref01_halves.call c153) (orCall 154 (abacusref01_limbs.call c154) (noCall)) }
noncomputable def cuts : List (Nat × List (Nat × Want)) := [(127, [(5, .keep), (6, .keep), (7, .keep)]), (1013, [(1, .keep), (5, .keep), (6, .keep), (7, .keep), (8, .keep)]), (1023, [(9, .keep)]), (8181, [(5, .keep), (6, .keep), (7, .keep), (9, .keep), (10, .keep), (11, .keep)])]
noncomputable def s127 (x0 : Λ) (x1 x2 : Int) : ASt := ⟨[(5, .ro .u64 x0), (6, .int .i64 x1), (7, .int .u64 x2)], []⟩
noncomputable def s1013 (x0 : Int) (x1 : Λ) (x2 x3 x4 : Int) : ASt := ⟨[(1, .int .i64 x0), (5, .ro .u64 x1), (6, .int .i64 x2), (7, .int .u64 x3), (8, .int .i64 x4)], []⟩
noncomputable def s1023 (x0 : Λ) : ASt := ⟨[(9, .own 0)], [.ints 25 .u64 x0]⟩
noncomputable def s8181 (x0 : Λ) (x1 x2 x3 x4 : Int) (x5 : Λ) : ASt := ⟨[(5, .ro .u64 x0), (6, .int .i64 x1), (7, .int .u64 x2), (9, .own 0), (10, .int .u64 x3), (11, .int .i64 x4)], [.ints 25 .u64 x5]⟩
noncomputable def A (c153 c154 : T0) (n : Nat) (J : Jt (Λ)) (q : Nat) (ms : List Nat) : ASt→Ω (Λ) := acont (cfg c153 c154) J cuts n q code 1 ms (aend (cfg c153 c154) Tryd.f128.results.toList [true] sg.out)
theorem e0 {c153 c154 n J l0 a1} : afun (cfg c153 c154) J cuts n code Tryd.f128.results.toList [true] [.ro .u64 l0, .int .i64 a1] sg.out = b0 c153 c154 (fun y0 y1 y2 y3 y4 => J 1013 (A c153 c154 n J 1013 [n]) (s1013 y0 y1 y2 y3 y4)) l0 a1 := by kernel_rfl
theorem e127 {c153 c154 n J x0 x1 x2} : A c153 c154 n J 127 [] (s127 x0 x1 x2) = b127 c153 c154 (fun y0 y1 y2 y3 y4 y5 => J 8181 (A c153 c154 n J 8181 [n]) (s8181 y0 y1 y2 y3 y4 y5)) x0 x1 x2 := by kernel_rfl
theorem e1013 {c153 c154 n J m x0 x1 x2 x3 x4} : A c153 c154 n J 1013 [m + 1] (s1013 x0 x1 x2 x3 x4) = b1013 c153 c154 (fun y0 y1 y2 => J 127 (A c153 c154 n J 127 []) (s127 y0 y1 y2)) (fun y0 y1 y2 y3 y4 => J 1013 (A c153 c154 n J 1013 [m]) (s1013 y0 y1 y2 y3 y4)) x0 x1 x2 x3 x4 := by kernel_rfl
theorem e1023 {c153 c154 n J x0} : A c153 c154 n J 1023 [] (s1023 x0) = b1023 c153 c154 x0 := by kernel_rfl
theorem e8181 {c153 c154 n J m x0 x1 x2 x3 x4 x5} : A c153 c154 n J 8181 [m + 1] (s8181 x0 x1 x2 x3 x4 x5) = b8181 c153 c154 (fun y0 => J 1023 (A c153 c154 n J 1023 []) (s1023 y0)) (fun y0 y1 y2 y3 y4 y5 => J 8181 (A c153 c154 n J 8181 [m]) (s8181 y0 y1 y2 y3 y4 y5)) x0 x1 x2 x3 x4 x5 := by kernel_rfl
noncomputable abbrev I (n : Nat) := A (abacusref01_halves.f n) (abacusref01_limbs.f n) n idJ
theorem q1023 (n x0) : I n 1023 [] (s1023 x0) = l1023 n x0 := e1023
theorem q8181 (n m) : ∀ x0 x1 x2 x3 x4 x5, I n 8181 [m] (s8181 x0 x1 x2 x3 x4 x5) = l8181 n m x0 x1 x2 x3 x4 x5 := by
  induction m with
  | zero => intros; rfl
  | succ m ih =>
    intros
    exact e8181.trans (Eq.trans (cf6 (congr (congrArg (b8181 _ _) (fu1 (q1023 n))) (fu6 (ih))) _ _ _ _ _ _) rfl)
theorem q127 (n x0 x1 x2) : I n 127 [] (s127 x0 x1 x2) = l127 n x0 x1 x2 := e127.trans (Eq.trans (cf3 (congrArg (b127 _ _) (fu6 (q8181 n n))) _ _ _) rfl)
theorem q1013 (n m) : ∀ x0 x1 x2 x3 x4, I n 1013 [m] (s1013 x0 x1 x2 x3 x4) = l1013 n m x0 x1 x2 x3 x4 := by
  induction m with
  | zero => intros; rfl
  | succ m ih =>
    intros
    exact e1013.trans (Eq.trans (cf5 (congr (congrArg (b1013 _ _) (fu3 (q127 n))) (fu5 (ih))) _ _ _ _ _) rfl)
theorem ok {n  l0 a1 r} (h : f n l0 a1 = some r) : CallD Tryd.prog HW 128 [.ro .u64 l0, .int .i64 a1] (sg.enc r) :=
  fun_some hwS Tryd.func128 (by kernel_rfl) (body := code) (by kernel_rfl) tys_ok (c := cfg (abacusref01_halves.f n) (abacusref01_limbs.f n)) (orCall_ok (abacusref01_halves.call_ok (n := n)) (orCall_ok (abacusref01_limbs.call_ok (n := n)) noCall_ok)) noW_ok (by kernel_rfl) (by kernel_rfl) (Nat.le_of_ble_eq_true (by kernel_rfl)) (Eq.trans ((e0 (n := n)).trans (Eq.trans (cf2 (congrArg (b0 _ _) (fu5 (q1013 n n))) _ _) rfl)) h)
noncomputable def call {α : Type} (g : T13) (ds : List D) (K : List D→Ω α) : Ω α := match ds with
  | [.ro .u64 l0, .int .i64 a1] => (g l0 a1).bind fun r => K (sg.enc r)
  | _ => none
theorem call_ok {α : Type} {n : Nat} : COK Tryd.prog HW 128 (call (α := α) (f n)) := fun _ _ _ h => by
  unfold call at h; split at h
  · exact cok h fun _ => ok
  · cases h
end abacusref01_Drop
/-! ### abacusref01_Shr: function 47 -/
namespace abacusref01_Shr
noncomputable def b0 (c37 c39 : T1) (c123 : T2) (c128 : T13) (l0 : Λ) (a1 : Int) : Ω (Λ × Bool × Int) := ((c123 l0).bind fun t1 => (if t1 = true then some (([] : Λ), false, 2) else (if a1 < 0 then some (([] : Λ), false, 1) else ((c37 l0).bind fun t2 => (if a1 ≥ t2 then some (([] : Λ), decide (t2 > 0), 0) else ((c128 l0 a1).bind fun t3 => ((c39 l0).bind fun t4 => some (t3, decide (t4 < a1), 0))))))))
noncomputable def f (n : Nat) (l0 : Λ) (a1 : Int) : Ω (Λ × Bool × Int) := b0 (abacusref01_BitLen.f n) (abacusref01_Trail.f n) (abacusref01_Big.f n) (abacusref01_Drop.f n) l0 a1
noncomputable def sg : Sig (Λ × Bool × Int) := s2 (sRow .u64) (s2 (sBool) (s1 (sInt .i64)))
noncomputable def code : Code := (Tryd.f47.body).getD .skip
noncomputable def cfg (c37 c39 : T1) (c123 : T2) (c128 : T13) : Cfg (Λ × Bool × Int) := { T := tys, call := orCall 37 (abacusref01_BitLen.call c37) (orCall 39 (abacusref01_Trail.call c39) (orCall 123 (abacusref01_Big.call c123) (orCall 128 (abacusref01_Drop.call c128) (noCall)))) }
noncomputable def cuts : List (Nat × List (Nat × Want)) := []
theorem e0 {c37 c39 c123 c128 n J l0 a1} : afun (cfg c37 c39 c123 c128) J cuts n code Tryd.f47.results.toList [false, false, false] [.ro .u64 l0, .int .i64 a1] sg.out = b0 c37 c39 c123 c128 l0 a1 := by kernel_rfl
theorem ok {n  l0 a1 r} (h : f n l0 a1 = some r) : CallD Tryd.prog HW 47 [.ro .u64 l0, .int .i64 a1] (sg.enc r) :=
  fun_some hwS Tryd.func47 (by kernel_rfl) (body := code) (by kernel_rfl) tys_ok (c := cfg (abacusref01_BitLen.f n) (abacusref01_Trail.f n) (abacusref01_Big.f n) (abacusref01_Drop.f n)) (orCall_ok (abacusref01_BitLen.call_ok (n := n)) (orCall_ok (abacusref01_Trail.call_ok (n := n)) (orCall_ok (abacusref01_Big.call_ok (n := n)) (orCall_ok (abacusref01_Drop.call_ok (n := n)) noCall_ok)))) noW_ok (by kernel_rfl) (by kernel_rfl) (Nat.le_of_ble_eq_true (by kernel_rfl)) (Eq.trans ((e0 (n := n))) h)
noncomputable def call {α : Type} (g : T21) (ds : List D) (K : List D→Ω α) : Ω α := match ds with
  | [.ro .u64 l0, .int .i64 a1] => (g l0 a1).bind fun r => K (sg.enc r)
  | _ => none
theorem call_ok {α : Type} {n : Nat} : COK Tryd.prog HW 47 (call (α := α) (f n)) := fun _ _ _ h => by
  unfold call at h; split at h
  · exact cok h fun _ => ok
  · cases h
end abacusref01_Shr
/-! ### abacusref01_Sum: function 48 -/
namespace abacusref01_Sum
noncomputable def b0 (c123 : T2) (c124 : T6) (k117 : T30) (n0 : Int) (r0_0 : List (Λ)) : Ω (Λ × Int) := k117 n0 r0_0 0
noncomputable def b15 (c123 : T2) (c124 : T6) (k245 : T46) (x0 : Int) (x1 : List (Λ)) : Ω (Λ × Int) := k245 x0 x1 0 ([] : Λ)
noncomputable def b31 (c123 : T2) (c124 : T6) (x0 : Λ) : Ω (Λ × Int) := ((c123 x0).bind fun t1 => (if t1 = true then some (([] : Λ), 2) else some (x0, 0)))
noncomputable def b117 (c123 : T2) (c124 : T6) (k15 : T15) (k117 : T30) (x0 : Int) (x1 : List (Λ)) (x2 : Int) : Ω (Λ × Int) := (if x2 < x0 then (if 0 ≤ x2 then (if x2 < x0 then ((c123 (rdr x1 x2)).bind fun t1 => (if t1 = true then some (([] : Λ), 2) else k117 x0 x1 (wrap64 (x2 + 1)))) else none) else none) else k15 x0 x1)
noncomputable def b245 (c123 : T2) (c124 : T6) (k31 : T3) (k245 : T46) (x0 : Int) (x1 : List (Λ)) (x2 : Int) (x3 : Λ) : Ω (Λ × Int) := (if x2 < x0 then (if 0 ≤ x2 then (if x2 < x0 then ((c124 x3 (rdr x1 x2)).bind fun t1 => k245 x0 x1 (wrap64 (x2 + 1)) t1) else none) else none) else k31 x3)
noncomputable def l31 (n : Nat) (x0 : Λ) : Ω (Λ × Int) := b31 (abacusref01_Big.f n) (abacusref01_Plus.f n) x0
noncomputable def l245 (n : Nat) : Nat→Int→List (Λ)→Int→Λ→Ω (Λ × Int)
  | 0, _, _, _, _ => none
  | m + 1, x0, x1, x2, x3 => b245 (abacusref01_Big.f n) (abacusref01_Plus.f n) (l31 n) (l245 n m) x0 x1 x2 x3
noncomputable def l15 (n : Nat) (x0 : Int) (x1 : List (Λ)) : Ω (Λ × Int) := b15 (abacusref01_Big.f n) (abacusref01_Plus.f n) (l245 n n) x0 x1
noncomputable def l117 (n : Nat) : Nat→Int→List (Λ)→Int→Ω (Λ × Int)
  | 0, _, _, _ => none
  | m + 1, x0, x1, x2 => b117 (abacusref01_Big.f n) (abacusref01_Plus.f n) (l15 n) (l117 n m) x0 x1 x2
noncomputable def f (n : Nat) (n0 : Int) (r0_0 : List (Λ)) : Ω (Λ × Int) := b0 (abacusref01_Big.f n) (abacusref01_Plus.f n) (l117 n n) n0 r0_0
noncomputable def sg : Sig (Λ × Int) := s2 (sRow .u64) (s1 (sInt .i64))
noncomputable def code : Code := (Tryd.f48.body).getD .skip
noncomputable def cfg (c123 : T2) (c124 : T6) : Cfg (Λ × Int) := { T := tys, call := orCall 123 (abacusref01_Big.call c123) (orCall 124 (abacusref01_Plus.call c124) (noCall)) }
noncomputable def cuts : List (Nat × List (Nat × Want)) := [(15, [(0, .keep), (4, .keep)]), (31, [(4, .keep)]), (117, [(0, .keep), (4, .keep), (5, .keep)]), (245, [(0, .keep), (4, .keep), (6, .keep)])]
noncomputable def s15 (x0 : Int) (x1 : List (Λ)) : ASt := ⟨[(0, .recs x0 [.row .u64 x1]), (4, .own 0)], [.ints 25 .u64 []]⟩
noncomputable def s31 (x0 : Λ) : ASt := ⟨[(4, .own 0)], [.ints 25 .u64 x0]⟩
noncomputable def s117 (x0 : Int) (x1 : List (Λ)) (x2 : Int) : ASt := ⟨[(0, .recs x0 [.row .u64 x1]), (4, .own 0), (5, .int .i64 x2)], [.ints 25 .u64 []]⟩
noncomputable def s245 (x0 : Int) (x1 : List (Λ)) (x2 : Int) (x3 : Λ) : ASt := ⟨[(0, .recs x0 [.row .u64 x1]), (4, .own 0), (6, .int .i64 x2)], [.ints 25 .u64 x3]⟩
noncomputable def A (c123 : T2) (c124 : T6) (n : Nat) (J : Jt (Λ × Int)) (q : Nat) (ms : List Nat) : ASt→Ω (Λ × Int) := acont (cfg c123 c124) J cuts n q code 1 ms (aend (cfg c123 c124) Tryd.f48.results.toList [false, false] sg.out)
theorem e0 {c123 c124 n J n0 r0_0} : afun (cfg c123 c124) J cuts n code Tryd.f48.results.toList [false, false] [.recs n0 [.row .u64 r0_0]] sg.out = b0 c123 c124 (fun y0 y1 y2 => J 117 (A c123 c124 n J 117 [n]) (s117 y0 y1 y2)) n0 r0_0 := by kernel_rfl
theorem e15 {c123 c124 n J x0 x1} : A c123 c124 n J 15 [] (s15 x0 x1) = b15 c123 c124 (fun y0 y1 y2 y3 => J 245 (A c123 c124 n J 245 [n]) (s245 y0 y1 y2 y3)) x0 x1 := by kernel_rfl
theorem e31 {c123 c124 n J x0} : A c123 c124 n J 31 [] (s31 x0) = b31 c123 c124 x0 := by kernel_rfl
theorem e117 {c123 c124 n J m x0 x1 x2} : A c123 c124 n J 117 [m + 1] (s117 x0 x1 x2) = b117 c123 c124 (fun y0 y1 => J 15 (A c123 c124 n J 15 []) (s15 y0 y1)) (fun y0 y1 y2 => J 117 (A c123 c124 n J 117 [m]) (s117 y0 y1 y2)) x0 x1 x2 := by kernel_rfl
theorem e245 {c123 c124 n J m x0 x1 x2 x3} : A c123 c124 n J 245 [m + 1] (s245 x0 x1 x2 x3) = b245 c123 c124 (fun y0 => J 31 (A c123 c124 n J 31 []) (s31 y0)) (fun y0 y1 y2 y3 => J 245 (A c123 c124 n J 245 [m]) (s245 y0 y1 y2 y3)) x0 x1 x2 x3 := by kernel_rfl
noncomputable abbrev I (n : Nat) := A (abacusref01_Big.f n) (abacusref01_Plus.f n) n idJ
theorem q31 (n x0) : I n 31 [] (s31 x0) = l31 n x0 := e31
theorem q245 (n m) : ∀ x0 x1 x2 x3, I n 245 [m] (s245 x0 x1 x2 x3) = l245 n m x0 x1 x2 x3 := by
  induction m with
  | zero => intros; rfl
  | succ m ih =>
    intros
    exact e245.trans (Eq.trans (cf4 (congr (congrArg (b245 _ _) (fu1 (q31 n))) (fu4 (ih))) _ _ _ _) rfl)
theorem q15 (n x0 x1) : I n 15 [] (s15 x0 x1) = l15 n x0 x1 := e15.trans (Eq.trans (cf2 (congrArg (b15 _ _) (fu4 (q245 n n))) _ _) rfl)
theorem q117 (n m) : ∀ x0 x1 x2, I n 117 [m] (s117 x0 x1 x2) = l117 n m x0 x1 x2 := by
  induction m with
  | zero => intros; rfl
  | succ m ih =>
    intros
    exact e117.trans (Eq.trans (cf3 (congr (congrArg (b117 _ _) (fu2 (q15 n))) (fu3 (ih))) _ _ _) rfl)
theorem ok {n  n0 r0_0 r} (h : f n n0 r0_0 = some r) : CallD Tryd.prog HW 48 [.recs n0 [.row .u64 r0_0]] (sg.enc r) :=
  fun_some hwS Tryd.func48 (by kernel_rfl) (body := code) (by kernel_rfl) tys_ok (c := cfg (abacusref01_Big.f n) (abacusref01_Plus.f n)) (orCall_ok (abacusref01_Big.call_ok (n := n)) (orCall_ok (abacusref01_Plus.call_ok (n := n)) noCall_ok)) noW_ok (by kernel_rfl) (by kernel_rfl) (Nat.le_of_ble_eq_true (by kernel_rfl)) (Eq.trans ((e0 (n := n)).trans (Eq.trans (cf2 (congrArg (b0 _ _) (fu3 (q117 n n))) _ _) rfl)) h)
noncomputable def call {α : Type} (g : T15) (ds : List D) (K : List D→Ω α) : Ω α := match ds with
  | [.recs n0 [.row .u64 r0_0]] => (g n0 r0_0).bind fun r => K (sg.enc r)
  | _ => none
theorem call_ok {α : Type} {n : Nat} : COK Tryd.prog HW 48 (call (α := α) (f n)) := fun _ _ _ h => by
  unfold call at h; split at h
  · exact cok h fun _ => ok
  · cases h
end abacusref01_Sum
/-! ### abacusref01_Low: function 49 -/
namespace abacusref01_Low
noncomputable def b0 (c34 : T0) (c123 : T2) (k32757 : T47) (l0 : Λ) (a1 : Int) : Ω (Λ × Int) := ((c123 l0).bind fun t1 => (if t1 = true then some (([] : Λ), 2) else (if a1 < 0 then some (([] : Λ), 1) else ((c34 l0).bind fun t2 => (if a1 ≥ (wrap64 (64 * (ln t2))) then some (t2, 0) else (if 0 ≤ (wrap64 (Int.tdiv a1 64)) then (if (wrap64 (Int.tdiv a1 64)) < (ln t2) then (if 0 ≤ (wrap64 (Int.tdiv a1 64)) then (if (wrap64 (Int.tdiv a1 64)) ≤ (ln t2) then k32757 a1 (rd t2 (wrap64 (Int.tdiv a1 64))) 0 0 1 (t2.take (wrap64 (Int.tdiv a1 64)).toNat) else none) else none) else none) else none))))))
noncomputable def b4095 (c34 : T0) (c123 : T2) (x0 : Int) (x1 : Λ) : Ω (Λ × Int) := (if x1.length + 1 ≤ 17592186044416 then ((c34 (x1 ++ [x0])).bind fun t1 => some (t1, 0)) else none)
noncomputable def b32757 (c34 : T0) (c123 : T2) (k4095 : Int→Λ→Ω (Λ × Int)) (k32757 : T47) (x0 x1 x2 x3 x4 : Int) (x5 : Λ) : Ω (Λ × Int) := (if x3 < (Int.tmod x0 64) then k32757 x0 (IntKind.u64.wrap (Int.tdiv x1 2)) (IntKind.u64.wrap (x2 + (IntKind.u64.wrap ((Int.tmod x1 2) * x4)))) (wrap64 (x3 + 1)) (IntKind.u64.wrap (x4 * 2)) x5 else k4095 x2 x5)
noncomputable def l4095 (n : Nat) (x0 : Int) (x1 : Λ) : Ω (Λ × Int) := b4095 (abacusref01_Trim.f n) (abacusref01_Big.f n) x0 x1
noncomputable def l32757 (n : Nat) : Nat→Int→Int→Int→Int→Int→Λ→Ω (Λ × Int)
  | 0, _, _, _, _, _, _ => none
  | m + 1, x0, x1, x2, x3, x4, x5 => b32757 (abacusref01_Trim.f n) (abacusref01_Big.f n) (l4095 n) (l32757 n m) x0 x1 x2 x3 x4 x5
noncomputable def f (n : Nat) (l0 : Λ) (a1 : Int) : Ω (Λ × Int) := b0 (abacusref01_Trim.f n) (abacusref01_Big.f n) (l32757 n n) l0 a1
noncomputable def sg : Sig (Λ × Int) := s2 (sRow .u64) (s1 (sInt .i64))
noncomputable def code : Code := (Tryd.f49.body).getD .skip
noncomputable def cfg (c34 : T0) (c123 : T2) : Cfg (Λ × Int) := { T := tys, call := orCall 34 (abacusref01_Trim.call c34) (orCall 123 (abacusref01_Big.call c123) (noCall)), cutf := true }
noncomputable def cuts : List (Nat × List (Nat × Want)) := [(4095, [(6, .keep), (9, .keep)]), (32757, [(1, .keep), (6, .keep), (8, .keep), (9, .keep), (10, .keep), (11, .keep)])]
noncomputable def s4095 (x0 : Int) (x1 : Λ) : ASt := ⟨[(6, .own 0), (9, .int .u64 x0)], [.ints 25 .u64 x1]⟩
noncomputable def s32757 (x0 x1 x2 x3 x4 : Int) (x5 : Λ) : ASt := ⟨[(1, .int .i64 x0), (6, .own 0), (8, .int .u64 x1), (9, .int .u64 x2), (10, .int .u64 x4), (11, .int .i64 x3)], [.ints 25 .u64 x5]⟩
noncomputable def A (c34 : T0) (c123 : T2) (n : Nat) (J : Jt (Λ × Int)) (q : Nat) (ms : List Nat) : ASt→Ω (Λ × Int) := acont (cfg c34 c123) J cuts n q code 1 ms (aend (cfg c34 c123) Tryd.f49.results.toList [false, false] sg.out)
theorem e0 {c34 c123 n J l0 a1} : afun (cfg c34 c123) J cuts n code Tryd.f49.results.toList [false, false] [.ro .u64 l0, .int .i64 a1] sg.out = b0 c34 c123 (fun y0 y1 y2 y3 y4 y5 => J 32757 (A c34 c123 n J 32757 [n]) (s32757 y0 y1 y2 y3 y4 y5)) l0 a1 := by kernel_rfl
theorem e4095 {c34 c123 n J x0 x1} : A c34 c123 n J 4095 [] (s4095 x0 x1) = b4095 c34 c123 x0 x1 := by kernel_rfl
theorem e32757 {c34 c123 n J m x0 x1 x2 x3 x4 x5} : A c34 c123 n J 32757 [m + 1] (s32757 x0 x1 x2 x3 x4 x5) = b32757 c34 c123 (fun y0 y1 => J 4095 (A c34 c123 n J 4095 []) (s4095 y0 y1)) (fun y0 y1 y2 y3 y4 y5 => J 32757 (A c34 c123 n J 32757 [m]) (s32757 y0 y1 y2 y3 y4 y5)) x0 x1 x2 x3 x4 x5 := by kernel_rfl
noncomputable abbrev I (n : Nat) := A (abacusref01_Trim.f n) (abacusref01_Big.f n) n idJ
theorem q4095 (n x0 x1) : I n 4095 [] (s4095 x0 x1) = l4095 n x0 x1 := e4095
theorem q32757 (n m) : ∀ x0 x1 x2 x3 x4 x5, I n 32757 [m] (s32757 x0 x1 x2 x3 x4 x5) = l32757 n m x0 x1 x2 x3 x4 x5 := by
  induction m with
  | zero => intros; rfl
  | succ m ih =>
    intros
    exact e32757.trans (Eq.trans (cf6 (congr (congrArg (b32757 _ _) (fu2 (q4095 n))) (fu6 (ih))) _ _ _ _ _ _) rfl)
theorem ok {n  l0 a1 r} (h : f n l0 a1 = some r) : CallD Tryd.prog HW 49 [.ro .u64 l0, .int .i64 a1] (sg.enc r) :=
  fun_some hwS Tryd.func49 (by kernel_rfl) (body := code) (by kernel_rfl) tys_ok (c := cfg (abacusref01_Trim.f n) (abacusref01_Big.f n)) (orCall_ok (abacusref01_Trim.call_ok (n := n)) (orCall_ok (abacusref01_Big.call_ok (n := n)) noCall_ok)) noW_ok (by kernel_rfl) (by kernel_rfl) (Nat.le_of_ble_eq_true (by kernel_rfl)) (Eq.trans ((e0 (n := n)).trans (Eq.trans (cf2 (congrArg (b0 _ _) (fu6 (q32757 n n))) _ _) rfl)) h)
noncomputable def call {α : Type} (g : T12) (ds : List D) (K : List D→Ω α) : Ω α := match ds with
  | [.ro .u64 l0, .int .i64 a1] => (g l0 a1).bind fun r => K (sg.enc r)
  | _ => none
theorem call_ok {α : Type} {n : Nat} : COK Tryd.prog HW 49 (call (α := α) (f n)) := fun _ _ _ h => by
  unfold call at h; split at h
  · exact cok h fun _ => ok
  · cases h
end abacusref01_Low
/-! ### abacuslaw01_wanted: function 9 -/
namespace abacuslaw01_wanted
noncomputable def b0 (c34 : T0) (c35 : T17) (c36 : T18) (c37 : T1) (c38 : T10) (c39 : T1) (c40 : T9) (c41 c42 c43 : T5) (c44 : T19) (c45 : T20) (c46 : T12) (c47 : T21) (c48 : T15) (c49 : T12) (a0 : Int) (l1 l2 : Λ) (a3 a4 a5 : Int) : Ω (Λ × Int × Int × Bool × Int) := (if a0 = 1 then ((c34 l1).bind fun t1 => some (t1, 0, 0, false, 0)) else (if a0 = 2 then ((c35 a3).bind fun t2 => some (t2, 0, 0, false, 0)) else (if a0 = 3 then ((c36 l1).bind fun t3 => some (([] : Λ), t3.1, 0, t3.2, 0)) else (if a0 = 4 then ((c37 l1).bind fun t4 => some (([] : Λ), 0, t4, false, 0)) else (if a0 = 5 then ((c38 l1 a5).bind fun t5 => some (([] : Λ), 0, t5, false, 0)) else (if a0 = 6 then ((c39 l1).bind fun t6 => some (([] : Λ), 0, t6, false, 0)) else (if a0 = 7 then ((c40 l1 l2).bind fun t7 => some (([] : Λ), 0, t7, false, 0)) else (if a0 = 8 then ((c41 l1 l2).bind fun t8 => some (t8.1, 0, 0, false, t8.2)) else (if a0 = 9 then ((c42 l1 l2).bind fun t9 => some (t9.1, 0, 0, false, t9.2)) else (if a0 = 10 then ((c43 l1 l2).bind fun t10 => some (t10.1, 0, 0, false, t10.2)) else (if a0 = 11 then ((c44 l1 a3 a4).bind fun t11 => some (t11.1, 0, 0, false, t11.2)) else (if a0 = 12 then ((c45 l1 a3).bind fun t12 => some (t12.1, t12.2.1, 0, false, t12.2.2)) else (if a0 = 13 then ((c46 l1 a5).bind fun t13 => some (t13.1, 0, 0, false, t13.2)) else (if a0 = 14 then ((c47 l1 a5).bind fun t14 => some (t14.1, 0, 0, t14.2.1, t14.2.2)) else (if a0 = 15 then ((c48 (lnr [l1, l2, l1]) [l1, l2, l1]).bind fun t15 => some (t15.1, 0, 0, false, t15.2)) else (if a0 = 16 then ((c49 l1 a5).bind fun t16 => some (t16.1, 0, 0, false, t16.2)) else some (([] : Λ), 0, 0, false, 0)))))))))))))))))
noncomputable def f (n : Nat) (a0 : Int) (l1 l2 : Λ) (a3 a4 a5 : Int) : Ω (Λ × Int × Int × Bool × Int) := b0 (abacusref01_Trim.f n) abacusref01_FromUint.f (abacusref01_ToUint.f n) (abacusref01_BitLen.f n) (abacusref01_Bit.f n) (abacusref01_Trail.f n) (abacusref01_Cmp.f n) (abacusref01_Add.f n) (abacusref01_Sub.f n) (abacusref01_Mul.f n) (abacusref01_MulAdd.f n) (abacusref01_DivSmall.f n) (abacusref01_Shl.f n) (abacusref01_Shr.f n) (abacusref01_Sum.f n) (abacusref01_Low.f n) a0 l1 l2 a3 a4 a5
noncomputable def sg : Sig (Λ × Int × Int × Bool × Int) := s1 (sAgg (s2 (sRow .u64) (s2 (sInt .u64) (s2 (sInt .i64) (s2 (sBool) (s1 (sInt .i64)))))))
noncomputable def code : Code := (Tryd.f9.body).getD .skip
noncomputable def cfg (c34 : T0) (c35 : T17) (c36 : T18) (c37 : T1) (c38 : T10) (c39 : T1) (c40 : T9) (c41 c42 c43 : T5) (c44 : T19) (c45 : T20) (c46 : T12) (c47 : T21) (c48 : T15) (c49 : T12) : Cfg (Λ × Int × Int × Bool × Int) := { T := tys, call := orCall 34 (abacusref01_Trim.call c34) (orCall 35 (abacusref01_FromUint.call c35) (orCall 36 (abacusref01_ToUint.call c36) (orCall 37 (abacusref01_BitLen.call c37) (orCall 38 (abacusref01_Bit.call c38) (orCall 39 (abacusref01_Trail.call c39) (orCall 40 (abacusref01_Cmp.call c40) (orCall 41 (abacusref01_Add.call c41) (orCall 42 (abacusref01_Sub.call c42) (orCall 43 (abacusref01_Mul.call c43) (orCall 44 (abacusref01_MulAdd.call c44) (orCall 45 (abacusref01_DivSmall.call c45) (orCall 46 (abacusref01_Shl.call c46) (orCall 47 (abacusref01_Shr.call c47) (orCall 48 (abacusref01_Sum.call c48) (orCall 49 (abacusref01_Low.call c49) (noCall)))))))))))))))) }
noncomputable def cuts : List (Nat × List (Nat × Want)) := []
theorem e0 {c34 c35 c36 c37 c38 c39 c40 c41 c42 c43 c44 c45 c46 c47 c48 c49 n J a0 l1 l2 a3 a4 a5} : afun (cfg c34 c35 c36 c37 c38 c39 c40 c41 c42 c43 c44 c45 c46 c47 c48 c49) J cuts n code Tryd.f9.results.toList [false] [.agg [.int .i64 a0, .ro .u64 l1, .ro .u64 l2, .int .u64 a3, .int .u64 a4, .int .i64 a5]] sg.out = b0 c34 c35 c36 c37 c38 c39 c40 c41 c42 c43 c44 c45 c46 c47 c48 c49 a0 l1 l2 a3 a4 a5 := by kernel_rfl
theorem ok {n  a0 l1 l2 a3 a4 a5 r} (h : f n a0 l1 l2 a3 a4 a5 = some r) : CallD Tryd.prog HW 9 [.agg [.int .i64 a0, .ro .u64 l1, .ro .u64 l2, .int .u64 a3, .int .u64 a4, .int .i64 a5]] (sg.enc r) :=
  fun_some hwS Tryd.func9 (by kernel_rfl) (body := code) (by kernel_rfl) tys_ok (c := cfg (abacusref01_Trim.f n) abacusref01_FromUint.f (abacusref01_ToUint.f n) (abacusref01_BitLen.f n) (abacusref01_Bit.f n) (abacusref01_Trail.f n) (abacusref01_Cmp.f n) (abacusref01_Add.f n) (abacusref01_Sub.f n) (abacusref01_Mul.f n) (abacusref01_MulAdd.f n) (abacusref01_DivSmall.f n) (abacusref01_Shl.f n) (abacusref01_Shr.f n) (abacusref01_Sum.f n) (abacusref01_Low.f n)) (orCall_ok (abacusref01_Trim.call_ok (n := n)) (orCall_ok abacusref01_FromUint.call_ok (orCall_ok (abacusref01_ToUint.call_ok (n := n)) (orCall_ok (abacusref01_BitLen.call_ok (n := n)) (orCall_ok (abacusref01_Bit.call_ok (n := n)) (orCall_ok (abacusref01_Trail.call_ok (n := n)) (orCall_ok (abacusref01_Cmp.call_ok (n := n)) (orCall_ok (abacusref01_Add.call_ok (n := n)) (orCall_ok (abacusref01_Sub.call_ok (n := n)) (orCall_ok (abacusref01_Mul.call_ok (n := n)) (orCall_ok (abacusref01_MulAdd.call_ok (n := n)) (orCall_ok (abacusref01_DivSmall.call_ok (n := n)) (orCall_ok (abacusref01_Shl.call_ok (n := n)) (orCall_ok (abacusref01_Shr.call_ok (n := n)) (orCall_ok (abacusref01_Sum.call_ok (n := n)) (orCall_ok (abacusref01_Low.call_ok (n := n)) noCall_ok)))))))))))))))) noW_ok (by kernel_rfl) (by kernel_rfl) (Nat.le_of_ble_eq_true (by kernel_rfl)) (Eq.trans ((e0 (n := n))) h)
noncomputable def call {α : Type} (g : T14) (ds : List D) (K : List D→Ω α) : Ω α := match ds with
  | [.agg [.int .i64 a0, .ro .u64 l1, .ro .u64 l2, .int .u64 a3, .int .u64 a4, .int .i64 a5]] => (g a0 l1 l2 a3 a4 a5).bind fun r => K (sg.enc r)
  | _ => none
theorem call_ok {α : Type} {n : Nat} : COK Tryd.prog HW 9 (call (α := α) (f n)) := fun _ _ _ h => by
  unfold call at h; split at h
  · exact cok h fun _ => ok
  · cases h
end abacuslaw01_wanted
/-! ### abacuslaw01_copied: function 10 -/
namespace abacuslaw01_copied
noncomputable def b0 (l0 : Λ) : Ω (Λ) := (if 0 ≤ (ln l0) then (if (ln l0).toNat ≤ 35184372088832 then (if (List.replicate 0 (0 : Int)).length + l0.length ≤ 17592186044416 then some ((List.replicate 0 (0 : Int)) ++ l0) else none) else none) else none)
noncomputable def f (l0 : Λ) : Ω (Λ) := b0 l0
noncomputable def sg : Sig (Λ) := s1 (sRow .u64)
noncomputable def code : Code := (Tryd.f10.body).getD .skip
noncomputable def cfg : Cfg (Λ) := { T := tys, call := noCall }
noncomputable def cuts : List (Nat × List (Nat × Want)) := []
theorem e0 {n J l0} : afun cfg J cuts n code Tryd.f10.results.toList [false] [.ro .u64 l0] sg.out = b0 l0 := by kernel_rfl
theorem ok {l0 r} (h : f l0 = some r) : CallD Tryd.prog HW 10 [.ro .u64 l0] (sg.enc r) :=
  fun_some hwS Tryd.func10 (by kernel_rfl) (body := code) (by kernel_rfl) tys_ok (c := cfg) noCall_ok noW_ok (by kernel_rfl) (by kernel_rfl) (Nat.le_of_ble_eq_true (by kernel_rfl)) (Eq.trans ((e0 (n := 0))) h)
noncomputable def call {α : Type} (g : T0) (ds : List D) (K : List D→Ω α) : Ω α := match ds with
  | [.ro .u64 l0] => (g l0).bind fun r => K (sg.enc r)
  | _ => none
theorem call_ok {α : Type} : COK Tryd.prog HW 10 (call (α := α) f) := fun _ _ _ h => by
  unfold call at h; split at h
  · exact cok h fun _ => ok
  · cases h
end abacuslaw01_copied
/-! ### nat_Trim: function 50 -/
namespace nat_Trim
noncomputable def b0 (c118 : T1) (l0 : Λ) : Ω (Λ) := ((c118 l0).bind fun t1 => (if 0 ≤ t1 then (if t1.toNat ≤ 35184372088832 then (if 0 ≤ t1 then (if t1 ≤ (ln l0) then ((some (l0.take t1.toNat) : Ω (Λ)).bind fun y2 => (if y2.length = (List.replicate t1.toNat (0 : Int)).length then some y2 else none)) else none) else none) else none) else none))
noncomputable def f (n : Nat) (l0 : Λ) : Ω (Λ) := b0 (nat_size.f n) l0
noncomputable def sg : Sig (Λ) := s1 (sOwn 25 .u64)
noncomputable def code : Code := (Tryd.f50.body).getD .skip
noncomputable def cfg (c118 : T1) : Cfg (Λ) := { T := tys, call := orCall 118 (nat_size.call c118) (noCall) }
noncomputable def cuts : List (Nat × List (Nat × Want)) := []
theorem e0 {c118 n J l0} : afun (cfg c118) J cuts n code Tryd.f50.results.toList [true] [.ro .u64 l0] sg.out = b0 c118 l0 := by kernel_rfl
theorem ok {n  l0 r} (h : f n l0 = some r) : CallD Tryd.prog HW 50 [.ro .u64 l0] (sg.enc r) :=
  fun_some hwS Tryd.func50 (by kernel_rfl) (body := code) (by kernel_rfl) tys_ok (c := cfg (nat_size.f n)) (orCall_ok (nat_size.call_ok (n := n)) noCall_ok) noW_ok (by kernel_rfl) (by kernel_rfl) (Nat.le_of_ble_eq_true (by kernel_rfl)) (Eq.trans ((e0 (n := n))) h)
noncomputable def call {α : Type} (g : T0) (ds : List D) (K : List D→Ω α) : Ω α := match ds with
  | [.ro .u64 l0] => (g l0).bind fun r => K (sg.enc r)
  | _ => none
theorem call_ok {α : Type} {n : Nat} : COK Tryd.prog HW 50 (call (α := α) (f n)) := fun _ _ _ h => by
  unfold call at h; split at h
  · exact cok h fun _ => ok
  · cases h
end nat_Trim
/-! ### nat_FromUint: function 51 -/
namespace nat_FromUint
noncomputable def b0 (a0 : Int) : Ω (Λ) := (if a0 = 0 then some ([] : Λ) else some [a0])
noncomputable def f (a0 : Int) : Ω (Λ) := b0 a0
noncomputable def sg : Sig (Λ) := s1 (sRow .u64)
noncomputable def code : Code := (Tryd.f51.body).getD .skip
noncomputable def cfg : Cfg (Λ) := { T := tys, call := noCall }
noncomputable def cuts : List (Nat × List (Nat × Want)) := []
theorem e0 {n J a0} : afun cfg J cuts n code Tryd.f51.results.toList [false] [.int .u64 a0] sg.out = b0 a0 := by kernel_rfl
theorem ok {a0 r} (h : f a0 = some r) : CallD Tryd.prog HW 51 [.int .u64 a0] (sg.enc r) :=
  fun_some hwS Tryd.func51 (by kernel_rfl) (body := code) (by kernel_rfl) tys_ok (c := cfg) noCall_ok noW_ok (by kernel_rfl) (by kernel_rfl) (Nat.le_of_ble_eq_true (by kernel_rfl)) (Eq.trans ((e0 (n := 0))) h)
noncomputable def call {α : Type} (g : T17) (ds : List D) (K : List D→Ω α) : Ω α := match ds with
  | [.int .u64 a0] => (g a0).bind fun r => K (sg.enc r)
  | _ => none
theorem call_ok {α : Type} : COK Tryd.prog HW 51 (call (α := α) f) := fun _ _ _ h => by
  unfold call at h; split at h
  · exact cok h fun _ => ok
  · cases h
end nat_FromUint
/-! ### nat_ToUint: function 52 -/
namespace nat_ToUint
noncomputable def b0 (c118 : T1) (l0 : Λ) : Ω (Int × Bool) := ((c118 l0).bind fun t1 => (if t1 = 0 then some (0, true) else (if t1 = 1 then (if 0 < (ln l0) then some (rd l0 0, true) else none) else some (0, false))))
noncomputable def f (n : Nat) (l0 : Λ) : Ω (Int × Bool) := b0 (nat_size.f n) l0
noncomputable def sg : Sig (Int × Bool) := s2 (sInt .u64) (s1 (sBool))
noncomputable def code : Code := (Tryd.f52.body).getD .skip
noncomputable def cfg (c118 : T1) : Cfg (Int × Bool) := { T := tys, call := orCall 118 (nat_size.call c118) (noCall) }
noncomputable def cuts : List (Nat × List (Nat × Want)) := []
theorem e0 {c118 n J l0} : afun (cfg c118) J cuts n code Tryd.f52.results.toList [false, false] [.ro .u64 l0] sg.out = b0 c118 l0 := by kernel_rfl
theorem ok {n  l0 r} (h : f n l0 = some r) : CallD Tryd.prog HW 52 [.ro .u64 l0] (sg.enc r) :=
  fun_some hwS Tryd.func52 (by kernel_rfl) (body := code) (by kernel_rfl) tys_ok (c := cfg (nat_size.f n)) (orCall_ok (nat_size.call_ok (n := n)) noCall_ok) noW_ok (by kernel_rfl) (by kernel_rfl) (Nat.le_of_ble_eq_true (by kernel_rfl)) (Eq.trans ((e0 (n := n))) h)
noncomputable def call {α : Type} (g : T18) (ds : List D) (K : List D→Ω α) : Ω α := match ds with
  | [.ro .u64 l0] => (g l0).bind fun r => K (sg.enc r)
  | _ => none
theorem call_ok {α : Type} {n : Nat} : COK Tryd.prog HW 52 (call (α := α) (f n)) := fun _ _ _ h => by
  unfold call at h; split at h
  · exact cok h fun _ => ok
  · cases h
end nat_ToUint
/-! ### bits_Len64: function 129 -/
namespace bits_Len64
def f (a0 : Int) : Ω (Int) := if 0 ≤ a0 ∧ a0 ≤ 18446744073709551615 then some (Lib.bitLen a0.toNat : Nat) else none
def sg : Sig (Int) := s1 (sInt .i64)
theorem ok {a0 : Int} {r : Int} (h : f a0 = some r) : CallD Tryd.prog HW 129 [.int .u64 a0] (sg.enc r) := by
  unfold f at h
  split at h
  · rename_i hh
    obtain rfl := Option.some.inj h
    refine calld_scal rfl rfl fun w _ => .inl ⟨_, Tryd.func129, by kernel_rfl, by kernel_rfl, (Go.Proofs.YtlnfgcnagfdliaaDoorG.len64 a0 w hh.1 hh.2).mono ?_⟩
    rintro e w' ⟨rfl, rfl⟩
    exact ⟨_, rfl, rfl, rfl⟩
  · cases h
noncomputable def call {α : Type} (g : T7) (ds : List D) (K : List D→Ω α) : Ω α := match ds with
  | [.int .u64 a0] => (g a0).bind fun r => K (sg.enc r)
  | _ => none
theorem call_ok {α : Type} : COK Tryd.prog HW 129 (call (α := α) f) := fun _ _ _ h => by
  unfold call at h; split at h
  · exact cok h fun _ => ok
  · cases h
end bits_Len64
/-! ### nat_BitLen: function 53 -/
namespace nat_BitLen
noncomputable def b0 (c118 : T1) (c129 : T7) (l0 : Λ) : Ω (Int) := ((c118 l0).bind fun t1 => (if t1 = 0 then some 0 else (if 0 ≤ (wrap64 (t1 - 1)) then (if (wrap64 (t1 - 1)) < (ln l0) then ((c129 (rd l0 (wrap64 (t1 - 1)))).bind fun t2 => some (wrap64 ((wrap64 (64 * (wrap64 (t1 - 1)))) + t2))) else none) else none)))
noncomputable def f (n : Nat) (l0 : Λ) : Ω (Int) := b0 (nat_size.f n) bits_Len64.f l0
noncomputable def sg : Sig (Int) := s1 (sInt .i64)
noncomputable def code : Code := (Tryd.f53.body).getD .skip
noncomputable def cfg (c118 : T1) (c129 : T7) : Cfg (Int) := { T := tys, call := orCall 118 (nat_size.call c118) (orCall 129 (bits_Len64.call c129) (noCall)) }
noncomputable def cuts : List (Nat × List (Nat × Want)) := []
theorem e0 {c118 c129 n J l0} : afun (cfg c118 c129) J cuts n code Tryd.f53.results.toList [false] [.ro .u64 l0] sg.out = b0 c118 c129 l0 := by kernel_rfl
theorem ok {n  l0 r} (h : f n l0 = some r) : CallD Tryd.prog HW 53 [.ro .u64 l0] (sg.enc r) :=
  fun_some hwS Tryd.func53 (by kernel_rfl) (body := code) (by kernel_rfl) tys_ok (c := cfg (nat_size.f n) bits_Len64.f) (orCall_ok (nat_size.call_ok (n := n)) (orCall_ok bits_Len64.call_ok noCall_ok)) noW_ok (by kernel_rfl) (by kernel_rfl) (Nat.le_of_ble_eq_true (by kernel_rfl)) (Eq.trans ((e0 (n := n))) h)
noncomputable def call {α : Type} (g : T1) (ds : List D) (K : List D→Ω α) : Ω α := match ds with
  | [.ro .u64 l0] => (g l0).bind fun r => K (sg.enc r)
  | _ => none
theorem call_ok {α : Type} {n : Nat} : COK Tryd.prog HW 53 (call (α := α) (f n)) := fun _ _ _ h => by
  unfold call at h; split at h
  · exact cok h fun _ => ok
  · cases h
end nat_BitLen
/-! ### nat_Bit: function 54 -/
namespace nat_Bit
noncomputable def b0 (l0 : Λ) (a1 : Int) : Ω (Int) := (if a1 < 0 then some 0 else (if (wrap64 (Int.tdiv a1 64)) ≥ (ln l0) then some 0 else (if 0 ≤ (wrap64 (Int.tdiv a1 64)) then (if (wrap64 (Int.tdiv a1 64)) < (ln l0) then (if 0 ≤ (IntKind.u64.wrap (Int.tmod a1 64)) then some (wrap64 (Go.bits .and .u64 (shr .u64 (rd l0 (wrap64 (Int.tdiv a1 64))) (IntKind.u64.wrap (Int.tmod a1 64))) 1)) else none) else none) else none)))
noncomputable def f (l0 : Λ) (a1 : Int) : Ω (Int) := b0 l0 a1
noncomputable def sg : Sig (Int) := s1 (sInt .i64)
noncomputable def code : Code := (Tryd.f54.body).getD .skip
noncomputable def cfg : Cfg (Int) := { T := tys, call := noCall }
noncomputable def cuts : List (Nat × List (Nat × Want)) := []
theorem e0 {n J l0 a1} : afun cfg J cuts n code Tryd.f54.results.toList [false] [.ro .u64 l0, .int .i64 a1] sg.out = b0 l0 a1 := by kernel_rfl
theorem ok {l0 a1 r} (h : f l0 a1 = some r) : CallD Tryd.prog HW 54 [.ro .u64 l0, .int .i64 a1] (sg.enc r) :=
  fun_some hwS Tryd.func54 (by kernel_rfl) (body := code) (by kernel_rfl) tys_ok (c := cfg) noCall_ok noW_ok (by kernel_rfl) (by kernel_rfl) (Nat.le_of_ble_eq_true (by kernel_rfl)) (Eq.trans ((e0 (n := 0))) h)
noncomputable def call {α : Type} (g : T10) (ds : List D) (K : List D→Ω α) : Ω α := match ds with
  | [.ro .u64 l0, .int .i64 a1] => (g l0 a1).bind fun r => K (sg.enc r)
  | _ => none
theorem call_ok {α : Type} : COK Tryd.prog HW 54 (call (α := α) f) := fun _ _ _ h => by
  unfold call at h; split at h
  · exact cok h fun _ => ok
  · cases h
end nat_Bit
/-! ### bits_TrailingZeros64: function 130 -/
namespace bits_TrailingZeros64
def f (a0 : Int) : Ω (Int) := if 0 ≤ a0 ∧ a0 < 18446744073709551616 then some (Lib.ctz 64 a0.toNat : Nat) else none
def sg : Sig (Int) := s1 (sInt .i64)
set_option maxHeartbeats 1000000 in
theorem core (x k idx : Nat) (w : World) (hx0 : ((x : Int) == 0) = false)
    (key : IntKind.u64.wrap (bits BinOp.and IntKind.u64 (x : Int) (IntKind.u64.wrap (-(x : Int))) * 285870213051353865) / 288230376151711744 = (idx : Int))
    (hi : idx < 64) (hk : k < 64) (hcell : w.cell? ⟨0, idx, none⟩ = some (.int .u8 k)) :
    Calls Tryd.prog 130 #[.int .u64 x] w fun e w' => e = .returned (.int .i64 k) ∧ w' = w := by
  go_enter Tryd.func130, Tryd.ntmps130
  go_wp2_with (simp only [key])
  go_ret
  exact ⟨rfl, rfl⟩
theorem zero (w : World) : Calls Tryd.prog 130 #[.int .u64 0] w fun e w' => e = .returned (.int .i64 64) ∧ w' = w := by
  go_enter Tryd.func130, Tryd.ntmps130
  go_wp2
  go_ret
  exact ⟨rfl, rfl⟩
theorem ok {a0 : Int} {r : Int} (h : f a0 = some r) : CallD Tryd.prog HW 130 [.int .u64 a0] (sg.enc r) := by
  unfold f at h
  split at h
  · rename_i hh
    obtain rfl := Option.some.inj h
    refine calld_scal rfl rfl fun w hw => .inl ⟨_, Tryd.func130, by kernel_rfl, by kernel_rfl, ?_⟩
    obtain ⟨x, rfl⟩ := Int.eq_ofNat_of_zero_le hh.1
    have hx : x < 18446744073709551616 := by omega
    show Calls Tryd.prog 130 #[.int .u64 x] w _
    rw [Int.toNat_natCast]
    by_cases hx0 : x = 0
    · subst hx0
      refine (zero w).mono ?_
      rintro e w' ⟨rfl, rfl⟩
      exact ⟨_, rfl, rfl, rfl⟩
    · obtain ⟨hlow, hk⟩ := Lib.lowest_bit 64 x hx0 hx
      obtain ⟨hi, htab⟩ := Lib.deBruijn64_at _ hk
      have hcell := hw _ hi
      rw [htab] at hcell
      refine (core x _ _ w (by simp; omega) (tz64_key x _ hx hx0 hlow) hi hk hcell).mono ?_
      rintro e w' ⟨rfl, rfl⟩
      exact ⟨_, rfl, rfl, rfl⟩
  · cases h
noncomputable def call {α : Type} (g : T7) (ds : List D) (K : List D→Ω α) : Ω α := match ds with
  | [.int .u64 a0] => (g a0).bind fun r => K (sg.enc r)
  | _ => none
theorem call_ok {α : Type} : COK Tryd.prog HW 130 (call (α := α) f) := fun _ _ _ h => by
  unfold call at h; split at h
  · exact cok h fun _ => ok
  · cases h
end bits_TrailingZeros64
/-! ### nat_Trail: function 55 -/
namespace nat_Trail
noncomputable def b0 (c130 : T7) (k53 : Λ→Int→Int→Ω (Int)) (l0 : Λ) : Ω (Int) := k53 l0 (ln l0) 0
noncomputable def b53 (c130 : T7) (k53 : Λ→Int→Int→Ω (Int)) (x0 : Λ) (x1 x2 : Int) : Ω (Int) := (if x2 < x1 then (if 0 ≤ x2 then (if x2 < (ln x0) then (if ¬ (rd x0 x2) = 0 then ((c130 (rd x0 x2)).bind fun t1 => some (wrap64 ((wrap64 (64 * x2)) + t1))) else k53 x0 x1 (wrap64 (x2 + 1))) else none) else none) else some 0)
noncomputable def l53 (n : Nat) : Nat→Λ→Int→Int→Ω (Int)
  | 0, _, _, _ => none
  | m + 1, x0, x1, x2 => b53 bits_TrailingZeros64.f (l53 n m) x0 x1 x2
noncomputable def f (n : Nat) (l0 : Λ) : Ω (Int) := b0 bits_TrailingZeros64.f (l53 n n) l0
noncomputable def sg : Sig (Int) := s1 (sInt .i64)
noncomputable def code : Code := (Tryd.f55.body).getD .skip
noncomputable def cfg (c130 : T7) : Cfg (Int) := { T := tys, call := orCall 130 (bits_TrailingZeros64.call c130) (noCall) }
noncomputable def cuts : List (Nat × List (Nat × Want)) := [(53, [(5, .keep), (6, .keep), (7, .keep)])]
noncomputable def s53 (x0 : Λ) (x1 x2 : Int) : ASt := ⟨[(5, .ro .u64 x0), (6, .int .i64 x1), (7, .int .i64 x2)], []⟩
noncomputable def A (c130 : T7) (n : Nat) (J : Jt (Int)) (q : Nat) (ms : List Nat) : ASt→Ω (Int) := acont (cfg c130) J cuts n q code 1 ms (aend (cfg c130) Tryd.f55.results.toList [false] sg.out)
theorem e0 {c130 n J l0} : afun (cfg c130) J cuts n code Tryd.f55.results.toList [false] [.ro .u64 l0] sg.out = b0 c130 (fun y0 y1 y2 => J 53 (A c130 n J 53 [n]) (s53 y0 y1 y2)) l0 := by kernel_rfl
theorem e53 {c130 n J m x0 x1 x2} : A c130 n J 53 [m + 1] (s53 x0 x1 x2) = b53 c130 (fun y0 y1 y2 => J 53 (A c130 n J 53 [m]) (s53 y0 y1 y2)) x0 x1 x2 := by kernel_rfl
noncomputable abbrev I (n : Nat) := A bits_TrailingZeros64.f n idJ
theorem q53 (n m) : ∀ x0 x1 x2, I n 53 [m] (s53 x0 x1 x2) = l53 n m x0 x1 x2 := by
  induction m with
  | zero => intros; rfl
  | succ m ih =>
    intros
    exact e53.trans (Eq.trans (cf3 (congrArg (b53 _) (fu3 (ih))) _ _ _) rfl)
theorem ok {n  l0 r} (h : f n l0 = some r) : CallD Tryd.prog HW 55 [.ro .u64 l0] (sg.enc r) :=
  fun_some hwS Tryd.func55 (by kernel_rfl) (body := code) (by kernel_rfl) tys_ok (c := cfg bits_TrailingZeros64.f) (orCall_ok bits_TrailingZeros64.call_ok noCall_ok) noW_ok (by kernel_rfl) (by kernel_rfl) (Nat.le_of_ble_eq_true (by kernel_rfl)) (Eq.trans ((e0 (n := n)).trans (Eq.trans (cf1 (congrArg (b0 _) (fu3 (q53 n n))) _) rfl)) h)
noncomputable def call {α : Type} (g : T1) (ds : List D) (K : List D→Ω α) : Ω α := match ds with
  | [.ro .u64 l0] => (g l0).bind fun r => K (sg.enc r)
  | _ => none
theorem call_ok {α : Type} {n : Nat} : COK Tryd.prog HW 55 (call (α := α) (f n)) := fun _ _ _ h => by
  unfold call at h; split at h
  · exact cok h fun _ => ok
  · cases h
end nat_Trail
/-! ### nat_Cmp: function 56 -/
namespace nat_Cmp
noncomputable def b0 (c118 : T1) (k245 : T28) (l0 l1 : Λ) : Ω (Int) := ((c118 l0).bind fun t1 => ((c118 l1).bind fun t2 => (if ¬ t1 = t2 then (if t1 < t2 then some (-1) else some 1) else k245 l0 l1 (wrap64 (t1 - 1)))))
noncomputable def b245 (c118 : T1) (k245 : T28) (x0 x1 : Λ) (x2 : Int) : Ω (Int) := (if x2 ≥ 0 then (if 0 ≤ x2 then (if x2 < (ln x0) then (if 0 ≤ x2 then (if x2 < (ln x1) then (if ¬ (rd x0 x2) = (rd x1 x2) then (if 0 ≤ x2 then (if x2 < (ln x0) then (if 0 ≤ x2 then (if x2 < (ln x1) then (if (rd x0 x2) < (rd x1 x2) then some (-1) else some 1) else none) else none) else none) else none) else k245 x0 x1 (wrap64 (x2 - 1))) else none) else none) else none) else none) else some 0)
noncomputable def l245 (n : Nat) : Nat→Λ→Λ→Int→Ω (Int)
  | 0, _, _, _ => none
  | m + 1, x0, x1, x2 => b245 (nat_size.f n) (l245 n m) x0 x1 x2
noncomputable def f (n : Nat) (l0 l1 : Λ) : Ω (Int) := b0 (nat_size.f n) (l245 n n) l0 l1
noncomputable def sg : Sig (Int) := s1 (sInt .i64)
noncomputable def code : Code := (Tryd.f56.body).getD .skip
noncomputable def cfg (c118 : T1) : Cfg (Int) := { T := tys, call := orCall 118 (nat_size.call c118) (noCall) }
noncomputable def cuts : List (Nat × List (Nat × Want)) := [(245, [(0, .keep), (1, .keep), (7, .keep)])]
noncomputable def s245 (x0 x1 : Λ) (x2 : Int) : ASt := ⟨[(0, .ro .u64 x0), (1, .ro .u64 x1), (7, .int .i64 x2)], []⟩
noncomputable def A (c118 : T1) (n : Nat) (J : Jt (Int)) (q : Nat) (ms : List Nat) : ASt→Ω (Int) := acont (cfg c118) J cuts n q code 1 ms (aend (cfg c118) Tryd.f56.results.toList [false] sg.out)
theorem e0 {c118 n J l0 l1} : afun (cfg c118) J cuts n code Tryd.f56.results.toList [false] [.ro .u64 l0, .ro .u64 l1] sg.out = b0 c118 (fun y0 y1 y2 => J 245 (A c118 n J 245 [n]) (s245 y0 y1 y2)) l0 l1 := by kernel_rfl
theorem e245 {c118 n J m x0 x1 x2} : A c118 n J 245 [m + 1] (s245 x0 x1 x2) = b245 c118 (fun y0 y1 y2 => J 245 (A c118 n J 245 [m]) (s245 y0 y1 y2)) x0 x1 x2 := by kernel_rfl
noncomputable abbrev I (n : Nat) := A (nat_size.f n) n idJ
theorem q245 (n m) : ∀ x0 x1 x2, I n 245 [m] (s245 x0 x1 x2) = l245 n m x0 x1 x2 := by
  induction m with
  | zero => intros; rfl
  | succ m ih =>
    intros
    exact e245.trans (Eq.trans (cf3 (congrArg (b245 _) (fu3 (ih))) _ _ _) rfl)
theorem ok {n  l0 l1 r} (h : f n l0 l1 = some r) : CallD Tryd.prog HW 56 [.ro .u64 l0, .ro .u64 l1] (sg.enc r) :=
  fun_some hwS Tryd.func56 (by kernel_rfl) (body := code) (by kernel_rfl) tys_ok (c := cfg (nat_size.f n)) (orCall_ok (nat_size.call_ok (n := n)) noCall_ok) noW_ok (by kernel_rfl) (by kernel_rfl) (Nat.le_of_ble_eq_true (by kernel_rfl)) (Eq.trans ((e0 (n := n)).trans (Eq.trans (cf2 (congrArg (b0 _) (fu3 (q245 n n))) _ _) rfl)) h)
noncomputable def call {α : Type} (g : T9) (ds : List D) (K : List D→Ω α) : Ω α := match ds with
  | [.ro .u64 l0, .ro .u64 l1] => (g l0 l1).bind fun r => K (sg.enc r)
  | _ => none
theorem call_ok {α : Type} {n : Nat} : COK Tryd.prog HW 56 (call (α := α) (f n)) := fun _ _ _ h => by
  unfold call at h; split at h
  · exact cok h fun _ => ok
  · cases h
end nat_Cmp
/-! ### bits_Sub64: function 131 -/
namespace bits_Sub64
def f (a0 a1 a2 : Int) : Ω (Int × Int) := if 0 ≤ a0 ∧ 0 ≤ a1 ∧ a1 < 18446744073709551616 ∧ 0 ≤ a2 ∧ a2 ≤ 1 then some ((a0 - a1 - a2) % 18446744073709551616, if a0 < a1 + a2 then 1 else 0) else none
def sg : Sig (Int × Int) := s2 (sInt .u64) (s1 (sInt .u64))
theorem ok {a0 a1 a2 : Int} {r : Int × Int} (h : f a0 a1 a2 = some r) : CallD Tryd.prog HW 131 [.int .u64 a0, .int .u64 a1, .int .u64 a2] (sg.enc r) := by
  unfold f at h
  split at h
  · rename_i hh
    obtain rfl := Option.some.inj h
    exact calld_scal rfl rfl fun w _ => .inr ⟨_, _, run_sub64' Tryd.func131 (by kernel_rfl) (by kernel_rfl) (by kernel_rfl) (by kernel_rfl) a0 a1 a2 hh.1 hh.2.1 hh.2.2.1 hh.2.2.2.1 hh.2.2.2.2 w, rfl, rfl⟩
  · cases h
noncomputable def call {α : Type} (g : T4) (ds : List D) (K : List D→Ω α) : Ω α := match ds with
  | [.int .u64 a0, .int .u64 a1, .int .u64 a2] => (g a0 a1 a2).bind fun r => K (sg.enc r)
  | _ => none
theorem call_ok {α : Type} : COK Tryd.prog HW 131 (call (α := α) f) := fun _ _ _ h => by
  unfold call at h; split at h
  · exact cok h fun _ => ok
  · cases h
end bits_Sub64
/-! ### nat_Sub: function 57 -/
namespace nat_Sub
noncomputable def b0 (c56 : T9) (c117 : T2) (c118 : T1) (c120 : T3) (c131 : T4) (k2037 : T26) (l0 l1 : Λ) : Ω (Λ × Int) := ((c117 l0).bind fun t1 => (if t1 = true then some (([] : Λ), 2) else ((c117 l1).bind fun t2 => (if t2 = true then some (([] : Λ), 2) else ((c56 l0 l1).bind fun t3 => (if t3 < 0 then some (([] : Λ), 10) else ((c118 l0).bind fun t4 => (if 0 ≤ t4 then (if t4 ≤ (ln l0) then ((some (l0.take t4.toNat) : Ω (Λ)).bind fun y5 => ((c118 l1).bind fun t6 => (if 0 ≤ t6 then (if t6 ≤ (ln l1) then ((some (l1.take t6.toNat) : Ω (Λ)).bind fun y7 => (if 0 ≤ (ln y5) then (if (ln y5).toNat ≤ 35184372088832 then k2037 y7 0 0 y5 (ln y5) (List.replicate (ln y5).toNat (0 : Int)) else none) else none)) else none) else none))) else none) else none))))))))
noncomputable def b255 (c56 : T9) (c117 : T2) (c118 : T1) (c120 : T3) (c131 : T4) (x0 : Λ) : Ω (Λ × Int) := ((c120 x0).bind fun t1 => some (t1.1, t1.2))
noncomputable def b2037 (c56 : T9) (c117 : T2) (c118 : T1) (c120 : T3) (c131 : T4) (k255 : T3) (k260711 : Λ→Int→Int→Int→Int→Λ→Int→Λ→Ω (Λ × Int)) (x0 : Λ) (x1 x2 : Int) (x3 : Λ) (x4 : Int) (x5 : Λ) : Ω (Λ × Int) := (if x2 < x4 then (if 0 ≤ x2 then (if x2 < (ln x3) then (if x2 < (ln x0) then (if 0 ≤ x2 then (if x2 < (ln x0) then k260711 x0 x1 x2 (rd x3 x2) (rd x0 x2) x3 x4 x5 else none) else none) else k260711 x0 x1 x2 (rd x3 x2) 0 x3 x4 x5) else none) else none) else k255 x5)
noncomputable def b260711 (c56 : T9) (c117 : T2) (c118 : T1) (c120 : T3) (c131 : T4) (k2037 : T26) (x0 : Λ) (x1 x2 x3 x4 : Int) (x5 : Λ) (x6 : Int) (x7 : Λ) : Ω (Λ × Int) := ((c131 x3 x4 x1).bind fun t1 => (if 0 ≤ x2 then (if x2 < (ln x7) then k2037 x0 t1.2 (wrap64 (x2 + 1)) x5 x6 (x7.set (x2 : Int).toNat t1.1) else none) else none))
noncomputable def l255 (n : Nat) (x0 : Λ) : Ω (Λ × Int) := b255 (nat_Cmp.f n) (nat_big.f n) (nat_size.f n) (nat_cut.f n) bits_Sub64.f x0
noncomputable def l260711 (n : Nat) (k2037 : T26) (x0 : Λ) (x1 x2 x3 x4 : Int) (x5 : Λ) (x6 : Int) (x7 : Λ) : Ω (Λ × Int) := b260711 (nat_Cmp.f n) (nat_big.f n) (nat_size.f n) (nat_cut.f n) bits_Sub64.f k2037 x0 x1 x2 x3 x4 x5 x6 x7
noncomputable def l2037 (n : Nat) : Nat→Λ→Int→Int→Λ→Int→Λ→Ω (Λ × Int)
  | 0, _, _, _, _, _, _ => none
  | m + 1, x0, x1, x2, x3, x4, x5 => b2037 (nat_Cmp.f n) (nat_big.f n) (nat_size.f n) (nat_cut.f n) bits_Sub64.f (l255 n) (l260711 n (l2037 n m)) x0 x1 x2 x3 x4 x5
noncomputable def f (n : Nat) (l0 l1 : Λ) : Ω (Λ × Int) := b0 (nat_Cmp.f n) (nat_big.f n) (nat_size.f n) (nat_cut.f n) bits_Sub64.f (l2037 n n) l0 l1
noncomputable def sg : Sig (Λ × Int) := s2 (sRow .u64) (s1 (sInt .i64))
noncomputable def code : Code := (Tryd.f57.body).getD .skip
noncomputable def cfg (c56 : T9) (c117 : T2) (c118 : T1) (c120 : T3) (c131 : T4) : Cfg (Λ × Int) := { T := tys, call := orCall 56 (nat_Cmp.call c56) (orCall 117 (nat_big.call c117) (orCall 118 (nat_size.call c118) (orCall 120 (nat_cut.call c120) (orCall 131 (bits_Sub64.call c131) (noCall))))) }
noncomputable def cuts : List (Nat × List (Nat × Want)) := [(255, [(6, .keep)]), (2037, [(1, .keep), (6, .keep), (7, .keep), (32, .keep), (33, .keep), (34, .keep)]), (260711, [(1, .keep), (6, .keep), (7, .keep), (8, .keep), (9, .keep), (10, .keep), (32, .keep), (33, .keep), (34, .keep)])]
noncomputable def s255 (x0 : Λ) : ASt := ⟨[(6, .own 0)], [.ints 25 .u64 x0]⟩
noncomputable def s2037 (x0 : Λ) (x1 x2 : Int) (x3 : Λ) (x4 : Int) (x5 : Λ) : ASt := ⟨[(1, .ro .u64 x0), (6, .own 0), (7, .int .u64 x1), (32, .ro .u64 x3), (33, .int .i64 x4), (34, .int .i64 x2)], [.ints 25 .u64 x5]⟩
noncomputable def s260711 (x0 : Λ) (x1 x2 x3 x4 : Int) (x5 : Λ) (x6 : Int) (x7 : Λ) : ASt := ⟨[(1, .ro .u64 x0), (6, .own 0), (7, .int .u64 x1), (8, .int .i64 x2), (9, .int .u64 x3), (10, .int .u64 x4), (32, .ro .u64 x5), (33, .int .i64 x6), (34, .int .i64 x2)], [.ints 25 .u64 x7]⟩
noncomputable def A (c56 : T9) (c117 : T2) (c118 : T1) (c120 : T3) (c131 : T4) (n : Nat) (J : Jt (Λ × Int)) (q : Nat) (ms : List Nat) : ASt→Ω (Λ × Int) := acont (cfg c56 c117 c118 c120 c131) J cuts n q code 1 ms (aend (cfg c56 c117 c118 c120 c131) Tryd.f57.results.toList [false, false] sg.out)
theorem e0 {c56 c117 c118 c120 c131 n J l0 l1} : afun (cfg c56 c117 c118 c120 c131) J cuts n code Tryd.f57.results.toList [false, false] [.ro .u64 l0, .ro .u64 l1] sg.out = b0 c56 c117 c118 c120 c131 (fun y0 y1 y2 y3 y4 y5 => J 2037 (A c56 c117 c118 c120 c131 n J 2037 [n]) (s2037 y0 y1 y2 y3 y4 y5)) l0 l1 := by kernel_rfl
theorem e255 {c56 c117 c118 c120 c131 n J x0} : A c56 c117 c118 c120 c131 n J 255 [] (s255 x0) = b255 c56 c117 c118 c120 c131 x0 := by kernel_rfl
theorem e2037 {c56 c117 c118 c120 c131 n J m x0 x1 x2 x3 x4 x5} : A c56 c117 c118 c120 c131 n J 2037 [m + 1] (s2037 x0 x1 x2 x3 x4 x5) = b2037 c56 c117 c118 c120 c131 (fun y0 => J 255 (A c56 c117 c118 c120 c131 n J 255 []) (s255 y0)) (fun y0 y1 y2 y3 y4 y5 y6 y7 => J 260711 (A c56 c117 c118 c120 c131 n J 260711 [m]) (s260711 y0 y1 y2 y3 y4 y5 y6 y7)) x0 x1 x2 x3 x4 x5 := by kernel_rfl
theorem e260711 {c56 c117 c118 c120 c131 n J m2037 x0 x1 x2 x3 x4 x5 x6 x7} : A c56 c117 c118 c120 c131 n J 260711 [m2037] (s260711 x0 x1 x2 x3 x4 x5 x6 x7) = b260711 c56 c117 c118 c120 c131 (fun y0 y1 y2 y3 y4 y5 => J 2037 (A c56 c117 c118 c120 c131 n J 2037 [m2037]) (s2037 y0 y1 y2 y3 y4 y5)) x0 x1 x2 x3 x4 x5 x6 x7 := by kernel_rfl
noncomputable abbrev I (n : Nat) := A (nat_Cmp.f n) (nat_big.f n) (nat_size.f n) (nat_cut.f n) bits_Sub64.f n idJ
theorem q255 (n x0) : I n 255 [] (s255 x0) = l255 n x0 := e255
theorem q260711 (n m2037 x0 x1 x2 x3 x4 x5 x6 x7) : I n 260711 [m2037] (s260711 x0 x1 x2 x3 x4 x5 x6 x7) = l260711 n (fun y0 y1 y2 y3 y4 y5 => I n 2037 [m2037] (s2037 y0 y1 y2 y3 y4 y5)) x0 x1 x2 x3 x4 x5 x6 x7 := e260711
theorem q2037 (n m) : ∀ x0 x1 x2 x3 x4 x5, I n 2037 [m] (s2037 x0 x1 x2 x3 x4 x5) = l2037 n m x0 x1 x2 x3 x4 x5 := by
  induction m with
  | zero => intros; rfl
  | succ m ih =>
    intros
    exact e2037.trans (Eq.trans (cf6 (congr (congrArg (b2037 _ _ _ _ _) (fu1 (q255 n))) ((fu8 (q260711 n m)).trans (by rw [show (fun y0 y1 y2 y3 y4 y5 => I n 2037 [m] (s2037 y0 y1 y2 y3 y4 y5)) = _ from (fu6 (ih))]))) _ _ _ _ _ _) rfl)
theorem ok {n  l0 l1 r} (h : f n l0 l1 = some r) : CallD Tryd.prog HW 57 [.ro .u64 l0, .ro .u64 l1] (sg.enc r) :=
  fun_some hwS Tryd.func57 (by kernel_rfl) (body := code) (by kernel_rfl) tys_ok (c := cfg (nat_Cmp.f n) (nat_big.f n) (nat_size.f n) (nat_cut.f n) bits_Sub64.f) (orCall_ok (nat_Cmp.call_ok (n := n)) (orCall_ok (nat_big.call_ok (n := n)) (orCall_ok (nat_size.call_ok (n := n)) (orCall_ok (nat_cut.call_ok (n := n)) (orCall_ok bits_Sub64.call_ok noCall_ok))))) noW_ok (by kernel_rfl) (by kernel_rfl) (Nat.le_of_ble_eq_true (by kernel_rfl)) (Eq.trans ((e0 (n := n)).trans (Eq.trans (cf2 (congrArg (b0 _ _ _ _ _) (fu6 (q2037 n n))) _ _) rfl)) h)
noncomputable def call {α : Type} (g : T5) (ds : List D) (K : List D→Ω α) : Ω α := match ds with
  | [.ro .u64 l0, .ro .u64 l1] => (g l0 l1).bind fun r => K (sg.enc r)
  | _ => none
theorem call_ok {α : Type} {n : Nat} : COK Tryd.prog HW 57 (call (α := α) (f n)) := fun _ _ _ h => by
  unfold call at h; split at h
  · exact cok h fun _ => ok
  · cases h
end nat_Sub
/-! ### nat_MulAdd: function 58 -/
namespace nat_MulAdd
noncomputable def b0 (c117 : T2) (c118 : T1) (c119 : T4) (c120 : T3) (c121 : T8) (k1013 : T48) (l0 : Λ) (a1 a2 : Int) : Ω (Λ × Int) := ((c117 l0).bind fun t1 => (if t1 = true then some (([] : Λ), 2) else ((c118 l0).bind fun t2 => (if 0 ≤ t2 then (if t2 ≤ (ln l0) then ((some (l0.take t2.toNat) : Ω (Λ)).bind fun y3 => (if 0 ≤ (wrap64 ((ln y3) + 1)) then (if (wrap64 ((ln y3) + 1)).toNat ≤ 35184372088832 then k1013 y3 a1 a2 (ln y3) 0 (List.replicate (wrap64 ((ln y3) + 1)).toNat (0 : Int)) else none) else none)) else none) else none))))
noncomputable def b127 (c117 : T2) (c118 : T1) (c119 : T4) (c120 : T3) (c121 : T8) (x0 : Λ) (x1 : Int) (x2 : Λ) : Ω (Λ × Int) := (if 0 ≤ (ln x0) then (if (ln x0) < (ln x2) then ((c120 (x2.set ((ln x0) : Int).toNat x1)).bind fun t1 => some (t1.1, t1.2)) else none) else none)
noncomputable def b1013 (c117 : T2) (c118 : T1) (c119 : T4) (c120 : T3) (c121 : T8) (k127 : T34) (k1013 : T48) (x0 : Λ) (x1 x2 x3 x4 : Int) (x5 : Λ) : Ω (Λ × Int) := (if x4 < x3 then (if 0 ≤ x4 then (if x4 < (ln x0) then ((c121 (rd x0 x4) x1).bind fun t1 => ((c119 t1.2 x2 0).bind fun t2 => (if 0 ≤ x4 then (if x4 < (ln x5) then k1013 x0 x1 (IntKind.u64.wrap (t1.1 + t2.2)) x3 (wrap64 (x4 + 1)) (x5.set (x4 : Int).toNat t2.1) else none) else none))) else none) else none) else k127 x0 x2 x5)
noncomputable def l127 (n : Nat) (x0 : Λ) (x1 : Int) (x2 : Λ) : Ω (Λ × Int) := b127 (nat_big.f n) (nat_size.f n) bits_Add64.f (nat_cut.f n) bits_Mul64.f x0 x1 x2
noncomputable def l1013 (n : Nat) : Nat→Λ→Int→Int→Int→Int→Λ→Ω (Λ × Int)
  | 0, _, _, _, _, _, _ => none
  | m + 1, x0, x1, x2, x3, x4, x5 => b1013 (nat_big.f n) (nat_size.f n) bits_Add64.f (nat_cut.f n) bits_Mul64.f (l127 n) (l1013 n m) x0 x1 x2 x3 x4 x5
noncomputable def f (n : Nat) (l0 : Λ) (a1 a2 : Int) : Ω (Λ × Int) := b0 (nat_big.f n) (nat_size.f n) bits_Add64.f (nat_cut.f n) bits_Mul64.f (l1013 n n) l0 a1 a2
noncomputable def sg : Sig (Λ × Int) := s2 (sRow .u64) (s1 (sInt .i64))
noncomputable def code : Code := (Tryd.f58.body).getD .skip
noncomputable def cfg (c117 : T2) (c118 : T1) (c119 : T4) (c120 : T3) (c121 : T8) : Cfg (Λ × Int) := { T := tys, call := orCall 117 (nat_big.call c117) (orCall 118 (nat_size.call c118) (orCall 119 (bits_Add64.call c119) (orCall 120 (nat_cut.call c120) (orCall 121 (bits_Mul64.call c121) (noCall))))) }
noncomputable def cuts : List (Nat × List (Nat × Want)) := [(127, [(0, .keep), (8, .keep), (9, .keep)]), (1013, [(0, .keep), (1, .keep), (8, .keep), (9, .keep), (26, .keep), (27, .keep), (28, .keep)])]
noncomputable def s127 (x0 : Λ) (x1 : Int) (x2 : Λ) : ASt := ⟨[(0, .ro .u64 x0), (8, .own 0), (9, .int .u64 x1)], [.ints 25 .u64 x2]⟩
noncomputable def s1013 (x0 : Λ) (x1 x2 x3 x4 : Int) (x5 : Λ) : ASt := ⟨[(0, .ro .u64 x0), (1, .int .u64 x1), (8, .own 0), (9, .int .u64 x2), (26, .ro .u64 x0), (27, .int .i64 x3), (28, .int .i64 x4)], [.ints 25 .u64 x5]⟩
noncomputable def A (c117 : T2) (c118 : T1) (c119 : T4) (c120 : T3) (c121 : T8) (n : Nat) (J : Jt (Λ × Int)) (q : Nat) (ms : List Nat) : ASt→Ω (Λ × Int) := acont (cfg c117 c118 c119 c120 c121) J cuts n q code 1 ms (aend (cfg c117 c118 c119 c120 c121) Tryd.f58.results.toList [false, false] sg.out)
theorem e0 {c117 c118 c119 c120 c121 n J l0 a1 a2} : afun (cfg c117 c118 c119 c120 c121) J cuts n code Tryd.f58.results.toList [false, false] [.ro .u64 l0, .int .u64 a1, .int .u64 a2] sg.out = b0 c117 c118 c119 c120 c121 (fun y0 y1 y2 y3 y4 y5 => J 1013 (A c117 c118 c119 c120 c121 n J 1013 [n]) (s1013 y0 y1 y2 y3 y4 y5)) l0 a1 a2 := by kernel_rfl
theorem e127 {c117 c118 c119 c120 c121 n J x0 x1 x2} : A c117 c118 c119 c120 c121 n J 127 [] (s127 x0 x1 x2) = b127 c117 c118 c119 c120 c121 x0 x1 x2 := by kernel_rfl
theorem e1013 {c117 c118 c119 c120 c121 n J m x0 x1 x2 x3 x4 x5} : A c117 c118 c119 c120 c121 n J 1013 [m + 1] (s1013 x0 x1 x2 x3 x4 x5) = b1013 c117 c118 c119 c120 c121 (fun y0 y1 y2 => J 127 (A c117 c118 c119 c120 c121 n J 127 []) (s127 y0 y1 y2)) (fun y0 y1 y2 y3 y4 y5 => J 1013 (A c117 c118 c119 c120 c121 n J 1013 [m]) (s1013 y0 y1 y2 y3 y4 y5)) x0 x1 x2 x3 x4 x5 := by kernel_rfl
noncomputable abbrev I (n : Nat) := A (nat_big.f n) (nat_size.f n) bits_Add64.f (nat_cut.f n) bits_Mul64.f n idJ
theorem q127 (n x0 x1 x2) : I n 127 [] (s127 x0 x1 x2) = l127 n x0 x1 x2 := e127
theorem q1013 (n m) : ∀ x0 x1 x2 x3 x4 x5, I n 1013 [m] (s1013 x0 x1 x2 x3 x4 x5) = l1013 n m x0 x1 x2 x3 x4 x5 := by
  induction m with
  | zero => intros; rfl
  | succ m ih =>
    intros
    exact e1013.trans (Eq.trans (cf6 (congr (congrArg (b1013 _ _ _ _ _) (fu3 (q127 n))) (fu6 (ih))) _ _ _ _ _ _) rfl)
theorem ok {n  l0 a1 a2 r} (h : f n l0 a1 a2 = some r) : CallD Tryd.prog HW 58 [.ro .u64 l0, .int .u64 a1, .int .u64 a2] (sg.enc r) :=
  fun_some hwS Tryd.func58 (by kernel_rfl) (body := code) (by kernel_rfl) tys_ok (c := cfg (nat_big.f n) (nat_size.f n) bits_Add64.f (nat_cut.f n) bits_Mul64.f) (orCall_ok (nat_big.call_ok (n := n)) (orCall_ok (nat_size.call_ok (n := n)) (orCall_ok bits_Add64.call_ok (orCall_ok (nat_cut.call_ok (n := n)) (orCall_ok bits_Mul64.call_ok noCall_ok))))) noW_ok (by kernel_rfl) (by kernel_rfl) (Nat.le_of_ble_eq_true (by kernel_rfl)) (Eq.trans ((e0 (n := n)).trans (Eq.trans (cf3 (congrArg (b0 _ _ _ _ _) (fu6 (q1013 n n))) _ _ _) rfl)) h)
noncomputable def call {α : Type} (g : T19) (ds : List D) (K : List D→Ω α) : Ω α := match ds with
  | [.ro .u64 l0, .int .u64 a1, .int .u64 a2] => (g l0 a1 a2).bind fun r => K (sg.enc r)
  | _ => none
theorem call_ok {α : Type} {n : Nat} : COK Tryd.prog HW 58 (call (α := α) (f n)) := fun _ _ _ h => by
  unfold call at h; split at h
  · exact cok h fun _ => ok
  · cases h
end nat_MulAdd
/-! ### bits_LeadingZeros64: function 155 -/
namespace bits_LeadingZeros64
noncomputable def b0 (c129 : T7) (a0 : Int) : Ω (Int) := ((c129 a0).bind fun t1 => some (wrap64 (64 - t1)))
noncomputable def f (a0 : Int) : Ω (Int) := b0 bits_Len64.f a0
noncomputable def sg : Sig (Int) := s1 (sInt .i64)
noncomputable def code : Code := (Tryd.f155.body).getD .skip
noncomputable def cfg (c129 : T7) : Cfg (Int) := { T := tys, call := orCall 129 (bits_Len64.call c129) (noCall) }
noncomputable def cuts : List (Nat × List (Nat × Want)) := []
theorem e0 {c129 n J a0} : afun (cfg c129) J cuts n code Tryd.f155.results.toList [false] [.int .u64 a0] sg.out = b0 c129 a0 := by kernel_rfl
theorem ok {a0 r} (h : f a0 = some r) : CallD Tryd.prog HW 155 [.int .u64 a0] (sg.enc r) :=
  fun_some hwS Tryd.func155 (by kernel_rfl) (body := code) (by kernel_rfl) tys_ok (c := cfg bits_Len64.f) (orCall_ok bits_Len64.call_ok noCall_ok) noW_ok (by kernel_rfl) (by kernel_rfl) (Nat.le_of_ble_eq_true (by kernel_rfl)) (Eq.trans ((e0 (n := 0))) h)
noncomputable def call {α : Type} (g : T7) (ds : List D) (K : List D→Ω α) : Ω α := match ds with
  | [.int .u64 a0] => (g a0).bind fun r => K (sg.enc r)
  | _ => none
theorem call_ok {α : Type} : COK Tryd.prog HW 155 (call (α := α) f) := fun _ _ _ h => by
  unfold call at h; split at h
  · exact cok h fun _ => ok
  · cases h
end bits_LeadingZeros64
/-! ### bits_Div64: function 132 -/
namespace bits_Div64
noncomputable def b0 (c155 : T7) (k262137 : T16) (a0 a1 a2 : Int) : Ω (Int × Int) := (if a2 = 0 then none else (if a2 ≤ a0 then none else (if a0 = 0 then (if a2 = 0 then none else (if a2 = 0 then none else some (IntKind.u64.wrap (Int.tdiv a1 a2), Int.tmod a1 a2))) else ((c155 a2).bind fun t1 => (if 0 ≤ (IntKind.u64.wrap t1) then (if 0 ≤ (IntKind.u64.wrap t1) then (if 0 ≤ (IntKind.u64.wrap (64 - (IntKind.u64.wrap t1))) then (if 0 ≤ (IntKind.u64.wrap t1) then (if ((shl .u64 a2 (IntKind.u64.wrap t1)) / 4294967296) = 0 then none else k262137 (shl .u64 a2 (IntKind.u64.wrap t1)) (IntKind.u64.wrap t1) ((shl .u64 a2 (IntKind.u64.wrap t1)) / 4294967296) (Go.bits .and .u64 (shl .u64 a2 (IntKind.u64.wrap t1)) 4294967295) (Go.bits .or .u64 (shl .u64 a0 (IntKind.u64.wrap t1)) (shr .u64 a1 (IntKind.u64.wrap (64 - (IntKind.u64.wrap t1))))) ((shl .u64 a1 (IntKind.u64.wrap t1)) / 4294967296) (Go.bits .and .u64 (shl .u64 a1 (IntKind.u64.wrap t1)) 4294967295) (IntKind.u64.wrap (Int.tdiv (Go.bits .or .u64 (shl .u64 a0 (IntKind.u64.wrap t1)) (shr .u64 a1 (IntKind.u64.wrap (64 - (IntKind.u64.wrap t1))))) ((shl .u64 a2 (IntKind.u64.wrap t1)) / 4294967296))) (IntKind.u64.wrap ((Go.bits .or .u64 (shl .u64 a0 (IntKind.u64.wrap t1)) (shr .u64 a1 (IntKind.u64.wrap (64 - (IntKind.u64.wrap t1))))) - (IntKind.u64.wrap ((IntKind.u64.wrap (Int.tdiv (Go.bits .or .u64 (shl .u64 a0 (IntKind.u64.wrap t1)) (shr .u64 a1 (IntKind.u64.wrap (64 - (IntKind.u64.wrap t1))))) ((shl .u64 a2 (IntKind.u64.wrap t1)) / 4294967296))) * ((shl .u64 a2 (IntKind.u64.wrap t1)) / 4294967296)))))) else none) else none) else none) else none)))))
noncomputable def b65535 (c155 : T7) (k4194297 : T16) (x0 x1 x2 x3 x4 x5 x6 x7 : Int) : Ω (Int × Int) := (if x2 = 0 then none else k4194297 x0 x1 x2 x3 x6 x7 (IntKind.u64.wrap ((IntKind.u64.wrap ((IntKind.u64.wrap ((IntKind.u64.wrap (x4 * 4294967296)) + x5)) - (IntKind.u64.wrap (x7 * x0)))) - (IntKind.u64.wrap ((IntKind.u64.wrap (Int.tdiv (IntKind.u64.wrap ((IntKind.u64.wrap ((IntKind.u64.wrap (x4 * 4294967296)) + x5)) - (IntKind.u64.wrap (x7 * x0)))) x2)) * x2)))) (IntKind.u64.wrap ((IntKind.u64.wrap ((IntKind.u64.wrap (x4 * 4294967296)) + x5)) - (IntKind.u64.wrap (x7 * x0)))) (IntKind.u64.wrap (Int.tdiv (IntKind.u64.wrap ((IntKind.u64.wrap ((IntKind.u64.wrap (x4 * 4294967296)) + x5)) - (IntKind.u64.wrap (x7 * x0)))) x2)))
noncomputable def b262137 (c155 : T7) (k65535 : T49) (k524273 : T16) (x0 x1 x2 x3 x4 x5 x6 x7 x8 : Int) : Ω (Int × Int) := (if x7 ≥ 4294967296 then k524273 x0 x1 x2 x3 x4 x5 x6 x7 x8 else (if (IntKind.u64.wrap (x7 * x3)) > (IntKind.u64.wrap ((IntKind.u64.wrap (4294967296 * x8)) + x5)) then k524273 x0 x1 x2 x3 x4 x5 x6 x7 x8 else k65535 x0 x1 x2 x3 x4 x5 x6 x7))
noncomputable def b524273 (c155 : T7) (k65535 : T49) (k262137 : T16) (x0 x1 x2 x3 x4 x5 x6 x7 x8 : Int) : Ω (Int × Int) := (if (IntKind.u64.wrap (x8 + x2)) ≥ 4294967296 then k65535 x0 x1 x2 x3 x4 x5 x6 (IntKind.u64.wrap (x7 - 1)) else k262137 x0 x1 x2 x3 x4 x5 x6 (IntKind.u64.wrap (x7 - 1)) (IntKind.u64.wrap (x8 + x2)))
noncomputable def b1048575 (c155 : T7) (x0 x1 x2 x3 x4 x5 : Int) : Ω (Int × Int) := (if 0 ≤ x1 then some (IntKind.u64.wrap ((IntKind.u64.wrap (x3 * 4294967296)) + x5), shr .u64 (IntKind.u64.wrap ((IntKind.u64.wrap ((IntKind.u64.wrap (x4 * 4294967296)) + x2)) - (IntKind.u64.wrap (x5 * x0)))) x1) else none)
noncomputable def b4194297 (c155 : T7) (k1048575 : T50) (k8388593 : T16) (x0 x1 x2 x3 x4 x5 x6 x7 x8 : Int) : Ω (Int × Int) := (if x8 ≥ 4294967296 then k8388593 x0 x1 x2 x3 x4 x5 x6 x7 x8 else (if (IntKind.u64.wrap (x8 * x3)) > (IntKind.u64.wrap ((IntKind.u64.wrap (4294967296 * x6)) + x4)) then k8388593 x0 x1 x2 x3 x4 x5 x6 x7 x8 else k1048575 x0 x1 x4 x5 x7 x8))
noncomputable def b8388593 (c155 : T7) (k1048575 : T50) (k4194297 : T16) (x0 x1 x2 x3 x4 x5 x6 x7 x8 : Int) : Ω (Int × Int) := (if (IntKind.u64.wrap (x6 + x2)) ≥ 4294967296 then k1048575 x0 x1 x4 x5 x7 (IntKind.u64.wrap (x8 - 1)) else k4194297 x0 x1 x2 x3 x4 x5 (IntKind.u64.wrap (x6 + x2)) x7 (IntKind.u64.wrap (x8 - 1)))
noncomputable def l1048575 (n : Nat) (x0 x1 x2 x3 x4 x5 : Int) : Ω (Int × Int) := b1048575 bits_LeadingZeros64.f x0 x1 x2 x3 x4 x5
noncomputable def l8388593 (n : Nat) (k4194297 : T16) (x0 x1 x2 x3 x4 x5 x6 x7 x8 : Int) : Ω (Int × Int) := b8388593 bits_LeadingZeros64.f (l1048575 n) k4194297 x0 x1 x2 x3 x4 x5 x6 x7 x8
noncomputable def l4194297 (n : Nat) : Nat→Int→Int→Int→Int→Int→Int→Int→Int→Int→Ω (Int × Int)
  | 0, _, _, _, _, _, _, _, _, _ => none
  | m + 1, x0, x1, x2, x3, x4, x5, x6, x7, x8 => b4194297 bits_LeadingZeros64.f (l1048575 n) (l8388593 n (l4194297 n m)) x0 x1 x2 x3 x4 x5 x6 x7 x8
noncomputable def l65535 (n : Nat) (x0 x1 x2 x3 x4 x5 x6 x7 : Int) : Ω (Int × Int) := b65535 bits_LeadingZeros64.f (l4194297 n n) x0 x1 x2 x3 x4 x5 x6 x7
noncomputable def l524273 (n : Nat) (k262137 : T16) (x0 x1 x2 x3 x4 x5 x6 x7 x8 : Int) : Ω (Int × Int) := b524273 bits_LeadingZeros64.f (l65535 n) k262137 x0 x1 x2 x3 x4 x5 x6 x7 x8
noncomputable def l262137 (n : Nat) : Nat→Int→Int→Int→Int→Int→Int→Int→Int→Int→Ω (Int × Int)
  | 0, _, _, _, _, _, _, _, _, _ => none
  | m + 1, x0, x1, x2, x3, x4, x5, x6, x7, x8 => b262137 bits_LeadingZeros64.f (l65535 n) (l524273 n (l262137 n m)) x0 x1 x2 x3 x4 x5 x6 x7 x8
noncomputable def f (n : Nat) (a0 a1 a2 : Int) : Ω (Int × Int) := b0 bits_LeadingZeros64.f (l262137 n n) a0 a1 a2
noncomputable def sg : Sig (Int × Int) := s2 (sInt .u64) (s1 (sInt .u64))
noncomputable def code : Code := (Tryd.f132.body).getD .skip
noncomputable def cfg (c155 : T7) : Cfg (Int × Int) := { T := tys, call := orCall 155 (bits_LeadingZeros64.call c155) (noCall) }
noncomputable def cuts : List (Nat × List (Nat × Want)) := [(65535, [(2, .keep), (8, .keep), (9, .keep), (10, .keep), (11, .keep), (13, .keep), (14, .keep), (15, .keep)]), (262137, [(2, .keep), (8, .keep), (9, .keep), (10, .keep), (11, .keep), (13, .keep), (14, .keep), (15, .keep), (16, .keep)]), (524273, [(2, .keep), (8, .keep), (9, .keep), (10, .keep), (11, .keep), (13, .keep), (14, .keep), (15, .keep), (16, .keep)]), (1048575, [(2, .keep), (8, .keep), (14, .keep), (15, .keep), (17, .keep), (18, .keep)]), (4194297, [(2, .keep), (8, .keep), (9, .keep), (10, .keep), (14, .keep), (15, .keep), (16, .keep), (17, .keep), (18, .keep)]), (8388593, [(2, .keep), (8, .keep), (9, .keep), (10, .keep), (14, .keep), (15, .keep), (16, .keep), (17, .keep), (18, .keep)])]
noncomputable def s65535 (x0 x1 x2 x3 x4 x5 x6 x7 : Int) : ASt := ⟨[(2, .int .u64 x0), (8, .int .u64 x1), (9, .int .u64 x2), (10, .int .u64 x3), (11, .int .u64 x4), (13, .int .u64 x5), (14, .int .u64 x6), (15, .int .u64 x7)], []⟩
noncomputable def s262137 (x0 x1 x2 x3 x4 x5 x6 x7 x8 : Int) : ASt := ⟨[(2, .int .u64 x0), (8, .int .u64 x1), (9, .int .u64 x2), (10, .int .u64 x3), (11, .int .u64 x4), (13, .int .u64 x5), (14, .int .u64 x6), (15, .int .u64 x7), (16, .int .u64 x8)], []⟩
noncomputable def s524273 (x0 x1 x2 x3 x4 x5 x6 x7 x8 : Int) : ASt := ⟨[(2, .int .u64 x0), (8, .int .u64 x1), (9, .int .u64 x2), (10, .int .u64 x3), (11, .int .u64 x4), (13, .int .u64 x5), (14, .int .u64 x6), (15, .int .u64 x7), (16, .int .u64 x8)], []⟩
noncomputable def s1048575 (x0 x1 x2 x3 x4 x5 : Int) : ASt := ⟨[(2, .int .u64 x0), (8, .int .u64 x1), (14, .int .u64 x2), (15, .int .u64 x3), (17, .int .u64 x4), (18, .int .u64 x5)], []⟩
noncomputable def s4194297 (x0 x1 x2 x3 x4 x5 x6 x7 x8 : Int) : ASt := ⟨[(2, .int .u64 x0), (8, .int .u64 x1), (9, .int .u64 x2), (10, .int .u64 x3), (14, .int .u64 x4), (15, .int .u64 x5), (16, .int .u64 x6), (17, .int .u64 x7), (18, .int .u64 x8)], []⟩
noncomputable def s8388593 (x0 x1 x2 x3 x4 x5 x6 x7 x8 : Int) : ASt := ⟨[(2, .int .u64 x0), (8, .int .u64 x1), (9, .int .u64 x2), (10, .int .u64 x3), (14, .int .u64 x4), (15, .int .u64 x5), (16, .int .u64 x6), (17, .int .u64 x7), (18, .int .u64 x8)], []⟩
noncomputable def A (c155 : T7) (n : Nat) (J : Jt (Int × Int)) (q : Nat) (ms : List Nat) : ASt→Ω (Int × Int) := acont (cfg c155) J cuts n q code 1 ms (aend (cfg c155) Tryd.f132.results.toList [false, false] sg.out)
theorem e0 {c155 n J a0 a1 a2} : afun (cfg c155) J cuts n code Tryd.f132.results.toList [false, false] [.int .u64 a0, .int .u64 a1, .int .u64 a2] sg.out = b0 c155 (fun y0 y1 y2 y3 y4 y5 y6 y7 y8 => J 262137 (A c155 n J 262137 [n]) (s262137 y0 y1 y2 y3 y4 y5 y6 y7 y8)) a0 a1 a2 := by kernel_rfl
theorem e65535 {c155 n J x0 x1 x2 x3 x4 x5 x6 x7} : A c155 n J 65535 [] (s65535 x0 x1 x2 x3 x4 x5 x6 x7) = b65535 c155 (fun y0 y1 y2 y3 y4 y5 y6 y7 y8 => J 4194297 (A c155 n J 4194297 [n]) (s4194297 y0 y1 y2 y3 y4 y5 y6 y7 y8)) x0 x1 x2 x3 x4 x5 x6 x7 := by kernel_rfl
theorem e262137 {c155 n J m x0 x1 x2 x3 x4 x5 x6 x7 x8} : A c155 n J 262137 [m + 1] (s262137 x0 x1 x2 x3 x4 x5 x6 x7 x8) = b262137 c155 (fun y0 y1 y2 y3 y4 y5 y6 y7 => J 65535 (A c155 n J 65535 []) (s65535 y0 y1 y2 y3 y4 y5 y6 y7)) (fun y0 y1 y2 y3 y4 y5 y6 y7 y8 => J 524273 (A c155 n J 524273 [m]) (s524273 y0 y1 y2 y3 y4 y5 y6 y7 y8)) x0 x1 x2 x3 x4 x5 x6 x7 x8 := by kernel_rfl
theorem e524273 {c155 n J m262137 x0 x1 x2 x3 x4 x5 x6 x7 x8} : A c155 n J 524273 [m262137] (s524273 x0 x1 x2 x3 x4 x5 x6 x7 x8) = b524273 c155 (fun y0 y1 y2 y3 y4 y5 y6 y7 => J 65535 (A c155 n J 65535 []) (s65535 y0 y1 y2 y3 y4 y5 y6 y7)) (fun y0 y1 y2 y3 y4 y5 y6 y7 y8 => J 262137 (A c155 n J 262137 [m262137]) (s262137 y0 y1 y2 y3 y4 y5 y6 y7 y8)) x0 x1 x2 x3 x4 x5 x6 x7 x8 := by kernel_rfl
theorem e1048575 {c155 n J x0 x1 x2 x3 x4 x5} : A c155 n J 1048575 [] (s1048575 x0 x1 x2 x3 x4 x5) = b1048575 c155 x0 x1 x2 x3 x4 x5 := by kernel_rfl
theorem e4194297 {c155 n J m x0 x1 x2 x3 x4 x5 x6 x7 x8} : A c155 n J 4194297 [m + 1] (s4194297 x0 x1 x2 x3 x4 x5 x6 x7 x8) = b4194297 c155 (fun y0 y1 y2 y3 y4 y5 => J 1048575 (A c155 n J 1048575 []) (s1048575 y0 y1 y2 y3 y4 y5)) (fun y0 y1 y2 y3 y4 y5 y6 y7 y8 => J 8388593 (A c155 n J 8388593 [m]) (s8388593 y0 y1 y2 y3 y4 y5 y6 y7 y8)) x0 x1 x2 x3 x4 x5 x6 x7 x8 := by kernel_rfl
theorem e8388593 {c155 n J m4194297 x0 x1 x2 x3 x4 x5 x6 x7 x8} : A c155 n J 8388593 [m4194297] (s8388593 x0 x1 x2 x3 x4 x5 x6 x7 x8) = b8388593 c155 (fun y0 y1 y2 y3 y4 y5 => J 1048575 (A c155 n J 1048575 []) (s1048575 y0 y1 y2 y3 y4 y5)) (fun y0 y1 y2 y3 y4 y5 y6 y7 y8 => J 4194297 (A c155 n J 4194297 [m4194297]) (s4194297 y0 y1 y2 y3 y4 y5 y6 y7 y8)) x0 x1 x2 x3 x4 x5 x6 x7 x8 := by kernel_rfl
noncomputable abbrev I (n : Nat) := A bits_LeadingZeros64.f n idJ
theorem q1048575 (n x0 x1 x2 x3 x4 x5) : I n 1048575 [] (s1048575 x0 x1 x2 x3 x4 x5) = l1048575 n x0 x1 x2 x3 x4 x5 := e1048575
theorem q8388593 (n m4194297 x0 x1 x2 x3 x4 x5 x6 x7 x8) : I n 8388593 [m4194297] (s8388593 x0 x1 x2 x3 x4 x5 x6 x7 x8) = l8388593 n (fun y0 y1 y2 y3 y4 y5 y6 y7 y8 => I n 4194297 [m4194297] (s4194297 y0 y1 y2 y3 y4 y5 y6 y7 y8)) x0 x1 x2 x3 x4 x5 x6 x7 x8 := e8388593.trans (Eq.trans (cf9 (congr (congrArg (b8388593 _) (fu6 (q1048575 n))) rfl) _ _ _ _ _ _ _ _ _) rfl)
theorem q4194297 (n m) : ∀ x0 x1 x2 x3 x4 x5 x6 x7 x8, I n 4194297 [m] (s4194297 x0 x1 x2 x3 x4 x5 x6 x7 x8) = l4194297 n m x0 x1 x2 x3 x4 x5 x6 x7 x8 := by
  induction m with
  | zero => intros; rfl
  | succ m ih =>
    intros
    exact e4194297.trans (Eq.trans (cf9 (congr (congrArg (b4194297 _) (fu6 (q1048575 n))) ((fu9 (q8388593 n m)).trans (by rw [show (fun y0 y1 y2 y3 y4 y5 y6 y7 y8 => I n 4194297 [m] (s4194297 y0 y1 y2 y3 y4 y5 y6 y7 y8)) = _ from (fu9 (ih))]))) _ _ _ _ _ _ _ _ _) rfl)
theorem q65535 (n x0 x1 x2 x3 x4 x5 x6 x7) : I n 65535 [] (s65535 x0 x1 x2 x3 x4 x5 x6 x7) = l65535 n x0 x1 x2 x3 x4 x5 x6 x7 := e65535.trans (Eq.trans (cf8 (congrArg (b65535 _) (fu9 (q4194297 n n))) _ _ _ _ _ _ _ _) rfl)
theorem q524273 (n m262137 x0 x1 x2 x3 x4 x5 x6 x7 x8) : I n 524273 [m262137] (s524273 x0 x1 x2 x3 x4 x5 x6 x7 x8) = l524273 n (fun y0 y1 y2 y3 y4 y5 y6 y7 y8 => I n 262137 [m262137] (s262137 y0 y1 y2 y3 y4 y5 y6 y7 y8)) x0 x1 x2 x3 x4 x5 x6 x7 x8 := e524273.trans (Eq.trans (cf9 (congr (congrArg (b524273 _) (fu8 (q65535 n))) rfl) _ _ _ _ _ _ _ _ _) rfl)
theorem q262137 (n m) : ∀ x0 x1 x2 x3 x4 x5 x6 x7 x8, I n 262137 [m] (s262137 x0 x1 x2 x3 x4 x5 x6 x7 x8) = l262137 n m x0 x1 x2 x3 x4 x5 x6 x7 x8 := by
  induction m with
  | zero => intros; rfl
  | succ m ih =>
    intros
    exact e262137.trans (Eq.trans (cf9 (congr (congrArg (b262137 _) (fu8 (q65535 n))) ((fu9 (q524273 n m)).trans (by rw [show (fun y0 y1 y2 y3 y4 y5 y6 y7 y8 => I n 262137 [m] (s262137 y0 y1 y2 y3 y4 y5 y6 y7 y8)) = _ from (fu9 (ih))]))) _ _ _ _ _ _ _ _ _) rfl)
theorem ok {n  a0 a1 a2 r} (h : f n a0 a1 a2 = some r) : CallD Tryd.prog HW 132 [.int .u64 a0, .int .u64 a1, .int .u64 a2] (sg.enc r) :=
  fun_some hwS Tryd.func132 (by kernel_rfl) (body := code) (by kernel_rfl) tys_ok (c := cfg bits_LeadingZeros64.f) (orCall_ok bits_LeadingZeros64.call_ok noCall_ok) noW_ok (by kernel_rfl) (by kernel_rfl) (Nat.le_of_ble_eq_true (by kernel_rfl)) (Eq.trans ((e0 (n := n)).trans (Eq.trans (cf3 (congrArg (b0 _) (fu9 (q262137 n n))) _ _ _) rfl)) h)
noncomputable def call {α : Type} (g : T4) (ds : List D) (K : List D→Ω α) : Ω α := match ds with
  | [.int .u64 a0, .int .u64 a1, .int .u64 a2] => (g a0 a1 a2).bind fun r => K (sg.enc r)
  | _ => none
theorem call_ok {α : Type} {n : Nat} : COK Tryd.prog HW 132 (call (α := α) (f n)) := fun _ _ _ h => by
  unfold call at h; split at h
  · exact cok h fun _ => ok
  · cases h
end bits_Div64
/-! ### nat_DivSmall: function 59 -/
namespace nat_DivSmall
noncomputable def b0 (c117 : T2) (c118 : T1) (c120 : T3) (c132 : T4) (k2037 : T23) (l0 : Λ) (a1 : Int) : Ω (Λ × Int × Int) := ((c117 l0).bind fun t1 => (if t1 = true then some (([] : Λ), 0, 2) else (if a1 = 0 then some (([] : Λ), 0, 4) else ((c118 l0).bind fun t2 => (if 0 ≤ t2 then (if t2 ≤ (ln l0) then ((some (l0.take t2.toNat) : Ω (Λ)).bind fun y3 => (if 0 ≤ (ln y3) then (if (ln y3).toNat ≤ 35184372088832 then k2037 y3 a1 0 (wrap64 ((ln y3) - 1)) (List.replicate (ln y3).toNat (0 : Int)) else none) else none)) else none) else none)))))
noncomputable def b255 (c117 : T2) (c118 : T1) (c120 : T3) (c132 : T4) (x0 : Int) (x1 : Λ) : Ω (Λ × Int × Int) := ((c120 x1).bind fun t1 => some (t1.1, x0, t1.2))
noncomputable def b2037 (c117 : T2) (c118 : T1) (c120 : T3) (c132 : T4) (k255 : T39) (k2037 : T23) (x0 : Λ) (x1 x2 x3 : Int) (x4 : Λ) : Ω (Λ × Int × Int) := (if x3 ≥ 0 then (if 0 ≤ x3 then (if x3 < (ln x0) then ((c132 x2 (rd x0 x3) x1).bind fun t1 => (if 0 ≤ x3 then (if x3 < (ln x4) then k2037 x0 x1 t1.2 (wrap64 (x3 - 1)) (x4.set (x3 : Int).toNat t1.1) else none) else none)) else none) else none) else k255 x2 x4)
noncomputable def l255 (n : Nat) (x0 : Int) (x1 : Λ) : Ω (Λ × Int × Int) := b255 (nat_big.f n) (nat_size.f n) (nat_cut.f n) (bits_Div64.f n) x0 x1
noncomputable def l2037 (n : Nat) : Nat→Λ→Int→Int→Int→Λ→Ω (Λ × Int × Int)
  | 0, _, _, _, _, _ => none
  | m + 1, x0, x1, x2, x3, x4 => b2037 (nat_big.f n) (nat_size.f n) (nat_cut.f n) (bits_Div64.f n) (l255 n) (l2037 n m) x0 x1 x2 x3 x4
noncomputable def f (n : Nat) (l0 : Λ) (a1 : Int) : Ω (Λ × Int × Int) := b0 (nat_big.f n) (nat_size.f n) (nat_cut.f n) (bits_Div64.f n) (l2037 n n) l0 a1
noncomputable def sg : Sig (Λ × Int × Int) := s2 (sRow .u64) (s2 (sInt .u64) (s1 (sInt .i64)))
noncomputable def code : Code := (Tryd.f59.body).getD .skip
noncomputable def cfg (c117 : T2) (c118 : T1) (c120 : T3) (c132 : T4) : Cfg (Λ × Int × Int) := { T := tys, call := orCall 117 (nat_big.call c117) (orCall 118 (nat_size.call c118) (orCall 120 (nat_cut.call c120) (orCall 132 (bits_Div64.call c132) (noCall)))) }
noncomputable def cuts : List (Nat × List (Nat × Want)) := [(255, [(7, .keep), (8, .keep)]), (2037, [(0, .keep), (1, .keep), (7, .keep), (8, .keep), (9, .keep)])]
noncomputable def s255 (x0 : Int) (x1 : Λ) : ASt := ⟨[(7, .own 0), (8, .int .u64 x0)], [.ints 25 .u64 x1]⟩
noncomputable def s2037 (x0 : Λ) (x1 x2 x3 : Int) (x4 : Λ) : ASt := ⟨[(0, .ro .u64 x0), (1, .int .u64 x1), (7, .own 0), (8, .int .u64 x2), (9, .int .i64 x3)], [.ints 25 .u64 x4]⟩
noncomputable def A (c117 : T2) (c118 : T1) (c120 : T3) (c132 : T4) (n : Nat) (J : Jt (Λ × Int × Int)) (q : Nat) (ms : List Nat) : ASt→Ω (Λ × Int × Int) := acont (cfg c117 c118 c120 c132) J cuts n q code 1 ms (aend (cfg c117 c118 c120 c132) Tryd.f59.results.toList [false, false, false] sg.out)
theorem e0 {c117 c118 c120 c132 n J l0 a1} : afun (cfg c117 c118 c120 c132) J cuts n code Tryd.f59.results.toList [false, false, false] [.ro .u64 l0, .int .u64 a1] sg.out = b0 c117 c118 c120 c132 (fun y0 y1 y2 y3 y4 => J 2037 (A c117 c118 c120 c132 n J 2037 [n]) (s2037 y0 y1 y2 y3 y4)) l0 a1 := by kernel_rfl
theorem e255 {c117 c118 c120 c132 n J x0 x1} : A c117 c118 c120 c132 n J 255 [] (s255 x0 x1) = b255 c117 c118 c120 c132 x0 x1 := by kernel_rfl
theorem e2037 {c117 c118 c120 c132 n J m x0 x1 x2 x3 x4} : A c117 c118 c120 c132 n J 2037 [m + 1] (s2037 x0 x1 x2 x3 x4) = b2037 c117 c118 c120 c132 (fun y0 y1 => J 255 (A c117 c118 c120 c132 n J 255 []) (s255 y0 y1)) (fun y0 y1 y2 y3 y4 => J 2037 (A c117 c118 c120 c132 n J 2037 [m]) (s2037 y0 y1 y2 y3 y4)) x0 x1 x2 x3 x4 := by kernel_rfl
noncomputable abbrev I (n : Nat) := A (nat_big.f n) (nat_size.f n) (nat_cut.f n) (bits_Div64.f n) n idJ
theorem q255 (n x0 x1) : I n 255 [] (s255 x0 x1) = l255 n x0 x1 := e255
theorem q2037 (n m) : ∀ x0 x1 x2 x3 x4, I n 2037 [m] (s2037 x0 x1 x2 x3 x4) = l2037 n m x0 x1 x2 x3 x4 := by
  induction m with
  | zero => intros; rfl
  | succ m ih =>
    intros
    exact e2037.trans (Eq.trans (cf5 (congr (congrArg (b2037 _ _ _ _) (fu2 (q255 n))) (fu5 (ih))) _ _ _ _ _) rfl)
theorem ok {n  l0 a1 r} (h : f n l0 a1 = some r) : CallD Tryd.prog HW 59 [.ro .u64 l0, .int .u64 a1] (sg.enc r) :=
  fun_some hwS Tryd.func59 (by kernel_rfl) (body := code) (by kernel_rfl) tys_ok (c := cfg (nat_big.f n) (nat_size.f n) (nat_cut.f n) (bits_Div64.f n)) (orCall_ok (nat_big.call_ok (n := n)) (orCall_ok (nat_size.call_ok (n := n)) (orCall_ok (nat_cut.call_ok (n := n)) (orCall_ok (bits_Div64.call_ok (n := n)) noCall_ok)))) noW_ok (by kernel_rfl) (by kernel_rfl) (Nat.le_of_ble_eq_true (by kernel_rfl)) (Eq.trans ((e0 (n := n)).trans (Eq.trans (cf2 (congrArg (b0 _ _ _ _) (fu5 (q2037 n n))) _ _) rfl)) h)
noncomputable def call {α : Type} (g : T20) (ds : List D) (K : List D→Ω α) : Ω α := match ds with
  | [.ro .u64 l0, .int .u64 a1] => (g l0 a1).bind fun r => K (sg.enc r)
  | _ => none
theorem call_ok {α : Type} {n : Nat} : COK Tryd.prog HW 59 (call (α := α) (f n)) := fun _ _ _ h => by
  unfold call at h; split at h
  · exact cok h fun _ => ok
  · cases h
end nat_DivSmall
/-! ### nat_Shl: function 60 -/
namespace nat_Shl
noncomputable def b0 (c117 : T2) (c118 : T1) (c120 : T3) (c121 : T8) (k8181 : T51) (l0 : Λ) (a1 : Int) : Ω (Λ × Int) := ((c117 l0).bind fun t1 => (if t1 = true then some (([] : Λ), 2) else (if a1 < 0 then some (([] : Λ), 1) else ((c118 l0).bind fun t2 => (if 0 ≤ t2 then (if t2 ≤ (ln l0) then ((some (l0.take t2.toNat) : Ω (Λ)).bind fun y3 => (if (ln y3) = 0 then some (([] : Λ), 0) else (if a1 > 262144 then some (([] : Λ), 2) else (if 0 ≤ (wrap64 ((wrap64 ((wrap64 (Int.tdiv a1 64)) + (ln y3))) + 1)) then (if (wrap64 ((wrap64 ((wrap64 (Int.tdiv a1 64)) + (ln y3))) + 1)).toNat ≤ 35184372088832 then k8181 (wrap64 (Int.tdiv a1 64)) (IntKind.u64.wrap (Int.tmod a1 64)) y3 (ln y3) 0 (List.replicate (wrap64 ((wrap64 ((wrap64 (Int.tdiv a1 64)) + (ln y3))) + 1)).toNat (0 : Int)) else none) else none)))) else none) else none)))))
noncomputable def b1023 (c117 : T2) (c118 : T1) (c120 : T3) (c121 : T8) (x0 : Λ) : Ω (Λ × Int) := ((c120 x0).bind fun t1 => some (t1.1, t1.2))
noncomputable def b8181 (c117 : T2) (c118 : T1) (c120 : T3) (c121 : T8) (k1023 : T3) (k8181 : T51) (x0 x1 : Int) (x2 : Λ) (x3 x4 : Int) (x5 : Λ) : Ω (Λ × Int) := (if x4 < x3 then (if 0 ≤ x4 then (if x4 < (ln x2) then (if 0 ≤ x1 then ((c121 (rd x2 x4) (shl .u64 1 x1)).bind fun t1 => (if 0 ≤ (wrap64 (x0 + x4)) then (if (wrap64 (x0 + x4)) < (ln x5) then (if 0 ≤ (wrap64 (x0 + x4)) then (if (wrap64 (x0 + x4)) < (ln x5) then (if 0 ≤ (wrap64 ((wrap64 (x0 + x4)) + 1)) then (if (wrap64 ((wrap64 (x0 + x4)) + 1)) < (ln (x5.set (wrap64 (x0 + x4) : Int).toNat (Go.bits .or .u64 (rd x5 (wrap64 (x0 + x4))) t1.2))) then k8181 x0 x1 x2 x3 (wrap64 (x4 + 1)) ((x5.set (wrap64 (x0 + x4) : Int).toNat (Go.bits .or .u64 (rd x5 (wrap64 (x0 + x4))) t1.2)).set (wrap64 ((wrap64 (x0 + x4)) + 1) : Int).toNat t1.1) else none) else none) else none) else none) else none) else none)) else none) else none) else none) else k1023 x5)
noncomputable def l1023 (n : Nat) (x0 : Λ) : Ω (Λ × Int) := b1023 (nat_big.f n) (nat_size.f n) (nat_cut.f n) bits_Mul64.f x0
noncomputable def l8181 (n : Nat) : Nat→Int→Int→Λ→Int→Int→Λ→Ω (Λ × Int)
  | 0, _, _, _, _, _, _ => none
  | m + 1, x0, x1, x2, x3, x4, x5 => b8181 (nat_big.f n) (nat_size.f n) (nat_cut.f n) bits_Mul64.f (l1023 n) (l8181 n m) x0 x1 x2 x3 x4 x5
noncomputable def f (n : Nat) (l0 : Λ) (a1 : Int) : Ω (Λ × Int) := b0 (nat_big.f n) (nat_size.f n) (nat_cut.f n) bits_Mul64.f (l8181 n n) l0 a1
noncomputable def sg : Sig (Λ × Int) := s2 (sRow .u64) (s1 (sInt .i64))
noncomputable def code : Code := (Tryd.f60.body).getD .skip
noncomputable def cfg (c117 : T2) (c118 : T1) (c120 : T3) (c121 : T8) : Cfg (Λ × Int) := { T := tys, call := orCall 117 (nat_big.call c117) (orCall 118 (nat_size.call c118) (orCall 120 (nat_cut.call c120) (orCall 121 (bits_Mul64.call c121) (noCall)))) }
noncomputable def cuts : List (Nat × List (Nat × Want)) := [(1023, [(8, .keep)]), (8181, [(6, .keep), (7, .keep), (8, .keep), (37, .keep), (38, .keep), (39, .keep)])]
noncomputable def s1023 (x0 : Λ) : ASt := ⟨[(8, .own 0)], [.ints 25 .u64 x0]⟩
noncomputable def s8181 (x0 x1 : Int) (x2 : Λ) (x3 x4 : Int) (x5 : Λ) : ASt := ⟨[(6, .int .i64 x0), (7, .int .u64 x1), (8, .own 0), (37, .ro .u64 x2), (38, .int .i64 x3), (39, .int .i64 x4)], [.ints 25 .u64 x5]⟩
noncomputable def A (c117 : T2) (c118 : T1) (c120 : T3) (c121 : T8) (n : Nat) (J : Jt (Λ × Int)) (q : Nat) (ms : List Nat) : ASt→Ω (Λ × Int) := acont (cfg c117 c118 c120 c121) J cuts n q code 1 ms (aend (cfg c117 c118 c120 c121) Tryd.f60.results.toList [false, false] sg.out)
theorem e0 {c117 c118 c120 c121 n J l0 a1} : afun (cfg c117 c118 c120 c121) J cuts n code Tryd.f60.results.toList [false, false] [.ro .u64 l0, .int .i64 a1] sg.out = b0 c117 c118 c120 c121 (fun y0 y1 y2 y3 y4 y5 => J 8181 (A c117 c118 c120 c121 n J 8181 [n]) (s8181 y0 y1 y2 y3 y4 y5)) l0 a1 := by kernel_rfl
theorem e1023 {c117 c118 c120 c121 n J x0} : A c117 c118 c120 c121 n J 1023 [] (s1023 x0) = b1023 c117 c118 c120 c121 x0 := by kernel_rfl
theorem e8181 {c117 c118 c120 c121 n J m x0 x1 x2 x3 x4 x5} : A c117 c118 c120 c121 n J 8181 [m + 1] (s8181 x0 x1 x2 x3 x4 x5) = b8181 c117 c118 c120 c121 (fun y0 => J 1023 (A c117 c118 c120 c121 n J 1023 []) (s1023 y0)) (fun y0 y1 y2 y3 y4 y5 => J 8181 (A c117 c118 c120 c121 n J 8181 [m]) (s8181 y0 y1 y2 y3 y4 y5)) x0 x1 x2 x3 x4 x5 := by kernel_rfl
noncomputable abbrev I (n : Nat) := A (nat_big.f n) (nat_size.f n) (nat_cut.f n) bits_Mul64.f n idJ
theorem q1023 (n x0) : I n 1023 [] (s1023 x0) = l1023 n x0 := e1023
theorem q8181 (n m) : ∀ x0 x1 x2 x3 x4 x5, I n 8181 [m] (s8181 x0 x1 x2 x3 x4 x5) = l8181 n m x0 x1 x2 x3 x4 x5 := by
  induction m with
  | zero => intros; rfl
  | succ m ih =>
    intros
    exact e8181.trans (Eq.trans (cf6 (congr (congrArg (b8181 _ _ _ _) (fu1 (q1023 n))) (fu6 (ih))) _ _ _ _ _ _) rfl)
theorem ok {n  l0 a1 r} (h : f n l0 a1 = some r) : CallD Tryd.prog HW 60 [.ro .u64 l0, .int .i64 a1] (sg.enc r) :=
  fun_some hwS Tryd.func60 (by kernel_rfl) (body := code) (by kernel_rfl) tys_ok (c := cfg (nat_big.f n) (nat_size.f n) (nat_cut.f n) bits_Mul64.f) (orCall_ok (nat_big.call_ok (n := n)) (orCall_ok (nat_size.call_ok (n := n)) (orCall_ok (nat_cut.call_ok (n := n)) (orCall_ok bits_Mul64.call_ok noCall_ok)))) noW_ok (by kernel_rfl) (by kernel_rfl) (Nat.le_of_ble_eq_true (by kernel_rfl)) (Eq.trans ((e0 (n := n)).trans (Eq.trans (cf2 (congrArg (b0 _ _ _ _) (fu6 (q8181 n n))) _ _) rfl)) h)
noncomputable def call {α : Type} (g : T12) (ds : List D) (K : List D→Ω α) : Ω α := match ds with
  | [.ro .u64 l0, .int .i64 a1] => (g l0 a1).bind fun r => K (sg.enc r)
  | _ => none
theorem call_ok {α : Type} {n : Nat} : COK Tryd.prog HW 60 (call (α := α) (f n)) := fun _ _ _ h => by
  unfold call at h; split at h
  · exact cok h fun _ => ok
  · cases h
end nat_Shl
end Go.Proofs.YtlnfgcnagfdliaaDoor.F
